/-
  No cell of these rows narrows 'for every input' (looked for: loops, veiled, ifaces, maps, wideKeys, modest, calm, conditions, laid).
  DERIVED. THE GIVEN ROWS OF THIS SEAT. 4 by the template 'for every input the law returns true; each argument reads behind the call as it read before'; 0 by the template 'total and deterministic' (their statements: YtnjjhhnkanklfaaTotals.lean).
  GIVEN WITH THE SEED: the statements are not yours to turn. If you find one false, say at which input.
  Laid BY PROGRAM, IN A SANDBOX (cutbox-rows.mjs): the forced cells as the released guide's own fill.sh prints them over the translation 3db7e2a67d0cad72… (all of the seat's roots in one cut). By AI agents, Wed Nov 11 2026. No macro, syntax, notation, axiom, sorry.
-/
import Derived.Test.YtnjjhhnkanklfaaChecked
import GoSem.Claim
import GoSem.ClaimJoined
import GoSem.ClaimMapViews
import Derived.JoinedTies
import Derived.KernelRfl
namespace Go.Proofs.Ytnjjhhnkanklfaa
/- THE CELL 'sum', in the pinned program and in every row, IS THE sha256 OF THE DUMP (.gsa) THAT YtnjjhhnkanklfaaProg.lean LOADS. Nothing in Lean hashes anything: it is a label: what it is worth is what the hold of that sum in a sandbox is worth. -/
noncomputable def Try.pinned : Pinned := { name := "ytnjjhhnkanklfaa", sum := "3db7e2a67d0cad72754115dab0343e727fd0634be91291d152c27bef8f1c9e53", checked := Try.checked }
namespace Rows
def none {H : Type} : Left H := { results := [], args := [] }

/-- 'rolodexlaw24.NetworkOwn': WHATEVER THE INPUT: true; the input reads as it did. -/
def networkOwnSpec : ChangeSpec := { name := "networkOwn", fn := fun _ => fun
  | [d1, d2] => { results := [.lit (.bool true)], args := [d1, d2] }
  | _ => none }
def networkOwnRow : OpenClaim := { program := "ytnjjhhnkanklfaa", sum := "3db7e2a67d0cad72754115dab0343e727fd0634be91291d152c27bef8f1c9e53", func := "rolodex/rolodexlaw24.NetworkOwn", spec := "networkOwn", apart := false }
def NetworkOwnSaid : Prop := networkOwnRow.holds Try.pinned (OpenSpec.ofChange networkOwnSpec)

/-- ITS FALSE NEIGHBOUR: 'it returns false'. Refute it at one input. -/
def networkOwnWrong : ChangeSpec := { name := "networkOwn", fn := fun _ => fun
  | [d1, d2] => { results := [.lit (.bool false)], args := [d1, d2] }
  | _ => none }
def NetworkOwnWrongFalsely : Prop := networkOwnRow.holds Try.pinned (OpenSpec.ofChange networkOwnWrong)

/-- 'rolodexlaw24.NetworkOrder': WHATEVER THE INPUT: true; the input reads as it did. -/
def networkOrderSpec : ChangeSpec := { name := "networkOrder", fn := fun _ => fun
  | [d] => { results := [.lit (.bool true)], args := [d] }
  | _ => none }
def networkOrderRow : OpenClaim := { program := "ytnjjhhnkanklfaa", sum := "3db7e2a67d0cad72754115dab0343e727fd0634be91291d152c27bef8f1c9e53", func := "rolodex/rolodexlaw24.NetworkOrder", spec := "networkOrder", apart := false }
def NetworkOrderSaid : Prop := networkOrderRow.holds Try.pinned (OpenSpec.ofChange networkOrderSpec)

/-- ITS FALSE NEIGHBOUR: 'it returns false'. Refute it at one input. -/
def networkOrderWrong : ChangeSpec := { name := "networkOrder", fn := fun _ => fun
  | [d] => { results := [.lit (.bool false)], args := [d] }
  | _ => none }
def NetworkOrderWrongFalsely : Prop := networkOrderRow.holds Try.pinned (OpenSpec.ofChange networkOrderWrong)

/-- 'rolodexlaw24.NetworkPlays': WHATEVER THE INPUT: true; the input reads as it did. -/
def networkPlaysSpec : ChangeSpec := { name := "networkPlays", fn := fun _ => fun
  | [d] => { results := [.lit (.bool true)], args := [d] }
  | _ => none }
def networkPlaysRow : OpenClaim := { program := "ytnjjhhnkanklfaa", sum := "3db7e2a67d0cad72754115dab0343e727fd0634be91291d152c27bef8f1c9e53", func := "rolodex/rolodexlaw24.NetworkPlays", spec := "networkPlays", apart := false }
def NetworkPlaysSaid : Prop := networkPlaysRow.holds Try.pinned (OpenSpec.ofChange networkPlaysSpec)

/-- ITS FALSE NEIGHBOUR: 'it returns false'. Refute it at one input. -/
def networkPlaysWrong : ChangeSpec := { name := "networkPlays", fn := fun _ => fun
  | [d] => { results := [.lit (.bool false)], args := [d] }
  | _ => none }
def NetworkPlaysWrongFalsely : Prop := networkPlaysRow.holds Try.pinned (OpenSpec.ofChange networkPlaysWrong)

/-- 'rolodexlaw24.NetworkNil': WHATEVER THE INPUT: true; the input reads as it did. -/
def networkNilSpec : ChangeSpec := { name := "networkNil", fn := fun _ => fun
  | [d] => { results := [.lit (.bool true)], args := [d] }
  | _ => none }
def networkNilRow : OpenClaim := { program := "ytnjjhhnkanklfaa", sum := "3db7e2a67d0cad72754115dab0343e727fd0634be91291d152c27bef8f1c9e53", func := "rolodex/rolodexlaw24.NetworkNil", spec := "networkNil", apart := false }
def NetworkNilSaid : Prop := networkNilRow.holds Try.pinned (OpenSpec.ofChange networkNilSpec)

/-- ITS FALSE NEIGHBOUR: 'it returns false'. Refute it at one input. -/
def networkNilWrong : ChangeSpec := { name := "networkNil", fn := fun _ => fun
  | [d] => { results := [.lit (.bool false)], args := [d] }
  | _ => none }
def NetworkNilWrongFalsely : Prop := networkNilRow.holds Try.pinned (OpenSpec.ofChange networkNilWrong)

/- THE SECOND FORM. 'bulk': how many values and letters a reading holds, each counted each time it is reached (what is shared counts as often as it is met; a slice's spare places count too). A statement '..UptoSaid' is the law's where the arguments, and the package variables that the reading takes, are together of bulk at most 1048576: NARROWER than '..Said'. Prove '..Said' where nothing that the law and all that it calls make is longer than what came in: it says more and counts as full. Else prove '..UptoSaid'. A law counts once. -/
mutual
def uptoBulk {H : Type} : DataW H → Nat
  | .lit (.string bytes) => bytes.length + 1
  | .lit _ => 1
  | .nil => 1
  | .ptr d => uptoBulk d + 1
  | .slice elems spare => uptoBulkAll elems + uptoBulkAll spare + 1
  | .agg parts => uptoBulkAll parts + 1
  | .iface _ d => uptoBulk d + 1
  | .map entries => uptoBulkEntries entries + 1
  | .held _ => 1
def uptoBulkAll {H : Type} : List (DataW H) → Nat
  | [] => 0
  | d :: r => uptoBulk d + uptoBulkAll r
def uptoBulkEntries {H : Type} : List (Lit × DataW H) → Nat
  | [] => 0
  | x :: r => uptoBulkEntry x + uptoBulkEntries r
def uptoBulkEntry {H : Type} : Lit × DataW H → Nat
  | (.string bytes, d) => bytes.length + uptoBulk d + 1
  | (_, d) => uptoBulk d + 1
 end
def uptoSmall : (H : Type) → List (DataW H) → Bool := fun _ ds => decide (uptoBulkAll ds ≤ 1048576)
def OpenSpec.upto (s : _root_.Go.ChangeSpec) : _root_.Go.OpenSpec := { _root_.Go.OpenSpec.ofChange s with cond := some uptoSmall }

/-- 'rolodexlaw24.NetworkOwn', WHERE WHAT IT READS IS OF BULK AT MOST 1048576: true; the input reads as it did. -/
def networkOwnUptoRow : OpenClaim := { program := "ytnjjhhnkanklfaa", sum := "3db7e2a67d0cad72754115dab0343e727fd0634be91291d152c27bef8f1c9e53", func := "rolodex/rolodexlaw24.NetworkOwn", spec := "networkOwn", apart := false, narrowed := true }
def NetworkOwnUptoSaid : Prop := networkOwnUptoRow.holds Try.pinned (OpenSpec.upto networkOwnSpec)

/-- 'rolodexlaw24.NetworkOrder', WHERE WHAT IT READS IS OF BULK AT MOST 1048576: true; the input reads as it did. -/
def networkOrderUptoRow : OpenClaim := { program := "ytnjjhhnkanklfaa", sum := "3db7e2a67d0cad72754115dab0343e727fd0634be91291d152c27bef8f1c9e53", func := "rolodex/rolodexlaw24.NetworkOrder", spec := "networkOrder", apart := false, narrowed := true }
def NetworkOrderUptoSaid : Prop := networkOrderUptoRow.holds Try.pinned (OpenSpec.upto networkOrderSpec)

/-- 'rolodexlaw24.NetworkPlays', WHERE WHAT IT READS IS OF BULK AT MOST 1048576: true; the input reads as it did. -/
def networkPlaysUptoRow : OpenClaim := { program := "ytnjjhhnkanklfaa", sum := "3db7e2a67d0cad72754115dab0343e727fd0634be91291d152c27bef8f1c9e53", func := "rolodex/rolodexlaw24.NetworkPlays", spec := "networkPlays", apart := false, narrowed := true }
def NetworkPlaysUptoSaid : Prop := networkPlaysUptoRow.holds Try.pinned (OpenSpec.upto networkPlaysSpec)

/-- 'rolodexlaw24.NetworkNil', WHERE WHAT IT READS IS OF BULK AT MOST 1048576: true; the input reads as it did. -/
def networkNilUptoRow : OpenClaim := { program := "ytnjjhhnkanklfaa", sum := "3db7e2a67d0cad72754115dab0343e727fd0634be91291d152c27bef8f1c9e53", func := "rolodex/rolodexlaw24.NetworkNil", spec := "networkNil", apart := false, narrowed := true }
def NetworkNilUptoSaid : Prop := networkNilUptoRow.holds Try.pinned (OpenSpec.upto networkNilSpec)

end Rows
end Go.Proofs.Ytnjjhhnkanklfaa
