/-
  NARROWER THAN 'FOR EVERY INPUT', by the rows' own cells (each row's printed sentence says how): ProofSound: laid · ProofTurned: laid · TrieTexts: laid · TrieNodes: laid · TrieAdds: laid · TrieOrder: laid · TriePuts: laid · ProofNone: laid · TrieNone: laid · ProofShows: laid · ProofRight: laid.
  DERIVED. THE GIVEN ROWS OF THIS SEAT. 11 by the template 'for every input the law returns true; each argument reads behind the call as it read before'; 0 by the template 'total and deterministic' (their statements: YtffaohckcggkdaaDoorTotals.lean).
  GIVEN WITH THE SEED: the statements are not yours to turn. If you find one false, say at which input.
  Laid BY PROGRAM, IN A SANDBOX (cutbox-rows.mjs): the forced cells as the released guide's own fill.sh prints them over the translation b11728ea6f922f2d… (all of the seat's roots in one cut). By AI agents, Wed Nov 11 2026. No macro, syntax, notation, axiom, sorry.
-/
import Derived.Test.YtffaohckcggkdaaDoorChecked
import GoSem.Claim
import GoSem.ClaimJoined
import GoSem.ClaimMapViews
import Derived.JoinedTies
import Derived.KernelRfl
namespace Go.Proofs.YtffaohckcggkdaaDoor
/- THE CELL 'sum', in the pinned program and in every row, IS THE sha256 OF THE DUMP (.gsa) THAT YtffaohckcggkdaaDoorProg.lean LOADS. Nothing in Lean hashes anything: it is a label: what it is worth is what the hold of that sum in a sandbox is worth. -/
noncomputable def Tryd.pinned : Pinned := { name := "ytffaohckcggkdaadoor", sum := "b11728ea6f922f2da5402ce13398f91d927294d863e5600873a134c8d2d59ec1", checked := Tryd.checked }
namespace Rows
def none {H : Type} : Left H := { results := [], args := [] }

/- WHAT THE LISTED PACKAGE-LEVEL VARIABLES READ AS WHEN THE CALL BEGINS. Each datum BY PROGRAM (the guide's laid-datum.mjs) off the statement by which the dump's own 'gosem.cut.vars' lays the variable. In a bare row this is a premise. The card (YtffaohckcggkdaaDoorCards.lean) ties it to the program's text. -/
def laid_rolodex_hash_begin {H : Type} : DataW H := .agg [.lit (.int .u32 1779033703), .lit (.int .u32 3144134277), .lit (.int .u32 1013904242), .lit (.int .u32 2773480762), .lit (.int .u32 1359893119), .lit (.int .u32 2600822924), .lit (.int .u32 528734635), .lit (.int .u32 1541459225)]
def laid_rolodex_hash_rounds {H : Type} : DataW H := .agg [.lit (.int .u32 1116352408), .lit (.int .u32 1899447441), .lit (.int .u32 3049323471), .lit (.int .u32 3921009573), .lit (.int .u32 961987163), .lit (.int .u32 1508970993), .lit (.int .u32 2453635748), .lit (.int .u32 2870763221), .lit (.int .u32 3624381080), .lit (.int .u32 310598401), .lit (.int .u32 607225278), .lit (.int .u32 1426881987), .lit (.int .u32 1925078388), .lit (.int .u32 2162078206), .lit (.int .u32 2614888103), .lit (.int .u32 3248222580), .lit (.int .u32 3835390401), .lit (.int .u32 4022224774), .lit (.int .u32 264347078), .lit (.int .u32 604807628), .lit (.int .u32 770255983), .lit (.int .u32 1249150122), .lit (.int .u32 1555081692), .lit (.int .u32 1996064986), .lit (.int .u32 2554220882), .lit (.int .u32 2821834349), .lit (.int .u32 2952996808), .lit (.int .u32 3210313671), .lit (.int .u32 3336571891), .lit (.int .u32 3584528711), .lit (.int .u32 113926993), .lit (.int .u32 338241895), .lit (.int .u32 666307205), .lit (.int .u32 773529912), .lit (.int .u32 1294757372), .lit (.int .u32 1396182291), .lit (.int .u32 1695183700), .lit (.int .u32 1986661051), .lit (.int .u32 2177026350), .lit (.int .u32 2456956037), .lit (.int .u32 2730485921), .lit (.int .u32 2820302411), .lit (.int .u32 3259730800), .lit (.int .u32 3345764771), .lit (.int .u32 3516065817), .lit (.int .u32 3600352804), .lit (.int .u32 4094571909), .lit (.int .u32 275423344), .lit (.int .u32 430227734), .lit (.int .u32 506948616), .lit (.int .u32 659060556), .lit (.int .u32 883997877), .lit (.int .u32 958139571), .lit (.int .u32 1322822218), .lit (.int .u32 1537002063), .lit (.int .u32 1747873779), .lit (.int .u32 1955562222), .lit (.int .u32 2024104815), .lit (.int .u32 2227730452), .lit (.int .u32 2361852424), .lit (.int .u32 2428436474), .lit (.int .u32 2756734187), .lit (.int .u32 3204031479), .lit (.int .u32 3329325298)]

/-- 'rolodexlaw12.ProofSound': WHATEVER THE INPUT: true; the input reads as it did. -/
def proofSoundSpec : ChangeSpec := { name := "proofSound", fn := fun _ => fun
  | [d1, d2, d3] => { results := [.lit (.bool true)], args := [d1, d2, d3] }
  | _ => none }
def proofSoundRow : OpenClaim := { program := "ytffaohckcggkdaadoor", sum := "b11728ea6f922f2da5402ce13398f91d927294d863e5600873a134c8d2d59ec1", func := "rolodex/rolodexlaw12.ProofSound", spec := "proofSound", recurses := true, named := ["rolodex/hash.begin", "rolodex/hash.rounds"], apart := false, laid := [("rolodex/hash.begin", laid_rolodex_hash_begin), ("rolodex/hash.rounds", laid_rolodex_hash_rounds)] }
def ProofSoundSaid : Prop := proofSoundRow.holds Tryd.pinned (OpenSpec.ofChange proofSoundSpec)

/-- ITS FALSE NEIGHBOUR: 'it returns false'. Refute it at one input. -/
def proofSoundWrong : ChangeSpec := { name := "proofSound", fn := fun _ => fun
  | [d1, d2, d3] => { results := [.lit (.bool false)], args := [d1, d2, d3] }
  | _ => none }
def ProofSoundWrongFalsely : Prop := proofSoundRow.holds Tryd.pinned (OpenSpec.ofChange proofSoundWrong)

/-- 'rolodexlaw12.ProofTurned': WHATEVER THE INPUT: true; the input reads as it did. -/
def proofTurnedSpec : ChangeSpec := { name := "proofTurned", fn := fun _ => fun
  | [d1, d2, d3] => { results := [.lit (.bool true)], args := [d1, d2, d3] }
  | _ => none }
def proofTurnedRow : OpenClaim := { program := "ytffaohckcggkdaadoor", sum := "b11728ea6f922f2da5402ce13398f91d927294d863e5600873a134c8d2d59ec1", func := "rolodex/rolodexlaw12.ProofTurned", spec := "proofTurned", named := ["rolodex/hash.begin", "rolodex/hash.rounds"], apart := false, laid := [("rolodex/hash.begin", laid_rolodex_hash_begin), ("rolodex/hash.rounds", laid_rolodex_hash_rounds)] }
def ProofTurnedSaid : Prop := proofTurnedRow.holds Tryd.pinned (OpenSpec.ofChange proofTurnedSpec)

/-- ITS FALSE NEIGHBOUR: 'it returns false'. Refute it at one input. -/
def proofTurnedWrong : ChangeSpec := { name := "proofTurned", fn := fun _ => fun
  | [d1, d2, d3] => { results := [.lit (.bool false)], args := [d1, d2, d3] }
  | _ => none }
def ProofTurnedWrongFalsely : Prop := proofTurnedRow.holds Tryd.pinned (OpenSpec.ofChange proofTurnedWrong)

/-- 'rolodexlaw11.TrieTexts': WHATEVER THE INPUT: true; the input reads as it did. -/
def trieTextsSpec : ChangeSpec := { name := "trieTexts", fn := fun _ => fun
  | [d1, d2, d3] => { results := [.lit (.bool true)], args := [d1, d2, d3] }
  | _ => none }
def trieTextsRow : OpenClaim := { program := "ytffaohckcggkdaadoor", sum := "b11728ea6f922f2da5402ce13398f91d927294d863e5600873a134c8d2d59ec1", func := "rolodex/rolodexlaw11.TrieTexts", spec := "trieTexts", named := ["rolodex/hash.begin", "rolodex/hash.rounds"], apart := false, laid := [("rolodex/hash.begin", laid_rolodex_hash_begin), ("rolodex/hash.rounds", laid_rolodex_hash_rounds)] }
def TrieTextsSaid : Prop := trieTextsRow.holds Tryd.pinned (OpenSpec.ofChange trieTextsSpec)

/-- ITS FALSE NEIGHBOUR: 'it returns false'. Refute it at one input. -/
def trieTextsWrong : ChangeSpec := { name := "trieTexts", fn := fun _ => fun
  | [d1, d2, d3] => { results := [.lit (.bool false)], args := [d1, d2, d3] }
  | _ => none }
def TrieTextsWrongFalsely : Prop := trieTextsRow.holds Tryd.pinned (OpenSpec.ofChange trieTextsWrong)

/-- 'rolodexlaw11.TrieNodes': WHATEVER THE INPUT: true; the input reads as it did. -/
def trieNodesSpec : ChangeSpec := { name := "trieNodes", fn := fun _ => fun
  | [d] => { results := [.lit (.bool true)], args := [d] }
  | _ => none }
def trieNodesRow : OpenClaim := { program := "ytffaohckcggkdaadoor", sum := "b11728ea6f922f2da5402ce13398f91d927294d863e5600873a134c8d2d59ec1", func := "rolodex/rolodexlaw11.TrieNodes", spec := "trieNodes", named := ["rolodex/hash.begin", "rolodex/hash.rounds"], apart := false, laid := [("rolodex/hash.begin", laid_rolodex_hash_begin), ("rolodex/hash.rounds", laid_rolodex_hash_rounds)] }
def TrieNodesSaid : Prop := trieNodesRow.holds Tryd.pinned (OpenSpec.ofChange trieNodesSpec)

/-- ITS FALSE NEIGHBOUR: 'it returns false'. Refute it at one input. -/
def trieNodesWrong : ChangeSpec := { name := "trieNodes", fn := fun _ => fun
  | [d] => { results := [.lit (.bool false)], args := [d] }
  | _ => none }
def TrieNodesWrongFalsely : Prop := trieNodesRow.holds Tryd.pinned (OpenSpec.ofChange trieNodesWrong)

/-- 'rolodexlaw11.TrieAdds': WHATEVER THE INPUT: true; the input reads as it did. -/
def trieAddsSpec : ChangeSpec := { name := "trieAdds", fn := fun _ => fun
  | [d1, d2] => { results := [.lit (.bool true)], args := [d1, d2] }
  | _ => none }
def trieAddsRow : OpenClaim := { program := "ytffaohckcggkdaadoor", sum := "b11728ea6f922f2da5402ce13398f91d927294d863e5600873a134c8d2d59ec1", func := "rolodex/rolodexlaw11.TrieAdds", spec := "trieAdds", named := ["rolodex/hash.begin", "rolodex/hash.rounds"], apart := false, laid := [("rolodex/hash.begin", laid_rolodex_hash_begin), ("rolodex/hash.rounds", laid_rolodex_hash_rounds)] }
def TrieAddsSaid : Prop := trieAddsRow.holds Tryd.pinned (OpenSpec.ofChange trieAddsSpec)

/-- ITS FALSE NEIGHBOUR: 'it returns false'. Refute it at one input. -/
def trieAddsWrong : ChangeSpec := { name := "trieAdds", fn := fun _ => fun
  | [d1, d2] => { results := [.lit (.bool false)], args := [d1, d2] }
  | _ => none }
def TrieAddsWrongFalsely : Prop := trieAddsRow.holds Tryd.pinned (OpenSpec.ofChange trieAddsWrong)

/-- 'rolodexlaw11.TrieOrder': WHATEVER THE INPUT: true; the input reads as it did. -/
def trieOrderSpec : ChangeSpec := { name := "trieOrder", fn := fun _ => fun
  | [d1, d2] => { results := [.lit (.bool true)], args := [d1, d2] }
  | _ => none }
def trieOrderRow : OpenClaim := { program := "ytffaohckcggkdaadoor", sum := "b11728ea6f922f2da5402ce13398f91d927294d863e5600873a134c8d2d59ec1", func := "rolodex/rolodexlaw11.TrieOrder", spec := "trieOrder", unfollowed := true, recurses := true, named := ["rolodex/hash.begin", "rolodex/hash.rounds"], apart := false, laid := [("rolodex/hash.begin", laid_rolodex_hash_begin), ("rolodex/hash.rounds", laid_rolodex_hash_rounds)] }
def TrieOrderSaid : Prop := trieOrderRow.holds Tryd.pinned (OpenSpec.ofChange trieOrderSpec)

/-- ITS FALSE NEIGHBOUR: 'it returns false'. Refute it at one input. -/
def trieOrderWrong : ChangeSpec := { name := "trieOrder", fn := fun _ => fun
  | [d1, d2] => { results := [.lit (.bool false)], args := [d1, d2] }
  | _ => none }
def TrieOrderWrongFalsely : Prop := trieOrderRow.holds Tryd.pinned (OpenSpec.ofChange trieOrderWrong)

/-- 'rolodexlaw11.TriePuts': WHATEVER THE INPUT: true; the input reads as it did. -/
def triePutsSpec : ChangeSpec := { name := "triePuts", fn := fun _ => fun
  | [d1, d2] => { results := [.lit (.bool true)], args := [d1, d2] }
  | _ => none }
def triePutsRow : OpenClaim := { program := "ytffaohckcggkdaadoor", sum := "b11728ea6f922f2da5402ce13398f91d927294d863e5600873a134c8d2d59ec1", func := "rolodex/rolodexlaw11.TriePuts", spec := "triePuts", unfollowed := true, recurses := true, named := ["rolodex/hash.begin", "rolodex/hash.rounds"], apart := false, laid := [("rolodex/hash.begin", laid_rolodex_hash_begin), ("rolodex/hash.rounds", laid_rolodex_hash_rounds)] }
def TriePutsSaid : Prop := triePutsRow.holds Tryd.pinned (OpenSpec.ofChange triePutsSpec)

/-- ITS FALSE NEIGHBOUR: 'it returns false'. Refute it at one input. -/
def triePutsWrong : ChangeSpec := { name := "triePuts", fn := fun _ => fun
  | [d1, d2] => { results := [.lit (.bool false)], args := [d1, d2] }
  | _ => none }
def TriePutsWrongFalsely : Prop := triePutsRow.holds Tryd.pinned (OpenSpec.ofChange triePutsWrong)

/-- 'rolodexlaw12.ProofNone': WHATEVER THE INPUT: true; the input reads as it did. -/
def proofNoneSpec : ChangeSpec := { name := "proofNone", fn := fun _ => fun
  | [d1, d2, d3] => { results := [.lit (.bool true)], args := [d1, d2, d3] }
  | _ => none }
def proofNoneRow : OpenClaim := { program := "ytffaohckcggkdaadoor", sum := "b11728ea6f922f2da5402ce13398f91d927294d863e5600873a134c8d2d59ec1", func := "rolodex/rolodexlaw12.ProofNone", spec := "proofNone", named := ["rolodex/hash.begin", "rolodex/hash.rounds"], apart := false, laid := [("rolodex/hash.begin", laid_rolodex_hash_begin), ("rolodex/hash.rounds", laid_rolodex_hash_rounds)] }
def ProofNoneSaid : Prop := proofNoneRow.holds Tryd.pinned (OpenSpec.ofChange proofNoneSpec)

/-- ITS FALSE NEIGHBOUR: 'it returns false'. Refute it at one input. -/
def proofNoneWrong : ChangeSpec := { name := "proofNone", fn := fun _ => fun
  | [d1, d2, d3] => { results := [.lit (.bool false)], args := [d1, d2, d3] }
  | _ => none }
def ProofNoneWrongFalsely : Prop := proofNoneRow.holds Tryd.pinned (OpenSpec.ofChange proofNoneWrong)

/-- 'rolodexlaw11.TrieNone': WHATEVER THE INPUT: true; the input reads as it did. -/
def trieNoneSpec : ChangeSpec := { name := "trieNone", fn := fun _ => fun
  | [d1, d2, d3] => { results := [.lit (.bool true)], args := [d1, d2, d3] }
  | _ => none }
def trieNoneRow : OpenClaim := { program := "ytffaohckcggkdaadoor", sum := "b11728ea6f922f2da5402ce13398f91d927294d863e5600873a134c8d2d59ec1", func := "rolodex/rolodexlaw11.TrieNone", spec := "trieNone", unfollowed := true, recurses := true, named := ["rolodex/hash.begin", "rolodex/hash.rounds"], apart := false, laid := [("rolodex/hash.begin", laid_rolodex_hash_begin), ("rolodex/hash.rounds", laid_rolodex_hash_rounds)] }
def TrieNoneSaid : Prop := trieNoneRow.holds Tryd.pinned (OpenSpec.ofChange trieNoneSpec)

/-- ITS FALSE NEIGHBOUR: 'it returns false'. Refute it at one input. -/
def trieNoneWrong : ChangeSpec := { name := "trieNone", fn := fun _ => fun
  | [d1, d2, d3] => { results := [.lit (.bool false)], args := [d1, d2, d3] }
  | _ => none }
def TrieNoneWrongFalsely : Prop := trieNoneRow.holds Tryd.pinned (OpenSpec.ofChange trieNoneWrong)

/-- 'rolodexlaw12.ProofShows': WHATEVER THE INPUT: true; the input reads as it did. -/
def proofShowsSpec : ChangeSpec := { name := "proofShows", fn := fun _ => fun
  | [d1, d2] => { results := [.lit (.bool true)], args := [d1, d2] }
  | _ => none }
def proofShowsRow : OpenClaim := { program := "ytffaohckcggkdaadoor", sum := "b11728ea6f922f2da5402ce13398f91d927294d863e5600873a134c8d2d59ec1", func := "rolodex/rolodexlaw12.ProofShows", spec := "proofShows", recurses := true, named := ["rolodex/hash.begin", "rolodex/hash.rounds"], apart := false, laid := [("rolodex/hash.begin", laid_rolodex_hash_begin), ("rolodex/hash.rounds", laid_rolodex_hash_rounds)] }
def ProofShowsSaid : Prop := proofShowsRow.holds Tryd.pinned (OpenSpec.ofChange proofShowsSpec)

/-- ITS FALSE NEIGHBOUR: 'it returns false'. Refute it at one input. -/
def proofShowsWrong : ChangeSpec := { name := "proofShows", fn := fun _ => fun
  | [d1, d2] => { results := [.lit (.bool false)], args := [d1, d2] }
  | _ => none }
def ProofShowsWrongFalsely : Prop := proofShowsRow.holds Tryd.pinned (OpenSpec.ofChange proofShowsWrong)

/-- 'rolodexlaw12.ProofRight': WHATEVER THE INPUT: true; the input reads as it did. -/
def proofRightSpec : ChangeSpec := { name := "proofRight", fn := fun _ => fun
  | [d1, d2] => { results := [.lit (.bool true)], args := [d1, d2] }
  | _ => none }
def proofRightRow : OpenClaim := { program := "ytffaohckcggkdaadoor", sum := "b11728ea6f922f2da5402ce13398f91d927294d863e5600873a134c8d2d59ec1", func := "rolodex/rolodexlaw12.ProofRight", spec := "proofRight", named := ["rolodex/hash.begin", "rolodex/hash.rounds"], apart := false, laid := [("rolodex/hash.begin", laid_rolodex_hash_begin), ("rolodex/hash.rounds", laid_rolodex_hash_rounds)] }
def ProofRightSaid : Prop := proofRightRow.holds Tryd.pinned (OpenSpec.ofChange proofRightSpec)

/-- ITS FALSE NEIGHBOUR: 'it returns false'. Refute it at one input. -/
def proofRightWrong : ChangeSpec := { name := "proofRight", fn := fun _ => fun
  | [d1, d2] => { results := [.lit (.bool false)], args := [d1, d2] }
  | _ => none }
def ProofRightWrongFalsely : Prop := proofRightRow.holds Tryd.pinned (OpenSpec.ofChange proofRightWrong)

/- THE SECOND FORM. 'bulk': how many values and letters a reading holds, each counted each time it is reached (what is shared counts as often as it is met; a slice's spare places count too). A statement '..UptoSaid' is the law's where the arguments, and the package variables that the reading takes, are together of bulk at most 1048576: NARROWER than '..Said'. Prove '..Said' where nothing that the law and all that it calls make is longer than what came in: it says more and counts as full. Else prove '..UptoSaid'. A law counts once. -/
mutual
def uptoBulk {H : Type} : DataW H → Nat
  | .lit (.string bytes) => bytes.length + 1
  | .lit _ => 1
  | .nil => 1
  | .ptr d => uptoBulk d + 1
  | .slice elems spare => uptoBulkAll elems + uptoBulkAll spare + 1
  | .agg parts => uptoBulkAll parts + 1
  | .iface _ d => uptoBulk d + 1
  | .map entries => uptoBulkEntries entries + 1
  | .held _ => 1
def uptoBulkAll {H : Type} : List (DataW H) → Nat
  | [] => 0
  | d :: r => uptoBulk d + uptoBulkAll r
def uptoBulkEntries {H : Type} : List (Lit × DataW H) → Nat
  | [] => 0
  | x :: r => uptoBulkEntry x + uptoBulkEntries r
def uptoBulkEntry {H : Type} : Lit × DataW H → Nat
  | (.string bytes, d) => bytes.length + uptoBulk d + 1
  | (_, d) => uptoBulk d + 1
 end
def uptoSmall : (H : Type) → List (DataW H) → Bool := fun _ ds => decide (uptoBulkAll ds ≤ 1048576)
def OpenSpec.upto (s : _root_.Go.ChangeSpec) : _root_.Go.OpenSpec := { _root_.Go.OpenSpec.ofChange s with cond := some uptoSmall }

/-- 'rolodexlaw12.ProofSound', WHERE WHAT IT READS IS OF BULK AT MOST 1048576: true; the input reads as it did. -/
def proofSoundUptoRow : OpenClaim := { program := "ytffaohckcggkdaadoor", sum := "b11728ea6f922f2da5402ce13398f91d927294d863e5600873a134c8d2d59ec1", func := "rolodex/rolodexlaw12.ProofSound", spec := "proofSound", recurses := true, named := ["rolodex/hash.begin", "rolodex/hash.rounds"], apart := false, laid := [("rolodex/hash.begin", laid_rolodex_hash_begin), ("rolodex/hash.rounds", laid_rolodex_hash_rounds)], narrowed := true }
def ProofSoundUptoSaid : Prop := proofSoundUptoRow.holds Tryd.pinned (OpenSpec.upto proofSoundSpec)

/-- 'rolodexlaw12.ProofTurned', WHERE WHAT IT READS IS OF BULK AT MOST 1048576: true; the input reads as it did. -/
def proofTurnedUptoRow : OpenClaim := { program := "ytffaohckcggkdaadoor", sum := "b11728ea6f922f2da5402ce13398f91d927294d863e5600873a134c8d2d59ec1", func := "rolodex/rolodexlaw12.ProofTurned", spec := "proofTurned", named := ["rolodex/hash.begin", "rolodex/hash.rounds"], apart := false, laid := [("rolodex/hash.begin", laid_rolodex_hash_begin), ("rolodex/hash.rounds", laid_rolodex_hash_rounds)], narrowed := true }
def ProofTurnedUptoSaid : Prop := proofTurnedUptoRow.holds Tryd.pinned (OpenSpec.upto proofTurnedSpec)

/-- 'rolodexlaw11.TrieTexts', WHERE WHAT IT READS IS OF BULK AT MOST 1048576: true; the input reads as it did. -/
def trieTextsUptoRow : OpenClaim := { program := "ytffaohckcggkdaadoor", sum := "b11728ea6f922f2da5402ce13398f91d927294d863e5600873a134c8d2d59ec1", func := "rolodex/rolodexlaw11.TrieTexts", spec := "trieTexts", named := ["rolodex/hash.begin", "rolodex/hash.rounds"], apart := false, laid := [("rolodex/hash.begin", laid_rolodex_hash_begin), ("rolodex/hash.rounds", laid_rolodex_hash_rounds)], narrowed := true }
def TrieTextsUptoSaid : Prop := trieTextsUptoRow.holds Tryd.pinned (OpenSpec.upto trieTextsSpec)

/-- 'rolodexlaw11.TrieNodes', WHERE WHAT IT READS IS OF BULK AT MOST 1048576: true; the input reads as it did. -/
def trieNodesUptoRow : OpenClaim := { program := "ytffaohckcggkdaadoor", sum := "b11728ea6f922f2da5402ce13398f91d927294d863e5600873a134c8d2d59ec1", func := "rolodex/rolodexlaw11.TrieNodes", spec := "trieNodes", named := ["rolodex/hash.begin", "rolodex/hash.rounds"], apart := false, laid := [("rolodex/hash.begin", laid_rolodex_hash_begin), ("rolodex/hash.rounds", laid_rolodex_hash_rounds)], narrowed := true }
def TrieNodesUptoSaid : Prop := trieNodesUptoRow.holds Tryd.pinned (OpenSpec.upto trieNodesSpec)

/-- 'rolodexlaw11.TrieAdds', WHERE WHAT IT READS IS OF BULK AT MOST 1048576: true; the input reads as it did. -/
def trieAddsUptoRow : OpenClaim := { program := "ytffaohckcggkdaadoor", sum := "b11728ea6f922f2da5402ce13398f91d927294d863e5600873a134c8d2d59ec1", func := "rolodex/rolodexlaw11.TrieAdds", spec := "trieAdds", named := ["rolodex/hash.begin", "rolodex/hash.rounds"], apart := false, laid := [("rolodex/hash.begin", laid_rolodex_hash_begin), ("rolodex/hash.rounds", laid_rolodex_hash_rounds)], narrowed := true }
def TrieAddsUptoSaid : Prop := trieAddsUptoRow.holds Tryd.pinned (OpenSpec.upto trieAddsSpec)

/-- 'rolodexlaw11.TrieOrder', WHERE WHAT IT READS IS OF BULK AT MOST 1048576: true; the input reads as it did. -/
def trieOrderUptoRow : OpenClaim := { program := "ytffaohckcggkdaadoor", sum := "b11728ea6f922f2da5402ce13398f91d927294d863e5600873a134c8d2d59ec1", func := "rolodex/rolodexlaw11.TrieOrder", spec := "trieOrder", unfollowed := true, recurses := true, named := ["rolodex/hash.begin", "rolodex/hash.rounds"], apart := false, laid := [("rolodex/hash.begin", laid_rolodex_hash_begin), ("rolodex/hash.rounds", laid_rolodex_hash_rounds)], narrowed := true }
def TrieOrderUptoSaid : Prop := trieOrderUptoRow.holds Tryd.pinned (OpenSpec.upto trieOrderSpec)

/-- 'rolodexlaw11.TriePuts', WHERE WHAT IT READS IS OF BULK AT MOST 1048576: true; the input reads as it did. -/
def triePutsUptoRow : OpenClaim := { program := "ytffaohckcggkdaadoor", sum := "b11728ea6f922f2da5402ce13398f91d927294d863e5600873a134c8d2d59ec1", func := "rolodex/rolodexlaw11.TriePuts", spec := "triePuts", unfollowed := true, recurses := true, named := ["rolodex/hash.begin", "rolodex/hash.rounds"], apart := false, laid := [("rolodex/hash.begin", laid_rolodex_hash_begin), ("rolodex/hash.rounds", laid_rolodex_hash_rounds)], narrowed := true }
def TriePutsUptoSaid : Prop := triePutsUptoRow.holds Tryd.pinned (OpenSpec.upto triePutsSpec)

/-- 'rolodexlaw12.ProofNone', WHERE WHAT IT READS IS OF BULK AT MOST 1048576: true; the input reads as it did. -/
def proofNoneUptoRow : OpenClaim := { program := "ytffaohckcggkdaadoor", sum := "b11728ea6f922f2da5402ce13398f91d927294d863e5600873a134c8d2d59ec1", func := "rolodex/rolodexlaw12.ProofNone", spec := "proofNone", named := ["rolodex/hash.begin", "rolodex/hash.rounds"], apart := false, laid := [("rolodex/hash.begin", laid_rolodex_hash_begin), ("rolodex/hash.rounds", laid_rolodex_hash_rounds)], narrowed := true }
def ProofNoneUptoSaid : Prop := proofNoneUptoRow.holds Tryd.pinned (OpenSpec.upto proofNoneSpec)

/-- 'rolodexlaw11.TrieNone', WHERE WHAT IT READS IS OF BULK AT MOST 1048576: true; the input reads as it did. -/
def trieNoneUptoRow : OpenClaim := { program := "ytffaohckcggkdaadoor", sum := "b11728ea6f922f2da5402ce13398f91d927294d863e5600873a134c8d2d59ec1", func := "rolodex/rolodexlaw11.TrieNone", spec := "trieNone", unfollowed := true, recurses := true, named := ["rolodex/hash.begin", "rolodex/hash.rounds"], apart := false, laid := [("rolodex/hash.begin", laid_rolodex_hash_begin), ("rolodex/hash.rounds", laid_rolodex_hash_rounds)], narrowed := true }
def TrieNoneUptoSaid : Prop := trieNoneUptoRow.holds Tryd.pinned (OpenSpec.upto trieNoneSpec)

/-- 'rolodexlaw12.ProofShows', WHERE WHAT IT READS IS OF BULK AT MOST 1048576: true; the input reads as it did. -/
def proofShowsUptoRow : OpenClaim := { program := "ytffaohckcggkdaadoor", sum := "b11728ea6f922f2da5402ce13398f91d927294d863e5600873a134c8d2d59ec1", func := "rolodex/rolodexlaw12.ProofShows", spec := "proofShows", recurses := true, named := ["rolodex/hash.begin", "rolodex/hash.rounds"], apart := false, laid := [("rolodex/hash.begin", laid_rolodex_hash_begin), ("rolodex/hash.rounds", laid_rolodex_hash_rounds)], narrowed := true }
def ProofShowsUptoSaid : Prop := proofShowsUptoRow.holds Tryd.pinned (OpenSpec.upto proofShowsSpec)

/-- 'rolodexlaw12.ProofRight', WHERE WHAT IT READS IS OF BULK AT MOST 1048576: true; the input reads as it did. -/
def proofRightUptoRow : OpenClaim := { program := "ytffaohckcggkdaadoor", sum := "b11728ea6f922f2da5402ce13398f91d927294d863e5600873a134c8d2d59ec1", func := "rolodex/rolodexlaw12.ProofRight", spec := "proofRight", named := ["rolodex/hash.begin", "rolodex/hash.rounds"], apart := false, laid := [("rolodex/hash.begin", laid_rolodex_hash_begin), ("rolodex/hash.rounds", laid_rolodex_hash_rounds)], narrowed := true }
def ProofRightUptoSaid : Prop := proofRightUptoRow.holds Tryd.pinned (OpenSpec.upto proofRightSpec)

end Rows
end Go.Proofs.YtffaohckcggkdaaDoor
