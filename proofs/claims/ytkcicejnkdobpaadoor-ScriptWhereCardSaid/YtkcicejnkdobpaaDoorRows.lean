/-
  NARROWER THAN 'FOR EVERY INPUT', by the rows' own cells (each row's printed sentence says how): ScriptWrites: laid · ScriptReads: laid · ScriptBack: laid · ScriptWhere: laid.
  DERIVED. THE GIVEN ROWS OF THIS SEAT. 4 by the template 'for every input the law returns true; each argument reads behind the call as it read before'; 0 by the template 'total and deterministic' (their statements: YtkcicejnkdobpaaDoorTotals.lean).
  GIVEN WITH THE SEED: the statements are not yours to turn. If you find one false, say at which input.
  Laid BY PROGRAM, IN A SANDBOX (cutbox-rows.mjs): the forced cells as the released guide's own fill.sh prints them over the translation 4ac079992d797992… (all of the seat's roots in one cut). By AI agents, Wed Nov 11 2026. No macro, syntax, notation, axiom, sorry.
-/
import Derived.Test.YtkcicejnkdobpaaDoorChecked
import GoSem.PinnedTables
import GoSem.Claim
import GoSem.ClaimJoined
import GoSem.ClaimMapViews
import Derived.JoinedTies
import Derived.KernelRfl
namespace Go.Proofs.YtkcicejnkdobpaaDoor
/- THE CELL 'sum', in the pinned program and in every row, IS THE sha256 OF THE DUMP (.gsa) THAT YtkcicejnkdobpaaDoorProg.lean LOADS. Nothing in Lean hashes anything: it is a label: what it is worth is what the hold of that sum in a sandbox is worth. -/
noncomputable def Tryd.pinned : Pinned := { name := "ytkcicejnkdobpaadoor", sum := "4ac079992d7979925a97d75244076b0f9874cbd902b5fc52186211e59ddc8f16", checked := Tryd.checked }
namespace Rows
def none {H : Type} : Left H := { results := [], args := [] }

/- WHAT THE LISTED PACKAGE-LEVEL VARIABLES READ AS WHEN THE CALL BEGINS. Each datum BY PROGRAM (the guide's laid-datum.mjs) off the statement by which the dump's own 'gosem.cut.vars' lays the variable. In a bare row this is a premise. The card (YtkcicejnkdobpaaDoorCards.lean) ties it to the program's text. -/
def laid_rolodex_script_forms {H : Type} : DataW H := .agg [.agg [.lit (.string []), .lit (.string [])], .agg [.lit (.string [116, 105, 99, 107]), .lit (.string [])], .agg [.lit (.string [115, 107, 101, 119]), .lit (.string [110, 109])], .agg [.lit (.string [117, 112, 100, 97, 116, 101]), .lit (.string [110, 108, 118])], .agg [.lit (.string [97, 103, 97, 105, 110]), .lit (.string [110])], .agg [.lit (.string [97, 115, 107]), .lit (.string [110, 109, 107, 108])], .agg [.lit (.string [115, 101, 97, 108]), .lit (.string [])], .agg [.lit (.string [100, 101, 108, 105, 118, 101, 114]), .lit (.string [109])], .agg [.lit (.string [100, 114, 111, 112]), .lit (.string [109])], .agg [.lit (.string [99, 111, 112, 121]), .lit (.string [109])], .agg [.lit (.string [115, 119, 97, 112]), .lit (.string [109, 107])], .agg [.lit (.string [116, 117, 114, 110]), .lit (.string [109, 107, 118])], .agg [.lit (.string [115, 101, 110, 100]), .lit (.string [110, 118])], .agg [.lit (.string [119, 105, 115, 104]), .lit (.string [110])], .agg [.lit (.string [114, 101, 115, 116, 97, 114, 116]), .lit (.string [110, 116])], .agg [.lit (.string [102, 117, 115, 101]), .lit (.string [110, 109])]]
def laid_unicode_utf8_acceptRanges {H : Type} : DataW H := .agg [.agg [.lit (.int .u8 128), .lit (.int .u8 191)], .agg [.lit (.int .u8 160), .lit (.int .u8 191)], .agg [.lit (.int .u8 128), .lit (.int .u8 159)], .agg [.lit (.int .u8 144), .lit (.int .u8 191)], .agg [.lit (.int .u8 128), .lit (.int .u8 143)], .agg [.lit (.int .u8 0), .lit (.int .u8 0)], .agg [.lit (.int .u8 0), .lit (.int .u8 0)], .agg [.lit (.int .u8 0), .lit (.int .u8 0)], .agg [.lit (.int .u8 0), .lit (.int .u8 0)], .agg [.lit (.int .u8 0), .lit (.int .u8 0)], .agg [.lit (.int .u8 0), .lit (.int .u8 0)], .agg [.lit (.int .u8 0), .lit (.int .u8 0)], .agg [.lit (.int .u8 0), .lit (.int .u8 0)], .agg [.lit (.int .u8 0), .lit (.int .u8 0)], .agg [.lit (.int .u8 0), .lit (.int .u8 0)], .agg [.lit (.int .u8 0), .lit (.int .u8 0)]]
/-- One of Go's own tables, pinned by name: the form's constant. -/
def laid_unicode_utf8_first : DataW Unit := Go.Pinned.utf8First

/-- 'rolodexlaw29.ScriptWrites': WHATEVER THE INPUT: true; the input reads as it did. -/
def scriptWritesSpec : ChangeSpec := { name := "scriptWrites", fn := fun _ => fun
  | [d] => { results := [.lit (.bool true)], args := [d] }
  | _ => none }
def scriptWritesRow : OpenClaim := { program := "ytkcicejnkdobpaadoor", sum := "4ac079992d7979925a97d75244076b0f9874cbd902b5fc52186211e59ddc8f16", func := "rolodex/rolodexlaw29.ScriptWrites", spec := "scriptWrites", inPlace := ["internal/abi.NoEscape", "internal/bytealg.MakeNoZero"], recurses := true, named := ["rolodex/script.forms"], apart := false, laid := [("rolodex/script.forms", laid_rolodex_script_forms)] }
def ScriptWritesSaid : Prop := scriptWritesRow.holds Tryd.pinned (OpenSpec.ofChange scriptWritesSpec)

/-- ITS FALSE NEIGHBOUR: 'it returns false'. Refute it at one input. -/
def scriptWritesWrong : ChangeSpec := { name := "scriptWrites", fn := fun _ => fun
  | [d] => { results := [.lit (.bool false)], args := [d] }
  | _ => none }
def ScriptWritesWrongFalsely : Prop := scriptWritesRow.holds Tryd.pinned (OpenSpec.ofChange scriptWritesWrong)

/-- 'rolodexlaw29.ScriptReads': WHATEVER THE INPUT: true; the input reads as it did. -/
def scriptReadsSpec : ChangeSpec := { name := "scriptReads", fn := fun _ => fun
  | [d] => { results := [.lit (.bool true)], args := [d] }
  | _ => none }
def scriptReadsRow : OpenClaim := { program := "ytkcicejnkdobpaadoor", sum := "4ac079992d7979925a97d75244076b0f9874cbd902b5fc52186211e59ddc8f16", func := "rolodex/rolodexlaw29.ScriptReads", spec := "scriptReads", inPlace := ["internal/abi.NoEscape", "internal/bytealg.MakeNoZero", "internal/bytealg.CountString", "internal/bytealg.IndexByteString", "internal/bytealg.IndexString"], recurses := true, named := ["rolodex/script.forms", "internal/bytealg.MaxLen", "unicode/utf8.first", "unicode/utf8.acceptRanges"], apart := false, laid := [("unicode/utf8.acceptRanges", laid_unicode_utf8_acceptRanges), ("rolodex/script.forms", laid_rolodex_script_forms), ("unicode/utf8.first", laid_unicode_utf8_first)] }
def ScriptReadsSaid : Prop := scriptReadsRow.holds Tryd.pinned (OpenSpec.ofChange scriptReadsSpec)

/-- ITS FALSE NEIGHBOUR: 'it returns false'. Refute it at one input. -/
def scriptReadsWrong : ChangeSpec := { name := "scriptReads", fn := fun _ => fun
  | [d] => { results := [.lit (.bool false)], args := [d] }
  | _ => none }
def ScriptReadsWrongFalsely : Prop := scriptReadsRow.holds Tryd.pinned (OpenSpec.ofChange scriptReadsWrong)

/-- 'rolodexlaw29.ScriptBack': WHATEVER THE INPUT: true; the input reads as it did. -/
def scriptBackSpec : ChangeSpec := { name := "scriptBack", fn := fun _ => fun
  | [d] => { results := [.lit (.bool true)], args := [d] }
  | _ => none }
def scriptBackRow : OpenClaim := { program := "ytkcicejnkdobpaadoor", sum := "4ac079992d7979925a97d75244076b0f9874cbd902b5fc52186211e59ddc8f16", func := "rolodex/rolodexlaw29.ScriptBack", spec := "scriptBack", inPlace := ["internal/abi.NoEscape", "internal/bytealg.MakeNoZero", "internal/bytealg.CountString", "internal/bytealg.IndexByteString", "internal/bytealg.IndexString"], named := ["rolodex/script.forms", "internal/bytealg.MaxLen", "unicode/utf8.first", "unicode/utf8.acceptRanges"], apart := false, laid := [("unicode/utf8.acceptRanges", laid_unicode_utf8_acceptRanges), ("rolodex/script.forms", laid_rolodex_script_forms), ("unicode/utf8.first", laid_unicode_utf8_first)] }
def ScriptBackSaid : Prop := scriptBackRow.holds Tryd.pinned (OpenSpec.ofChange scriptBackSpec)

/-- ITS FALSE NEIGHBOUR: 'it returns false'. Refute it at one input. -/
def scriptBackWrong : ChangeSpec := { name := "scriptBack", fn := fun _ => fun
  | [d] => { results := [.lit (.bool false)], args := [d] }
  | _ => none }
def ScriptBackWrongFalsely : Prop := scriptBackRow.holds Tryd.pinned (OpenSpec.ofChange scriptBackWrong)

/-- 'rolodexlaw29.ScriptWhere': WHATEVER THE INPUT: true; the input reads as it did. -/
def scriptWhereSpec : ChangeSpec := { name := "scriptWhere", fn := fun _ => fun
  | [d1, d2, d3] => { results := [.lit (.bool true)], args := [d1, d2, d3] }
  | _ => none }
def scriptWhereRow : OpenClaim := { program := "ytkcicejnkdobpaadoor", sum := "4ac079992d7979925a97d75244076b0f9874cbd902b5fc52186211e59ddc8f16", func := "rolodex/rolodexlaw29.ScriptWhere", spec := "scriptWhere", inPlace := ["internal/abi.NoEscape", "internal/bytealg.MakeNoZero", "internal/bytealg.CountString", "internal/bytealg.IndexByteString", "internal/bytealg.IndexString"], named := ["rolodex/script.forms", "internal/bytealg.MaxLen", "unicode/utf8.first", "unicode/utf8.acceptRanges"], apart := false, laid := [("unicode/utf8.acceptRanges", laid_unicode_utf8_acceptRanges), ("rolodex/script.forms", laid_rolodex_script_forms), ("unicode/utf8.first", laid_unicode_utf8_first)] }
def ScriptWhereSaid : Prop := scriptWhereRow.holds Tryd.pinned (OpenSpec.ofChange scriptWhereSpec)

/-- ITS FALSE NEIGHBOUR: 'it returns false'. Refute it at one input. -/
def scriptWhereWrong : ChangeSpec := { name := "scriptWhere", fn := fun _ => fun
  | [d1, d2, d3] => { results := [.lit (.bool false)], args := [d1, d2, d3] }
  | _ => none }
def ScriptWhereWrongFalsely : Prop := scriptWhereRow.holds Tryd.pinned (OpenSpec.ofChange scriptWhereWrong)

/- THE SECOND FORM. 'bulk': how many values and letters a reading holds, each counted each time it is reached (what is shared counts as often as it is met; a slice's spare places count too). A statement '..UptoSaid' is the law's where the arguments, and the package variables that the reading takes, are together of bulk at most 1048576: NARROWER than '..Said'. Prove '..Said' where nothing that the law and all that it calls make is longer than what came in: it says more and counts as full. Else prove '..UptoSaid'. A law counts once. -/
mutual
def uptoBulk {H : Type} : DataW H → Nat
  | .lit (.string bytes) => bytes.length + 1
  | .lit _ => 1
  | .nil => 1
  | .ptr d => uptoBulk d + 1
  | .slice elems spare => uptoBulkAll elems + uptoBulkAll spare + 1
  | .agg parts => uptoBulkAll parts + 1
  | .iface _ d => uptoBulk d + 1
  | .map entries => uptoBulkEntries entries + 1
  | .held _ => 1
def uptoBulkAll {H : Type} : List (DataW H) → Nat
  | [] => 0
  | d :: r => uptoBulk d + uptoBulkAll r
def uptoBulkEntries {H : Type} : List (Lit × DataW H) → Nat
  | [] => 0
  | x :: r => uptoBulkEntry x + uptoBulkEntries r
def uptoBulkEntry {H : Type} : Lit × DataW H → Nat
  | (.string bytes, d) => bytes.length + uptoBulk d + 1
  | (_, d) => uptoBulk d + 1
 end
def uptoSmall : (H : Type) → List (DataW H) → Bool := fun _ ds => decide (uptoBulkAll ds ≤ 1048576)
def OpenSpec.upto (s : _root_.Go.ChangeSpec) : _root_.Go.OpenSpec := { _root_.Go.OpenSpec.ofChange s with cond := some uptoSmall }

/-- 'rolodexlaw29.ScriptWrites', WHERE WHAT IT READS IS OF BULK AT MOST 1048576: true; the input reads as it did. -/
def scriptWritesUptoRow : OpenClaim := { program := "ytkcicejnkdobpaadoor", sum := "4ac079992d7979925a97d75244076b0f9874cbd902b5fc52186211e59ddc8f16", func := "rolodex/rolodexlaw29.ScriptWrites", spec := "scriptWrites", inPlace := ["internal/abi.NoEscape", "internal/bytealg.MakeNoZero"], recurses := true, named := ["rolodex/script.forms"], apart := false, laid := [("rolodex/script.forms", laid_rolodex_script_forms)], narrowed := true }
def ScriptWritesUptoSaid : Prop := scriptWritesUptoRow.holds Tryd.pinned (OpenSpec.upto scriptWritesSpec)

/-- 'rolodexlaw29.ScriptReads', WHERE WHAT IT READS IS OF BULK AT MOST 1048576: true; the input reads as it did. -/
def scriptReadsUptoRow : OpenClaim := { program := "ytkcicejnkdobpaadoor", sum := "4ac079992d7979925a97d75244076b0f9874cbd902b5fc52186211e59ddc8f16", func := "rolodex/rolodexlaw29.ScriptReads", spec := "scriptReads", inPlace := ["internal/abi.NoEscape", "internal/bytealg.MakeNoZero", "internal/bytealg.CountString", "internal/bytealg.IndexByteString", "internal/bytealg.IndexString"], recurses := true, named := ["rolodex/script.forms", "internal/bytealg.MaxLen", "unicode/utf8.first", "unicode/utf8.acceptRanges"], apart := false, laid := [("unicode/utf8.acceptRanges", laid_unicode_utf8_acceptRanges), ("rolodex/script.forms", laid_rolodex_script_forms), ("unicode/utf8.first", laid_unicode_utf8_first)], narrowed := true }
def ScriptReadsUptoSaid : Prop := scriptReadsUptoRow.holds Tryd.pinned (OpenSpec.upto scriptReadsSpec)

/-- 'rolodexlaw29.ScriptBack', WHERE WHAT IT READS IS OF BULK AT MOST 1048576: true; the input reads as it did. -/
def scriptBackUptoRow : OpenClaim := { program := "ytkcicejnkdobpaadoor", sum := "4ac079992d7979925a97d75244076b0f9874cbd902b5fc52186211e59ddc8f16", func := "rolodex/rolodexlaw29.ScriptBack", spec := "scriptBack", inPlace := ["internal/abi.NoEscape", "internal/bytealg.MakeNoZero", "internal/bytealg.CountString", "internal/bytealg.IndexByteString", "internal/bytealg.IndexString"], named := ["rolodex/script.forms", "internal/bytealg.MaxLen", "unicode/utf8.first", "unicode/utf8.acceptRanges"], apart := false, laid := [("unicode/utf8.acceptRanges", laid_unicode_utf8_acceptRanges), ("rolodex/script.forms", laid_rolodex_script_forms), ("unicode/utf8.first", laid_unicode_utf8_first)], narrowed := true }
def ScriptBackUptoSaid : Prop := scriptBackUptoRow.holds Tryd.pinned (OpenSpec.upto scriptBackSpec)

/-- 'rolodexlaw29.ScriptWhere', WHERE WHAT IT READS IS OF BULK AT MOST 1048576: true; the input reads as it did. -/
def scriptWhereUptoRow : OpenClaim := { program := "ytkcicejnkdobpaadoor", sum := "4ac079992d7979925a97d75244076b0f9874cbd902b5fc52186211e59ddc8f16", func := "rolodex/rolodexlaw29.ScriptWhere", spec := "scriptWhere", inPlace := ["internal/abi.NoEscape", "internal/bytealg.MakeNoZero", "internal/bytealg.CountString", "internal/bytealg.IndexByteString", "internal/bytealg.IndexString"], named := ["rolodex/script.forms", "internal/bytealg.MaxLen", "unicode/utf8.first", "unicode/utf8.acceptRanges"], apart := false, laid := [("unicode/utf8.acceptRanges", laid_unicode_utf8_acceptRanges), ("rolodex/script.forms", laid_rolodex_script_forms), ("unicode/utf8.first", laid_unicode_utf8_first)], narrowed := true }
def ScriptWhereUptoSaid : Prop := scriptWhereUptoRow.holds Tryd.pinned (OpenSpec.upto scriptWhereSpec)

end Rows
end Go.Proofs.YtkcicejnkdobpaaDoor
