/-
  DERIVED. GIVEN WITH THE SEED: THE CARDS: each row of YtepongfhnammkaaDoorRows.lean that lists a variable, with what it lists TIED to the program's text (the seventh form; the later family's looks); each row that meets fmt, with fmt's text TOLD by the authors' own Lean function (tested against real Go, not proved from fmt's source: count such statements apart). THE CARD IS WHAT COUNTS. Prove the row's statement (the work); the ties are given (YtepongfhnammkaaDoorTie.lean); close each card by the builder's one call (the guide's Derived/Test/ToyasCard.lean, 'card_holds'). Laid BY PROGRAM, IN A SANDBOX (cutbox-door.mjs). By AI agents, Wed Nov 11 2026. No macro, syntax, notation, axiom, sorry.
-/
import Derived.Test.YtepongfhnammkaaDoorRows
import GoSem.ClaimSeven
namespace Go.Proofs.YtepongfhnammkaaDoor
namespace Rows

/-- THE TIED CARD OF 'rolodexlaw30.ReportWrites'. -/
def reportWritesCard : Claim7 := { stood := { row := reportWritesRow, standIns := [], harness := (true, "78036701f77a1fa79a605154f177894b14113cf75a33e37cd63bd8186099db2e"), looks := false }, kinds := [], alts := [], laidByText := true, laidKinds := [.data, .data, .data], laidTests := true, laidLooks := .later }
def ReportWritesCardSaid : Prop := Claim7.holds Tryd.pinned (.plain (OpenSpec.ofChange reportWritesSpec)) reportWritesCard

/-- THE TIED CARD OF 'rolodexlaw30.ReportReads'. -/
def reportReadsCard : Claim7 := { stood := { row := reportReadsRow, standIns := [], harness := (true, "78036701f77a1fa79a605154f177894b14113cf75a33e37cd63bd8186099db2e"), looks := false }, kinds := [], alts := [], laidByText := true, laidKinds := [.data, .data, .data, .data, .data, .pinned], laidTests := true, laidLooks := .later }
def ReportReadsCardSaid : Prop := Claim7.holds Tryd.pinned (.plain (OpenSpec.ofChange reportReadsSpec)) reportReadsCard

/-- THE TIED CARD OF 'rolodexlaw30.ReportBack'. -/
def reportBackCard : Claim7 := { stood := { row := reportBackRow, standIns := [], harness := (true, "78036701f77a1fa79a605154f177894b14113cf75a33e37cd63bd8186099db2e"), looks := false }, kinds := [], alts := [], laidByText := true, laidKinds := [.data, .data, .data, .data, .data, .pinned], laidTests := true, laidLooks := .later }
def ReportBackCardSaid : Prop := Claim7.holds Tryd.pinned (.plain (OpenSpec.ofChange reportBackSpec)) reportBackCard

/-- THE TIED CARD OF 'rolodexlaw30.ReportNone'. -/
def reportNoneCard : Claim7 := { stood := { row := reportNoneRow, standIns := [], harness := (true, "78036701f77a1fa79a605154f177894b14113cf75a33e37cd63bd8186099db2e"), looks := false }, kinds := [], alts := [], laidByText := true, laidKinds := [.data, .data, .data, .data, .data, .pinned], laidTests := true, laidLooks := .later }
def ReportNoneCardSaid : Prop := Claim7.holds Tryd.pinned (.plain (OpenSpec.ofChange reportNoneSpec)) reportNoneCard

/-- THE SECOND FORM's CARD OF 'rolodexlaw30.ReportWrites'. -/
def reportWritesUptoCard : Claim7 := { stood := { row := reportWritesUptoRow, standIns := [], harness := (true, "78036701f77a1fa79a605154f177894b14113cf75a33e37cd63bd8186099db2e"), looks := false }, kinds := [], alts := [], laidByText := true, laidKinds := [.data, .data, .data], laidTests := true, laidLooks := .later }
def ReportWritesUptoCardSaid : Prop := Claim7.holds Tryd.pinned (.plain (OpenSpec.upto reportWritesSpec)) reportWritesUptoCard

/-- THE SECOND FORM's CARD OF 'rolodexlaw30.ReportReads'. -/
def reportReadsUptoCard : Claim7 := { stood := { row := reportReadsUptoRow, standIns := [], harness := (true, "78036701f77a1fa79a605154f177894b14113cf75a33e37cd63bd8186099db2e"), looks := false }, kinds := [], alts := [], laidByText := true, laidKinds := [.data, .data, .data, .data, .data, .pinned], laidTests := true, laidLooks := .later }
def ReportReadsUptoCardSaid : Prop := Claim7.holds Tryd.pinned (.plain (OpenSpec.upto reportReadsSpec)) reportReadsUptoCard

/-- THE SECOND FORM's CARD OF 'rolodexlaw30.ReportBack'. -/
def reportBackUptoCard : Claim7 := { stood := { row := reportBackUptoRow, standIns := [], harness := (true, "78036701f77a1fa79a605154f177894b14113cf75a33e37cd63bd8186099db2e"), looks := false }, kinds := [], alts := [], laidByText := true, laidKinds := [.data, .data, .data, .data, .data, .pinned], laidTests := true, laidLooks := .later }
def ReportBackUptoCardSaid : Prop := Claim7.holds Tryd.pinned (.plain (OpenSpec.upto reportBackSpec)) reportBackUptoCard

/-- THE SECOND FORM's CARD OF 'rolodexlaw30.ReportNone'. -/
def reportNoneUptoCard : Claim7 := { stood := { row := reportNoneUptoRow, standIns := [], harness := (true, "78036701f77a1fa79a605154f177894b14113cf75a33e37cd63bd8186099db2e"), looks := false }, kinds := [], alts := [], laidByText := true, laidKinds := [.data, .data, .data, .data, .data, .pinned], laidTests := true, laidLooks := .later }
def ReportNoneUptoCardSaid : Prop := Claim7.holds Tryd.pinned (.plain (OpenSpec.upto reportNoneSpec)) reportNoneUptoCard
end Rows
end Go.Proofs.YtepongfhnammkaaDoor
