/-
  DERIVED. GIVEN WITH THE SEED: THE CARDS: each row of YtmbkoigeekofdaaDoorRows.lean that lists a variable, with what it lists TIED to the program's text (the seventh form; the later family's looks); each row that meets fmt, with fmt's text TOLD by the authors' own Lean function (tested against real Go, not proved from fmt's source: count such statements apart). THE CARD IS WHAT COUNTS. Prove the row's statement (the work); the ties are given (YtmbkoigeekofdaaDoorTie.lean); close each card by the builder's one call (the guide's Derived/Test/ToyasCard.lean, 'card_holds'). Laid BY PROGRAM, IN A SANDBOX (cutbox-door.mjs). By AI agents, Wed Nov 11 2026. No macro, syntax, notation, axiom, sorry.
-/
import Derived.Test.YtmbkoigeekofdaaDoorRows
import GoSem.ClaimSeven
namespace Go.Proofs.YtmbkoigeekofdaaDoor
namespace Rows

/-- THE TIED CARD OF 'rolodexlaw13.DeltaSince'. -/
def deltaSinceCard : Claim7 := { stood := { row := deltaSinceRow, standIns := [], harness := (true, "db2d0c56d0112baf52d1a6afadc55a0f4546ef92731b86e3836656f983a1a349"), looks := false }, kinds := [], alts := [], laidByText := true, laidKinds := [.data, .data], laidTests := true, laidLooks := .later }
def DeltaSinceCardSaid : Prop := Claim7.holds Tryd.pinned (.plain (OpenSpec.ofChange deltaSinceSpec)) deltaSinceCard

/-- THE TIED CARD OF 'rolodexlaw13.DeltaNone'. -/
def deltaNoneCard : Claim7 := { stood := { row := deltaNoneRow, standIns := [], harness := (true, "db2d0c56d0112baf52d1a6afadc55a0f4546ef92731b86e3836656f983a1a349"), looks := false }, kinds := [], alts := [], laidByText := true, laidKinds := [.data, .data], laidTests := true, laidLooks := .later }
def DeltaNoneCardSaid : Prop := Claim7.holds Tryd.pinned (.plain (OpenSpec.ofChange deltaNoneSpec)) deltaNoneCard

/-- THE TIED CARD OF 'rolodexlaw13.DeltaSound'. -/
def deltaSoundCard : Claim7 := { stood := { row := deltaSoundRow, standIns := [], harness := (true, "db2d0c56d0112baf52d1a6afadc55a0f4546ef92731b86e3836656f983a1a349"), looks := false }, kinds := [], alts := [], laidByText := true, laidKinds := [.data, .data], laidTests := true, laidLooks := .later }
def DeltaSoundCardSaid : Prop := Claim7.holds Tryd.pinned (.plain (OpenSpec.ofChange deltaSoundSpec)) deltaSoundCard

/-- THE SECOND FORM's CARD OF 'rolodexlaw13.DeltaSince'. -/
def deltaSinceUptoCard : Claim7 := { stood := { row := deltaSinceUptoRow, standIns := [], harness := (true, "db2d0c56d0112baf52d1a6afadc55a0f4546ef92731b86e3836656f983a1a349"), looks := false }, kinds := [], alts := [], laidByText := true, laidKinds := [.data, .data], laidTests := true, laidLooks := .later }
def DeltaSinceUptoCardSaid : Prop := Claim7.holds Tryd.pinned (.plain (OpenSpec.upto deltaSinceSpec)) deltaSinceUptoCard

/-- THE SECOND FORM's CARD OF 'rolodexlaw13.DeltaNone'. -/
def deltaNoneUptoCard : Claim7 := { stood := { row := deltaNoneUptoRow, standIns := [], harness := (true, "db2d0c56d0112baf52d1a6afadc55a0f4546ef92731b86e3836656f983a1a349"), looks := false }, kinds := [], alts := [], laidByText := true, laidKinds := [.data, .data], laidTests := true, laidLooks := .later }
def DeltaNoneUptoCardSaid : Prop := Claim7.holds Tryd.pinned (.plain (OpenSpec.upto deltaNoneSpec)) deltaNoneUptoCard

/-- THE SECOND FORM's CARD OF 'rolodexlaw13.DeltaSound'. -/
def deltaSoundUptoCard : Claim7 := { stood := { row := deltaSoundUptoRow, standIns := [], harness := (true, "db2d0c56d0112baf52d1a6afadc55a0f4546ef92731b86e3836656f983a1a349"), looks := false }, kinds := [], alts := [], laidByText := true, laidKinds := [.data, .data], laidTests := true, laidLooks := .later }
def DeltaSoundUptoCardSaid : Prop := Claim7.holds Tryd.pinned (.plain (OpenSpec.upto deltaSoundSpec)) deltaSoundUptoCard
end Rows
end Go.Proofs.YtmbkoigeekofdaaDoor
