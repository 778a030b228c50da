/-
  DERIVED. GIVEN WITH THE SEED: THE CARDS: each row of YtfljmihdeimahaaGreatDoorRows.lean that lists a variable, with what it lists TIED to the program's text (the seventh form; the later family's looks); each row that meets fmt, with fmt's text TOLD by the authors' own Lean function (tested against real Go, not proved from fmt's source: count such statements apart). THE CARD IS WHAT COUNTS. Prove the row's statement (the work); the ties are given (YtfljmihdeimahaaGreatDoorTie.lean); close each card by the builder's one call (the guide's Derived/Test/ToyasCard.lean, 'card_holds'). Laid BY PROGRAM, IN A SANDBOX (cutbox-door.mjs). By AI agents, Wed Nov 11 2026. No macro, syntax, notation, axiom, sorry.
-/
import Derived.Test.YtfljmihdeimahaaGreatDoorRows
import GoSem.ClaimSeven
namespace Go.Proofs.YtfljmihdeimahaaGreatDoor
namespace Rows

/-- THE TIED CARD OF 'rolodexlaw20.PrimaryRecalls'. -/
def primaryRecallsCard : Claim7 := { stood := { row := primaryRecallsRow, standIns := [], harness := (true, "f34a8cb4c0ad778ac140b6a97acc941340d26a55a6e4bbb75dd82f023f5b9887"), looks := false }, kinds := [], alts := [], laidByText := true, laidKinds := [.data, .data, .data], laidTests := true, laidLooks := .later }
def PrimaryRecallsCardSaid : Prop := Claim7.holds Tryz.pinned (.plain (OpenSpec.ofChange primaryRecallsSpec)) primaryRecallsCard

/-- THE SECOND FORM's CARD OF 'rolodexlaw20.PrimaryRecalls'. -/
def primaryRecallsUptoCard : Claim7 := { stood := { row := primaryRecallsUptoRow, standIns := [], harness := (true, "f34a8cb4c0ad778ac140b6a97acc941340d26a55a6e4bbb75dd82f023f5b9887"), looks := false }, kinds := [], alts := [], laidByText := true, laidKinds := [.data, .data, .data], laidTests := true, laidLooks := .later }
def PrimaryRecallsUptoCardSaid : Prop := Claim7.holds Tryz.pinned (.plain (OpenSpec.upto primaryRecallsSpec)) primaryRecallsUptoCard
end Rows
end Go.Proofs.YtfljmihdeimahaaGreatDoor
