/-
  DERIVED. GIVEN WITH THE SEED: THE CARDS: each row of YtinpcefioadkcaaGreatDoorRows.lean that lists a variable, with what it lists TIED to the program's text (the seventh form; the later family's looks); each row that meets fmt, with fmt's text TOLD by the authors' own Lean function (tested against real Go, not proved from fmt's source: count such statements apart). THE CARD IS WHAT COUNTS. Prove the row's statement (the work); the ties are given (YtinpcefioadkcaaGreatDoorTie.lean); close each card by the builder's one call (the guide's Derived/Test/ToyasCard.lean, 'card_holds'). Laid BY PROGRAM, IN A SANDBOX (cutbox-door.mjs). By AI agents, Wed Nov 11 2026. No macro, syntax, notation, axiom, sorry.
-/
import Derived.Test.YtinpcefioadkcaaGreatDoorRows
import GoSem.ClaimSeven
namespace Go.Proofs.YtinpcefioadkcaaGreatDoor
namespace Rows

/-- THE TIED CARD OF 'rolodexlaw21.ReplicaNone'. -/
def replicaNoneCard : Claim7 := { stood := { row := replicaNoneRow, standIns := [], harness := (true, "bdcda6e5fcdd3019130dcb7a5a7337c9fbac6ce077a3b571e315f87fec239352"), looks := false }, kinds := [], alts := [], laidByText := true, laidKinds := [.data, .data, .data, .data, .data], laidTests := true, laidLooks := .later }
def ReplicaNoneCardSaid : Prop := Claim7.holds Tryz.pinned (.plain (OpenSpec.ofChange replicaNoneSpec)) replicaNoneCard

/-- THE TIED CARD OF 'rolodexlaw20.PrimaryNone'. -/
def primaryNoneCard : Claim7 := { stood := { row := primaryNoneRow, standIns := [], harness := (true, "bdcda6e5fcdd3019130dcb7a5a7337c9fbac6ce077a3b571e315f87fec239352"), looks := false }, kinds := [], alts := [], laidByText := true, laidKinds := [.data, .data, .data, .data, .data], laidTests := true, laidLooks := .later }
def PrimaryNoneCardSaid : Prop := Claim7.holds Tryz.pinned (.plain (OpenSpec.ofChange primaryNoneSpec)) primaryNoneCard

/-- THE SECOND FORM's CARD OF 'rolodexlaw21.ReplicaNone'. -/
def replicaNoneUptoCard : Claim7 := { stood := { row := replicaNoneUptoRow, standIns := [], harness := (true, "bdcda6e5fcdd3019130dcb7a5a7337c9fbac6ce077a3b571e315f87fec239352"), looks := false }, kinds := [], alts := [], laidByText := true, laidKinds := [.data, .data, .data, .data, .data], laidTests := true, laidLooks := .later }
def ReplicaNoneUptoCardSaid : Prop := Claim7.holds Tryz.pinned (.plain (OpenSpec.upto replicaNoneSpec)) replicaNoneUptoCard

/-- THE SECOND FORM's CARD OF 'rolodexlaw20.PrimaryNone'. -/
def primaryNoneUptoCard : Claim7 := { stood := { row := primaryNoneUptoRow, standIns := [], harness := (true, "bdcda6e5fcdd3019130dcb7a5a7337c9fbac6ce077a3b571e315f87fec239352"), looks := false }, kinds := [], alts := [], laidByText := true, laidKinds := [.data, .data, .data, .data, .data], laidTests := true, laidLooks := .later }
def PrimaryNoneUptoCardSaid : Prop := Claim7.holds Tryz.pinned (.plain (OpenSpec.upto primaryNoneSpec)) primaryNoneUptoCard
end Rows
end Go.Proofs.YtinpcefioadkcaaGreatDoor
