/-
  DERIVED. GIVEN WITH THE SEED: THE CARDS: each row of YtdflndjlnkoliaaGreatDoorRows.lean that lists a variable, with what it lists TIED to the program's text (the seventh form; the later family's looks); each row that meets fmt, with fmt's text TOLD by the authors' own Lean function (tested against real Go, not proved from fmt's source: count such statements apart). THE CARD IS WHAT COUNTS. Prove the row's statement (the work); the ties are given (YtdflndjlnkoliaaGreatDoorTie.lean); close each card by the builder's one call (the guide's Derived/Test/ToyasCard.lean, 'card_holds'). Laid BY PROGRAM, IN A SANDBOX (cutbox-door.mjs). By AI agents, Wed Nov 11 2026. No macro, syntax, notation, axiom, sorry.
-/
import Derived.Test.YtdflndjlnkoliaaGreatDoorRows
import GoSem.ClaimSeven
namespace Go.Proofs.YtdflndjlnkoliaaGreatDoor
namespace Rows

/-- THE TIED CARD OF 'rolodexlaw19.EpochTrails'. -/
def epochTrailsCard : Claim7 := { stood := { row := epochTrailsRow, standIns := [], harness := (true, "8755d3fe3f96c67a05c75ddb2c0607b5481548266fc9026afa405d886983150e"), looks := false }, kinds := [], alts := [], laidByText := true, laidKinds := [.data, .data], laidTests := true, laidLooks := .later }
def EpochTrailsCardSaid : Prop := Claim7.holds Tryz.pinned (.plain (OpenSpec.ofChange epochTrailsSpec)) epochTrailsCard

/-- THE TIED CARD OF 'rolodexlaw19.EpochSeals'. -/
def epochSealsCard : Claim7 := { stood := { row := epochSealsRow, standIns := [], harness := (true, "8755d3fe3f96c67a05c75ddb2c0607b5481548266fc9026afa405d886983150e"), looks := false }, kinds := [], alts := [], laidByText := true, laidKinds := [.data, .data, .data, .data], laidTests := true, laidLooks := .later }
def EpochSealsCardSaid : Prop := Claim7.holds Tryz.pinned (.plain (OpenSpec.ofChange epochSealsSpec)) epochSealsCard

/-- THE TIED CARD OF 'rolodexlaw19.EpochNil'. -/
def epochNilCard : Claim7 := { stood := { row := epochNilRow, standIns := [], harness := (true, "8755d3fe3f96c67a05c75ddb2c0607b5481548266fc9026afa405d886983150e"), looks := false }, kinds := [], alts := [], laidByText := true, laidKinds := [.data, .data, .data, .data], laidTests := true, laidLooks := .later }
def EpochNilCardSaid : Prop := Claim7.holds Tryz.pinned (.plain (OpenSpec.ofChange epochNilSpec)) epochNilCard

/-- THE SECOND FORM's CARD OF 'rolodexlaw19.EpochTrails'. -/
def epochTrailsUptoCard : Claim7 := { stood := { row := epochTrailsUptoRow, standIns := [], harness := (true, "8755d3fe3f96c67a05c75ddb2c0607b5481548266fc9026afa405d886983150e"), looks := false }, kinds := [], alts := [], laidByText := true, laidKinds := [.data, .data], laidTests := true, laidLooks := .later }
def EpochTrailsUptoCardSaid : Prop := Claim7.holds Tryz.pinned (.plain (OpenSpec.upto epochTrailsSpec)) epochTrailsUptoCard

/-- THE SECOND FORM's CARD OF 'rolodexlaw19.EpochSeals'. -/
def epochSealsUptoCard : Claim7 := { stood := { row := epochSealsUptoRow, standIns := [], harness := (true, "8755d3fe3f96c67a05c75ddb2c0607b5481548266fc9026afa405d886983150e"), looks := false }, kinds := [], alts := [], laidByText := true, laidKinds := [.data, .data, .data, .data], laidTests := true, laidLooks := .later }
def EpochSealsUptoCardSaid : Prop := Claim7.holds Tryz.pinned (.plain (OpenSpec.upto epochSealsSpec)) epochSealsUptoCard

/-- THE SECOND FORM's CARD OF 'rolodexlaw19.EpochNil'. -/
def epochNilUptoCard : Claim7 := { stood := { row := epochNilUptoRow, standIns := [], harness := (true, "8755d3fe3f96c67a05c75ddb2c0607b5481548266fc9026afa405d886983150e"), looks := false }, kinds := [], alts := [], laidByText := true, laidKinds := [.data, .data, .data, .data], laidTests := true, laidLooks := .later }
def EpochNilUptoCardSaid : Prop := Claim7.holds Tryz.pinned (.plain (OpenSpec.upto epochNilSpec)) epochNilUptoCard
end Rows
end Go.Proofs.YtdflndjlnkoliaaGreatDoor
