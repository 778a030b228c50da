/-
  DERIVED. GIVEN WITH THE SEED: THE CARDS: each row of YtffaohckcggkdaaDoorRows.lean that lists a variable, with what it lists TIED to the program's text (the seventh form; the later family's looks); each row that meets fmt, with fmt's text TOLD by the authors' own Lean function (tested against real Go, not proved from fmt's source: count such statements apart). THE CARD IS WHAT COUNTS. Prove the row's statement (the work); the ties are given (YtffaohckcggkdaaDoorTie.lean); close each card by the builder's one call (the guide's Derived/Test/ToyasCard.lean, 'card_holds'). Laid BY PROGRAM, IN A SANDBOX (cutbox-door.mjs). By AI agents, Wed Nov 11 2026. No macro, syntax, notation, axiom, sorry.
-/
import Derived.Test.YtffaohckcggkdaaDoorRows
import GoSem.ClaimSeven
namespace Go.Proofs.YtffaohckcggkdaaDoor
namespace Rows

/-- THE TIED CARD OF 'rolodexlaw12.ProofSound'. -/
def proofSoundCard : Claim7 := { stood := { row := proofSoundRow, standIns := [], harness := (true, "323377bf0f5b9a6e3384b58cc5ee91a83a3ae5683882c75b7f84bd9db7d5358d"), looks := false }, kinds := [], alts := [], laidByText := true, laidKinds := [.data, .data], laidTests := true, laidLooks := .later }
def ProofSoundCardSaid : Prop := Claim7.holds Tryd.pinned (.plain (OpenSpec.ofChange proofSoundSpec)) proofSoundCard

/-- THE TIED CARD OF 'rolodexlaw12.ProofTurned'. -/
def proofTurnedCard : Claim7 := { stood := { row := proofTurnedRow, standIns := [], harness := (true, "323377bf0f5b9a6e3384b58cc5ee91a83a3ae5683882c75b7f84bd9db7d5358d"), looks := false }, kinds := [], alts := [], laidByText := true, laidKinds := [.data, .data], laidTests := true, laidLooks := .later }
def ProofTurnedCardSaid : Prop := Claim7.holds Tryd.pinned (.plain (OpenSpec.ofChange proofTurnedSpec)) proofTurnedCard

/-- THE TIED CARD OF 'rolodexlaw11.TrieTexts'. -/
def trieTextsCard : Claim7 := { stood := { row := trieTextsRow, standIns := [], harness := (true, "323377bf0f5b9a6e3384b58cc5ee91a83a3ae5683882c75b7f84bd9db7d5358d"), looks := false }, kinds := [], alts := [], laidByText := true, laidKinds := [.data, .data], laidTests := true, laidLooks := .later }
def TrieTextsCardSaid : Prop := Claim7.holds Tryd.pinned (.plain (OpenSpec.ofChange trieTextsSpec)) trieTextsCard

/-- THE TIED CARD OF 'rolodexlaw11.TrieNodes'. -/
def trieNodesCard : Claim7 := { stood := { row := trieNodesRow, standIns := [], harness := (true, "323377bf0f5b9a6e3384b58cc5ee91a83a3ae5683882c75b7f84bd9db7d5358d"), looks := false }, kinds := [], alts := [], laidByText := true, laidKinds := [.data, .data], laidTests := true, laidLooks := .later }
def TrieNodesCardSaid : Prop := Claim7.holds Tryd.pinned (.plain (OpenSpec.ofChange trieNodesSpec)) trieNodesCard

/-- THE TIED CARD OF 'rolodexlaw11.TrieAdds'. -/
def trieAddsCard : Claim7 := { stood := { row := trieAddsRow, standIns := [], harness := (true, "323377bf0f5b9a6e3384b58cc5ee91a83a3ae5683882c75b7f84bd9db7d5358d"), looks := false }, kinds := [], alts := [], laidByText := true, laidKinds := [.data, .data], laidTests := true, laidLooks := .later }
def TrieAddsCardSaid : Prop := Claim7.holds Tryd.pinned (.plain (OpenSpec.ofChange trieAddsSpec)) trieAddsCard

/-- THE TIED CARD OF 'rolodexlaw11.TrieOrder'. -/
def trieOrderCard : Claim7 := { stood := { row := trieOrderRow, standIns := [], harness := (true, "323377bf0f5b9a6e3384b58cc5ee91a83a3ae5683882c75b7f84bd9db7d5358d"), looks := false }, kinds := [], alts := [], laidByText := true, laidKinds := [.data, .data], laidTests := true, laidLooks := .later }
def TrieOrderCardSaid : Prop := Claim7.holds Tryd.pinned (.plain (OpenSpec.ofChange trieOrderSpec)) trieOrderCard

/-- THE TIED CARD OF 'rolodexlaw11.TriePuts'. -/
def triePutsCard : Claim7 := { stood := { row := triePutsRow, standIns := [], harness := (true, "323377bf0f5b9a6e3384b58cc5ee91a83a3ae5683882c75b7f84bd9db7d5358d"), looks := false }, kinds := [], alts := [], laidByText := true, laidKinds := [.data, .data], laidTests := true, laidLooks := .later }
def TriePutsCardSaid : Prop := Claim7.holds Tryd.pinned (.plain (OpenSpec.ofChange triePutsSpec)) triePutsCard

/-- THE TIED CARD OF 'rolodexlaw12.ProofNone'. -/
def proofNoneCard : Claim7 := { stood := { row := proofNoneRow, standIns := [], harness := (true, "323377bf0f5b9a6e3384b58cc5ee91a83a3ae5683882c75b7f84bd9db7d5358d"), looks := false }, kinds := [], alts := [], laidByText := true, laidKinds := [.data, .data], laidTests := true, laidLooks := .later }
def ProofNoneCardSaid : Prop := Claim7.holds Tryd.pinned (.plain (OpenSpec.ofChange proofNoneSpec)) proofNoneCard

/-- THE TIED CARD OF 'rolodexlaw11.TrieNone'. -/
def trieNoneCard : Claim7 := { stood := { row := trieNoneRow, standIns := [], harness := (true, "323377bf0f5b9a6e3384b58cc5ee91a83a3ae5683882c75b7f84bd9db7d5358d"), looks := false }, kinds := [], alts := [], laidByText := true, laidKinds := [.data, .data], laidTests := true, laidLooks := .later }
def TrieNoneCardSaid : Prop := Claim7.holds Tryd.pinned (.plain (OpenSpec.ofChange trieNoneSpec)) trieNoneCard

/-- THE TIED CARD OF 'rolodexlaw12.ProofShows'. -/
def proofShowsCard : Claim7 := { stood := { row := proofShowsRow, standIns := [], harness := (true, "323377bf0f5b9a6e3384b58cc5ee91a83a3ae5683882c75b7f84bd9db7d5358d"), looks := false }, kinds := [], alts := [], laidByText := true, laidKinds := [.data, .data], laidTests := true, laidLooks := .later }
def ProofShowsCardSaid : Prop := Claim7.holds Tryd.pinned (.plain (OpenSpec.ofChange proofShowsSpec)) proofShowsCard

/-- THE TIED CARD OF 'rolodexlaw12.ProofRight'. -/
def proofRightCard : Claim7 := { stood := { row := proofRightRow, standIns := [], harness := (true, "323377bf0f5b9a6e3384b58cc5ee91a83a3ae5683882c75b7f84bd9db7d5358d"), looks := false }, kinds := [], alts := [], laidByText := true, laidKinds := [.data, .data], laidTests := true, laidLooks := .later }
def ProofRightCardSaid : Prop := Claim7.holds Tryd.pinned (.plain (OpenSpec.ofChange proofRightSpec)) proofRightCard

/-- THE SECOND FORM's CARD OF 'rolodexlaw12.ProofSound'. -/
def proofSoundUptoCard : Claim7 := { stood := { row := proofSoundUptoRow, standIns := [], harness := (true, "323377bf0f5b9a6e3384b58cc5ee91a83a3ae5683882c75b7f84bd9db7d5358d"), looks := false }, kinds := [], alts := [], laidByText := true, laidKinds := [.data, .data], laidTests := true, laidLooks := .later }
def ProofSoundUptoCardSaid : Prop := Claim7.holds Tryd.pinned (.plain (OpenSpec.upto proofSoundSpec)) proofSoundUptoCard

/-- THE SECOND FORM's CARD OF 'rolodexlaw12.ProofTurned'. -/
def proofTurnedUptoCard : Claim7 := { stood := { row := proofTurnedUptoRow, standIns := [], harness := (true, "323377bf0f5b9a6e3384b58cc5ee91a83a3ae5683882c75b7f84bd9db7d5358d"), looks := false }, kinds := [], alts := [], laidByText := true, laidKinds := [.data, .data], laidTests := true, laidLooks := .later }
def ProofTurnedUptoCardSaid : Prop := Claim7.holds Tryd.pinned (.plain (OpenSpec.upto proofTurnedSpec)) proofTurnedUptoCard

/-- THE SECOND FORM's CARD OF 'rolodexlaw11.TrieTexts'. -/
def trieTextsUptoCard : Claim7 := { stood := { row := trieTextsUptoRow, standIns := [], harness := (true, "323377bf0f5b9a6e3384b58cc5ee91a83a3ae5683882c75b7f84bd9db7d5358d"), looks := false }, kinds := [], alts := [], laidByText := true, laidKinds := [.data, .data], laidTests := true, laidLooks := .later }
def TrieTextsUptoCardSaid : Prop := Claim7.holds Tryd.pinned (.plain (OpenSpec.upto trieTextsSpec)) trieTextsUptoCard

/-- THE SECOND FORM's CARD OF 'rolodexlaw11.TrieNodes'. -/
def trieNodesUptoCard : Claim7 := { stood := { row := trieNodesUptoRow, standIns := [], harness := (true, "323377bf0f5b9a6e3384b58cc5ee91a83a3ae5683882c75b7f84bd9db7d5358d"), looks := false }, kinds := [], alts := [], laidByText := true, laidKinds := [.data, .data], laidTests := true, laidLooks := .later }
def TrieNodesUptoCardSaid : Prop := Claim7.holds Tryd.pinned (.plain (OpenSpec.upto trieNodesSpec)) trieNodesUptoCard

/-- THE SECOND FORM's CARD OF 'rolodexlaw11.TrieAdds'. -/
def trieAddsUptoCard : Claim7 := { stood := { row := trieAddsUptoRow, standIns := [], harness := (true, "323377bf0f5b9a6e3384b58cc5ee91a83a3ae5683882c75b7f84bd9db7d5358d"), looks := false }, kinds := [], alts := [], laidByText := true, laidKinds := [.data, .data], laidTests := true, laidLooks := .later }
def TrieAddsUptoCardSaid : Prop := Claim7.holds Tryd.pinned (.plain (OpenSpec.upto trieAddsSpec)) trieAddsUptoCard

/-- THE SECOND FORM's CARD OF 'rolodexlaw11.TrieOrder'. -/
def trieOrderUptoCard : Claim7 := { stood := { row := trieOrderUptoRow, standIns := [], harness := (true, "323377bf0f5b9a6e3384b58cc5ee91a83a3ae5683882c75b7f84bd9db7d5358d"), looks := false }, kinds := [], alts := [], laidByText := true, laidKinds := [.data, .data], laidTests := true, laidLooks := .later }
def TrieOrderUptoCardSaid : Prop := Claim7.holds Tryd.pinned (.plain (OpenSpec.upto trieOrderSpec)) trieOrderUptoCard

/-- THE SECOND FORM's CARD OF 'rolodexlaw11.TriePuts'. -/
def triePutsUptoCard : Claim7 := { stood := { row := triePutsUptoRow, standIns := [], harness := (true, "323377bf0f5b9a6e3384b58cc5ee91a83a3ae5683882c75b7f84bd9db7d5358d"), looks := false }, kinds := [], alts := [], laidByText := true, laidKinds := [.data, .data], laidTests := true, laidLooks := .later }
def TriePutsUptoCardSaid : Prop := Claim7.holds Tryd.pinned (.plain (OpenSpec.upto triePutsSpec)) triePutsUptoCard

/-- THE SECOND FORM's CARD OF 'rolodexlaw12.ProofNone'. -/
def proofNoneUptoCard : Claim7 := { stood := { row := proofNoneUptoRow, standIns := [], harness := (true, "323377bf0f5b9a6e3384b58cc5ee91a83a3ae5683882c75b7f84bd9db7d5358d"), looks := false }, kinds := [], alts := [], laidByText := true, laidKinds := [.data, .data], laidTests := true, laidLooks := .later }
def ProofNoneUptoCardSaid : Prop := Claim7.holds Tryd.pinned (.plain (OpenSpec.upto proofNoneSpec)) proofNoneUptoCard

/-- THE SECOND FORM's CARD OF 'rolodexlaw11.TrieNone'. -/
def trieNoneUptoCard : Claim7 := { stood := { row := trieNoneUptoRow, standIns := [], harness := (true, "323377bf0f5b9a6e3384b58cc5ee91a83a3ae5683882c75b7f84bd9db7d5358d"), looks := false }, kinds := [], alts := [], laidByText := true, laidKinds := [.data, .data], laidTests := true, laidLooks := .later }
def TrieNoneUptoCardSaid : Prop := Claim7.holds Tryd.pinned (.plain (OpenSpec.upto trieNoneSpec)) trieNoneUptoCard

/-- THE SECOND FORM's CARD OF 'rolodexlaw12.ProofShows'. -/
def proofShowsUptoCard : Claim7 := { stood := { row := proofShowsUptoRow, standIns := [], harness := (true, "323377bf0f5b9a6e3384b58cc5ee91a83a3ae5683882c75b7f84bd9db7d5358d"), looks := false }, kinds := [], alts := [], laidByText := true, laidKinds := [.data, .data], laidTests := true, laidLooks := .later }
def ProofShowsUptoCardSaid : Prop := Claim7.holds Tryd.pinned (.plain (OpenSpec.upto proofShowsSpec)) proofShowsUptoCard

/-- THE SECOND FORM's CARD OF 'rolodexlaw12.ProofRight'. -/
def proofRightUptoCard : Claim7 := { stood := { row := proofRightUptoRow, standIns := [], harness := (true, "323377bf0f5b9a6e3384b58cc5ee91a83a3ae5683882c75b7f84bd9db7d5358d"), looks := false }, kinds := [], alts := [], laidByText := true, laidKinds := [.data, .data], laidTests := true, laidLooks := .later }
def ProofRightUptoCardSaid : Prop := Claim7.holds Tryd.pinned (.plain (OpenSpec.upto proofRightSpec)) proofRightUptoCard
end Rows
end Go.Proofs.YtffaohckcggkdaaDoor
