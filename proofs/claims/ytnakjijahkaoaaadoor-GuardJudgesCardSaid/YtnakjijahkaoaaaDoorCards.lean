/-
  DERIVED. GIVEN WITH THE SEED: THE CARDS: each row of YtnakjijahkaoaaaDoorRows.lean that lists a variable, with what it lists TIED to the program's text (the seventh form; the later family's looks); each row that meets fmt, with fmt's text TOLD by the authors' own Lean function (tested against real Go, not proved from fmt's source: count such statements apart). THE CARD IS WHAT COUNTS. Prove the row's statement (the work); the ties are given (YtnakjijahkaoaaaDoorTie.lean); close each card by the builder's one call (the guide's Derived/Test/ToyasCard.lean, 'card_holds'). Laid BY PROGRAM, IN A SANDBOX (cutbox-door.mjs). By AI agents, Wed Nov 11 2026. No macro, syntax, notation, axiom, sorry.
-/
import Derived.Test.YtnakjijahkaoaaaDoorRows
import GoSem.ClaimSeven
namespace Go.Proofs.YtnakjijahkaoaaaDoor
namespace Rows

/-- THE TIED CARD OF 'posthouselaw03.ProofMakes'. -/
def proofMakesCard : Claim7 := { stood := { row := proofMakesRow, standIns := [], harness := (true, "8c9c0f8634a8ef80511c802a60e5c27e55c172721b8f5974d29f58d0fcce5a7b"), looks := false }, kinds := [], alts := [], laidByText := true, laidKinds := [.data], laidTests := true, laidLooks := .later }
def ProofMakesCardSaid : Prop := Claim7.holds Tryd.pinned (.plain (OpenSpec.ofChange proofMakesSpec)) proofMakesCard

/-- THE TIED CARD OF 'posthouselaw03.ProofRows'. -/
def proofRowsCard : Claim7 := { stood := { row := proofRowsRow, standIns := [], harness := (true, "8c9c0f8634a8ef80511c802a60e5c27e55c172721b8f5974d29f58d0fcce5a7b"), looks := false }, kinds := [], alts := [], laidByText := true, laidKinds := [.data], laidTests := true, laidLooks := .later }
def ProofRowsCardSaid : Prop := Claim7.holds Tryd.pinned (.plain (OpenSpec.ofChange proofRowsSpec)) proofRowsCard

/-- THE TIED CARD OF 'posthouselaw03.ProofKeys'. -/
def proofKeysCard : Claim7 := { stood := { row := proofKeysRow, standIns := [], harness := (true, "8c9c0f8634a8ef80511c802a60e5c27e55c172721b8f5974d29f58d0fcce5a7b"), looks := false }, kinds := [], alts := [], laidByText := true, laidKinds := [.data], laidTests := true, laidLooks := .later }
def ProofKeysCardSaid : Prop := Claim7.holds Tryd.pinned (.plain (OpenSpec.ofChange proofKeysSpec)) proofKeysCard

/-- THE TIED CARD OF 'posthouselaw03.ProofSets'. -/
def proofSetsCard : Claim7 := { stood := { row := proofSetsRow, standIns := [], harness := (true, "8c9c0f8634a8ef80511c802a60e5c27e55c172721b8f5974d29f58d0fcce5a7b"), looks := false }, kinds := [], alts := [], laidByText := true, laidKinds := [.data], laidTests := true, laidLooks := .later }
def ProofSetsCardSaid : Prop := Claim7.holds Tryd.pinned (.plain (OpenSpec.ofChange proofSetsSpec)) proofSetsCard

/-- THE TIED CARD OF 'posthouselaw15.GuardEchoes'. -/
def guardEchoesCard : Claim7 := { stood := { row := guardEchoesRow, standIns := [], harness := (true, "8c9c0f8634a8ef80511c802a60e5c27e55c172721b8f5974d29f58d0fcce5a7b"), looks := false }, kinds := [], alts := [], laidByText := true, laidKinds := [.data], laidTests := true, laidLooks := .later }
def GuardEchoesCardSaid : Prop := Claim7.holds Tryd.pinned (.plain (OpenSpec.ofChange guardEchoesSpec)) guardEchoesCard

/-- THE TIED CARD OF 'posthouselaw15.GuardLinks'. -/
def guardLinksCard : Claim7 := { stood := { row := guardLinksRow, standIns := [], harness := (true, "8c9c0f8634a8ef80511c802a60e5c27e55c172721b8f5974d29f58d0fcce5a7b"), looks := false }, kinds := [], alts := [], laidByText := true, laidKinds := [.data], laidTests := true, laidLooks := .later }
def GuardLinksCardSaid : Prop := Claim7.holds Tryd.pinned (.plain (OpenSpec.ofChange guardLinksSpec)) guardLinksCard

/-- THE TIED CARD OF 'posthouselaw15.GuardJudges'. -/
def guardJudgesCard : Claim7 := { stood := { row := guardJudgesRow, standIns := [], harness := (true, "8c9c0f8634a8ef80511c802a60e5c27e55c172721b8f5974d29f58d0fcce5a7b"), looks := false }, kinds := [], alts := [], laidByText := true, laidKinds := [.data], laidTests := true, laidLooks := .later }
def GuardJudgesCardSaid : Prop := Claim7.holds Tryd.pinned (.plain (OpenSpec.ofChange guardJudgesSpec)) guardJudgesCard

/-- THE TIED CARD OF 'posthouselaw15.GuardSecrets'. -/
def guardSecretsCard : Claim7 := { stood := { row := guardSecretsRow, standIns := [], harness := (true, "8c9c0f8634a8ef80511c802a60e5c27e55c172721b8f5974d29f58d0fcce5a7b"), looks := false }, kinds := [], alts := [], laidByText := true, laidKinds := [.data], laidTests := true, laidLooks := .later }
def GuardSecretsCardSaid : Prop := Claim7.holds Tryd.pinned (.plain (OpenSpec.ofChange guardSecretsSpec)) guardSecretsCard

/-- THE SECOND FORM's CARD OF 'posthouselaw03.ProofMakes'. -/
def proofMakesUptoCard : Claim7 := { stood := { row := proofMakesUptoRow, standIns := [], harness := (true, "8c9c0f8634a8ef80511c802a60e5c27e55c172721b8f5974d29f58d0fcce5a7b"), looks := false }, kinds := [], alts := [], laidByText := true, laidKinds := [.data], laidTests := true, laidLooks := .later }
def ProofMakesUptoCardSaid : Prop := Claim7.holds Tryd.pinned (.plain (OpenSpec.upto proofMakesSpec)) proofMakesUptoCard

/-- THE SECOND FORM's CARD OF 'posthouselaw03.ProofRows'. -/
def proofRowsUptoCard : Claim7 := { stood := { row := proofRowsUptoRow, standIns := [], harness := (true, "8c9c0f8634a8ef80511c802a60e5c27e55c172721b8f5974d29f58d0fcce5a7b"), looks := false }, kinds := [], alts := [], laidByText := true, laidKinds := [.data], laidTests := true, laidLooks := .later }
def ProofRowsUptoCardSaid : Prop := Claim7.holds Tryd.pinned (.plain (OpenSpec.upto proofRowsSpec)) proofRowsUptoCard

/-- THE SECOND FORM's CARD OF 'posthouselaw03.ProofKeys'. -/
def proofKeysUptoCard : Claim7 := { stood := { row := proofKeysUptoRow, standIns := [], harness := (true, "8c9c0f8634a8ef80511c802a60e5c27e55c172721b8f5974d29f58d0fcce5a7b"), looks := false }, kinds := [], alts := [], laidByText := true, laidKinds := [.data], laidTests := true, laidLooks := .later }
def ProofKeysUptoCardSaid : Prop := Claim7.holds Tryd.pinned (.plain (OpenSpec.upto proofKeysSpec)) proofKeysUptoCard

/-- THE SECOND FORM's CARD OF 'posthouselaw03.ProofSets'. -/
def proofSetsUptoCard : Claim7 := { stood := { row := proofSetsUptoRow, standIns := [], harness := (true, "8c9c0f8634a8ef80511c802a60e5c27e55c172721b8f5974d29f58d0fcce5a7b"), looks := false }, kinds := [], alts := [], laidByText := true, laidKinds := [.data], laidTests := true, laidLooks := .later }
def ProofSetsUptoCardSaid : Prop := Claim7.holds Tryd.pinned (.plain (OpenSpec.upto proofSetsSpec)) proofSetsUptoCard

/-- THE SECOND FORM's CARD OF 'posthouselaw15.GuardEchoes'. -/
def guardEchoesUptoCard : Claim7 := { stood := { row := guardEchoesUptoRow, standIns := [], harness := (true, "8c9c0f8634a8ef80511c802a60e5c27e55c172721b8f5974d29f58d0fcce5a7b"), looks := false }, kinds := [], alts := [], laidByText := true, laidKinds := [.data], laidTests := true, laidLooks := .later }
def GuardEchoesUptoCardSaid : Prop := Claim7.holds Tryd.pinned (.plain (OpenSpec.upto guardEchoesSpec)) guardEchoesUptoCard

/-- THE SECOND FORM's CARD OF 'posthouselaw15.GuardLinks'. -/
def guardLinksUptoCard : Claim7 := { stood := { row := guardLinksUptoRow, standIns := [], harness := (true, "8c9c0f8634a8ef80511c802a60e5c27e55c172721b8f5974d29f58d0fcce5a7b"), looks := false }, kinds := [], alts := [], laidByText := true, laidKinds := [.data], laidTests := true, laidLooks := .later }
def GuardLinksUptoCardSaid : Prop := Claim7.holds Tryd.pinned (.plain (OpenSpec.upto guardLinksSpec)) guardLinksUptoCard

/-- THE SECOND FORM's CARD OF 'posthouselaw15.GuardJudges'. -/
def guardJudgesUptoCard : Claim7 := { stood := { row := guardJudgesUptoRow, standIns := [], harness := (true, "8c9c0f8634a8ef80511c802a60e5c27e55c172721b8f5974d29f58d0fcce5a7b"), looks := false }, kinds := [], alts := [], laidByText := true, laidKinds := [.data], laidTests := true, laidLooks := .later }
def GuardJudgesUptoCardSaid : Prop := Claim7.holds Tryd.pinned (.plain (OpenSpec.upto guardJudgesSpec)) guardJudgesUptoCard

/-- THE SECOND FORM's CARD OF 'posthouselaw15.GuardSecrets'. -/
def guardSecretsUptoCard : Claim7 := { stood := { row := guardSecretsUptoRow, standIns := [], harness := (true, "8c9c0f8634a8ef80511c802a60e5c27e55c172721b8f5974d29f58d0fcce5a7b"), looks := false }, kinds := [], alts := [], laidByText := true, laidKinds := [.data], laidTests := true, laidLooks := .later }
def GuardSecretsUptoCardSaid : Prop := Claim7.holds Tryd.pinned (.plain (OpenSpec.upto guardSecretsSpec)) guardSecretsUptoCard
end Rows
end Go.Proofs.YtnakjijahkaoaaaDoor
