/-
  DERIVED. GIVEN WITH THE SEED: THE CARDS: each row of YtainieginijaaaaDoorRows.lean that lists a variable, with what it lists TIED to the program's text (the seventh form; the later family's looks); each row that meets fmt, with fmt's text TOLD by the authors' own Lean function (tested against real Go, not proved from fmt's source: count such statements apart). THE CARD IS WHAT COUNTS. Prove the row's statement (the work); the ties are given (YtainieginijaaaaDoorTie.lean); close each card by the builder's one call (the guide's Derived/Test/ToyasCard.lean, 'card_holds'). Laid BY PROGRAM, IN A SANDBOX (cutbox-door.mjs). By AI agents, Wed Nov 11 2026. No macro, syntax, notation, axiom, sorry.
-/
import Derived.Test.YtainieginijaaaaDoorRows
import GoSem.ClaimSeven
namespace Go.Proofs.YtainieginijaaaaDoor
namespace Rows

/-- THE TIED CARD OF 'posthouselaw02.DigestCuts'. -/
def digestCutsCard : Claim7 := { stood := { row := digestCutsRow, standIns := [], harness := (true, "7807a86762ca5c149268571ee93801a648df32d2f875157bfad2e6bce0f2b55c"), looks := false }, kinds := [], alts := [], laidByText := true, laidKinds := [.data], laidTests := true, laidLooks := .later }
def DigestCutsCardSaid : Prop := Claim7.holds Tryd.pinned (.plain (OpenSpec.ofChange digestCutsSpec)) digestCutsCard

/-- THE TIED CARD OF 'posthouselaw02.DigestBlocks'. -/
def digestBlocksCard : Claim7 := { stood := { row := digestBlocksRow, standIns := [], harness := (true, "7807a86762ca5c149268571ee93801a648df32d2f875157bfad2e6bce0f2b55c"), looks := false }, kinds := [], alts := [], laidByText := true, laidKinds := [.data], laidTests := true, laidLooks := .later }
def DigestBlocksCardSaid : Prop := Claim7.holds Tryd.pinned (.plain (OpenSpec.ofChange digestBlocksSpec)) digestBlocksCard

/-- THE SECOND FORM's CARD OF 'posthouselaw02.DigestCuts'. -/
def digestCutsUptoCard : Claim7 := { stood := { row := digestCutsUptoRow, standIns := [], harness := (true, "7807a86762ca5c149268571ee93801a648df32d2f875157bfad2e6bce0f2b55c"), looks := false }, kinds := [], alts := [], laidByText := true, laidKinds := [.data], laidTests := true, laidLooks := .later }
def DigestCutsUptoCardSaid : Prop := Claim7.holds Tryd.pinned (.plain (OpenSpec.upto digestCutsSpec)) digestCutsUptoCard

/-- THE SECOND FORM's CARD OF 'posthouselaw02.DigestBlocks'. -/
def digestBlocksUptoCard : Claim7 := { stood := { row := digestBlocksUptoRow, standIns := [], harness := (true, "7807a86762ca5c149268571ee93801a648df32d2f875157bfad2e6bce0f2b55c"), looks := false }, kinds := [], alts := [], laidByText := true, laidKinds := [.data], laidTests := true, laidLooks := .later }
def DigestBlocksUptoCardSaid : Prop := Claim7.holds Tryd.pinned (.plain (OpenSpec.upto digestBlocksSpec)) digestBlocksUptoCard
end Rows
end Go.Proofs.YtainieginijaaaaDoor
