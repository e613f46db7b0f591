/-
  No cell of these rows narrows 'for every input' (looked for: loops, veiled, ifaces, maps, wideKeys, modest, calm, conditions, laid).
  DERIVED. THE GIVEN ROWS OF THIS SEAT. 7 by the template 'for every input the law returns true; each argument reads behind the call as it read before'; 0 by the template 'total and deterministic' (their statements: YtimdnodkabnbfaaTotals.lean).
  GIVEN WITH THE SEED: the statements are not yours to turn. If you find one false, say at which input.
  Laid BY PROGRAM, IN A SANDBOX (cutbox-rows.mjs): the forced cells as the released guide's own fill.sh prints them over the translation ad071e52a1d50cc3… (all of the seat's roots in one cut). By AI agents, Wed Nov 11 2026. No macro, syntax, notation, axiom, sorry.
-/
import Derived.Test.YtimdnodkabnbfaaChecked
import GoSem.Claim
import GoSem.ClaimJoined
import GoSem.ClaimMapViews
import Derived.JoinedTies
import Derived.KernelRfl
namespace Go.Proofs.Ytimdnodkabnbfaa
/- THE CELL 'sum', in the pinned program and in every row, IS THE sha256 OF THE DUMP (.gsa) THAT YtimdnodkabnbfaaProg.lean LOADS. Nothing in Lean hashes anything: it is a label: what it is worth is what the hold of that sum in a sandbox is worth. -/
noncomputable def Try.pinned : Pinned := { name := "ytimdnodkabnbfaa", sum := "ad071e52a1d50cc3313ce7757a23e306981f35af17816869d799096ebbbf4c48", checked := Try.checked }
namespace Rows
def none {H : Type} : Left H := { results := [], args := [] }

/-- 'posthouselaw11.LookupWalks': WHATEVER THE INPUT: true; the input reads as it did. -/
def lookupWalksSpec : ChangeSpec := { name := "lookupWalks", fn := fun _ => fun
  | [d1, d2, d3, d4] => { results := [.lit (.bool true)], args := [d1, d2, d3, d4] }
  | _ => none }
def lookupWalksRow : OpenClaim := { program := "ytimdnodkabnbfaa", sum := "ad071e52a1d50cc3313ce7757a23e306981f35af17816869d799096ebbbf4c48", func := "posthouse/posthouselaw11.LookupWalks", spec := "lookupWalks", unfollowed := true, recurses := true, apart := false }
def LookupWalksSaid : Prop := lookupWalksRow.holds Try.pinned (OpenSpec.ofChange lookupWalksSpec)

/-- ITS FALSE NEIGHBOUR: 'it returns false'. Refute it at one input. -/
def lookupWalksWrong : ChangeSpec := { name := "lookupWalks", fn := fun _ => fun
  | [d1, d2, d3, d4] => { results := [.lit (.bool false)], args := [d1, d2, d3, d4] }
  | _ => none }
def LookupWalksWrongFalsely : Prop := lookupWalksRow.holds Try.pinned (OpenSpec.ofChange lookupWalksWrong)

/-- 'posthouselaw11.LookupHops': WHATEVER THE INPUT: true; the input reads as it did. -/
def lookupHopsSpec : ChangeSpec := { name := "lookupHops", fn := fun _ => fun
  | [d1, d2, d3, d4] => { results := [.lit (.bool true)], args := [d1, d2, d3, d4] }
  | _ => none }
def lookupHopsRow : OpenClaim := { program := "ytimdnodkabnbfaa", sum := "ad071e52a1d50cc3313ce7757a23e306981f35af17816869d799096ebbbf4c48", func := "posthouse/posthouselaw11.LookupHops", spec := "lookupHops", unfollowed := true, recurses := true, apart := false }
def LookupHopsSaid : Prop := lookupHopsRow.holds Try.pinned (OpenSpec.ofChange lookupHopsSpec)

/-- ITS FALSE NEIGHBOUR: 'it returns false'. Refute it at one input. -/
def lookupHopsWrong : ChangeSpec := { name := "lookupHops", fn := fun _ => fun
  | [d1, d2, d3, d4] => { results := [.lit (.bool false)], args := [d1, d2, d3, d4] }
  | _ => none }
def LookupHopsWrongFalsely : Prop := lookupHopsRow.holds Try.pinned (OpenSpec.ofChange lookupHopsWrong)

/-- 'posthouselaw11.LookupLives': WHATEVER THE INPUT: true; the input reads as it did. -/
def lookupLivesSpec : ChangeSpec := { name := "lookupLives", fn := fun _ => fun
  | [d1, d2, d3, d4] => { results := [.lit (.bool true)], args := [d1, d2, d3, d4] }
  | _ => none }
def lookupLivesRow : OpenClaim := { program := "ytimdnodkabnbfaa", sum := "ad071e52a1d50cc3313ce7757a23e306981f35af17816869d799096ebbbf4c48", func := "posthouse/posthouselaw11.LookupLives", spec := "lookupLives", unfollowed := true, recurses := true, apart := false }
def LookupLivesSaid : Prop := lookupLivesRow.holds Try.pinned (OpenSpec.ofChange lookupLivesSpec)

/-- ITS FALSE NEIGHBOUR: 'it returns false'. Refute it at one input. -/
def lookupLivesWrong : ChangeSpec := { name := "lookupLives", fn := fun _ => fun
  | [d1, d2, d3, d4] => { results := [.lit (.bool false)], args := [d1, d2, d3, d4] }
  | _ => none }
def LookupLivesWrongFalsely : Prop := lookupLivesRow.holds Try.pinned (OpenSpec.ofChange lookupLivesWrong)

/-- 'posthouselaw11.LookupKeeps': WHATEVER THE INPUT: true; the input reads as it did. -/
def lookupKeepsSpec : ChangeSpec := { name := "lookupKeeps", fn := fun _ => fun
  | [d1, d2, d3] => { results := [.lit (.bool true)], args := [d1, d2, d3] }
  | _ => none }
def lookupKeepsRow : OpenClaim := { program := "ytimdnodkabnbfaa", sum := "ad071e52a1d50cc3313ce7757a23e306981f35af17816869d799096ebbbf4c48", func := "posthouse/posthouselaw11.LookupKeeps", spec := "lookupKeeps", unfollowed := true, recurses := true, apart := false }
def LookupKeepsSaid : Prop := lookupKeepsRow.holds Try.pinned (OpenSpec.ofChange lookupKeepsSpec)

/-- ITS FALSE NEIGHBOUR: 'it returns false'. Refute it at one input. -/
def lookupKeepsWrong : ChangeSpec := { name := "lookupKeeps", fn := fun _ => fun
  | [d1, d2, d3] => { results := [.lit (.bool false)], args := [d1, d2, d3] }
  | _ => none }
def LookupKeepsWrongFalsely : Prop := lookupKeepsRow.holds Try.pinned (OpenSpec.ofChange lookupKeepsWrong)

/-- 'posthouselaw11.LookupFinds': WHATEVER THE INPUT: true; the input reads as it did. -/
def lookupFindsSpec : ChangeSpec := { name := "lookupFinds", fn := fun _ => fun
  | [d1, d2] => { results := [.lit (.bool true)], args := [d1, d2] }
  | _ => none }
def lookupFindsRow : OpenClaim := { program := "ytimdnodkabnbfaa", sum := "ad071e52a1d50cc3313ce7757a23e306981f35af17816869d799096ebbbf4c48", func := "posthouse/posthouselaw11.LookupFinds", spec := "lookupFinds", unfollowed := true, recurses := true, apart := false }
def LookupFindsSaid : Prop := lookupFindsRow.holds Try.pinned (OpenSpec.ofChange lookupFindsSpec)

/-- ITS FALSE NEIGHBOUR: 'it returns false'. Refute it at one input. -/
def lookupFindsWrong : ChangeSpec := { name := "lookupFinds", fn := fun _ => fun
  | [d1, d2] => { results := [.lit (.bool false)], args := [d1, d2] }
  | _ => none }
def LookupFindsWrongFalsely : Prop := lookupFindsRow.holds Try.pinned (OpenSpec.ofChange lookupFindsWrong)

/-- 'posthouselaw11.LookupPoints': WHATEVER THE INPUT: true; the input reads as it did. -/
def lookupPointsSpec : ChangeSpec := { name := "lookupPoints", fn := fun _ => fun
  | [d1, d2, d3] => { results := [.lit (.bool true)], args := [d1, d2, d3] }
  | _ => none }
def lookupPointsRow : OpenClaim := { program := "ytimdnodkabnbfaa", sum := "ad071e52a1d50cc3313ce7757a23e306981f35af17816869d799096ebbbf4c48", func := "posthouse/posthouselaw11.LookupPoints", spec := "lookupPoints", unfollowed := true, recurses := true, apart := false }
def LookupPointsSaid : Prop := lookupPointsRow.holds Try.pinned (OpenSpec.ofChange lookupPointsSpec)

/-- ITS FALSE NEIGHBOUR: 'it returns false'. Refute it at one input. -/
def lookupPointsWrong : ChangeSpec := { name := "lookupPoints", fn := fun _ => fun
  | [d1, d2, d3] => { results := [.lit (.bool false)], args := [d1, d2, d3] }
  | _ => none }
def LookupPointsWrongFalsely : Prop := lookupPointsRow.holds Try.pinned (OpenSpec.ofChange lookupPointsWrong)

/-- 'posthouselaw10.ChordRounds': WHATEVER THE INPUT: true; the input reads as it did. -/
def chordRoundsSpec : ChangeSpec := { name := "chordRounds", fn := fun _ => fun
  | [d] => { results := [.lit (.bool true)], args := [d] }
  | _ => none }
def chordRoundsRow : OpenClaim := { program := "ytimdnodkabnbfaa", sum := "ad071e52a1d50cc3313ce7757a23e306981f35af17816869d799096ebbbf4c48", func := "posthouse/posthouselaw10.ChordRounds", spec := "chordRounds", inPlace := ["slices.overlaps[posthouse/api.Node]"], unfollowed := true, recurses := true, apart := false }
def ChordRoundsSaid : Prop := chordRoundsRow.holds Try.pinned (OpenSpec.ofChange chordRoundsSpec)

/-- ITS FALSE NEIGHBOUR: 'it returns false'. Refute it at one input. -/
def chordRoundsWrong : ChangeSpec := { name := "chordRounds", fn := fun _ => fun
  | [d] => { results := [.lit (.bool false)], args := [d] }
  | _ => none }
def ChordRoundsWrongFalsely : Prop := chordRoundsRow.holds Try.pinned (OpenSpec.ofChange chordRoundsWrong)

/- THE SECOND FORM. 'bulk': how many values and letters a reading holds, each counted each time it is reached (what is shared counts as often as it is met; a slice's spare places count too). A statement '..UptoSaid' is the law's where the arguments, and the package variables that the reading takes, are together of bulk at most 1048576: NARROWER than '..Said'. Prove '..Said' where nothing that the law and all that it calls make is longer than what came in: it says more and counts as full. Else prove '..UptoSaid'. A law counts once. -/
mutual
def uptoBulk {H : Type} : DataW H → Nat
  | .lit (.string bytes) => bytes.length + 1
  | .lit _ => 1
  | .nil => 1
  | .ptr d => uptoBulk d + 1
  | .slice elems spare => uptoBulkAll elems + uptoBulkAll spare + 1
  | .agg parts => uptoBulkAll parts + 1
  | .iface _ d => uptoBulk d + 1
  | .map entries => uptoBulkEntries entries + 1
  | .held _ => 1
def uptoBulkAll {H : Type} : List (DataW H) → Nat
  | [] => 0
  | d :: r => uptoBulk d + uptoBulkAll r
def uptoBulkEntries {H : Type} : List (Lit × DataW H) → Nat
  | [] => 0
  | x :: r => uptoBulkEntry x + uptoBulkEntries r
def uptoBulkEntry {H : Type} : Lit × DataW H → Nat
  | (.string bytes, d) => bytes.length + uptoBulk d + 1
  | (_, d) => uptoBulk d + 1
 end
def uptoSmall : (H : Type) → List (DataW H) → Bool := fun _ ds => decide (uptoBulkAll ds ≤ 1048576)
def OpenSpec.upto (s : _root_.Go.ChangeSpec) : _root_.Go.OpenSpec := { _root_.Go.OpenSpec.ofChange s with cond := some uptoSmall }

/-- 'posthouselaw11.LookupWalks', WHERE WHAT IT READS IS OF BULK AT MOST 1048576: true; the input reads as it did. -/
def lookupWalksUptoRow : OpenClaim := { program := "ytimdnodkabnbfaa", sum := "ad071e52a1d50cc3313ce7757a23e306981f35af17816869d799096ebbbf4c48", func := "posthouse/posthouselaw11.LookupWalks", spec := "lookupWalks", unfollowed := true, recurses := true, apart := false, narrowed := true }
def LookupWalksUptoSaid : Prop := lookupWalksUptoRow.holds Try.pinned (OpenSpec.upto lookupWalksSpec)

/-- 'posthouselaw11.LookupHops', WHERE WHAT IT READS IS OF BULK AT MOST 1048576: true; the input reads as it did. -/
def lookupHopsUptoRow : OpenClaim := { program := "ytimdnodkabnbfaa", sum := "ad071e52a1d50cc3313ce7757a23e306981f35af17816869d799096ebbbf4c48", func := "posthouse/posthouselaw11.LookupHops", spec := "lookupHops", unfollowed := true, recurses := true, apart := false, narrowed := true }
def LookupHopsUptoSaid : Prop := lookupHopsUptoRow.holds Try.pinned (OpenSpec.upto lookupHopsSpec)

/-- 'posthouselaw11.LookupLives', WHERE WHAT IT READS IS OF BULK AT MOST 1048576: true; the input reads as it did. -/
def lookupLivesUptoRow : OpenClaim := { program := "ytimdnodkabnbfaa", sum := "ad071e52a1d50cc3313ce7757a23e306981f35af17816869d799096ebbbf4c48", func := "posthouse/posthouselaw11.LookupLives", spec := "lookupLives", unfollowed := true, recurses := true, apart := false, narrowed := true }
def LookupLivesUptoSaid : Prop := lookupLivesUptoRow.holds Try.pinned (OpenSpec.upto lookupLivesSpec)

/-- 'posthouselaw11.LookupKeeps', WHERE WHAT IT READS IS OF BULK AT MOST 1048576: true; the input reads as it did. -/
def lookupKeepsUptoRow : OpenClaim := { program := "ytimdnodkabnbfaa", sum := "ad071e52a1d50cc3313ce7757a23e306981f35af17816869d799096ebbbf4c48", func := "posthouse/posthouselaw11.LookupKeeps", spec := "lookupKeeps", unfollowed := true, recurses := true, apart := false, narrowed := true }
def LookupKeepsUptoSaid : Prop := lookupKeepsUptoRow.holds Try.pinned (OpenSpec.upto lookupKeepsSpec)

/-- 'posthouselaw11.LookupFinds', WHERE WHAT IT READS IS OF BULK AT MOST 1048576: true; the input reads as it did. -/
def lookupFindsUptoRow : OpenClaim := { program := "ytimdnodkabnbfaa", sum := "ad071e52a1d50cc3313ce7757a23e306981f35af17816869d799096ebbbf4c48", func := "posthouse/posthouselaw11.LookupFinds", spec := "lookupFinds", unfollowed := true, recurses := true, apart := false, narrowed := true }
def LookupFindsUptoSaid : Prop := lookupFindsUptoRow.holds Try.pinned (OpenSpec.upto lookupFindsSpec)

/-- 'posthouselaw11.LookupPoints', WHERE WHAT IT READS IS OF BULK AT MOST 1048576: true; the input reads as it did. -/
def lookupPointsUptoRow : OpenClaim := { program := "ytimdnodkabnbfaa", sum := "ad071e52a1d50cc3313ce7757a23e306981f35af17816869d799096ebbbf4c48", func := "posthouse/posthouselaw11.LookupPoints", spec := "lookupPoints", unfollowed := true, recurses := true, apart := false, narrowed := true }
def LookupPointsUptoSaid : Prop := lookupPointsUptoRow.holds Try.pinned (OpenSpec.upto lookupPointsSpec)

/-- 'posthouselaw10.ChordRounds', WHERE WHAT IT READS IS OF BULK AT MOST 1048576: true; the input reads as it did. -/
def chordRoundsUptoRow : OpenClaim := { program := "ytimdnodkabnbfaa", sum := "ad071e52a1d50cc3313ce7757a23e306981f35af17816869d799096ebbbf4c48", func := "posthouse/posthouselaw10.ChordRounds", spec := "chordRounds", inPlace := ["slices.overlaps[posthouse/api.Node]"], unfollowed := true, recurses := true, apart := false, narrowed := true }
def ChordRoundsUptoSaid : Prop := chordRoundsUptoRow.holds Try.pinned (OpenSpec.upto chordRoundsSpec)

end Rows
end Go.Proofs.Ytimdnodkabnbfaa
