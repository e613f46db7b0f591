/-
  No cell of these rows narrows 'for every input' (looked for: loops, veiled, ifaces, maps, wideKeys, modest, calm, conditions, laid).
  DERIVED. THE GIVEN ROWS OF THIS SEAT. 5 by the template 'for every input the law returns true; each argument reads behind the call as it read before'; 0 by the template 'total and deterministic' (their statements: YtiaplhcifflibaaTotals.lean).
  GIVEN WITH THE SEED: the statements are not yours to turn. If you find one false, say at which input.
  Laid BY PROGRAM, IN A SANDBOX (cutbox-rows.mjs): the forced cells as the released guide's own fill.sh prints them over the translation d903cdb877e3d8fd… (all of the seat's roots in one cut). By AI agents, Wed Nov 11 2026. No macro, syntax, notation, axiom, sorry.
-/
import Derived.Test.YtiaplhcifflibaaChecked
import GoSem.Claim
import GoSem.ClaimJoined
import GoSem.ClaimMapViews
import Derived.JoinedTies
import Derived.KernelRfl
namespace Go.Proofs.Ytiaplhcifflibaa
/- THE CELL 'sum', in the pinned program and in every row, IS THE sha256 OF THE DUMP (.gsa) THAT YtiaplhcifflibaaProg.lean LOADS. Nothing in Lean hashes anything: it is a label: what it is worth is what the hold of that sum in a sandbox is worth. -/
noncomputable def Try.pinned : Pinned := { name := "ytiaplhcifflibaa", sum := "d903cdb877e3d8fdee9a53f7bda25c8425f4c1590d00a990b40426e53b3556c9", checked := Try.checked }
namespace Rows
def none {H : Type} : Left H := { results := [], args := [] }

/-- 'posthouselaw07.RingOwns': WHATEVER THE INPUT: true; the input reads as it did. -/
def ringOwnsSpec : ChangeSpec := { name := "ringOwns", fn := fun _ => fun
  | [d1, d2] => { results := [.lit (.bool true)], args := [d1, d2] }
  | _ => none }
def ringOwnsRow : OpenClaim := { program := "ytiaplhcifflibaa", sum := "d903cdb877e3d8fdee9a53f7bda25c8425f4c1590d00a990b40426e53b3556c9", func := "posthouse/posthouselaw07.RingOwns", spec := "ringOwns", unfollowed := true, recurses := true, apart := false }
def RingOwnsSaid : Prop := ringOwnsRow.holds Try.pinned (OpenSpec.ofChange ringOwnsSpec)

/-- ITS FALSE NEIGHBOUR: 'it returns false'. Refute it at one input. -/
def ringOwnsWrong : ChangeSpec := { name := "ringOwns", fn := fun _ => fun
  | [d1, d2] => { results := [.lit (.bool false)], args := [d1, d2] }
  | _ => none }
def RingOwnsWrongFalsely : Prop := ringOwnsRow.holds Try.pinned (OpenSpec.ofChange ringOwnsWrong)

/-- 'posthouselaw07.RingComes': WHATEVER THE INPUT: true; the input reads as it did. -/
def ringComesSpec : ChangeSpec := { name := "ringComes", fn := fun _ => fun
  | [d1, d2, d3] => { results := [.lit (.bool true)], args := [d1, d2, d3] }
  | _ => none }
def ringComesRow : OpenClaim := { program := "ytiaplhcifflibaa", sum := "d903cdb877e3d8fdee9a53f7bda25c8425f4c1590d00a990b40426e53b3556c9", func := "posthouse/posthouselaw07.RingComes", spec := "ringComes", unfollowed := true, recurses := true, apart := false }
def RingComesSaid : Prop := ringComesRow.holds Try.pinned (OpenSpec.ofChange ringComesSpec)

/-- ITS FALSE NEIGHBOUR: 'it returns false'. Refute it at one input. -/
def ringComesWrong : ChangeSpec := { name := "ringComes", fn := fun _ => fun
  | [d1, d2, d3] => { results := [.lit (.bool false)], args := [d1, d2, d3] }
  | _ => none }
def RingComesWrongFalsely : Prop := ringComesRow.holds Try.pinned (OpenSpec.ofChange ringComesWrong)

/-- 'posthouselaw07.RingGoes': WHATEVER THE INPUT: true; the input reads as it did. -/
def ringGoesSpec : ChangeSpec := { name := "ringGoes", fn := fun _ => fun
  | [d1, d2, d3] => { results := [.lit (.bool true)], args := [d1, d2, d3] }
  | _ => none }
def ringGoesRow : OpenClaim := { program := "ytiaplhcifflibaa", sum := "d903cdb877e3d8fdee9a53f7bda25c8425f4c1590d00a990b40426e53b3556c9", func := "posthouse/posthouselaw07.RingGoes", spec := "ringGoes", unfollowed := true, recurses := true, apart := false }
def RingGoesSaid : Prop := ringGoesRow.holds Try.pinned (OpenSpec.ofChange ringGoesSpec)

/-- ITS FALSE NEIGHBOUR: 'it returns false'. Refute it at one input. -/
def ringGoesWrong : ChangeSpec := { name := "ringGoes", fn := fun _ => fun
  | [d1, d2, d3] => { results := [.lit (.bool false)], args := [d1, d2, d3] }
  | _ => none }
def RingGoesWrongFalsely : Prop := ringGoesRow.holds Try.pinned (OpenSpec.ofChange ringGoesWrong)

/-- 'posthouselaw07.RingFollows': WHATEVER THE INPUT: true; the input reads as it did. -/
def ringFollowsSpec : ChangeSpec := { name := "ringFollows", fn := fun _ => fun
  | [d1, d2, d3] => { results := [.lit (.bool true)], args := [d1, d2, d3] }
  | _ => none }
def ringFollowsRow : OpenClaim := { program := "ytiaplhcifflibaa", sum := "d903cdb877e3d8fdee9a53f7bda25c8425f4c1590d00a990b40426e53b3556c9", func := "posthouse/posthouselaw07.RingFollows", spec := "ringFollows", unfollowed := true, recurses := true, apart := false }
def RingFollowsSaid : Prop := ringFollowsRow.holds Try.pinned (OpenSpec.ofChange ringFollowsSpec)

/-- ITS FALSE NEIGHBOUR: 'it returns false'. Refute it at one input. -/
def ringFollowsWrong : ChangeSpec := { name := "ringFollows", fn := fun _ => fun
  | [d1, d2, d3] => { results := [.lit (.bool false)], args := [d1, d2, d3] }
  | _ => none }
def RingFollowsWrongFalsely : Prop := ringFollowsRow.holds Try.pinned (OpenSpec.ofChange ringFollowsWrong)

/-- 'posthouselaw07.RingTakes': WHATEVER THE INPUT: true; the input reads as it did. -/
def ringTakesSpec : ChangeSpec := { name := "ringTakes", fn := fun _ => fun
  | [d1, d2] => { results := [.lit (.bool true)], args := [d1, d2] }
  | _ => none }
def ringTakesRow : OpenClaim := { program := "ytiaplhcifflibaa", sum := "d903cdb877e3d8fdee9a53f7bda25c8425f4c1590d00a990b40426e53b3556c9", func := "posthouse/posthouselaw07.RingTakes", spec := "ringTakes", unfollowed := true, recurses := true, apart := false }
def RingTakesSaid : Prop := ringTakesRow.holds Try.pinned (OpenSpec.ofChange ringTakesSpec)

/-- ITS FALSE NEIGHBOUR: 'it returns false'. Refute it at one input. -/
def ringTakesWrong : ChangeSpec := { name := "ringTakes", fn := fun _ => fun
  | [d1, d2] => { results := [.lit (.bool false)], args := [d1, d2] }
  | _ => none }
def RingTakesWrongFalsely : Prop := ringTakesRow.holds Try.pinned (OpenSpec.ofChange ringTakesWrong)

/- THE SECOND FORM. 'bulk': how many values and letters a reading holds, each counted each time it is reached (what is shared counts as often as it is met; a slice's spare places count too). A statement '..UptoSaid' is the law's where the arguments, and the package variables that the reading takes, are together of bulk at most 1048576: NARROWER than '..Said'. Prove '..Said' where nothing that the law and all that it calls make is longer than what came in: it says more and counts as full. Else prove '..UptoSaid'. A law counts once. -/
mutual
def uptoBulk {H : Type} : DataW H → Nat
  | .lit (.string bytes) => bytes.length + 1
  | .lit _ => 1
  | .nil => 1
  | .ptr d => uptoBulk d + 1
  | .slice elems spare => uptoBulkAll elems + uptoBulkAll spare + 1
  | .agg parts => uptoBulkAll parts + 1
  | .iface _ d => uptoBulk d + 1
  | .map entries => uptoBulkEntries entries + 1
  | .held _ => 1
def uptoBulkAll {H : Type} : List (DataW H) → Nat
  | [] => 0
  | d :: r => uptoBulk d + uptoBulkAll r
def uptoBulkEntries {H : Type} : List (Lit × DataW H) → Nat
  | [] => 0
  | x :: r => uptoBulkEntry x + uptoBulkEntries r
def uptoBulkEntry {H : Type} : Lit × DataW H → Nat
  | (.string bytes, d) => bytes.length + uptoBulk d + 1
  | (_, d) => uptoBulk d + 1
 end
def uptoSmall : (H : Type) → List (DataW H) → Bool := fun _ ds => decide (uptoBulkAll ds ≤ 1048576)
def OpenSpec.upto (s : _root_.Go.ChangeSpec) : _root_.Go.OpenSpec := { _root_.Go.OpenSpec.ofChange s with cond := some uptoSmall }

/-- 'posthouselaw07.RingOwns', WHERE WHAT IT READS IS OF BULK AT MOST 1048576: true; the input reads as it did. -/
def ringOwnsUptoRow : OpenClaim := { program := "ytiaplhcifflibaa", sum := "d903cdb877e3d8fdee9a53f7bda25c8425f4c1590d00a990b40426e53b3556c9", func := "posthouse/posthouselaw07.RingOwns", spec := "ringOwns", unfollowed := true, recurses := true, apart := false, narrowed := true }
def RingOwnsUptoSaid : Prop := ringOwnsUptoRow.holds Try.pinned (OpenSpec.upto ringOwnsSpec)

/-- 'posthouselaw07.RingComes', WHERE WHAT IT READS IS OF BULK AT MOST 1048576: true; the input reads as it did. -/
def ringComesUptoRow : OpenClaim := { program := "ytiaplhcifflibaa", sum := "d903cdb877e3d8fdee9a53f7bda25c8425f4c1590d00a990b40426e53b3556c9", func := "posthouse/posthouselaw07.RingComes", spec := "ringComes", unfollowed := true, recurses := true, apart := false, narrowed := true }
def RingComesUptoSaid : Prop := ringComesUptoRow.holds Try.pinned (OpenSpec.upto ringComesSpec)

/-- 'posthouselaw07.RingGoes', WHERE WHAT IT READS IS OF BULK AT MOST 1048576: true; the input reads as it did. -/
def ringGoesUptoRow : OpenClaim := { program := "ytiaplhcifflibaa", sum := "d903cdb877e3d8fdee9a53f7bda25c8425f4c1590d00a990b40426e53b3556c9", func := "posthouse/posthouselaw07.RingGoes", spec := "ringGoes", unfollowed := true, recurses := true, apart := false, narrowed := true }
def RingGoesUptoSaid : Prop := ringGoesUptoRow.holds Try.pinned (OpenSpec.upto ringGoesSpec)

/-- 'posthouselaw07.RingFollows', WHERE WHAT IT READS IS OF BULK AT MOST 1048576: true; the input reads as it did. -/
def ringFollowsUptoRow : OpenClaim := { program := "ytiaplhcifflibaa", sum := "d903cdb877e3d8fdee9a53f7bda25c8425f4c1590d00a990b40426e53b3556c9", func := "posthouse/posthouselaw07.RingFollows", spec := "ringFollows", unfollowed := true, recurses := true, apart := false, narrowed := true }
def RingFollowsUptoSaid : Prop := ringFollowsUptoRow.holds Try.pinned (OpenSpec.upto ringFollowsSpec)

/-- 'posthouselaw07.RingTakes', WHERE WHAT IT READS IS OF BULK AT MOST 1048576: true; the input reads as it did. -/
def ringTakesUptoRow : OpenClaim := { program := "ytiaplhcifflibaa", sum := "d903cdb877e3d8fdee9a53f7bda25c8425f4c1590d00a990b40426e53b3556c9", func := "posthouse/posthouselaw07.RingTakes", spec := "ringTakes", unfollowed := true, recurses := true, apart := false, narrowed := true }
def RingTakesUptoSaid : Prop := ringTakesUptoRow.holds Try.pinned (OpenSpec.upto ringTakesSpec)

end Rows
end Go.Proofs.Ytiaplhcifflibaa
