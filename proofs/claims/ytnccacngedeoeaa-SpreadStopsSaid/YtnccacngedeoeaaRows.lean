/-
  No cell of these rows narrows 'for every input' (looked for: loops, veiled, ifaces, maps, wideKeys, modest, calm, conditions, laid).
  DERIVED. THE GIVEN ROWS OF THIS SEAT. 9 by the template 'for every input the law returns true; each argument reads behind the call as it read before'; 0 by the template 'total and deterministic' (their statements: YtnccacngedeoeaaTotals.lean).
  GIVEN WITH THE SEED: the statements are not yours to turn. If you find one false, say at which input.
  Laid BY PROGRAM, IN A SANDBOX (cutbox-rows.mjs): the forced cells as the released guide's own fill.sh prints them over the translation 758a51c2caa31289… (all of the seat's roots in one cut). By AI agents, Wed Nov 11 2026. No macro, syntax, notation, axiom, sorry.
-/
import Derived.Test.YtnccacngedeoeaaChecked
import GoSem.Claim
import GoSem.ClaimJoined
import GoSem.ClaimMapViews
import Derived.JoinedTies
import Derived.KernelRfl
namespace Go.Proofs.Ytnccacngedeoeaa
/- THE CELL 'sum', in the pinned program and in every row, IS THE sha256 OF THE DUMP (.gsa) THAT YtnccacngedeoeaaProg.lean LOADS. Nothing in Lean hashes anything: it is a label: what it is worth is what the hold of that sum in a sandbox is worth. -/
noncomputable def Try.pinned : Pinned := { name := "ytnccacngedeoeaa", sum := "758a51c2caa312896640439d2705c4aee5905d7b2f52d8db06820f827d471dc0", checked := Try.checked }
namespace Rows
def none {H : Type} : Left H := { results := [], args := [] }

/-- 'posthouselaw14.SpreadParts': WHATEVER THE INPUT: true; the input reads as it did. -/
def spreadPartsSpec : ChangeSpec := { name := "spreadParts", fn := fun _ => fun
  | [d1, d2] => { results := [.lit (.bool true)], args := [d1, d2] }
  | _ => none }
def spreadPartsRow : OpenClaim := { program := "ytnccacngedeoeaa", sum := "758a51c2caa312896640439d2705c4aee5905d7b2f52d8db06820f827d471dc0", func := "posthouse/posthouselaw14.SpreadParts", spec := "spreadParts", unfollowed := true, recurses := true, plainKeys := false, apart := false }
def SpreadPartsSaid : Prop := spreadPartsRow.holds Try.pinned (OpenSpec.ofChange spreadPartsSpec)

/-- ITS FALSE NEIGHBOUR: 'it returns false'. Refute it at one input. -/
def spreadPartsWrong : ChangeSpec := { name := "spreadParts", fn := fun _ => fun
  | [d1, d2] => { results := [.lit (.bool false)], args := [d1, d2] }
  | _ => none }
def SpreadPartsWrongFalsely : Prop := spreadPartsRow.holds Try.pinned (OpenSpec.ofChange spreadPartsWrong)

/-- 'posthouselaw14.SpreadEnds': WHATEVER THE INPUT: true; the input reads as it did. -/
def spreadEndsSpec : ChangeSpec := { name := "spreadEnds", fn := fun _ => fun
  | [d1, d2] => { results := [.lit (.bool true)], args := [d1, d2] }
  | _ => none }
def spreadEndsRow : OpenClaim := { program := "ytnccacngedeoeaa", sum := "758a51c2caa312896640439d2705c4aee5905d7b2f52d8db06820f827d471dc0", func := "posthouse/posthouselaw14.SpreadEnds", spec := "spreadEnds", unfollowed := true, recurses := true, plainKeys := false, apart := false }
def SpreadEndsSaid : Prop := spreadEndsRow.holds Try.pinned (OpenSpec.ofChange spreadEndsSpec)

/-- ITS FALSE NEIGHBOUR: 'it returns false'. Refute it at one input. -/
def spreadEndsWrong : ChangeSpec := { name := "spreadEnds", fn := fun _ => fun
  | [d1, d2] => { results := [.lit (.bool false)], args := [d1, d2] }
  | _ => none }
def SpreadEndsWrongFalsely : Prop := spreadEndsRow.holds Try.pinned (OpenSpec.ofChange spreadEndsWrong)

/-- 'posthouselaw12.TableOrders': WHATEVER THE INPUT: true; the input reads as it did. -/
def tableOrdersSpec : ChangeSpec := { name := "tableOrders", fn := fun _ => fun
  | [d1, d2, d3] => { results := [.lit (.bool true)], args := [d1, d2, d3] }
  | _ => none }
def tableOrdersRow : OpenClaim := { program := "ytnccacngedeoeaa", sum := "758a51c2caa312896640439d2705c4aee5905d7b2f52d8db06820f827d471dc0", func := "posthouse/posthouselaw12.TableOrders", spec := "tableOrders", inPlace := ["slices.overlaps[posthouse/api.Trigger]"], unfollowed := true, recurses := true, plainKeys := false, apart := false }
def TableOrdersSaid : Prop := tableOrdersRow.holds Try.pinned (OpenSpec.ofChange tableOrdersSpec)

/-- ITS FALSE NEIGHBOUR: 'it returns false'. Refute it at one input. -/
def tableOrdersWrong : ChangeSpec := { name := "tableOrders", fn := fun _ => fun
  | [d1, d2, d3] => { results := [.lit (.bool false)], args := [d1, d2, d3] }
  | _ => none }
def TableOrdersWrongFalsely : Prop := tableOrdersRow.holds Try.pinned (OpenSpec.ofChange tableOrdersWrong)

/-- 'posthouselaw12.TablePuts': WHATEVER THE INPUT: true; the input reads as it did. -/
def tablePutsSpec : ChangeSpec := { name := "tablePuts", fn := fun _ => fun
  | [d1, d2, d3, d4] => { results := [.lit (.bool true)], args := [d1, d2, d3, d4] }
  | _ => none }
def tablePutsRow : OpenClaim := { program := "ytnccacngedeoeaa", sum := "758a51c2caa312896640439d2705c4aee5905d7b2f52d8db06820f827d471dc0", func := "posthouse/posthouselaw12.TablePuts", spec := "tablePuts", inPlace := ["slices.overlaps[posthouse/api.Trigger]"], unfollowed := true, recurses := true, plainKeys := false, apart := false }
def TablePutsSaid : Prop := tablePutsRow.holds Try.pinned (OpenSpec.ofChange tablePutsSpec)

/-- ITS FALSE NEIGHBOUR: 'it returns false'. Refute it at one input. -/
def tablePutsWrong : ChangeSpec := { name := "tablePuts", fn := fun _ => fun
  | [d1, d2, d3, d4] => { results := [.lit (.bool false)], args := [d1, d2, d3, d4] }
  | _ => none }
def TablePutsWrongFalsely : Prop := tablePutsRow.holds Try.pinned (OpenSpec.ofChange tablePutsWrong)

/-- 'posthouselaw12.TableCuts': WHATEVER THE INPUT: true; the input reads as it did. -/
def tableCutsSpec : ChangeSpec := { name := "tableCuts", fn := fun _ => fun
  | [d1, d2, d3] => { results := [.lit (.bool true)], args := [d1, d2, d3] }
  | _ => none }
def tableCutsRow : OpenClaim := { program := "ytnccacngedeoeaa", sum := "758a51c2caa312896640439d2705c4aee5905d7b2f52d8db06820f827d471dc0", func := "posthouse/posthouselaw12.TableCuts", spec := "tableCuts", inPlace := ["slices.overlaps[posthouse/api.Trigger]"], unfollowed := true, recurses := true, plainKeys := false, apart := false }
def TableCutsSaid : Prop := tableCutsRow.holds Try.pinned (OpenSpec.ofChange tableCutsSpec)

/-- ITS FALSE NEIGHBOUR: 'it returns false'. Refute it at one input. -/
def tableCutsWrong : ChangeSpec := { name := "tableCuts", fn := fun _ => fun
  | [d1, d2, d3] => { results := [.lit (.bool false)], args := [d1, d2, d3] }
  | _ => none }
def TableCutsWrongFalsely : Prop := tableCutsRow.holds Try.pinned (OpenSpec.ofChange tableCutsWrong)

/-- 'posthouselaw12.TableKeeps': WHATEVER THE INPUT: true; the input reads as it did. -/
def tableKeepsSpec : ChangeSpec := { name := "tableKeeps", fn := fun _ => fun
  | [d1, d2] => { results := [.lit (.bool true)], args := [d1, d2] }
  | _ => none }
def tableKeepsRow : OpenClaim := { program := "ytnccacngedeoeaa", sum := "758a51c2caa312896640439d2705c4aee5905d7b2f52d8db06820f827d471dc0", func := "posthouse/posthouselaw12.TableKeeps", spec := "tableKeeps", inPlace := ["slices.overlaps[posthouse/api.Trigger]"], unfollowed := true, recurses := true, plainKeys := false, apart := false }
def TableKeepsSaid : Prop := tableKeepsRow.holds Try.pinned (OpenSpec.ofChange tableKeepsSpec)

/-- ITS FALSE NEIGHBOUR: 'it returns false'. Refute it at one input. -/
def tableKeepsWrong : ChangeSpec := { name := "tableKeeps", fn := fun _ => fun
  | [d1, d2] => { results := [.lit (.bool false)], args := [d1, d2] }
  | _ => none }
def TableKeepsWrongFalsely : Prop := tableKeepsRow.holds Try.pinned (OpenSpec.ofChange tableKeepsWrong)

/-- 'posthouselaw12.TableMatches': WHATEVER THE INPUT: true; the input reads as it did. -/
def tableMatchesSpec : ChangeSpec := { name := "tableMatches", fn := fun _ => fun
  | [d1, d2, d3, d4, d5] => { results := [.lit (.bool true)], args := [d1, d2, d3, d4, d5] }
  | _ => none }
def tableMatchesRow : OpenClaim := { program := "ytnccacngedeoeaa", sum := "758a51c2caa312896640439d2705c4aee5905d7b2f52d8db06820f827d471dc0", func := "posthouse/posthouselaw12.TableMatches", spec := "tableMatches", inPlace := ["slices.overlaps[posthouse/api.Trigger]"], unfollowed := true, recurses := true, plainKeys := false, apart := false }
def TableMatchesSaid : Prop := tableMatchesRow.holds Try.pinned (OpenSpec.ofChange tableMatchesSpec)

/-- ITS FALSE NEIGHBOUR: 'it returns false'. Refute it at one input. -/
def tableMatchesWrong : ChangeSpec := { name := "tableMatches", fn := fun _ => fun
  | [d1, d2, d3, d4, d5] => { results := [.lit (.bool false)], args := [d1, d2, d3, d4, d5] }
  | _ => none }
def TableMatchesWrongFalsely : Prop := tableMatchesRow.holds Try.pinned (OpenSpec.ofChange tableMatchesWrong)

/-- 'posthouselaw14.SpreadStops': WHATEVER THE INPUT: true; the input reads as it did. -/
def spreadStopsSpec : ChangeSpec := { name := "spreadStops", fn := fun _ => fun
  | [d1, d2, d3] => { results := [.lit (.bool true)], args := [d1, d2, d3] }
  | _ => none }
def spreadStopsRow : OpenClaim := { program := "ytnccacngedeoeaa", sum := "758a51c2caa312896640439d2705c4aee5905d7b2f52d8db06820f827d471dc0", func := "posthouse/posthouselaw14.SpreadStops", spec := "spreadStops", unfollowed := true, recurses := true, plainKeys := false, apart := false }
def SpreadStopsSaid : Prop := spreadStopsRow.holds Try.pinned (OpenSpec.ofChange spreadStopsSpec)

/-- ITS FALSE NEIGHBOUR: 'it returns false'. Refute it at one input. -/
def spreadStopsWrong : ChangeSpec := { name := "spreadStops", fn := fun _ => fun
  | [d1, d2, d3] => { results := [.lit (.bool false)], args := [d1, d2, d3] }
  | _ => none }
def SpreadStopsWrongFalsely : Prop := spreadStopsRow.holds Try.pinned (OpenSpec.ofChange spreadStopsWrong)

/-- 'posthouselaw14.SpreadAdds': WHATEVER THE INPUT: true; the input reads as it did. -/
def spreadAddsSpec : ChangeSpec := { name := "spreadAdds", fn := fun _ => fun
  | [d1, d2, d3] => { results := [.lit (.bool true)], args := [d1, d2, d3] }
  | _ => none }
def spreadAddsRow : OpenClaim := { program := "ytnccacngedeoeaa", sum := "758a51c2caa312896640439d2705c4aee5905d7b2f52d8db06820f827d471dc0", func := "posthouse/posthouselaw14.SpreadAdds", spec := "spreadAdds", inPlace := ["slices.overlaps[posthouse/api.Trigger]"], unfollowed := true, recurses := true, plainKeys := false, apart := false }
def SpreadAddsSaid : Prop := spreadAddsRow.holds Try.pinned (OpenSpec.ofChange spreadAddsSpec)

/-- ITS FALSE NEIGHBOUR: 'it returns false'. Refute it at one input. -/
def spreadAddsWrong : ChangeSpec := { name := "spreadAdds", fn := fun _ => fun
  | [d1, d2, d3] => { results := [.lit (.bool false)], args := [d1, d2, d3] }
  | _ => none }
def SpreadAddsWrongFalsely : Prop := spreadAddsRow.holds Try.pinned (OpenSpec.ofChange spreadAddsWrong)

/- THE SECOND FORM. 'bulk': how many values and letters a reading holds, each counted each time it is reached (what is shared counts as often as it is met; a slice's spare places count too). A statement '..UptoSaid' is the law's where the arguments, and the package variables that the reading takes, are together of bulk at most 1048576: NARROWER than '..Said'. Prove '..Said' where nothing that the law and all that it calls make is longer than what came in: it says more and counts as full. Else prove '..UptoSaid'. A law counts once. -/
mutual
def uptoBulk {H : Type} : DataW H → Nat
  | .lit (.string bytes) => bytes.length + 1
  | .lit _ => 1
  | .nil => 1
  | .ptr d => uptoBulk d + 1
  | .slice elems spare => uptoBulkAll elems + uptoBulkAll spare + 1
  | .agg parts => uptoBulkAll parts + 1
  | .iface _ d => uptoBulk d + 1
  | .map entries => uptoBulkEntries entries + 1
  | .held _ => 1
def uptoBulkAll {H : Type} : List (DataW H) → Nat
  | [] => 0
  | d :: r => uptoBulk d + uptoBulkAll r
def uptoBulkEntries {H : Type} : List (Lit × DataW H) → Nat
  | [] => 0
  | x :: r => uptoBulkEntry x + uptoBulkEntries r
def uptoBulkEntry {H : Type} : Lit × DataW H → Nat
  | (.string bytes, d) => bytes.length + uptoBulk d + 1
  | (_, d) => uptoBulk d + 1
 end
def uptoSmall : (H : Type) → List (DataW H) → Bool := fun _ ds => decide (uptoBulkAll ds ≤ 1048576)
def OpenSpec.upto (s : _root_.Go.ChangeSpec) : _root_.Go.OpenSpec := { _root_.Go.OpenSpec.ofChange s with cond := some uptoSmall }

/-- 'posthouselaw14.SpreadParts', WHERE WHAT IT READS IS OF BULK AT MOST 1048576: true; the input reads as it did. -/
def spreadPartsUptoRow : OpenClaim := { program := "ytnccacngedeoeaa", sum := "758a51c2caa312896640439d2705c4aee5905d7b2f52d8db06820f827d471dc0", func := "posthouse/posthouselaw14.SpreadParts", spec := "spreadParts", unfollowed := true, recurses := true, plainKeys := false, apart := false, narrowed := true }
def SpreadPartsUptoSaid : Prop := spreadPartsUptoRow.holds Try.pinned (OpenSpec.upto spreadPartsSpec)

/-- 'posthouselaw14.SpreadEnds', WHERE WHAT IT READS IS OF BULK AT MOST 1048576: true; the input reads as it did. -/
def spreadEndsUptoRow : OpenClaim := { program := "ytnccacngedeoeaa", sum := "758a51c2caa312896640439d2705c4aee5905d7b2f52d8db06820f827d471dc0", func := "posthouse/posthouselaw14.SpreadEnds", spec := "spreadEnds", unfollowed := true, recurses := true, plainKeys := false, apart := false, narrowed := true }
def SpreadEndsUptoSaid : Prop := spreadEndsUptoRow.holds Try.pinned (OpenSpec.upto spreadEndsSpec)

/-- 'posthouselaw12.TableOrders', WHERE WHAT IT READS IS OF BULK AT MOST 1048576: true; the input reads as it did. -/
def tableOrdersUptoRow : OpenClaim := { program := "ytnccacngedeoeaa", sum := "758a51c2caa312896640439d2705c4aee5905d7b2f52d8db06820f827d471dc0", func := "posthouse/posthouselaw12.TableOrders", spec := "tableOrders", inPlace := ["slices.overlaps[posthouse/api.Trigger]"], unfollowed := true, recurses := true, plainKeys := false, apart := false, narrowed := true }
def TableOrdersUptoSaid : Prop := tableOrdersUptoRow.holds Try.pinned (OpenSpec.upto tableOrdersSpec)

/-- 'posthouselaw12.TablePuts', WHERE WHAT IT READS IS OF BULK AT MOST 1048576: true; the input reads as it did. -/
def tablePutsUptoRow : OpenClaim := { program := "ytnccacngedeoeaa", sum := "758a51c2caa312896640439d2705c4aee5905d7b2f52d8db06820f827d471dc0", func := "posthouse/posthouselaw12.TablePuts", spec := "tablePuts", inPlace := ["slices.overlaps[posthouse/api.Trigger]"], unfollowed := true, recurses := true, plainKeys := false, apart := false, narrowed := true }
def TablePutsUptoSaid : Prop := tablePutsUptoRow.holds Try.pinned (OpenSpec.upto tablePutsSpec)

/-- 'posthouselaw12.TableCuts', WHERE WHAT IT READS IS OF BULK AT MOST 1048576: true; the input reads as it did. -/
def tableCutsUptoRow : OpenClaim := { program := "ytnccacngedeoeaa", sum := "758a51c2caa312896640439d2705c4aee5905d7b2f52d8db06820f827d471dc0", func := "posthouse/posthouselaw12.TableCuts", spec := "tableCuts", inPlace := ["slices.overlaps[posthouse/api.Trigger]"], unfollowed := true, recurses := true, plainKeys := false, apart := false, narrowed := true }
def TableCutsUptoSaid : Prop := tableCutsUptoRow.holds Try.pinned (OpenSpec.upto tableCutsSpec)

/-- 'posthouselaw12.TableKeeps', WHERE WHAT IT READS IS OF BULK AT MOST 1048576: true; the input reads as it did. -/
def tableKeepsUptoRow : OpenClaim := { program := "ytnccacngedeoeaa", sum := "758a51c2caa312896640439d2705c4aee5905d7b2f52d8db06820f827d471dc0", func := "posthouse/posthouselaw12.TableKeeps", spec := "tableKeeps", inPlace := ["slices.overlaps[posthouse/api.Trigger]"], unfollowed := true, recurses := true, plainKeys := false, apart := false, narrowed := true }
def TableKeepsUptoSaid : Prop := tableKeepsUptoRow.holds Try.pinned (OpenSpec.upto tableKeepsSpec)

/-- 'posthouselaw12.TableMatches', WHERE WHAT IT READS IS OF BULK AT MOST 1048576: true; the input reads as it did. -/
def tableMatchesUptoRow : OpenClaim := { program := "ytnccacngedeoeaa", sum := "758a51c2caa312896640439d2705c4aee5905d7b2f52d8db06820f827d471dc0", func := "posthouse/posthouselaw12.TableMatches", spec := "tableMatches", inPlace := ["slices.overlaps[posthouse/api.Trigger]"], unfollowed := true, recurses := true, plainKeys := false, apart := false, narrowed := true }
def TableMatchesUptoSaid : Prop := tableMatchesUptoRow.holds Try.pinned (OpenSpec.upto tableMatchesSpec)

/-- 'posthouselaw14.SpreadStops', WHERE WHAT IT READS IS OF BULK AT MOST 1048576: true; the input reads as it did. -/
def spreadStopsUptoRow : OpenClaim := { program := "ytnccacngedeoeaa", sum := "758a51c2caa312896640439d2705c4aee5905d7b2f52d8db06820f827d471dc0", func := "posthouse/posthouselaw14.SpreadStops", spec := "spreadStops", unfollowed := true, recurses := true, plainKeys := false, apart := false, narrowed := true }
def SpreadStopsUptoSaid : Prop := spreadStopsUptoRow.holds Try.pinned (OpenSpec.upto spreadStopsSpec)

/-- 'posthouselaw14.SpreadAdds', WHERE WHAT IT READS IS OF BULK AT MOST 1048576: true; the input reads as it did. -/
def spreadAddsUptoRow : OpenClaim := { program := "ytnccacngedeoeaa", sum := "758a51c2caa312896640439d2705c4aee5905d7b2f52d8db06820f827d471dc0", func := "posthouse/posthouselaw14.SpreadAdds", spec := "spreadAdds", inPlace := ["slices.overlaps[posthouse/api.Trigger]"], unfollowed := true, recurses := true, plainKeys := false, apart := false, narrowed := true }
def SpreadAddsUptoSaid : Prop := spreadAddsUptoRow.holds Try.pinned (OpenSpec.upto spreadAddsSpec)

end Rows
end Go.Proofs.Ytnccacngedeoeaa
