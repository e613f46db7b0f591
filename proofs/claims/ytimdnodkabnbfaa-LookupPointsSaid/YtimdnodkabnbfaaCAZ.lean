/- The law 'LookupPoints': whatever comes in, the call answers true and leaves its arguments as they were. No condition beyond the row's own. -/
import Derived.Test.YtimdnodkabnbfaaCA10
import Derived.Test.YtimdnodkabnbfaaRows
import Derived.WalkKit
import Derived.ProofKit
import Derived.OpenShut
import Derived.ShutString
import Derived.ChangeOld
import Derived.Below
namespace Go.Proofs.Ytimdnodkabnbfaa
open Go Go.RowKit Go.ChangeShapes Go.WideShapes Go.ChangeAt
open Go.ChangeMaps (open_string shut_string)
theorem own_l11_LookupPoints : ownKnob Try.prog.godebug = none := by kernel_rfl
theorem laid_l11_LookupPoints : laidOutB Try.prog = true := by kernel_rfl
theorem chain_l11_LookupPoints : m7 Try.prog bg Try.f8.params.toList ew = true := by kernel_rfl
theorem bool_l11_LookupPoints : Try.prog.underlying 4 = some .bool := by kernel_rfl
set_option maxRecDepth 100000 in
theorem lifted_l11_LookupPoints (os : Os) (started : os.Started) (H : Type) (enc : TypeId × Value → H) :
    ReturnsInHanded {} Try.checked os 8 .any (Rows.lookupPointsSpec.pre6 enc Try.prog Try.f8 Rows.lookupPointsRow.domain false) (Rows.lookupPointsSpec.post enc Try.prog Try.f8 false true false false) := by
  refine returnsInHanded_of_change (C := Try.checked) own_l11_LookupPoints started (by kernel_rfl) Try.func8
    (ChangeSpec.witness6 (enc := enc) (C := Try.checked) false ⟨#[], (Ox ew).toArray, []⟩ 8 (by kernel_rfl) (by kernel_rfl) (by kernel_rfl) (by kernel_rfl)) ?_
  intro W base args ds gs before hval0 hW hcnd _
  have hW' := hW
  obtain ⟨p, q, hA0, hV, rfl, hfz, hnd⟩ := hW
  have hA : DataW.TrodAll enc Try.prog W 0 (fun _ => true) true Try.f8.params.toList args.toList ds p := hA0
  obtain ⟨rfl, rfl⟩ := trodVars_none hV
  have hp : ∀ (j : Nat) t v, Try.f8.params.toList[j]? = some t → args[j]? = some v → Value.okWide Try.prog W .any base t v := fun j t v h1 h2 => hval0 j t v (by simpa using h1) h2
  refine (MM aS zJ chain_l11_LookupPoints hA hp).mono fun e W' ⟨he, bel⟩ => ?_
  subst he
  have hB := wO (T := bg) laid_l11_LookupPoints bel Try.f8.params.toList ew args.toList ds p chain_l11_LookupPoints hA
  have hlen : ds.length = 3 := (II hA).trans (by kernel_rfl)
  obtain ⟨d0, d1, d2, rfl⟩ : ∃ d0 d1 d2, ds = [d0, d1, d2] := by
    match ds, hlen with
    | [d0, d1, d2], _ => exact ⟨d0, d1, d2, rfl⟩
  exact ⟨_, rfl, _, _, _, [], _, [], hW', trodAll_mk1 (shut_bool bool_l11_LookupPoints _), hB, rfl, bel.frame _, fun h => by cases h⟩
theorem over_l11_LookupPoints : Rows.lookupPointsRow.holds Try.pinned (OpenSpec.ofChange Rows.lookupPointsSpec) :=
 OpenClaim.holds_of_wide 8 Try.f8 rfl rfl rfl rfl rfl rfl rfl ⟨rfl, rfl, rfl, rfl, rfl⟩ rfl rfl rfl rfl rfl (by kernel_rfl) Try.func8 (by kernel_rfl)
  (of_decide_eq_true (by kernel_rfl)) (by unfold Func.isWrapper; first | (rw [if_pos (by decide +kernel)]; kernel_rfl) | (rw [if_neg (by decide +kernel)]; exact ⟨rfl, rfl⟩))
  (fun os started H enc _ => lifted_l11_LookupPoints os started H enc)
theorem proved_l11_LookupPoints : Rows.LookupPointsSaid := over_l11_LookupPoints
#print axioms proved_l11_LookupPoints
end Go.Proofs.Ytimdnodkabnbfaa
