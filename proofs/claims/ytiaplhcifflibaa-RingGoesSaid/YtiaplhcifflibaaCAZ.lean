/- The law 'RingGoes': whatever comes in, the call answers true and leaves its arguments as they were. No condition beyond the row's own. -/
import Derived.Test.YtiaplhcifflibaaCA8
import Derived.Test.YtiaplhcifflibaaRows
import Derived.WalkKit
import Derived.ProofKit
import Derived.OpenShut
import Derived.ShutString
import Derived.ChangeOld
import Derived.Below
namespace Go.Proofs.Ytiaplhcifflibaa
open Go Go.RowKit Go.ChangeShapes Go.WideShapes Go.ChangeAt
open Go.ChangeMaps (open_string shut_string)
theorem own_l07_RingGoes : ownKnob Try.prog.godebug = none := by kernel_rfl
theorem laid_l07_RingGoes : laidOutB Try.prog = true := by kernel_rfl
theorem chain_l07_RingGoes : gO Try.prog cj Try.f5.params.toList dn = true := by kernel_rfl
theorem bool_l07_RingGoes : Try.prog.underlying 4 = some .bool := by kernel_rfl
set_option maxRecDepth 100000 in
theorem lifted_l07_RingGoes (os : Os) (started : os.Started) (H : Type) (enc : TypeId × Value → H) :
    ReturnsInHanded {} Try.checked os 5 .any (Rows.ringGoesSpec.pre6 enc Try.prog Try.f5 Rows.ringGoesRow.domain false) (Rows.ringGoesSpec.post enc Try.prog Try.f5 false true false false) := by
  refine returnsInHanded_of_change (C := Try.checked) own_l07_RingGoes started (by kernel_rfl) Try.func5
    (ChangeSpec.witness6 (enc := enc) (C := Try.checked) false ⟨#[], (zJ dn).toArray, []⟩ 8 (by kernel_rfl) (by kernel_rfl) (by kernel_rfl) (by kernel_rfl)) ?_
  intro W base args ds gs before hval0 hW hcnd _
  have hW' := hW
  obtain ⟨p, q, hA0, hV, rfl, hfz, hnd⟩ := hW
  have hA : DataW.TrodAll enc Try.prog W 0 (fun _ => true) true Try.f5.params.toList args.toList ds p := hA0
  obtain ⟨rfl, rfl⟩ := trodVars_none hV
  have hp : ∀ (j : Nat) t v, Try.f5.params.toList[j]? = some t → args[j]? = some v → Value.okWide Try.prog W .any base t v := fun j t v h1 h2 => hval0 j t v (by simpa using h1) h2
  refine (xQ bK si chain_l07_RingGoes hA hp).mono fun e W' ⟨he, bel⟩ => ?_
  subst he
  have hB := mu (T := cj) laid_l07_RingGoes bel Try.f5.params.toList dn args.toList ds p chain_l07_RingGoes hA
  have hlen : ds.length = 3 := (u3 hA).trans (by kernel_rfl)
  obtain ⟨d0, d1, d2, rfl⟩ : ∃ d0 d1 d2, ds = [d0, d1, d2] := by
    match ds, hlen with
    | [d0, d1, d2], _ => exact ⟨d0, d1, d2, rfl⟩
  exact ⟨_, rfl, _, _, _, [], _, [], hW', trodAll_mk1 (shut_bool bool_l07_RingGoes _), hB, rfl, bel.frame _, fun h => by cases h⟩
theorem over_l07_RingGoes : Rows.ringGoesRow.holds Try.pinned (OpenSpec.ofChange Rows.ringGoesSpec) :=
 OpenClaim.holds_of_wide 5 Try.f5 rfl rfl rfl rfl rfl rfl rfl ⟨rfl, rfl, rfl, rfl, rfl⟩ rfl rfl rfl rfl rfl (by kernel_rfl) Try.func5 (by kernel_rfl)
  (of_decide_eq_true (by kernel_rfl)) (by unfold Func.isWrapper; first | (rw [if_pos (by decide +kernel)]; kernel_rfl) | (rw [if_neg (by decide +kernel)]; exact ⟨rfl, rfl⟩))
  (fun os started H enc _ => lifted_l07_RingGoes os started H enc)
theorem proved_l07_RingGoes : Rows.RingGoesSaid := over_l07_RingGoes
#print axioms proved_l07_RingGoes
end Go.Proofs.Ytiaplhcifflibaa
