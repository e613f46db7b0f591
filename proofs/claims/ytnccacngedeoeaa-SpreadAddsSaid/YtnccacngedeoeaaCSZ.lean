/- The law 'SpreadAdds': whatever comes in, the call answers true and leaves its arguments as they were. No condition beyond the row's own. -/
import Derived.Test.YtnccacngedeoeaaCS8
import Derived.Test.YtnccacngedeoeaaRows
import Derived.WalkKit
import Derived.ProofKit
import Derived.OpenShut
import Derived.ShutString
import Derived.ChangeOld
import Derived.Below


namespace Go.Proofs.Ytnccacngedeoeaa
open Go Go.RowKit Go.ChangeShapes Go.WideShapes Go.ChangeAt
open Go.ChangeMaps (open_string shut_string)

theorem own_l14_SpreadAdds : ownKnob Try.prog.godebug = none := by kernel_rfl
theorem laid_l14_SpreadAdds : laidOutB Try.prog = true := by kernel_rfl
theorem chain_l14_SpreadAdds : chainB Try.prog tyTab Try.f11.params.toList as_l14_SpreadAdds = true := by kernel_rfl
theorem bool_l14_SpreadAdds : Try.prog.underlying 4 = some .bool := by kernel_rfl

set_option maxRecDepth 100000 in
theorem lifted_l14_SpreadAdds (os : Os) (started : os.Started) (H : Type) (enc : TypeId × Value → H) :
    ReturnsInHanded {} Try.checked os 11 .any (Rows.spreadAddsSpec.pre6 enc Try.prog Try.f11 Rows.spreadAddsRow.domain false) (Rows.spreadAddsSpec.post enc Try.prog Try.f11 false true false false) := by
  refine returnsInHanded_of_change (C := Try.checked) own_l14_SpreadAdds started (by kernel_rfl) Try.func11
    (ChangeSpec.witness6 (enc := enc) (C := Try.checked) false ⟨#[], (zargs as_l14_SpreadAdds).toArray, []⟩ 8 (by kernel_rfl) (by kernel_rfl) (by kernel_rfl) (by kernel_rfl)) ?_
  intro W base args ds gs before hval0 hW hcnd _
  have hW' := hW
  obtain ⟨p, q, hA0, hV, rfl, hfz, hnd⟩ := hW
  have hA : DataW.TrodAll enc Try.prog W 0 (fun _ => true) true Try.f11.params.toList args.toList ds p := hA0
  obtain ⟨rfl, rfl⟩ := trodVars_none hV
  have hp : ∀ (j : Nat) t v, Try.f11.params.toList[j]? = some t → args[j]? = some v → Value.okWide Try.prog W .any base t v := fun j t v h1 h2 => hval0 j t v (by simpa using h1) h2
  refine (law_calls tab_ok k_l14_SpreadAdds chain_l14_SpreadAdds hA hp).mono fun e W' ⟨he, bel⟩ => ?_
  subst he
  have hB := trod_all_below (T := tyTab) laid_l14_SpreadAdds bel Try.f11.params.toList as_l14_SpreadAdds args.toList ds p chain_l14_SpreadAdds hA
  have hlen : ds.length = 3 := (trod_len hA).trans (by kernel_rfl)
  obtain ⟨d0, d1, d2, rfl⟩ : ∃ d0 d1 d2, ds = [d0, d1, d2] := by
    match ds, hlen with
    | [d0, d1, d2], _ => exact ⟨d0, d1, d2, rfl⟩
  exact ⟨_, rfl, _, _, _, [], _, [], hW', trodAll_mk1 (shut_bool bool_l14_SpreadAdds _), hB, rfl, bel.frame _, fun h => by cases h⟩

theorem over_l14_SpreadAdds : Rows.spreadAddsRow.holds Try.pinned (OpenSpec.ofChange Rows.spreadAddsSpec) :=
  OpenClaim.holds_of_wide 11 Try.f11 rfl rfl rfl rfl rfl rfl rfl ⟨rfl, rfl, rfl, rfl, rfl⟩ rfl rfl rfl rfl rfl (by kernel_rfl) Try.func11 (by kernel_rfl)
    (of_decide_eq_true (by kernel_rfl)) (by unfold Func.isWrapper; first | (rw [if_pos (by decide +kernel)]; kernel_rfl) | (rw [if_neg (by decide +kernel)]; exact ⟨rfl, rfl⟩))
    (fun os started H enc _ => lifted_l14_SpreadAdds os started H enc)

theorem proved_l14_SpreadAdds : Rows.SpreadAddsSaid := over_l14_SpreadAdds
#print axioms proved_l14_SpreadAdds
end Go.Proofs.Ytnccacngedeoeaa
