/- The law 'LookupFinds': whatever comes in, the call answers true and leaves its arguments as they were. No condition beyond the row's own. -/
import Derived.Test.YtimdnodkabnbfaaCA10
import Derived.Test.YtimdnodkabnbfaaRows
import Derived.WalkKit
import Derived.ProofKit
import Derived.OpenShut
import Derived.ShutString
import Derived.ChangeOld
import Derived.Below
namespace Go.Proofs.Ytimdnodkabnbfaa
open Go Go.RowKit Go.ChangeShapes Go.WideShapes Go.ChangeAt
open Go.ChangeMaps (open_string shut_string)
theorem own_l11_LookupFinds : ownKnob Try.prog.godebug = none := by kernel_rfl
theorem laid_l11_LookupFinds : laidOutB Try.prog = true := by kernel_rfl
theorem chain_l11_LookupFinds : mR Try.prog br Try.f7.params.toList eE = true := by kernel_rfl
theorem bool_l11_LookupFinds : Try.prog.underlying 4 = some .bool := by kernel_rfl
set_option maxRecDepth 100000 in
theorem lifted_l11_LookupFinds (os : Os) (started : os.Started) (H : Type) (enc : TypeId × Value → H) :
    ReturnsInHanded {} Try.checked os 7 .any (Rows.lookupFindsSpec.pre6 enc Try.prog Try.f7 Rows.lookupFindsRow.domain false) (Rows.lookupFindsSpec.post enc Try.prog Try.f7 false true false false) := by
  refine returnsInHanded_of_change (C := Try.checked) own_l11_LookupFinds started (by kernel_rfl) Try.func7
    (ChangeSpec.witness6 (enc := enc) (C := Try.checked) false ⟨#[], (L6 eE).toArray, []⟩ 8 (by kernel_rfl) (by kernel_rfl) (by kernel_rfl) (by kernel_rfl)) ?_
  intro W base args ds gs before hval0 hW hcnd _
  have hW' := hW
  obtain ⟨p, q, hA0, hV, rfl, hfz, hnd⟩ := hW
  have hA : DataW.TrodAll enc Try.prog W 0 (fun _ => true) true Try.f7.params.toList args.toList ds p := hA0
  obtain ⟨rfl, rfl⟩ := trodVars_none hV
  have hp : ∀ (j : Nat) t v, Try.f7.params.toList[j]? = some t → args[j]? = some v → Value.okWide Try.prog W .any base t v := fun j t v h1 h2 => hval0 j t v (by simpa using h1) h2
  refine (KO aY zx chain_l11_LookupFinds hA hp).mono fun e W' ⟨he, bel⟩ => ?_
  subst he
  have hB := uB (T := br) laid_l11_LookupFinds bel Try.f7.params.toList eE args.toList ds p chain_l11_LookupFinds hA
  have hlen : ds.length = 2 := (Gf hA).trans (by kernel_rfl)
  obtain ⟨d0, d1, rfl⟩ : ∃ d0 d1, ds = [d0, d1] := by
    match ds, hlen with
    | [d0, d1], _ => exact ⟨d0, d1, rfl⟩
  exact ⟨_, rfl, _, _, _, [], _, [], hW', trodAll_mk1 (shut_bool bool_l11_LookupFinds _), hB, rfl, bel.frame _, fun h => by cases h⟩
theorem over_l11_LookupFinds : Rows.lookupFindsRow.holds Try.pinned (OpenSpec.ofChange Rows.lookupFindsSpec) :=
 OpenClaim.holds_of_wide 7 Try.f7 rfl rfl rfl rfl rfl rfl rfl ⟨rfl, rfl, rfl, rfl, rfl⟩ rfl rfl rfl rfl rfl (by kernel_rfl) Try.func7 (by kernel_rfl)
  (of_decide_eq_true (by kernel_rfl)) (by unfold Func.isWrapper; first | (rw [if_pos (by decide +kernel)]; kernel_rfl) | (rw [if_neg (by decide +kernel)]; exact ⟨rfl, rfl⟩))
  (fun os started H enc _ => lifted_l11_LookupFinds os started H enc)
theorem proved_l11_LookupFinds : Rows.LookupFindsSaid := over_l11_LookupFinds
#print axioms proved_l11_LookupFinds
end Go.Proofs.Ytimdnodkabnbfaa
