/- The law 'GuardEchoes': whatever comes in, the call answers true and leaves its arguments as they were. No condition beyond the row's own. -/
import Derived.Test.YtnakjijahkaoaaaDoorCG9
import Derived.Test.YtnakjijahkaoaaaDoorRows
import Derived.Test.YtnakjijahkaoaaaDoorTie
import Derived.Test.YtnakjijahkaoaaaDoorCards
import Derived.SevenTiedAt
import Derived.LaidMore
import Derived.Lay
import Derived.Stop.Joined
import Derived.WalkKit
import Derived.ProofKit
import Derived.OpenShut
import Derived.ShutString
import Derived.ChangeOld
import Derived.Below
namespace Go.Proofs.YtnakjijahkaoaaaDoor
open Go Go.RowKit Go.ChangeShapes Go.WideShapes Go.ChangeAt
open Go.ChangeMaps (open_string shut_string)
theorem own_l15_GuardEchoes : ownKnob Tryd.prog.godebug = none := by kernel_rfl
theorem laid_l15_GuardEchoes : laidOutB Tryd.prog = true := by kernel_rfl
theorem chain_l15_GuardEchoes : gq Tryd.prog bQ Tryd.f7.params.toList cE = true := by kernel_rfl
theorem bool_l15_GuardEchoes : Tryd.prog.underlying 4 = some .bool := by kernel_rfl
set_option maxRecDepth 100000 in
theorem lifted_l15_GuardEchoes (os : Os) (started : os.Started) (H : Type) (enc : TypeId × Value → H) :
    ReturnsInHanded {} Tryd.checked os 7 .any (fun w args => (Rows.guardEchoesSpec.pre enc Tryd.prog Tryd.f7 Rows.guardEchoesRow.domain false w args ∧ laidMetH Tryd.prog mL w) ∧ sizedMet enc Tryd.prog Tryd.f7 (OpenSpec.ofChange Rows.guardEchoesSpec) false w args) (Rows.guardEchoesSpec.post enc Tryd.prog Tryd.f7 false true false false) := by
  refine returnsInHanded_of_change_and (C := Tryd.checked) (X := fun w _ => laidMetH Tryd.prog mL w) (fun _ _ _ hh h => h.of_heap hh) own_l15_GuardEchoes started (by kernel_rfl) Tryd.func7
    (ChangeSpec.witness_shaped (enc := enc) (C := Tryd.checked) (os := os) (X := fun w _ => laidMetH Tryd.prog mL w) false (World.laidAll Tryd.prog os mL) (AL cE).toArray 8 (World.laidAll_os _ _ _)
      (World.shaped_of_ZipB (by kernel_rfl) (by kernel_rfl)) (by kernel_rfl) (by kernel_rfl) (by kernel_rfl) (z7 os _)) ?_
  intro W base args ds gs before hval0 hW _ _ hL _
  have hW' := hW
  obtain ⟨p, q, hA0, hV, rfl, hfz, hnd⟩ := hW
  have hA : DataW.TrodAll enc Tryd.prog W 0 (fun _ => true) true Tryd.f7.params.toList args.toList ds p := hA0
  obtain ⟨rfl, rfl⟩ := trodVars_none hV
  have hp : ∀ (j : Nat) t v, Tryd.f7.params.toList[j]? = some t → args[j]? = some v → Value.okWide Tryd.prog W .any base t v := fun j t v h1 h2 => hval0 j t v (by simpa using h1) h2
  refine (xy (ze hL) pP chain_l15_GuardEchoes hA hp).mono fun e W' ⟨he, bel⟩ => ?_
  subst he
  have hB := lS (T := bQ) laid_l15_GuardEchoes bel Tryd.f7.params.toList cE args.toList ds p chain_l15_GuardEchoes hA
  have hlen : ds.length = 3 := (vV hA).trans (by kernel_rfl)
  obtain ⟨d0, d1, d2, rfl⟩ : ∃ d0 d1 d2, ds = [d0, d1, d2] := by
    match ds, hlen with
    | [d0, d1, d2], _ => exact ⟨d0, d1, d2, rfl⟩
  exact ⟨_, rfl, _, _, _, [], _, [], hW', trodAll_mk1 (shut_bool bool_l15_GuardEchoes _), hB, rfl, bel.frame _, fun h => by cases h⟩
theorem over_l15_GuardEchoes : Rows.guardEchoesRow.holds Tryd.pinned (OpenSpec.ofChange Rows.guardEchoesSpec) :=
 OpenClaim.holds_of_wide 7 Tryd.f7 rfl rfl rfl rfl rfl rfl rfl ⟨rfl, rfl, rfl, rfl, rfl⟩ rfl rfl rfl rfl rfl (by kernel_rfl) Tryd.func7 (by kernel_rfl)
  (of_decide_eq_true (by kernel_rfl)) (by unfold Func.isWrapper; first | (rw [if_pos (by decide +kernel)]; kernel_rfl) | (rw [if_neg (by decide +kernel)]; exact ⟨rfl, rfl⟩))
  (fun os started H enc _ => lifted_l15_GuardEchoes os started H enc)
theorem said_l15_GuardEchoes : Rows.GuardEchoesSaid := over_l15_GuardEchoes
theorem proved_l15_GuardEchoes : Rows.GuardEchoesCardSaid :=
 Claim7.holds_tied_plain_at .later [] [.data] true (true, "8c9c0f8634a8ef80511c802a60e5c27e55c172721b8f5974d29f58d0fcce5a7b") false
  said_l15_GuardEchoes (fun _ h => by cases h) (by kernel_rfl) (fun _ h => by cases h) guardEchoes_row_tie rfl ⟨rfl, rfl⟩ (by kernel_rfl) rfl
  (fun f fn hf hfn => by
   obtain rfl : f = 7 := Option.some.inj ((show Tryd.prog.funcNamed "posthouse/posthouselaw15.GuardEchoes" = some 7 by kernel_rfl).symm.trans hf) |>.symm
   obtain rfl : fn = Tryd.f7 := (Option.some.inj (Tryd.func7.symm.trans hfn)).symm
   exact ⟨by kernel_rfl, fun j t ht => by
    have hm : t ∈ Tryd.f7.params.toList := Array.mem_toList_iff.2 (Array.mem_of_getElem? ht)
    have hall : (Tryd.f7.params.toList.all fun u => !Tryd.prog.wantsStandIn u) = true := by kernel_rfl
    exact (show Tryd.prog.wantsStandIn t = false by simpa using List.all_eq_true.1 hall t hm)⟩)
  (by kernel_rfl)
#print axioms proved_l15_GuardEchoes
end Go.Proofs.YtnakjijahkaoaaaDoor
