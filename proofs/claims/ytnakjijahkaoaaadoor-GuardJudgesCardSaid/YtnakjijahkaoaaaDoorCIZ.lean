/- The law 'GuardJudges': whatever comes in, the call answers true and leaves its arguments as they were. No condition beyond the row's own. -/
import Derived.Test.YtnakjijahkaoaaaDoorCI10
import Derived.Test.YtnakjijahkaoaaaDoorRows
import Derived.Test.YtnakjijahkaoaaaDoorTie
import Derived.Test.YtnakjijahkaoaaaDoorCards
import Derived.SevenTiedAt
import Derived.LaidMore
import Derived.Lay
import Derived.Stop.Joined
import Derived.WalkKit
import Derived.ProofKit
import Derived.OpenShut
import Derived.ShutString
import Derived.ChangeOld
import Derived.Below
namespace Go.Proofs.YtnakjijahkaoaaaDoor
open Go Go.RowKit Go.ChangeShapes Go.WideShapes Go.ChangeAt
open Go.ChangeMaps (open_string shut_string)
theorem own_l15_GuardJudges : ownKnob Tryd.prog.godebug = none := by kernel_rfl
theorem laid_l15_GuardJudges : laidOutB Tryd.prog = true := by kernel_rfl
theorem chain_l15_GuardJudges : iD Tryd.prog bc Tryd.f9.params.toList db = true := by kernel_rfl
theorem bool_l15_GuardJudges : Tryd.prog.underlying 4 = some .bool := by kernel_rfl
set_option maxRecDepth 100000 in
theorem lifted_l15_GuardJudges (os : Os) (started : os.Started) (H : Type) (enc : TypeId × Value → H) :
    ReturnsInHanded {} Tryd.checked os 9 .any (fun w args => (Rows.guardJudgesSpec.pre enc Tryd.prog Tryd.f9 Rows.guardJudgesRow.domain false w args ∧ laidMetH Tryd.prog qI w) ∧ sizedMet enc Tryd.prog Tryd.f9 (OpenSpec.ofChange Rows.guardJudgesSpec) false w args) (Rows.guardJudgesSpec.post enc Tryd.prog Tryd.f9 false true false false) := by
  refine returnsInHanded_of_change_and (C := Tryd.checked) (X := fun w _ => laidMetH Tryd.prog qI w) (fun _ _ _ hh h => h.of_heap hh) own_l15_GuardJudges started (by kernel_rfl) Tryd.func9
    (ChangeSpec.witness_shaped (enc := enc) (C := Tryd.checked) (os := os) (X := fun w _ => laidMetH Tryd.prog qI w) false (World.laidAll Tryd.prog os qI) (I0 db).toArray 8 (World.laidAll_os _ _ _)
      (World.shaped_of_ZipB (by kernel_rfl) (by kernel_rfl)) (by kernel_rfl) (by kernel_rfl) (by kernel_rfl) (IA os _)) ?_
  intro W base args ds gs before hval0 hW _ _ hL _
  have hW' := hW
  obtain ⟨p, q, hA0, hV, rfl, hfz, hnd⟩ := hW
  have hA : DataW.TrodAll enc Tryd.prog W 0 (fun _ => true) true Tryd.f9.params.toList args.toList ds p := hA0
  obtain ⟨rfl, rfl⟩ := trodVars_none hV
  have hp : ∀ (j : Nat) t v, Tryd.f9.params.toList[j]? = some t → args[j]? = some v → Value.okWide Tryd.prog W .any base t v := fun j t v h1 h2 => hval0 j t v (by simpa using h1) h2
  refine (F3 (GD hL) uJ chain_l15_GuardJudges hA hp).mono fun e W' ⟨he, bel⟩ => ?_
  subst he
  have hB := pR (T := bc) laid_l15_GuardJudges bel Tryd.f9.params.toList db args.toList ds p chain_l15_GuardJudges hA
  have hlen : ds.length = 3 := (CN hA).trans (by kernel_rfl)
  obtain ⟨d0, d1, d2, rfl⟩ : ∃ d0 d1 d2, ds = [d0, d1, d2] := by
    match ds, hlen with
    | [d0, d1, d2], _ => exact ⟨d0, d1, d2, rfl⟩
  exact ⟨_, rfl, _, _, _, [], _, [], hW', trodAll_mk1 (shut_bool bool_l15_GuardJudges _), hB, rfl, bel.frame _, fun h => by cases h⟩
theorem over_l15_GuardJudges : Rows.guardJudgesRow.holds Tryd.pinned (OpenSpec.ofChange Rows.guardJudgesSpec) :=
 OpenClaim.holds_of_wide 9 Tryd.f9 rfl rfl rfl rfl rfl rfl rfl ⟨rfl, rfl, rfl, rfl, rfl⟩ rfl rfl rfl rfl rfl (by kernel_rfl) Tryd.func9 (by kernel_rfl)
  (of_decide_eq_true (by kernel_rfl)) (by unfold Func.isWrapper; first | (rw [if_pos (by decide +kernel)]; kernel_rfl) | (rw [if_neg (by decide +kernel)]; exact ⟨rfl, rfl⟩))
  (fun os started H enc _ => lifted_l15_GuardJudges os started H enc)
theorem said_l15_GuardJudges : Rows.GuardJudgesSaid := over_l15_GuardJudges
theorem proved_l15_GuardJudges : Rows.GuardJudgesCardSaid :=
 Claim7.holds_tied_plain_at .later [] [.data] true (true, "8c9c0f8634a8ef80511c802a60e5c27e55c172721b8f5974d29f58d0fcce5a7b") false
  said_l15_GuardJudges (fun _ h => by cases h) (by kernel_rfl) (fun _ h => by cases h) guardJudges_row_tie rfl ⟨rfl, rfl⟩ (by kernel_rfl) rfl
  (fun f fn hf hfn => by
   obtain rfl : f = 9 := Option.some.inj ((show Tryd.prog.funcNamed "posthouse/posthouselaw15.GuardJudges" = some 9 by kernel_rfl).symm.trans hf) |>.symm
   obtain rfl : fn = Tryd.f9 := (Option.some.inj (Tryd.func9.symm.trans hfn)).symm
   exact ⟨by kernel_rfl, fun j t ht => by
    have hm : t ∈ Tryd.f9.params.toList := Array.mem_toList_iff.2 (Array.mem_of_getElem? ht)
    have hall : (Tryd.f9.params.toList.all fun u => !Tryd.prog.wantsStandIn u) = true := by kernel_rfl
    exact (show Tryd.prog.wantsStandIn t = false by simpa using List.all_eq_true.1 hall t hm)⟩)
  (by kernel_rfl)
#print axioms proved_l15_GuardJudges
end Go.Proofs.YtnakjijahkaoaaaDoor
