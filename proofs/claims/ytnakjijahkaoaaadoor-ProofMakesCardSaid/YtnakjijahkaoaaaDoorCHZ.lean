/- The law 'ProofMakes': whatever comes in, the call answers true and leaves its arguments as they were. No condition beyond the row's own. -/
import Derived.Test.YtnakjijahkaoaaaDoorCH9
import Derived.Test.YtnakjijahkaoaaaDoorRows
import Derived.Test.YtnakjijahkaoaaaDoorTie
import Derived.Test.YtnakjijahkaoaaaDoorCards
import Derived.SevenTiedAt
import Derived.LaidMore
import Derived.Lay
import Derived.Stop.Joined
import Derived.WalkKit
import Derived.ProofKit
import Derived.OpenShut
import Derived.ShutString
import Derived.ChangeOld
import Derived.Below
namespace Go.Proofs.YtnakjijahkaoaaaDoor
open Go Go.RowKit Go.ChangeShapes Go.WideShapes Go.ChangeAt
open Go.ChangeMaps (open_string shut_string)
theorem own_l03_ProofMakes : ownKnob Tryd.prog.godebug = none := by kernel_rfl
theorem laid_l03_ProofMakes : laidOutB Tryd.prog = true := by kernel_rfl
theorem chain_l03_ProofMakes : ia Tryd.prog bT Tryd.f3.params.toList da = true := by kernel_rfl
theorem bool_l03_ProofMakes : Tryd.prog.underlying 4 = some .bool := by kernel_rfl
set_option maxRecDepth 100000 in
theorem lifted_l03_ProofMakes (os : Os) (started : os.Started) (H : Type) (enc : TypeId × Value → H) :
    ReturnsInHanded {} Tryd.checked os 3 .any (fun w args => (Rows.proofMakesSpec.pre enc Tryd.prog Tryd.f3 Rows.proofMakesRow.domain false w args ∧ laidMetH Tryd.prog oV w) ∧ sizedMet enc Tryd.prog Tryd.f3 (OpenSpec.ofChange Rows.proofMakesSpec) false w args) (Rows.proofMakesSpec.post enc Tryd.prog Tryd.f3 false true false false) := by
  refine returnsInHanded_of_change_and (C := Tryd.checked) (X := fun w _ => laidMetH Tryd.prog oV w) (fun _ _ _ hh h => h.of_heap hh) own_l03_ProofMakes started (by kernel_rfl) Tryd.func3
    (ChangeSpec.witness_shaped (enc := enc) (C := Tryd.checked) (os := os) (X := fun w _ => laidMetH Tryd.prog oV w) false (World.laidAll Tryd.prog os oV) (Dy da).toArray 8 (World.laidAll_os _ _ _)
      (World.shaped_of_ZipB (by kernel_rfl) (by kernel_rfl)) (by kernel_rfl) (by kernel_rfl) (by kernel_rfl) (Dl os _)) ?_
  intro W base args ds gs before hval0 hW _ _ hL _
  have hW' := hW
  obtain ⟨p, q, hA0, hV, rfl, hfz, hnd⟩ := hW
  have hA : DataW.TrodAll enc Tryd.prog W 0 (fun _ => true) true Tryd.f3.params.toList args.toList ds p := hA0
  obtain ⟨rfl, rfl⟩ := trodVars_none hV
  have hp : ∀ (j : Nat) t v, Tryd.f3.params.toList[j]? = some t → args[j]? = some v → Value.okWide Tryd.prog W .any base t v := fun j t v h1 h2 => hval0 j t v (by simpa using h1) h2
  refine (AH (BZ hL) sy chain_l03_ProofMakes hA hp).mono fun e W' ⟨he, bel⟩ => ?_
  subst he
  have hB := nF (T := bT) laid_l03_ProofMakes bel Tryd.f3.params.toList da args.toList ds p chain_l03_ProofMakes hA
  have hlen : ds.length = 4 := (wX hA).trans (by kernel_rfl)
  obtain ⟨d0, d1, d2, d3, rfl⟩ : ∃ d0 d1 d2 d3, ds = [d0, d1, d2, d3] := by
    match ds, hlen with
    | [d0, d1, d2, d3], _ => exact ⟨d0, d1, d2, d3, rfl⟩
  exact ⟨_, rfl, _, _, _, [], _, [], hW', trodAll_mk1 (shut_bool bool_l03_ProofMakes _), hB, rfl, bel.frame _, fun h => by cases h⟩
theorem over_l03_ProofMakes : Rows.proofMakesRow.holds Tryd.pinned (OpenSpec.ofChange Rows.proofMakesSpec) :=
 OpenClaim.holds_of_wide 3 Tryd.f3 rfl rfl rfl rfl rfl rfl rfl ⟨rfl, rfl, rfl, rfl, rfl⟩ rfl rfl rfl rfl rfl (by kernel_rfl) Tryd.func3 (by kernel_rfl)
  (of_decide_eq_true (by kernel_rfl)) (by unfold Func.isWrapper; first | (rw [if_pos (by decide +kernel)]; kernel_rfl) | (rw [if_neg (by decide +kernel)]; exact ⟨rfl, rfl⟩))
  (fun os started H enc _ => lifted_l03_ProofMakes os started H enc)
theorem said_l03_ProofMakes : Rows.ProofMakesSaid := over_l03_ProofMakes
theorem proved_l03_ProofMakes : Rows.ProofMakesCardSaid :=
 Claim7.holds_tied_plain_at .later [] [.data] true (true, "8c9c0f8634a8ef80511c802a60e5c27e55c172721b8f5974d29f58d0fcce5a7b") false
  said_l03_ProofMakes (fun _ h => by cases h) (by kernel_rfl) (fun _ h => by cases h) proofMakes_row_tie rfl ⟨rfl, rfl⟩ (by kernel_rfl) rfl
  (fun f fn hf hfn => by
   obtain rfl : f = 3 := Option.some.inj ((show Tryd.prog.funcNamed "posthouse/posthouselaw03.ProofMakes" = some 3 by kernel_rfl).symm.trans hf) |>.symm
   obtain rfl : fn = Tryd.f3 := (Option.some.inj (Tryd.func3.symm.trans hfn)).symm
   exact ⟨by kernel_rfl, fun j t ht => by
    have hm : t ∈ Tryd.f3.params.toList := Array.mem_toList_iff.2 (Array.mem_of_getElem? ht)
    have hall : (Tryd.f3.params.toList.all fun u => !Tryd.prog.wantsStandIn u) = true := by kernel_rfl
    exact (show Tryd.prog.wantsStandIn t = false by simpa using List.all_eq_true.1 hall t hm)⟩)
  (by kernel_rfl)
#print axioms proved_l03_ProofMakes
end Go.Proofs.YtnakjijahkaoaaaDoor
