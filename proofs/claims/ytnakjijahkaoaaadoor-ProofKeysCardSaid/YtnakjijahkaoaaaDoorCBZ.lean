/- The law 'ProofKeys': whatever comes in, the call answers true and leaves its arguments as they were. No condition beyond the row's own. -/
import Derived.Test.YtnakjijahkaoaaaDoorCB8
import Derived.Test.YtnakjijahkaoaaaDoorRows
import Derived.Test.YtnakjijahkaoaaaDoorTie
import Derived.Test.YtnakjijahkaoaaaDoorCards
import Derived.SevenTiedAt
import Derived.LaidMore
import Derived.Lay
import Derived.Stop.Joined
import Derived.WalkKit
import Derived.ProofKit
import Derived.OpenShut
import Derived.ShutString
import Derived.ChangeOld
import Derived.Below
namespace Go.Proofs.YtnakjijahkaoaaaDoor
open Go Go.RowKit Go.ChangeShapes Go.WideShapes Go.ChangeAt
open Go.ChangeMaps (open_string shut_string)
theorem own_l03_ProofKeys : ownKnob Tryd.prog.godebug = none := by kernel_rfl
theorem laid_l03_ProofKeys : laidOutB Tryd.prog = true := by kernel_rfl
theorem chain_l03_ProofKeys : gn Tryd.prog c4 Tryd.f5.params.toList cZ = true := by kernel_rfl
theorem bool_l03_ProofKeys : Tryd.prog.underlying 4 = some .bool := by kernel_rfl
set_option maxRecDepth 100000 in
theorem lifted_l03_ProofKeys (os : Os) (started : os.Started) (H : Type) (enc : TypeId × Value → H) :
    ReturnsInHanded {} Tryd.checked os 5 .any (fun w args => (Rows.proofKeysSpec.pre enc Tryd.prog Tryd.f5 Rows.proofKeysRow.domain false w args ∧ laidMetH Tryd.prog ma w) ∧ sizedMet enc Tryd.prog Tryd.f5 (OpenSpec.ofChange Rows.proofKeysSpec) false w args) (Rows.proofKeysSpec.post enc Tryd.prog Tryd.f5 false true false false) := by
  refine returnsInHanded_of_change_and (C := Tryd.checked) (X := fun w _ => laidMetH Tryd.prog ma w) (fun _ _ _ hh h => h.of_heap hh) own_l03_ProofKeys started (by kernel_rfl) Tryd.func5
    (ChangeSpec.witness_shaped (enc := enc) (C := Tryd.checked) (os := os) (X := fun w _ => laidMetH Tryd.prog ma w) false (World.laidAll Tryd.prog os ma) (yg cZ).toArray 8 (World.laidAll_os _ _ _)
      (World.shaped_of_ZipB (by kernel_rfl) (by kernel_rfl)) (by kernel_rfl) (by kernel_rfl) (by kernel_rfl) (xM os _)) ?_
  intro W base args ds gs before hval0 hW _ _ hL _
  have hW' := hW
  obtain ⟨p, q, hA0, hV, rfl, hfz, hnd⟩ := hW
  have hA : DataW.TrodAll enc Tryd.prog W 0 (fun _ => true) true Tryd.f5.params.toList args.toList ds p := hA0
  obtain ⟨rfl, rfl⟩ := trodVars_none hV
  have hp : ∀ (j : Nat) t v, Tryd.f5.params.toList[j]? = some t → args[j]? = some v → Value.okWide Tryd.prog W .any base t v := fun j t v h1 h2 => hval0 j t v (by simpa using h1) h2
  refine (uT (vZ hL) qz chain_l03_ProofKeys hA hp).mono fun e W' ⟨he, bel⟩ => ?_
  subst he
  have hB := lg (T := c4) laid_l03_ProofKeys bel Tryd.f5.params.toList cZ args.toList ds p chain_l03_ProofKeys hA
  have hlen : ds.length = 4 := (s9 hA).trans (by kernel_rfl)
  obtain ⟨d0, d1, d2, d3, rfl⟩ : ∃ d0 d1 d2 d3, ds = [d0, d1, d2, d3] := by
    match ds, hlen with
    | [d0, d1, d2, d3], _ => exact ⟨d0, d1, d2, d3, rfl⟩
  exact ⟨_, rfl, _, _, _, [], _, [], hW', trodAll_mk1 (shut_bool bool_l03_ProofKeys _), hB, rfl, bel.frame _, fun h => by cases h⟩
theorem over_l03_ProofKeys : Rows.proofKeysRow.holds Tryd.pinned (OpenSpec.ofChange Rows.proofKeysSpec) :=
 OpenClaim.holds_of_wide 5 Tryd.f5 rfl rfl rfl rfl rfl rfl rfl ⟨rfl, rfl, rfl, rfl, rfl⟩ rfl rfl rfl rfl rfl (by kernel_rfl) Tryd.func5 (by kernel_rfl)
  (of_decide_eq_true (by kernel_rfl)) (by unfold Func.isWrapper; first | (rw [if_pos (by decide +kernel)]; kernel_rfl) | (rw [if_neg (by decide +kernel)]; exact ⟨rfl, rfl⟩))
  (fun os started H enc _ => lifted_l03_ProofKeys os started H enc)
theorem said_l03_ProofKeys : Rows.ProofKeysSaid := over_l03_ProofKeys
theorem proved_l03_ProofKeys : Rows.ProofKeysCardSaid :=
 Claim7.holds_tied_plain_at .later [] [.data] true (true, "8c9c0f8634a8ef80511c802a60e5c27e55c172721b8f5974d29f58d0fcce5a7b") false
  said_l03_ProofKeys (fun _ h => by cases h) (by kernel_rfl) (fun _ h => by cases h) proofKeys_row_tie rfl ⟨rfl, rfl⟩ (by kernel_rfl) rfl
  (fun f fn hf hfn => by
   obtain rfl : f = 5 := Option.some.inj ((show Tryd.prog.funcNamed "posthouse/posthouselaw03.ProofKeys" = some 5 by kernel_rfl).symm.trans hf) |>.symm
   obtain rfl : fn = Tryd.f5 := (Option.some.inj (Tryd.func5.symm.trans hfn)).symm
   exact ⟨by kernel_rfl, fun j t ht => by
    have hm : t ∈ Tryd.f5.params.toList := Array.mem_toList_iff.2 (Array.mem_of_getElem? ht)
    have hall : (Tryd.f5.params.toList.all fun u => !Tryd.prog.wantsStandIn u) = true := by kernel_rfl
    exact (show Tryd.prog.wantsStandIn t = false by simpa using List.all_eq_true.1 hall t hm)⟩)
  (by kernel_rfl)
#print axioms proved_l03_ProofKeys
end Go.Proofs.YtnakjijahkaoaaaDoor
