/- The law 'DigestBlocks': whatever comes in, the call answers true and leaves its arguments as they were. No condition beyond the row's own. -/
import Derived.Test.YtainieginijaaaaDoorCC6
import Derived.Test.YtainieginijaaaaDoorRows
import Derived.Test.YtainieginijaaaaDoorTie
import Derived.Test.YtainieginijaaaaDoorCards
import Derived.SevenTiedAt
import Derived.LaidMore
import Derived.Lay
import Derived.Stop.Joined
import Derived.WalkKit
import Derived.ProofKit
import Derived.OpenShut
import Derived.ShutString
import Derived.ChangeOld
import Derived.Below


namespace Go.Proofs.YtainieginijaaaaDoor
open Go Go.RowKit Go.ChangeShapes Go.WideShapes Go.ChangeAt
open Go.ChangeMaps (open_string shut_string)

theorem own_l02_DigestBlocks : ownKnob Tryd.prog.godebug = none := by kernel_rfl
theorem laid_l02_DigestBlocks : laidOutB Tryd.prog = true := by kernel_rfl
theorem chain_l02_DigestBlocks : chainB Tryd.prog tyTab Tryd.f4.params.toList as_l02_DigestBlocks = true := by kernel_rfl
theorem bool_l02_DigestBlocks : Tryd.prog.underlying 4 = some .bool := by kernel_rfl

set_option maxRecDepth 100000 in
theorem lifted_l02_DigestBlocks (os : Os) (started : os.Started) (H : Type) (enc : TypeId × Value → H) :
    ReturnsInHanded {} Tryd.checked os 4 .any (fun w args => (Rows.digestBlocksSpec.pre enc Tryd.prog Tryd.f4 Rows.digestBlocksRow.domain false w args ∧ laidMetH Tryd.prog laidL w) ∧ sizedMet enc Tryd.prog Tryd.f4 (OpenSpec.ofChange Rows.digestBlocksSpec) false w args) (Rows.digestBlocksSpec.post enc Tryd.prog Tryd.f4 false true false false) := by
  refine returnsInHanded_of_change_and (C := Tryd.checked) (X := fun w _ => laidMetH Tryd.prog laidL w) (fun _ _ _ hh h => h.of_heap hh) own_l02_DigestBlocks started (by kernel_rfl) Tryd.func4
    (ChangeSpec.witness_shaped (enc := enc) (C := Tryd.checked) (os := os) (X := fun w _ => laidMetH Tryd.prog laidL w) false (World.laidAll Tryd.prog os laidL) (zargs as_l02_DigestBlocks).toArray 8 (World.laidAll_os _ _ _)
      (World.shaped_of_ZipB (by kernel_rfl) (by kernel_rfl)) (by kernel_rfl) (by kernel_rfl) (by kernel_rfl) (laid_met os _)) ?_
  intro W base args ds gs before hval0 hW _ _ hL _
  have hW' := hW
  obtain ⟨p, q, hA0, hV, rfl, hfz, hnd⟩ := hW
  have hA : DataW.TrodAll enc Tryd.prog W 0 (fun _ => true) true Tryd.f4.params.toList args.toList ds p := hA0
  obtain ⟨rfl, rfl⟩ := trodVars_none hV
  have hp : ∀ (j : Nat) t v, Tryd.f4.params.toList[j]? = some t → args[j]? = some v → Value.okWide Tryd.prog W .any base t v := fun j t v h1 h2 => hval0 j t v (by simpa using h1) h2
  refine (law_callsG (keys_glob hL) k_l02_DigestBlocks chain_l02_DigestBlocks hA hp).mono fun e W' ⟨he, bel⟩ => ?_
  subst he
  have hB := trod_all_below (T := tyTab) laid_l02_DigestBlocks bel Tryd.f4.params.toList as_l02_DigestBlocks args.toList ds p chain_l02_DigestBlocks hA
  have hlen : ds.length = 2 := (trod_len hA).trans (by kernel_rfl)
  obtain ⟨d0, d1, rfl⟩ : ∃ d0 d1, ds = [d0, d1] := by
    match ds, hlen with
    | [d0, d1], _ => exact ⟨d0, d1, rfl⟩
  exact ⟨_, rfl, _, _, _, [], _, [], hW', trodAll_mk1 (shut_bool bool_l02_DigestBlocks _), hB, rfl, bel.frame _, fun h => by cases h⟩

theorem over_l02_DigestBlocks : Rows.digestBlocksRow.holds Tryd.pinned (OpenSpec.ofChange Rows.digestBlocksSpec) :=
  OpenClaim.holds_of_wide 4 Tryd.f4 rfl rfl rfl rfl rfl rfl rfl ⟨rfl, rfl, rfl, rfl, rfl⟩ rfl rfl rfl rfl rfl (by kernel_rfl) Tryd.func4 (by kernel_rfl)
    (of_decide_eq_true (by kernel_rfl)) (by unfold Func.isWrapper; first | (rw [if_pos (by decide +kernel)]; kernel_rfl) | (rw [if_neg (by decide +kernel)]; exact ⟨rfl, rfl⟩))
    (fun os started H enc _ => lifted_l02_DigestBlocks os started H enc)

theorem said_l02_DigestBlocks : Rows.DigestBlocksSaid := over_l02_DigestBlocks
theorem proved_l02_DigestBlocks : Rows.DigestBlocksCardSaid :=
  Claim7.holds_tied_plain_at .later [] [.data] true (true, "7807a86762ca5c149268571ee93801a648df32d2f875157bfad2e6bce0f2b55c") false
    said_l02_DigestBlocks (fun _ h => by cases h) (by kernel_rfl) (fun _ h => by cases h) digestBlocks_row_tie rfl ⟨rfl, rfl⟩ (by kernel_rfl) rfl
    (fun f fn hf hfn => by
      obtain rfl : f = 4 := Option.some.inj ((show Tryd.prog.funcNamed "posthouse/posthouselaw02.DigestBlocks" = some 4 by kernel_rfl).symm.trans hf) |>.symm
      obtain rfl : fn = Tryd.f4 := (Option.some.inj (Tryd.func4.symm.trans hfn)).symm
      exact ⟨by kernel_rfl, fun j t ht => by
        have hm : t ∈ Tryd.f4.params.toList := Array.mem_toList_iff.2 (Array.mem_of_getElem? ht)
        have hall : (Tryd.f4.params.toList.all fun u => !Tryd.prog.wantsStandIn u) = true := by kernel_rfl
        exact (show Tryd.prog.wantsStandIn t = false by simpa using List.all_eq_true.1 hall t hm)⟩)
    (by kernel_rfl)
#print axioms proved_l02_DigestBlocks
end Go.Proofs.YtainieginijaaaaDoor
