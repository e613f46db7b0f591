/- Part 7 of 8 of what this claim's proof stands on: a theory of programs on data, and the contracts of the functions that the law reaches. It holds no condition of its own. -/
import Derived.Test.YtnccacngedeoeaaCS6

/- A row that another is put into. -/
namespace Go.Proofs.Ytnccacngedeoeaa
open Go Go.RowKit

@[reducible] def S_slices_Insert_Trigger : RSpec := ⟨tTrigger, true, .pair tInt (.pair (.slc tTrigger) .unit), true, fun xs y => 0 ≤ y.1 ∧ y.1 ≤ (xs.length : Nat) ∧ xs.length + y.2.1.length ≤ most, fun xs y => putIn xs y.1.toNat y.2.1⟩

theorem ok_slices_Insert_Trigger : RFnOk prog [] n_slices_Insert_Trigger S_slices_Insert_Trigger :=
  rowFn_T x_slices_Insert_Trigger (fx := fx_slices_Insert_Trigger) rfl at_slices_Insert_Trigger (by kernel_rfl) (T := fun xs y => T_slices_Insert_Trigger xs y.1 y.2.1) (fun xs y _ => T_slices_Insert_Trigger_eq xs y.1 y.2.1) fun O w0 bk (xs : List (den tTrigger)) y (hxl : xs.length ≤ maxLen) hy hp => by
    obtain ⟨i, (v : List (den tTrigger)), ⟨⟩⟩ := y
    obtain ⟨h1, h3, hm⟩ := hp
    obtain ⟨i, rfl⟩ := Int.eq_ofNat_of_zero_le h1
    have h3 : i ≤ xs.length := Int.ofNat_le.1 h3
    have hm : xs.length + v.length ≤ most := hm
    have hmm : most = 1073741824 := rfl
    have e0 : ∀ n : Nat, ((n : Nat) : Int).toNat = n := fun n => Int.toNat_natCast n
    have wn : IntKind.wrap .i64 (((xs.length : Nat) : Int) + ((v.length : Nat) : Int)) = ((xs.length + v.length : Nat) : Int) := by
      rw [small_i64 (by omega)]; omega
    have wi : IntKind.wrap .i64 (((xs.length + v.length : Nat) : Int) - ((i : Nat) : Int)) = ((xs.length + v.length - i : Nat) : Int) := by
      rw [small_i64 (by omega)]; omega
    have cz : ∀ a b c : Nat, cutOk (a : Int) (b : Int) (c : Int) ↔ a ≤ b ∧ b ≤ c := fun a b c => by unfold cutOk; omega
    have c0 : ∀ b c : Nat, cutOk 0 (b : Int) (c : Int) ↔ b ≤ c := fun b c => by unfold cutOk; omega
    have el : ∀ zs : List (den tTrigger), lnx tTrigger zs = ((zs.length : Nat) : Int) := fun _ => rfl
    show TreeGoodS _ _ _ _ _ (T_slices_Insert_Trigger xs ((i : Nat) : Int) v)
    unfold T_slices_Insert_Trigger
    simp only [wn, wi, e0, el, Nat.zero_add, Nat.sub_zero, show (0 : Int).toNat = 0 from rfl, TreeGoodS, vok, cz, c0, vpart_take, Int.ofNat_lt, decide_eq_true_eq, decide_eq_false_iff_not]
    have zr : ∀ {a b : List (den tTrigger)}, b = a → ZR tTrigger a (K.val (.slc tTrigger) b) := fun h => by rw [h]; exact (rfl : K.val (.slc tTrigger) _ = _)
    have hap : ∀ sp : List (den tTrigger), (xs ++ sp).length = xs.length + sp.length := fun sp => List.length_append
    refine ⟨Nat.le_refl _, ⟨h3, Nat.le_refl _⟩, fun hv => ⟨Nat.le_refl _, zr ?_⟩, fun hv => ⟨fun hx => ⟨by rw [hap]; exact hm, Nat.le_refl _, zr ?_⟩, fun hx => fun sp hsp => ⟨fun hc => ?_, fun hc => ?_⟩⟩⟩
    · have : v = [] := List.eq_nil_of_length_eq_zero (by have hv : ((v.length : Nat) : Int) = 0 := hv; omega)
      subst this
      rw [List.take_length]; unfold putIn; rw [List.append_nil, List.take_append_drop]
    · have : i = xs.length := Int.ofNat.inj hx
      subst this
      rw [List.take_length]; unfold putIn; rw [List.take_length, List.drop_length, List.append_nil]
    · have e1 : (xs ++ sp).take i = xs.take i := List.take_append_of_le_length h3
      have e2 : vpart tTrigger (xs ++ sp) i (xs.length - i) = xs.drop i := by
        unfold vpart
        rw [List.drop_append_of_le_length h3, List.take_append_of_le_length (by rw [List.length_drop]; exact Nat.le_refl _), List.take_of_length_le (by rw [List.length_drop]; exact Nat.le_refl _)]
      have l0 : (xs.take i ++ List.replicate (xs.length + v.length - i) (zero tTrigger)).length = xs.length + v.length := by
        rw [List.length_append, List.length_take, List.length_replicate]; omega
      have t1 : v.take (xs.length + v.length - i) = v := List.take_of_length_le (by omega)
      have l1 : (over (xs.take i ++ List.replicate (xs.length + v.length - i) (zero tTrigger)) i v).length = xs.length + v.length := by rw [over_len (by omega), l0]
      have wv : IntKind.wrap .i64 (((i : Nat) : Int) + ((v.length : Nat) : Int)) = ((i + v.length : Nat) : Int) := by
        rw [small_i64 (by omega)]; omega
      simp only [e1, l0, t1, l1, wv, e0, e2, cz, hap]
      rw [put_grown h3 (by omega)]
      simp only [hap] at hc
      refine ⟨by omega, by omega, by omega, by omega, by omega, by omega, by omega, by omega, by omega, by omega, by omega, by omega, by omega, by omega, by omega, Nat.le_refl _, zr ?_⟩
      rw [List.take_length]
    · have hc : xs.length + v.length ≤ xs.length + sp.length := by rw [hap] at hc; omega
      have wv : IntKind.wrap .i64 (((i : Nat) : Int) + ((v.length : Nat) : Int)) = ((i + v.length : Nat) : Int) := by
        rw [small_i64 (by omega)]; omega
      have t1 : v.take (xs.length + v.length - i) = v := List.take_of_length_le (by omega)
      have t2 : (vpart tTrigger (xs ++ sp) i (xs.length + v.length - i)).take (xs.length + v.length - (i + v.length)) = xs.drop i := by
        unfold vpart
        rw [List.take_take, Nat.min_eq_left (by omega), List.drop_append_of_le_length h3, List.take_append_of_le_length (by rw [List.length_drop]; omega), List.take_of_length_le (by rw [List.length_drop]; omega)]
      have l1 : (over (xs ++ sp) (i + v.length) (xs.drop i)).length = xs.length + sp.length := by rw [over_len (by rw [List.length_drop, hap]; omega), hap]
      have l2 : (over (over (xs ++ sp) (i + v.length) (xs.drop i)) i v).length = xs.length + sp.length := by rw [over_len (by omega), l1]
      simp only [wv, e0, cz, hap, t1, t2, l1, l2]
      refine ⟨by omega, by omega, by omega, by omega, fun _ => ⟨by omega, by omega, by omega, by omega, by omega, by omega, by omega, by omega, by omega, by omega, zr (put_there h3 (by omega))⟩, fun h => (by cases h)⟩

end Go.Proofs.Ytnccacngedeoeaa

/- The way between two, what triggers are compared by, and the document's tables. -/
namespace Go.Proofs.Ytnccacngedeoeaa
open Go Go.RowKit

theorem way_mod {x y W : Int} (hx : 0 ≤ x ∧ x < W) (hy : 0 ≤ y ∧ y < W) : (y - x) % W = if x ≤ y then y - x else y - x + W := by
  split
  · exact Int.emod_eq_of_lt (by omega) (by omega)
  · rw [← Int.add_emod_right]
    exact Int.emod_eq_of_lt (by omega) (by omega)

theorem vB_id {a : List Int} (ha : a.length = 32 ∧ byt a) : 0 ≤ vB a ∧ vB a < whole := by
  have := vB_range ha.2; rw [ha.1] at this; exact this

theorem vB_Far {a b : List Int} (ha : a.length = 32 ∧ byt a) (hb : b.length = 32 ∧ byt b) : vB (g_Far a b) = if vB a ≤ vB b then vB b - vB a else vB b - vB a + whole := by
  have ra := vB_id ha
  have rb := vB_id hb
  rw [← way_mod ra rb]
  exact (toB_spec 32 (Int.emod_nonneg _ (by decide)) (Int.emod_lt_of_pos _ (by decide))).2
theorem Far_byt {a b : List Int} : (g_Far a b).length = 32 ∧ byt (g_Far a b) :=
  ⟨toB_length _ _, (toB_spec 32 (Int.emod_nonneg _ (by decide)) (Int.emod_lt_of_pos _ (by decide))).1⟩

theorem vB_zeros : vB (List.replicate 32 (0 : Int)) = 0 := by decide
theorem zeros_byt : byt (List.replicate 32 (0 : Int)) := fun x h => by
  have := List.eq_of_mem_replicate h
  omega

theorem Far_zero {a b : List Int} (ha : a.length = 32 ∧ byt a) (hb : b.length = 32 ∧ byt b) : g_Far a b = List.replicate 32 (0 : Int) ↔ vB a = vB b := by
  have ra := vB_id ha
  have rb := vB_id hb
  have h1 := vB_Far ha hb
  refine ⟨fun h => ?_, fun h => ?_⟩
  · rw [h, vB_zeros] at h1
    split at h1 <;> omega
  · refine vB_inj (by rw [Far_byt.1, List.length_replicate]) Far_byt.2 zeros_byt ?_
    rw [h1, vB_zeros, if_pos (by omega)]; omega

noncomputable abbrev S_ident_In : Spec := ⟨as_ident_In, rs_ident_In, fun x => (g_In x.1 x.2.1 x.2.2.1, ()), fun _ => True, true⟩
theorem In_far {x a b : List Int} (hx : x.length = 32 ∧ byt x) (ha : a.length = 32 ∧ byt a) (hb : b.length = 32 ∧ byt b) (h : ¬ a = b) :
    (bif !decide (g_Far a x = List.replicate 32 (0 : Int)) then decide (g_Cmp (g_Far a x) (g_Far a b) ≤ 0) else false) = g_In x a b := by
  have rx := vB_id hx
  have ra := vB_id ha
  have rb := vB_id hb
  have hne : ¬ vB a = vB b := fun e => h (vB_inj (by rw [ha.1, hb.1]) ha.2 hb.2 e)
  simp only [cmp_le, Far_zero ha hx, vB_Far ha hx, vB_Far ha hb]
  rw [g_In, if_neg h]
  by_cases e1 : vB a = vB x
  · simp only [e1, decide_true, Bool.not_true, cond_false]
    split
    · simp
    · symm; simp; omega
  · simp only [e1, decide_false, Bool.not_false, cond_true]
    rw [Bool.eq_iff_iff]
    split <;> split <;> split <;> simp only [Bool.and_eq_true, Bool.or_eq_true, decide_eq_true_eq] <;> omega
theorem tr_ident_In (O : Nat → Prop) (w0 : World) (x a b : List Int) (hx : x.length = 32 ∧ byt x) (ha : a.length = 32 ∧ byt a) (hb : b.length = 32 ∧ byt b) : TreeGood prog D_ident_In O w0 f_ident_In rs_ident_In (fun y => y = (g_In x a b, ())) (T_ident_In x a b) := by
  unfold T_ident_In
  rw [eqb_tId, eqb_tId]
  refine ⟨fun h => ⟨_, rfl, ?_⟩, fun h => ⟨trivial, fun _ => trivial, fun _ => trivial, _, rfl, ?_⟩⟩
  · have h : a = b := of_decide_eq_true h
    simp [g_In, h]
  · have h : ¬ a = b := of_decide_eq_false h
    rw [← In_far hx ha hb h]; rfl
theorem k_ident_In : FnOk prog [] n_ident_In S_ident_In :=
  fn_T (d_ident_In k_ident_Far k_ident_Compare) ht_ident_In at_ident_In (by kernel_rfl) (fun _ _ => trivial) (A := A_ident_In) (T := fun x => T_ident_In x.1 x.2.1 x.2.2.1) (fun x => T_ident_In_eq x.1 x.2.1 x.2.2.1) fun O w0 x hk _ =>
    tr_ident_In O w0 x.1 x.2.1 x.2.2.1 (ok_byt hk.1) (ok_byt hk.2.1) (ok_byt hk.2.2.1)

/-! ### What triggers are compared by -/

noncomputable abbrev S_table_trigger_id : Spec := ⟨as_table_trigger_id, rs_table_trigger_id, fun x => (g_Cmp x.1.1 x.2.1.1, ()), fun _ => True, true⟩
theorem k_table_trigger_id : FnOk prog [] n_table_trigger_id S_table_trigger_id :=
  fn_T (d_table_trigger_id k_ident_Compare) ht_table_trigger_id at_table_trigger_id (by kernel_rfl) (fun _ _ => trivial) (A := A_table_trigger_id) (T := fun x => T_table_trigger_id x.1 x.2.1) (fun x => T_table_trigger_id_eq x.1 x.2.1) fun O w0 x _ _ => ⟨trivial, _, rfl, rfl⟩
noncomputable abbrev S_table_trigger_kind : Spec := ⟨as_table_trigger_kind, rs_table_trigger_kind, fun x => (cmpI x.1.2.1.1 x.2.1.2.1.1, ()), fun _ => True, true⟩
theorem k_table_trigger_kind : FnOk prog [] n_table_trigger_kind S_table_trigger_kind :=
  fn_T (d_table_trigger_kind k_cmp_Compare_int) ht_table_trigger_kind at_table_trigger_kind (by kernel_rfl) (fun _ _ => trivial) (A := A_table_trigger_kind) (T := fun x => T_table_trigger_kind x.1 x.2.1) (fun x => T_table_trigger_kind_eq x.1 x.2.1) fun O w0 x _ _ => ⟨trivial, _, rfl, rfl⟩
noncomputable abbrev S_table_trigger_goes : Spec := ⟨as_table_trigger_goes, rs_table_trigger_goes, fun x => (g_Cmp x.1.2.1.2.1 x.2.1.2.1.2.1, ()), fun _ => True, true⟩
theorem k_table_trigger_goes : FnOk prog [] n_table_trigger_goes S_table_trigger_goes :=
  fn_T (d_table_trigger_goes k_ident_Compare) ht_table_trigger_goes at_table_trigger_goes (by kernel_rfl) (fun _ _ => trivial) (A := A_table_trigger_goes) (T := fun x => T_table_trigger_goes x.1 x.2.1) (fun x => T_table_trigger_goes_eq x.1 x.2.1) fun O w0 x _ _ => ⟨trivial, _, rfl, rfl⟩
noncomputable abbrev S_table_trigger_host : Spec := ⟨as_table_trigger_host, rs_table_trigger_host, fun x => (cmpI x.1.2.1.2.2.1 x.2.1.2.1.2.2.1, ()), fun _ => True, true⟩
theorem k_table_trigger_host : FnOk prog [] n_table_trigger_host S_table_trigger_host :=
  fn_T (d_table_trigger_host k_cmp_Compare_int) ht_table_trigger_host at_table_trigger_host (by kernel_rfl) (fun _ _ => trivial) (A := A_table_trigger_host) (T := fun x => T_table_trigger_host x.1 x.2.1) (fun x => T_table_trigger_host_eq x.1 x.2.1) fun O w0 x _ _ => ⟨trivial, _, rfl, rfl⟩

/-! ### Those on a way -/

def g_On (t : List (den tTrigger)) (a b : den tId) (on : Bool) : List (den tTrigger) := t.filter fun x => eqO (g_In x.1 a b) on

noncomputable abbrev S_r12_On : Spec := ⟨as_r12_On, rs_r12_On, fun x => (g_On x.1 x.2.1 x.2.2.1 x.2.2.2.1, ()), fun x => x.1.length ≤ 1000000, false⟩

def gl_r12_On (O : Nat → Prop) (w0 : World) (t : List (den tTrigger)) (a b : den tId) (on : Bool) (ht : t.length ≤ 1000000) := 
  PLift.up <| range_good (P := prog) (D := D_r12_On) (fn := f_r12_On) (rs := rs_r12_On) (O := O) (w0 := w0) (todo := lp f_r12_On 3) (σ := List (den tTrigger)) t.length
    (fun i s => E_r12_On_3 on t (lnx tTrigger t) i a b s) (fun i s => s.length ≤ i)
    (fun i s y => y = (s ++ g_On (t.drop i) a b on, ()))
    (fun i s hi hs ih => good_T (d_r12_On k_r01_In) ht_r12_On (TL_r12_On_3_eq on t _ _ a b s) ⟨fun _ => by
      refine ⟨inB_of hi, trivial, ?_⟩
      rw [el_at hi, wr_idx hi (by omega)]
      refine ⟨fun h => ⟨by simp [most]; omega, ?_⟩, fun h => ?_⟩
      · refine Good.mono (fun y hy => ?_) (ih (s ++ [t[i]]) (by simp; omega))
        rw [hy, List.drop_eq_getElem_cons hi, g_On, g_On, List.filter_cons, if_pos h]
        simp
      · refine Good.mono (fun y hy => ?_) (ih s (by omega))
        rw [hy, List.drop_eq_getElem_cons hi, g_On, g_On, List.filter_cons, if_neg (by rw [h]; simp)], fun h => by
      have h : ¬ (i : Int) < (t.length : Int) := of_decide_eq_false h
      omega⟩)
    (fun s _ => good_T (d_r12_On k_r01_In) ht_r12_On (TL_r12_On_3_eq on t _ _ a b s) ⟨fun h => by
      have h : (t.length : Int) < (t.length : Int) := of_decide_eq_true h
      omega, fun _ => ⟨_, rfl, by simp [g_On]⟩⟩)
theorem k_r12_On : FnOk prog [] n_r12_On S_r12_On :=
  fn_T (d_r12_On k_r01_In) ht_r12_On at_r12_On (by kernel_rfl) (fun h => by cases h) (A := A_r12_On) (T := fun x => T_r12_On x.1 x.2.1 x.2.2.1 x.2.2.2.1) (fun x => T_r12_On_eq x.1 x.2.1 x.2.2.1 x.2.2.2.1) fun O w0 x _ hp =>
    (gl_r12_On O w0 x.1 x.2.1 x.2.2.1 x.2.2.2.1 hp).down 0 [] (Nat.zero_le _) (Nat.zero_le _)

/-! ### Which tables may be -/

def okAt (t : List (den tTrigger)) (i : Nat) : Bool := g_may (el tTrigger t (i : Nat)) && (decide (i = 0) || g_Less (el tTrigger t ((i : Nat) - 1 : Int)) (el tTrigger t (i : Nat)))
def okFrom (t : List (den tTrigger)) (i : Nat) : Bool := (List.range' i (t.length - i)).all (okAt t)
def g_Right (t : List (den tTrigger)) : Bool := okFrom t 0 && decide (t.length ≤ 32)

theorem okFrom_step {t : List (den tTrigger)} {i : Nat} (h : i < t.length) : okFrom t i = (okAt t i && okFrom t (i + 1)) := by
  unfold okFrom
  rw [show t.length - i = (t.length - (i + 1)) + 1 by omega, List.range'_succ, List.all_cons]
theorem okFrom_end {t : List (den tTrigger)} : okFrom t t.length = true := by
  unfold okFrom; rw [Nat.sub_self]; rfl

noncomputable abbrev S_r12_Right : Spec := ⟨as_r12_Right, rs_r12_Right, fun x => (g_Right x.1, ()), fun x => x.1.length ≤ 1000000, false⟩

def gl_r12_Right (O : Nat → Prop) (w0 : World) (t : List (den tTrigger)) (ht : t.length ≤ 1000000) :=
  PLift.up <| range_good (P := prog) (D := D_r12_Right) (fn := f_r12_Right) (rs := rs_r12_Right) (O := O) (w0 := w0) (todo := lp f_r12_Right 2) (σ := Unit) t.length
    (fun i _ => E_r12_Right_2 t t (lnx tTrigger t) i) (fun i _ => True)
    (fun i _ y => y = (okFrom t i && decide (t.length ≤ 32), ()))
    (fun i s hi _ ih => good_T (d_r12_Right k_r12_May k_r12_Less) ht_r12_Right (TL_r12_Right_2_eq t t _ _) ⟨fun _ => by
      have e1 : IntKind.wrap .i64 ((i : Int) - 1) = (i : Int) - 1 := small_i64 (by omega)
      have hc : (bif !g_may (el tTrigger t (i : Nat)) then true else bif decide (0 < (i : Int)) then !g_Less (el tTrigger t (IntKind.wrap IntKind.i64 ((i : Int) - 1))) (el tTrigger t (i : Nat)) else false) = !okAt t i := by
        rw [e1, okAt]
        cases g_may (el tTrigger t (i : Nat))
        · rfl
        · by_cases h : i = 0
          · simp [h]
          · have : (0 : Int) < (i : Int) := by omega
            rw [decide_eq_true this, decide_eq_false h]
            rfl
      refine ⟨inB_of hi, trivial, fun _ h => ?_, fun _ _ => trivial, ?_⟩
      · have h : (0 : Int) < (i : Int) := of_decide_eq_true h
        rw [e1]
        show 0 ≤ (i : Int) - 1 ∧ (i : Int) - 1 < (t.length : Int)
        omega
      · rw [hc, wr_idx hi (by omega)]
        refine ⟨fun h => ⟨_, rfl, ?_⟩, fun h => ?_⟩
        · rw [okFrom_step hi]
          have : okAt t i = false := by simpa using h
          rw [this]; rfl
        · refine Good.mono (fun y hy => ?_) (ih () trivial)
          have : okAt t i = true := by simpa using h
          rw [hy, okFrom_step hi, this, Bool.true_and], fun h => by
      have h : ¬ (i : Int) < (t.length : Int) := of_decide_eq_false h
      omega⟩)
    (fun s _ => good_T (d_r12_Right k_r12_May k_r12_Less) ht_r12_Right (TL_r12_Right_2_eq t t _ _) ⟨fun h => by
      have h : (t.length : Int) < (t.length : Int) := of_decide_eq_true h
      omega, fun _ => ⟨_, rfl, by
        rw [okFrom_end]
        have : (lnx tTrigger t ≤ 32) ↔ t.length ≤ 32 := ⟨fun h => by have h : (t.length : Int) ≤ 32 := h; omega, fun h => by show (t.length : Int) ≤ 32; omega⟩
        simp [this]⟩⟩)
theorem k_r12_Right : FnOk prog [] n_r12_Right S_r12_Right :=
  fn_T (d_r12_Right k_r12_May k_r12_Less) ht_r12_Right at_r12_Right (by kernel_rfl) (fun h => by cases h) (A := A_r12_Right) (T := fun x => T_r12_Right x.1) (fun x => T_r12_Right_eq x.1) fun O w0 x _ hp =>
    (gl_r12_Right O w0 x.1 hp).down 0 () (Nat.zero_le _) trivial

/-! ### Those of the likest identifier -/

/-- Those that have so many bits in common with it, and the first one's identifier. -/
def pickN (id : den tId) (n : Int) (b : List (den tTrigger)) (x : den tTrigger) : Bool :=
  decide (g_Common x.1 id = n) && (decide (b.length = 0) || decide ((el tTrigger b 0).1 = x.1))
def matchN (id : den tId) (n : Int) : List (den tTrigger) → List (den tTrigger) → List (den tTrigger)
  | [], b => b
  | x :: t, b => if pickN id n b x then matchN id n t (b ++ [x]) else matchN id n t b
def matchD (t : List (den tTrigger)) (id : den tId) : Nat → List (den tTrigger)
  | 0 => []
  | k + 1 => if 0 < (matchN id (127 + (k + 1 : Nat)) t []).length then matchN id (127 + (k + 1 : Nat)) t [] else matchD t id k

theorem matchN_len (id : den tId) (n : Int) : ∀ (t b : List (den tTrigger)), (matchN id n t b).length ≤ b.length + t.length
  | [], b => Nat.le_refl _
  | x :: t, b => by
    rw [matchN]; split
    · have := matchN_len id n t (b ++ [x]); simp only [List.length_append, List.length_cons, List.length_nil] at *; omega
    · have := matchN_len id n t b; simp only [List.length_cons] at *; omega

noncomputable abbrev S_r12_Match : Spec := ⟨as_r12_Match, rs_r12_Match, fun x => (matchD x.1 x.2.1 129, ()), fun x => x.1.length ≤ 1000000, false⟩

def gi_r12_Match (O : Nat → Prop) (w0 : World) (t : List (den tTrigger)) (id : den tId) (ht : t.length ≤ 1000000) (k : Nat) (hk : k ≤ 128)
    (out : Good prog D_r12_Match O w0 f_r12_Match (Ends prog O w0 rs_r12_Match fun y => y = (matchD t id k, ())) (lp f_r12_Match 3) (E_r12_Match_3 t (127 + (k : Nat)) id [])) :=
  PLift.up <| range_good (P := prog) (D := D_r12_Match) (fn := f_r12_Match) (rs := rs_r12_Match) (O := O) (w0 := w0) (todo := lp f_r12_Match 6) (σ := List (den tTrigger)) t.length
    (fun i s => E_r12_Match_6 t (127 + (k + 1 : Nat)) t (lnx tTrigger t) i id s) (fun i s => s.length ≤ i)
    (fun i s y => y = (if 0 < (matchN id (127 + (k + 1 : Nat)) (t.drop i) s).length then matchN id (127 + (k + 1 : Nat)) (t.drop i) s else matchD t id k, ()))
    (fun i s hi hs ih => good_T (d_r12_Match k_r01_Common) ht_r12_Match (TL_r12_Match_6_eq t _ t _ _ id s) ⟨fun _ => by
      have hc : ∀ x : den tTrigger, (bif decide (g_Common (Prod.fst x) id = (127 + (k + 1 : Nat) : Int)) then bif decide (lnx tTrigger s = 0) then true else eqb tId (Prod.fst (el tTrigger s 0)) (Prod.fst x) else false) = pickN id (127 + (k + 1 : Nat)) s x := fun x => by
        rw [pickN, eqb_tId]
        have : (lnx tTrigger s = 0) ↔ s.length = 0 := ⟨fun h => by have h : (s.length : Int) = 0 := h; omega, fun h => by show (s.length : Int) = 0; omega⟩
        simp only [this]
        cases decide (g_Common (Prod.fst x) id = (127 + (k + 1 : Nat) : Int)) <;> cases decide (s.length = 0) <;> rfl
      have hin : impl [(decide (g_Common (Prod.fst (el tTrigger t (i : Nat))) id = (127 + (k + 1 : Nat) : Int)), true), (decide (lnx tTrigger s = 0), false)] (inB 0 (lnx tTrigger s)) := fun _ h => by
        have h : ¬ (s.length : Int) = 0 := of_decide_eq_false h
        show (0 : Int) ≤ 0 ∧ (0 : Int) < (s.length : Int)
        omega
      refine ⟨inB_of hi, trivial, hin, hin, ?_⟩
      rw [hc, el_at hi, wr_idx hi (by omega), List.drop_eq_getElem_cons hi]
      refine ⟨fun h => ⟨by simp [most]; omega, ?_⟩, fun h => ?_⟩
      · refine Good.mono (fun y hy => ?_) (ih (s ++ [t[i]]) (by simp; omega))
        rw [hy, show matchN id (127 + (k + 1 : Nat)) (t[i] :: t.drop (i + 1)) s = matchN id (127 + (k + 1 : Nat)) (t.drop (i + 1)) (s ++ [t[i]]) from by rw [matchN, if_pos h]]
      · refine Good.mono (fun y hy => ?_) (ih s (by omega))
        rw [hy, show matchN id (127 + (k + 1 : Nat)) (t[i] :: t.drop (i + 1)) s = matchN id (127 + (k + 1 : Nat)) (t.drop (i + 1)) s from by rw [matchN, if_neg (by rw [h]; simp)]], fun h => by
      have h : ¬ (i : Int) < (t.length : Int) := of_decide_eq_false h
      omega⟩)
    (fun s _ => good_T (d_r12_Match k_r01_Common) ht_r12_Match (TL_r12_Match_6_eq t _ t _ _ id s) ⟨fun h => by
      have h : (t.length : Int) < (t.length : Int) := of_decide_eq_true h
      omega, fun _ => ⟨fun h => ⟨_, rfl, by
        have h : (0 : Int) < (s.length : Int) := of_decide_eq_true h
        rw [List.drop_length, matchN, if_pos (by omega)]⟩, fun h => by
        have h : ¬ (0 : Int) < (s.length : Int) := of_decide_eq_false h
        have hs : s = [] := List.eq_nil_of_length_eq_zero (by omega)
        subst hs
        rw [List.drop_length, matchN, if_neg (by simp)]
        have e9 : IntKind.wrap .i64 ((127 + ((k + 1 : Nat) : Int)) - 1) = 127 + (k : Int) := by rw [small_i64 (by omega)]; omega
        rw [e9]
        exact out⟩⟩)

theorem gl_r12_Match (O : Nat → Prop) (w0 : World) (t : List (den tTrigger)) (id : den tId) (ht : t.length ≤ 1000000) : ∀ k : Nat, k ≤ 129 →
    Good prog D_r12_Match O w0 f_r12_Match (Ends prog O w0 rs_r12_Match fun y => y = (matchD t id k, ())) (lp f_r12_Match 3) (E_r12_Match_3 t (127 + (k : Nat)) id [])
  | 0, _ => good_T (d_r12_Match k_r01_Common) ht_r12_Match (TL_r12_Match_3_eq t _ id []) ⟨fun h => by
      have h : (128 : Int) ≤ 127 + ((0 : Nat) : Int) := of_decide_eq_true h
      omega, fun _ => ⟨_, rfl, rfl⟩⟩
  | k + 1, hk => good_T (d_r12_Match k_r01_Common) ht_r12_Match (TL_r12_Match_3_eq t _ id []) ⟨fun _ => by
      have := (gi_r12_Match O w0 t id ht k (by omega) (gl_r12_Match O w0 t id ht k (by omega))).down 0 [] (Nat.zero_le _) (Nat.zero_le _)
      exact this, fun h => by
      have h : ¬ (128 : Int) ≤ 127 + ((k + 1 : Nat) : Int) := of_decide_eq_false h
      omega⟩
theorem k_r12_Match : FnOk prog [] n_r12_Match S_r12_Match :=
  fn_T (d_r12_Match k_r01_Common) ht_r12_Match at_r12_Match (by kernel_rfl) (fun h => by cases h) (A := A_r12_Match) (T := fun x => T_r12_Match x.1 x.2.1) (fun x => T_r12_Match_eq x.1 x.2.1) fun O w0 x _ hp =>
    gl_r12_Match O w0 x.1 x.2.1 hp 129 (by omega)

end Go.Proofs.Ytnccacngedeoeaa

/- What the table's functions, and the document's, compute. -/
namespace Go.Proofs.Ytnccacngedeoeaa
open Go Go.RowKit

abbrev Tr := den tTrigger

noncomputable abbrev S_table_compare : Spec := ⟨as_table_compare, rs_table_compare, fun x => (g_cmpT x.1 x.2.1, ()), fun _ => True, true⟩

def isIE (x : den tTrigger) (id : den tId) (e : den tEntry) : Bool := decide (x.1 = id) && decide (x.2.1 = e)
noncomputable abbrev S_r12_is : Spec := ⟨as_r12_is, rs_r12_is, fun x => (isIE x.1 x.2.1 x.2.2.1, ()), fun _ => True, true⟩

/-- No trigger. -/
def noT : den tTrigger := ((zero tTrigger).1, (zero tTrigger).2.1, (-1 : Int), ())
def g_Find (t : List (den tTrigger)) (id : den tId) (e : den tEntry) : den tTrigger := (t.find? fun x => isIE x id e).getD noT
noncomputable abbrev S_r12_Find : Spec := ⟨as_r12_Find, rs_r12_Find, fun x => (g_Find x.1 x.2.1 x.2.2.1, ()), fun x => x.1.length ≤ 1000000, false⟩
def g_Without (t : List (den tTrigger)) (id : den tId) (e : den tEntry) : List (den tTrigger) := t.filter fun x => !isIE x id e
noncomputable abbrev S_r12_Without : Spec := ⟨as_r12_Without, rs_r12_Without, fun x => (g_Without x.1 x.2.1 x.2.2.1, ()), fun x => x.1.length ≤ 1000000, false⟩

/-- Another time. -/
def untilT (x : den tTrigger) (u : Int) : den tTrigger := (x.1, x.2.1, u, ())
/-- Put in ahead of the first that is above it. -/
def putD (x : den tTrigger) : List (den tTrigger) → List (den tTrigger)
  | [] => [x]
  | y :: l => if g_Less x y then x :: y :: l else y :: putD x l
def lastT (t : List (den tTrigger)) (x : den tTrigger) : den tTrigger := if x.2.2.1 < (g_Find t x.1 x.2.1).2.2.1 then untilT x (g_Find t x.1 x.2.1).2.2.1 else x
def g_PutD (t : List (den tTrigger)) (x : den tTrigger) : List (den tTrigger) := putD (lastT t x) (g_Without t x.1 x.2.1)
noncomputable abbrev S_r12_Put : Spec := ⟨as_r12_Put, rs_r12_Put, fun x => (g_PutD x.1 x.2.1, decide ((g_PutD x.1 x.2.1).length ≤ 32), ()), fun x => x.1.length ≤ 1000000, false⟩

noncomputable abbrev S_table_Right : Spec := ⟨as_table_Right, rs_table_Right, fun x => (g_Right x.1, ()), fun x => x.1.length ≤ 1000000, false⟩
noncomputable abbrev S_table_Cut_1 : Spec := ⟨as_table_Cut_1, rs_table_Cut_1, fun x => (g_In x.1.1 x.2.1 x.2.2.1, ()), fun _ => True, true⟩

/-- Halving. -/
def halve (c : Nat → Int) : Nat → Nat → Nat → Nat
  | 0, i, _ => i
  | k + 1, i, j => if i < j then (if c ((i + j) / 2) < 0 then halve c k ((i + j) / 2 + 1) j else halve c k i ((i + j) / 2)) else i
def cmpB (f : den (.fn (.pair tTrigger (.pair tTrigger .unit)) (.pair (.int .i64) .unit))) (x y : den tTrigger) : Int := (fcall (a := .pair tTrigger (.pair tTrigger .unit)) (r := .pair (.int .i64) .unit) f (x, y, ())).1
def findB (c : den tTrigger → Int) (t : List (den tTrigger)) : Nat := halve (fun k => c (el tTrigger t (k : Nat))) t.length 0 t.length
def isB (c : den tTrigger → Int) (t : List (den tTrigger)) : Bool := decide (findB c t < t.length) && decide (c (el tTrigger t (findB c t : Nat)) = 0)
noncomputable abbrev S_slices_BinarySearchFunc_Trigger : Spec := ⟨as_slices_BinarySearchFunc_Trigger, rs_slices_BinarySearchFunc_Trigger, fun x => (((findB (fun y => cmpB x.2.2.1 y x.2.1) x.1 : Nat) : Int), isB (fun y => cmpB x.2.2.1 y x.2.1) x.1, ()), fun x => x.1.length ≤ 1000000 ∧ isFn (a := .pair tTrigger (.pair tTrigger .unit)) (r := .pair (.int .i64) .unit) x.2.2.1, false⟩

def g_TExpire (t : List (den tTrigger)) (now : Int) : List (den tTrigger) × Int := if g_Right t then (g_Expire t now, 0) else ([], 1)
noncomputable abbrev S_table_Expire : Spec := ⟨as_table_Expire, rs_table_Expire, fun x => ((g_TExpire x.1 x.2.1).1, (g_TExpire x.1 x.2.1).2, ()), fun x => x.1.length ≤ 1000000, false⟩
/-- The likest, and how like. -/
def likest (id : den tId) : List (den tTrigger) → Int → den tId → Int × den tId
  | [], m, l => (m, l)
  | x :: t, m, l => if m < g_Common x.1 id then likest id t (g_Common x.1 id) x.1 else likest id t m l
def g_Match (t : List (den tTrigger)) (id : den tId) : List (den tTrigger) × Int :=
  if g_Right t then (if (likest id t 127 (zero tId)).1 < 128 then ([], 6) else (t.filter fun x => decide (x.1 = (likest id t 127 (zero tId)).2), 0)) else ([], 1)
noncomputable abbrev S_table_Match : Spec := ⟨as_table_Match, rs_table_Match, fun x => ((g_Match x.1 x.2.1).1, (g_Match x.1 x.2.1).2, ()), fun x => x.1.length ≤ 1000000, false⟩
def g_Cut (t : List (den tTrigger)) (a b : den tId) : List (den tTrigger) × List (den tTrigger) × Int :=
  if g_Right t then (t.filter (fun x => g_In x.1 a b), t.filter (fun x => !g_In x.1 a b), 0) else ([], [], 1)
noncomputable abbrev S_table_Cut : Spec := ⟨as_table_Cut, rs_table_Cut, fun x => ((g_Cut x.1 x.2.1 x.2.2.1).1, (g_Cut x.1 x.2.1 x.2.2.1).2.1, (g_Cut x.1 x.2.1 x.2.2.1).2.2, ()), fun x => x.1.length ≤ 1000000, false⟩

def atB (t : List (den tTrigger)) (x : den tTrigger) : Nat := findB (fun y => g_cmpT y x) t
def thereB (t : List (den tTrigger)) (x : den tTrigger) : Bool := isB (fun y => g_cmpT y x) t
def g_Put (t : List (den tTrigger)) (x : den tTrigger) : List (den tTrigger) × Int :=
  if g_Right t && g_may x then
    (if thereB t x then (t.set (atB t x) (untilT (el tTrigger t (atB t x : Nat)) (maxI (el tTrigger t (atB t x : Nat)).2.2.1 x.2.2.1)), 0)
    else if t.length = 32 then ([], 8) else (putIn t (atB t x) [x], 0))
  else ([], 1)
noncomputable abbrev S_table_Put : Spec := ⟨as_table_Put, rs_table_Put, fun x => ((g_Put x.1 x.2.1).1, (g_Put x.1 x.2.1).2, ()), fun x => x.1.length ≤ 1000000, false⟩
def keyTr (id : den tId) (e : den tEntry) : den tTrigger := (id, e, (0 : Int), ())
def g_Drop (t : List (den tTrigger)) (id : den tId) (e : den tEntry) : List (den tTrigger) × Int :=
  if g_Right t then (if thereB t (keyTr id e) then (t.take (atB t (keyTr id e)) ++ t.drop (atB t (keyTr id e) + 1), 0) else ([], 6)) else ([], 1)
noncomputable abbrev S_table_Drop : Spec := ⟨as_table_Drop, rs_table_Drop, fun x => ((g_Drop x.1 x.2.1 x.2.2.1).1, (g_Drop x.1 x.2.1 x.2.2.1).2, ()), fun x => x.1.length ≤ 1000000, false⟩
noncomputable abbrev S_l12_alive : Spec := ⟨as_l12_alive, rs_l12_alive, fun _ => (true, ()), fun _ => True, true⟩

end Go.Proofs.Ytnccacngedeoeaa

/- Stacks, packets, what becomes of one: what the functions compute. -/
namespace Go.Proofs.Ytnccacngedeoeaa
open Go Go.RowKit

abbrev Ent := den tEntry
abbrev Pk := den tPacket
abbrev Ou := den tOut
abbrev Tg := den tTrigger

def g_all (l : List Ent) : Bool := l.all g_Is
def g_stackRight (l : List Ent) : Bool := decide (1 ≤ l.length) && decide (l.length ≤ 4) && g_all l
def g_Push (l front : List Ent) : List Ent × Int :=
  if g_all l = true ∧ g_all front = true then (if l.length + front.length ≤ 4 then (front ++ l, 0) else ([], 12)) else ([], 1)
def g_packetRight (p : Pk) : Bool := g_stackRight p.1 && decide ((0 : Int) ≤ p.2.1) && decide ((p.2.1 : Int) ≤ 64) && decide (ByteArray.size p.2.2.1 ≤ 64)
def hopLess (n : Int) : Int := IntKind.wrap .i64 (n - 1)
def g_on (p : Pk) (x : Tg) (front : List Ent) : Ou := (2, 0, ((g_Push (List.drop 1 p.1) front).1, hopLess p.2.1, p.2.2.1, ()), x, 0, ())
def g_dead (why : Int) : List Ou := [(3, 0, zero tPacket, zero tTrigger, why, ())]
def firstOf (p : Pk) : Ent := el tEntry p.1 0
def g_Step (t : List Tg) (p : Pk) : List Ou × Int :=
  if g_packetRight p = true ∧ g_Right t = true then
    (if (firstOf p).1 = (2 : Int) then [(1, (firstOf p).2.2.1, p, zero tTrigger, 0, ())]
    else if (p.2.1 : Int) = 0 then g_dead 9
    else if (g_Match t (firstOf p).2.1).2 = 0 then (g_Match t (firstOf p).2.1).1.map fun x => g_on p x [x.2.1]
    else if 1 < p.1.length then [g_on p (zero tTrigger) []] else g_dead 6, 0)
  else ([], 1)

noncomputable abbrev S_stack_all : Spec := ⟨as_stack_all, rs_stack_all, fun x => (g_all x.1, ()), fun x => x.1.length ≤ 1000000, false⟩
noncomputable abbrev S_r04_All : Spec := ⟨as_r04_All, rs_r04_All, fun x => (g_all x.1, ()), fun x => x.1.length ≤ 1000000, false⟩
noncomputable abbrev S_stack_Right : Spec := ⟨as_stack_Right, rs_stack_Right, fun x => (g_stackRight x.1, ()), fun x => x.1.length ≤ 1000000, false⟩
noncomputable abbrev S_r04_Right : Spec := ⟨as_r04_Right, rs_r04_Right, fun x => (g_stackRight x.1, ()), fun x => x.1.length ≤ 1000000, false⟩
noncomputable abbrev S_stack_Push : Spec := ⟨as_stack_Push, rs_stack_Push, fun x => ((g_Push x.1 x.2.1).1, (g_Push x.1 x.2.1).2, ()), fun x => x.1.length ≤ 1000000 ∧ x.2.1.length ≤ 1000000, false⟩
noncomputable abbrev S_rewrite_Right : Spec := ⟨as_rewrite_Right, rs_rewrite_Right, fun x => (g_packetRight x.1, ()), fun x => x.1.1.length ≤ 1000000, false⟩
noncomputable abbrev S_r13_Right : Spec := ⟨as_r13_Right, rs_r13_Right, fun x => (g_packetRight x.1, ()), fun x => x.1.1.length ≤ 1000000, false⟩
noncomputable abbrev S_rewrite_dead : Spec := ⟨as_rewrite_dead, rs_rewrite_dead, fun x => (g_dead x.1, ()), fun _ => True, true⟩
noncomputable abbrev S_rewrite_on : Spec := ⟨as_rewrite_on, rs_rewrite_on, fun x => (g_on x.1 x.2.1 x.2.2.1, ()), fun x => 1 ≤ x.1.1.length ∧ x.1.1.length ≤ 1000000 ∧ x.2.2.1.length ≤ 1000000, false⟩
noncomputable abbrev S_rewrite_Step : Spec := ⟨as_rewrite_Step, rs_rewrite_Step, fun x => ((g_Step x.1 x.2.1).1, (g_Step x.1 x.2.1).2, ()), fun x => x.1.length ≤ 1000000 ∧ x.2.1.1.length ≤ 1000000, false⟩

end Go.Proofs.Ytnccacngedeoeaa

/- The trees of functions' bodies, as the evaluator prints them. -/
namespace Go.Proofs.Ytnccacngedeoeaa
open Go Go.RowKit

noncomputable abbrev fx_slices_ContainsFunc_Entry : Fx := { fn := f_slices_ContainsFunc_Entry, ann := { } }
noncomputable abbrev fx_slices_IndexFunc_Entry : Fx := { fn := f_slices_IndexFunc_Entry, ann := { loops := [(2, { keep := [0, 1, 7, 8] })] } }
noncomputable abbrev fx_stack_all_1 : Fx := { fn := f_stack_all_1, ann := { } }
noncomputable abbrev fx_stack_all : Fx := { fn := f_stack_all, ann := { } }
noncomputable abbrev X_stack_all : TabX := { D := { T := tyTab, F := [(n_stack_Is, S_stack_Is)], R := [], ovl := [] }, inl := [(n_slices_ContainsFunc_Entry, fx_slices_ContainsFunc_Entry), (n_slices_IndexFunc_Entry, fx_slices_IndexFunc_Entry), (n_stack_all_1, fx_stack_all_1)] }
noncomputable abbrev M_stack_all : RMode := .data rs_stack_all
theorem x_stack_all (h_stack_Is : FnOk prog [] n_stack_Is S_stack_Is) : XOk prog X_stack_all := xok (dok_add (dok_nil tab_ok mixed_ok) h_stack_Is) (by kernel_rfl) rows_nil (inl_add at_slices_ContainsFunc_Entry (by kernel_rfl) (inl_add at_slices_IndexFunc_Entry (by kernel_rfl) (inl_add at_stack_all_1 (by kernel_rfl) inl_nil))) ovl_nil
noncomputable def T_stack_all (l : den (Ty.slc tEntry)) : TreeS :=
  TreeS.loop
  [{ fx := fx_slices_ContainsFunc_Entry, todo := afterOp f_slices_ContainsFunc_Entry 1 2, dst := some 7, s := ofS [] },
    { fx := fx_stack_all, todo := afterOp f_stack_all 1 1, dst := some 4, s := ofS [] }]
  fx_slices_IndexFunc_Entry (lp f_slices_IndexFunc_Entry 2)
  [(0, K.val (Ty.slc tEntry) l), (1, K.fnc 95), (7, K.val tInt (lnx tEntry l)), (8, K.val tInt 0)] []
theorem T_stack_all_eq (l : den (Ty.slc tEntry)) : treeS X_stack_all M_stack_all 5000 [] fx_stack_all (bodyOf f_stack_all) (Env.of
  (argEnv as_stack_all (l, ()) 0) []) = T_stack_all l := by kernel_rfl

noncomputable def Q_stack_all_slices_IndexFunc_Entry_2 (v0 : den (Ty.slc tEntry)) (v7 : den tInt) (v8 : den tInt) : List Cont := [{
    fx := fx_slices_ContainsFunc_Entry, todo := afterOp f_slices_ContainsFunc_Entry 1 2, dst := some 7, s := ofS [] },
  { fx := fx_stack_all, todo := afterOp f_stack_all 1 1, dst := some 4, s := ofS [] }]
noncomputable def E_stack_all_slices_IndexFunc_Entry_2 (v0 : den (Ty.slc tEntry)) (v7 : den tInt) (v8 : den tInt) : Env := Env.of
  [(0, K.val (Ty.slc tEntry) v0), (1, K.fnc 95), (7, K.val tInt v7), (8, K.val tInt v8)] []
noncomputable def TL_stack_all_slices_IndexFunc_Entry_2 (v0 : den (Ty.slc tEntry)) (v7 : den tInt) (v8 : den tInt) : TreeS :=
  TreeS.ite (decide (v8 < v7))
  (TreeS.req (inB v8 (lnx tEntry v0))
    (TreeS.req True
      (TreeS.ite (!g_Is (el tEntry v0 v8)) (TreeS.ret (K.val (Ty.pair Ty.bool Ty.unit) (!decide (0 ≤ v8), PUnit.unit)))
        (TreeS.loop
          [{ fx := fx_slices_ContainsFunc_Entry, todo := afterOp f_slices_ContainsFunc_Entry 1 2, dst := some 7,
              s := ofS [] },
            { fx := fx_stack_all, todo := afterOp f_stack_all 1 1, dst := some 4, s := ofS [] }]
          fx_slices_IndexFunc_Entry (lp f_slices_IndexFunc_Entry 2)
          [(0, K.val (Ty.slc tEntry) v0), (1, K.fnc 95), (7, K.val tInt v7),
            (8, K.val tInt (IntKind.wrap IntKind.i64 (v8 + 1)))]
          []))))
  (TreeS.ret (K.val (Ty.pair Ty.bool Ty.unit) (!decide (0 ≤ -1), PUnit.unit)))
theorem TL_stack_all_slices_IndexFunc_Entry_2_eq (v0 : den (Ty.slc tEntry)) (v7 : den tInt) (v8 : den tInt) : treeS X_stack_all M_stack_all 5000 (Q_stack_all_slices_IndexFunc_Entry_2 v0 v7 v8) fx_slices_IndexFunc_Entry (lp f_slices_IndexFunc_Entry 2) (E_stack_all_slices_IndexFunc_Entry_2 v0 v7 v8) = TL_stack_all_slices_IndexFunc_Entry_2 v0 v7 v8 := by kernel_rfl

noncomputable abbrev fx_r04_All : Fx := { fn := f_r04_All, ann := { loops := [(2, { keep := [5, 6, 7] })] } }
noncomputable abbrev X_r04_All : TabX := { D := { T := tyTab, F := [(n_r04_Is, S_r04_Is)], R := [], ovl := [] }, inl := [] }
noncomputable abbrev M_r04_All : RMode := .data rs_r04_All
theorem x_r04_All (h_r04_Is : FnOk prog [] n_r04_Is S_r04_Is) : XOk prog X_r04_All := xok (dok_add (dok_nil tab_ok mixed_ok) h_r04_Is) (by kernel_rfl) rows_nil inl_nil ovl_nil
noncomputable def T_r04_All (l : den (Ty.slc tEntry)) : TreeS :=
  TreeS.loop [] fx_r04_All (lp f_r04_All 2)
  [(5, K.val (Ty.slc tEntry) l), (6, K.val tInt (lnx tEntry l)), (7, K.val tInt 0)] []
theorem T_r04_All_eq (l : den (Ty.slc tEntry)) : treeS X_r04_All M_r04_All 5000 [] fx_r04_All (bodyOf f_r04_All) (Env.of
  (argEnv as_r04_All (l, ()) 0) []) = T_r04_All l := by kernel_rfl

noncomputable def E_r04_All_2 (v5 : den (Ty.slc tEntry)) (v6 : den tInt) (v7 : den tInt) : Env := Env.of
  [(5, K.val (Ty.slc tEntry) v5), (6, K.val tInt v6), (7, K.val tInt v7)] []
noncomputable def TL_r04_All_2 (v5 : den (Ty.slc tEntry)) (v6 : den tInt) (v7 : den tInt) : TreeS :=
  TreeS.ite (decide (v7 < v6))
  (TreeS.req (inB v7 (lnx tEntry v5))
    (TreeS.req True
      (TreeS.ite (!g_Is (el tEntry v5 v7)) (TreeS.ret (K.val (Ty.pair Ty.bool Ty.unit) (false, PUnit.unit)))
        (TreeS.loop [] fx_r04_All (lp f_r04_All 2)
          [(5, K.val (Ty.slc tEntry) v5), (6, K.val tInt v6), (7, K.val tInt (IntKind.wrap IntKind.i64 (v7 + 1)))]
          []))))
  (TreeS.ret (K.val (Ty.pair Ty.bool Ty.unit) (true, PUnit.unit)))
theorem TL_r04_All_2_eq (v5 : den (Ty.slc tEntry)) (v6 : den tInt) (v7 : den tInt) : treeS X_r04_All M_r04_All 5000 [] fx_r04_All (lp f_r04_All 2) (E_r04_All_2 v5 v6 v7) = TL_r04_All_2 v5 v6 v7 := by kernel_rfl

noncomputable abbrev fx_stack_Right : Fx := { fn := f_stack_Right, ann := { } }
noncomputable abbrev X_stack_Right : TabX := { D := { T := tyTab, F := [(n_stack_all, S_stack_all)], R := [], ovl := [] }, inl := [] }
noncomputable abbrev M_stack_Right : RMode := .data rs_stack_Right
theorem x_stack_Right (h_stack_all : FnOk prog [] n_stack_all S_stack_all) : XOk prog X_stack_Right := xok (dok_add (dok_nil tab_ok mixed_ok) h_stack_all) (by kernel_rfl) rows_nil inl_nil ovl_nil
noncomputable def T_stack_Right (l : den (Ty.slc tEntry)) : TreeS :=
  TreeS.req
  (impl [(bif decide (1 ≤ lnx tEntry l) then decide (lnx tEntry l ≤ 4) else false, true)] (List.length l ≤ 1000000))
  (TreeS.ret
    (K.val (Ty.pair Ty.bool Ty.unit)
      (bif bif decide (1 ≤ lnx tEntry l) then decide (lnx tEntry l ≤ 4) else false then g_all l else false,
        PUnit.unit)))
theorem T_stack_Right_eq (l : den (Ty.slc tEntry)) : treeS X_stack_Right M_stack_Right 5000 [] fx_stack_Right (bodyOf f_stack_Right) (Env.of
  (argEnv as_stack_Right (l, ()) 0) []) = T_stack_Right l := by kernel_rfl

noncomputable abbrev fx_r04_Right : Fx := { fn := f_r04_Right, ann := { } }
noncomputable abbrev X_r04_Right : TabX := { D := { T := tyTab, F := [(n_r04_All, S_r04_All)], R := [], ovl := [] }, inl := [] }
noncomputable abbrev M_r04_Right : RMode := .data rs_r04_Right
theorem x_r04_Right (h_r04_All : FnOk prog [] n_r04_All S_r04_All) : XOk prog X_r04_Right := xok (dok_add (dok_nil tab_ok mixed_ok) h_r04_All) (by kernel_rfl) rows_nil inl_nil ovl_nil
noncomputable def T_r04_Right (l : den (Ty.slc tEntry)) : TreeS :=
  TreeS.req
  (impl [(bif decide (0 < lnx tEntry l) then decide (lnx tEntry l < 5) else false, true)] (List.length l ≤ 1000000))
  (TreeS.ret
    (K.val (Ty.pair Ty.bool Ty.unit)
      (bif bif decide (0 < lnx tEntry l) then decide (lnx tEntry l < 5) else false then g_all l else false,
        PUnit.unit)))
theorem T_r04_Right_eq (l : den (Ty.slc tEntry)) : treeS X_r04_Right M_r04_Right 5000 [] fx_r04_Right (bodyOf f_r04_Right) (Env.of
  (argEnv as_r04_Right (l, ()) 0) []) = T_r04_Right l := by kernel_rfl

noncomputable abbrev fx_slices_Concat_Entry : Fx := { fn := f_slices_Concat_Entry, ann := { loops := [(3, { keep := [0, 3, 9, 10, 11] }), (11, { keep := [6, 25, 26, 27], own := [(6, tEntry)] })] } }
noncomputable abbrev fx_slices_Grow_Entry : Fx := { fn := f_slices_Grow_Entry, ann := { }, own := [20, 25] }
noncomputable abbrev fx_stack_Push : Fx := { fn := f_stack_Push, ann := { } }
noncomputable abbrev X_stack_Push : TabX := { D := { T := tyTab, F := [(n_stack_all, S_stack_all)], R := [], ovl := [] }, inl := [(n_slices_Concat_Entry, fx_slices_Concat_Entry), (n_slices_Grow_Entry, fx_slices_Grow_Entry)] }
noncomputable abbrev M_stack_Push : RMode := .data rs_stack_Push
theorem x_stack_Push (h_stack_all : FnOk prog [] n_stack_all S_stack_all) : XOk prog X_stack_Push := xok (dok_add (dok_nil tab_ok mixed_ok) h_stack_all) (by kernel_rfl) rows_nil (inl_add at_slices_Concat_Entry (by kernel_rfl) (inl_add at_slices_Grow_Entry (by kernel_rfl) inl_nil)) ovl_nil
noncomputable def T_stack_Push (l : den (Ty.slc tEntry)) (front : den (Ty.slc tEntry)) : TreeS :=
  TreeS.req (List.length l ≤ 1000000)
  (TreeS.req (impl [(!g_all l, false)] (List.length front ≤ 1000000))
    (TreeS.ite (bif !g_all l then true else !g_all front)
      (TreeS.ret (K.val (Ty.pair (Ty.slc tEntry) (Ty.pair tInt Ty.unit)) ([], 1, PUnit.unit)))
      (TreeS.ite (decide (4 < IntKind.wrap IntKind.i64 (lnx tEntry l + lnx tEntry front)))
        (TreeS.ret (K.val (Ty.pair (Ty.slc tEntry) (Ty.pair tInt Ty.unit)) ([], 12, PUnit.unit)))
        (TreeS.loop [{ fx := fx_stack_Push, todo := afterOp f_stack_Push 5 3, dst := some 25, s := ofS [] }]
          fx_slices_Concat_Entry (lp f_slices_Concat_Entry 3)
          [(0,
              K.val (Ty.slc (Ty.slc tEntry))
                (List.set (List.set (List.replicate 2 (zero (Ty.slc tEntry))) 0 front) 1 l)),
            (3, K.val tInt 0),
            (9,
              K.val (Ty.slc (Ty.slc tEntry))
                (List.set (List.set (List.replicate 2 (zero (Ty.slc tEntry))) 0 front) 1 l)),
            (10,
              K.val tInt
                (lnx (Ty.slc tEntry) (List.set (List.set (List.replicate 2 (zero (Ty.slc tEntry))) 0 front) 1 l))),
            (11, K.val tInt 0)]
          []))))
theorem T_stack_Push_eq (l : den (Ty.slc tEntry)) (front : den (Ty.slc tEntry)) : treeS X_stack_Push M_stack_Push 5000 [] fx_stack_Push (bodyOf f_stack_Push) (Env.of
  (argEnv as_stack_Push (l, front, ()) 0) []) = T_stack_Push l front := by kernel_rfl

noncomputable def Q_stack_Push_slices_Concat_Entry_3 (v0 : den (Ty.slc (Ty.slc tEntry))) (v3 : den tInt) (v9 : den (Ty.slc (Ty.slc tEntry))) (v10 : den tInt) (v11 : den tInt) : List Cont := [{
    fx := fx_stack_Push, todo := afterOp f_stack_Push 5 3, dst := some 25, s := ofS [] }]
noncomputable def E_stack_Push_slices_Concat_Entry_3 (v0 : den (Ty.slc (Ty.slc tEntry))) (v3 : den tInt) (v9 : den (Ty.slc (Ty.slc tEntry))) (v10 : den tInt) (v11 : den tInt) : Env := Env.of
  [(0, K.val (Ty.slc (Ty.slc tEntry)) v0), (3, K.val tInt v3), (9, K.val (Ty.slc (Ty.slc tEntry)) v9),
    (10, K.val tInt v10), (11, K.val tInt v11)]
  []
noncomputable def TL_stack_Push_slices_Concat_Entry_3 (v0 : den (Ty.slc (Ty.slc tEntry))) (v3 : den tInt) (v9 : den (Ty.slc (Ty.slc tEntry))) (v10 : den tInt) (v11 : den tInt) : TreeS :=
  TreeS.ite (decide (v11 < v10))
  (TreeS.req (inB v11 (lnx (Ty.slc tEntry) v9))
    (TreeS.ite (decide (IntKind.wrap IntKind.i64 (v3 + lnx tEntry (el (Ty.slc tEntry) v9 v11)) < 0))
      (TreeS.bad (100000 + 1000 * 0 + 0))
      (TreeS.loop [{ fx := fx_stack_Push, todo := afterOp f_stack_Push 5 3, dst := some 25, s := ofS [] }]
        fx_slices_Concat_Entry (lp f_slices_Concat_Entry 3)
        [(0, K.val (Ty.slc (Ty.slc tEntry)) v0),
          (3, K.val tInt (IntKind.wrap IntKind.i64 (v3 + lnx tEntry (el (Ty.slc tEntry) v9 v11)))),
          (9, K.val (Ty.slc (Ty.slc tEntry)) v9), (10, K.val tInt v10),
          (11, K.val tInt (IntKind.wrap IntKind.i64 (v11 + 1)))]
        [])))
  (TreeS.ite (decide (v3 < 0)) (TreeS.bad (100000 + 1000 * 0 + 0))
    (TreeS.ite (decide (0 < IntKind.wrap IntKind.i64 (v3 - IntKind.wrap IntKind.i64 (0 - 0))))
      (TreeS.req (cutOk 0 0 0)
        (TreeS.req (0 < IntKind.wrap IntKind.i64 (v3 - IntKind.wrap IntKind.i64 (0 - 0)))
          (TreeS.req (Int.toNat (IntKind.wrap IntKind.i64 (v3 - IntKind.wrap IntKind.i64 (0 - 0))) ≤ most)
            (TreeS.req
              (cutOk 0 0
                (lnx tEntry
                  (List.replicate (Int.toNat (IntKind.wrap IntKind.i64 (v3 - IntKind.wrap IntKind.i64 (0 - 0))))
                    (zero tEntry))))
              (TreeS.loop [{ fx := fx_stack_Push, todo := afterOp f_stack_Push 5 3, dst := some 25, s := ofS [] }]
                fx_slices_Concat_Entry (lp f_slices_Concat_Entry 11)
                [(6, K.sl 0 tEntry), (25, K.val (Ty.slc (Ty.slc tEntry)) v0), (26, K.val tInt (lnx (Ty.slc tEntry) v0)),
                  (27, K.val tInt 0)]
                [(0,
                    Bx.row tEntry
                      (List.take (Int.toNat 0)
                        (List.replicate (Int.toNat (IntKind.wrap IntKind.i64 (v3 - IntKind.wrap IntKind.i64 (0 - 0))))
                          (zero tEntry))))])))))
      (TreeS.loop [{ fx := fx_stack_Push, todo := afterOp f_stack_Push 5 3, dst := some 25, s := ofS [] }]
        fx_slices_Concat_Entry (lp f_slices_Concat_Entry 11)
        [(6, K.sl 0 tEntry), (25, K.val (Ty.slc (Ty.slc tEntry)) v0), (26, K.val tInt (lnx (Ty.slc tEntry) v0)),
          (27, K.val tInt 0)]
        [(0, Bx.row tEntry [])])))
theorem TL_stack_Push_slices_Concat_Entry_3_eq (v0 : den (Ty.slc (Ty.slc tEntry))) (v3 : den tInt) (v9 : den (Ty.slc (Ty.slc tEntry))) (v10 : den tInt) (v11 : den tInt) : treeS X_stack_Push M_stack_Push 5000 (Q_stack_Push_slices_Concat_Entry_3 v0 v3 v9 v10 v11) fx_slices_Concat_Entry (lp f_slices_Concat_Entry 3) (E_stack_Push_slices_Concat_Entry_3 v0 v3 v9 v10 v11) = TL_stack_Push_slices_Concat_Entry_3 v0 v3 v9 v10 v11 := by kernel_rfl

noncomputable def Q_stack_Push_slices_Concat_Entry_11 (v25 : den (Ty.slc (Ty.slc tEntry))) (v26 : den tInt) (v27 : den tInt) (b0 : List (den tEntry)) : List Cont := [{
    fx := fx_stack_Push, todo := afterOp f_stack_Push 5 3, dst := some 25, s := ofS [] }]
noncomputable def E_stack_Push_slices_Concat_Entry_11 (v25 : den (Ty.slc (Ty.slc tEntry))) (v26 : den tInt) (v27 : den tInt) (b0 : List (den tEntry)) : Env := Env.of
  [(6, K.sl 0 tEntry), (25, K.val (Ty.slc (Ty.slc tEntry)) v25), (26, K.val tInt v26), (27, K.val tInt v27)]
  [(0, Bx.row tEntry b0)]
noncomputable def TL_stack_Push_slices_Concat_Entry_11 (v25 : den (Ty.slc (Ty.slc tEntry))) (v26 : den tInt) (v27 : den tInt) (b0 : List (den tEntry)) : TreeS :=
  TreeS.ite (decide (v27 < v26))
  (TreeS.req (inB v27 (lnx (Ty.slc tEntry) v25))
    (TreeS.req (List.length (b0 ++ el (Ty.slc tEntry) v25 v27) ≤ most)
      (TreeS.loop [{ fx := fx_stack_Push, todo := afterOp f_stack_Push 5 3, dst := some 25, s := ofS [] }]
        fx_slices_Concat_Entry (lp f_slices_Concat_Entry 11)
        [(6, K.sl 0 tEntry), (25, K.val (Ty.slc (Ty.slc tEntry)) v25), (26, K.val tInt v26),
          (27, K.val tInt (IntKind.wrap IntKind.i64 (v27 + 1)))]
        [(0, Bx.row tEntry (b0 ++ el (Ty.slc tEntry) v25 v27))])))
  (TreeS.ret (K.val (Ty.pair (Ty.slc tEntry) (Ty.pair tInt Ty.unit)) (b0, 0, PUnit.unit)))
theorem TL_stack_Push_slices_Concat_Entry_11_eq (v25 : den (Ty.slc (Ty.slc tEntry))) (v26 : den tInt) (v27 : den tInt) (b0 : List (den tEntry)) : treeS X_stack_Push M_stack_Push 5000 (Q_stack_Push_slices_Concat_Entry_11 v25 v26 v27 b0) fx_slices_Concat_Entry (lp f_slices_Concat_Entry 11) (E_stack_Push_slices_Concat_Entry_11 v25 v26 v27 b0) = TL_stack_Push_slices_Concat_Entry_11 v25 v26 v27 b0 := by kernel_rfl

noncomputable abbrev fx_rewrite_Right : Fx := { fn := f_rewrite_Right, ann := { } }
noncomputable abbrev X_rewrite_Right : TabX := { D := { T := tyTab, F := [(n_stack_Right, S_stack_Right)], R := [], ovl := [] }, inl := [] }
noncomputable abbrev M_rewrite_Right : RMode := .data rs_rewrite_Right
theorem x_rewrite_Right (h_stack_Right : FnOk prog [] n_stack_Right S_stack_Right) : XOk prog X_rewrite_Right := xok (dok_add (dok_nil tab_ok mixed_ok) h_stack_Right) (by kernel_rfl) rows_nil inl_nil ovl_nil
noncomputable def T_rewrite_Right (p : den tPacket) : TreeS :=
  TreeS.req (List.length (Prod.fst p) ≤ 1000000)
  (TreeS.ret
    (K.val (Ty.pair Ty.bool Ty.unit)
      (bif
            bif bif g_stackRight (Prod.fst p) then decide (0 ≤ Prod.fst (Prod.snd p)) else false then
              decide (Prod.fst (Prod.snd p) ≤ 64)
            else false then
          decide (sLen (Prod.fst (Prod.snd (Prod.snd p))) ≤ 64)
        else false,
        PUnit.unit)))
theorem T_rewrite_Right_eq (p : den tPacket) : treeS X_rewrite_Right M_rewrite_Right 5000 [] fx_rewrite_Right (bodyOf f_rewrite_Right) (Env.of
  (argEnv as_rewrite_Right (p, ()) 0) []) = T_rewrite_Right p := by kernel_rfl

noncomputable abbrev fx_r13_Right : Fx := { fn := f_r13_Right, ann := { } }
noncomputable abbrev X_r13_Right : TabX := { D := { T := tyTab, F := [(n_r04_Right, S_r04_Right)], R := [], ovl := [] }, inl := [] }
noncomputable abbrev M_r13_Right : RMode := .data rs_r13_Right
theorem x_r13_Right (h_r04_Right : FnOk prog [] n_r04_Right S_r04_Right) : XOk prog X_r13_Right := xok (dok_add (dok_nil tab_ok mixed_ok) h_r04_Right) (by kernel_rfl) rows_nil inl_nil ovl_nil
noncomputable def T_r13_Right (p : den tPacket) : TreeS :=
  TreeS.req (List.length (Prod.fst p) ≤ 1000000)
  (TreeS.ret
    (K.val (Ty.pair Ty.bool Ty.unit)
      (bif
            bif bif g_stackRight (Prod.fst p) then decide (0 ≤ Prod.fst (Prod.snd p)) else false then
              decide (Prod.fst (Prod.snd p) ≤ 64)
            else false then
          decide (sLen (Prod.fst (Prod.snd (Prod.snd p))) ≤ 64)
        else false,
        PUnit.unit)))
theorem T_r13_Right_eq (p : den tPacket) : treeS X_r13_Right M_r13_Right 5000 [] fx_r13_Right (bodyOf f_r13_Right) (Env.of
  (argEnv as_r13_Right (p, ()) 0) []) = T_r13_Right p := by kernel_rfl

noncomputable abbrev fx_rewrite_dead : Fx := { fn := f_rewrite_dead, ann := { } }
noncomputable abbrev X_rewrite_dead : TabX := { D := { T := tyTab, F := [], R := [], ovl := [] }, inl := [] }
noncomputable abbrev M_rewrite_dead : RMode := .data rs_rewrite_dead
theorem x_rewrite_dead : XOk prog X_rewrite_dead := xok ((dok_nil tab_ok mixed_ok)) (by kernel_rfl) rows_nil inl_nil ovl_nil
noncomputable def T_rewrite_dead (why : den tInt) : TreeS :=
  TreeS.ret
  (K.val (Ty.pair (Ty.slc tOut) Ty.unit)
    (List.set (List.replicate 1 (zero tOut)) 0
        (3,
          Prod.fst
            (Prod.snd (zero (Ty.pair tInt (Ty.pair tInt (Ty.pair tPacket (Ty.pair tTrigger (Ty.pair tInt Ty.unit))))))),
          Prod.fst
            (Prod.snd
              (Prod.snd
                (zero (Ty.pair tInt (Ty.pair tInt (Ty.pair tPacket (Ty.pair tTrigger (Ty.pair tInt Ty.unit)))))))),
          Prod.fst
            (Prod.snd
              (Prod.snd
                (Prod.snd
                  (zero (Ty.pair tInt (Ty.pair tInt (Ty.pair tPacket (Ty.pair tTrigger (Ty.pair tInt Ty.unit))))))))),
          why,
          Prod.snd
            (Prod.snd
              (Prod.snd
                (Prod.snd
                  (Prod.snd
                    (zero
                      (Ty.pair tInt (Ty.pair tInt (Ty.pair tPacket (Ty.pair tTrigger (Ty.pair tInt Ty.unit))))))))))),
      PUnit.unit))
theorem T_rewrite_dead_eq (why : den tInt) : treeS X_rewrite_dead M_rewrite_dead 5000 [] fx_rewrite_dead (bodyOf f_rewrite_dead) (Env.of
  (argEnv as_rewrite_dead (why, ()) 0) []) = T_rewrite_dead why := by kernel_rfl

noncomputable abbrev fx_rewrite_on : Fx := { fn := f_rewrite_on, ann := { } }
noncomputable abbrev X_rewrite_on : TabX := { D := { T := tyTab, F := [(n_stack_Push, S_stack_Push)], R := [], ovl := [] }, inl := [] }
noncomputable abbrev M_rewrite_on : RMode := .data rs_rewrite_on
theorem x_rewrite_on (h_stack_Push : FnOk prog [] n_stack_Push S_stack_Push) : XOk prog X_rewrite_on := xok (dok_add (dok_nil tab_ok mixed_ok) h_stack_Push) (by kernel_rfl) rows_nil inl_nil ovl_nil
noncomputable def T_rewrite_on (p : den tPacket) (tr : den tTrigger) (front : den (Ty.slc tEntry)) : TreeS :=
  TreeS.req (cutOk 1 (lnx tEntry (Prod.fst p)) (lnx tEntry (Prod.fst p)))
  (TreeS.req
    (List.length (lCutx tEntry (Prod.fst p) 1 (lnx tEntry (Prod.fst p))) ≤ 1000000 ∧ List.length front ≤ 1000000)
    (TreeS.ret
      (K.val (Ty.pair tOut Ty.unit)
        ((2,
            Prod.fst
              (Prod.snd
                (zero (Ty.pair tInt (Ty.pair tInt (Ty.pair tPacket (Ty.pair tTrigger (Ty.pair tInt Ty.unit))))))),
            (Prod.fst (g_Push (lCutx tEntry (Prod.fst p) 1 (lnx tEntry (Prod.fst p))) front),
              IntKind.wrap IntKind.i64 (Prod.fst (Prod.snd p) - 1), Prod.snd (Prod.snd p)),
            tr,
            Prod.snd
              (Prod.snd
                (Prod.snd
                  (Prod.snd
                    (zero
                      (Ty.pair tInt (Ty.pair tInt (Ty.pair tPacket (Ty.pair tTrigger (Ty.pair tInt Ty.unit)))))))))),
          PUnit.unit))))
theorem T_rewrite_on_eq (p : den tPacket) (tr : den tTrigger) (front : den (Ty.slc tEntry)) : treeS X_rewrite_on M_rewrite_on 5000 [] fx_rewrite_on (bodyOf f_rewrite_on) (Env.of
  (argEnv as_rewrite_on (p, tr, front, ()) 0) []) = T_rewrite_on p tr front := by kernel_rfl

end Go.Proofs.Ytnccacngedeoeaa

/- The trees of functions' bodies, as the evaluator prints them. -/
namespace Go.Proofs.Ytnccacngedeoeaa
open Go Go.RowKit

noncomputable abbrev fx_table_Put : Fx := { fn := f_table_Put, ann := { } }
noncomputable abbrev X_table_Put : TabX := { D := { T := tyTab, F := [(n_table_Right, S_table_Right), (n_table_may, S_table_may), (n_slices_BinarySearchFunc_Trigger, S_slices_BinarySearchFunc_Trigger), (n_table_compare, S_table_compare)], R := [(n_slices_Clone_Trigger, S_slices_Clone_Trigger), (n_slices_Insert_Trigger, S_slices_Insert_Trigger)], ovl := [] }, inl := [] }
noncomputable abbrev M_table_Put : RMode := .data rs_table_Put
theorem x_table_Put (h_table_Right : FnOk prog [] n_table_Right S_table_Right) (h_table_may : FnOk prog [] n_table_may S_table_may) (h_slices_BinarySearchFunc_Trigger : FnOk prog [] n_slices_BinarySearchFunc_Trigger S_slices_BinarySearchFunc_Trigger) (h_table_compare : FnOk prog [] n_table_compare S_table_compare) (h_slices_Clone_Trigger : RFnOk prog [] n_slices_Clone_Trigger S_slices_Clone_Trigger) (h_slices_Insert_Trigger : RFnOk prog [] n_slices_Insert_Trigger S_slices_Insert_Trigger) : XOk prog X_table_Put := xok (dok_add (dok_add (dok_add (dok_add (dok_nil tab_ok mixed_ok) h_table_compare) h_slices_BinarySearchFunc_Trigger) h_table_may) h_table_Right) (by kernel_rfl) (rows_add h_slices_Clone_Trigger (rows_add h_slices_Insert_Trigger rows_nil)) inl_nil ovl_nil
noncomputable def T_table_Put (t : den (Ty.slc tTrigger)) (x : den tTrigger) : TreeS :=
  TreeS.req (List.length t ≤ 1000000)
  (TreeS.req (impl [(!g_Right t, false)] True)
    (TreeS.ite (bif !g_Right t then true else !g_may x)
      (TreeS.ret (K.val (Ty.pair (Ty.slc tTrigger) (Ty.pair tInt Ty.unit)) ([], 1, PUnit.unit)))
      (TreeS.req
        (List.length t ≤ 1000000 ∧
          isFnx (Ty.pair tTrigger (Ty.pair tTrigger Ty.unit)) (Ty.pair tInt Ty.unit)
            (some fun (x : den as_table_compare) ↦ (g_cmpT (Prod.fst x) (Prod.fst (Prod.snd x)), PUnit.unit)))
        (TreeS.ite
          (isB
            (fun (y : den tTrigger) ↦
              cmpB (some fun (x : den as_table_compare) ↦ (g_cmpT (Prod.fst x) (Prod.fst (Prod.snd x)), PUnit.unit)) y
                x)
            t)
          (TreeS.req (List.length t ≤ most)
            (TreeS.req
              (inB
                (↑(findB
                      (fun (y : den tTrigger) ↦
                        cmpB
                          (some fun (x : den as_table_compare) ↦
                            (g_cmpT (Prod.fst x) (Prod.fst (Prod.snd x)), PUnit.unit))
                          y x)
                      t) :
                  Int)
                (lnx tTrigger t))
              (TreeS.req
                (inB
                  (↑(findB
                        (fun (y : den tTrigger) ↦
                          cmpB
                            (some fun (x : den as_table_compare) ↦
                              (g_cmpT (Prod.fst x) (Prod.fst (Prod.snd x)), PUnit.unit))
                            y x)
                        t) :
                    Int)
                  (lnx tTrigger t))
                (TreeS.req
                  (inB
                    (↑(findB
                          (fun (y : den tTrigger) ↦
                            cmpB
                              (some fun (x : den as_table_compare) ↦
                                (g_cmpT (Prod.fst x) (Prod.fst (Prod.snd x)), PUnit.unit))
                              y x)
                          t) :
                      Int)
                    (lnx tTrigger t))
                  (TreeS.req
                    (inB
                      (↑(findB
                            (fun (y : den tTrigger) ↦
                              cmpB
                                (some fun (x : den as_table_compare) ↦
                                  (g_cmpT (Prod.fst x) (Prod.fst (Prod.snd x)), PUnit.unit))
                                y x)
                            t) :
                        Int)
                      (lnx tTrigger t))
                    (TreeS.ret
                      (K.val (Ty.pair (Ty.slc tTrigger) (Ty.pair tInt Ty.unit))
                        (setAtx tTrigger t
                            (↑(findB
                                  (fun (y : den tTrigger) ↦
                                    cmpB
                                      (some fun (x : den as_table_compare) ↦
                                        (g_cmpT (Prod.fst x) (Prod.fst (Prod.snd x)), PUnit.unit))
                                      y x)
                                  t) :
                              Int)
                            (Prod.fst
                                (el tTrigger t
                                  (↑(findB
                                        (fun (y : den tTrigger) ↦
                                          cmpB
                                            (some fun (x : den as_table_compare) ↦
                                              (g_cmpT (Prod.fst x) (Prod.fst (Prod.snd x)), PUnit.unit))
                                            y x)
                                        t) :
                                    Int)),
                              Prod.fst
                                (Prod.snd
                                  (el tTrigger t
                                    (↑(findB
                                          (fun (y : den tTrigger) ↦
                                            cmpB
                                              (some fun (x : den as_table_compare) ↦
                                                (g_cmpT (Prod.fst x) (Prod.fst (Prod.snd x)), PUnit.unit))
                                              y x)
                                          t) :
                                      Int))),
                              maxI
                                (Prod.fst
                                  (Prod.snd
                                    (Prod.snd
                                      (el tTrigger t
                                        (↑(findB
                                              (fun (y : den tTrigger) ↦
                                                cmpB
                                                  (some fun (x : den as_table_compare) ↦
                                                    (g_cmpT (Prod.fst x) (Prod.fst (Prod.snd x)), PUnit.unit))
                                                  y x)
                                              t) :
                                          Int)))))
                                (Prod.fst (Prod.snd (Prod.snd x))),
                              Prod.snd
                                (Prod.snd
                                  (Prod.snd
                                    (el tTrigger t
                                      (↑(findB
                                            (fun (y : den tTrigger) ↦
                                              cmpB
                                                (some fun (x : den as_table_compare) ↦
                                                  (g_cmpT (Prod.fst x) (Prod.fst (Prod.snd x)), PUnit.unit))
                                                y x)
                                            t) :
                                        Int))))),
                          0, PUnit.unit))))))))
          (TreeS.ite (decide (lnx tTrigger t = 32))
            (TreeS.ret (K.val (Ty.pair (Ty.slc tTrigger) (Ty.pair tInt Ty.unit)) ([], 8, PUnit.unit)))
            (TreeS.req (List.length t ≤ most)
              (TreeS.req (vok 0 (List.length t) (List.length t))
                (TreeS.req
                  (0 ≤
                      (↑(findB
                            (fun (y : den tTrigger) ↦
                              cmpB
                                (some fun (x : den as_table_compare) ↦
                                  (g_cmpT (Prod.fst x) (Prod.fst (Prod.snd x)), PUnit.unit))
                                y x)
                            t) :
                        Int) ∧
                    (↑(findB
                              (fun (y : den tTrigger) ↦
                                cmpB
                                  (some fun (x : den as_table_compare) ↦
                                    (g_cmpT (Prod.fst x) (Prod.fst (Prod.snd x)), PUnit.unit))
                                  y x)
                              t) :
                          Int) ≤
                        (↑(List.length (vpart tTrigger t 0 (List.length t))) : den tInt) ∧
                      List.length (vpart tTrigger t 0 (List.length t)) + List.length [x] ≤ most)
                  (TreeS.ret
                    (K.val (Ty.pair (Ty.slc tTrigger) (Ty.pair tInt Ty.unit))
                      (putIn (vpart tTrigger t 0 (List.length t))
                          (Int.toNat
                            (↑(findB
                                  (fun (y : den tTrigger) ↦
                                    cmpB
                                      (some fun (x : den as_table_compare) ↦
                                        (g_cmpT (Prod.fst x) (Prod.fst (Prod.snd x)), PUnit.unit))
                                      y x)
                                  t) :
                              Int))
                          [x],
                        0, PUnit.unit)))))))))))
theorem T_table_Put_eq (t : den (Ty.slc tTrigger)) (x : den tTrigger) : treeS X_table_Put M_table_Put 5000 [] fx_table_Put (bodyOf f_table_Put) (Env.of
  (argEnv as_table_Put (t, x, ()) 0) []) = T_table_Put t x := by kernel_rfl

noncomputable abbrev fx_table_Drop : Fx := { fn := f_table_Drop, ann := { } }
noncomputable abbrev X_table_Drop : TabX := { D := { T := tyTab, F := [(n_table_Right, S_table_Right), (n_slices_BinarySearchFunc_Trigger, S_slices_BinarySearchFunc_Trigger), (n_table_compare, S_table_compare)], R := [(n_slices_Clone_Trigger, S_slices_Clone_Trigger), (n_slices_Delete_Trigger, S_slices_Delete_Trigger)], ovl := [] }, inl := [] }
noncomputable abbrev M_table_Drop : RMode := .data rs_table_Drop
theorem x_table_Drop (h_table_Right : FnOk prog [] n_table_Right S_table_Right) (h_slices_BinarySearchFunc_Trigger : FnOk prog [] n_slices_BinarySearchFunc_Trigger S_slices_BinarySearchFunc_Trigger) (h_table_compare : FnOk prog [] n_table_compare S_table_compare) (h_slices_Clone_Trigger : RFnOk prog [] n_slices_Clone_Trigger S_slices_Clone_Trigger) (h_slices_Delete_Trigger : RFnOk prog [] n_slices_Delete_Trigger S_slices_Delete_Trigger) : XOk prog X_table_Drop := xok (dok_add (dok_add (dok_add (dok_nil tab_ok mixed_ok) h_table_compare) h_slices_BinarySearchFunc_Trigger) h_table_Right) (by kernel_rfl) (rows_add h_slices_Clone_Trigger (rows_add h_slices_Delete_Trigger rows_nil)) inl_nil ovl_nil
noncomputable def T_table_Drop (t : den (Ty.slc tTrigger)) (id : den tId) (e : den tEntry) : TreeS :=
  TreeS.req (List.length t ≤ 1000000)
  (TreeS.ite (!g_Right t) (TreeS.ret (K.val (Ty.pair (Ty.slc tTrigger) (Ty.pair tInt Ty.unit)) ([], 1, PUnit.unit)))
    (TreeS.req
      (List.length t ≤ 1000000 ∧
        isFnx (Ty.pair tTrigger (Ty.pair tTrigger Ty.unit)) (Ty.pair tInt Ty.unit)
          (some fun (x : den as_table_compare) ↦ (g_cmpT (Prod.fst x) (Prod.fst (Prod.snd x)), PUnit.unit)))
      (TreeS.ite
        (!isB
            (fun (y : den tTrigger) ↦
              cmpB (some fun (x : den as_table_compare) ↦ (g_cmpT (Prod.fst x) (Prod.fst (Prod.snd x)), PUnit.unit)) y
                (id, e, Prod.snd (Prod.snd (zero (Ty.pair tId (Ty.pair tEntry (Ty.pair tInt Ty.unit)))))))
            t)
        (TreeS.ret (K.val (Ty.pair (Ty.slc tTrigger) (Ty.pair tInt Ty.unit)) ([], 6, PUnit.unit)))
        (TreeS.req (List.length t ≤ most)
          (TreeS.req (vok 0 (List.length t) (List.length t))
            (TreeS.req
              (0 ≤
                  (↑(findB
                        (fun (y : den tTrigger) ↦
                          cmpB
                            (some fun (x : den as_table_compare) ↦
                              (g_cmpT (Prod.fst x) (Prod.fst (Prod.snd x)), PUnit.unit))
                            y (id, e, Prod.snd (Prod.snd (zero (Ty.pair tId (Ty.pair tEntry (Ty.pair tInt Ty.unit)))))))
                        t) :
                    Int) ∧
                (↑(findB
                          (fun (y : den tTrigger) ↦
                            cmpB
                              (some fun (x : den as_table_compare) ↦
                                (g_cmpT (Prod.fst x) (Prod.fst (Prod.snd x)), PUnit.unit))
                              y
                              (id, e, Prod.snd (Prod.snd (zero (Ty.pair tId (Ty.pair tEntry (Ty.pair tInt Ty.unit)))))))
                          t) :
                      Int) ≤
                    IntKind.wrap IntKind.i64
                      ((↑(findB
                              (fun (y : den tTrigger) ↦
                                cmpB
                                  (some fun (x : den as_table_compare) ↦
                                    (g_cmpT (Prod.fst x) (Prod.fst (Prod.snd x)), PUnit.unit))
                                  y
                                  (id, e,
                                    Prod.snd (Prod.snd (zero (Ty.pair tId (Ty.pair tEntry (Ty.pair tInt Ty.unit)))))))
                              t) :
                          Int) +
                        1) ∧
                  IntKind.wrap IntKind.i64
                      ((↑(findB
                              (fun (y : den tTrigger) ↦
                                cmpB
                                  (some fun (x : den as_table_compare) ↦
                                    (g_cmpT (Prod.fst x) (Prod.fst (Prod.snd x)), PUnit.unit))
                                  y
                                  (id, e,
                                    Prod.snd (Prod.snd (zero (Ty.pair tId (Ty.pair tEntry (Ty.pair tInt Ty.unit)))))))
                              t) :
                          Int) +
                        1) ≤
                    (↑(List.length (vpart tTrigger t 0 (List.length t))) : den tInt))
              (TreeS.ret
                (K.val (Ty.pair (Ty.slc tTrigger) (Ty.pair tInt Ty.unit))
                  (List.take
                        (Int.toNat
                          (↑(findB
                                (fun (y : den tTrigger) ↦
                                  cmpB
                                    (some fun (x : den as_table_compare) ↦
                                      (g_cmpT (Prod.fst x) (Prod.fst (Prod.snd x)), PUnit.unit))
                                    y
                                    (id, e,
                                      Prod.snd (Prod.snd (zero (Ty.pair tId (Ty.pair tEntry (Ty.pair tInt Ty.unit)))))))
                                t) :
                            Int))
                        (vpart tTrigger t 0 (List.length t)) ++
                      List.drop
                        (Int.toNat
                          (IntKind.wrap IntKind.i64
                            ((↑(findB
                                    (fun (y : den tTrigger) ↦
                                      cmpB
                                        (some fun (x : den as_table_compare) ↦
                                          (g_cmpT (Prod.fst x) (Prod.fst (Prod.snd x)), PUnit.unit))
                                        y
                                        (id, e,
                                          Prod.snd
                                            (Prod.snd (zero (Ty.pair tId (Ty.pair tEntry (Ty.pair tInt Ty.unit)))))))
                                    t) :
                                Int) +
                              1)))
                        (vpart tTrigger t 0 (List.length t)),
                    0, PUnit.unit)))))))))
theorem T_table_Drop_eq (t : den (Ty.slc tTrigger)) (id : den tId) (e : den tEntry) : treeS X_table_Drop M_table_Drop 5000 [] fx_table_Drop (bodyOf f_table_Drop) (Env.of
  (argEnv as_table_Drop (t, id, e, ()) 0) []) = T_table_Drop t id e := by kernel_rfl

noncomputable abbrev fx_table_Expire : Fx := { fn := f_table_Expire, ann := { frz := [(3, [3])] } }
noncomputable abbrev X_table_Expire : TabX := { D := { T := tyTab, F := [(n_table_Right, S_table_Right), (n_table_Expire_1, S_table_Expire_1), (n_table_parted_Trigger, S_table_parted_Trigger)], R := [], ovl := [] }, inl := [] }
noncomputable abbrev M_table_Expire : RMode := .data rs_table_Expire
theorem x_table_Expire (h_table_Right : FnOk prog [] n_table_Right S_table_Right) (h_table_Expire_1 : FnOk prog [] n_table_Expire_1 S_table_Expire_1) (h_table_parted_Trigger : FnOk prog [] n_table_parted_Trigger S_table_parted_Trigger) : XOk prog X_table_Expire := xok (dok_add (dok_add (dok_add (dok_nil tab_ok mixed_ok) h_table_parted_Trigger) h_table_Expire_1) h_table_Right) (by kernel_rfl) rows_nil inl_nil ovl_nil
noncomputable def T_table_Expire (t : den (Ty.slc tTrigger)) (now : den tInt) : TreeS :=
  TreeS.req (List.length t ≤ 1000000)
  (TreeS.ite (!g_Right t) (TreeS.ret (K.val (Ty.pair (Ty.slc tTrigger) (Ty.pair tInt Ty.unit)) ([], 1, PUnit.unit)))
    (TreeS.req (∀ (y : den (Ty.pair tTrigger Ty.unit)), True)
      (TreeS.req
        (List.length t ≤ 1000000 ∧
          isFnx (Ty.pair tTrigger Ty.unit) (Ty.pair Ty.bool Ty.unit)
            (some fun (y : den (Ty.pair tTrigger Ty.unit)) ↦
              (decide (Prod.fst (Prod.snd (Prod.snd (Prod.fst y))) ≤ now), PUnit.unit)))
        (TreeS.ret
          (K.val (Ty.pair (Ty.slc tTrigger) (Ty.pair tInt Ty.unit))
            (List.filter
                (fun (y : den tTrigger) ↦
                  !isT
                      (some fun (y : den (Ty.pair tTrigger Ty.unit)) ↦
                        (decide (Prod.fst (Prod.snd (Prod.snd (Prod.fst y))) ≤ now), PUnit.unit))
                      y)
                t,
              0, PUnit.unit))))))
theorem T_table_Expire_eq (t : den (Ty.slc tTrigger)) (now : den tInt) : treeS X_table_Expire M_table_Expire 5000 [] fx_table_Expire (bodyOf f_table_Expire) (Env.of
  (argEnv as_table_Expire (t, now, ()) 0) []) = T_table_Expire t now := by kernel_rfl

noncomputable abbrev fx_table_Match : Fx := { fn := f_table_Match, ann := { loops := [(5, { keep := [0, 3, 6, 7, 17, 18, 19] })], frz := [(13, [7])] } }
noncomputable abbrev X_table_Match : TabX := { D := { T := tyTab, F := [(n_table_Right, S_table_Right), (n_table_Match_1, S_table_Match_1), (n_table_parted_Trigger, S_table_parted_Trigger), (n_ident_Common, S_ident_Common)], R := [], ovl := [] }, inl := [] }
noncomputable abbrev M_table_Match : RMode := .data rs_table_Match
theorem x_table_Match (h_table_Right : FnOk prog [] n_table_Right S_table_Right) (h_table_Match_1 : FnOk prog [] n_table_Match_1 S_table_Match_1) (h_table_parted_Trigger : FnOk prog [] n_table_parted_Trigger S_table_parted_Trigger) (h_ident_Common : FnOk prog [] n_ident_Common S_ident_Common) : XOk prog X_table_Match := xok (dok_add (dok_add (dok_add (dok_add (dok_nil tab_ok mixed_ok) h_ident_Common) h_table_parted_Trigger) h_table_Match_1) h_table_Right) (by kernel_rfl) rows_nil inl_nil ovl_nil
noncomputable def T_table_Match (t : den (Ty.slc tTrigger)) (id : den tId) : TreeS :=
  TreeS.req (List.length t ≤ 1000000)
  (TreeS.ite (!g_Right t) (TreeS.ret (K.val (Ty.pair (Ty.slc tTrigger) (Ty.pair tInt Ty.unit)) ([], 1, PUnit.unit)))
    (TreeS.loop [] fx_table_Match (lp f_table_Match 5)
      [(0, K.val (Ty.slc tTrigger) t), (3, K.ptr 0 tId []), (6, K.val tInt 127), (7, K.ptr (0 + 1) tId []),
        (17, K.val (Ty.slc tTrigger) t), (18, K.val tInt (lnx tTrigger t)), (19, K.val tInt 0)]
      [(0, Bx.cell tId id), (0 + 1, Bx.cell tId (List.replicate 32 (zero (Ty.int IntKind.u8))))]))
theorem T_table_Match_eq (t : den (Ty.slc tTrigger)) (id : den tId) : treeS X_table_Match M_table_Match 5000 [] fx_table_Match (bodyOf f_table_Match) (Env.of
  (argEnv as_table_Match (t, id, ()) 0) []) = T_table_Match t id := by kernel_rfl

noncomputable def E_table_Match_5 (v0 : den (Ty.slc tTrigger)) (v6 : den tInt) (v17 : den (Ty.slc tTrigger)) (v18 : den tInt) (v19 : den tInt) (b0 : den tId) (b1 : den tId) : Env := Env.of
  [(0, K.val (Ty.slc tTrigger) v0), (3, K.ptr 0 tId []), (6, K.val tInt v6), (7, K.ptr (0 + 1) tId []),
    (17, K.val (Ty.slc tTrigger) v17), (18, K.val tInt v18), (19, K.val tInt v19)]
  [(0, Bx.cell tId b0), (1, Bx.cell tId b1)]
noncomputable def TL_table_Match_5 (v0 : den (Ty.slc tTrigger)) (v6 : den tInt) (v17 : den (Ty.slc tTrigger)) (v18 : den tInt) (v19 : den tInt) (b0 : den tId) (b1 : den tId) : TreeS :=
  TreeS.ite (decide (v19 < v18))
  (TreeS.req (inB v19 (lnx tTrigger v17))
    (TreeS.req True
      (TreeS.ite (decide (v6 < g_Common (Prod.fst (el tTrigger v17 v19)) b0))
        (TreeS.loop [] fx_table_Match (lp f_table_Match 5)
          [(0, K.val (Ty.slc tTrigger) v0), (3, K.ptr 0 tId []),
            (6, K.val tInt (g_Common (Prod.fst (el tTrigger v17 v19)) b0)), (7, K.ptr (0 + 1) tId []),
            (17, K.val (Ty.slc tTrigger) v17), (18, K.val tInt v18),
            (19, K.val tInt (IntKind.wrap IntKind.i64 (v19 + 1)))]
          [(0, Bx.cell tId b0), (0 + 1, Bx.cell tId (Prod.fst (el tTrigger v17 v19)))])
        (TreeS.loop [] fx_table_Match (lp f_table_Match 5)
          [(0, K.val (Ty.slc tTrigger) v0), (3, K.ptr 0 tId []), (6, K.val tInt v6), (7, K.ptr (0 + 1) tId []),
            (17, K.val (Ty.slc tTrigger) v17), (18, K.val tInt v18),
            (19, K.val tInt (IntKind.wrap IntKind.i64 (v19 + 1)))]
          [(0, Bx.cell tId b0), (0 + 1, Bx.cell tId b1)]))))
  (TreeS.ite (decide (v6 < 128))
    (TreeS.ret (K.val (Ty.pair (Ty.slc tTrigger) (Ty.pair tInt Ty.unit)) ([], 6, PUnit.unit)))
    (TreeS.req (∀ (y : den (Ty.pair tTrigger Ty.unit)), True)
      (TreeS.req
        (List.length v0 ≤ 1000000 ∧
          isFnx (Ty.pair tTrigger Ty.unit) (Ty.pair Ty.bool Ty.unit)
            (some fun (y : den (Ty.pair tTrigger Ty.unit)) ↦ (decide (Prod.fst (Prod.fst y) = b1), PUnit.unit)))
        (TreeS.ret
          (K.val (Ty.pair (Ty.slc tTrigger) (Ty.pair tInt Ty.unit))
            (List.filter
                (isT
                  (some fun (y : den (Ty.pair tTrigger Ty.unit)) ↦ (decide (Prod.fst (Prod.fst y) = b1), PUnit.unit)))
                v0,
              0, PUnit.unit))))))
theorem TL_table_Match_5_eq (v0 : den (Ty.slc tTrigger)) (v6 : den tInt) (v17 : den (Ty.slc tTrigger)) (v18 : den tInt) (v19 : den tInt) (b0 : den tId) (b1 : den tId) : treeS X_table_Match M_table_Match 5000 [] fx_table_Match (lp f_table_Match 5) (E_table_Match_5 v0 v6 v17 v18 v19 b0 b1) = TL_table_Match_5 v0 v6 v17 v18 v19 b0 b1 := by kernel_rfl

noncomputable abbrev fx_table_Cut : Fx := { fn := f_table_Cut, ann := { frz := [(3, [4, 5])] } }
noncomputable abbrev X_table_Cut : TabX := { D := { T := tyTab, F := [(n_table_Right, S_table_Right), (n_table_Cut_1, S_table_Cut_1), (n_table_parted_Trigger, S_table_parted_Trigger)], R := [], ovl := [] }, inl := [] }
noncomputable abbrev M_table_Cut : RMode := .data rs_table_Cut
theorem x_table_Cut (h_table_Right : FnOk prog [] n_table_Right S_table_Right) (h_table_Cut_1 : FnOk prog [] n_table_Cut_1 S_table_Cut_1) (h_table_parted_Trigger : FnOk prog [] n_table_parted_Trigger S_table_parted_Trigger) : XOk prog X_table_Cut := xok (dok_add (dok_add (dok_add (dok_nil tab_ok mixed_ok) h_table_parted_Trigger) h_table_Cut_1) h_table_Right) (by kernel_rfl) rows_nil inl_nil ovl_nil
noncomputable def T_table_Cut (t : den (Ty.slc tTrigger)) (a : den tId) (b : den tId) : TreeS :=
  TreeS.req (List.length t ≤ 1000000)
  (TreeS.ite (!g_Right t)
    (TreeS.ret
      (K.val (Ty.pair (Ty.slc tTrigger) (Ty.pair (Ty.slc tTrigger) (Ty.pair tInt Ty.unit))) ([], [], 1, PUnit.unit)))
    (TreeS.req (∀ (y : den (Ty.pair tTrigger Ty.unit)), True)
      (TreeS.req
        (List.length t ≤ 1000000 ∧
          isFnx (Ty.pair tTrigger Ty.unit) (Ty.pair Ty.bool Ty.unit)
            (some fun (y : den (Ty.pair tTrigger Ty.unit)) ↦ (g_In (Prod.fst (Prod.fst y)) a b, PUnit.unit)))
        (TreeS.ret
          (K.val (Ty.pair (Ty.slc tTrigger) (Ty.pair (Ty.slc tTrigger) (Ty.pair tInt Ty.unit)))
            (List.filter
                (isT (some fun (y : den (Ty.pair tTrigger Ty.unit)) ↦ (g_In (Prod.fst (Prod.fst y)) a b, PUnit.unit)))
                t,
              List.filter
                (fun (y : den tTrigger) ↦
                  !isT (some fun (y : den (Ty.pair tTrigger Ty.unit)) ↦ (g_In (Prod.fst (Prod.fst y)) a b, PUnit.unit))
                      y)
                t,
              0, PUnit.unit))))))
theorem T_table_Cut_eq (t : den (Ty.slc tTrigger)) (a : den tId) (b : den tId) : treeS X_table_Cut M_table_Cut 5000 [] fx_table_Cut (bodyOf f_table_Cut) (Env.of
  (argEnv as_table_Cut (t, a, b, ()) 0) []) = T_table_Cut t a b := by kernel_rfl

end Go.Proofs.Ytnccacngedeoeaa

/- The trees of functions' bodies, as the evaluator prints them. -/
namespace Go.Proofs.Ytnccacngedeoeaa
open Go Go.RowKit

noncomputable abbrev D_table_compare : Tabs := { T := tyTab, F := [(n_table_trigger_id, S_table_trigger_id), (n_table_trigger_kind, S_table_trigger_kind), (n_table_trigger_goes, S_table_trigger_goes), (n_table_trigger_host, S_table_trigger_host)], n := (f_table_compare).ntmps }
noncomputable abbrev A_table_compare : Ann := { loops := [(2, { keep := [2, 3, 8, 9, 10] })] }
theorem d_table_compare (h_table_trigger_id : FnOk prog [] n_table_trigger_id S_table_trigger_id) (h_table_trigger_kind : FnOk prog [] n_table_trigger_kind S_table_trigger_kind) (h_table_trigger_goes : FnOk prog [] n_table_trigger_goes S_table_trigger_goes) (h_table_trigger_host : FnOk prog [] n_table_trigger_host S_table_trigger_host) : DOkX prog D_table_compare := dokx (dok_add (dok_add (dok_add (dok_add (dok_nil tab_ok mixed_ok) h_table_trigger_host) h_table_trigger_goes) h_table_trigger_kind) h_table_trigger_id)
theorem ht_table_compare : htOk D_table_compare = true := by kernel_rfl
noncomputable def T_table_compare (a : den tTrigger) (b : den tTrigger) : Tree :=
  Tree.loop (lp f_table_compare 2)
  [(2, K.ptr 2 tTrigger []), (3, K.ptr 3 tTrigger []),
    (8,
      K.val (Ty.slc (Ty.fn (Ty.pair tTrigger (Ty.pair tTrigger Ty.unit)) (Ty.pair tInt Ty.unit)))
        [some fun x ↦ (g_Cmp (Prod.fst (Prod.fst x)) (Prod.fst (Prod.fst (Prod.snd x))), PUnit.unit),
          some fun x ↦
            (cmpI (Prod.fst (Prod.fst (Prod.snd (Prod.fst x))))
                (Prod.fst (Prod.fst (Prod.snd (Prod.fst (Prod.snd x))))),
              PUnit.unit),
          some fun x ↦
            (g_Cmp (Prod.fst (Prod.snd (Prod.fst (Prod.snd (Prod.fst x)))))
                (Prod.fst (Prod.snd (Prod.fst (Prod.snd (Prod.fst (Prod.snd x)))))),
              PUnit.unit),
          some fun x ↦
            (cmpI (Prod.fst (Prod.snd (Prod.snd (Prod.fst (Prod.snd (Prod.fst x))))))
                (Prod.fst (Prod.snd (Prod.snd (Prod.fst (Prod.snd (Prod.fst (Prod.snd x))))))),
              PUnit.unit)]),
    (9,
      K.val tInt
        (lnx (Ty.fn (Ty.pair tTrigger (Ty.pair tTrigger Ty.unit)) (Ty.pair tInt Ty.unit))
          [some fun x ↦ (g_Cmp (Prod.fst (Prod.fst x)) (Prod.fst (Prod.fst (Prod.snd x))), PUnit.unit),
            some fun x ↦
              (cmpI (Prod.fst (Prod.fst (Prod.snd (Prod.fst x))))
                  (Prod.fst (Prod.fst (Prod.snd (Prod.fst (Prod.snd x))))),
                PUnit.unit),
            some fun x ↦
              (g_Cmp (Prod.fst (Prod.snd (Prod.fst (Prod.snd (Prod.fst x)))))
                  (Prod.fst (Prod.snd (Prod.fst (Prod.snd (Prod.fst (Prod.snd x)))))),
                PUnit.unit),
            some fun x ↦
              (cmpI (Prod.fst (Prod.snd (Prod.snd (Prod.fst (Prod.snd (Prod.fst x))))))
                  (Prod.fst (Prod.snd (Prod.snd (Prod.fst (Prod.snd (Prod.fst (Prod.snd x))))))),
                PUnit.unit)])),
    (10, K.val tInt 0)]
  [(2, Bx.cell tTrigger a), (3, Bx.cell tTrigger b)]
theorem T_table_compare_eq (a : den tTrigger) (b : den tTrigger) : tree D_table_compare A_table_compare rs_table_compare f_table_compare 1000 (bodyOf f_table_compare) (Env.of
  (argEnv as_table_compare (a, b, ()) 0) []) = T_table_compare a b := by kernel_rfl

noncomputable def E_table_compare_2 (v8 : den (Ty.slc (Ty.fn (Ty.pair tTrigger (Ty.pair tTrigger Ty.unit)) (Ty.pair tInt Ty.unit)))) (v9 : den tInt) (v10 : den tInt) (b2 : den tTrigger) (b3 : den tTrigger) : Env := Env.of [(2,
    K.ptr 2 tTrigger []),
  (3, K.ptr 3 tTrigger []),
  (8, K.val (Ty.slc (Ty.fn (Ty.pair tTrigger (Ty.pair tTrigger Ty.unit)) (Ty.pair tInt Ty.unit))) v8),
  (9, K.val tInt v9), (10, K.val tInt v10)] [(2, Bx.cell tTrigger b2), (3, Bx.cell tTrigger b3)]
noncomputable def TL_table_compare_2 (v8 : den (Ty.slc (Ty.fn (Ty.pair tTrigger (Ty.pair tTrigger Ty.unit)) (Ty.pair tInt Ty.unit)))) (v9 : den tInt) (v10 : den tInt) (b2 : den tTrigger) (b3 : den tTrigger) : Tree :=
  Tree.ite (decide (v10 < v9))
  (Tree.req (inB v10 (lnx (Ty.fn (Ty.pair tTrigger (Ty.pair tTrigger Ty.unit)) (Ty.pair tInt Ty.unit)) v8))
    (Tree.req
      (isFnx (Ty.pair tTrigger (Ty.pair tTrigger Ty.unit)) (Ty.pair tInt Ty.unit)
        (el (Ty.fn (Ty.pair tTrigger (Ty.pair tTrigger Ty.unit)) (Ty.pair tInt Ty.unit)) v8 v10))
      (Tree.ite
        (!decide
            (Prod.fst
                (fcallx (Ty.pair tTrigger (Ty.pair tTrigger Ty.unit)) (Ty.pair tInt Ty.unit)
                  (el (Ty.fn (Ty.pair tTrigger (Ty.pair tTrigger Ty.unit)) (Ty.pair tInt Ty.unit)) v8 v10)
                  (b2, b3, PUnit.unit)) =
              0))
        (Tree.ret
          (K.val (Ty.pair tInt Ty.unit)
            (Prod.fst
                (fcallx (Ty.pair tTrigger (Ty.pair tTrigger Ty.unit)) (Ty.pair tInt Ty.unit)
                  (el (Ty.fn (Ty.pair tTrigger (Ty.pair tTrigger Ty.unit)) (Ty.pair tInt Ty.unit)) v8 v10)
                  (b2, b3, PUnit.unit)),
              PUnit.unit)))
        (Tree.loop (lp f_table_compare 2)
          [(2, K.ptr 2 tTrigger []), (3, K.ptr 3 tTrigger []),
            (8, K.val (Ty.slc (Ty.fn (Ty.pair tTrigger (Ty.pair tTrigger Ty.unit)) (Ty.pair tInt Ty.unit))) v8),
            (9, K.val tInt v9), (10, K.val tInt (IntKind.wrap IntKind.i64 (v10 + 1)))]
          [(2, Bx.cell tTrigger b2), (3, Bx.cell tTrigger b3)]))))
  (Tree.ret (K.val (Ty.pair tInt Ty.unit) (0, PUnit.unit)))
theorem TL_table_compare_2_eq (v8 : den (Ty.slc (Ty.fn (Ty.pair tTrigger (Ty.pair tTrigger Ty.unit)) (Ty.pair tInt Ty.unit)))) (v9 : den tInt) (v10 : den tInt) (b2 : den tTrigger) (b3 : den tTrigger) : tree D_table_compare A_table_compare rs_table_compare f_table_compare 1000 (lp f_table_compare 2) (E_table_compare_2 v8 v9 v10 b2 b3) = TL_table_compare_2 v8 v9 v10 b2 b3 := by kernel_rfl

noncomputable abbrev D_r12_Find : Tabs := { T := tyTab, F := [(n_r12_is, S_r12_is)], n := (f_r12_Find).ntmps }
noncomputable abbrev A_r12_Find : Ann := { loops := [(2, { keep := [4, 5, 6, 9, 10, 11] })] }
theorem d_r12_Find (h_r12_is : FnOk prog [] n_r12_is S_r12_is) : DOkX prog D_r12_Find := dokx (dok_add (dok_nil tab_ok mixed_ok) h_r12_is)
theorem ht_r12_Find : htOk D_r12_Find = true := by kernel_rfl
noncomputable def T_r12_Find (t : den (Ty.slc tTrigger)) (id : den tId) (e : den tEntry) : Tree :=
  Tree.loop (lp f_r12_Find 2)
  [(4, K.ptr 4 tId []), (5, K.ptr 5 tEntry []), (6, K.ptr 6 tTrigger []), (9, K.val (Ty.slc tTrigger) t),
    (10, K.val tInt (lnx tTrigger t)), (11, K.val tInt 0)]
  [(4, Bx.cell tId id), (5, Bx.cell tEntry e), (6, Bx.cell tTrigger (zero tTrigger))]
theorem T_r12_Find_eq (t : den (Ty.slc tTrigger)) (id : den tId) (e : den tEntry) : tree D_r12_Find A_r12_Find rs_r12_Find f_r12_Find 1000 (bodyOf f_r12_Find) (Env.of
  (argEnv as_r12_Find (t, id, e, ()) 0) []) = T_r12_Find t id e := by kernel_rfl

noncomputable def E_r12_Find_2 (v9 : den (Ty.slc tTrigger)) (v10 : den tInt) (v11 : den tInt) (b4 : den tId) (b5 : den tEntry) (b6 : den tTrigger) : Env := Env.of [(4,
    K.ptr 4 tId []),
  (5, K.ptr 5 tEntry []), (6, K.ptr 6 tTrigger []), (9, K.val (Ty.slc tTrigger) v9), (10, K.val tInt v10),
  (11, K.val tInt v11)] [(4, Bx.cell tId b4), (5, Bx.cell tEntry b5), (6, Bx.cell tTrigger b6)]
noncomputable def TL_r12_Find_2 (v9 : den (Ty.slc tTrigger)) (v10 : den tInt) (v11 : den tInt) (b4 : den tId) (b5 : den tEntry) (b6 : den tTrigger) : Tree :=
  Tree.ite (decide (v11 < v10))
  (Tree.req (inB v11 (lnx tTrigger v9))
    (Tree.req True
      (Tree.ite (isIE (el tTrigger v9 v11) b4 b5)
        (Tree.ret (K.val (Ty.pair tTrigger Ty.unit) (el tTrigger v9 v11, PUnit.unit)))
        (Tree.loop (lp f_r12_Find 2)
          [(4, K.ptr 4 tId []), (5, K.ptr 5 tEntry []), (6, K.ptr 6 tTrigger []), (9, K.val (Ty.slc tTrigger) v9),
            (10, K.val tInt v10), (11, K.val tInt (IntKind.wrap IntKind.i64 (v11 + 1)))]
          [(4, Bx.cell tId b4), (5, Bx.cell tEntry b5), (6, Bx.cell tTrigger b6)]))))
  (Tree.ret
    (K.val (Ty.pair tTrigger Ty.unit)
      ((Prod.fst (zero (Ty.pair tId (Ty.pair tEntry (Ty.pair tInt Ty.unit)))),
          Prod.fst (Prod.snd (zero (Ty.pair tId (Ty.pair tEntry (Ty.pair tInt Ty.unit))))), -1,
          Prod.snd (Prod.snd (Prod.snd (zero (Ty.pair tId (Ty.pair tEntry (Ty.pair tInt Ty.unit))))))),
        PUnit.unit)))
theorem TL_r12_Find_2_eq (v9 : den (Ty.slc tTrigger)) (v10 : den tInt) (v11 : den tInt) (b4 : den tId) (b5 : den tEntry) (b6 : den tTrigger) : tree D_r12_Find A_r12_Find rs_r12_Find f_r12_Find 1000 (lp f_r12_Find 2) (E_r12_Find_2 v9 v10 v11 b4 b5 b6) = TL_r12_Find_2 v9 v10 v11 b4 b5 b6 := by kernel_rfl

noncomputable abbrev D_r12_Without : Tabs := { T := tyTab, F := [(n_r12_is, S_r12_is)], own := [10], n := (f_r12_Without).ntmps }
noncomputable abbrev A_r12_Without : Ann := { loops := [(3, { keep := [4, 5, 7, 11, 12, 13] })] }
theorem d_r12_Without (h_r12_is : FnOk prog [] n_r12_is S_r12_is) : DOkX prog D_r12_Without := dokx (dok_add (dok_nil tab_ok mixed_ok) h_r12_is)
theorem ht_r12_Without : htOk D_r12_Without = true := by kernel_rfl
noncomputable def T_r12_Without (t : den (Ty.slc tTrigger)) (id : den tId) (e : den tEntry) : Tree :=
  Tree.loop (lp f_r12_Without 3)
  [(4, K.ptr 4 tId []), (5, K.ptr 5 tEntry []), (7, K.sl 7 tTrigger), (11, K.val (Ty.slc tTrigger) t),
    (12, K.val tInt (lnx tTrigger t)), (13, K.val tInt 0)]
  [(4, Bx.cell tId id), (5, Bx.cell tEntry e), (7, Bx.row tTrigger (List.replicate 0 (zero tTrigger)))]
theorem T_r12_Without_eq (t : den (Ty.slc tTrigger)) (id : den tId) (e : den tEntry) : tree D_r12_Without A_r12_Without rs_r12_Without f_r12_Without 1000 (bodyOf f_r12_Without) (Env.of
  (argEnv as_r12_Without (t, id, e, ()) 0) []) = T_r12_Without t id e := by kernel_rfl

noncomputable def E_r12_Without_3 (v11 : den (Ty.slc tTrigger)) (v12 : den tInt) (v13 : den tInt) (b4 : den tId) (b5 : den tEntry) (b7 : List (den tTrigger)) : Env := Env.of [(4,
    K.ptr 4 tId []),
  (5, K.ptr 5 tEntry []), (7, K.sl 7 tTrigger), (11, K.val (Ty.slc tTrigger) v11), (12, K.val tInt v12),
  (13, K.val tInt v13)] [(4, Bx.cell tId b4), (5, Bx.cell tEntry b5), (7, Bx.row tTrigger b7)]
noncomputable def TL_r12_Without_3 (v11 : den (Ty.slc tTrigger)) (v12 : den tInt) (v13 : den tInt) (b4 : den tId) (b5 : den tEntry) (b7 : List (den tTrigger)) : Tree :=
  Tree.ite (decide (v13 < v12))
  (Tree.req (inB v13 (lnx tTrigger v11))
    (Tree.req True
      (Tree.ite (!isIE (el tTrigger v11 v13) b4 b5)
        (Tree.req (List.length (b7 ++ [el tTrigger v11 v13]) ≤ most)
          (Tree.loop (lp f_r12_Without 3)
            [(4, K.ptr 4 tId []), (5, K.ptr 5 tEntry []), (7, K.sl 7 tTrigger), (11, K.val (Ty.slc tTrigger) v11),
              (12, K.val tInt v12), (13, K.val tInt (IntKind.wrap IntKind.i64 (v13 + 1)))]
            [(4, Bx.cell tId b4), (5, Bx.cell tEntry b5), (7, Bx.row tTrigger (b7 ++ [el tTrigger v11 v13]))]))
        (Tree.loop (lp f_r12_Without 3)
          [(4, K.ptr 4 tId []), (5, K.ptr 5 tEntry []), (7, K.sl 7 tTrigger), (11, K.val (Ty.slc tTrigger) v11),
            (12, K.val tInt v12), (13, K.val tInt (IntKind.wrap IntKind.i64 (v13 + 1)))]
          [(4, Bx.cell tId b4), (5, Bx.cell tEntry b5), (7, Bx.row tTrigger b7)]))))
  (Tree.ret (K.val (Ty.pair (Ty.slc tTrigger) Ty.unit) (b7, PUnit.unit)))
theorem TL_r12_Without_3_eq (v11 : den (Ty.slc tTrigger)) (v12 : den tInt) (v13 : den tInt) (b4 : den tId) (b5 : den tEntry) (b7 : List (den tTrigger)) : tree D_r12_Without A_r12_Without rs_r12_Without f_r12_Without 1000 (lp f_r12_Without 3) (E_r12_Without_3 v11 v12 v13 b4 b5 b7) = TL_r12_Without_3 v11 v12 v13 b4 b5 b7 := by kernel_rfl

noncomputable abbrev D_r12_Put : Tabs := { T := tyTab, F := [(n_r12_Find, S_r12_Find), (n_r12_Without, S_r12_Without), (n_r12_Less, S_r12_Less)], own := [25], n := (f_r12_Put).ntmps }
noncomputable abbrev A_r12_Put : Ann := { loops := [(7, { keep := [3, 7, 8, 31, 32, 33] })] }
theorem d_r12_Put (h_r12_Find : FnOk prog [] n_r12_Find S_r12_Find) (h_r12_Without : FnOk prog [] n_r12_Without S_r12_Without) (h_r12_Less : FnOk prog [] n_r12_Less S_r12_Less) : DOkX prog D_r12_Put := dokx (dok_add (dok_add (dok_add (dok_nil tab_ok mixed_ok) h_r12_Less) h_r12_Without) h_r12_Find)
theorem ht_r12_Put : htOk D_r12_Put = true := by kernel_rfl
noncomputable def T_r12_Put (t : den (Ty.slc tTrigger)) (x : den tTrigger) : Tree :=
  Tree.req (Nat.le (List.length t) 1000000)
  (Tree.ite
    (decide
      (Prod.fst (Prod.snd (Prod.snd x)) <
        Prod.fst (Prod.snd (Prod.snd (g_Find t (Prod.fst x) (Prod.fst (Prod.snd x)))))))
    (Tree.req (Nat.le (List.length t) 1000000)
      (Tree.loop (lp f_r12_Put 7)
        [(3, K.ptr 3 tTrigger []), (7, K.sl 7 tTrigger), (8, K.val Ty.bool false),
          (31, K.val (Ty.slc tTrigger) (g_Without t (Prod.fst x) (Prod.fst (Prod.snd x)))),
          (32, K.val tInt (lnx tTrigger (g_Without t (Prod.fst x) (Prod.fst (Prod.snd x))))), (33, K.val tInt 0)]
        [(3,
            Bx.cell tTrigger
              (Prod.fst x, Prod.fst (Prod.snd x),
                Prod.fst (Prod.snd (Prod.snd (g_Find t (Prod.fst x) (Prod.fst (Prod.snd x))))),
                Prod.snd (Prod.snd (Prod.snd x)))),
          (7, Bx.row tTrigger (List.replicate 0 (zero tTrigger)))]))
    (Tree.req (Nat.le (List.length t) 1000000)
      (Tree.loop (lp f_r12_Put 7)
        [(3, K.ptr 3 tTrigger []), (7, K.sl 7 tTrigger), (8, K.val Ty.bool false),
          (31, K.val (Ty.slc tTrigger) (g_Without t (Prod.fst x) (Prod.fst (Prod.snd x)))),
          (32, K.val tInt (lnx tTrigger (g_Without t (Prod.fst x) (Prod.fst (Prod.snd x))))), (33, K.val tInt 0)]
        [(3, Bx.cell tTrigger x), (7, Bx.row tTrigger (List.replicate 0 (zero tTrigger)))])))
theorem T_r12_Put_eq (t : den (Ty.slc tTrigger)) (x : den tTrigger) : tree D_r12_Put A_r12_Put rs_r12_Put f_r12_Put 1000 (bodyOf f_r12_Put) (Env.of
  (argEnv as_r12_Put (t, x, ()) 0) []) = T_r12_Put t x := by kernel_rfl

noncomputable def E_r12_Put_7 (v8 : den Ty.bool) (v31 : den (Ty.slc tTrigger)) (v32 : den tInt) (v33 : den tInt) (b3 : den tTrigger) (b7 : List (den tTrigger)) : Env := Env.of [(3,
    K.ptr 3 tTrigger []),
  (7, K.sl 7 tTrigger), (8, K.val Ty.bool v8), (31, K.val (Ty.slc tTrigger) v31), (32, K.val tInt v32),
  (33, K.val tInt v33)] [(3, Bx.cell tTrigger b3), (7, Bx.row tTrigger b7)]
noncomputable def TL_r12_Put_7 (v8 : den Ty.bool) (v31 : den (Ty.slc tTrigger)) (v32 : den tInt) (v33 : den tInt) (b3 : den tTrigger) (b7 : List (den tTrigger)) : Tree :=
  Tree.ite (decide (v33 < v32))
  (Tree.req (inB v33 (lnx tTrigger v31))
    (Tree.req (impl [(!v8, true)] True)
      (Tree.ite (bif !v8 then g_Less b3 (el tTrigger v31 v33) else false)
        (Tree.req (List.length (b7 ++ [b3]) ≤ most)
          (Tree.req (List.length (b7 ++ [b3] ++ [el tTrigger v31 v33]) ≤ most)
            (Tree.loop (lp f_r12_Put 7)
              [(3, K.ptr 3 tTrigger []), (7, K.sl 7 tTrigger), (8, K.val Ty.bool true),
                (31, K.val (Ty.slc tTrigger) v31), (32, K.val tInt v32),
                (33, K.val tInt (IntKind.wrap IntKind.i64 (v33 + 1)))]
              [(3, Bx.cell tTrigger b3), (7, Bx.row tTrigger (b7 ++ [b3] ++ [el tTrigger v31 v33]))])))
        (Tree.req (List.length (b7 ++ [el tTrigger v31 v33]) ≤ most)
          (Tree.loop (lp f_r12_Put 7)
            [(3, K.ptr 3 tTrigger []), (7, K.sl 7 tTrigger), (8, K.val Ty.bool v8), (31, K.val (Ty.slc tTrigger) v31),
              (32, K.val tInt v32), (33, K.val tInt (IntKind.wrap IntKind.i64 (v33 + 1)))]
            [(3, Bx.cell tTrigger b3), (7, Bx.row tTrigger (b7 ++ [el tTrigger v31 v33]))])))))
  (Tree.ite (!v8)
    (Tree.req (List.length (b7 ++ [b3]) ≤ most)
      (Tree.ret
        (K.val (Ty.pair (Ty.slc tTrigger) (Ty.pair Ty.bool Ty.unit))
          (b7 ++ [b3], decide (lnx tTrigger (b7 ++ [b3]) ≤ 32), PUnit.unit))))
    (Tree.ret
      (K.val (Ty.pair (Ty.slc tTrigger) (Ty.pair Ty.bool Ty.unit)) (b7, decide (lnx tTrigger b7 ≤ 32), PUnit.unit))))
theorem TL_r12_Put_7_eq (v8 : den Ty.bool) (v31 : den (Ty.slc tTrigger)) (v32 : den tInt) (v33 : den tInt) (b3 : den tTrigger) (b7 : List (den tTrigger)) : tree D_r12_Put A_r12_Put rs_r12_Put f_r12_Put 1000 (lp f_r12_Put 7) (E_r12_Put_7 v8 v31 v32 v33 b3 b7) = TL_r12_Put_7 v8 v31 v32 v33 b3 b7 := by kernel_rfl

noncomputable abbrev D_table_Cut_1 : Tabs := { T := tyTab, F := [(n_ident_In, S_ident_In)], n := (f_table_Cut_1).ntmps }
noncomputable abbrev A_table_Cut_1 : Ann := { }
theorem d_table_Cut_1 (h_ident_In : FnOk prog [] n_ident_In S_ident_In) : DOkX prog D_table_Cut_1 := dokx (dok_add (dok_nil tab_ok mixed_ok) h_ident_In)
theorem ht_table_Cut_1 : htOk D_table_Cut_1 = true := by kernel_rfl
noncomputable def T_table_Cut_1 (x : den tTrigger) (a : den (Ty.ref tId)) (b : den (Ty.ref tId)) : Tree :=
  Tree.req True (Tree.ret (K.val (Ty.pair Ty.bool Ty.unit) (g_In (Prod.fst x) a b, PUnit.unit)))
theorem T_table_Cut_1_eq (x : den tTrigger) (a : den (Ty.ref tId)) (b : den (Ty.ref tId)) : tree D_table_Cut_1 A_table_Cut_1 rs_table_Cut_1 f_table_Cut_1 1000 (bodyOf f_table_Cut_1) (Env.of
  (argEnv as_table_Cut_1 (x, a, b, ()) 0) []) = T_table_Cut_1 x a b := by kernel_rfl

noncomputable abbrev D_table_Right : Tabs := { T := tyTab, F := [(n_table_may, S_table_may), (n_table_compare, S_table_compare)], n := (f_table_Right).ntmps }
noncomputable abbrev A_table_Right : Ann := { loops := [(2, { keep := [0, 5, 6, 7] })] }
theorem d_table_Right (h_table_may : FnOk prog [] n_table_may S_table_may) (h_table_compare : FnOk prog [] n_table_compare S_table_compare) : DOkX prog D_table_Right := dokx (dok_add (dok_add (dok_nil tab_ok mixed_ok) h_table_compare) h_table_may)
theorem ht_table_Right : htOk D_table_Right = true := by kernel_rfl
noncomputable def T_table_Right (t : den (Ty.slc tTrigger)) : Tree :=
  Tree.loop (lp f_table_Right 2)
  [(0, K.val (Ty.slc tTrigger) t), (5, K.val (Ty.slc tTrigger) t), (6, K.val tInt (lnx tTrigger t)), (7, K.val tInt 0)]
  []
theorem T_table_Right_eq (t : den (Ty.slc tTrigger)) : tree D_table_Right A_table_Right rs_table_Right f_table_Right 1000 (bodyOf f_table_Right) (Env.of
  (argEnv as_table_Right (t, ()) 0) []) = T_table_Right t := by kernel_rfl

noncomputable def E_table_Right_2 (v0 : den (Ty.slc tTrigger)) (v5 : den (Ty.slc tTrigger)) (v6 : den tInt) (v7 : den tInt) : Env := Env.of [(0,
    K.val (Ty.slc tTrigger) v0),
  (5, K.val (Ty.slc tTrigger) v5), (6, K.val tInt v6), (7, K.val tInt v7)] []
noncomputable def TL_table_Right_2 (v0 : den (Ty.slc tTrigger)) (v5 : den (Ty.slc tTrigger)) (v6 : den tInt) (v7 : den tInt) : Tree :=
  Tree.ite (decide (v7 < v6))
  (Tree.req (inB v7 (lnx tTrigger v5))
    (Tree.req True
      (Tree.req
        (impl [(!g_may (el tTrigger v5 v7), false), (decide (0 < v7), true)]
          (inB (IntKind.wrap IntKind.i64 (v7 - 1)) (lnx tTrigger v0)))
        (Tree.req (impl [(!g_may (el tTrigger v5 v7), false), (decide (0 < v7), true)] True)
          (Tree.ite
            (bif !g_may (el tTrigger v5 v7) then true
            else
              bif decide (0 < v7) then
                decide (0 ≤ g_cmpT (el tTrigger v0 (IntKind.wrap IntKind.i64 (v7 - 1))) (el tTrigger v5 v7))
              else false)
            (Tree.ret (K.val (Ty.pair Ty.bool Ty.unit) (false, PUnit.unit)))
            (Tree.loop (lp f_table_Right 2)
              [(0, K.val (Ty.slc tTrigger) v0), (5, K.val (Ty.slc tTrigger) v5), (6, K.val tInt v6),
                (7, K.val tInt (IntKind.wrap IntKind.i64 (v7 + 1)))]
              []))))))
  (Tree.ret (K.val (Ty.pair Ty.bool Ty.unit) (decide (lnx tTrigger v0 ≤ 32), PUnit.unit)))
theorem TL_table_Right_2_eq (v0 : den (Ty.slc tTrigger)) (v5 : den (Ty.slc tTrigger)) (v6 : den tInt) (v7 : den tInt) : tree D_table_Right A_table_Right rs_table_Right f_table_Right 1000 (lp f_table_Right 2) (E_table_Right_2 v0 v5 v6 v7) = TL_table_Right_2 v0 v5 v6 v7 := by kernel_rfl

noncomputable abbrev D_slices_BinarySearchFunc_Trigger : Tabs := { T := tyTab, F := [], n := (f_slices_BinarySearchFunc_Trigger).ntmps }
noncomputable abbrev A_slices_BinarySearchFunc_Trigger : Ann := { loops := [(3, { keep := [0, 2, 4, 8, 9, 10] })] }
theorem d_slices_BinarySearchFunc_Trigger : DOkX prog D_slices_BinarySearchFunc_Trigger := dokx ((dok_nil tab_ok mixed_ok))
theorem ht_slices_BinarySearchFunc_Trigger : htOk D_slices_BinarySearchFunc_Trigger = true := by kernel_rfl
noncomputable def T_slices_BinarySearchFunc_Trigger (t : den (Ty.slc tTrigger)) (x : den tTrigger) (f : den (Ty.fn (Ty.pair tTrigger (Ty.pair tTrigger Ty.unit)) (Ty.pair tInt Ty.unit))) : Tree :=
  Tree.loop (lp f_slices_BinarySearchFunc_Trigger 3)
  [(0, K.val (Ty.slc tTrigger) t),
    (2, K.val (Ty.fn (Ty.pair tTrigger (Ty.pair tTrigger Ty.unit)) (Ty.pair tInt Ty.unit)) f), (4, K.ptr 4 tTrigger []),
    (8, K.val tInt (lnx tTrigger t)), (9, K.val tInt 0), (10, K.val tInt (lnx tTrigger t))]
  [(4, Bx.cell tTrigger x)]
theorem T_slices_BinarySearchFunc_Trigger_eq (t : den (Ty.slc tTrigger)) (x : den tTrigger) (f : den (Ty.fn (Ty.pair tTrigger (Ty.pair tTrigger Ty.unit)) (Ty.pair tInt Ty.unit))) : tree D_slices_BinarySearchFunc_Trigger A_slices_BinarySearchFunc_Trigger rs_slices_BinarySearchFunc_Trigger f_slices_BinarySearchFunc_Trigger 1000 (bodyOf f_slices_BinarySearchFunc_Trigger) (Env.of
  (argEnv as_slices_BinarySearchFunc_Trigger (t, x, f, ()) 0)
  []) = T_slices_BinarySearchFunc_Trigger t x f := by kernel_rfl

noncomputable def E_slices_BinarySearchFunc_Trigger_3 (v0 : den (Ty.slc tTrigger)) (v2 : den (Ty.fn (Ty.pair tTrigger (Ty.pair tTrigger Ty.unit)) (Ty.pair tInt Ty.unit))) (v8 : den tInt) (v9 : den tInt) (v10 : den tInt) (b4 : den tTrigger) : Env := Env.of [(0,
    K.val (Ty.slc tTrigger) v0),
  (2, K.val (Ty.fn (Ty.pair tTrigger (Ty.pair tTrigger Ty.unit)) (Ty.pair tInt Ty.unit)) v2), (4, K.ptr 4 tTrigger []),
  (8, K.val tInt v8), (9, K.val tInt v9), (10, K.val tInt v10)] [(4, Bx.cell tTrigger b4)]
noncomputable def TL_slices_BinarySearchFunc_Trigger_3 (v0 : den (Ty.slc tTrigger)) (v2 : den (Ty.fn (Ty.pair tTrigger (Ty.pair tTrigger Ty.unit)) (Ty.pair tInt Ty.unit))) (v8 : den tInt) (v9 : den tInt) (v10 : den tInt) (b4 : den tTrigger) : Tree :=
  Tree.ite (decide (v9 < v10))
  (Tree.req (ge0 1)
    (Tree.req
      (inB
        (IntKind.wrap IntKind.i64
          (Int.fdiv (IntKind.wrap IntKind.u64 (IntKind.wrap IntKind.i64 (v9 + v10)))
            (2 ^ min (Int.toNat 1) (IntKind.bits IntKind.u64))))
        (lnx tTrigger v0))
      (Tree.req (isFnx (Ty.pair tTrigger (Ty.pair tTrigger Ty.unit)) (Ty.pair tInt Ty.unit) v2)
        (Tree.ite
          (decide
            (Prod.fst
                (fcallx (Ty.pair tTrigger (Ty.pair tTrigger Ty.unit)) (Ty.pair tInt Ty.unit) v2
                  (el tTrigger v0
                      (IntKind.wrap IntKind.i64
                        (Int.fdiv (IntKind.wrap IntKind.u64 (IntKind.wrap IntKind.i64 (v9 + v10)))
                          (2 ^ min (Int.toNat 1) (IntKind.bits IntKind.u64)))),
                    b4, PUnit.unit)) <
              0))
          (Tree.loop (lp f_slices_BinarySearchFunc_Trigger 3)
            [(0, K.val (Ty.slc tTrigger) v0),
              (2, K.val (Ty.fn (Ty.pair tTrigger (Ty.pair tTrigger Ty.unit)) (Ty.pair tInt Ty.unit)) v2),
              (4, K.ptr 4 tTrigger []), (8, K.val tInt v8),
              (9,
                K.val tInt
                  (IntKind.wrap IntKind.i64
                    (IntKind.wrap IntKind.i64
                        (Int.fdiv (IntKind.wrap IntKind.u64 (IntKind.wrap IntKind.i64 (v9 + v10)))
                          (2 ^ min (Int.toNat 1) (IntKind.bits IntKind.u64))) +
                      1))),
              (10, K.val tInt v10)]
            [(4, Bx.cell tTrigger b4)])
          (Tree.loop (lp f_slices_BinarySearchFunc_Trigger 3)
            [(0, K.val (Ty.slc tTrigger) v0),
              (2, K.val (Ty.fn (Ty.pair tTrigger (Ty.pair tTrigger Ty.unit)) (Ty.pair tInt Ty.unit)) v2),
              (4, K.ptr 4 tTrigger []), (8, K.val tInt v8), (9, K.val tInt v9),
              (10,
                K.val tInt
                  (IntKind.wrap IntKind.i64
                    (Int.fdiv (IntKind.wrap IntKind.u64 (IntKind.wrap IntKind.i64 (v9 + v10)))
                      (2 ^ min (Int.toNat 1) (IntKind.bits IntKind.u64)))))]
            [(4, Bx.cell tTrigger b4)])))))
  (Tree.req (impl [(decide (v9 < v8), true)] (inB v9 (lnx tTrigger v0)))
    (Tree.req
      (impl [(decide (v9 < v8), true)] (isFnx (Ty.pair tTrigger (Ty.pair tTrigger Ty.unit)) (Ty.pair tInt Ty.unit) v2))
      (Tree.ret
        (K.val (Ty.pair tInt (Ty.pair Ty.bool Ty.unit))
          (v9,
            bif decide (v9 < v8) then
              decide
                (Prod.fst
                    (fcallx (Ty.pair tTrigger (Ty.pair tTrigger Ty.unit)) (Ty.pair tInt Ty.unit) v2
                      (el tTrigger v0 v9, b4, PUnit.unit)) =
                  0)
            else false,
            PUnit.unit)))))
theorem TL_slices_BinarySearchFunc_Trigger_3_eq (v0 : den (Ty.slc tTrigger)) (v2 : den (Ty.fn (Ty.pair tTrigger (Ty.pair tTrigger Ty.unit)) (Ty.pair tInt Ty.unit))) (v8 : den tInt) (v9 : den tInt) (v10 : den tInt) (b4 : den tTrigger) : tree D_slices_BinarySearchFunc_Trigger A_slices_BinarySearchFunc_Trigger rs_slices_BinarySearchFunc_Trigger f_slices_BinarySearchFunc_Trigger 1000 (lp f_slices_BinarySearchFunc_Trigger 3) (E_slices_BinarySearchFunc_Trigger_3 v0 v2 v8 v9 v10 b4) = TL_slices_BinarySearchFunc_Trigger_3 v0 v2 v8 v9 v10 b4 := by kernel_rfl

end Go.Proofs.Ytnccacngedeoeaa

/- The order of triggers, finding, putting in, halving. -/
namespace Go.Proofs.Ytnccacngedeoeaa
open Go Go.RowKit

/-! ### The order, by four ways -/

abbrev cmpF : Ty := .fn (.pair tTrigger (.pair tTrigger .unit)) (.pair tInt .unit)
def ways : List (den cmpF) := [some fun x => (g_Cmp x.1.1 x.2.1.1, ()), some fun x => (cmpI x.1.2.1.1 x.2.1.2.1.1, ()), some fun x => (g_Cmp x.1.2.1.2.1 x.2.1.2.1.2.1, ()), some fun x => (cmpI x.1.2.1.2.2.1 x.2.1.2.1.2.2.1, ())]

theorem gl_table_compare (O : Nat → Prop) (w0 : World) (a b : den tTrigger) : Good prog D_table_compare O w0 f_table_compare (Ends prog O w0 rs_table_compare fun y => y = (g_cmpT a b, ())) (lp f_table_compare 2) (E_table_compare_2 ways 4 0 a b) := by
  have hD := d_table_compare k_table_trigger_id k_table_trigger_kind k_table_trigger_goes k_table_trigger_host
  have c4 : Good prog D_table_compare O w0 f_table_compare (Ends prog O w0 rs_table_compare fun y => y = ((0 : Int), ())) (lp f_table_compare 2) (E_table_compare_2 ways 4 4 a b) :=
    good_T hD ht_table_compare (TL_table_compare_2_eq ways 4 4 a b) ⟨fun h => (by cases h), fun _ => ⟨_, rfl, rfl⟩⟩
  have step : ∀ (i c r : Int), inB i 4 → isFnx (.pair tTrigger (.pair tTrigger .unit)) (.pair tInt .unit) (el cmpF ways i) → (fcallx (.pair tTrigger (.pair tTrigger .unit)) (.pair tInt .unit) (el cmpF ways i) (a, b, ())).1 = c →
      Good prog D_table_compare O w0 f_table_compare (Ends prog O w0 rs_table_compare fun y => y = (r, ())) (lp f_table_compare 2) (E_table_compare_2 ways 4 (i + 1) a b) →
      Good prog D_table_compare O w0 f_table_compare (Ends prog O w0 rs_table_compare fun y => y = (orC c r, ())) (lp f_table_compare 2) (E_table_compare_2 ways 4 i a b) := by
    intro i c r hi hf hc hg
    refine good_T hD ht_table_compare (TL_table_compare_2_eq ways 4 i a b) ⟨fun _ => ⟨hi, hf, fun h => ⟨_, rfl, ?_⟩, fun h => ?_⟩, fun h => ?_⟩
    · have h : ¬ (fcallx (.pair tTrigger (.pair tTrigger .unit)) (.pair tInt .unit) (el cmpF ways i) (a, b, ())).1 = (0 : Int) := by simpa using h
      rw [hc] at h
      have : orC c r = c := if_neg h
      rw [this, ← hc]
    · have h : (fcallx (.pair tTrigger (.pair tTrigger .unit)) (.pair tInt .unit) (el cmpF ways i) (a, b, ())).1 = (0 : Int) := by simpa using h
      rw [hc] at h
      have : orC c r = r := if_pos h
      rw [this]
      obtain ⟨h1, h2⟩ := hi
      rw [small_i64 (by omega)]
      exact hg
    · have h : ¬ i < 4 := of_decide_eq_false h
      exact absurd hi.2 h
  have c3 := step 3 _ _ ⟨by decide, by decide⟩ ⟨_, rfl⟩ rfl c4
  have c2 := step 2 _ _ ⟨by decide, by decide⟩ ⟨_, rfl⟩ rfl c3
  have c1 := step 1 _ _ ⟨by decide, by decide⟩ ⟨_, rfl⟩ rfl c2
  have c0 := step 0 _ _ ⟨by decide, by decide⟩ ⟨_, rfl⟩ rfl c1
  refine Good.mono (fun y hy => ?_) c0
  rw [hy]
  have h0 : ∀ x : Int, orC x 0 = x := fun x => by unfold orC; split <;> omega
  rw [h0]
  rfl
theorem k_table_compare : FnOk prog [] n_table_compare S_table_compare :=
  fn_T (d_table_compare k_table_trigger_id k_table_trigger_kind k_table_trigger_goes k_table_trigger_host) ht_table_compare at_table_compare (by kernel_rfl) (fun _ _ => trivial) (A := A_table_compare) (T := fun x => T_table_compare x.1 x.2.1) (fun x => T_table_compare_eq x.1 x.2.1) fun O w0 x _ _ =>
    gl_table_compare O w0 x.1 x.2.1

/-! ### Finding -/

theorem eqb_tEntry (x y : den tEntry) : eqb tEntry x y = decide (x = y) := by
  obtain ⟨a, b, c, ⟨⟩⟩ := x
  obtain ⟨a', b', c', ⟨⟩⟩ := y
  show (eqI a a' && (eqb tId b b' && (eqI c c' && true))) = _
  rw [eqb_tId, Bool.eq_iff_iff]
  simp [eqI, Prod.ext_iff]

theorem k_r12_is : FnOk prog [] n_r12_is S_r12_is :=
  fn_T d_r12_is ht_r12_is at_r12_is (by kernel_rfl) (fun _ _ => trivial) (A := A_r12_is) (T := fun x => T_r12_is x.1 x.2.1 x.2.2.1) (fun x => T_r12_is_eq x.1 x.2.1 x.2.2.1) fun O w0 x _ _ => ⟨_, rfl, by
    show (bif eqb tId x.1.1 x.2.1 then eqb tEntry x.1.2.1 x.2.2.1 else false, PUnit.unit) = (isIE x.1 x.2.1 x.2.2.1, ())
    rw [eqb_tId, eqb_tEntry, isIE]
    cases decide (x.1.1 = x.2.1) <;> rfl⟩

def gl_r12_Find (O : Nat → Prop) (w0 : World) (t : List (den tTrigger)) (id : den tId) (e : den tEntry) (ht : t.length ≤ 1000000) :=
  PLift.up <| range_good (P := prog) (D := D_r12_Find) (fn := f_r12_Find) (rs := rs_r12_Find) (O := O) (w0 := w0) (todo := lp f_r12_Find 2) (σ := Unit) t.length
    (fun i _ => E_r12_Find_2 t (lnx tTrigger t) i id e (zero tTrigger)) (fun _ _ => True)
    (fun i _ y => y = (g_Find (t.drop i) id e, ()))
    (fun i _ hi _ ih => good_T (d_r12_Find k_r12_is) ht_r12_Find (TL_r12_Find_2_eq t _ _ id e _) ⟨fun _ => by
      refine ⟨inB_of hi, trivial, ?_⟩
      rw [el_at hi, wr_idx hi (by omega), List.drop_eq_getElem_cons hi]
      refine ⟨fun h => ⟨_, rfl, ?_⟩, fun h => ?_⟩
      · show (t[i], ()) = (((t[i] :: t.drop (i + 1)).find? fun x => isIE x id e).getD noT, ())
        rw [List.find?_cons_of_pos (p := fun x => isIE x id e) h]; rfl
      · rw [g_Find, List.find?_cons_of_neg (p := fun x => isIE x id e) (by rw [h]; simp)]
        exact ih () trivial, fun h => by
      have h : ¬ (i : Int) < (t.length : Int) := of_decide_eq_false h
      omega⟩)
    (fun _ _ => good_T (d_r12_Find k_r12_is) ht_r12_Find (TL_r12_Find_2_eq t _ _ id e _) ⟨fun h => by
      have h : (t.length : Int) < (t.length : Int) := of_decide_eq_true h
      omega, fun _ => ⟨_, rfl, by rw [List.drop_length]; rfl⟩⟩)
theorem k_r12_Find : FnOk prog [] n_r12_Find S_r12_Find :=
  fn_T (d_r12_Find k_r12_is) ht_r12_Find at_r12_Find (by kernel_rfl) (fun h => by cases h) (A := A_r12_Find) (T := fun x => T_r12_Find x.1 x.2.1 x.2.2.1) (fun x => T_r12_Find_eq x.1 x.2.1 x.2.2.1) fun O w0 x _ hp =>
    (gl_r12_Find O w0 x.1 x.2.1 x.2.2.1 hp).down 0 () (Nat.zero_le _) trivial

def gl_r12_Without (O : Nat → Prop) (w0 : World) (t : List (den tTrigger)) (id : den tId) (e : den tEntry) (ht : t.length ≤ 1000000) :=
  PLift.up <| range_good (P := prog) (D := D_r12_Without) (fn := f_r12_Without) (rs := rs_r12_Without) (O := O) (w0 := w0) (todo := lp f_r12_Without 3) (σ := List (den tTrigger)) t.length
    (fun i s => E_r12_Without_3 t (lnx tTrigger t) i id e s) (fun i s => s.length ≤ i)
    (fun i s y => y = (s ++ g_Without (t.drop i) id e, ()))
    (fun i s hi hs ih => good_T (d_r12_Without k_r12_is) ht_r12_Without (TL_r12_Without_3_eq t _ _ id e s) ⟨fun _ => by
      refine ⟨inB_of hi, trivial, ?_⟩
      rw [el_at hi, wr_idx hi (by omega), List.drop_eq_getElem_cons hi]
      refine ⟨fun h => ⟨by simp [most]; omega, ?_⟩, fun h => ?_⟩
      · rw [g_Without, List.filter_cons, if_pos h]
        refine Good.mono (fun y hy => ?_) (ih (s ++ [t[i]]) (by simp; omega))
        rw [hy, List.append_assoc]; rfl
      · rw [g_Without, List.filter_cons, if_neg (by rw [h]; simp)]
        exact ih s (by omega), fun h => by
      have h : ¬ (i : Int) < (t.length : Int) := of_decide_eq_false h
      omega⟩)
    (fun s _ => good_T (d_r12_Without k_r12_is) ht_r12_Without (TL_r12_Without_3_eq t _ _ id e s) ⟨fun h => by
      have h : (t.length : Int) < (t.length : Int) := of_decide_eq_true h
      omega, fun _ => ⟨_, rfl, by rw [List.drop_length]; simp [g_Without]⟩⟩)
theorem k_r12_Without : FnOk prog [] n_r12_Without S_r12_Without :=
  fn_T (d_r12_Without k_r12_is) ht_r12_Without at_r12_Without (by kernel_rfl) (fun h => by cases h) (A := A_r12_Without) (T := fun x => T_r12_Without x.1 x.2.1 x.2.2.1) (fun x => T_r12_Without_eq x.1 x.2.1 x.2.2.1) fun O w0 x _ hp =>
    (gl_r12_Without O w0 x.1 x.2.1 x.2.2.1 hp).down 0 [] (Nat.zero_le _) (Nat.zero_le _)

/-! ### Putting in, by definition -/

def gl_r12_Put (O : Nat → Prop) (w0 : World) (t : List (den tTrigger)) (x : den tTrigger) (ht : t.length ≤ 1000000) :=
  PLift.up <| range_good (P := prog) (D := D_r12_Put) (fn := f_r12_Put) (rs := rs_r12_Put) (O := O) (w0 := w0) (todo := lp f_r12_Put 7) (σ := Bool × List (den tTrigger)) t.length
    (fun i s => E_r12_Put_7 s.1 t (lnx tTrigger t) i x s.2) (fun i s => s.2.length ≤ 2 * i)
    (fun i s y => y = (s.2 ++ (if s.1 then t.drop i else putD x (t.drop i)), decide ((s.2 ++ (if s.1 then t.drop i else putD x (t.drop i))).length ≤ 32), ()))
    (fun i s hi hs ih => good_T (d_r12_Put k_r12_Find k_r12_Without k_r12_Less) ht_r12_Put (TL_r12_Put_7_eq s.1 t _ _ x s.2) ⟨fun _ => by
      obtain ⟨d, s⟩ := s
      have hs : s.length ≤ 2 * i := hs
      have hb : (bif !d then g_Less x t[i] else false) = (!d && g_Less x t[i]) := by cases d <;> rfl
      refine ⟨inB_of hi, fun _ => trivial, ?_⟩
      rw [el_at hi, wr_idx hi (by omega), List.drop_eq_getElem_cons hi]
      refine ⟨fun h => ⟨by simp [most]; omega, by simp [most]; omega, ?_⟩, fun h => ⟨by simp [most]; omega, ?_⟩⟩
      · rw [hb, Bool.and_eq_true, Bool.not_eq_true'] at h
        refine Good.mono (fun y hy => ?_) (ih (true, s ++ [x] ++ [t[i]]) (by simp; omega))
        rw [hy]
        simp only [if_true, h.1, putD, h.2]
        simp
      · rw [hb] at h
        refine Good.mono (fun y hy => ?_) (ih (d, s ++ [t[i]]) (by simp; omega))
        rw [hy]
        cases d with
        | true => simp
        | false =>
          have h : g_Less x t[i] = false := by simpa using h
          simp [putD, h], fun h => by
      have h : ¬ (i : Int) < (t.length : Int) := of_decide_eq_false h
      omega⟩)
    (fun s hs => good_T (d_r12_Put k_r12_Find k_r12_Without k_r12_Less) ht_r12_Put (TL_r12_Put_7_eq s.1 t _ _ x s.2) ⟨fun h => by
      have h : (t.length : Int) < (t.length : Int) := of_decide_eq_true h
      omega, fun _ => by
        obtain ⟨d, s⟩ := s
        have hs : s.length ≤ 2 * t.length := hs
        have hl : ∀ l : List (den tTrigger), (decide (lnx tTrigger l ≤ 32)) = decide (l.length ≤ 32) := fun l => by
          rw [Bool.eq_iff_iff, decide_eq_true_eq, decide_eq_true_eq]
          exact ⟨fun h => by have h : (l.length : Int) ≤ 32 := h; omega, fun h => by show (l.length : Int) ≤ 32; omega⟩
        refine ⟨fun h => ⟨by simp [most]; omega, _, rfl, ?_⟩, fun h => ⟨_, rfl, ?_⟩⟩
        · have h : d = false := by simpa using h
          subst h
          show (s ++ [x], decide (lnx tTrigger (s ++ [x]) ≤ 32), PUnit.unit) = _
          rw [hl, List.drop_length]; rfl
        · have h : d = true := by simpa using h
          subst h
          show (s, decide (lnx tTrigger s ≤ 32), PUnit.unit) = _
          rw [hl, List.drop_length]; simp⟩)
theorem k_r12_Put : FnOk prog [] n_r12_Put S_r12_Put :=
  fn_T (d_r12_Put k_r12_Find k_r12_Without k_r12_Less) ht_r12_Put at_r12_Put (by kernel_rfl) (fun h => by cases h) (A := A_r12_Put) (T := fun x => T_r12_Put x.1 x.2.1) (fun x => T_r12_Put_eq x.1 x.2.1) fun O w0 x _ hp => by
    obtain ⟨t, x, ⟨⟩⟩ := x
    have hp : t.length ≤ 1000000 := hp
    have hw : (g_Without t x.1 x.2.1).length ≤ 1000000 := Nat.le_trans (List.length_filter_le _ _) hp
    refine ⟨hp, fun h => ⟨hp, ?_⟩, fun h => ⟨hp, ?_⟩⟩
    · have h := of_decide_eq_true h
      have e : lastT t x = (x.1, x.2.1, (g_Find t x.1 x.2.1).2.2.1, ()) := if_pos h
      refine Good.mono (fun y hy => ?_) ((gl_r12_Put O w0 (g_Without t x.1 x.2.1) (x.1, x.2.1, (g_Find t x.1 x.2.1).2.2.1, ()) hw).down 0 (false, []) (Nat.zero_le _) (Nat.zero_le _))
      have e2 : g_PutD t x = putD (lastT t x) (g_Without t x.1 x.2.1) := rfl
      rw [hy]
      show _ = (g_PutD t x, decide ((g_PutD t x).length ≤ 32), ())
      rw [e2, e]; rfl
    · have h := of_decide_eq_false h
      have e : lastT t x = x := if_neg h
      refine Good.mono (fun y hy => ?_) ((gl_r12_Put O w0 (g_Without t x.1 x.2.1) x hw).down 0 (false, []) (Nat.zero_le _) (Nat.zero_le _))
      have e2 : g_PutD t x = putD (lastT t x) (g_Without t x.1 x.2.1) := rfl
      rw [hy]
      show _ = (g_PutD t x, decide ((g_PutD t x).length ≤ 32), ())
      rw [e2, e]; rfl

theorem k_table_Cut_1 : FnOk prog [] n_table_Cut_1 S_table_Cut_1 :=
  fn_T (d_table_Cut_1 k_ident_In) ht_table_Cut_1 at_table_Cut_1 (by kernel_rfl) (fun _ _ => trivial) (A := A_table_Cut_1) (T := fun x => T_table_Cut_1 x.1 x.2.1 x.2.2.1) (fun x => T_table_Cut_1_eq x.1 x.2.1 x.2.2.1) fun O w0 x _ _ => ⟨trivial, _, rfl, rfl⟩

/-! ### Which tables may be -/

def gl_table_Right (O : Nat → Prop) (w0 : World) (t : List (den tTrigger)) (ht : t.length ≤ 1000000) :=
  PLift.up <| range_good (P := prog) (D := D_table_Right) (fn := f_table_Right) (rs := rs_table_Right) (O := O) (w0 := w0) (todo := lp f_table_Right 2) (σ := Unit) t.length
    (fun i _ => E_table_Right_2 t t (lnx tTrigger t) i) (fun i _ => True)
    (fun i _ y => y = (okFrom t i && decide (t.length ≤ 32), ()))
    (fun i s hi _ ih => good_T (d_table_Right k_table_may k_table_compare) ht_table_Right (TL_table_Right_2_eq t t _ _) ⟨fun _ => by
      have e1 : IntKind.wrap .i64 ((i : Int) - 1) = (i : Int) - 1 := small_i64 (by omega)
      have e2 : ∀ x y, decide (0 ≤ g_cmpT x y) = !g_Less x y := fun x y => by
        rw [g_Less, ← decide_not]; congr 1; exact propext (by omega)
      have hc : (bif !g_may (el tTrigger t (i : Nat)) then true else bif decide (0 < (i : Int)) then decide (0 ≤ g_cmpT (el tTrigger t (IntKind.wrap IntKind.i64 ((i : Int) - 1))) (el tTrigger t (i : Nat))) else false) = !okAt t i := by
        rw [e1, okAt, e2]
        cases g_may (el tTrigger t (i : Nat))
        · rfl
        · by_cases h : i = 0
          · simp [h]
          · have : (0 : Int) < (i : Int) := by omega
            rw [decide_eq_true this, decide_eq_false h]
            rfl
      refine ⟨inB_of hi, trivial, fun _ h => ?_, fun _ _ => trivial, ?_⟩
      · have h : (0 : Int) < (i : Int) := of_decide_eq_true h
        rw [e1]
        show 0 ≤ (i : Int) - 1 ∧ (i : Int) - 1 < (t.length : Int)
        omega
      · rw [hc, wr_idx hi (by omega)]
        refine ⟨fun h => ⟨_, rfl, ?_⟩, fun h => ?_⟩
        · rw [okFrom_step hi]
          have : okAt t i = false := by simpa using h
          rw [this]; rfl
        · refine Good.mono (fun y hy => ?_) (ih () trivial)
          have : okAt t i = true := by simpa using h
          rw [hy, okFrom_step hi, this, Bool.true_and], fun h => by
      have h : ¬ (i : Int) < (t.length : Int) := of_decide_eq_false h
      omega⟩)
    (fun s _ => good_T (d_table_Right k_table_may k_table_compare) ht_table_Right (TL_table_Right_2_eq t t _ _) ⟨fun h => by
      have h : (t.length : Int) < (t.length : Int) := of_decide_eq_true h
      omega, fun _ => ⟨_, rfl, by
        rw [okFrom_end]
        have : (lnx tTrigger t ≤ 32) ↔ t.length ≤ 32 := ⟨fun h => by have h : (t.length : Int) ≤ 32 := h; omega, fun h => by show (t.length : Int) ≤ 32; omega⟩
        simp [this]⟩⟩)
theorem k_table_Right : FnOk prog [] n_table_Right S_table_Right :=
  fn_T (d_table_Right k_table_may k_table_compare) ht_table_Right at_table_Right (by kernel_rfl) (fun h => by cases h) (A := A_table_Right) (T := fun x => T_table_Right x.1) (fun x => T_table_Right_eq x.1) fun O w0 x _ hp =>
    (gl_table_Right O w0 x.1 hp).down 0 () (Nat.zero_le _) trivial

/-! ### Halving -/

theorem half_of {i j : Nat} (h : i + j ≤ 4000000) : IntKind.wrap .i64 (Int.fdiv (IntKind.wrap .u64 (IntKind.wrap .i64 ((i : Int) + (j : Int)))) (2 ^ min (Int.toNat 1) (IntKind.bits .u64))) = (((i + j) / 2 : Nat) : Int) := by
  have e0 : (2 : Int) ^ min (Int.toNat 1) (IntKind.bits .u64) = 2 := by decide
  rw [e0, small_i64 (n := (i : Int) + (j : Int)) (by omega)]
  have e1 : IntKind.wrap .u64 ((i : Int) + (j : Int)) = (i : Int) + (j : Int) := by
    unfold IntKind.wrap
    simp only [IntKind.signed, IntKind.bits]
    simp
    omega
  have e2 : Int.fdiv ((i : Int) + (j : Int)) 2 = (((i + j) / 2 : Nat) : Int) := by
    rw [Int.fdiv_eq_ediv_of_nonneg _ (by decide)]; omega
  rw [e1, e2, small_i64 (by omega)]

theorem halve_range (c : Nat → Int) : ∀ (k i j : Nat), i ≤ j → i ≤ halve c k i j ∧ halve c k i j ≤ j
  | 0, i, j, h => ⟨Nat.le_refl _, h⟩
  | k + 1, i, j, h => by
    unfold halve
    split
    · split
      · have := halve_range c k ((i + j) / 2 + 1) j (by omega); omega
      · have := halve_range c k i ((i + j) / 2) (by omega); omega
    · exact ⟨Nat.le_refl _, h⟩

theorem gl_slices_BinarySearchFunc_Trigger (O : Nat → Prop) (w0 : World) (t : List (den tTrigger)) (x : den tTrigger) (f : den cmpF) (ht : t.length ≤ 1000000) (hf : isFn (a := .pair tTrigger (.pair tTrigger .unit)) (r := .pair (.int .i64) .unit) f) : ∀ (k i j : Nat), i ≤ j → j ≤ t.length → j - i ≤ k →
    Good prog D_slices_BinarySearchFunc_Trigger O w0 f_slices_BinarySearchFunc_Trigger (Ends prog O w0 rs_slices_BinarySearchFunc_Trigger fun y => y = (((halve (fun n => cmpB f (el tTrigger t (n : Nat)) x) k i j : Nat) : Int),
      decide (halve (fun n => cmpB f (el tTrigger t (n : Nat)) x) k i j < t.length) && decide (cmpB f (el tTrigger t (halve (fun n => cmpB f (el tTrigger t (n : Nat)) x) k i j : Nat)) x = 0), ()))
      (lp f_slices_BinarySearchFunc_Trigger 3) (E_slices_BinarySearchFunc_Trigger_3 t f (lnx tTrigger t) (i : Nat) (j : Nat) x) := by
  intro k
  have done : ∀ i j : Nat, j ≤ i → i ≤ t.length → Good prog D_slices_BinarySearchFunc_Trigger O w0 f_slices_BinarySearchFunc_Trigger (Ends prog O w0 rs_slices_BinarySearchFunc_Trigger fun y => y = (((i : Nat) : Int), decide (i < t.length) && decide (cmpB f (el tTrigger t (i : Nat)) x = 0), ()))
      (lp f_slices_BinarySearchFunc_Trigger 3) (E_slices_BinarySearchFunc_Trigger_3 t f (lnx tTrigger t) (i : Nat) (j : Nat) x) := fun i j hj hi => by
    refine good_T d_slices_BinarySearchFunc_Trigger ht_slices_BinarySearchFunc_Trigger (TL_slices_BinarySearchFunc_Trigger_3_eq t f _ _ _ x) ⟨fun h => ?_, fun h => ⟨fun h => ?_, fun _ => hf, _, rfl, ?_⟩⟩
    · have h : (i : Int) < (j : Int) := of_decide_eq_true h
      omega
    · have h : (i : Int) < (t.length : Int) := of_decide_eq_true h
      exact inB_of (by omega)
    · have e : (decide (((i : Nat) : Int) < lnx tTrigger t)) = decide (i < t.length) := by
        rw [Bool.eq_iff_iff, decide_eq_true_eq, decide_eq_true_eq]
        exact ⟨fun h => by have h : (i : Int) < (t.length : Int) := h; omega, fun h => by show (i : Int) < (t.length : Int); omega⟩
      show (_, (bif decide (((i : Nat) : Int) < lnx tTrigger t) then decide (cmpB f (el tTrigger t (i : Nat)) x = 0) else false), PUnit.unit) = _
      rw [e]
      cases decide (i < t.length) <;> rfl
  induction k with
  | zero =>
    intro i j h1 h2 h3
    exact done i j (by omega) (by omega)
  | succ k ih =>
    intro i j h1 h2 h3
    by_cases hlt : i < j
    · have hm := half_of (i := i) (j := j) (by omega)
      have hmt : (i + j) / 2 < t.length := by omega
      unfold halve
      rw [if_pos hlt]
      refine good_T d_slices_BinarySearchFunc_Trigger ht_slices_BinarySearchFunc_Trigger (TL_slices_BinarySearchFunc_Trigger_3_eq t f _ _ _ x) ⟨fun _ => ⟨show (0 : Int) ≤ 1 by decide, ?_, hf, ?_⟩, fun h => ?_⟩
      · rw [hm]; exact inB_of hmt
      · rw [hm]
        refine ⟨fun h => ?_, fun h => ?_⟩
        · have h : cmpB f (el tTrigger t ((i + j) / 2 : Nat)) x < 0 := of_decide_eq_true h
          rw [if_pos h, small_i64 (by omega)]
          exact ih ((i + j) / 2 + 1) j (by omega) h2 (by omega)
        · have h : ¬ cmpB f (el tTrigger t ((i + j) / 2 : Nat)) x < 0 := of_decide_eq_false h
          rw [if_neg h]
          exact ih i ((i + j) / 2) (by omega) (by omega) (by omega)
      · have h : ¬ (i : Int) < (j : Int) := of_decide_eq_false h
        omega
    · unfold halve
      rw [if_neg hlt]
      exact done i j (by omega) (by omega)
theorem k_slices_BinarySearchFunc_Trigger : FnOk prog [] n_slices_BinarySearchFunc_Trigger S_slices_BinarySearchFunc_Trigger :=
  fn_T d_slices_BinarySearchFunc_Trigger ht_slices_BinarySearchFunc_Trigger at_slices_BinarySearchFunc_Trigger (by kernel_rfl) (fun h => by cases h) (A := A_slices_BinarySearchFunc_Trigger) (T := fun x => T_slices_BinarySearchFunc_Trigger x.1 x.2.1 x.2.2.1) (fun x => T_slices_BinarySearchFunc_Trigger_eq x.1 x.2.1 x.2.2.1) fun O w0 x _ hp =>
    gl_slices_BinarySearchFunc_Trigger O w0 x.1 x.2.1 x.2.2.1 hp.1 hp.2 x.1.length 0 x.1.length (Nat.zero_le _) (Nat.le_refl _) (Nat.le_refl _)

end Go.Proofs.Ytnccacngedeoeaa

/- Tables: put, dropped from, those that live, that match, cut. -/
namespace Go.Proofs.Ytnccacngedeoeaa
open Go Go.RowKit

theorem range_ind {σ : Type} (n : Nat) (Inv : Nat → σ → Prop) (Q : Nat → σ → Prop) (step : ∀ i s, i < n → Inv i s → (∀ s', Inv (i + 1) s' → Q (i + 1) s') → Q i s) (last : ∀ s, Inv n s → Q n s) : ∀ (i : Nat) (s : σ), i ≤ n → Inv i s → Q i s := by
  intro i s hi
  obtain ⟨k, hk⟩ : ∃ k, k + i = n := ⟨n - i, by omega⟩
  induction k generalizing i s with
  | zero =>
    have e : i = n := by omega
    subst e
    exact last s
  | succ k ih =>
    intro hI
    exact step i s (by omega) hI fun s' h' => ih (i + 1) s' (by omega) (by omega) h'

theorem lnx_nat {e : Ty} (t : List (den e)) {i : Nat} : (decide ((i : Int) < lnx e t)) = decide (i < t.length) := by
  rw [Bool.eq_iff_iff, decide_eq_true_eq, decide_eq_true_eq]
  exact ⟨fun h => by have h : (i : Int) < (t.length : Int) := h; omega, fun h => by show (i : Int) < (t.length : Int); omega⟩

theorem vok_all (n : Nat) : vok 0 n n := by unfold vok; omega

theorem findB_le (c : den tTrigger → Int) (t : List (den tTrigger)) : findB c t ≤ t.length := (halve_range _ t.length 0 t.length (Nat.zero_le _)).2
theorem atB_le (t : List (den tTrigger)) (x : den tTrigger) : atB t x ≤ t.length := findB_le _ _
theorem thereB_lt {t : List (den tTrigger)} {x : den tTrigger} (h : thereB t x = true) : atB t x < t.length := by
  unfold thereB isB at h
  rw [Bool.and_eq_true, decide_eq_true_eq] at h
  exact h.1

theorem k_table_Put : FnOk prog [] n_table_Put S_table_Put :=
  fnS_T (S := S_table_Put) (x_table_Put k_table_Right k_table_may k_slices_BinarySearchFunc_Trigger k_table_compare ok_slices_Clone_Trigger ok_slices_Insert_Trigger) (fx := fx_table_Put) at_table_Put (by kernel_rfl) (fun h => by cases h) (T := fun x => T_table_Put x.1 x.2.1) (fun x => T_table_Put_eq x.1 x.2.1) fun O w0 x hk hp => by
    obtain ⟨t, x, ⟨⟩⟩ := x
    have hp : t.length ≤ 1000000 := hp
    have hm : t.length ≤ most := Nat.le_trans hp (by decide)
    have e0 : vpart tTrigger t 0 t.length = t := vpart_all t rfl
    refine ⟨hp, fun _ => trivial, fun h => ⟨_, rfl, ?_⟩, fun h => ⟨⟨hp, _, rfl⟩, fun h1 => ⟨hm, ?_, ?_, ?_, ?_, _, rfl, ?_⟩, fun h1 => ⟨fun h2 => ⟨_, rfl, ?_⟩, fun h2 => ⟨hm, vok_all _, ⟨Int.natCast_nonneg _, ?_, ?_⟩, _, rfl, ?_⟩⟩⟩⟩
    · have : g_Put t x = ([], 1) := by
        unfold g_Put
        rw [if_neg (fun h' => ?_)]
        rw [Bool.and_eq_true] at h'
        rw [h'.1, h'.2] at h
        cases h
      show (([] : List (den tTrigger)), (1 : Int), ()) = ((g_Put t x).1, (g_Put t x).2, ())
      rw [this]
    all_goals
      have hr : (g_Right t && g_may x) = true := by
        cases hR : g_Right t
        · rw [hR] at h; cases h
        · cases hM : g_may x
          · rw [hR, hM] at h; cases h
          · rfl
    · exact inB_of (thereB_lt h1)
    · exact inB_of (thereB_lt h1)
    · exact inB_of (thereB_lt h1)
    · exact inB_of (thereB_lt h1)
    · have h1 : thereB t x = true := h1
      have : g_Put t x = (t.set (atB t x) (untilT (el tTrigger t (atB t x : Nat)) (maxI (el tTrigger t (atB t x : Nat)).2.2.1 x.2.2.1)), 0) := by
        unfold g_Put; rw [if_pos hr, if_pos h1]
      show (_, (0 : Int), ()) = ((g_Put t x).1, (g_Put t x).2, ())
      rw [this]; rfl
    · have h1 : thereB t x = false := h1
      have h2 : t.length = 32 := by have h2 : (t.length : Int) = 32 := of_decide_eq_true h2; omega
      have : g_Put t x = ([], 8) := by
        unfold g_Put; rw [if_pos hr, if_neg (by rw [h1]; simp), if_pos h2]
      show (([] : List (den tTrigger)), (8 : Int), ()) = ((g_Put t x).1, (g_Put t x).2, ())
      rw [this]
    · rw [e0]; exact Int.ofNat_le.2 (atB_le t x)
    · rw [e0]; show t.length + 1 ≤ 1073741824; omega
    · have h1 : thereB t x = false := h1
      have h2 : ¬ t.length = 32 := by
        intro e
        have h2 : ¬ (t.length : Int) = 32 := of_decide_eq_false h2
        omega
      have : g_Put t x = (putIn t (atB t x) [x], 0) := by
        unfold g_Put; rw [if_pos hr, if_neg (by rw [h1]; simp), if_neg h2]
      show (putIn (vpart tTrigger t 0 t.length) (atB t x) [x], (0 : Int), ()) = ((g_Put t x).1, (g_Put t x).2, ())
      rw [this, e0]

theorem k_table_Drop : FnOk prog [] n_table_Drop S_table_Drop :=
  fnS_T (S := S_table_Drop) (x_table_Drop k_table_Right k_slices_BinarySearchFunc_Trigger k_table_compare ok_slices_Clone_Trigger ok_slices_Delete_Trigger) (fx := fx_table_Drop) at_table_Drop (by kernel_rfl) (fun h => by cases h) (T := fun x => T_table_Drop x.1 x.2.1 x.2.2.1) (fun x => T_table_Drop_eq x.1 x.2.1 x.2.2.1) fun O w0 x hk hp => by
    obtain ⟨t, id, e, ⟨⟩⟩ := x
    have hp : t.length ≤ 1000000 := hp
    have hm : t.length ≤ most := Nat.le_trans hp (by decide)
    have e0 : vpart tTrigger t 0 t.length = t := vpart_all t rfl
    refine ⟨hp, fun h => ⟨_, rfl, ?_⟩, fun h => ⟨⟨hp, _, rfl⟩, fun h1 => ⟨_, rfl, ?_⟩, fun h1 => ⟨hm, vok_all _, ⟨Int.natCast_nonneg _, ?_, ?_⟩, _, rfl, ?_⟩⟩⟩
    · have hr : g_Right t = false := by simpa using h
      have : g_Drop t id e = ([], 1) := by unfold g_Drop; rw [if_neg (by rw [hr]; simp)]
      show (([] : List (den tTrigger)), (1 : Int), ()) = ((g_Drop t id e).1, (g_Drop t id e).2, ())
      rw [this]
    all_goals have hr : g_Right t = true := by simpa using h
    · have h1 : thereB t (keyTr id e) = false := by
        have h1 : (!thereB t (keyTr id e)) = true := h1
        simpa using h1
      have : g_Drop t id e = ([], 6) := by unfold g_Drop; rw [if_pos hr, if_neg (by rw [h1]; simp)]
      show (([] : List (den tTrigger)), (6 : Int), ()) = ((g_Drop t id e).1, (g_Drop t id e).2, ())
      rw [this]
    all_goals
      have h1 : thereB t (keyTr id e) = true := by
        have h1 : (!thereB t (keyTr id e)) = false := h1
        simpa using h1
      have hlt := thereB_lt h1
      have e1 : IntKind.wrap .i64 (((atB t (keyTr id e) : Nat) : Int) + 1) = ((atB t (keyTr id e) + 1 : Nat) : Int) := wr_idx hlt (by omega)
    · show ((atB t (keyTr id e) : Nat) : Int) ≤ IntKind.wrap .i64 (((atB t (keyTr id e) : Nat) : Int) + 1)
      rw [e1]; omega
    · show IntKind.wrap .i64 (((atB t (keyTr id e) : Nat) : Int) + 1) ≤ ((vpart tTrigger t 0 t.length).length : Int)
      rw [e1, e0]; omega
    · have : g_Drop t id e = (t.take (atB t (keyTr id e)) ++ t.drop (atB t (keyTr id e) + 1), 0) := by unfold g_Drop; rw [if_pos hr, if_pos h1]
      show ((vpart tTrigger t 0 t.length).take (atB t (keyTr id e)) ++ (vpart tTrigger t 0 t.length).drop (IntKind.wrap .i64 (((atB t (keyTr id e) : Nat) : Int) + 1)).toNat, (0 : Int), ()) = ((g_Drop t id e).1, (g_Drop t id e).2, ())
      rw [this, e0, e1]; rfl

theorem k_table_Expire : FnOk prog [] n_table_Expire S_table_Expire :=
  fnS_T (S := S_table_Expire) (x_table_Expire k_table_Right k_table_Expire_1 k_table_parted_Trigger) (fx := fx_table_Expire) at_table_Expire (by kernel_rfl) (fun h => by cases h) (T := fun x => T_table_Expire x.1 x.2.1) (fun x => T_table_Expire_eq x.1 x.2.1) fun O w0 x hk hp => by
    obtain ⟨t, now, ⟨⟩⟩ := x
    have hp : t.length ≤ 1000000 := hp
    refine ⟨hp, fun h => ⟨_, rfl, ?_⟩, fun h => ⟨fun _ => trivial, ⟨hp, _, rfl⟩, _, rfl, ?_⟩⟩
    · have hr : g_Right t = false := by simpa using h
      have : g_TExpire t now = ([], 1) := by unfold g_TExpire; rw [if_neg (by rw [hr]; simp)]
      show (([] : List (den tTrigger)), (1 : Int), ()) = ((g_TExpire t now).1, (g_TExpire t now).2, ())
      rw [this]
    · have hr : g_Right t = true := by simpa using h
      have : g_TExpire t now = (g_Expire t now, 0) := by unfold g_TExpire; rw [if_pos hr]
      show (t.filter (fun y => !decide ((y.2.2.1 : Int) ≤ now)), (0 : Int), ()) = ((g_TExpire t now).1, (g_TExpire t now).2, ())
      rw [this]
      have : (fun y : den tTrigger => !decide ((y.2.2.1 : Int) ≤ now)) = fun y => decide ((now : Int) < y.2.2.1) := by
        funext y
        rw [← decide_not]; congr 1; exact propext Int.not_le
      rw [this]; rfl

theorem k_table_Cut : FnOk prog [] n_table_Cut S_table_Cut :=
  fnS_T (S := S_table_Cut) (x_table_Cut k_table_Right k_table_Cut_1 k_table_parted_Trigger) (fx := fx_table_Cut) at_table_Cut (by kernel_rfl) (fun h => by cases h) (T := fun x => T_table_Cut x.1 x.2.1 x.2.2.1) (fun x => T_table_Cut_eq x.1 x.2.1 x.2.2.1) fun O w0 x hk hp => by
    obtain ⟨t, a, b, ⟨⟩⟩ := x
    have hp : t.length ≤ 1000000 := hp
    refine ⟨hp, fun h => ⟨_, rfl, ?_⟩, fun h => ⟨fun _ => trivial, ⟨hp, _, rfl⟩, _, rfl, ?_⟩⟩
    · have hr : g_Right t = false := by simpa using h
      have : g_Cut t a b = ([], [], 1) := by unfold g_Cut; rw [if_neg (by rw [hr]; simp)]
      show (([] : List (den tTrigger)), ([] : List (den tTrigger)), (1 : Int), ()) = ((g_Cut t a b).1, (g_Cut t a b).2.1, (g_Cut t a b).2.2, ())
      rw [this]
    · have hr : g_Right t = true := by simpa using h
      have : g_Cut t a b = (t.filter (fun x => g_In x.1 a b), t.filter (fun x => !g_In x.1 a b), 0) := by unfold g_Cut; rw [if_pos hr]
      show (t.filter (fun x => g_In x.1 a b), t.filter (fun x => !g_In x.1 a b), (0 : Int), ()) = ((g_Cut t a b).1, (g_Cut t a b).2.1, (g_Cut t a b).2.2, ())
      rw [this]

def gl_table_Match (O : Nat → Prop) (w0 : World) (t : List (den tTrigger)) (id : den tId) (ht : t.length ≤ 1000000) :=
  PLift.up <| range_ind (σ := Int × den tId) t.length (fun _ _ => True)
    (fun i s => GoodS prog X_table_Match (Cx.base O w0) (Ends prog O w0 rs_table_Match fun y => y = ((if (likest id (t.drop i) s.1 s.2).1 < 128 then ([] : List (den tTrigger)) else t.filter fun x => decide (x.1 = (likest id (t.drop i) s.1 s.2).2)), (if (likest id (t.drop i) s.1 s.2).1 < 128 then (6 : Int) else 0), ())) [] fx_table_Match (lp f_table_Match 5) (E_table_Match_5 t s.1 t (lnx tTrigger t) (i : Nat) id s.2))
    (fun i s hi _ ih => goodS_of (x_table_Match k_table_Right k_table_Match_1 k_table_parted_Trigger k_ident_Common) (TL_table_Match_5_eq t s.1 t _ _ id s.2) (by
      refine ⟨fun _ => ⟨inB_of hi, trivial, ?_⟩, fun h => ?_⟩
      · rw [el_at hi, wr_idx hi (by omega), List.drop_eq_getElem_cons hi]
        refine ⟨fun h => ?_, fun h => ?_⟩
        · have h : s.1 < g_Common t[i].1 id := of_decide_eq_true h
          rw [likest, if_pos h]
          exact ih (g_Common t[i].1 id, t[i].1) trivial
        · have h : ¬ s.1 < g_Common t[i].1 id := of_decide_eq_false h
          rw [likest, if_neg h]
          exact ih s trivial
      · rw [lnx_nat] at h
        exact absurd hi (of_decide_eq_false h)))
    (fun s _ => goodS_of (x_table_Match k_table_Right k_table_Match_1 k_table_parted_Trigger k_ident_Common) (TL_table_Match_5_eq t s.1 t _ _ id s.2) (by
      rw [List.drop_length]
      refine ⟨fun h => ?_, fun _ => ⟨fun h => ⟨_, rfl, ?_⟩, fun h => ⟨fun _ => trivial, ⟨ht, _, rfl⟩, _, rfl, ?_⟩⟩⟩
      · rw [lnx_nat] at h
        exact absurd (of_decide_eq_true h) (Nat.lt_irrefl _)
      · have h : s.1 < 128 := of_decide_eq_true h
        rw [likest, if_pos h, if_pos h]
      · have h : ¬ s.1 < 128 := of_decide_eq_false h
        rw [likest, if_neg h, if_neg h]
        rfl))

theorem k_table_Match : FnOk prog [] n_table_Match S_table_Match :=
  fnS_T (S := S_table_Match) (x_table_Match k_table_Right k_table_Match_1 k_table_parted_Trigger k_ident_Common) (fx := fx_table_Match) at_table_Match (by kernel_rfl) (fun h => by cases h) (T := fun x => T_table_Match x.1 x.2.1) (fun x => T_table_Match_eq x.1 x.2.1) fun O w0 x hk hp => by
    obtain ⟨t, id, ⟨⟩⟩ := x
    have hp : t.length ≤ 1000000 := hp
    refine ⟨hp, fun h => ⟨_, rfl, ?_⟩, fun h => ?_⟩
    · have hr : g_Right t = false := by simpa using h
      have : g_Match t id = ([], 1) := by unfold g_Match; rw [if_neg (by rw [hr]; simp)]
      show (([] : List (den tTrigger)), (1 : Int), ()) = ((g_Match t id).1, (g_Match t id).2, ())
      rw [this]
    · have hr : g_Right t = true := by simpa using h
      have := (gl_table_Match O w0 t id hp).down 0 (127, zero tId) (Nat.zero_le _) trivial
      have e : ((if (likest id t 127 (zero tId)).1 < 128 then ([] : List (den tTrigger)) else t.filter fun x => decide (x.1 = (likest id t 127 (zero tId)).2)), (if (likest id t 127 (zero tId)).1 < 128 then (6 : Int) else 0), ()) = ((g_Match t id).1, (g_Match t id).2, ()) := by
        unfold g_Match
        rw [if_pos hr]
        split <;> rfl
      have this : GoodS prog X_table_Match (Cx.base O w0) (Ends prog O w0 rs_table_Match fun y => y = ((if (likest id t 127 (zero tId)).1 < 128 then ([] : List (den tTrigger)) else t.filter fun x => decide (x.1 = (likest id t 127 (zero tId)).2)), (if (likest id t 127 (zero tId)).1 < 128 then (6 : Int) else 0), ())) [] fx_table_Match (lp f_table_Match 5) (E_table_Match_5 t 127 t (lnx tTrigger t) (0 : Nat) id (zero tId)) := this
      rw [e] at this
      exact this

end Go.Proofs.Ytnccacngedeoeaa

/- Stacks and packets: contracts. -/
namespace Go.Proofs.Ytnccacngedeoeaa
open Go Go.RowKit

theorem all_step {l : List Ent} {i : Nat} (hi : i < l.length) (h : g_all (l.take i) = true) : g_all (l.take (i + 1)) = g_Is l[i] := by
  unfold g_all at h ⊢
  rw [List.take_succ_eq_append_getElem hi, List.all_append, h, List.all_cons, List.all_nil, Bool.and_true, Bool.true_and]
theorem all_not {l : List Ent} {i : Nat} (hi : i < l.length) (h : g_Is l[i] = false) : g_all l = false := by
  unfold g_all
  rw [List.all_eq_false]
  exact ⟨l[i], List.getElem_mem hi, by rw [h]; simp⟩

def gl_stack_all (O : Nat → Prop) (w0 : World) (l : List Ent) (hl : l.length ≤ 1000000) :=
  PLift.up <| range_ind (σ := Unit) l.length (fun i _ => g_all (l.take i) = true)
    (fun i _ => GoodS prog X_stack_all (Cx.base O w0) (Ends prog O w0 rs_stack_all fun y => y = (g_all l, ())) (Q_stack_all_slices_IndexFunc_Entry_2 l (lnx tEntry l) (i : Nat)) fx_slices_IndexFunc_Entry (lp f_slices_IndexFunc_Entry 2) (E_stack_all_slices_IndexFunc_Entry_2 l (lnx tEntry l) (i : Nat)))
    (fun i s hi hb ih => goodS_of (x_stack_all k_stack_Is) (TL_stack_all_slices_IndexFunc_Entry_2_eq l _ _) (by
      refine ⟨fun _ => ⟨inB_of hi, trivial, fun h => ⟨_, rfl, ?_⟩, fun h => ?_⟩, fun h => ?_⟩
      · rw [el_at hi] at h
        have h1 : g_Is l[i] = false := by simpa using h
        rw [all_not hi h1, decide_eq_true (Int.natCast_nonneg i)]
        rfl
      · rw [el_at hi] at h
        rw [wr_idx hi (by omega)]
        refine ih () ?_
        rw [all_step hi hb]
        simpa using h
      · rw [lnx_nat] at h
        exact absurd hi (of_decide_eq_false h)))
    (fun s hb => goodS_of (x_stack_all k_stack_Is) (TL_stack_all_slices_IndexFunc_Entry_2_eq l _ _) (by
      refine ⟨fun h => ?_, fun _ => ⟨_, rfl, ?_⟩⟩
      · rw [lnx_nat] at h
        exact absurd (of_decide_eq_true h) (Nat.lt_irrefl _)
      · rw [List.take_length] at hb
        rw [hb]
        rfl))
theorem k_stack_all : FnOk prog [] n_stack_all S_stack_all :=
  fnS_T (S := S_stack_all) (x_stack_all k_stack_Is) (fx := fx_stack_all) at_stack_all (by kernel_rfl) (fun h => by cases h) (T := fun x => T_stack_all x.1) (fun x => T_stack_all_eq x.1) fun O w0 x _ hp =>
    (gl_stack_all O w0 x.1 hp).down 0 () (Nat.zero_le _) rfl

def gl_r04_All (O : Nat → Prop) (w0 : World) (l : List Ent) (hl : l.length ≤ 1000000) :=
  PLift.up <| range_ind (σ := Unit) l.length (fun i _ => g_all (l.take i) = true)
    (fun i _ => GoodS prog X_r04_All (Cx.base O w0) (Ends prog O w0 rs_r04_All fun y => y = (g_all l, ())) [] fx_r04_All (lp f_r04_All 2) (E_r04_All_2 l (lnx tEntry l) (i : Nat)))
    (fun i s hi hb ih => goodS_of (x_r04_All k_r04_Is) (TL_r04_All_2_eq l _ _) (by
      refine ⟨fun _ => ⟨inB_of hi, trivial, fun h => ⟨_, rfl, ?_⟩, fun h => ?_⟩, fun h => ?_⟩
      · rw [el_at hi] at h
        have h1 : g_Is l[i] = false := by simpa using h
        rw [all_not hi h1]
      · rw [el_at hi] at h
        rw [wr_idx hi (by omega)]
        refine ih () ?_
        rw [all_step hi hb]
        simpa using h
      · rw [lnx_nat] at h
        exact absurd hi (of_decide_eq_false h)))
    (fun s hb => goodS_of (x_r04_All k_r04_Is) (TL_r04_All_2_eq l _ _) (by
      refine ⟨fun h => ?_, fun _ => ⟨_, rfl, ?_⟩⟩
      · rw [lnx_nat] at h
        exact absurd (of_decide_eq_true h) (Nat.lt_irrefl _)
      · rw [List.take_length] at hb
        rw [hb]))
theorem k_r04_All : FnOk prog [] n_r04_All S_r04_All :=
  fnS_T (S := S_r04_All) (x_r04_All k_r04_Is) (fx := fx_r04_All) at_r04_All (by kernel_rfl) (fun h => by cases h) (T := fun x => T_r04_All x.1) (fun x => T_r04_All_eq x.1) fun O w0 x _ hp =>
    (gl_r04_All O w0 x.1 hp).down 0 () (Nat.zero_le _) rfl

theorem right_of (l : List Ent) {a b : Bool} (ha : a = decide (1 ≤ l.length)) (hb : b = decide (l.length ≤ 4)) : (bif bif a then b else false then g_all l else false) = g_stackRight l := by
  unfold g_stackRight
  rw [ha, hb]
  cases decide (1 ≤ l.length) <;> cases decide (l.length ≤ 4) <;> cases g_all l <;> rfl
theorem len_dec (l : List Ent) : decide ((1 : Int) ≤ lnx tEntry l) = decide (1 ≤ l.length) ∧ decide (lnx tEntry l ≤ 4) = decide (l.length ≤ 4) ∧ decide ((0 : Int) < lnx tEntry l) = decide (1 ≤ l.length) ∧ decide (lnx tEntry l < 5) = decide (l.length ≤ 4) := by
  have h : lnx tEntry l = (l.length : Int) := rfl
  rw [h]
  refine ⟨?_, ?_, ?_, ?_⟩ <;> (rw [Bool.eq_iff_iff, decide_eq_true_eq, decide_eq_true_eq]; omega)
theorem k_stack_Right : FnOk prog [] n_stack_Right S_stack_Right :=
  fnS_T (S := S_stack_Right) (x_stack_Right k_stack_all) (fx := fx_stack_Right) at_stack_Right (by kernel_rfl) (fun h => by cases h) (T := fun x => T_stack_Right x.1) (fun x => T_stack_Right_eq x.1) fun O w0 x _ hp =>
    ⟨fun _ => hp, _, rfl, Prod.ext (right_of x.1 (len_dec x.1).1 (len_dec x.1).2.1) rfl⟩
theorem k_r04_Right : FnOk prog [] n_r04_Right S_r04_Right :=
  fnS_T (S := S_r04_Right) (x_r04_Right k_r04_All) (fx := fx_r04_Right) at_r04_Right (by kernel_rfl) (fun h => by cases h) (T := fun x => T_r04_Right x.1) (fun x => T_r04_Right_eq x.1) fun O w0 x _ hp =>
    ⟨fun _ => hp, _, rfl, Prod.ext (right_of x.1 (len_dec x.1).2.2.1 (len_dec x.1).2.2.2) rfl⟩

theorem pright_of (p : Pk) : (bif bif bif g_stackRight p.1 then decide ((0 : Int) ≤ p.2.1) else false then decide ((p.2.1 : Int) ≤ 64) else false then decide (sLen p.2.2.1 ≤ 64) else false) = g_packetRight p := by
  unfold g_packetRight
  have h : decide (sLen p.2.2.1 ≤ 64) = decide (ByteArray.size p.2.2.1 ≤ 64) := by
    rw [Bool.eq_iff_iff, decide_eq_true_eq, decide_eq_true_eq]
    unfold sLen
    omega
  rw [h]
  cases g_stackRight p.1 <;> cases decide ((0 : Int) ≤ p.2.1) <;> cases decide ((p.2.1 : Int) ≤ 64) <;> cases decide (ByteArray.size p.2.2.1 ≤ 64) <;> rfl
theorem k_rewrite_Right : FnOk prog [] n_rewrite_Right S_rewrite_Right :=
  fnS_T (S := S_rewrite_Right) (x_rewrite_Right k_stack_Right) (fx := fx_rewrite_Right) at_rewrite_Right (by kernel_rfl) (fun h => by cases h) (T := fun x => T_rewrite_Right x.1) (fun x => T_rewrite_Right_eq x.1) fun O w0 x _ hp =>
    ⟨hp, _, rfl, Prod.ext (pright_of x.1) rfl⟩
theorem k_r13_Right : FnOk prog [] n_r13_Right S_r13_Right :=
  fnS_T (S := S_r13_Right) (x_r13_Right k_r04_Right) (fx := fx_r13_Right) at_r13_Right (by kernel_rfl) (fun h => by cases h) (T := fun x => T_r13_Right x.1) (fun x => T_r13_Right_eq x.1) fun O w0 x _ hp =>
    ⟨hp, _, rfl, Prod.ext (pright_of x.1) rfl⟩
theorem k_rewrite_dead : FnOk prog [] n_rewrite_dead S_rewrite_dead :=
  fnS_T (S := S_rewrite_dead) x_rewrite_dead (fx := fx_rewrite_dead) at_rewrite_dead (by kernel_rfl) (fun _ _ => trivial) (T := fun x => T_rewrite_dead x.1) (fun x => T_rewrite_dead_eq x.1) fun O w0 x _ _ =>
    ⟨_, rfl, rfl⟩

/-! ### Push -/

theorem gl_Push_2 (O : Nat → Prop) (w0 : World) (l front : List Ent) (hl : l.length + front.length ≤ 4) :
    GoodS prog X_stack_Push (Cx.base O w0) (Ends prog O w0 rs_stack_Push fun y => y = (front ++ l, 0, ())) (Q_stack_Push_slices_Concat_Entry_11 [front, l] 2 0 []) fx_slices_Concat_Entry (lp f_slices_Concat_Entry 11) (E_stack_Push_slices_Concat_Entry_11 [front, l] 2 0 []) :=
  goodS_of (x_stack_Push k_stack_all) (TL_stack_Push_slices_Concat_Entry_11_eq _ _ _ _) (by
    refine ⟨fun _ => ⟨⟨by decide, show (0 : Int) < 2 by decide⟩, ?_, ?_⟩, fun h => by cases h⟩
    · show ([] ++ front).length ≤ most
      rw [List.nil_append]
      exact Nat.le_trans (show front.length ≤ 4 by omega) (by decide)
    · exact goodS_of (x_stack_Push k_stack_all) (TL_stack_Push_slices_Concat_Entry_11_eq [front, l] 2 1 ([] ++ front)) (by
        refine ⟨fun _ => ⟨⟨by decide, show (1 : Int) < 2 by decide⟩, ?_, ?_⟩, fun h => by cases h⟩
        · show ([] ++ front ++ l).length ≤ most
          rw [List.nil_append, List.length_append]
          exact Nat.le_trans (show front.length + l.length ≤ 4 by omega) (by decide)
        · exact goodS_of (x_stack_Push k_stack_all) (TL_stack_Push_slices_Concat_Entry_11_eq [front, l] 2 2 ([] ++ front ++ l)) ⟨(fun h => by cases h), fun _ => ⟨_, rfl, rfl⟩⟩))

theorem lnx_is (l : List Ent) : lnx tEntry l = (l.length : Int) := rfl
theorem gl_Push_end (O : Nat → Prop) (w0 : World) (l front : List Ent) (hl : l.length + front.length ≤ 4) :
    GoodS prog X_stack_Push (Cx.base O w0) (Ends prog O w0 rs_stack_Push fun y => y = (front ++ l, 0, ())) (Q_stack_Push_slices_Concat_Entry_3 [front, l] ((front.length + l.length : Nat) : Int) [front, l] 2 2) fx_slices_Concat_Entry (lp f_slices_Concat_Entry 3) (E_stack_Push_slices_Concat_Entry_3 [front, l] ((front.length + l.length : Nat) : Int) [front, l] 2 2) :=
  goodS_of (x_stack_Push k_stack_all) (TL_stack_Push_slices_Concat_Entry_3_eq _ _ _ _ _) (by
    have e : IntKind.wrap .i64 (((front.length + l.length : Nat) : Int) - IntKind.wrap .i64 (0 - 0)) = ((front.length + l.length : Nat) : Int) := by
      have : IntKind.wrap .i64 (0 - 0) = 0 := by decide
      rw [this]
      exact small_i64 (by omega)
    refine ⟨(fun h => by cases h), fun _ => ⟨fun h => ?_, fun _ => ⟨fun h => ?_, fun _ => gl_Push_2 O w0 l front hl⟩⟩⟩
    · have h : ((front.length + l.length : Nat) : Int) < 0 := of_decide_eq_true h
      exact absurd h (Int.not_lt.2 (Int.natCast_nonneg _))
    · have h := of_decide_eq_true h
      rw [e] at h ⊢
      refine ⟨⟨by decide, by decide, by decide⟩, h, ?_, ⟨by decide, by decide, Int.natCast_nonneg _⟩, gl_Push_2 O w0 l front hl⟩
      rw [Int.toNat_natCast]
      exact Nat.le_trans (show front.length + l.length ≤ 4 by omega) (by decide))

theorem gl_Push (O : Nat → Prop) (w0 : World) (l front : List Ent) (hl : l.length + front.length ≤ 4) :
    GoodS prog X_stack_Push (Cx.base O w0) (Ends prog O w0 rs_stack_Push fun y => y = (front ++ l, 0, ())) (Q_stack_Push_slices_Concat_Entry_3 [front, l] 0 [front, l] 2 0) fx_slices_Concat_Entry (lp f_slices_Concat_Entry 3) (E_stack_Push_slices_Concat_Entry_3 [front, l] 0 [front, l] 2 0) :=
  goodS_of (x_stack_Push k_stack_all) (TL_stack_Push_slices_Concat_Entry_3_eq _ _ _ _ _) (by
    have e1 : IntKind.wrap .i64 (0 + lnx tEntry (el (.slc tEntry) [front, l] 0)) = ((front.length : Nat) : Int) := by
      show IntKind.wrap .i64 (0 + (front.length : Int)) = _
      rw [Int.zero_add]
      exact small_i64 (by omega)
    have e2 : IntKind.wrap .i64 (((front.length : Nat) : Int) + lnx tEntry (el (.slc tEntry) [front, l] 1)) = ((front.length + l.length : Nat) : Int) := by
      show IntKind.wrap .i64 ((front.length : Int) + (l.length : Int)) = _
      rw [small_i64 (by omega)]
      omega
    refine ⟨fun _ => ⟨⟨by decide, show (0 : Int) < 2 by decide⟩, fun h => ?_, fun _ => ?_⟩, fun h => by cases h⟩
    · rw [e1] at h
      exact absurd (of_decide_eq_true h) (by omega)
    · rw [e1]
      exact goodS_of (x_stack_Push k_stack_all) (TL_stack_Push_slices_Concat_Entry_3_eq [front, l] ((front.length : Nat) : Int) [front, l] 2 1) (by
        refine ⟨fun _ => ⟨⟨by decide, show (1 : Int) < 2 by decide⟩, fun h => ?_, fun _ => ?_⟩, fun h => by cases h⟩
        · rw [e2] at h
          exact absurd (of_decide_eq_true h) (by omega)
        · rw [e2]
          exact gl_Push_end O w0 l front hl))

theorem k_stack_Push : FnOk prog [] n_stack_Push S_stack_Push :=
  fnS_T (S := S_stack_Push) (x_stack_Push k_stack_all) (fx := fx_stack_Push) at_stack_Push (by kernel_rfl) (fun h => by cases h) (T := fun x => T_stack_Push x.1 x.2.1) (fun x => T_stack_Push_eq x.1 x.2.1) fun O w0 x _ hp => by
    obtain ⟨l, front, ⟨⟩⟩ := x
    have h1 : l.length ≤ 1000000 := hp.1
    have h2 : front.length ≤ 1000000 := hp.2
    have hc : (bif !g_all l then true else !g_all front) = !(g_all l && g_all front) := by cases g_all l <;> cases g_all front <;> rfl
    have hs : decide ((4 : Int) < IntKind.wrap .i64 (lnx tEntry l + lnx tEntry front)) = decide (4 < l.length + front.length) := by
      rw [lnx_is, lnx_is, small_i64 (by omega), Bool.eq_iff_iff, decide_eq_true_eq, decide_eq_true_eq]
      omega
    refine ⟨h1, fun _ => h2, fun h => ⟨_, rfl, ?_⟩, fun h => ⟨fun h4 => ⟨_, rfl, ?_⟩, fun h4 => ?_⟩⟩
    · rw [hc] at h
      have hn : ¬ (g_all l = true ∧ g_all front = true) := fun ⟨a, b⟩ => by rw [a, b] at h; cases h
      have e : g_Push l front = ([], 1) := by unfold g_Push; rw [if_neg hn]
      show (([] : List Ent), (1 : Int), ()) = ((g_Push l front).1, (g_Push l front).2, ())
      rw [e]
    · rw [hc] at h
      rw [hs] at h4
      have hy : g_all l = true ∧ g_all front = true := by cases ha : g_all l <;> cases hb : g_all front <;> rw [ha, hb] at h <;> first | exact ⟨rfl, rfl⟩ | cases h
      have e : g_Push l front = ([], 12) := by unfold g_Push; rw [if_pos hy, if_neg (by have := of_decide_eq_true h4; omega)]
      show (([] : List Ent), (12 : Int), ()) = ((g_Push l front).1, (g_Push l front).2, ())
      rw [e]
    · rw [hc] at h
      rw [hs] at h4
      have hy : g_all l = true ∧ g_all front = true := by cases ha : g_all l <;> cases hb : g_all front <;> rw [ha, hb] at h <;> first | exact ⟨rfl, rfl⟩ | cases h
      have h4 := of_decide_eq_false h4
      have e : g_Push l front = (front ++ l, 0) := by unfold g_Push; rw [if_pos hy, if_pos (by omega)]
      have he : S_stack_Push.g (l, front, ()) = (front ++ l, 0, ()) := by show ((g_Push l front).1, (g_Push l front).2, ()) = _; rw [e]
      rw [he]
      exact gl_Push O w0 l front (by omega)

theorem drop_one (l : List Ent) : lCutx tEntry l 1 (lnx tEntry l) = List.drop 1 l := by
  unfold lCutx lCut lnx ln
  rw [Int.toNat_natCast, List.take_length]
  rfl
theorem k_rewrite_on : FnOk prog [] n_rewrite_on S_rewrite_on :=
  fnS_T (S := S_rewrite_on) (x_rewrite_on k_stack_Push) (fx := fx_rewrite_on) at_rewrite_on (by kernel_rfl) (fun h => by cases h) (T := fun x => T_rewrite_on x.1 x.2.1 x.2.2.1) (fun x => T_rewrite_on_eq x.1 x.2.1 x.2.2.1) fun O w0 x _ hp => by
    obtain ⟨p, tr, front, ⟨⟩⟩ := x
    have h1 : 1 ≤ p.1.length := hp.1
    have h2 : p.1.length ≤ 1000000 := hp.2.1
    have h3 : front.length ≤ 1000000 := hp.2.2
    refine ⟨⟨by decide, by rw [lnx_is]; omega, Int.le_refl _⟩, ⟨?_, h3⟩, _, rfl, ?_⟩
    · rw [drop_one, List.length_drop]; omega
    · rw [drop_one]
      rfl

end Go.Proofs.Ytnccacngedeoeaa

/- The trees of functions' bodies, as the evaluator prints them. -/
namespace Go.Proofs.Ytnccacngedeoeaa
open Go Go.RowKit

noncomputable abbrev fx_rewrite_Step : Fx := { fn := f_rewrite_Step, ann := { loops := [(15, { keep := [3, 9, 62, 63, 64], own := [(9, tOut)] })] } }
noncomputable abbrev X_rewrite_Step : TabX := { D := { T := tyTab, F := [(n_rewrite_Right, S_rewrite_Right), (n_table_Right, S_table_Right), (n_table_Match, S_table_Match), (n_rewrite_dead, S_rewrite_dead), (n_rewrite_on, S_rewrite_on)], R := [], ovl := [] }, inl := [] }
noncomputable abbrev M_rewrite_Step : RMode := .data rs_rewrite_Step
theorem x_rewrite_Step (h_rewrite_Right : FnOk prog [] n_rewrite_Right S_rewrite_Right) (h_table_Right : FnOk prog [] n_table_Right S_table_Right) (h_table_Match : FnOk prog [] n_table_Match S_table_Match) (h_rewrite_dead : FnOk prog [] n_rewrite_dead S_rewrite_dead) (h_rewrite_on : FnOk prog [] n_rewrite_on S_rewrite_on) : XOk prog X_rewrite_Step := xok (dok_add (dok_add (dok_add (dok_add (dok_add (dok_nil tab_ok mixed_ok) h_rewrite_on) h_rewrite_dead) h_table_Match) h_table_Right) h_rewrite_Right) (by kernel_rfl) rows_nil inl_nil ovl_nil
noncomputable def T_rewrite_Step (t : den (Ty.slc tTrigger)) (p : den tPacket) : TreeS :=
  TreeS.req (List.length (Prod.fst p) ≤ 1000000)
  (TreeS.req (impl [(!g_packetRight p, false)] (List.length t ≤ 1000000))
    (TreeS.ite (bif !g_packetRight p then true else !g_Right t)
      (TreeS.ret (K.val (Ty.pair (Ty.slc tOut) (Ty.pair tInt Ty.unit)) ([], 1, PUnit.unit)))
      (TreeS.req (inB 0 (lnx tEntry (Prod.fst p)))
        (TreeS.req (List.length t ≤ 1000000)
          (TreeS.ite (decide (Prod.fst (el tEntry (Prod.fst p) 0) = 2))
            (TreeS.ret
              (K.val (Ty.pair (Ty.slc tOut) (Ty.pair tInt Ty.unit))
                (List.set (List.replicate 1 (zero tOut)) 0
                    (1, Prod.fst (Prod.snd (Prod.snd (el tEntry (Prod.fst p) 0))), p,
                      Prod.snd
                        (Prod.snd
                          (Prod.snd
                            (zero
                              (Ty.pair tInt
                                (Ty.pair tInt (Ty.pair tPacket (Ty.pair tTrigger (Ty.pair tInt Ty.unit))))))))),
                  0, PUnit.unit)))
            (TreeS.ite (decide (Prod.fst (Prod.snd p) = 0))
              (TreeS.req True
                (TreeS.ret (K.val (Ty.pair (Ty.slc tOut) (Ty.pair tInt Ty.unit)) (g_dead 9, 0, PUnit.unit))))
              (TreeS.ite
                (bif !decide (Prod.snd (g_Match t (Prod.fst (Prod.snd (el tEntry (Prod.fst p) 0)))) = 0) then
                  decide (1 < lnx tEntry (Prod.fst p))
                else false)
                (TreeS.req
                  (1 ≤ List.length (Prod.fst p) ∧ List.length (Prod.fst p) ≤ 1000000 ∧ (0 : Nat) ≤ 1000000)
                  (TreeS.ret
                    (K.val (Ty.pair (Ty.slc tOut) (Ty.pair tInt Ty.unit))
                      (List.set (List.replicate 1 (zero tOut)) 0
                          (g_on p (zero (Ty.pair tId (Ty.pair tEntry (Ty.pair tInt Ty.unit)))) []),
                        0, PUnit.unit))))
                (TreeS.ite (!decide (Prod.snd (g_Match t (Prod.fst (Prod.snd (el tEntry (Prod.fst p) 0)))) = 0))
                  (TreeS.req True
                    (TreeS.ret (K.val (Ty.pair (Ty.slc tOut) (Ty.pair tInt Ty.unit)) (g_dead 6, 0, PUnit.unit))))
                  (TreeS.loop [] fx_rewrite_Step (lp f_rewrite_Step 15)
                    [(3, K.ptr 0 tPacket []), (9, K.sl (0 + 1) tOut),
                      (62,
                        K.val (Ty.slc tTrigger)
                          (Prod.fst (g_Match t (Prod.fst (Prod.snd (el tEntry (Prod.fst p) 0)))))),
                      (63,
                        K.val tInt
                          (lnx tTrigger (Prod.fst (g_Match t (Prod.fst (Prod.snd (el tEntry (Prod.fst p) 0))))))),
                      (64, K.val tInt 0)]
                    [(0, Bx.cell tPacket p), (0 + 1, Bx.row tOut [])])))))))))
theorem T_rewrite_Step_eq (t : den (Ty.slc tTrigger)) (p : den tPacket) : treeS X_rewrite_Step M_rewrite_Step 5000 [] fx_rewrite_Step (bodyOf f_rewrite_Step) (Env.of
  (argEnv as_rewrite_Step (t, p, ()) 0) []) = T_rewrite_Step t p := by kernel_rfl

noncomputable def E_rewrite_Step_15 (v62 : den (Ty.slc tTrigger)) (v63 : den tInt) (v64 : den tInt) (b0 : den tPacket) (b1 : List (den tOut)) : Env := Env.of
  [(3, K.ptr 0 tPacket []), (9, K.sl (0 + 1) tOut), (62, K.val (Ty.slc tTrigger) v62), (63, K.val tInt v63),
    (64, K.val tInt v64)]
  [(0, Bx.cell tPacket b0), (1, Bx.row tOut b1)]
noncomputable def TL_rewrite_Step_15 (v62 : den (Ty.slc tTrigger)) (v63 : den tInt) (v64 : den tInt) (b0 : den tPacket) (b1 : List (den tOut)) : TreeS :=
  TreeS.ite (decide (v64 < v63))
  (TreeS.req (inB v64 (lnx tTrigger v62))
    (TreeS.req
      (1 ≤ List.length (Prod.fst b0) ∧
        List.length (Prod.fst b0) ≤ 1000000 ∧
          List.length (List.set (List.replicate 1 (zero tEntry)) 0 (Prod.fst (Prod.snd (el tTrigger v62 v64)))) ≤
            1000000)
      (TreeS.req
        (List.length
            (b1 ++
              List.set (List.replicate 1 (zero tOut)) 0
                (g_on b0 (el tTrigger v62 v64)
                  (List.set (List.replicate 1 (zero tEntry)) 0 (Prod.fst (Prod.snd (el tTrigger v62 v64)))))) ≤
          most)
        (TreeS.loop [] fx_rewrite_Step (lp f_rewrite_Step 15)
          [(3, K.ptr 0 tPacket []), (9, K.sl (0 + 1) tOut), (62, K.val (Ty.slc tTrigger) v62), (63, K.val tInt v63),
            (64, K.val tInt (IntKind.wrap IntKind.i64 (v64 + 1)))]
          [(0, Bx.cell tPacket b0),
            (0 + 1,
              Bx.row tOut
                (b1 ++
                  List.set (List.replicate 1 (zero tOut)) 0
                    (g_on b0 (el tTrigger v62 v64)
                      (List.set (List.replicate 1 (zero tEntry)) 0 (Prod.fst (Prod.snd (el tTrigger v62 v64)))))))]))))
  (TreeS.ret (K.val (Ty.pair (Ty.slc tOut) (Ty.pair tInt Ty.unit)) (b1, 0, PUnit.unit)))
theorem TL_rewrite_Step_15_eq (v62 : den (Ty.slc tTrigger)) (v63 : den tInt) (v64 : den tInt) (b0 : den tPacket) (b1 : List (den tOut)) : treeS X_rewrite_Step M_rewrite_Step 5000 [] fx_rewrite_Step (lp f_rewrite_Step 15) (E_rewrite_Step_15 v62 v63 v64 b0 b1) = TL_rewrite_Step_15 v62 v63 v64 b0 b1 := by kernel_rfl

noncomputable abbrev fx_spread_queue_put_Packet : Fx := { fn := f_spread_queue_put_Packet, ann := { }, share := true }
noncomputable abbrev fx_spread_queue_take_Packet : Fx := { fn := f_spread_queue_take_Packet, ann := { }, share := true }
noncomputable abbrev fx_spread_Deliver : Fx := { fn := f_spread_Deliver, ann := { loops := [(8, { keep := [0, 4, 6, 7, 8, 9, 10] }), (15, { keep := [0, 4, 6, 7, 8, 9, 52, 53, 54] }), (28, { keep := [4, 6, 90, 91], own := [(6, (.mp (.arr 0 .bool) tInt))] }), (31, { keep := [4, 6, 15, 90, 91, 95, 96], own := [(6, (.mp (.arr 0 .bool) tInt))] })], frz := [(35, [1006, 100006])] }, own := [6, 8], share := true }
noncomputable abbrev X_spread_Deliver : TabX := { D := { T := tyTab, F := [(n_table_Right, S_table_Right), (n_rewrite_Right, S_rewrite_Right), (n_rewrite_Step, S_rewrite_Step)], R := [], ovl := [] }, inl := [(n_spread_queue_put_Packet, fx_spread_queue_put_Packet), (n_spread_queue_take_Packet, fx_spread_queue_take_Packet)] }
noncomputable abbrev M_spread_Deliver : RMode := .data rs_spread_Deliver
theorem x_spread_Deliver (h_table_Right : FnOk prog [] n_table_Right S_table_Right) (h_rewrite_Right : FnOk prog [] n_rewrite_Right S_rewrite_Right) (h_rewrite_Step : FnOk prog [] n_rewrite_Step S_rewrite_Step) : XOk prog X_spread_Deliver := xok (dok_add (dok_add (dok_add (dok_nil tab_ok mixed_ok) h_rewrite_Step) h_rewrite_Right) h_table_Right) (by kernel_rfl) rows_nil (inl_add at_spread_queue_put_Packet (by kernel_rfl) (inl_add at_spread_queue_take_Packet (by kernel_rfl) inl_nil)) ovl_nil
noncomputable def T_spread_Deliver (t : den (Ty.slc tTrigger)) (p : den tPacket) : TreeS :=
  TreeS.req (List.length t ≤ 1000000)
  (TreeS.all (den Ty.bool) (fun (q2 : den Ty.bool) ↦ q2 = g_Right t) fun (q2 : den Ty.bool) ↦
    TreeS.req (impl [(!q2, false)] (List.length (Prod.fst p) ≤ 1000000))
      (TreeS.ite (bif !q2 then true else !g_packetRight p)
        (TreeS.ret
          (K.val (Ty.pair tSpread (Ty.pair tInt Ty.unit))
            (zero (Ty.pair (Ty.slc tInt) (Ty.pair tInt (Ty.pair tInt (Ty.pair tInt Ty.unit)))), 1, PUnit.unit)))
        (TreeS.req (List.length (List.set (List.replicate 1 (zero tPacket)) 0 p) ≤ most)
          (TreeS.ite (decide (lnx tPacket (List.set (List.replicate 1 (zero tPacket)) 0 p) = 0))
            (TreeS.loop [] fx_spread_Deliver (lp f_spread_Deliver 8)
              [(0, K.val (Ty.slc tTrigger) t), (4, K.ptr 0 tSpread []), (6, K.ptr (0 + 1) tSpread []),
                (7, K.ptr (0 + 1 + 1) (Ty.arr 16 tInt) []), (8, K.ptr (0 + 1 + 1 + 1) tSpreadQueue_Packet []),
                (9, K.ptr (0 + 1 + 1 + 1 + 1) tPacket []), (10, K.val Ty.bool false)]
              [(0, Bx.cell tSpread (zero tSpread)),
                (0 + 1,
                  Bx.obj tSpread
                    (K.agg (Ty.pair (Ty.slc tInt) (Ty.pair tInt (Ty.pair tInt (Ty.pair tInt Ty.unit))))
                      (K.kcons K.nilsl
                        (K.kcons (K.val tInt (zero tInt))
                          (K.kcons (K.val tInt (zero tInt)) (K.kcons (K.val tInt (zero tInt)) K.knil)))))),
                (0 + 1 + 1, Bx.cell (Ty.arr 16 tInt) (zero (Ty.arr 16 tInt))),
                (0 + 1 + 1 + 1,
                  Bx.obj tSpreadQueue_Packet
                    (K.agg (Ty.pair (Ty.slc tPacket) Ty.unit) (K.kcons (K.sl (0 + 1 + 1 + 1 + 1 + 1) tPacket) K.knil))),
                (0 + 1 + 1 + 1 + 1, Bx.cell tPacket (zero tPacket)),
                (0 + 1 + 1 + 1 + 1 + 1, Bx.row tPacket (List.set (List.replicate 1 (zero tPacket)) 0 p))])
            (TreeS.req (inB 0 (lnx tPacket (List.set (List.replicate 1 (zero tPacket)) 0 p)))
              (TreeS.req (inB 0 (lnx tPacket (List.set (List.replicate 1 (zero tPacket)) 0 p)))
                (TreeS.req
                  (vok 0 (List.length (List.set (List.replicate 1 (zero tPacket)) 0 p))
                    (List.length (List.set (List.replicate 1 (zero tPacket)) 0 p)))
                  (TreeS.req
                    (cutOk 1 (↑(List.length (List.set (List.replicate 1 (zero tPacket)) 0 p)) : Int)
                      (↑(List.length (List.set (List.replicate 1 (zero tPacket)) 0 p) - 0) : Int))
                    (TreeS.req
                      (0 + Int.toNat 1 +
                          (Int.toNat (↑(List.length (List.set (List.replicate 1 (zero tPacket)) 0 p)) : Int) -
                            Int.toNat 1) ≤
                        List.length (List.set (List.replicate 1 (zero tPacket)) 0 p))
                      (TreeS.loop [] fx_spread_Deliver (lp f_spread_Deliver 8)
                        [(0, K.val (Ty.slc tTrigger) t), (4, K.ptr 0 tSpread []), (6, K.ptr (0 + 1) tSpread []),
                          (7, K.ptr (0 + 1 + 1) (Ty.arr 16 tInt) []), (8, K.ptr (0 + 1 + 1 + 1) tSpreadQueue_Packet []),
                          (9, K.ptr (0 + 1 + 1 + 1 + 1) tPacket []), (10, K.val Ty.bool true)]
                        [(0, Bx.cell tSpread (zero tSpread)),
                          (0 + 1,
                            Bx.obj tSpread
                              (K.agg (Ty.pair (Ty.slc tInt) (Ty.pair tInt (Ty.pair tInt (Ty.pair tInt Ty.unit))))
                                (K.kcons K.nilsl
                                  (K.kcons (K.val tInt (zero tInt))
                                    (K.kcons (K.val tInt (zero tInt)) (K.kcons (K.val tInt (zero tInt)) K.knil)))))),
                          (0 + 1 + 1, Bx.cell (Ty.arr 16 tInt) (zero (Ty.arr 16 tInt))),
                          (0 + 1 + 1 + 1,
                            Bx.obj tSpreadQueue_Packet
                              (K.agg (Ty.pair (Ty.slc tPacket) Ty.unit)
                                (K.kcons (K.sl (0 + 1 + 1 + 1 + 1 + 1) tPacket) K.knil))),
                          (0 + 1 + 1 + 1 + 1,
                            Bx.cell tPacket (el tPacket (List.set (List.replicate 1 (zero tPacket)) 0 p) 0)),
                          (0 + 1 + 1 + 1 + 1 + 1,
                            Bx.row tPacket
                              (List.take
                                (Int.toNat (↑(List.length (List.set (List.replicate 1 (zero tPacket)) 0 p)) : Int) -
                                  Int.toNat 1)
                                (List.drop (0 + Int.toNat 1)
                                  (List.set (List.replicate 1 (zero tPacket)) 0 p))))]))))))))))
theorem T_spread_Deliver_eq (t : den (Ty.slc tTrigger)) (p : den tPacket) : treeS X_spread_Deliver M_spread_Deliver 5000 [] fx_spread_Deliver (bodyOf f_spread_Deliver) (Env.of
  (argEnv as_spread_Deliver (t, p, ()) 0) []) = T_spread_Deliver t p := by kernel_rfl

noncomputable def E_spread_Deliver_8 (v0 : den (Ty.slc tTrigger)) (v10 : den Ty.bool) (b0 : den tSpread) (b1 : den tInt) (b1_1 : den tInt) (b1_2 : den tInt) (b2 : den (Ty.arr 16 tInt)) (b4 : den tPacket) (b5 : List (den tPacket)) : Env := Env.of
  [(0, K.val (Ty.slc tTrigger) v0), (4, K.ptr 0 tSpread []), (6, K.ptr (0 + 1) tSpread []),
    (7, K.ptr (0 + 1 + 1) (Ty.arr 16 tInt) []), (8, K.ptr (0 + 1 + 1 + 1) tSpreadQueue_Packet []),
    (9, K.ptr (0 + 1 + 1 + 1 + 1) tPacket []), (10, K.val Ty.bool v10)]
  [(0, Bx.cell tSpread b0),
    (1,
      Bx.obj tSpread
        (K.agg (Ty.pair (Ty.slc tInt) (Ty.pair tInt (Ty.pair tInt (Ty.pair tInt Ty.unit))))
          (K.kcons K.nilsl (K.kcons (K.val tInt b1) (K.kcons (K.val tInt b1_1) (K.kcons (K.val tInt b1_2) K.knil)))))),
    (2, Bx.cell (Ty.arr 16 tInt) b2),
    (3,
      Bx.obj tSpreadQueue_Packet
        (K.agg (Ty.pair (Ty.slc tPacket) Ty.unit) (K.kcons (K.sl (0 + 1 + 1 + 1 + 1 + 1) tPacket) K.knil))),
    (4, Bx.cell tPacket b4), (5, Bx.row tPacket b5)]
noncomputable def TL_spread_Deliver_8 (v0 : den (Ty.slc tTrigger)) (v10 : den Ty.bool) (b0 : den tSpread) (b1 : den tInt) (b1_1 : den tInt) (b1_2 : den tInt) (b2 : den (Ty.arr 16 tInt)) (b4 : den tPacket) (b5 : List (den tPacket)) : TreeS :=
  TreeS.ite v10
  (TreeS.ite (decide (1000 < IntKind.wrap IntKind.i64 (b1_2 + 1)))
    (TreeS.ret
      (K.val (Ty.pair tSpread (Ty.pair tInt Ty.unit))
        (zero (Ty.pair (Ty.slc tInt) (Ty.pair tInt (Ty.pair tInt (Ty.pair tInt Ty.unit)))), 8, PUnit.unit)))
    (TreeS.req (List.length v0 ≤ 1000000 ∧ List.length (Prod.fst b4) ≤ 1000000)
      (TreeS.all (den (Ty.pair (Ty.slc tOut) (Ty.pair tInt Ty.unit)))
        (fun (q9 : den (Ty.pair (Ty.slc tOut) (Ty.pair tInt Ty.unit))) ↦
          q9 = (Prod.fst (g_Step v0 b4), Prod.snd (g_Step v0 b4), PUnit.unit))
        fun (q9 : den (Ty.pair (Ty.slc tOut) (Ty.pair tInt Ty.unit))) ↦
        TreeS.loop [] fx_spread_Deliver (lp f_spread_Deliver 15)
          [(0, K.val (Ty.slc tTrigger) v0), (4, K.ptr 0 tSpread []), (6, K.ptr (0 + 1) tSpread []),
            (7, K.ptr (0 + 1 + 1) (Ty.arr 16 tInt) []), (8, K.ptr (0 + 1 + 1 + 1) tSpreadQueue_Packet []),
            (9, K.ptr (0 + 1 + 1 + 1 + 1) tPacket []), (52, K.val (Ty.slc tOut) (Prod.fst q9)),
            (53, K.val tInt (lnx tOut (Prod.fst q9))), (54, K.val tInt 0)]
          [(0, Bx.cell tSpread b0),
            (0 + 1,
              Bx.obj tSpread
                (K.agg (Ty.pair (Ty.slc tInt) (Ty.pair tInt (Ty.pair tInt (Ty.pair tInt Ty.unit))))
                  (K.kcons K.nilsl
                    (K.kcons (K.val tInt b1)
                      (K.kcons (K.val tInt b1_1)
                        (K.kcons (K.val tInt (IntKind.wrap IntKind.i64 (b1_2 + 1))) K.knil)))))),
            (0 + 1 + 1, Bx.cell (Ty.arr 16 tInt) b2),
            (0 + 1 + 1 + 1,
              Bx.obj tSpreadQueue_Packet
                (K.agg (Ty.pair (Ty.slc tPacket) Ty.unit) (K.kcons (K.sl (0 + 1 + 1 + 1 + 1 + 1) tPacket) K.knil))),
            (0 + 1 + 1 + 1 + 1, Bx.cell tPacket b4), (0 + 1 + 1 + 1 + 1 + 1, Bx.row tPacket b5)])))
  (TreeS.loop [] fx_spread_Deliver (lp f_spread_Deliver 28)
    [(4, K.ptr 0 tSpread []), (6, K.ptr (0 + 1) tSpread []), (90, K.val (Ty.arr 16 tInt) b2), (91, K.val tInt 0)]
    [(0, Bx.cell tSpread b0),
      (0 + 1,
        Bx.obj tSpread
          (K.agg (Ty.pair (Ty.slc tInt) (Ty.pair tInt (Ty.pair tInt (Ty.pair tInt Ty.unit))))
            (K.kcons (K.sl (0 + 1 + 1) tInt)
              (K.kcons (K.val tInt b1) (K.kcons (K.val tInt b1_1) (K.kcons (K.val tInt b1_2) K.knil)))))),
      (0 + 1 + 1, Bx.row tInt [])])
theorem TL_spread_Deliver_8_eq (v0 : den (Ty.slc tTrigger)) (v10 : den Ty.bool) (b0 : den tSpread) (b1 : den tInt) (b1_1 : den tInt) (b1_2 : den tInt) (b2 : den (Ty.arr 16 tInt)) (b4 : den tPacket) (b5 : List (den tPacket)) : treeS X_spread_Deliver M_spread_Deliver 5000 [] fx_spread_Deliver (lp f_spread_Deliver 8) (E_spread_Deliver_8 v0 v10 b0 b1 b1_1 b1_2 b2 b4 b5) = TL_spread_Deliver_8 v0 v10 b0 b1 b1_1 b1_2 b2 b4 b5 := by kernel_rfl

noncomputable def E_spread_Deliver_15 (v0 : den (Ty.slc tTrigger)) (v52 : den (Ty.slc tOut)) (v53 : den tInt) (v54 : den tInt) (b0 : den tSpread) (b1 : den tInt) (b1_1 : den tInt) (b1_2 : den tInt) (b2 : den (Ty.arr 16 tInt)) (b4 : den tPacket) (b5 : List (den tPacket)) : Env := Env.of
  [(0, K.val (Ty.slc tTrigger) v0), (4, K.ptr 0 tSpread []), (6, K.ptr (0 + 1) tSpread []),
    (7, K.ptr (0 + 1 + 1) (Ty.arr 16 tInt) []), (8, K.ptr (0 + 1 + 1 + 1) tSpreadQueue_Packet []),
    (9, K.ptr (0 + 1 + 1 + 1 + 1) tPacket []), (52, K.val (Ty.slc tOut) v52), (53, K.val tInt v53),
    (54, K.val tInt v54)]
  [(0, Bx.cell tSpread b0),
    (1,
      Bx.obj tSpread
        (K.agg (Ty.pair (Ty.slc tInt) (Ty.pair tInt (Ty.pair tInt (Ty.pair tInt Ty.unit))))
          (K.kcons K.nilsl (K.kcons (K.val tInt b1) (K.kcons (K.val tInt b1_1) (K.kcons (K.val tInt b1_2) K.knil)))))),
    (2, Bx.cell (Ty.arr 16 tInt) b2),
    (3,
      Bx.obj tSpreadQueue_Packet
        (K.agg (Ty.pair (Ty.slc tPacket) Ty.unit) (K.kcons (K.sl (0 + 1 + 1 + 1 + 1 + 1) tPacket) K.knil))),
    (4, Bx.cell tPacket b4), (5, Bx.row tPacket b5)]
noncomputable def TL_spread_Deliver_15 (v0 : den (Ty.slc tTrigger)) (v52 : den (Ty.slc tOut)) (v53 : den tInt) (v54 : den tInt) (b0 : den tSpread) (b1 : den tInt) (b1_1 : den tInt) (b1_2 : den tInt) (b2 : den (Ty.arr 16 tInt)) (b4 : den tPacket) (b5 : List (den tPacket)) : TreeS :=
  TreeS.ite (decide (v54 < v53))
  (TreeS.req (inB v54 (lnx tOut v52))
    (TreeS.ite (decide (Prod.fst (el tOut v52 v54) = 1))
      (TreeS.req (inB (Prod.fst (Prod.snd (el tOut v52 v54))) (↑16 : Int))
        (TreeS.req (inB (Prod.fst (Prod.snd (el tOut v52 v54))) (↑16 : Int))
          (TreeS.loop [] fx_spread_Deliver (lp f_spread_Deliver 15)
            [(0, K.val (Ty.slc tTrigger) v0), (4, K.ptr 0 tSpread []), (6, K.ptr (0 + 1) tSpread []),
              (7, K.ptr (0 + 1 + 1) (Ty.arr 16 tInt) []), (8, K.ptr (0 + 1 + 1 + 1) tSpreadQueue_Packet []),
              (9, K.ptr (0 + 1 + 1 + 1 + 1) tPacket []), (52, K.val (Ty.slc tOut) v52), (53, K.val tInt v53),
              (54, K.val tInt (IntKind.wrap IntKind.i64 (v54 + 1)))]
            [(0, Bx.cell tSpread b0),
              (0 + 1,
                Bx.obj tSpread
                  (K.agg (Ty.pair (Ty.slc tInt) (Ty.pair tInt (Ty.pair tInt (Ty.pair tInt Ty.unit))))
                    (K.kcons K.nilsl
                      (K.kcons (K.val tInt b1) (K.kcons (K.val tInt b1_1) (K.kcons (K.val tInt b1_2) K.knil)))))),
              (0 + 1 + 1,
                Bx.cell (Ty.arr 16 tInt)
                  (setAtx tInt b2 (Prod.fst (Prod.snd (el tOut v52 v54)))
                    (IntKind.wrap IntKind.i64 (el tInt b2 (Prod.fst (Prod.snd (el tOut v52 v54))) + 1)))),
              (0 + 1 + 1 + 1,
                Bx.obj tSpreadQueue_Packet
                  (K.agg (Ty.pair (Ty.slc tPacket) Ty.unit) (K.kcons (K.sl (0 + 1 + 1 + 1 + 1 + 1) tPacket) K.knil))),
              (0 + 1 + 1 + 1 + 1, Bx.cell tPacket b4), (0 + 1 + 1 + 1 + 1 + 1, Bx.row tPacket b5)])))
      (TreeS.ite (decide (Prod.fst (el tOut v52 v54) = 2))
        (TreeS.req
          (List.length
              (b5 ++ List.set (List.replicate 1 (zero tPacket)) 0 (Prod.fst (Prod.snd (Prod.snd (el tOut v52 v54))))) ≤
            most)
          (TreeS.loop [] fx_spread_Deliver (lp f_spread_Deliver 15)
            [(0, K.val (Ty.slc tTrigger) v0), (4, K.ptr 0 tSpread []), (6, K.ptr (0 + 1) tSpread []),
              (7, K.ptr (0 + 1 + 1) (Ty.arr 16 tInt) []), (8, K.ptr (0 + 1 + 1 + 1) tSpreadQueue_Packet []),
              (9, K.ptr (0 + 1 + 1 + 1 + 1) tPacket []), (52, K.val (Ty.slc tOut) v52), (53, K.val tInt v53),
              (54, K.val tInt (IntKind.wrap IntKind.i64 (v54 + 1)))]
            [(0, Bx.cell tSpread b0),
              (0 + 1,
                Bx.obj tSpread
                  (K.agg (Ty.pair (Ty.slc tInt) (Ty.pair tInt (Ty.pair tInt (Ty.pair tInt Ty.unit))))
                    (K.kcons K.nilsl
                      (K.kcons (K.val tInt b1) (K.kcons (K.val tInt b1_1) (K.kcons (K.val tInt b1_2) K.knil)))))),
              (0 + 1 + 1, Bx.cell (Ty.arr 16 tInt) b2),
              (0 + 1 + 1 + 1,
                Bx.obj tSpreadQueue_Packet
                  (K.agg (Ty.pair (Ty.slc tPacket) Ty.unit) (K.kcons (K.sl (0 + 1 + 1 + 1 + 1 + 1) tPacket) K.knil))),
              (0 + 1 + 1 + 1 + 1, Bx.cell tPacket b4),
              (0 + 1 + 1 + 1 + 1 + 1,
                Bx.row tPacket
                  (b5 ++
                    List.set (List.replicate 1 (zero tPacket)) 0 (Prod.fst (Prod.snd (Prod.snd (el tOut v52 v54))))))]))
        (TreeS.ite (decide (Prod.fst (Prod.snd (Prod.snd (Prod.snd (Prod.snd (el tOut v52 v54))))) = 9))
          (TreeS.loop [] fx_spread_Deliver (lp f_spread_Deliver 15)
            [(0, K.val (Ty.slc tTrigger) v0), (4, K.ptr 0 tSpread []), (6, K.ptr (0 + 1) tSpread []),
              (7, K.ptr (0 + 1 + 1) (Ty.arr 16 tInt) []), (8, K.ptr (0 + 1 + 1 + 1) tSpreadQueue_Packet []),
              (9, K.ptr (0 + 1 + 1 + 1 + 1) tPacket []), (52, K.val (Ty.slc tOut) v52), (53, K.val tInt v53),
              (54, K.val tInt (IntKind.wrap IntKind.i64 (v54 + 1)))]
            [(0, Bx.cell tSpread b0),
              (0 + 1,
                Bx.obj tSpread
                  (K.agg (Ty.pair (Ty.slc tInt) (Ty.pair tInt (Ty.pair tInt (Ty.pair tInt Ty.unit))))
                    (K.kcons K.nilsl
                      (K.kcons (K.val tInt b1)
                        (K.kcons (K.val tInt (IntKind.wrap IntKind.i64 (b1_1 + 1)))
                          (K.kcons (K.val tInt b1_2) K.knil)))))),
              (0 + 1 + 1, Bx.cell (Ty.arr 16 tInt) b2),
              (0 + 1 + 1 + 1,
                Bx.obj tSpreadQueue_Packet
                  (K.agg (Ty.pair (Ty.slc tPacket) Ty.unit) (K.kcons (K.sl (0 + 1 + 1 + 1 + 1 + 1) tPacket) K.knil))),
              (0 + 1 + 1 + 1 + 1, Bx.cell tPacket b4), (0 + 1 + 1 + 1 + 1 + 1, Bx.row tPacket b5)])
          (TreeS.loop [] fx_spread_Deliver (lp f_spread_Deliver 15)
            [(0, K.val (Ty.slc tTrigger) v0), (4, K.ptr 0 tSpread []), (6, K.ptr (0 + 1) tSpread []),
              (7, K.ptr (0 + 1 + 1) (Ty.arr 16 tInt) []), (8, K.ptr (0 + 1 + 1 + 1) tSpreadQueue_Packet []),
              (9, K.ptr (0 + 1 + 1 + 1 + 1) tPacket []), (52, K.val (Ty.slc tOut) v52), (53, K.val tInt v53),
              (54, K.val tInt (IntKind.wrap IntKind.i64 (v54 + 1)))]
            [(0, Bx.cell tSpread b0),
              (0 + 1,
                Bx.obj tSpread
                  (K.agg (Ty.pair (Ty.slc tInt) (Ty.pair tInt (Ty.pair tInt (Ty.pair tInt Ty.unit))))
                    (K.kcons K.nilsl
                      (K.kcons (K.val tInt (IntKind.wrap IntKind.i64 (b1 + 1)))
                        (K.kcons (K.val tInt b1_1) (K.kcons (K.val tInt b1_2) K.knil)))))),
              (0 + 1 + 1, Bx.cell (Ty.arr 16 tInt) b2),
              (0 + 1 + 1 + 1,
                Bx.obj tSpreadQueue_Packet
                  (K.agg (Ty.pair (Ty.slc tPacket) Ty.unit) (K.kcons (K.sl (0 + 1 + 1 + 1 + 1 + 1) tPacket) K.knil))),
              (0 + 1 + 1 + 1 + 1, Bx.cell tPacket b4), (0 + 1 + 1 + 1 + 1 + 1, Bx.row tPacket b5)])))))
  (TreeS.ite (decide (lnx tPacket b5 = 0))
    (TreeS.loop [] fx_spread_Deliver (lp f_spread_Deliver 8)
      [(0, K.val (Ty.slc tTrigger) v0), (4, K.ptr 0 tSpread []), (6, K.ptr (0 + 1) tSpread []),
        (7, K.ptr (0 + 1 + 1) (Ty.arr 16 tInt) []), (8, K.ptr (0 + 1 + 1 + 1) tSpreadQueue_Packet []),
        (9, K.ptr (0 + 1 + 1 + 1 + 1) tPacket []), (10, K.val Ty.bool false)]
      [(0, Bx.cell tSpread b0),
        (0 + 1,
          Bx.obj tSpread
            (K.agg (Ty.pair (Ty.slc tInt) (Ty.pair tInt (Ty.pair tInt (Ty.pair tInt Ty.unit))))
              (K.kcons K.nilsl
                (K.kcons (K.val tInt b1) (K.kcons (K.val tInt b1_1) (K.kcons (K.val tInt b1_2) K.knil)))))),
        (0 + 1 + 1, Bx.cell (Ty.arr 16 tInt) b2),
        (0 + 1 + 1 + 1,
          Bx.obj tSpreadQueue_Packet
            (K.agg (Ty.pair (Ty.slc tPacket) Ty.unit) (K.kcons (K.sl (0 + 1 + 1 + 1 + 1 + 1) tPacket) K.knil))),
        (0 + 1 + 1 + 1 + 1, Bx.cell tPacket (zero tPacket)), (0 + 1 + 1 + 1 + 1 + 1, Bx.row tPacket b5)])
    (TreeS.req (inB 0 (lnx tPacket b5))
      (TreeS.req (inB 0 (lnx tPacket b5))
        (TreeS.req (vok 0 (List.length b5) (List.length b5))
          (TreeS.req (cutOk 1 (↑(List.length b5) : Int) (↑(List.length b5 - 0) : Int))
            (TreeS.req (0 + Int.toNat 1 + (Int.toNat (↑(List.length b5) : Int) - Int.toNat 1) ≤ List.length b5)
              (TreeS.loop [] fx_spread_Deliver (lp f_spread_Deliver 8)
                [(0, K.val (Ty.slc tTrigger) v0), (4, K.ptr 0 tSpread []), (6, K.ptr (0 + 1) tSpread []),
                  (7, K.ptr (0 + 1 + 1) (Ty.arr 16 tInt) []), (8, K.ptr (0 + 1 + 1 + 1) tSpreadQueue_Packet []),
                  (9, K.ptr (0 + 1 + 1 + 1 + 1) tPacket []), (10, K.val Ty.bool true)]
                [(0, Bx.cell tSpread b0),
                  (0 + 1,
                    Bx.obj tSpread
                      (K.agg (Ty.pair (Ty.slc tInt) (Ty.pair tInt (Ty.pair tInt (Ty.pair tInt Ty.unit))))
                        (K.kcons K.nilsl
                          (K.kcons (K.val tInt b1) (K.kcons (K.val tInt b1_1) (K.kcons (K.val tInt b1_2) K.knil)))))),
                  (0 + 1 + 1, Bx.cell (Ty.arr 16 tInt) b2),
                  (0 + 1 + 1 + 1,
                    Bx.obj tSpreadQueue_Packet
                      (K.agg (Ty.pair (Ty.slc tPacket) Ty.unit)
                        (K.kcons (K.sl (0 + 1 + 1 + 1 + 1 + 1) tPacket) K.knil))),
                  (0 + 1 + 1 + 1 + 1, Bx.cell tPacket (el tPacket b5 0)),
                  (0 + 1 + 1 + 1 + 1 + 1,
                    Bx.row tPacket
                      (List.take (Int.toNat (↑(List.length b5) : Int) - Int.toNat 1)
                        (List.drop (0 + Int.toNat 1) b5)))])))))))
theorem TL_spread_Deliver_15_eq (v0 : den (Ty.slc tTrigger)) (v52 : den (Ty.slc tOut)) (v53 : den tInt) (v54 : den tInt) (b0 : den tSpread) (b1 : den tInt) (b1_1 : den tInt) (b1_2 : den tInt) (b2 : den (Ty.arr 16 tInt)) (b4 : den tPacket) (b5 : List (den tPacket)) : treeS X_spread_Deliver M_spread_Deliver 5000 [] fx_spread_Deliver (lp f_spread_Deliver 15) (E_spread_Deliver_15 v0 v52 v53 v54 b0 b1 b1_1 b1_2 b2 b4 b5) = TL_spread_Deliver_15 v0 v52 v53 v54 b0 b1 b1_1 b1_2 b2 b4 b5 := by kernel_rfl

noncomputable def E_spread_Deliver_28 (v90 : den (Ty.arr 16 tInt)) (v91 : den tInt) (b0 : den tSpread) (b1 : den tInt) (b1_1 : den tInt) (b1_2 : den tInt) (b2 : List (den tInt)) : Env := Env.of
  [(4, K.ptr 0 tSpread []), (6, K.ptr (0 + 1) tSpread []), (90, K.val (Ty.arr 16 tInt) v90), (91, K.val tInt v91)]
  [(0, Bx.cell tSpread b0),
    (1,
      Bx.obj tSpread
        (K.agg (Ty.pair (Ty.slc tInt) (Ty.pair tInt (Ty.pair tInt (Ty.pair tInt Ty.unit))))
          (K.kcons (K.sl (0 + 1 + 1) tInt)
            (K.kcons (K.val tInt b1) (K.kcons (K.val tInt b1_1) (K.kcons (K.val tInt b1_2) K.knil)))))),
    (2, Bx.row tInt b2)]
noncomputable def TL_spread_Deliver_28 (v90 : den (Ty.arr 16 tInt)) (v91 : den tInt) (b0 : den tSpread) (b1 : den tInt) (b1_1 : den tInt) (b1_2 : den tInt) (b2 : List (den tInt)) : TreeS :=
  TreeS.ite (decide (v91 < 16))
  (TreeS.req (inB v91 (↑16 : Int))
    (TreeS.loop [] fx_spread_Deliver (lp f_spread_Deliver 31)
      [(4, K.ptr 0 tSpread []), (6, K.ptr (0 + 1) tSpread []), (15, K.val tInt v91), (90, K.val (Ty.arr 16 tInt) v90),
        (91, K.val tInt v91), (95, K.val tInt (el tInt v90 v91)), (96, K.val tInt 0)]
      [(0, Bx.cell tSpread b0),
        (0 + 1,
          Bx.obj tSpread
            (K.agg (Ty.pair (Ty.slc tInt) (Ty.pair tInt (Ty.pair tInt (Ty.pair tInt Ty.unit))))
              (K.kcons (K.sl (0 + 1 + 1) tInt)
                (K.kcons (K.val tInt b1) (K.kcons (K.val tInt b1_1) (K.kcons (K.val tInt b1_2) K.knil)))))),
        (0 + 1 + 1, Bx.row tInt b2)]))
  (TreeS.ret (K.val (Ty.pair tSpread (Ty.pair tInt Ty.unit)) ((b2, b1, b1_1, b1_2, PUnit.unit), 0, PUnit.unit)))
theorem TL_spread_Deliver_28_eq (v90 : den (Ty.arr 16 tInt)) (v91 : den tInt) (b0 : den tSpread) (b1 : den tInt) (b1_1 : den tInt) (b1_2 : den tInt) (b2 : List (den tInt)) : treeS X_spread_Deliver M_spread_Deliver 5000 [] fx_spread_Deliver (lp f_spread_Deliver 28) (E_spread_Deliver_28 v90 v91 b0 b1 b1_1 b1_2 b2) = TL_spread_Deliver_28 v90 v91 b0 b1 b1_1 b1_2 b2 := by kernel_rfl

noncomputable def E_spread_Deliver_31 (v15 : den tInt) (v90 : den (Ty.arr 16 tInt)) (v91 : den tInt) (v95 : den tInt) (v96 : den tInt) (b0 : den tSpread) (b1 : den tInt) (b1_1 : den tInt) (b1_2 : den tInt) (b2 : List (den tInt)) : Env := Env.of
  [(4, K.ptr 0 tSpread []), (6, K.ptr (0 + 1) tSpread []), (15, K.val tInt v15), (90, K.val (Ty.arr 16 tInt) v90),
    (91, K.val tInt v91), (95, K.val tInt v95), (96, K.val tInt v96)]
  [(0, Bx.cell tSpread b0),
    (1,
      Bx.obj tSpread
        (K.agg (Ty.pair (Ty.slc tInt) (Ty.pair tInt (Ty.pair tInt (Ty.pair tInt Ty.unit))))
          (K.kcons (K.sl (0 + 1 + 1) tInt)
            (K.kcons (K.val tInt b1) (K.kcons (K.val tInt b1_1) (K.kcons (K.val tInt b1_2) K.knil)))))),
    (2, Bx.row tInt b2)]
noncomputable def TL_spread_Deliver_31 (v15 : den tInt) (v90 : den (Ty.arr 16 tInt)) (v91 : den tInt) (v95 : den tInt) (v96 : den tInt) (b0 : den tSpread) (b1 : den tInt) (b1_1 : den tInt) (b1_2 : den tInt) (b2 : List (den tInt)) : TreeS :=
  TreeS.ite (decide (v96 < v95))
  (TreeS.req (List.length (b2 ++ List.set (List.replicate 1 (zero tInt)) 0 v15) ≤ most)
    (TreeS.loop [] fx_spread_Deliver (lp f_spread_Deliver 31)
      [(4, K.ptr 0 tSpread []), (6, K.ptr (0 + 1) tSpread []), (15, K.val tInt v15), (90, K.val (Ty.arr 16 tInt) v90),
        (91, K.val tInt v91), (95, K.val tInt v95), (96, K.val tInt (IntKind.wrap IntKind.i64 (v96 + 1)))]
      [(0, Bx.cell tSpread b0),
        (0 + 1,
          Bx.obj tSpread
            (K.agg (Ty.pair (Ty.slc tInt) (Ty.pair tInt (Ty.pair tInt (Ty.pair tInt Ty.unit))))
              (K.kcons (K.sl (0 + 1 + 1) tInt)
                (K.kcons (K.val tInt b1) (K.kcons (K.val tInt b1_1) (K.kcons (K.val tInt b1_2) K.knil)))))),
        (0 + 1 + 1, Bx.row tInt (b2 ++ List.set (List.replicate 1 (zero tInt)) 0 v15))]))
  (TreeS.loop [] fx_spread_Deliver (lp f_spread_Deliver 28)
    [(4, K.ptr 0 tSpread []), (6, K.ptr (0 + 1) tSpread []), (90, K.val (Ty.arr 16 tInt) v90),
      (91, K.val tInt (IntKind.wrap IntKind.i64 (v91 + 1)))]
    [(0, Bx.cell tSpread b0),
      (0 + 1,
        Bx.obj tSpread
          (K.agg (Ty.pair (Ty.slc tInt) (Ty.pair tInt (Ty.pair tInt (Ty.pair tInt Ty.unit))))
            (K.kcons (K.sl (0 + 1 + 1) tInt)
              (K.kcons (K.val tInt b1) (K.kcons (K.val tInt b1_1) (K.kcons (K.val tInt b1_2) K.knil)))))),
      (0 + 1 + 1, Bx.row tInt b2)])
theorem TL_spread_Deliver_31_eq (v15 : den tInt) (v90 : den (Ty.arr 16 tInt)) (v91 : den tInt) (v95 : den tInt) (v96 : den tInt) (b0 : den tSpread) (b1 : den tInt) (b1_1 : den tInt) (b1_2 : den tInt) (b2 : List (den tInt)) : treeS X_spread_Deliver M_spread_Deliver 5000 [] fx_spread_Deliver (lp f_spread_Deliver 31) (E_spread_Deliver_31 v15 v90 v91 v95 v96 b0 b1 b1_1 b1_2 b2) = TL_spread_Deliver_31 v15 v90 v91 v95 v96 b0 b1 b1_1 b1_2 b2 := by kernel_rfl

noncomputable abbrev fx_spread_Links : Fx := { fn := f_spread_Links, ann := { loops := [(5, { keep := [4, 10, 11, 12], own := [(4, tLink)] })] } }
noncomputable abbrev X_spread_Links : TabX := { D := { T := tyTab, F := [(n_table_Right, S_table_Right)], R := [], ovl := [] }, inl := [] }
noncomputable abbrev M_spread_Links : RMode := .data rs_spread_Links
theorem x_spread_Links (h_table_Right : FnOk prog [] n_table_Right S_table_Right) : XOk prog X_spread_Links := xok (dok_add (dok_nil tab_ok mixed_ok) h_table_Right) (by kernel_rfl) rows_nil inl_nil ovl_nil
noncomputable def T_spread_Links (t : den (Ty.slc tTrigger)) : TreeS :=
  TreeS.req (List.length t ≤ 1000000)
  (TreeS.ite (!g_Right t) (TreeS.ret (K.val (Ty.pair (Ty.slc tLink) (Ty.pair tInt Ty.unit)) ([], 1, PUnit.unit)))
    (TreeS.loop [] fx_spread_Links (lp f_spread_Links 5)
      [(4, K.sl 0 tLink), (10, K.val (Ty.slc tTrigger) t), (11, K.val tInt (lnx tTrigger t)), (12, K.val tInt 0)]
      [(0, Bx.row tLink [])]))
theorem T_spread_Links_eq (t : den (Ty.slc tTrigger)) : treeS X_spread_Links M_spread_Links 5000 [] fx_spread_Links (bodyOf f_spread_Links) (Env.of
  (argEnv as_spread_Links (t, ()) 0) []) = T_spread_Links t := by kernel_rfl

noncomputable def E_spread_Links_5 (v10 : den (Ty.slc tTrigger)) (v11 : den tInt) (v12 : den tInt) (b0 : List (den tLink)) : Env := Env.of
  [(4, K.sl 0 tLink), (10, K.val (Ty.slc tTrigger) v10), (11, K.val tInt v11), (12, K.val tInt v12)]
  [(0, Bx.row tLink b0)]
noncomputable def TL_spread_Links_5 (v10 : den (Ty.slc tTrigger)) (v11 : den tInt) (v12 : den tInt) (b0 : List (den tLink)) : TreeS :=
  TreeS.ite (decide (v12 < v11))
  (TreeS.req (inB v12 (lnx tTrigger v10))
    (TreeS.ite (decide (Prod.fst (Prod.fst (Prod.snd (el tTrigger v10 v12))) = 1))
      (TreeS.req
        (List.length
            (b0 ++
              List.set (List.replicate 1 (zero tLink)) 0
                (Prod.fst (el tTrigger v10 v12), Prod.fst (Prod.snd (Prod.fst (Prod.snd (el tTrigger v10 v12)))),
                  Prod.snd (Prod.snd (zero (Ty.pair tId (Ty.pair tId Ty.unit)))))) ≤
          most)
        (TreeS.loop [] fx_spread_Links (lp f_spread_Links 5)
          [(4, K.sl 0 tLink), (10, K.val (Ty.slc tTrigger) v10), (11, K.val tInt v11),
            (12, K.val tInt (IntKind.wrap IntKind.i64 (v12 + 1)))]
          [(0,
              Bx.row tLink
                (b0 ++
                  List.set (List.replicate 1 (zero tLink)) 0
                    (Prod.fst (el tTrigger v10 v12), Prod.fst (Prod.snd (Prod.fst (Prod.snd (el tTrigger v10 v12)))),
                      Prod.snd (Prod.snd (zero (Ty.pair tId (Ty.pair tId Ty.unit)))))))]))
      (TreeS.loop [] fx_spread_Links (lp f_spread_Links 5)
        [(4, K.sl 0 tLink), (10, K.val (Ty.slc tTrigger) v10), (11, K.val tInt v11),
          (12, K.val tInt (IntKind.wrap IntKind.i64 (v12 + 1)))]
        [(0, Bx.row tLink b0)])))
  (TreeS.ret (K.val (Ty.pair (Ty.slc tLink) (Ty.pair tInt Ty.unit)) (b0, 0, PUnit.unit)))
theorem TL_spread_Links_5_eq (v10 : den (Ty.slc tTrigger)) (v11 : den tInt) (v12 : den tInt) (b0 : List (den tLink)) : treeS X_spread_Links M_spread_Links 5000 [] fx_spread_Links (lp f_spread_Links 5) (E_spread_Links_5 v10 v11 v12 b0) = TL_spread_Links_5 v10 v11 v12 b0 := by kernel_rfl

noncomputable abbrev fx_r14_Same : Fx := { fn := f_r14_Same, ann := { loops := [(4, { keep := [2, 3, 36, 37] })] } }
noncomputable abbrev X_r14_Same : TabX := { D := { T := tyTab, F := [], R := [], ovl := [] }, inl := [] }
noncomputable abbrev M_r14_Same : RMode := .data rs_r14_Same
theorem x_r14_Same : XOk prog X_r14_Same := xok ((dok_nil tab_ok mixed_ok)) (by kernel_rfl) rows_nil inl_nil ovl_nil
noncomputable def T_r14_Same (a : den tSpread) (b : den tSpread) : TreeS :=
  TreeS.ite
  (bif
      bif
          bif !decide (lnx tInt (Prod.fst a) = lnx tInt (Prod.fst b)) then true
          else !decide (Prod.fst (Prod.snd a) = Prod.fst (Prod.snd b)) then
        true
      else !decide (Prod.fst (Prod.snd (Prod.snd a)) = Prod.fst (Prod.snd (Prod.snd b))) then
    true
  else !decide (Prod.fst (Prod.snd (Prod.snd (Prod.snd a))) = Prod.fst (Prod.snd (Prod.snd (Prod.snd b)))))
  (TreeS.ret (K.val (Ty.pair Ty.bool Ty.unit) (false, PUnit.unit)))
  (TreeS.loop [] fx_r14_Same (lp f_r14_Same 4)
    [(2, K.ptr 0 tSpread []), (3, K.ptr (0 + 1) tSpread []), (36, K.val tInt (lnx tInt (Prod.fst a))),
      (37, K.val tInt 0)]
    [(0, Bx.cell tSpread a), (0 + 1, Bx.cell tSpread b)])
theorem T_r14_Same_eq (a : den tSpread) (b : den tSpread) : treeS X_r14_Same M_r14_Same 5000 [] fx_r14_Same (bodyOf f_r14_Same) (Env.of
  (argEnv as_r14_Same (a, b, ()) 0) []) = T_r14_Same a b := by kernel_rfl

noncomputable def E_r14_Same_4 (v36 : den tInt) (v37 : den tInt) (b0 : den tSpread) (b1 : den tSpread) : Env := Env.of
  [(2, K.ptr 0 tSpread []), (3, K.ptr (0 + 1) tSpread []), (36, K.val tInt v36), (37, K.val tInt v37)]
  [(0, Bx.cell tSpread b0), (1, Bx.cell tSpread b1)]
noncomputable def TL_r14_Same_4 (v36 : den tInt) (v37 : den tInt) (b0 : den tSpread) (b1 : den tSpread) : TreeS :=
  TreeS.ite (decide (v37 < v36))
  (TreeS.req (inB v37 (lnx tInt (Prod.fst b0)))
    (TreeS.req (inB v37 (lnx tInt (Prod.fst b1)))
      (TreeS.ite (!decide (el tInt (Prod.fst b0) v37 = el tInt (Prod.fst b1) v37))
        (TreeS.ret (K.val (Ty.pair Ty.bool Ty.unit) (false, PUnit.unit)))
        (TreeS.loop [] fx_r14_Same (lp f_r14_Same 4)
          [(2, K.ptr 0 tSpread []), (3, K.ptr (0 + 1) tSpread []), (36, K.val tInt v36),
            (37, K.val tInt (IntKind.wrap IntKind.i64 (v37 + 1)))]
          [(0, Bx.cell tSpread b0), (0 + 1, Bx.cell tSpread b1)]))))
  (TreeS.ret (K.val (Ty.pair Ty.bool Ty.unit) (true, PUnit.unit)))
theorem TL_r14_Same_4_eq (v36 : den tInt) (v37 : den tInt) (b0 : den tSpread) (b1 : den tSpread) : treeS X_r14_Same M_r14_Same 5000 [] fx_r14_Same (lp f_r14_Same 4) (E_r14_Same_4 v36 v37 b0 b1) = TL_r14_Same_4 v36 v37 b0 b1 := by kernel_rfl

noncomputable abbrev fx_l14_cut : Fx := { fn := f_l14_cut, ann := { } }
noncomputable abbrev X_l14_cut : TabX := { D := { T := tyTab, F := [], R := [], ovl := [] }, inl := [] }
noncomputable abbrev M_l14_cut : RMode := .data rs_l14_cut
theorem x_l14_cut : XOk prog X_l14_cut := xok ((dok_nil tab_ok mixed_ok)) (by kernel_rfl) rows_nil inl_nil ovl_nil
noncomputable def T_l14_cut (p : den tPacket) : TreeS :=
  TreeS.req (cutOk 0 (minI (lnx tEntry (Prod.fst p)) 6) (lnx tEntry (Prod.fst p)))
  (TreeS.req (cutOk 0 (minI (sLen (Prod.fst (Prod.snd (Prod.snd p)))) 70) (sLen (Prod.fst (Prod.snd (Prod.snd p)))))
    (TreeS.ret
      (K.val (Ty.pair tPacket Ty.unit)
        ((lCutx tEntry (Prod.fst p) 0 (minI (lnx tEntry (Prod.fst p)) 6), Prod.fst (Prod.snd p),
            sCut (Prod.fst (Prod.snd (Prod.snd p))) 0 (minI (sLen (Prod.fst (Prod.snd (Prod.snd p)))) 70),
            Prod.snd (Prod.snd (Prod.snd (zero (Ty.pair (Ty.slc tEntry) (Ty.pair tInt (Ty.pair Ty.str Ty.unit))))))),
          PUnit.unit))))
theorem T_l14_cut_eq (p : den tPacket) : treeS X_l14_cut M_l14_cut 5000 [] fx_l14_cut (bodyOf f_l14_cut) (Env.of
  (argEnv as_l14_cut (p, ()) 0) []) = T_l14_cut p := by kernel_rfl

noncomputable abbrev fx_l14_few : Fx := { fn := f_l14_few, ann := { } }
noncomputable abbrev X_l14_few : TabX := { D := { T := tyTab, F := [], R := [], ovl := [] }, inl := [] }
noncomputable abbrev M_l14_few : RMode := .data rs_l14_few
theorem x_l14_few : XOk prog X_l14_few := xok ((dok_nil tab_ok mixed_ok)) (by kernel_rfl) rows_nil inl_nil ovl_nil
noncomputable def T_l14_few (t : den (Ty.slc tTrigger)) : TreeS :=
  TreeS.req (cutOk 0 (minI (lnx tTrigger t) 34) (lnx tTrigger t))
  (TreeS.ret (K.val (Ty.pair (Ty.slc tTrigger) Ty.unit) (lCutx tTrigger t 0 (minI (lnx tTrigger t) 34), PUnit.unit)))
theorem T_l14_few_eq (t : den (Ty.slc tTrigger)) : treeS X_l14_few M_l14_few 5000 [] fx_l14_few (bodyOf f_l14_few) (Env.of
  (argEnv as_l14_few (t, ()) 0) []) = T_l14_few t := by kernel_rfl

end Go.Proofs.Ytnccacngedeoeaa

/- Where a packet comes to: what is computed. -/
namespace Go.Proofs.Ytnccacngedeoeaa
open Go Go.RowKit

theorem all_eq {P : TreeS → Prop} {A : Type} {e : A} {f : A → TreeS} (h : P (f e)) : ∀ q, q = e → P (f q) := fun q hq => by cases hq; exact h

/-- How often each host is come to; how many are lost; dead by hops. -/
abbrev Sx := List Int × Int × Int
def elI (l : List Int) (n : Int) : Int := el tInt l n
def oKind (o : Ou) : Int := o.1
def oHost (o : Ou) : Int := o.2.1
def oPk (o : Ou) : Pk := o.2.2.1
def oWhy (o : Ou) : Int := o.2.2.2.2.1
def bump (s : Sx) (o : Ou) : Sx :=
  if oKind o = 1 then (setAtx tInt s.1 (oHost o) (elI s.1 (oHost o) + 1), s.2)
  else if oKind o = 2 then s
  else if oWhy o = 9 then (s.1, s.2.1, s.2.2 + 1)
  else (s.1, s.2.1 + 1, s.2.2)
def pushO (o : Ou) : List Pk := if oKind o = 1 then [] else if oKind o = 2 then [oPk o] else []
def runD (t : List Tg) : Nat → Sx → Nat → List Pk → Option (Sx × Nat)
  | _, s, k, [] => some (s, k)
  | 0, _, _, _ :: _ => none
  | n + 1, s, k, p :: q => runD t n ((g_Step t p).1.foldl bump s) (k + 1) (q ++ (g_Step t p).1.flatMap pushO)
def hostsN (o : List Int) : Nat → List Int
  | 0 => []
  | n + 1 => hostsN o n ++ List.replicate (Int.toNat (elI o (n : Int))) (n : Int)
def finD : Option (Sx × Nat) → den tSpread × Int × Unit
  | none => (zero tSpread, 8, ())
  | some (s, k) => ((hostsN s.1 16, s.2.1, s.2.2, (k : Int), ()), 0, ())
def s0 : Sx := (List.replicate 16 0, 0, 0)
def g_Deliver (t : List Tg) (p : Pk) : den tSpread × Int × Unit :=
  if g_Right t = true ∧ g_packetRight p = true then finD (runD t 1000 s0 0 [p]) else (zero tSpread, 1, ())
noncomputable abbrev S_spread_Deliver : Spec := ⟨as_spread_Deliver, rs_spread_Deliver, fun x => g_Deliver x.1 x.2.1, fun x => x.1.length ≤ 1000000 ∧ x.2.1.1.length ≤ 1000000, false⟩

def InvS (m : Nat) (s : Sx) : Prop := s.1.length = 16 ∧ (∀ i : Nat, i < 16 → 0 ≤ elI s.1 (i : Int) ∧ elI s.1 (i : Int) ≤ (m : Int)) ∧ 0 ≤ s.2.1 ∧ s.2.1 ≤ (m : Int) ∧ 0 ≤ s.2.2 ∧ s.2.2 ≤ (m : Int)
theorem inv_s0 : InvS 0 s0 := ⟨rfl, by decide, by decide, by decide, by decide, by decide⟩
theorem InvS.mono {m n : Nat} {s : Sx} (h : InvS m s) (hm : m ≤ n) : InvS n s :=
  ⟨h.1, fun i hi => ⟨(h.2.1 i hi).1, Int.le_trans (h.2.1 i hi).2 (Int.ofNat_le.2 hm)⟩, h.2.2.1, Int.le_trans h.2.2.2.1 (Int.ofNat_le.2 hm), h.2.2.2.2.1, Int.le_trans h.2.2.2.2.2 (Int.ofNat_le.2 hm)⟩
theorem el_set {l : List Int} {i j : Nat} (x : Int) (hj : j < l.length) : elI (setAtx tInt l (i : Int) x) (j : Int) = if i = j then x else elI l (j : Int) := by
  show ((l.set (Int.toNat (i : Int)) x).getD (Int.toNat (j : Int)) 0) = _
  rw [Int.toNat_natCast]
  unfold elI el
  rw [Int.toNat_natCast, List.getD_eq_getElem?_getD, List.getD_eq_getElem?_getD, List.getElem?_set]
  by_cases h : i = j
  · subst h
    rw [if_pos rfl, if_pos hj, if_pos rfl]
    rfl
  · rw [if_neg h, if_neg h]
    rfl
theorem inv_bump {m : Nat} {s : Sx} {o : Ou} (h : InvS m s) (ho : oKind o = 1 → 0 ≤ oHost o ∧ oHost o < 16) : InvS (m + 1) (bump s o) := by
  obtain ⟨h1, h2, h3, h4, h5, h6⟩ := h
  unfold bump
  split
  · rename_i e
    obtain ⟨i, hi⟩ : ∃ i : Nat, (i : Int) = oHost o := ⟨Int.toNat (oHost o), Int.toNat_of_nonneg (ho e).1⟩
    have hi16 : i < 16 := by have := (ho e).2; omega
    refine ⟨?_, fun j hj => ?_, h3, by show s.2.1 ≤ _; omega, h5, by show s.2.2 ≤ _; omega⟩
    · show (s.1.set _ _).length = 16
      rw [List.length_set]
      exact h1
    · rw [← hi]
      show 0 ≤ elI (setAtx tInt s.1 (i : Int) _) (j : Int) ∧ elI (setAtx tInt s.1 (i : Int) _) (j : Int) ≤ _
      rw [el_set _ (by omega)]
      split
      · have := h2 i hi16
        omega
      · have := h2 j hj
        omega
  · split
    · exact ⟨h1, fun i hi => ⟨(h2 i hi).1, by have := (h2 i hi).2; omega⟩, h3, by omega, h5, by omega⟩
    · split
      · exact ⟨h1, fun i hi => ⟨(h2 i hi).1, by have := (h2 i hi).2; show elI s.1 (i : Int) ≤ ((m + 1 : Nat) : Int); omega⟩, h3, by show s.2.1 ≤ _; omega, by show 0 ≤ s.2.2 + 1; omega, by show s.2.2 + 1 ≤ _; omega⟩
      · exact ⟨h1, fun i hi => ⟨(h2 i hi).1, by have := (h2 i hi).2; show elI s.1 (i : Int) ≤ ((m + 1 : Nat) : Int); omega⟩, by show 0 ≤ s.2.1 + 1; omega, by show s.2.1 + 1 ≤ _; omega, h5, by show s.2.2 ≤ _; omega⟩

/-- What comes out of a step. -/
def OutOk (o : Ou) : Prop := (oKind o = 1 → 0 ≤ oHost o ∧ oHost o < 16) ∧ (oPk o).1.length ≤ 4
theorem push_len (l front : List Ent) : (g_Push l front).1.length ≤ 4 := by
  unfold g_Push
  split
  · split
    · show (front ++ l).length ≤ 4
      rw [List.length_append]; omega
    · exact Nat.zero_le _
  · exact Nat.zero_le _
theorem on_ok (p : Pk) (x : Tg) (f : List Ent) : OutOk (g_on p x f) := ⟨fun h => absurd h (by show ¬ (2 : Int) = 1; decide), push_len _ _⟩
theorem dead_ok (w : Int) : ∀ o ∈ g_dead w, OutOk o := fun o ho => by
  rw [List.mem_singleton.1 ho]
  exact ⟨fun h => absurd h (by show ¬ (3 : Int) = 1; decide), Nat.zero_le _⟩
theorem right_len {p : Pk} (h : g_packetRight p = true) : 1 ≤ p.1.length ∧ p.1.length ≤ 4 ∧ g_all p.1 = true := by
  unfold g_packetRight g_stackRight at h
  simp only [Bool.and_eq_true, decide_eq_true_eq] at h
  exact ⟨h.1.1.1.1.1, h.1.1.1.1.2, h.1.1.1.2⟩
theorem first_is {p : Pk} (h : g_packetRight p = true) : g_Is (firstOf p) = true := by
  obtain ⟨h1, _, h3⟩ := right_len h
  unfold firstOf
  have hlt : 0 < p.1.length := h1
  have e : el tEntry p.1 0 = p.1[0] := el_at (e := tEntry) (i := 0) hlt
  rw [e]
  exact List.all_eq_true.1 h3 _ (List.getElem_mem hlt)
theorem match_len (t : List Tg) (id : den tId) : (g_Match t id).1.length ≤ 32 := by
  unfold g_Match
  split
  · rename_i h
    split
    · exact Nat.zero_le _
    · refine Nat.le_trans (List.length_filter_le _ _) ?_
      unfold g_Right at h
      rw [Bool.and_eq_true, decide_eq_true_eq] at h
      exact h.2
  · exact Nat.zero_le _
theorem step_ok (t : List Tg) (p : Pk) : (g_Step t p).1.length ≤ 32 ∧ ∀ o ∈ (g_Step t p).1, OutOk o := by
  by_cases h : g_packetRight p = true ∧ g_Right t = true
  · have hr := h.1
    by_cases hk : (firstOf p).1 = (2 : Int)
    · have e : (g_Step t p).1 = [(1, (firstOf p).2.2.1, p, zero tTrigger, 0, ())] := by unfold g_Step; rw [if_pos h, if_pos hk]
      rw [e]
      refine ⟨by show 1 ≤ 32; decide, fun o ho => ?_⟩
      rw [List.mem_singleton.1 ho]
      refine ⟨fun _ => ?_, (right_len hr).2.1⟩
      have hi := first_is hr
      unfold g_Is at hi
      have hk1 : ¬ (firstOf p).1 = (1 : Int) := fun h1 => absurd (h1.symm.trans hk) (by decide)
      rw [if_neg hk1, if_pos hk] at hi
      simp only [Bool.and_eq_true, decide_eq_true_eq] at hi
      exact ⟨hi.1.2, hi.2⟩
    · by_cases h0 : (p.2.1 : Int) = 0
      · have e : (g_Step t p).1 = g_dead 9 := by unfold g_Step; rw [if_pos h, if_neg hk, if_pos h0]
        rw [e]
        exact ⟨by show 1 ≤ 32; decide, dead_ok 9⟩
      · by_cases hm : (g_Match t (firstOf p).2.1).2 = 0
        · have e : (g_Step t p).1 = (g_Match t (firstOf p).2.1).1.map fun x => g_on p x [x.2.1] := by unfold g_Step; rw [if_pos h, if_neg hk, if_neg h0, if_pos hm]
          rw [e]
          refine ⟨by rw [List.length_map]; exact match_len _ _, fun o ho => ?_⟩
          obtain ⟨x, _, rfl⟩ := List.mem_map.1 ho
          exact on_ok _ _ _
        · by_cases h1 : 1 < p.1.length
          · have e : (g_Step t p).1 = [g_on p (zero tTrigger) []] := by unfold g_Step; rw [if_pos h, if_neg hk, if_neg h0, if_neg hm, if_pos h1]
            rw [e]
            refine ⟨by show 1 ≤ 32; decide, fun o ho => ?_⟩
            rw [List.mem_singleton.1 ho]
            exact on_ok _ _ _
          · have e : (g_Step t p).1 = g_dead 6 := by unfold g_Step; rw [if_pos h, if_neg hk, if_neg h0, if_neg hm, if_neg h1]
            rw [e]
            exact ⟨by show 1 ≤ 32; decide, dead_ok 6⟩
  · have e : g_Step t p = ([], 1) := by unfold g_Step; rw [if_neg h]
    rw [e]
    exact ⟨Nat.zero_le _, fun o ho => by cases ho⟩

end Go.Proofs.Ytnccacngedeoeaa

/- Where a packet comes to: contracts. -/
namespace Go.Proofs.Ytnccacngedeoeaa
open Go Go.RowKit

/-! ### What becomes of a packet -/

theorem zero_out_dead (w : Int) : g_dead w = [(3, 0, zero tPacket, zero tTrigger, w, ())] := rfl

def gl_rewrite_Step_15 (O : Nat → Prop) (w0 : World) (p : Pk) (h1 : 1 ≤ p.1.length) (h2 : p.1.length ≤ 1000000) (l : List Tg) (hl : l.length ≤ 1000000) :=
  PLift.up <| range_ind (σ := List Ou) l.length (fun i b => b = (l.take i).map fun x => g_on p x [x.2.1])
    (fun i b => GoodS prog X_rewrite_Step (Cx.base O w0) (Ends prog O w0 rs_rewrite_Step fun y => y = (l.map (fun x => g_on p x [x.2.1]), 0, ())) [] fx_rewrite_Step (lp f_rewrite_Step 15) (E_rewrite_Step_15 l (lnx tTrigger l) (i : Nat) p b))
    (fun i b hi hb ih => goodS_of (x_rewrite_Step k_rewrite_Right k_table_Right k_table_Match k_rewrite_dead k_rewrite_on) (TL_rewrite_Step_15_eq l _ _ p b) (by
      refine ⟨fun _ => ⟨inB_of hi, ⟨h1, h2, by show 1 ≤ 1000000; decide⟩, ?_, ?_⟩, fun h => ?_⟩
      · rw [hb, List.length_append, List.length_map, List.length_take]
        exact Nat.le_trans (show _ + 1 ≤ 1000002 by omega) (by decide)
      · rw [wr_idx hi (by omega)]
        refine ih _ ?_
        rw [el_at hi, hb, List.take_succ_eq_append_getElem hi, List.map_append]
        rfl
      · rw [lnx_nat] at h
        exact absurd hi (of_decide_eq_false h)))
    (fun b hb => goodS_of (x_rewrite_Step k_rewrite_Right k_table_Right k_table_Match k_rewrite_dead k_rewrite_on) (TL_rewrite_Step_15_eq l _ _ p b) (by
      refine ⟨fun h => ?_, fun _ => ⟨_, rfl, ?_⟩⟩
      · rw [lnx_nat] at h
        exact absurd (of_decide_eq_true h) (Nat.lt_irrefl _)
      · rw [List.take_length] at hb
        rw [hb]))

theorem k_rewrite_Step : FnOk prog [] n_rewrite_Step S_rewrite_Step :=
  fnS_T (S := S_rewrite_Step) (x_rewrite_Step k_rewrite_Right k_table_Right k_table_Match k_rewrite_dead k_rewrite_on) (fx := fx_rewrite_Step) at_rewrite_Step (by kernel_rfl) (fun h => by cases h) (T := fun x => T_rewrite_Step x.1 x.2.1) (fun x => T_rewrite_Step_eq x.1 x.2.1) fun O w0 x _ hp => by
    obtain ⟨t, p, ⟨⟩⟩ := x
    have ht : t.length ≤ 1000000 := hp.1
    have hpl : p.1.length ≤ 1000000 := hp.2
    have hgoal : ∀ y : List Ou × Int, g_Step t p = y → S_rewrite_Step.g (t, p, ()) = (y.1, y.2, ()) := fun y hy => by
      show ((g_Step t p).1, (g_Step t p).2, ()) = _
      rw [hy]
    have hc : (bif !g_packetRight p then true else !g_Right t) = !(g_packetRight p && g_Right t) := by cases g_packetRight p <;> cases g_Right t <;> rfl
    refine ⟨hpl, fun _ => ht, fun h => ⟨_, rfl, ?_⟩, fun h => ?_⟩
    · rw [hc] at h
      have hn : ¬ (g_packetRight p = true ∧ g_Right t = true) := fun ⟨a, b⟩ => by rw [a, b] at h; cases h
      exact (hgoal ([], 1) (by unfold g_Step; rw [if_neg hn])).symm
    · rw [hc] at h
      have hy : g_packetRight p = true ∧ g_Right t = true := by cases ha : g_packetRight p <;> cases hb : g_Right t <;> rw [ha, hb] at h <;> first | exact ⟨rfl, rfl⟩ | cases h
      obtain ⟨hl1, hl4, _⟩ := right_len hy.1
      refine ⟨⟨by decide, show (0 : Int) < (p.1.length : Int) by omega⟩, ht, fun hk => ⟨_, rfl, ?_⟩, fun hk => ⟨fun h0 => ⟨trivial, _, rfl, ?_⟩, fun h0 => ⟨fun hm => ⟨⟨hl1, hpl, Nat.zero_le _⟩, _, rfl, ?_⟩, fun hm => ⟨fun hm2 => ⟨trivial, _, rfl, ?_⟩, fun hm2 => ?_⟩⟩⟩⟩
      · have hk : (firstOf p).1 = (2 : Int) := of_decide_eq_true hk
        exact (hgoal ([(1, (firstOf p).2.2.1, p, zero tTrigger, 0, ())], 0) (by unfold g_Step; rw [if_pos hy, if_pos hk])).symm
      all_goals have hk : ¬ (firstOf p).1 = (2 : Int) := of_decide_eq_false hk
      · have h0 : (p.2.1 : Int) = 0 := of_decide_eq_true h0
        exact (hgoal (g_dead 9, 0) (by unfold g_Step; rw [if_pos hy, if_neg hk, if_pos h0])).symm
      all_goals have h0 : ¬ (p.2.1 : Int) = 0 := of_decide_eq_false h0
      · have hm : (bif !decide ((g_Match t (firstOf p).2.1).2 = (0 : Int)) then decide ((1 : Int) < lnx tEntry p.1) else false) = true := hm
        have hn : ¬ (g_Match t (firstOf p).2.1).2 = 0 := fun e => by rw [decide_eq_true e] at hm; cases hm
        rw [decide_eq_false hn] at hm
        have h1 : 1 < p.1.length := Int.ofNat_lt.1 (of_decide_eq_true hm)
        exact (hgoal ([g_on p (zero tTrigger) []], 0) (by unfold g_Step; rw [if_pos hy, if_neg hk, if_neg h0, if_neg hn, if_pos h1])).symm
      · have hm : (bif !decide ((g_Match t (firstOf p).2.1).2 = (0 : Int)) then decide ((1 : Int) < lnx tEntry p.1) else false) = false := hm
        have hm2 : (!decide ((g_Match t (firstOf p).2.1).2 = (0 : Int))) = true := hm2
        have hn : ¬ (g_Match t (firstOf p).2.1).2 = 0 := fun e => by rw [decide_eq_true e] at hm2; cases hm2
        rw [decide_eq_false hn] at hm
        have h1 : ¬ 1 < p.1.length := fun h => of_decide_eq_false hm (Int.ofNat_lt.2 h)
        exact (hgoal (g_dead 6, 0) (by unfold g_Step; rw [if_pos hy, if_neg hk, if_neg h0, if_neg hn, if_neg h1])).symm
      · have hm2 : (!decide ((g_Match t (firstOf p).2.1).2 = (0 : Int))) = false := hm2
        have hn : (g_Match t (firstOf p).2.1).2 = 0 := by
          by_cases e : (g_Match t (firstOf p).2.1).2 = 0
          · exact e
          · rw [decide_eq_false e] at hm2; cases hm2
        have e := hgoal ((g_Match t (firstOf p).2.1).1.map fun x => g_on p x [x.2.1], 0) (by unfold g_Step; rw [if_pos hy, if_neg hk, if_neg h0, if_pos hn])
        rw [e]
        exact (gl_rewrite_Step_15 O w0 p hl1 hpl (g_Match t (firstOf p).2.1).1 (Nat.le_trans (match_len _ _) (by decide))).down 0 [] (Nat.zero_le _) rfl

/-! ### The queue -/

theorem xs_Deliver : XOk prog X_spread_Deliver := x_spread_Deliver k_table_Right k_rewrite_Right k_rewrite_Step

theorem hostsN_len {m : Nat} {o : List Int} (h : ∀ i : Nat, i < 16 → 0 ≤ elI o (i : Int) ∧ elI o (i : Int) ≤ (m : Int)) : ∀ n : Nat, n ≤ 16 → (hostsN o n).length ≤ n * m
  | 0, _ => by simp [hostsN]
  | n + 1, hn => by
    show (hostsN o n ++ List.replicate _ _).length ≤ _
    have h1 := hostsN_len h n (by omega)
    have h2 := h n (by omega)
    rw [List.length_append, List.length_replicate, Nat.add_mul, Nat.one_mul]
    omega

def gl_Deliver_31 (O : Nat → Prop) (w0 : World) (b0 : den tSpread) (o : List Int) (lost hops work : Int) (i : Nat) (y : den tSpread × Int × Unit) (c : Nat)
    (hdone : ∀ b : List Int, b = hostsN o i ++ List.replicate c (i : Int) → GoodS prog X_spread_Deliver (Cx.base O w0) (Ends prog O w0 rs_spread_Deliver fun z => z = y) [] fx_spread_Deliver (lp f_spread_Deliver 28) (E_spread_Deliver_28 o (IntKind.wrap .i64 ((i : Int) + 1)) b0 lost hops work b))
    (hle : (hostsN o i).length + c ≤ 1000000) :=
  PLift.up <| range_ind (σ := List Int) c (fun j b => b = hostsN o i ++ List.replicate j (i : Int))
    (fun j b => GoodS prog X_spread_Deliver (Cx.base O w0) (Ends prog O w0 rs_spread_Deliver fun z => z = y) [] fx_spread_Deliver (lp f_spread_Deliver 31) (E_spread_Deliver_31 (i : Int) o (i : Int) (c : Int) (j : Nat) b0 lost hops work b))
    (fun j b hj hb ih => goodS_of xs_Deliver (TL_spread_Deliver_31_eq _ _ _ _ _ _ _ _ _ b) (by
      refine ⟨fun _ => ⟨?_, ?_⟩, fun h => ?_⟩
      · rw [hb, List.length_append, List.length_append, List.length_replicate]
        exact Nat.le_trans (show _ + 1 ≤ 1000001 by omega) (by decide)
      · rw [wr_idx hj (by omega)]
        refine ih _ ?_
        rw [hb, List.append_assoc]
        congr 1
        exact (List.replicate_succ' ..).symm
      · exact absurd (Int.ofNat_lt.2 hj) (of_decide_eq_false h)))
    (fun b hb => goodS_of xs_Deliver (TL_spread_Deliver_31_eq _ _ _ _ _ _ _ _ _ b) (by
      refine ⟨fun h => ?_, fun _ => hdone b hb⟩
      exact absurd (Int.ofNat_lt.1 (of_decide_eq_true h)) (Nat.lt_irrefl _)))

def gl_Deliver_28 (O : Nat → Prop) (w0 : World) (b0 : den tSpread) (s : Sx) (k m : Nat) (hs : InvS m s) (hm : m ≤ 40000) :=
  PLift.up <| range_ind (σ := List Int) 16 (fun i b => b = hostsN s.1 i)
    (fun i b => GoodS prog X_spread_Deliver (Cx.base O w0) (Ends prog O w0 rs_spread_Deliver fun z => z = finD (some (s, k))) [] fx_spread_Deliver (lp f_spread_Deliver 28) (E_spread_Deliver_28 s.1 (i : Nat) b0 s.2.1 s.2.2 (k : Int) b))
    (fun i b hi hb ih => goodS_of xs_Deliver (TL_spread_Deliver_28_eq _ _ _ _ _ _ b) (by
      have he := hs.2.1 i hi
      have hlen := hostsN_len hs.2.1 i (by omega)
      have hmul : i * m ≤ 15 * 40000 := Nat.mul_le_mul (by omega) hm
      have hc : ((Int.toNat (elI s.1 (i : Int)) : Nat) : Int) = elI s.1 (i : Int) := Int.toNat_of_nonneg he.1
      refine ⟨fun _ => ⟨inB_of hi, ?_⟩, fun h => ?_⟩
      · have := (gl_Deliver_31 O w0 b0 s.1 s.2.1 s.2.2 (k : Int) i (finD (some (s, k))) (Int.toNat (elI s.1 (i : Int))) (fun b' hb' => by
          rw [wr_idx hi (by omega)]
          exact ih b' hb') (by omega)).down 0 b (Nat.zero_le _) (by rw [hb, List.replicate_zero, List.append_nil])
        rw [hc] at this
        exact this
      · exact absurd (Int.ofNat_lt.2 hi) (of_decide_eq_false h)))
    (fun b hb => goodS_of xs_Deliver (TL_spread_Deliver_28_eq _ _ _ _ _ _ b) (by
      refine ⟨fun h => ?_, fun _ => ⟨_, rfl, ?_⟩⟩
      · exact absurd (of_decide_eq_true h) (by decide)
      · rw [hb]
        rfl))

end Go.Proofs.Ytnccacngedeoeaa

/- Where a packet comes to: the queue's contract. -/
namespace Go.Proofs.Ytnccacngedeoeaa
open Go Go.RowKit

noncomputable def E8 (t : List Tg) (b0 : den tSpread) (s : Sx) (k : Nat) : List Pk → Env
  | [] => E_spread_Deliver_8 t false b0 s.2.1 s.2.2 (k : Int) s.1 (zero tPacket) []
  | p :: q => E_spread_Deliver_8 t true b0 s.2.1 s.2.2 (k : Int) s.1 p q

theorem inv_fold {m : Nat} : ∀ {l : List Ou} {s : Sx}, InvS m s → (∀ o ∈ l, OutOk o) → InvS (m + l.length) (l.foldl bump s)
  | [], s, h, _ => h
  | o :: l, s, h, ho => by
    have h1 := inv_bump h (ho o List.mem_cons_self).1
    have h2 := inv_fold (l := l) h1 fun x hx => ho x (List.mem_cons_of_mem _ hx)
    rw [List.length_cons]
    exact h2.mono (by omega)
theorem push_len1 (o : Ou) : (pushO o).length ≤ 1 := by
  unfold pushO
  split
  · exact Nat.zero_le _
  · split
    · exact Nat.le_refl _
    · exact Nat.zero_le _
theorem push_lenL : ∀ l : List Ou, (l.flatMap pushO).length ≤ l.length
  | [] => Nat.le_refl _
  | o :: l => by
    rw [List.flatMap_cons, List.length_append, List.length_cons]
    have h1 := push_len1 o
    have h2 := push_lenL l
    omega
theorem push_ok {l : List Ou} (h : ∀ o ∈ l, OutOk o) : ∀ p ∈ l.flatMap pushO, p.1.length ≤ 4 := fun p hp => by
  obtain ⟨o, ho, hp⟩ := List.mem_flatMap.1 hp
  unfold pushO at hp
  split at hp
  · cases hp
  · split at hp
    · rw [List.mem_singleton.1 hp]
      exact (h o ho).2
    · cases hp

theorem inc_ok {n : Int} (h : 0 ≤ n) (h1 : n ≤ 100000) : IntKind.wrap .i64 (n + 1) = n + 1 := small_i64 (by omega)

def gl_Deliver_15 (O : Nat → Prop) (w0 : World) (t : List Tg) (b0 : den tSpread) (s : Sx) (k m : Nat) (p : Pk) (q : List Pk) (l : List Ou) (y : den tSpread × Int × Unit) (hs : InvS m s) (hm : m + l.length ≤ 40000) (hl : ∀ o ∈ l, OutOk o) (hq : q.length + l.length ≤ 40000)
    (hdone : GoodS prog X_spread_Deliver (Cx.base O w0) (Ends prog O w0 rs_spread_Deliver fun z => z = y) [] fx_spread_Deliver (lp f_spread_Deliver 8) (E8 t b0 (l.foldl bump s) k (q ++ l.flatMap pushO))) :=
  PLift.up <| range_ind (σ := Sx × List Pk) l.length (fun i b => b = ((l.take i).foldl bump s, q ++ (l.take i).flatMap pushO))
    (fun i b => GoodS prog X_spread_Deliver (Cx.base O w0) (Ends prog O w0 rs_spread_Deliver fun z => z = y) [] fx_spread_Deliver (lp f_spread_Deliver 15) (E_spread_Deliver_15 t l (lnx tOut l) (i : Nat) b0 b.1.2.1 b.1.2.2 (k : Int) b.1.1 p b.2))
    (fun i b hi hb ih => goodS_of xs_Deliver (TL_spread_Deliver_15_eq t l _ _ b0 _ _ _ _ p b.2) (by
      have ho := hl _ (List.getElem_mem hi)
      have hI : InvS (m + i) b.1 := by
        rw [hb]
        have := inv_fold (l := l.take i) hs fun o h => hl o (List.mem_of_mem_take h)
        rw [List.length_take, Nat.min_eq_left (Nat.le_of_lt hi)] at this
        exact this
      have hql : b.2.length ≤ q.length + i := by
        rw [hb, List.length_append]
        have := push_lenL (l.take i)
        rw [List.length_take, Nat.min_eq_left (Nat.le_of_lt hi)] at this
        omega
      have e : el tOut l (i : Nat) = l[i] := el_at hi
      have hnext : ∀ s' q', s' = bump b.1 l[i] → q' = b.2 ++ pushO l[i] → GoodS prog X_spread_Deliver (Cx.base O w0) (Ends prog O w0 rs_spread_Deliver fun z => z = y) [] fx_spread_Deliver (lp f_spread_Deliver 15) (E_spread_Deliver_15 t l (lnx tOut l) (IntKind.wrap .i64 ((i : Int) + 1)) b0 s'.2.1 s'.2.2 (k : Int) s'.1 p q') := by
        intro s' q' e1 e2
        rw [wr_idx hi (by omega)]
        refine ih (s', q') ?_
        rw [e1, e2, hb, List.take_succ_eq_append_getElem hi, List.foldl_append, List.flatMap_append, List.append_assoc]
        simp only [List.foldl_cons, List.foldl_nil, List.flatMap_cons, List.flatMap_nil, List.append_nil]
      refine ⟨fun _ => ⟨inB_of hi, fun h1 => ?_, fun h1 => ⟨fun h2 => ?_, fun h2 => ⟨fun h9 => ?_, fun h9 => ?_⟩⟩⟩, fun h => ?_⟩
      · rw [e] at h1 ⊢
        have h1 : oKind l[i] = 1 := of_decide_eq_true h1
        have hh := ho.1 h1
        refine ⟨hh, hh, ?_⟩
        obtain ⟨j, hj⟩ : ∃ j : Nat, (j : Int) = oHost l[i] := ⟨Int.toNat (oHost l[i]), Int.toNat_of_nonneg hh.1⟩
        have hj16 : j < 16 := by have := hh.2; omega
        have hw : IntKind.wrap .i64 (elI b.1.1 (oHost l[i]) + 1) = elI b.1.1 (oHost l[i]) + 1 := by
          rw [← hj]
          have := hI.2.1 j hj16
          exact inc_ok this.1 (by omega)
        have hb1 : bump b.1 l[i] = (setAtx tInt b.1.1 (oHost l[i]) (elI b.1.1 (oHost l[i]) + 1), b.1.2) := by unfold bump; rw [if_pos h1]
        have hp1 : pushO l[i] = [] := by unfold pushO; rw [if_pos h1]
        have := hnext (setAtx tInt b.1.1 (oHost l[i]) (IntKind.wrap .i64 (elI b.1.1 (oHost l[i]) + 1)), b.1.2) b.2 (by rw [hb1, hw]) (by rw [hp1, List.append_nil])
        exact this
      rotate_left 3
      · rw [lnx_nat] at h
        exact absurd hi (of_decide_eq_false h)
      all_goals rw [e] at h1
      all_goals have h1 : ¬ oKind l[i] = 1 := of_decide_eq_false h1
      · rw [e] at h2 ⊢
        have h2 : oKind l[i] = 2 := of_decide_eq_true h2
        have hb1 : bump b.1 l[i] = b.1 := by unfold bump; rw [if_neg h1, if_pos h2]
        have hp1 : pushO l[i] = [oPk l[i]] := by unfold pushO; rw [if_neg h1, if_pos h2]
        refine ⟨?_, ?_⟩
        · rw [List.length_append]
          exact Nat.le_trans (show _ + 1 ≤ 80001 by omega) (by decide)
        · exact hnext b.1 (b.2 ++ [oPk l[i]]) hb1.symm (by rw [hp1])
      all_goals rw [e] at h2
      all_goals have h2 : ¬ oKind l[i] = 2 := of_decide_eq_false h2
      · rw [e] at h9
        have h9 : oWhy l[i] = 9 := of_decide_eq_true h9
        have hb1 : bump b.1 l[i] = (b.1.1, b.1.2.1, b.1.2.2 + 1) := by unfold bump; rw [if_neg h1, if_neg h2, if_pos h9]
        have hp1 : pushO l[i] = [] := by unfold pushO; rw [if_neg h1, if_neg h2]
        have hw : IntKind.wrap .i64 (b.1.2.2 + 1) = b.1.2.2 + 1 := inc_ok hI.2.2.2.2.1 (by have := hI.2.2.2.2.2; omega)
        exact hnext (b.1.1, b.1.2.1, IntKind.wrap .i64 (b.1.2.2 + 1)) b.2 (by rw [hb1, hw]) (by rw [hp1, List.append_nil])
      · rw [e] at h9
        have h9 : ¬ oWhy l[i] = 9 := of_decide_eq_false h9
        have hb1 : bump b.1 l[i] = (b.1.1, b.1.2.1 + 1, b.1.2.2) := by unfold bump; rw [if_neg h1, if_neg h2, if_neg h9]
        have hp1 : pushO l[i] = [] := by unfold pushO; rw [if_neg h1, if_neg h2]
        have hw : IntKind.wrap .i64 (b.1.2.1 + 1) = b.1.2.1 + 1 := inc_ok hI.2.2.1 (by have := hI.2.2.2.1; omega)
        exact hnext (b.1.1, IntKind.wrap .i64 (b.1.2.1 + 1), b.1.2.2) b.2 (by rw [hb1, hw]) (by rw [hp1, List.append_nil])))
    (fun b hb => goodS_of xs_Deliver (TL_spread_Deliver_15_eq t l _ _ b0 _ _ _ _ p b.2) (by
      rw [List.take_length] at hb
      have hb1 : b.1 = l.foldl bump s := by rw [hb]
      have hb2 : b.2 = q ++ l.flatMap pushO := by rw [hb]
      rw [← hb1, ← hb2] at hdone
      refine ⟨fun h => ?_, fun _ => ⟨fun h => ?_, fun h => ?_⟩⟩
      · rw [lnx_nat] at h
        exact absurd (of_decide_eq_true h) (Nat.lt_irrefl _)
      · have h : ((b.2.length : Nat) : Int) = 0 := of_decide_eq_true h
        have hn : b.2 = [] := List.eq_nil_of_length_eq_zero (by omega)
        rw [hn] at hdone ⊢
        exact hdone
      · have h : ¬ ((b.2.length : Nat) : Int) = 0 := of_decide_eq_false h
        cases hc : b.2 with
        | nil => rw [hc] at h; exact absurd rfl h
        | cons x r =>
          rw [hc] at hdone
          have hlen : 0 < (x :: r).length := Nat.succ_pos _
          refine ⟨⟨by decide, Int.ofNat_lt.2 hlen⟩, ⟨by decide, Int.ofNat_lt.2 hlen⟩, vok_all _, ⟨by decide, ?_, ?_⟩, ?_, ?_⟩
          · show (1 : Int) ≤ ((x :: r).length : Int); omega
          · show ((x :: r).length : Int) ≤ (((x :: r).length - 0 : Nat) : Int); omega
          · show 0 + 1 + ((x :: r).length - 1) ≤ (x :: r).length
            omega
          · have e1 : List.take (Int.toNat ((x :: r).length : Int) - Int.toNat 1) (List.drop (0 + Int.toNat 1) (x :: r)) = r := by
              show List.take ((x :: r).length - 1) (List.drop 1 (x :: r)) = r
              rw [List.length_cons, Nat.add_sub_cancel, List.drop_one, List.tail_cons, List.take_length]
            show GoodS prog X_spread_Deliver (Cx.base O w0) (Ends prog O w0 rs_spread_Deliver fun z => z = y) [] fx_spread_Deliver (lp f_spread_Deliver 8) (E_spread_Deliver_8 t true b0 b.1.2.1 b.1.2.2 (k : Int) b.1.1 x (List.take (Int.toNat ((x :: r).length : Int) - Int.toNat 1) (List.drop (0 + Int.toNat 1) (x :: r))))
            rw [e1]
            exact hdone))

theorem gl_Deliver_8 (O : Nat → Prop) (w0 : World) (t : List Tg) (ht : t.length ≤ 1000000) (b0 : den tSpread) (n : Nat) : ∀ (k : Nat) (s : Sx) (q : List Pk), n + k = 1000 → InvS (32 * k) s → (∀ p ∈ q, p.1.length ≤ 4) → q.length ≤ 1 + 32 * k →
    GoodS prog X_spread_Deliver (Cx.base O w0) (Ends prog O w0 rs_spread_Deliver fun z => z = finD (runD t n s k q)) [] fx_spread_Deliver (lp f_spread_Deliver 8) (E8 t b0 s k q) := by
  have hnil : ∀ (n k : Nat) (s : Sx), k ≤ 1000 → InvS (32 * k) s → GoodS prog X_spread_Deliver (Cx.base O w0) (Ends prog O w0 rs_spread_Deliver fun z => z = finD (some (s, k))) [] fx_spread_Deliver (lp f_spread_Deliver 8) (E8 t b0 s k []) := by
    intro n k s hk hs
    exact goodS_of xs_Deliver (TL_spread_Deliver_8_eq t false b0 s.2.1 s.2.2 (k : Int) s.1 (zero tPacket) []) ⟨(fun h => by cases h), fun _ => (gl_Deliver_28 O w0 b0 s k (32 * k) hs (by omega)).down 0 [] (Nat.zero_le _) rfl⟩
  induction n with
  | zero =>
    intro k s q hk hs hq hl
    cases q with
    | nil => exact hnil 0 k s (by omega) hs
    | cons p q =>
      refine goodS_of xs_Deliver (TL_spread_Deliver_8_eq t true b0 s.2.1 s.2.2 (k : Int) s.1 p q) ⟨fun _ => ⟨fun _ => ⟨_, rfl, rfl⟩, fun h => ?_⟩, (fun h => by cases h)⟩
      have h := of_decide_eq_false h
      rw [inc_ok (by omega) (by omega)] at h
      omega
  | succ n ih =>
    intro k s q hk hs hq hl
    cases q with
    | nil => exact hnil 0 k s (by omega) hs
    | cons p q =>
      have hw : IntKind.wrap .i64 ((k : Int) + 1) = ((k + 1 : Nat) : Int) := by
        rw [inc_ok (by omega) (by omega)]; omega
      obtain ⟨h32, hok⟩ := step_ok t p
      rw [List.length_cons] at hl
      have hpl : p.1.length ≤ 4 := hq p List.mem_cons_self
      refine goodS_of xs_Deliver (TL_spread_Deliver_8_eq t true b0 s.2.1 s.2.2 (k : Int) s.1 p q) ⟨fun _ => ⟨fun h => ?_, fun _ => ⟨⟨ht, by omega⟩, all_eq ?_⟩⟩, (fun h => by cases h)⟩
      · have h := of_decide_eq_true h
        rw [inc_ok (by omega) (by omega)] at h
        omega
      · rw [hw]
        refine (gl_Deliver_15 O w0 t b0 s (k + 1) (32 * k) p q (g_Step t p).1 _ hs (by omega) hok (by omega) ?_).down 0 (s, q) (Nat.zero_le _) (by rw [List.take_zero]; exact Prod.ext rfl (List.append_nil q).symm)
        refine ih (k + 1) _ _ (by omega) ((inv_fold hs hok).mono (by omega)) (fun x hx => ?_) ?_
        · rcases List.mem_append.1 hx with hx | hx
          · exact hq x (List.mem_cons_of_mem _ hx)
          · exact push_ok hok x hx
        · rw [List.length_append]
          have := push_lenL (g_Step t p).1
          omega

theorem k_spread_Deliver : FnOk prog [] n_spread_Deliver S_spread_Deliver :=
  fnS_T (S := S_spread_Deliver) xs_Deliver (fx := fx_spread_Deliver) at_spread_Deliver (by kernel_rfl) (fun h => by cases h) (T := fun x => T_spread_Deliver x.1 x.2.1) (fun x => T_spread_Deliver_eq x.1 x.2.1) fun O w0 x _ hp => by
    obtain ⟨t, p, ⟨⟩⟩ := x
    have ht : t.length ≤ 1000000 := hp.1
    have hpl : p.1.length ≤ 1000000 := hp.2
    have hc : (bif !g_Right t then true else !g_packetRight p) = !(g_Right t && g_packetRight p) := by cases g_packetRight p <;> cases g_Right t <;> rfl
    refine ⟨ht, all_eq ⟨fun _ => hpl, fun h => ⟨_, rfl, ?_⟩, fun h => ⟨(by show 1 ≤ most; decide), fun h0 => ?_, fun _ => ⟨⟨by decide, (by show (0 : Int) < 1; decide)⟩, ⟨by decide, (by show (0 : Int) < 1; decide)⟩, (by show 0 + 1 ≤ 1; decide), ⟨by decide, (by show (1 : Int) ≤ 1; decide), (by show (1 : Int) ≤ ((1 - 0 : Nat) : Int); decide)⟩, (by show 0 + 1 + (1 - 1) ≤ 1; decide), ?_⟩⟩⟩⟩
    · rw [hc] at h
      have hn : ¬ (g_Right t = true ∧ g_packetRight p = true) := fun ⟨a, b⟩ => by rw [a, b] at h; cases h
      show _ = g_Deliver t p
      unfold g_Deliver
      rw [if_neg hn]
      rfl
    · cases h0
    · rw [hc] at h
      have hy : g_Right t = true ∧ g_packetRight p = true := by cases ha : g_packetRight p <;> cases hb : g_Right t <;> rw [ha, hb] at h <;> first | exact ⟨rfl, rfl⟩ | cases h
      have e : S_spread_Deliver.g (t, p, ()) = finD (runD t 1000 s0 0 [p]) := by show g_Deliver t p = _; unfold g_Deliver; rw [if_pos hy]
      rw [e]
      exact gl_Deliver_8 O w0 t ht (zero tSpread) 1000 0 s0 [p] rfl inv_s0 (fun x hx => by rw [List.mem_singleton.1 hx]; exact (right_len hy.2).2.1) (by show 1 ≤ 1; decide)

end Go.Proofs.Ytnccacngedeoeaa

/- What is cut, what is the same, links: contracts. -/
namespace Go.Proofs.Ytnccacngedeoeaa
open Go Go.RowKit

abbrev Sp := den tSpread
abbrev Lk := den tLink

theorem cutTo {e : Ty} (l : List (den e)) (n : Nat) : lCutx e l 0 (minI (lnx e l) (n : Int)) = l.take n ∧ cutOk 0 (minI (lnx e l) (n : Int)) (lnx e l) := by
  have h : lnx e l = (l.length : Int) := rfl
  unfold lCutx lCut minI cutOk
  rw [h]
  have h0 : Int.toNat 0 = 0 := rfl
  rw [h0, List.drop_zero]
  split
  · rw [Int.toNat_natCast]
    exact ⟨rfl, by omega, by omega, by omega⟩
  · rw [Int.toNat_natCast, List.take_length, List.take_of_length_le (by omega)]
    exact ⟨rfl, by omega, by omega, by omega⟩
theorem cutStr (s : ByteArray) (n : Nat) : cutOk 0 (minI (sLen s) (n : Int)) (sLen s) := by
  unfold minI cutOk sLen
  split <;> omega

def g_few (t : List Tg) : List Tg := t.take 34
def cut70 (s : ByteArray) : ByteArray := sCut s 0 (minI (sLen s) 70)
def g_cut (p : Pk) : Pk := (List.take 6 p.1, p.2.1, cut70 p.2.2.1, ())
def g_SameS (a b : Sp) : Bool := decide (a.1 = b.1) && decide ((a.2.1 : Int) = b.2.1) && decide ((a.2.2.1 : Int) = b.2.2.1) && decide ((a.2.2.2.1 : Int) = b.2.2.2.1)
def linkOf (x : Tg) : Lk := (x.1, x.2.1.2.1, ())
def g_Links (t : List Tg) : List Lk × Int := if g_Right t then ((t.filter fun x => decide (x.2.1.1 = (1 : Int))).map linkOf, 0) else ([], 1)

noncomputable abbrev S_l14_few : Spec := ⟨as_l14_few, rs_l14_few, fun x => (g_few x.1, ()), fun _ => True, true⟩
theorem k_l14_few : FnOk prog [] n_l14_few S_l14_few :=
  fnS_T (S := S_l14_few) x_l14_few (fx := fx_l14_few) at_l14_few (by kernel_rfl) (fun _ _ => trivial) (T := fun x => T_l14_few x.1) (fun x => T_l14_few_eq x.1) fun O w0 x _ _ =>
    ⟨(cutTo (e := tTrigger) x.1 34).2, _, rfl, Prod.ext (cutTo (e := tTrigger) x.1 34).1 rfl⟩
noncomputable abbrev S_l14_cut : Spec := ⟨as_l14_cut, rs_l14_cut, fun x => (g_cut x.1, ()), fun _ => True, true⟩
theorem k_l14_cut : FnOk prog [] n_l14_cut S_l14_cut :=
  fnS_T (S := S_l14_cut) x_l14_cut (fx := fx_l14_cut) at_l14_cut (by kernel_rfl) (fun _ _ => trivial) (T := fun x => T_l14_cut x.1) (fun x => T_l14_cut_eq x.1) fun O w0 x _ _ =>
    ⟨(cutTo (e := tEntry) x.1.1 6).2, cutStr _ 70, _, rfl, Prod.ext (Prod.ext (cutTo (e := tEntry) x.1.1 6).1 rfl) rfl⟩

noncomputable abbrev S_r14_Same : Spec := ⟨as_r14_Same, rs_r14_Same, fun x => (g_SameS x.1 x.2.1, ()), fun x => x.1.1.length ≤ 1000000, false⟩

theorem eq_of_take {l m : List Int} (h : l.length = m.length) (hi : l.take l.length = m.take l.length) : l = m := by
  rw [List.take_length, h, List.take_length] at hi
  exact hi

theorem take_eq_succ {l m : List Int} {i : Nat} (h : i < l.length) (h' : i < m.length) (ht : l.take i = m.take i) (he : l[i] = m[i]) : l.take (i + 1) = m.take (i + 1) := by
  rw [List.take_succ_eq_append_getElem h, List.take_succ_eq_append_getElem h', ht, he]

def gl_r14_Same (O : Nat → Prop) (w0 : World) (a b : Sp) (hl : a.1.length = b.1.length) (h1 : (a.2.1 : Int) = b.2.1) (h2 : (a.2.2.1 : Int) = b.2.2.1) (h3 : (a.2.2.2.1 : Int) = b.2.2.2.1) (ha : a.1.length ≤ 1000000) :=
  PLift.up <| range_ind (σ := Unit) a.1.length (fun i _ => List.take i a.1 = List.take i b.1)
    (fun i _ => GoodS prog X_r14_Same (Cx.base O w0) (Ends prog O w0 rs_r14_Same fun y => y = (g_SameS a b, ())) [] fx_r14_Same (lp f_r14_Same 4) (E_r14_Same_4 (lnx tInt a.1) (i : Nat) a b))
    (fun i s hi hb ih => goodS_of x_r14_Same (TL_r14_Same_4_eq _ _ a b) (by
      have hi' : i < b.1.length := by omega
      have ea : el tInt a.1 (i : Nat) = a.1[i] := el_at hi
      have eb : el tInt b.1 (i : Nat) = b.1[i] := el_at hi'
      refine ⟨fun _ => ⟨inB_of hi, inB_of hi', fun h => ⟨_, rfl, ?_⟩, fun h => ?_⟩, fun h => ?_⟩
      · rw [ea, eb] at h
        have hn : ¬ a.1[i] = b.1[i] := fun e => by rw [e, decide_eq_true rfl] at h; cases h
        have : ¬ a.1 = b.1 := fun e => hn (by simp only [e])
        show (false, ()) = (g_SameS a b, ())
        unfold g_SameS
        rw [decide_eq_false this]
        rfl
      · rw [ea, eb] at h
        have he : a.1[i] = b.1[i] := by
          by_cases e : a.1[i] = b.1[i]
          · exact e
          · rw [decide_eq_false e] at h; cases h
        rw [wr_idx hi (by omega)]
        exact ih () (take_eq_succ hi hi' hb he)
      · rw [lnx_nat] at h
        exact absurd hi (of_decide_eq_false h)))
    (fun s hb => goodS_of x_r14_Same (TL_r14_Same_4_eq _ _ a b) (by
      refine ⟨fun h => ?_, fun _ => ⟨_, rfl, ?_⟩⟩
      · rw [lnx_nat] at h
        exact absurd (of_decide_eq_true h) (Nat.lt_irrefl _)
      · show (true, ()) = (g_SameS a b, ())
        have e : a.1 = b.1 := eq_of_take hl hb
        unfold g_SameS
        rw [decide_eq_true e, decide_eq_true h1, decide_eq_true h2, decide_eq_true h3]
        rfl))
theorem same_pre (c1 c2 c3 c4 : Bool) : (bif bif bif !c1 then true else !c2 then true else !c3 then true else !c4) = !(c1 && c2 && c3 && c4) := by
  cases c1 <;> cases c2 <;> cases c3 <;> cases c4 <;> rfl
theorem k_r14_Same : FnOk prog [] n_r14_Same S_r14_Same :=
  fnS_T (S := S_r14_Same) x_r14_Same (fx := fx_r14_Same) at_r14_Same (by kernel_rfl) (fun h => by cases h) (T := fun x => T_r14_Same x.1 x.2.1) (fun x => T_r14_Same_eq x.1 x.2.1) fun O w0 x _ hp => by
    obtain ⟨a, b, ⟨⟩⟩ := x
    have hp : a.1.length ≤ 1000000 := hp
    have hpre := same_pre (decide (lnx tInt a.1 = lnx tInt b.1)) (decide ((a.2.1 : Int) = b.2.1)) (decide ((a.2.2.1 : Int) = b.2.2.1)) (decide ((a.2.2.2.1 : Int) = b.2.2.2.1))
    refine ⟨fun h => ⟨_, rfl, ?_⟩, fun h => ?_⟩
    · have h := hpre.symm.trans h
      show (false, ()) = (g_SameS a b, ())
      unfold g_SameS
      have hd : decide (a.1 = b.1) = true → decide (lnx tInt a.1 = lnx tInt b.1) = true := fun h => by
        rw [of_decide_eq_true h]
        exact decide_eq_true rfl
      cases hd1 : decide (a.1 = b.1)
      · rfl
      · rw [hd hd1] at h
        cases h2 : decide ((a.2.1 : Int) = b.2.1) <;> cases h3 : decide ((a.2.2.1 : Int) = b.2.2.1) <;> cases h4 : decide ((a.2.2.2.1 : Int) = b.2.2.2.1) <;> first | rfl | (rw [h2, h3, h4] at h; cases h)
    · have h := hpre.symm.trans h
      cases h1 : decide (lnx tInt a.1 = lnx tInt b.1) <;> cases h2 : decide ((a.2.1 : Int) = b.2.1) <;> cases h3 : decide ((a.2.2.1 : Int) = b.2.2.1) <;> cases h4 : decide ((a.2.2.2.1 : Int) = b.2.2.2.1) <;> rw [h1, h2, h3, h4] at h <;> first | (cases h; done) | skip
      have hl : ((a.1.length : Nat) : Int) = ((b.1.length : Nat) : Int) := of_decide_eq_true h1
      exact (gl_r14_Same O w0 a b (by omega) (of_decide_eq_true h2) (of_decide_eq_true h3) (of_decide_eq_true h4) hp).down 0 () (Nat.zero_le _) rfl

noncomputable abbrev S_spread_Links : Spec := ⟨as_spread_Links, rs_spread_Links, fun x => ((g_Links x.1).1, (g_Links x.1).2, ()), fun x => x.1.length ≤ 1000000, false⟩
theorem links_step {t : List Tg} {i : Nat} (hi : i < t.length) : ((t.take (i + 1)).filter fun x => decide (x.2.1.1 = (1 : Int))).map linkOf = ((t.take i).filter fun x => decide (x.2.1.1 = (1 : Int))).map linkOf ++ (if t[i].2.1.1 = (1 : Int) then [linkOf t[i]] else []) := by
  rw [List.take_succ_eq_append_getElem hi, List.filter_append, List.map_append, List.filter_cons, List.filter_nil]
  by_cases h : t[i].2.1.1 = (1 : Int)
  · rw [if_pos h, if_pos (decide_eq_true h)]
    rfl
  · rw [if_neg h, if_neg (by rw [decide_eq_false h]; simp)]
    rfl
theorem links_len (t : List Tg) (i : Nat) : (((t.take i).filter fun x => decide (x.2.1.1 = (1 : Int))).map linkOf).length ≤ i := by
  rw [List.length_map]
  refine Nat.le_trans (List.length_filter_le _ _) ?_
  rw [List.length_take]
  omega
def gl_spread_Links (O : Nat → Prop) (w0 : World) (t : List Tg) (ht : t.length ≤ 1000000) :=
  PLift.up <| range_ind (σ := List Lk) t.length (fun i b => b = ((t.take i).filter fun x => decide (x.2.1.1 = (1 : Int))).map linkOf)
    (fun i b => GoodS prog X_spread_Links (Cx.base O w0) (Ends prog O w0 rs_spread_Links fun y => y = ((t.filter fun x => decide (x.2.1.1 = (1 : Int))).map linkOf, 0, ())) [] fx_spread_Links (lp f_spread_Links 5) (E_spread_Links_5 t (lnx tTrigger t) (i : Nat) b))
    (fun i b hi hb ih => goodS_of (x_spread_Links k_table_Right) (TL_spread_Links_5_eq t _ _ b) (by
      have e : el tTrigger t (i : Nat) = t[i] := el_at hi
      have hs := links_step hi
      refine ⟨fun _ => ⟨inB_of hi, fun h => ⟨?_, ?_⟩, fun h => ?_⟩, fun h => ?_⟩
      · have := links_len t i
        rw [hb, List.length_append]
        exact Nat.le_trans (show _ + 1 ≤ 1000001 by omega) (by decide)
      · rw [e] at h ⊢
        rw [wr_idx hi (by omega)]
        refine ih _ ?_
        rw [hb, hs, if_pos (of_decide_eq_true h)]
        rfl
      · rw [e] at h
        rw [wr_idx hi (by omega)]
        refine ih _ ?_
        rw [hb, hs, if_neg (of_decide_eq_false h), List.append_nil]
      · rw [lnx_nat] at h
        exact absurd hi (of_decide_eq_false h)))
    (fun b hb => goodS_of (x_spread_Links k_table_Right) (TL_spread_Links_5_eq t _ _ b) (by
      refine ⟨fun h => ?_, fun _ => ⟨_, rfl, ?_⟩⟩
      · rw [lnx_nat] at h
        exact absurd (of_decide_eq_true h) (Nat.lt_irrefl _)
      · rw [List.take_length] at hb
        rw [hb]))
theorem k_spread_Links : FnOk prog [] n_spread_Links S_spread_Links :=
  fnS_T (S := S_spread_Links) (x_spread_Links k_table_Right) (fx := fx_spread_Links) at_spread_Links (by kernel_rfl) (fun h => by cases h) (T := fun x => T_spread_Links x.1) (fun x => T_spread_Links_eq x.1) fun O w0 x _ hp => by
    obtain ⟨t, ⟨⟩⟩ := x
    have hp : t.length ≤ 1000000 := hp
    refine ⟨hp, fun h => ⟨_, rfl, ?_⟩, fun h => ?_⟩
    · have hr : g_Right t = false := by simpa using h
      show (([] : List Lk), (1 : Int), ()) = ((g_Links t).1, (g_Links t).2, ())
      unfold g_Links
      rw [hr]
      rfl
    · have hr : g_Right t = true := by simpa using h
      have e : S_spread_Links.g (t, ()) = ((t.filter fun x => decide (x.2.1.1 = (1 : Int))).map linkOf, 0, ()) := by
        show ((g_Links t).1, (g_Links t).2, ()) = _
        unfold g_Links
        rw [hr]
        rfl
      rw [e]
      exact (gl_spread_Links O w0 t hp).down 0 [] (Nat.zero_le _) rfl

noncomputable abbrev S_l14_alive : Spec := ⟨as_l14_alive, rs_l14_alive, fun _ => (true, ()), fun _ => True, true⟩

end Go.Proofs.Ytnccacngedeoeaa
