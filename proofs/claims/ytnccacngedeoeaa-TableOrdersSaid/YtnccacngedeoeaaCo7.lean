/- Part 7 of 8 of what this claim's proof stands on: a theory of programs on data, and the contracts of the functions that the law reaches. It holds no condition of its own. -/
import Derived.Test.YtnccacngedeoeaaCo6

/- A row that another is put into. -/
namespace Go.Proofs.Ytnccacngedeoeaa
open Go Go.RowKit

@[reducible] def S_slices_Insert_Trigger : RSpec := ⟨tTrigger, true, .pair tInt (.pair (.slc tTrigger) .unit), true, fun xs y => 0 ≤ y.1 ∧ y.1 ≤ (xs.length : Nat) ∧ xs.length + y.2.1.length ≤ most, fun xs y => putIn xs y.1.toNat y.2.1⟩

theorem ok_slices_Insert_Trigger : RFnOk prog [] n_slices_Insert_Trigger S_slices_Insert_Trigger :=
  rowFn_T x_slices_Insert_Trigger (fx := fx_slices_Insert_Trigger) rfl at_slices_Insert_Trigger (by kernel_rfl) (T := fun xs y => T_slices_Insert_Trigger xs y.1 y.2.1) (fun xs y _ => T_slices_Insert_Trigger_eq xs y.1 y.2.1) fun O w0 bk (xs : List (den tTrigger)) y (hxl : xs.length ≤ maxLen) hy hp => by
    obtain ⟨i, (v : List (den tTrigger)), ⟨⟩⟩ := y
    obtain ⟨h1, h3, hm⟩ := hp
    obtain ⟨i, rfl⟩ := Int.eq_ofNat_of_zero_le h1
    have h3 : i ≤ xs.length := Int.ofNat_le.1 h3
    have hm : xs.length + v.length ≤ most := hm
    have hmm : most = 1073741824 := rfl
    have e0 : ∀ n : Nat, ((n : Nat) : Int).toNat = n := fun n => Int.toNat_natCast n
    have wn : IntKind.wrap .i64 (((xs.length : Nat) : Int) + ((v.length : Nat) : Int)) = ((xs.length + v.length : Nat) : Int) := by
      rw [small_i64 (by omega)]; omega
    have wi : IntKind.wrap .i64 (((xs.length + v.length : Nat) : Int) - ((i : Nat) : Int)) = ((xs.length + v.length - i : Nat) : Int) := by
      rw [small_i64 (by omega)]; omega
    have cz : ∀ a b c : Nat, cutOk (a : Int) (b : Int) (c : Int) ↔ a ≤ b ∧ b ≤ c := fun a b c => by unfold cutOk; omega
    have c0 : ∀ b c : Nat, cutOk 0 (b : Int) (c : Int) ↔ b ≤ c := fun b c => by unfold cutOk; omega
    have el : ∀ zs : List (den tTrigger), lnx tTrigger zs = ((zs.length : Nat) : Int) := fun _ => rfl
    show TreeGoodS _ _ _ _ _ (T_slices_Insert_Trigger xs ((i : Nat) : Int) v)
    unfold T_slices_Insert_Trigger
    simp only [wn, wi, e0, el, Nat.zero_add, Nat.sub_zero, show (0 : Int).toNat = 0 from rfl, TreeGoodS, vok, cz, c0, vpart_take, Int.ofNat_lt, decide_eq_true_eq, decide_eq_false_iff_not]
    have zr : ∀ {a b : List (den tTrigger)}, b = a → ZR tTrigger a (K.val (.slc tTrigger) b) := fun h => by rw [h]; exact (rfl : K.val (.slc tTrigger) _ = _)
    have hap : ∀ sp : List (den tTrigger), (xs ++ sp).length = xs.length + sp.length := fun sp => List.length_append
    refine ⟨Nat.le_refl _, ⟨h3, Nat.le_refl _⟩, fun hv => ⟨Nat.le_refl _, zr ?_⟩, fun hv => ⟨fun hx => ⟨by rw [hap]; exact hm, Nat.le_refl _, zr ?_⟩, fun hx => fun sp hsp => ⟨fun hc => ?_, fun hc => ?_⟩⟩⟩
    · have : v = [] := List.eq_nil_of_length_eq_zero (by have hv : ((v.length : Nat) : Int) = 0 := hv; omega)
      subst this
      rw [List.take_length]; unfold putIn; rw [List.append_nil, List.take_append_drop]
    · have : i = xs.length := Int.ofNat.inj hx
      subst this
      rw [List.take_length]; unfold putIn; rw [List.take_length, List.drop_length, List.append_nil]
    · have e1 : (xs ++ sp).take i = xs.take i := List.take_append_of_le_length h3
      have e2 : vpart tTrigger (xs ++ sp) i (xs.length - i) = xs.drop i := by
        unfold vpart
        rw [List.drop_append_of_le_length h3, List.take_append_of_le_length (by rw [List.length_drop]; exact Nat.le_refl _), List.take_of_length_le (by rw [List.length_drop]; exact Nat.le_refl _)]
      have l0 : (xs.take i ++ List.replicate (xs.length + v.length - i) (zero tTrigger)).length = xs.length + v.length := by
        rw [List.length_append, List.length_take, List.length_replicate]; omega
      have t1 : v.take (xs.length + v.length - i) = v := List.take_of_length_le (by omega)
      have l1 : (over (xs.take i ++ List.replicate (xs.length + v.length - i) (zero tTrigger)) i v).length = xs.length + v.length := by rw [over_len (by omega), l0]
      have wv : IntKind.wrap .i64 (((i : Nat) : Int) + ((v.length : Nat) : Int)) = ((i + v.length : Nat) : Int) := by
        rw [small_i64 (by omega)]; omega
      simp only [e1, l0, t1, l1, wv, e0, e2, cz, hap]
      rw [put_grown h3 (by omega)]
      simp only [hap] at hc
      refine ⟨by omega, by omega, by omega, by omega, by omega, by omega, by omega, by omega, by omega, by omega, by omega, by omega, by omega, by omega, by omega, Nat.le_refl _, zr ?_⟩
      rw [List.take_length]
    · have hc : xs.length + v.length ≤ xs.length + sp.length := by rw [hap] at hc; omega
      have wv : IntKind.wrap .i64 (((i : Nat) : Int) + ((v.length : Nat) : Int)) = ((i + v.length : Nat) : Int) := by
        rw [small_i64 (by omega)]; omega
      have t1 : v.take (xs.length + v.length - i) = v := List.take_of_length_le (by omega)
      have t2 : (vpart tTrigger (xs ++ sp) i (xs.length + v.length - i)).take (xs.length + v.length - (i + v.length)) = xs.drop i := by
        unfold vpart
        rw [List.take_take, Nat.min_eq_left (by omega), List.drop_append_of_le_length h3, List.take_append_of_le_length (by rw [List.length_drop]; omega), List.take_of_length_le (by rw [List.length_drop]; omega)]
      have l1 : (over (xs ++ sp) (i + v.length) (xs.drop i)).length = xs.length + sp.length := by rw [over_len (by rw [List.length_drop, hap]; omega), hap]
      have l2 : (over (over (xs ++ sp) (i + v.length) (xs.drop i)) i v).length = xs.length + sp.length := by rw [over_len (by omega), l1]
      simp only [wv, e0, cz, hap, t1, t2, l1, l2]
      refine ⟨by omega, by omega, by omega, by omega, fun _ => ⟨by omega, by omega, by omega, by omega, by omega, by omega, by omega, by omega, by omega, by omega, zr (put_there h3 (by omega))⟩, fun h => (by cases h)⟩

end Go.Proofs.Ytnccacngedeoeaa

/- The way between two, what triggers are compared by, and the document's tables. -/
namespace Go.Proofs.Ytnccacngedeoeaa
open Go Go.RowKit

theorem way_mod {x y W : Int} (hx : 0 ≤ x ∧ x < W) (hy : 0 ≤ y ∧ y < W) : (y - x) % W = if x ≤ y then y - x else y - x + W := by
  split
  · exact Int.emod_eq_of_lt (by omega) (by omega)
  · rw [← Int.add_emod_right]
    exact Int.emod_eq_of_lt (by omega) (by omega)

theorem vB_id {a : List Int} (ha : a.length = 32 ∧ byt a) : 0 ≤ vB a ∧ vB a < whole := by
  have := vB_range ha.2; rw [ha.1] at this; exact this

theorem vB_Far {a b : List Int} (ha : a.length = 32 ∧ byt a) (hb : b.length = 32 ∧ byt b) : vB (g_Far a b) = if vB a ≤ vB b then vB b - vB a else vB b - vB a + whole := by
  have ra := vB_id ha
  have rb := vB_id hb
  rw [← way_mod ra rb]
  exact (toB_spec 32 (Int.emod_nonneg _ (by decide)) (Int.emod_lt_of_pos _ (by decide))).2
theorem Far_byt {a b : List Int} : (g_Far a b).length = 32 ∧ byt (g_Far a b) :=
  ⟨toB_length _ _, (toB_spec 32 (Int.emod_nonneg _ (by decide)) (Int.emod_lt_of_pos _ (by decide))).1⟩

theorem vB_zeros : vB (List.replicate 32 (0 : Int)) = 0 := by decide
theorem zeros_byt : byt (List.replicate 32 (0 : Int)) := fun x h => by
  have := List.eq_of_mem_replicate h
  omega

theorem Far_zero {a b : List Int} (ha : a.length = 32 ∧ byt a) (hb : b.length = 32 ∧ byt b) : g_Far a b = List.replicate 32 (0 : Int) ↔ vB a = vB b := by
  have ra := vB_id ha
  have rb := vB_id hb
  have h1 := vB_Far ha hb
  refine ⟨fun h => ?_, fun h => ?_⟩
  · rw [h, vB_zeros] at h1
    split at h1 <;> omega
  · refine vB_inj (by rw [Far_byt.1, List.length_replicate]) Far_byt.2 zeros_byt ?_
    rw [h1, vB_zeros, if_pos (by omega)]; omega

noncomputable abbrev S_ident_In : Spec := ⟨as_ident_In, rs_ident_In, fun x => (g_In x.1 x.2.1 x.2.2.1, ()), fun _ => True, true⟩
theorem In_far {x a b : List Int} (hx : x.length = 32 ∧ byt x) (ha : a.length = 32 ∧ byt a) (hb : b.length = 32 ∧ byt b) (h : ¬ a = b) :
    (bif !decide (g_Far a x = List.replicate 32 (0 : Int)) then decide (g_Cmp (g_Far a x) (g_Far a b) ≤ 0) else false) = g_In x a b := by
  have rx := vB_id hx
  have ra := vB_id ha
  have rb := vB_id hb
  have hne : ¬ vB a = vB b := fun e => h (vB_inj (by rw [ha.1, hb.1]) ha.2 hb.2 e)
  simp only [cmp_le, Far_zero ha hx, vB_Far ha hx, vB_Far ha hb]
  rw [g_In, if_neg h]
  by_cases e1 : vB a = vB x
  · simp only [e1, decide_true, Bool.not_true, cond_false]
    split
    · simp
    · symm; simp; omega
  · simp only [e1, decide_false, Bool.not_false, cond_true]
    rw [Bool.eq_iff_iff]
    split <;> split <;> split <;> simp only [Bool.and_eq_true, Bool.or_eq_true, decide_eq_true_eq] <;> omega
theorem tr_ident_In (O : Nat → Prop) (w0 : World) (x a b : List Int) (hx : x.length = 32 ∧ byt x) (ha : a.length = 32 ∧ byt a) (hb : b.length = 32 ∧ byt b) : TreeGood prog D_ident_In O w0 f_ident_In rs_ident_In (fun y => y = (g_In x a b, ())) (T_ident_In x a b) := by
  unfold T_ident_In
  rw [eqb_tId, eqb_tId]
  refine ⟨fun h => ⟨_, rfl, ?_⟩, fun h => ⟨trivial, fun _ => trivial, fun _ => trivial, _, rfl, ?_⟩⟩
  · have h : a = b := of_decide_eq_true h
    simp [g_In, h]
  · have h : ¬ a = b := of_decide_eq_false h
    rw [← In_far hx ha hb h]; rfl
theorem k_ident_In : FnOk prog [] n_ident_In S_ident_In :=
  fn_T (d_ident_In k_ident_Far k_ident_Compare) ht_ident_In at_ident_In (by kernel_rfl) (fun _ _ => trivial) (A := A_ident_In) (T := fun x => T_ident_In x.1 x.2.1 x.2.2.1) (fun x => T_ident_In_eq x.1 x.2.1 x.2.2.1) fun O w0 x hk _ =>
    tr_ident_In O w0 x.1 x.2.1 x.2.2.1 (ok_byt hk.1) (ok_byt hk.2.1) (ok_byt hk.2.2.1)

/-! ### What triggers are compared by -/

noncomputable abbrev S_table_trigger_id : Spec := ⟨as_table_trigger_id, rs_table_trigger_id, fun x => (g_Cmp x.1.1 x.2.1.1, ()), fun _ => True, true⟩
theorem k_table_trigger_id : FnOk prog [] n_table_trigger_id S_table_trigger_id :=
  fn_T (d_table_trigger_id k_ident_Compare) ht_table_trigger_id at_table_trigger_id (by kernel_rfl) (fun _ _ => trivial) (A := A_table_trigger_id) (T := fun x => T_table_trigger_id x.1 x.2.1) (fun x => T_table_trigger_id_eq x.1 x.2.1) fun O w0 x _ _ => ⟨trivial, _, rfl, rfl⟩
noncomputable abbrev S_table_trigger_kind : Spec := ⟨as_table_trigger_kind, rs_table_trigger_kind, fun x => (cmpI x.1.2.1.1 x.2.1.2.1.1, ()), fun _ => True, true⟩
theorem k_table_trigger_kind : FnOk prog [] n_table_trigger_kind S_table_trigger_kind :=
  fn_T (d_table_trigger_kind k_cmp_Compare_int) ht_table_trigger_kind at_table_trigger_kind (by kernel_rfl) (fun _ _ => trivial) (A := A_table_trigger_kind) (T := fun x => T_table_trigger_kind x.1 x.2.1) (fun x => T_table_trigger_kind_eq x.1 x.2.1) fun O w0 x _ _ => ⟨trivial, _, rfl, rfl⟩
noncomputable abbrev S_table_trigger_goes : Spec := ⟨as_table_trigger_goes, rs_table_trigger_goes, fun x => (g_Cmp x.1.2.1.2.1 x.2.1.2.1.2.1, ()), fun _ => True, true⟩
theorem k_table_trigger_goes : FnOk prog [] n_table_trigger_goes S_table_trigger_goes :=
  fn_T (d_table_trigger_goes k_ident_Compare) ht_table_trigger_goes at_table_trigger_goes (by kernel_rfl) (fun _ _ => trivial) (A := A_table_trigger_goes) (T := fun x => T_table_trigger_goes x.1 x.2.1) (fun x => T_table_trigger_goes_eq x.1 x.2.1) fun O w0 x _ _ => ⟨trivial, _, rfl, rfl⟩
noncomputable abbrev S_table_trigger_host : Spec := ⟨as_table_trigger_host, rs_table_trigger_host, fun x => (cmpI x.1.2.1.2.2.1 x.2.1.2.1.2.2.1, ()), fun _ => True, true⟩
theorem k_table_trigger_host : FnOk prog [] n_table_trigger_host S_table_trigger_host :=
  fn_T (d_table_trigger_host k_cmp_Compare_int) ht_table_trigger_host at_table_trigger_host (by kernel_rfl) (fun _ _ => trivial) (A := A_table_trigger_host) (T := fun x => T_table_trigger_host x.1 x.2.1) (fun x => T_table_trigger_host_eq x.1 x.2.1) fun O w0 x _ _ => ⟨trivial, _, rfl, rfl⟩

/-! ### Those on a way -/

def g_On (t : List (den tTrigger)) (a b : den tId) (on : Bool) : List (den tTrigger) := t.filter fun x => eqO (g_In x.1 a b) on

noncomputable abbrev S_r12_On : Spec := ⟨as_r12_On, rs_r12_On, fun x => (g_On x.1 x.2.1 x.2.2.1 x.2.2.2.1, ()), fun x => x.1.length ≤ 1000000, false⟩

def gl_r12_On (O : Nat → Prop) (w0 : World) (t : List (den tTrigger)) (a b : den tId) (on : Bool) (ht : t.length ≤ 1000000) := 
  PLift.up <| range_good (P := prog) (D := D_r12_On) (fn := f_r12_On) (rs := rs_r12_On) (O := O) (w0 := w0) (todo := lp f_r12_On 3) (σ := List (den tTrigger)) t.length
    (fun i s => E_r12_On_3 on t (lnx tTrigger t) i a b s) (fun i s => s.length ≤ i)
    (fun i s y => y = (s ++ g_On (t.drop i) a b on, ()))
    (fun i s hi hs ih => good_T (d_r12_On k_r01_In) ht_r12_On (TL_r12_On_3_eq on t _ _ a b s) ⟨fun _ => by
      refine ⟨inB_of hi, trivial, ?_⟩
      rw [el_at hi, wr_idx hi (by omega)]
      refine ⟨fun h => ⟨by simp [most]; omega, ?_⟩, fun h => ?_⟩
      · refine Good.mono (fun y hy => ?_) (ih (s ++ [t[i]]) (by simp; omega))
        rw [hy, List.drop_eq_getElem_cons hi, g_On, g_On, List.filter_cons, if_pos h]
        simp
      · refine Good.mono (fun y hy => ?_) (ih s (by omega))
        rw [hy, List.drop_eq_getElem_cons hi, g_On, g_On, List.filter_cons, if_neg (by rw [h]; simp)], fun h => by
      have h : ¬ (i : Int) < (t.length : Int) := of_decide_eq_false h
      omega⟩)
    (fun s _ => good_T (d_r12_On k_r01_In) ht_r12_On (TL_r12_On_3_eq on t _ _ a b s) ⟨fun h => by
      have h : (t.length : Int) < (t.length : Int) := of_decide_eq_true h
      omega, fun _ => ⟨_, rfl, by simp [g_On]⟩⟩)
theorem k_r12_On : FnOk prog [] n_r12_On S_r12_On :=
  fn_T (d_r12_On k_r01_In) ht_r12_On at_r12_On (by kernel_rfl) (fun h => by cases h) (A := A_r12_On) (T := fun x => T_r12_On x.1 x.2.1 x.2.2.1 x.2.2.2.1) (fun x => T_r12_On_eq x.1 x.2.1 x.2.2.1 x.2.2.2.1) fun O w0 x _ hp =>
    (gl_r12_On O w0 x.1 x.2.1 x.2.2.1 x.2.2.2.1 hp).down 0 [] (Nat.zero_le _) (Nat.zero_le _)

/-! ### Which tables may be -/

def okAt (t : List (den tTrigger)) (i : Nat) : Bool := g_may (el tTrigger t (i : Nat)) && (decide (i = 0) || g_Less (el tTrigger t ((i : Nat) - 1 : Int)) (el tTrigger t (i : Nat)))
def okFrom (t : List (den tTrigger)) (i : Nat) : Bool := (List.range' i (t.length - i)).all (okAt t)
def g_Right (t : List (den tTrigger)) : Bool := okFrom t 0 && decide (t.length ≤ 32)

theorem okFrom_step {t : List (den tTrigger)} {i : Nat} (h : i < t.length) : okFrom t i = (okAt t i && okFrom t (i + 1)) := by
  unfold okFrom
  rw [show t.length - i = (t.length - (i + 1)) + 1 by omega, List.range'_succ, List.all_cons]
theorem okFrom_end {t : List (den tTrigger)} : okFrom t t.length = true := by
  unfold okFrom; rw [Nat.sub_self]; rfl

noncomputable abbrev S_r12_Right : Spec := ⟨as_r12_Right, rs_r12_Right, fun x => (g_Right x.1, ()), fun x => x.1.length ≤ 1000000, false⟩

def gl_r12_Right (O : Nat → Prop) (w0 : World) (t : List (den tTrigger)) (ht : t.length ≤ 1000000) :=
  PLift.up <| range_good (P := prog) (D := D_r12_Right) (fn := f_r12_Right) (rs := rs_r12_Right) (O := O) (w0 := w0) (todo := lp f_r12_Right 2) (σ := Unit) t.length
    (fun i _ => E_r12_Right_2 t t (lnx tTrigger t) i) (fun i _ => True)
    (fun i _ y => y = (okFrom t i && decide (t.length ≤ 32), ()))
    (fun i s hi _ ih => good_T (d_r12_Right k_r12_May k_r12_Less) ht_r12_Right (TL_r12_Right_2_eq t t _ _) ⟨fun _ => by
      have e1 : IntKind.wrap .i64 ((i : Int) - 1) = (i : Int) - 1 := small_i64 (by omega)
      have hc : (bif !g_may (el tTrigger t (i : Nat)) then true else bif decide (0 < (i : Int)) then !g_Less (el tTrigger t (IntKind.wrap IntKind.i64 ((i : Int) - 1))) (el tTrigger t (i : Nat)) else false) = !okAt t i := by
        rw [e1, okAt]
        cases g_may (el tTrigger t (i : Nat))
        · rfl
        · by_cases h : i = 0
          · simp [h]
          · have : (0 : Int) < (i : Int) := by omega
            rw [decide_eq_true this, decide_eq_false h]
            rfl
      refine ⟨inB_of hi, trivial, fun _ h => ?_, fun _ _ => trivial, ?_⟩
      · have h : (0 : Int) < (i : Int) := of_decide_eq_true h
        rw [e1]
        show 0 ≤ (i : Int) - 1 ∧ (i : Int) - 1 < (t.length : Int)
        omega
      · rw [hc, wr_idx hi (by omega)]
        refine ⟨fun h => ⟨_, rfl, ?_⟩, fun h => ?_⟩
        · rw [okFrom_step hi]
          have : okAt t i = false := by simpa using h
          rw [this]; rfl
        · refine Good.mono (fun y hy => ?_) (ih () trivial)
          have : okAt t i = true := by simpa using h
          rw [hy, okFrom_step hi, this, Bool.true_and], fun h => by
      have h : ¬ (i : Int) < (t.length : Int) := of_decide_eq_false h
      omega⟩)
    (fun s _ => good_T (d_r12_Right k_r12_May k_r12_Less) ht_r12_Right (TL_r12_Right_2_eq t t _ _) ⟨fun h => by
      have h : (t.length : Int) < (t.length : Int) := of_decide_eq_true h
      omega, fun _ => ⟨_, rfl, by
        rw [okFrom_end]
        have : (lnx tTrigger t ≤ 32) ↔ t.length ≤ 32 := ⟨fun h => by have h : (t.length : Int) ≤ 32 := h; omega, fun h => by show (t.length : Int) ≤ 32; omega⟩
        simp [this]⟩⟩)
theorem k_r12_Right : FnOk prog [] n_r12_Right S_r12_Right :=
  fn_T (d_r12_Right k_r12_May k_r12_Less) ht_r12_Right at_r12_Right (by kernel_rfl) (fun h => by cases h) (A := A_r12_Right) (T := fun x => T_r12_Right x.1) (fun x => T_r12_Right_eq x.1) fun O w0 x _ hp =>
    (gl_r12_Right O w0 x.1 hp).down 0 () (Nat.zero_le _) trivial

/-! ### Those of the likest identifier -/

/-- Those that have so many bits in common with it, and the first one's identifier. -/
def pickN (id : den tId) (n : Int) (b : List (den tTrigger)) (x : den tTrigger) : Bool :=
  decide (g_Common x.1 id = n) && (decide (b.length = 0) || decide ((el tTrigger b 0).1 = x.1))
def matchN (id : den tId) (n : Int) : List (den tTrigger) → List (den tTrigger) → List (den tTrigger)
  | [], b => b
  | x :: t, b => if pickN id n b x then matchN id n t (b ++ [x]) else matchN id n t b
def matchD (t : List (den tTrigger)) (id : den tId) : Nat → List (den tTrigger)
  | 0 => []
  | k + 1 => if 0 < (matchN id (127 + (k + 1 : Nat)) t []).length then matchN id (127 + (k + 1 : Nat)) t [] else matchD t id k

theorem matchN_len (id : den tId) (n : Int) : ∀ (t b : List (den tTrigger)), (matchN id n t b).length ≤ b.length + t.length
  | [], b => Nat.le_refl _
  | x :: t, b => by
    rw [matchN]; split
    · have := matchN_len id n t (b ++ [x]); simp only [List.length_append, List.length_cons, List.length_nil] at *; omega
    · have := matchN_len id n t b; simp only [List.length_cons] at *; omega

noncomputable abbrev S_r12_Match : Spec := ⟨as_r12_Match, rs_r12_Match, fun x => (matchD x.1 x.2.1 129, ()), fun x => x.1.length ≤ 1000000, false⟩

def gi_r12_Match (O : Nat → Prop) (w0 : World) (t : List (den tTrigger)) (id : den tId) (ht : t.length ≤ 1000000) (k : Nat) (hk : k ≤ 128)
    (out : Good prog D_r12_Match O w0 f_r12_Match (Ends prog O w0 rs_r12_Match fun y => y = (matchD t id k, ())) (lp f_r12_Match 3) (E_r12_Match_3 t (127 + (k : Nat)) id [])) :=
  PLift.up <| range_good (P := prog) (D := D_r12_Match) (fn := f_r12_Match) (rs := rs_r12_Match) (O := O) (w0 := w0) (todo := lp f_r12_Match 6) (σ := List (den tTrigger)) t.length
    (fun i s => E_r12_Match_6 t (127 + (k + 1 : Nat)) t (lnx tTrigger t) i id s) (fun i s => s.length ≤ i)
    (fun i s y => y = (if 0 < (matchN id (127 + (k + 1 : Nat)) (t.drop i) s).length then matchN id (127 + (k + 1 : Nat)) (t.drop i) s else matchD t id k, ()))
    (fun i s hi hs ih => good_T (d_r12_Match k_r01_Common) ht_r12_Match (TL_r12_Match_6_eq t _ t _ _ id s) ⟨fun _ => by
      have hc : ∀ x : den tTrigger, (bif decide (g_Common (Prod.fst x) id = (127 + (k + 1 : Nat) : Int)) then bif decide (lnx tTrigger s = 0) then true else eqb tId (Prod.fst (el tTrigger s 0)) (Prod.fst x) else false) = pickN id (127 + (k + 1 : Nat)) s x := fun x => by
        rw [pickN, eqb_tId]
        have : (lnx tTrigger s = 0) ↔ s.length = 0 := ⟨fun h => by have h : (s.length : Int) = 0 := h; omega, fun h => by show (s.length : Int) = 0; omega⟩
        simp only [this]
        cases decide (g_Common (Prod.fst x) id = (127 + (k + 1 : Nat) : Int)) <;> cases decide (s.length = 0) <;> rfl
      have hin : impl [(decide (g_Common (Prod.fst (el tTrigger t (i : Nat))) id = (127 + (k + 1 : Nat) : Int)), true), (decide (lnx tTrigger s = 0), false)] (inB 0 (lnx tTrigger s)) := fun _ h => by
        have h : ¬ (s.length : Int) = 0 := of_decide_eq_false h
        show (0 : Int) ≤ 0 ∧ (0 : Int) < (s.length : Int)
        omega
      refine ⟨inB_of hi, trivial, hin, hin, ?_⟩
      rw [hc, el_at hi, wr_idx hi (by omega), List.drop_eq_getElem_cons hi]
      refine ⟨fun h => ⟨by simp [most]; omega, ?_⟩, fun h => ?_⟩
      · refine Good.mono (fun y hy => ?_) (ih (s ++ [t[i]]) (by simp; omega))
        rw [hy, show matchN id (127 + (k + 1 : Nat)) (t[i] :: t.drop (i + 1)) s = matchN id (127 + (k + 1 : Nat)) (t.drop (i + 1)) (s ++ [t[i]]) from by rw [matchN, if_pos h]]
      · refine Good.mono (fun y hy => ?_) (ih s (by omega))
        rw [hy, show matchN id (127 + (k + 1 : Nat)) (t[i] :: t.drop (i + 1)) s = matchN id (127 + (k + 1 : Nat)) (t.drop (i + 1)) s from by rw [matchN, if_neg (by rw [h]; simp)]], fun h => by
      have h : ¬ (i : Int) < (t.length : Int) := of_decide_eq_false h
      omega⟩)
    (fun s _ => good_T (d_r12_Match k_r01_Common) ht_r12_Match (TL_r12_Match_6_eq t _ t _ _ id s) ⟨fun h => by
      have h : (t.length : Int) < (t.length : Int) := of_decide_eq_true h
      omega, fun _ => ⟨fun h => ⟨_, rfl, by
        have h : (0 : Int) < (s.length : Int) := of_decide_eq_true h
        rw [List.drop_length, matchN, if_pos (by omega)]⟩, fun h => by
        have h : ¬ (0 : Int) < (s.length : Int) := of_decide_eq_false h
        have hs : s = [] := List.eq_nil_of_length_eq_zero (by omega)
        subst hs
        rw [List.drop_length, matchN, if_neg (by simp)]
        have e9 : IntKind.wrap .i64 ((127 + ((k + 1 : Nat) : Int)) - 1) = 127 + (k : Int) := by rw [small_i64 (by omega)]; omega
        rw [e9]
        exact out⟩⟩)

theorem gl_r12_Match (O : Nat → Prop) (w0 : World) (t : List (den tTrigger)) (id : den tId) (ht : t.length ≤ 1000000) : ∀ k : Nat, k ≤ 129 →
    Good prog D_r12_Match O w0 f_r12_Match (Ends prog O w0 rs_r12_Match fun y => y = (matchD t id k, ())) (lp f_r12_Match 3) (E_r12_Match_3 t (127 + (k : Nat)) id [])
  | 0, _ => good_T (d_r12_Match k_r01_Common) ht_r12_Match (TL_r12_Match_3_eq t _ id []) ⟨fun h => by
      have h : (128 : Int) ≤ 127 + ((0 : Nat) : Int) := of_decide_eq_true h
      omega, fun _ => ⟨_, rfl, rfl⟩⟩
  | k + 1, hk => good_T (d_r12_Match k_r01_Common) ht_r12_Match (TL_r12_Match_3_eq t _ id []) ⟨fun _ => by
      have := (gi_r12_Match O w0 t id ht k (by omega) (gl_r12_Match O w0 t id ht k (by omega))).down 0 [] (Nat.zero_le _) (Nat.zero_le _)
      exact this, fun h => by
      have h : ¬ (128 : Int) ≤ 127 + ((k + 1 : Nat) : Int) := of_decide_eq_false h
      omega⟩
theorem k_r12_Match : FnOk prog [] n_r12_Match S_r12_Match :=
  fn_T (d_r12_Match k_r01_Common) ht_r12_Match at_r12_Match (by kernel_rfl) (fun h => by cases h) (A := A_r12_Match) (T := fun x => T_r12_Match x.1 x.2.1) (fun x => T_r12_Match_eq x.1 x.2.1) fun O w0 x _ hp =>
    gl_r12_Match O w0 x.1 x.2.1 hp 129 (by omega)

end Go.Proofs.Ytnccacngedeoeaa

/- What the table's functions, and the document's, compute. -/
namespace Go.Proofs.Ytnccacngedeoeaa
open Go Go.RowKit

abbrev Tr := den tTrigger

noncomputable abbrev S_table_compare : Spec := ⟨as_table_compare, rs_table_compare, fun x => (g_cmpT x.1 x.2.1, ()), fun _ => True, true⟩

def isIE (x : den tTrigger) (id : den tId) (e : den tEntry) : Bool := decide (x.1 = id) && decide (x.2.1 = e)
noncomputable abbrev S_r12_is : Spec := ⟨as_r12_is, rs_r12_is, fun x => (isIE x.1 x.2.1 x.2.2.1, ()), fun _ => True, true⟩

/-- No trigger. -/
def noT : den tTrigger := ((zero tTrigger).1, (zero tTrigger).2.1, (-1 : Int), ())
def g_Find (t : List (den tTrigger)) (id : den tId) (e : den tEntry) : den tTrigger := (t.find? fun x => isIE x id e).getD noT
noncomputable abbrev S_r12_Find : Spec := ⟨as_r12_Find, rs_r12_Find, fun x => (g_Find x.1 x.2.1 x.2.2.1, ()), fun x => x.1.length ≤ 1000000, false⟩
def g_Without (t : List (den tTrigger)) (id : den tId) (e : den tEntry) : List (den tTrigger) := t.filter fun x => !isIE x id e
noncomputable abbrev S_r12_Without : Spec := ⟨as_r12_Without, rs_r12_Without, fun x => (g_Without x.1 x.2.1 x.2.2.1, ()), fun x => x.1.length ≤ 1000000, false⟩

/-- Another time. -/
def untilT (x : den tTrigger) (u : Int) : den tTrigger := (x.1, x.2.1, u, ())
/-- Put in ahead of the first that is above it. -/
def putD (x : den tTrigger) : List (den tTrigger) → List (den tTrigger)
  | [] => [x]
  | y :: l => if g_Less x y then x :: y :: l else y :: putD x l
def lastT (t : List (den tTrigger)) (x : den tTrigger) : den tTrigger := if x.2.2.1 < (g_Find t x.1 x.2.1).2.2.1 then untilT x (g_Find t x.1 x.2.1).2.2.1 else x
def g_PutD (t : List (den tTrigger)) (x : den tTrigger) : List (den tTrigger) := putD (lastT t x) (g_Without t x.1 x.2.1)
noncomputable abbrev S_r12_Put : Spec := ⟨as_r12_Put, rs_r12_Put, fun x => (g_PutD x.1 x.2.1, decide ((g_PutD x.1 x.2.1).length ≤ 32), ()), fun x => x.1.length ≤ 1000000, false⟩

noncomputable abbrev S_table_Right : Spec := ⟨as_table_Right, rs_table_Right, fun x => (g_Right x.1, ()), fun x => x.1.length ≤ 1000000, false⟩
noncomputable abbrev S_table_Cut_1 : Spec := ⟨as_table_Cut_1, rs_table_Cut_1, fun x => (g_In x.1.1 x.2.1 x.2.2.1, ()), fun _ => True, true⟩

/-- Halving. -/
def halve (c : Nat → Int) : Nat → Nat → Nat → Nat
  | 0, i, _ => i
  | k + 1, i, j => if i < j then (if c ((i + j) / 2) < 0 then halve c k ((i + j) / 2 + 1) j else halve c k i ((i + j) / 2)) else i
def cmpB (f : den (.fn (.pair tTrigger (.pair tTrigger .unit)) (.pair (.int .i64) .unit))) (x y : den tTrigger) : Int := (fcall (a := .pair tTrigger (.pair tTrigger .unit)) (r := .pair (.int .i64) .unit) f (x, y, ())).1
def findB (c : den tTrigger → Int) (t : List (den tTrigger)) : Nat := halve (fun k => c (el tTrigger t (k : Nat))) t.length 0 t.length
def isB (c : den tTrigger → Int) (t : List (den tTrigger)) : Bool := decide (findB c t < t.length) && decide (c (el tTrigger t (findB c t : Nat)) = 0)
noncomputable abbrev S_slices_BinarySearchFunc_Trigger : Spec := ⟨as_slices_BinarySearchFunc_Trigger, rs_slices_BinarySearchFunc_Trigger, fun x => (((findB (fun y => cmpB x.2.2.1 y x.2.1) x.1 : Nat) : Int), isB (fun y => cmpB x.2.2.1 y x.2.1) x.1, ()), fun x => x.1.length ≤ 1000000 ∧ isFn (a := .pair tTrigger (.pair tTrigger .unit)) (r := .pair (.int .i64) .unit) x.2.2.1, false⟩

def g_TExpire (t : List (den tTrigger)) (now : Int) : List (den tTrigger) × Int := if g_Right t then (g_Expire t now, 0) else ([], 1)
noncomputable abbrev S_table_Expire : Spec := ⟨as_table_Expire, rs_table_Expire, fun x => ((g_TExpire x.1 x.2.1).1, (g_TExpire x.1 x.2.1).2, ()), fun x => x.1.length ≤ 1000000, false⟩
/-- The likest, and how like. -/
def likest (id : den tId) : List (den tTrigger) → Int → den tId → Int × den tId
  | [], m, l => (m, l)
  | x :: t, m, l => if m < g_Common x.1 id then likest id t (g_Common x.1 id) x.1 else likest id t m l
def g_Match (t : List (den tTrigger)) (id : den tId) : List (den tTrigger) × Int :=
  if g_Right t then (if (likest id t 127 (zero tId)).1 < 128 then ([], 6) else (t.filter fun x => decide (x.1 = (likest id t 127 (zero tId)).2), 0)) else ([], 1)
noncomputable abbrev S_table_Match : Spec := ⟨as_table_Match, rs_table_Match, fun x => ((g_Match x.1 x.2.1).1, (g_Match x.1 x.2.1).2, ()), fun x => x.1.length ≤ 1000000, false⟩
def g_Cut (t : List (den tTrigger)) (a b : den tId) : List (den tTrigger) × List (den tTrigger) × Int :=
  if g_Right t then (t.filter (fun x => g_In x.1 a b), t.filter (fun x => !g_In x.1 a b), 0) else ([], [], 1)
noncomputable abbrev S_table_Cut : Spec := ⟨as_table_Cut, rs_table_Cut, fun x => ((g_Cut x.1 x.2.1 x.2.2.1).1, (g_Cut x.1 x.2.1 x.2.2.1).2.1, (g_Cut x.1 x.2.1 x.2.2.1).2.2, ()), fun x => x.1.length ≤ 1000000, false⟩

def atB (t : List (den tTrigger)) (x : den tTrigger) : Nat := findB (fun y => g_cmpT y x) t
def thereB (t : List (den tTrigger)) (x : den tTrigger) : Bool := isB (fun y => g_cmpT y x) t
def g_Put (t : List (den tTrigger)) (x : den tTrigger) : List (den tTrigger) × Int :=
  if g_Right t && g_may x then
    (if thereB t x then (t.set (atB t x) (untilT (el tTrigger t (atB t x : Nat)) (maxI (el tTrigger t (atB t x : Nat)).2.2.1 x.2.2.1)), 0)
    else if t.length = 32 then ([], 8) else (putIn t (atB t x) [x], 0))
  else ([], 1)
noncomputable abbrev S_table_Put : Spec := ⟨as_table_Put, rs_table_Put, fun x => ((g_Put x.1 x.2.1).1, (g_Put x.1 x.2.1).2, ()), fun x => x.1.length ≤ 1000000, false⟩
def keyT (id : den tId) (e : den tEntry) : den tTrigger := (id, e, (0 : Int), ())
def g_Drop (t : List (den tTrigger)) (id : den tId) (e : den tEntry) : List (den tTrigger) × Int :=
  if g_Right t then (if thereB t (keyT id e) then (t.take (atB t (keyT id e)) ++ t.drop (atB t (keyT id e) + 1), 0) else ([], 6)) else ([], 1)
noncomputable abbrev S_table_Drop : Spec := ⟨as_table_Drop, rs_table_Drop, fun x => ((g_Drop x.1 x.2.1 x.2.2.1).1, (g_Drop x.1 x.2.1 x.2.2.1).2, ()), fun x => x.1.length ≤ 1000000, false⟩
noncomputable abbrev S_l12_alive : Spec := ⟨as_l12_alive, rs_l12_alive, fun _ => (true, ()), fun _ => True, true⟩

end Go.Proofs.Ytnccacngedeoeaa

/- The trees of functions' bodies, as the evaluator prints them. -/
namespace Go.Proofs.Ytnccacngedeoeaa
open Go Go.RowKit

noncomputable abbrev fx_table_Put : Fx := { fn := f_table_Put, ann := { } }
noncomputable abbrev X_table_Put : TabX := { D := { T := tyTab, F := [(n_table_Right, S_table_Right), (n_table_may, S_table_may), (n_slices_BinarySearchFunc_Trigger, S_slices_BinarySearchFunc_Trigger), (n_table_compare, S_table_compare)], R := [(n_slices_Clone_Trigger, S_slices_Clone_Trigger), (n_slices_Insert_Trigger, S_slices_Insert_Trigger)], ovl := [] }, inl := [] }
noncomputable abbrev M_table_Put : RMode := .data rs_table_Put
theorem x_table_Put (h_table_Right : FnOk prog [] n_table_Right S_table_Right) (h_table_may : FnOk prog [] n_table_may S_table_may) (h_slices_BinarySearchFunc_Trigger : FnOk prog [] n_slices_BinarySearchFunc_Trigger S_slices_BinarySearchFunc_Trigger) (h_table_compare : FnOk prog [] n_table_compare S_table_compare) (h_slices_Clone_Trigger : RFnOk prog [] n_slices_Clone_Trigger S_slices_Clone_Trigger) (h_slices_Insert_Trigger : RFnOk prog [] n_slices_Insert_Trigger S_slices_Insert_Trigger) : XOk prog X_table_Put := xok (dok_add (dok_add (dok_add (dok_add (dok_nil tab_ok mixed_ok) h_table_compare) h_slices_BinarySearchFunc_Trigger) h_table_may) h_table_Right) (by kernel_rfl) (rows_add h_slices_Clone_Trigger (rows_add h_slices_Insert_Trigger rows_nil)) inl_nil ovl_nil
noncomputable def T_table_Put (t : den (Ty.slc tTrigger)) (x : den tTrigger) : TreeS :=
  TreeS.req (List.length t ≤ 1000000)
  (TreeS.req (impl [(!g_Right t, false)] True)
    (TreeS.ite (bif !g_Right t then true else !g_may x)
      (TreeS.ret (K.val (Ty.pair (Ty.slc tTrigger) (Ty.pair tInt Ty.unit)) ([], 1, PUnit.unit)))
      (TreeS.req
        (List.length t ≤ 1000000 ∧
          isFnx (Ty.pair tTrigger (Ty.pair tTrigger Ty.unit)) (Ty.pair tInt Ty.unit)
            (some fun (x : den as_table_compare) ↦ (g_cmpT (Prod.fst x) (Prod.fst (Prod.snd x)), PUnit.unit)))
        (TreeS.ite
          (isB
            (fun (y : den tTrigger) ↦
              cmpB (some fun (x : den as_table_compare) ↦ (g_cmpT (Prod.fst x) (Prod.fst (Prod.snd x)), PUnit.unit)) y
                x)
            t)
          (TreeS.req (List.length t ≤ most)
            (TreeS.req
              (inB
                (↑(findB
                      (fun (y : den tTrigger) ↦
                        cmpB
                          (some fun (x : den as_table_compare) ↦
                            (g_cmpT (Prod.fst x) (Prod.fst (Prod.snd x)), PUnit.unit))
                          y x)
                      t) :
                  Int)
                (lnx tTrigger t))
              (TreeS.req
                (inB
                  (↑(findB
                        (fun (y : den tTrigger) ↦
                          cmpB
                            (some fun (x : den as_table_compare) ↦
                              (g_cmpT (Prod.fst x) (Prod.fst (Prod.snd x)), PUnit.unit))
                            y x)
                        t) :
                    Int)
                  (lnx tTrigger t))
                (TreeS.req
                  (inB
                    (↑(findB
                          (fun (y : den tTrigger) ↦
                            cmpB
                              (some fun (x : den as_table_compare) ↦
                                (g_cmpT (Prod.fst x) (Prod.fst (Prod.snd x)), PUnit.unit))
                              y x)
                          t) :
                      Int)
                    (lnx tTrigger t))
                  (TreeS.req
                    (inB
                      (↑(findB
                            (fun (y : den tTrigger) ↦
                              cmpB
                                (some fun (x : den as_table_compare) ↦
                                  (g_cmpT (Prod.fst x) (Prod.fst (Prod.snd x)), PUnit.unit))
                                y x)
                            t) :
                        Int)
                      (lnx tTrigger t))
                    (TreeS.ret
                      (K.val (Ty.pair (Ty.slc tTrigger) (Ty.pair tInt Ty.unit))
                        (setAtx tTrigger t
                            (↑(findB
                                  (fun (y : den tTrigger) ↦
                                    cmpB
                                      (some fun (x : den as_table_compare) ↦
                                        (g_cmpT (Prod.fst x) (Prod.fst (Prod.snd x)), PUnit.unit))
                                      y x)
                                  t) :
                              Int)
                            (Prod.fst
                                (el tTrigger t
                                  (↑(findB
                                        (fun (y : den tTrigger) ↦
                                          cmpB
                                            (some fun (x : den as_table_compare) ↦
                                              (g_cmpT (Prod.fst x) (Prod.fst (Prod.snd x)), PUnit.unit))
                                            y x)
                                        t) :
                                    Int)),
                              Prod.fst
                                (Prod.snd
                                  (el tTrigger t
                                    (↑(findB
                                          (fun (y : den tTrigger) ↦
                                            cmpB
                                              (some fun (x : den as_table_compare) ↦
                                                (g_cmpT (Prod.fst x) (Prod.fst (Prod.snd x)), PUnit.unit))
                                              y x)
                                          t) :
                                      Int))),
                              maxI
                                (Prod.fst
                                  (Prod.snd
                                    (Prod.snd
                                      (el tTrigger t
                                        (↑(findB
                                              (fun (y : den tTrigger) ↦
                                                cmpB
                                                  (some fun (x : den as_table_compare) ↦
                                                    (g_cmpT (Prod.fst x) (Prod.fst (Prod.snd x)), PUnit.unit))
                                                  y x)
                                              t) :
                                          Int)))))
                                (Prod.fst (Prod.snd (Prod.snd x))),
                              Prod.snd
                                (Prod.snd
                                  (Prod.snd
                                    (el tTrigger t
                                      (↑(findB
                                            (fun (y : den tTrigger) ↦
                                              cmpB
                                                (some fun (x : den as_table_compare) ↦
                                                  (g_cmpT (Prod.fst x) (Prod.fst (Prod.snd x)), PUnit.unit))
                                                y x)
                                            t) :
                                        Int))))),
                          0, PUnit.unit))))))))
          (TreeS.ite (decide (lnx tTrigger t = 32))
            (TreeS.ret (K.val (Ty.pair (Ty.slc tTrigger) (Ty.pair tInt Ty.unit)) ([], 8, PUnit.unit)))
            (TreeS.req (List.length t ≤ most)
              (TreeS.req (vok 0 (List.length t) (List.length t))
                (TreeS.req
                  (0 ≤
                      (↑(findB
                            (fun (y : den tTrigger) ↦
                              cmpB
                                (some fun (x : den as_table_compare) ↦
                                  (g_cmpT (Prod.fst x) (Prod.fst (Prod.snd x)), PUnit.unit))
                                y x)
                            t) :
                        Int) ∧
                    (↑(findB
                              (fun (y : den tTrigger) ↦
                                cmpB
                                  (some fun (x : den as_table_compare) ↦
                                    (g_cmpT (Prod.fst x) (Prod.fst (Prod.snd x)), PUnit.unit))
                                  y x)
                              t) :
                          Int) ≤
                        (↑(List.length (vpart tTrigger t 0 (List.length t))) : den tInt) ∧
                      List.length (vpart tTrigger t 0 (List.length t)) + List.length [x] ≤ most)
                  (TreeS.ret
                    (K.val (Ty.pair (Ty.slc tTrigger) (Ty.pair tInt Ty.unit))
                      (putIn (vpart tTrigger t 0 (List.length t))
                          (Int.toNat
                            (↑(findB
                                  (fun (y : den tTrigger) ↦
                                    cmpB
                                      (some fun (x : den as_table_compare) ↦
                                        (g_cmpT (Prod.fst x) (Prod.fst (Prod.snd x)), PUnit.unit))
                                      y x)
                                  t) :
                              Int))
                          [x],
                        0, PUnit.unit)))))))))))
theorem T_table_Put_eq (t : den (Ty.slc tTrigger)) (x : den tTrigger) : treeS X_table_Put M_table_Put 5000 [] fx_table_Put (bodyOf f_table_Put) (Env.of
  (argEnv as_table_Put (t, x, ()) 0) []) = T_table_Put t x := by kernel_rfl

noncomputable abbrev fx_table_Drop : Fx := { fn := f_table_Drop, ann := { } }
noncomputable abbrev X_table_Drop : TabX := { D := { T := tyTab, F := [(n_table_Right, S_table_Right), (n_slices_BinarySearchFunc_Trigger, S_slices_BinarySearchFunc_Trigger), (n_table_compare, S_table_compare)], R := [(n_slices_Clone_Trigger, S_slices_Clone_Trigger), (n_slices_Delete_Trigger, S_slices_Delete_Trigger)], ovl := [] }, inl := [] }
noncomputable abbrev M_table_Drop : RMode := .data rs_table_Drop
theorem x_table_Drop (h_table_Right : FnOk prog [] n_table_Right S_table_Right) (h_slices_BinarySearchFunc_Trigger : FnOk prog [] n_slices_BinarySearchFunc_Trigger S_slices_BinarySearchFunc_Trigger) (h_table_compare : FnOk prog [] n_table_compare S_table_compare) (h_slices_Clone_Trigger : RFnOk prog [] n_slices_Clone_Trigger S_slices_Clone_Trigger) (h_slices_Delete_Trigger : RFnOk prog [] n_slices_Delete_Trigger S_slices_Delete_Trigger) : XOk prog X_table_Drop := xok (dok_add (dok_add (dok_add (dok_nil tab_ok mixed_ok) h_table_compare) h_slices_BinarySearchFunc_Trigger) h_table_Right) (by kernel_rfl) (rows_add h_slices_Clone_Trigger (rows_add h_slices_Delete_Trigger rows_nil)) inl_nil ovl_nil
noncomputable def T_table_Drop (t : den (Ty.slc tTrigger)) (id : den tId) (e : den tEntry) : TreeS :=
  TreeS.req (List.length t ≤ 1000000)
  (TreeS.ite (!g_Right t) (TreeS.ret (K.val (Ty.pair (Ty.slc tTrigger) (Ty.pair tInt Ty.unit)) ([], 1, PUnit.unit)))
    (TreeS.req
      (List.length t ≤ 1000000 ∧
        isFnx (Ty.pair tTrigger (Ty.pair tTrigger Ty.unit)) (Ty.pair tInt Ty.unit)
          (some fun (x : den as_table_compare) ↦ (g_cmpT (Prod.fst x) (Prod.fst (Prod.snd x)), PUnit.unit)))
      (TreeS.ite
        (!isB
            (fun (y : den tTrigger) ↦
              cmpB (some fun (x : den as_table_compare) ↦ (g_cmpT (Prod.fst x) (Prod.fst (Prod.snd x)), PUnit.unit)) y
                (id, e, Prod.snd (Prod.snd (zero (Ty.pair tId (Ty.pair tEntry (Ty.pair tInt Ty.unit)))))))
            t)
        (TreeS.ret (K.val (Ty.pair (Ty.slc tTrigger) (Ty.pair tInt Ty.unit)) ([], 6, PUnit.unit)))
        (TreeS.req (List.length t ≤ most)
          (TreeS.req (vok 0 (List.length t) (List.length t))
            (TreeS.req
              (0 ≤
                  (↑(findB
                        (fun (y : den tTrigger) ↦
                          cmpB
                            (some fun (x : den as_table_compare) ↦
                              (g_cmpT (Prod.fst x) (Prod.fst (Prod.snd x)), PUnit.unit))
                            y (id, e, Prod.snd (Prod.snd (zero (Ty.pair tId (Ty.pair tEntry (Ty.pair tInt Ty.unit)))))))
                        t) :
                    Int) ∧
                (↑(findB
                          (fun (y : den tTrigger) ↦
                            cmpB
                              (some fun (x : den as_table_compare) ↦
                                (g_cmpT (Prod.fst x) (Prod.fst (Prod.snd x)), PUnit.unit))
                              y
                              (id, e, Prod.snd (Prod.snd (zero (Ty.pair tId (Ty.pair tEntry (Ty.pair tInt Ty.unit)))))))
                          t) :
                      Int) ≤
                    IntKind.wrap IntKind.i64
                      ((↑(findB
                              (fun (y : den tTrigger) ↦
                                cmpB
                                  (some fun (x : den as_table_compare) ↦
                                    (g_cmpT (Prod.fst x) (Prod.fst (Prod.snd x)), PUnit.unit))
                                  y
                                  (id, e,
                                    Prod.snd (Prod.snd (zero (Ty.pair tId (Ty.pair tEntry (Ty.pair tInt Ty.unit)))))))
                              t) :
                          Int) +
                        1) ∧
                  IntKind.wrap IntKind.i64
                      ((↑(findB
                              (fun (y : den tTrigger) ↦
                                cmpB
                                  (some fun (x : den as_table_compare) ↦
                                    (g_cmpT (Prod.fst x) (Prod.fst (Prod.snd x)), PUnit.unit))
                                  y
                                  (id, e,
                                    Prod.snd (Prod.snd (zero (Ty.pair tId (Ty.pair tEntry (Ty.pair tInt Ty.unit)))))))
                              t) :
                          Int) +
                        1) ≤
                    (↑(List.length (vpart tTrigger t 0 (List.length t))) : den tInt))
              (TreeS.ret
                (K.val (Ty.pair (Ty.slc tTrigger) (Ty.pair tInt Ty.unit))
                  (List.take
                        (Int.toNat
                          (↑(findB
                                (fun (y : den tTrigger) ↦
                                  cmpB
                                    (some fun (x : den as_table_compare) ↦
                                      (g_cmpT (Prod.fst x) (Prod.fst (Prod.snd x)), PUnit.unit))
                                    y
                                    (id, e,
                                      Prod.snd (Prod.snd (zero (Ty.pair tId (Ty.pair tEntry (Ty.pair tInt Ty.unit)))))))
                                t) :
                            Int))
                        (vpart tTrigger t 0 (List.length t)) ++
                      List.drop
                        (Int.toNat
                          (IntKind.wrap IntKind.i64
                            ((↑(findB
                                    (fun (y : den tTrigger) ↦
                                      cmpB
                                        (some fun (x : den as_table_compare) ↦
                                          (g_cmpT (Prod.fst x) (Prod.fst (Prod.snd x)), PUnit.unit))
                                        y
                                        (id, e,
                                          Prod.snd
                                            (Prod.snd (zero (Ty.pair tId (Ty.pair tEntry (Ty.pair tInt Ty.unit)))))))
                                    t) :
                                Int) +
                              1)))
                        (vpart tTrigger t 0 (List.length t)),
                    0, PUnit.unit)))))))))
theorem T_table_Drop_eq (t : den (Ty.slc tTrigger)) (id : den tId) (e : den tEntry) : treeS X_table_Drop M_table_Drop 5000 [] fx_table_Drop (bodyOf f_table_Drop) (Env.of
  (argEnv as_table_Drop (t, id, e, ()) 0) []) = T_table_Drop t id e := by kernel_rfl

noncomputable abbrev fx_table_Expire : Fx := { fn := f_table_Expire, ann := { frz := [(3, [3])] } }
noncomputable abbrev X_table_Expire : TabX := { D := { T := tyTab, F := [(n_table_Right, S_table_Right), (n_table_Expire_1, S_table_Expire_1), (n_table_parted_Trigger, S_table_parted_Trigger)], R := [], ovl := [] }, inl := [] }
noncomputable abbrev M_table_Expire : RMode := .data rs_table_Expire
theorem x_table_Expire (h_table_Right : FnOk prog [] n_table_Right S_table_Right) (h_table_Expire_1 : FnOk prog [] n_table_Expire_1 S_table_Expire_1) (h_table_parted_Trigger : FnOk prog [] n_table_parted_Trigger S_table_parted_Trigger) : XOk prog X_table_Expire := xok (dok_add (dok_add (dok_add (dok_nil tab_ok mixed_ok) h_table_parted_Trigger) h_table_Expire_1) h_table_Right) (by kernel_rfl) rows_nil inl_nil ovl_nil
noncomputable def T_table_Expire (t : den (Ty.slc tTrigger)) (now : den tInt) : TreeS :=
  TreeS.req (List.length t ≤ 1000000)
  (TreeS.ite (!g_Right t) (TreeS.ret (K.val (Ty.pair (Ty.slc tTrigger) (Ty.pair tInt Ty.unit)) ([], 1, PUnit.unit)))
    (TreeS.req (∀ (y : den (Ty.pair tTrigger Ty.unit)), True)
      (TreeS.req
        (List.length t ≤ 1000000 ∧
          isFnx (Ty.pair tTrigger Ty.unit) (Ty.pair Ty.bool Ty.unit)
            (some fun (y : den (Ty.pair tTrigger Ty.unit)) ↦
              (decide (Prod.fst (Prod.snd (Prod.snd (Prod.fst y))) ≤ now), PUnit.unit)))
        (TreeS.ret
          (K.val (Ty.pair (Ty.slc tTrigger) (Ty.pair tInt Ty.unit))
            (List.filter
                (fun (y : den tTrigger) ↦
                  !isT
                      (some fun (y : den (Ty.pair tTrigger Ty.unit)) ↦
                        (decide (Prod.fst (Prod.snd (Prod.snd (Prod.fst y))) ≤ now), PUnit.unit))
                      y)
                t,
              0, PUnit.unit))))))
theorem T_table_Expire_eq (t : den (Ty.slc tTrigger)) (now : den tInt) : treeS X_table_Expire M_table_Expire 5000 [] fx_table_Expire (bodyOf f_table_Expire) (Env.of
  (argEnv as_table_Expire (t, now, ()) 0) []) = T_table_Expire t now := by kernel_rfl

noncomputable abbrev fx_table_Match : Fx := { fn := f_table_Match, ann := { loops := [(5, { keep := [0, 3, 6, 7, 17, 18, 19] })], frz := [(13, [7])] } }
noncomputable abbrev X_table_Match : TabX := { D := { T := tyTab, F := [(n_table_Right, S_table_Right), (n_table_Match_1, S_table_Match_1), (n_table_parted_Trigger, S_table_parted_Trigger), (n_ident_Common, S_ident_Common)], R := [], ovl := [] }, inl := [] }
noncomputable abbrev M_table_Match : RMode := .data rs_table_Match
theorem x_table_Match (h_table_Right : FnOk prog [] n_table_Right S_table_Right) (h_table_Match_1 : FnOk prog [] n_table_Match_1 S_table_Match_1) (h_table_parted_Trigger : FnOk prog [] n_table_parted_Trigger S_table_parted_Trigger) (h_ident_Common : FnOk prog [] n_ident_Common S_ident_Common) : XOk prog X_table_Match := xok (dok_add (dok_add (dok_add (dok_add (dok_nil tab_ok mixed_ok) h_ident_Common) h_table_parted_Trigger) h_table_Match_1) h_table_Right) (by kernel_rfl) rows_nil inl_nil ovl_nil
noncomputable def T_table_Match (t : den (Ty.slc tTrigger)) (id : den tId) : TreeS :=
  TreeS.req (List.length t ≤ 1000000)
  (TreeS.ite (!g_Right t) (TreeS.ret (K.val (Ty.pair (Ty.slc tTrigger) (Ty.pair tInt Ty.unit)) ([], 1, PUnit.unit)))
    (TreeS.loop [] fx_table_Match (lp f_table_Match 5)
      [(0, K.val (Ty.slc tTrigger) t), (3, K.ptr 0 tId []), (6, K.val tInt 127), (7, K.ptr (0 + 1) tId []),
        (17, K.val (Ty.slc tTrigger) t), (18, K.val tInt (lnx tTrigger t)), (19, K.val tInt 0)]
      [(0, Bx.cell tId id), (0 + 1, Bx.cell tId (List.replicate 32 (zero (Ty.int IntKind.u8))))]))
theorem T_table_Match_eq (t : den (Ty.slc tTrigger)) (id : den tId) : treeS X_table_Match M_table_Match 5000 [] fx_table_Match (bodyOf f_table_Match) (Env.of
  (argEnv as_table_Match (t, id, ()) 0) []) = T_table_Match t id := by kernel_rfl

noncomputable def E_table_Match_5 (v0 : den (Ty.slc tTrigger)) (v6 : den tInt) (v17 : den (Ty.slc tTrigger)) (v18 : den tInt) (v19 : den tInt) (b0 : den tId) (b1 : den tId) : Env := Env.of
  [(0, K.val (Ty.slc tTrigger) v0), (3, K.ptr 0 tId []), (6, K.val tInt v6), (7, K.ptr (0 + 1) tId []),
    (17, K.val (Ty.slc tTrigger) v17), (18, K.val tInt v18), (19, K.val tInt v19)]
  [(0, Bx.cell tId b0), (1, Bx.cell tId b1)]
noncomputable def TL_table_Match_5 (v0 : den (Ty.slc tTrigger)) (v6 : den tInt) (v17 : den (Ty.slc tTrigger)) (v18 : den tInt) (v19 : den tInt) (b0 : den tId) (b1 : den tId) : TreeS :=
  TreeS.ite (decide (v19 < v18))
  (TreeS.req (inB v19 (lnx tTrigger v17))
    (TreeS.req True
      (TreeS.ite (decide (v6 < g_Common (Prod.fst (el tTrigger v17 v19)) b0))
        (TreeS.loop [] fx_table_Match (lp f_table_Match 5)
          [(0, K.val (Ty.slc tTrigger) v0), (3, K.ptr 0 tId []),
            (6, K.val tInt (g_Common (Prod.fst (el tTrigger v17 v19)) b0)), (7, K.ptr (0 + 1) tId []),
            (17, K.val (Ty.slc tTrigger) v17), (18, K.val tInt v18),
            (19, K.val tInt (IntKind.wrap IntKind.i64 (v19 + 1)))]
          [(0, Bx.cell tId b0), (0 + 1, Bx.cell tId (Prod.fst (el tTrigger v17 v19)))])
        (TreeS.loop [] fx_table_Match (lp f_table_Match 5)
          [(0, K.val (Ty.slc tTrigger) v0), (3, K.ptr 0 tId []), (6, K.val tInt v6), (7, K.ptr (0 + 1) tId []),
            (17, K.val (Ty.slc tTrigger) v17), (18, K.val tInt v18),
            (19, K.val tInt (IntKind.wrap IntKind.i64 (v19 + 1)))]
          [(0, Bx.cell tId b0), (0 + 1, Bx.cell tId b1)]))))
  (TreeS.ite (decide (v6 < 128))
    (TreeS.ret (K.val (Ty.pair (Ty.slc tTrigger) (Ty.pair tInt Ty.unit)) ([], 6, PUnit.unit)))
    (TreeS.req (∀ (y : den (Ty.pair tTrigger Ty.unit)), True)
      (TreeS.req
        (List.length v0 ≤ 1000000 ∧
          isFnx (Ty.pair tTrigger Ty.unit) (Ty.pair Ty.bool Ty.unit)
            (some fun (y : den (Ty.pair tTrigger Ty.unit)) ↦ (decide (Prod.fst (Prod.fst y) = b1), PUnit.unit)))
        (TreeS.ret
          (K.val (Ty.pair (Ty.slc tTrigger) (Ty.pair tInt Ty.unit))
            (List.filter
                (isT
                  (some fun (y : den (Ty.pair tTrigger Ty.unit)) ↦ (decide (Prod.fst (Prod.fst y) = b1), PUnit.unit)))
                v0,
              0, PUnit.unit))))))
theorem TL_table_Match_5_eq (v0 : den (Ty.slc tTrigger)) (v6 : den tInt) (v17 : den (Ty.slc tTrigger)) (v18 : den tInt) (v19 : den tInt) (b0 : den tId) (b1 : den tId) : treeS X_table_Match M_table_Match 5000 [] fx_table_Match (lp f_table_Match 5) (E_table_Match_5 v0 v6 v17 v18 v19 b0 b1) = TL_table_Match_5 v0 v6 v17 v18 v19 b0 b1 := by kernel_rfl

noncomputable abbrev fx_table_Cut : Fx := { fn := f_table_Cut, ann := { frz := [(3, [4, 5])] } }
noncomputable abbrev X_table_Cut : TabX := { D := { T := tyTab, F := [(n_table_Right, S_table_Right), (n_table_Cut_1, S_table_Cut_1), (n_table_parted_Trigger, S_table_parted_Trigger)], R := [], ovl := [] }, inl := [] }
noncomputable abbrev M_table_Cut : RMode := .data rs_table_Cut
theorem x_table_Cut (h_table_Right : FnOk prog [] n_table_Right S_table_Right) (h_table_Cut_1 : FnOk prog [] n_table_Cut_1 S_table_Cut_1) (h_table_parted_Trigger : FnOk prog [] n_table_parted_Trigger S_table_parted_Trigger) : XOk prog X_table_Cut := xok (dok_add (dok_add (dok_add (dok_nil tab_ok mixed_ok) h_table_parted_Trigger) h_table_Cut_1) h_table_Right) (by kernel_rfl) rows_nil inl_nil ovl_nil
noncomputable def T_table_Cut (t : den (Ty.slc tTrigger)) (a : den tId) (b : den tId) : TreeS :=
  TreeS.req (List.length t ≤ 1000000)
  (TreeS.ite (!g_Right t)
    (TreeS.ret
      (K.val (Ty.pair (Ty.slc tTrigger) (Ty.pair (Ty.slc tTrigger) (Ty.pair tInt Ty.unit))) ([], [], 1, PUnit.unit)))
    (TreeS.req (∀ (y : den (Ty.pair tTrigger Ty.unit)), True)
      (TreeS.req
        (List.length t ≤ 1000000 ∧
          isFnx (Ty.pair tTrigger Ty.unit) (Ty.pair Ty.bool Ty.unit)
            (some fun (y : den (Ty.pair tTrigger Ty.unit)) ↦ (g_In (Prod.fst (Prod.fst y)) a b, PUnit.unit)))
        (TreeS.ret
          (K.val (Ty.pair (Ty.slc tTrigger) (Ty.pair (Ty.slc tTrigger) (Ty.pair tInt Ty.unit)))
            (List.filter
                (isT (some fun (y : den (Ty.pair tTrigger Ty.unit)) ↦ (g_In (Prod.fst (Prod.fst y)) a b, PUnit.unit)))
                t,
              List.filter
                (fun (y : den tTrigger) ↦
                  !isT (some fun (y : den (Ty.pair tTrigger Ty.unit)) ↦ (g_In (Prod.fst (Prod.fst y)) a b, PUnit.unit))
                      y)
                t,
              0, PUnit.unit))))))
theorem T_table_Cut_eq (t : den (Ty.slc tTrigger)) (a : den tId) (b : den tId) : treeS X_table_Cut M_table_Cut 5000 [] fx_table_Cut (bodyOf f_table_Cut) (Env.of
  (argEnv as_table_Cut (t, a, b, ()) 0) []) = T_table_Cut t a b := by kernel_rfl

end Go.Proofs.Ytnccacngedeoeaa

/- The trees of functions' bodies, as the evaluator prints them. -/
namespace Go.Proofs.Ytnccacngedeoeaa
open Go Go.RowKit

noncomputable abbrev D_table_compare : Tabs := { T := tyTab, F := [(n_table_trigger_id, S_table_trigger_id), (n_table_trigger_kind, S_table_trigger_kind), (n_table_trigger_goes, S_table_trigger_goes), (n_table_trigger_host, S_table_trigger_host)], n := (f_table_compare).ntmps }
noncomputable abbrev A_table_compare : Ann := { loops := [(2, { keep := [2, 3, 8, 9, 10] })] }
theorem d_table_compare (h_table_trigger_id : FnOk prog [] n_table_trigger_id S_table_trigger_id) (h_table_trigger_kind : FnOk prog [] n_table_trigger_kind S_table_trigger_kind) (h_table_trigger_goes : FnOk prog [] n_table_trigger_goes S_table_trigger_goes) (h_table_trigger_host : FnOk prog [] n_table_trigger_host S_table_trigger_host) : DOkX prog D_table_compare := dokx (dok_add (dok_add (dok_add (dok_add (dok_nil tab_ok mixed_ok) h_table_trigger_host) h_table_trigger_goes) h_table_trigger_kind) h_table_trigger_id)
theorem ht_table_compare : htOk D_table_compare = true := by kernel_rfl
noncomputable def T_table_compare (a : den tTrigger) (b : den tTrigger) : Tree :=
  Tree.loop (lp f_table_compare 2)
  [(2, K.ptr 2 tTrigger []), (3, K.ptr 3 tTrigger []),
    (8,
      K.val (Ty.slc (Ty.fn (Ty.pair tTrigger (Ty.pair tTrigger Ty.unit)) (Ty.pair tInt Ty.unit)))
        [some fun x ↦ (g_Cmp (Prod.fst (Prod.fst x)) (Prod.fst (Prod.fst (Prod.snd x))), PUnit.unit),
          some fun x ↦
            (cmpI (Prod.fst (Prod.fst (Prod.snd (Prod.fst x))))
                (Prod.fst (Prod.fst (Prod.snd (Prod.fst (Prod.snd x))))),
              PUnit.unit),
          some fun x ↦
            (g_Cmp (Prod.fst (Prod.snd (Prod.fst (Prod.snd (Prod.fst x)))))
                (Prod.fst (Prod.snd (Prod.fst (Prod.snd (Prod.fst (Prod.snd x)))))),
              PUnit.unit),
          some fun x ↦
            (cmpI (Prod.fst (Prod.snd (Prod.snd (Prod.fst (Prod.snd (Prod.fst x))))))
                (Prod.fst (Prod.snd (Prod.snd (Prod.fst (Prod.snd (Prod.fst (Prod.snd x))))))),
              PUnit.unit)]),
    (9,
      K.val tInt
        (lnx (Ty.fn (Ty.pair tTrigger (Ty.pair tTrigger Ty.unit)) (Ty.pair tInt Ty.unit))
          [some fun x ↦ (g_Cmp (Prod.fst (Prod.fst x)) (Prod.fst (Prod.fst (Prod.snd x))), PUnit.unit),
            some fun x ↦
              (cmpI (Prod.fst (Prod.fst (Prod.snd (Prod.fst x))))
                  (Prod.fst (Prod.fst (Prod.snd (Prod.fst (Prod.snd x))))),
                PUnit.unit),
            some fun x ↦
              (g_Cmp (Prod.fst (Prod.snd (Prod.fst (Prod.snd (Prod.fst x)))))
                  (Prod.fst (Prod.snd (Prod.fst (Prod.snd (Prod.fst (Prod.snd x)))))),
                PUnit.unit),
            some fun x ↦
              (cmpI (Prod.fst (Prod.snd (Prod.snd (Prod.fst (Prod.snd (Prod.fst x))))))
                  (Prod.fst (Prod.snd (Prod.snd (Prod.fst (Prod.snd (Prod.fst (Prod.snd x))))))),
                PUnit.unit)])),
    (10, K.val tInt 0)]
  [(2, Bx.cell tTrigger a), (3, Bx.cell tTrigger b)]
theorem T_table_compare_eq (a : den tTrigger) (b : den tTrigger) : tree D_table_compare A_table_compare rs_table_compare f_table_compare 1000 (bodyOf f_table_compare) (Env.of
  (argEnv as_table_compare (a, b, ()) 0) []) = T_table_compare a b := by kernel_rfl

noncomputable def E_table_compare_2 (v8 : den (Ty.slc (Ty.fn (Ty.pair tTrigger (Ty.pair tTrigger Ty.unit)) (Ty.pair tInt Ty.unit)))) (v9 : den tInt) (v10 : den tInt) (b2 : den tTrigger) (b3 : den tTrigger) : Env := Env.of [(2,
    K.ptr 2 tTrigger []),
  (3, K.ptr 3 tTrigger []),
  (8, K.val (Ty.slc (Ty.fn (Ty.pair tTrigger (Ty.pair tTrigger Ty.unit)) (Ty.pair tInt Ty.unit))) v8),
  (9, K.val tInt v9), (10, K.val tInt v10)] [(2, Bx.cell tTrigger b2), (3, Bx.cell tTrigger b3)]
noncomputable def TL_table_compare_2 (v8 : den (Ty.slc (Ty.fn (Ty.pair tTrigger (Ty.pair tTrigger Ty.unit)) (Ty.pair tInt Ty.unit)))) (v9 : den tInt) (v10 : den tInt) (b2 : den tTrigger) (b3 : den tTrigger) : Tree :=
  Tree.ite (decide (v10 < v9))
  (Tree.req (inB v10 (lnx (Ty.fn (Ty.pair tTrigger (Ty.pair tTrigger Ty.unit)) (Ty.pair tInt Ty.unit)) v8))
    (Tree.req
      (isFnx (Ty.pair tTrigger (Ty.pair tTrigger Ty.unit)) (Ty.pair tInt Ty.unit)
        (el (Ty.fn (Ty.pair tTrigger (Ty.pair tTrigger Ty.unit)) (Ty.pair tInt Ty.unit)) v8 v10))
      (Tree.ite
        (!decide
            (Prod.fst
                (fcallx (Ty.pair tTrigger (Ty.pair tTrigger Ty.unit)) (Ty.pair tInt Ty.unit)
                  (el (Ty.fn (Ty.pair tTrigger (Ty.pair tTrigger Ty.unit)) (Ty.pair tInt Ty.unit)) v8 v10)
                  (b2, b3, PUnit.unit)) =
              0))
        (Tree.ret
          (K.val (Ty.pair tInt Ty.unit)
            (Prod.fst
                (fcallx (Ty.pair tTrigger (Ty.pair tTrigger Ty.unit)) (Ty.pair tInt Ty.unit)
                  (el (Ty.fn (Ty.pair tTrigger (Ty.pair tTrigger Ty.unit)) (Ty.pair tInt Ty.unit)) v8 v10)
                  (b2, b3, PUnit.unit)),
              PUnit.unit)))
        (Tree.loop (lp f_table_compare 2)
          [(2, K.ptr 2 tTrigger []), (3, K.ptr 3 tTrigger []),
            (8, K.val (Ty.slc (Ty.fn (Ty.pair tTrigger (Ty.pair tTrigger Ty.unit)) (Ty.pair tInt Ty.unit))) v8),
            (9, K.val tInt v9), (10, K.val tInt (IntKind.wrap IntKind.i64 (v10 + 1)))]
          [(2, Bx.cell tTrigger b2), (3, Bx.cell tTrigger b3)]))))
  (Tree.ret (K.val (Ty.pair tInt Ty.unit) (0, PUnit.unit)))
theorem TL_table_compare_2_eq (v8 : den (Ty.slc (Ty.fn (Ty.pair tTrigger (Ty.pair tTrigger Ty.unit)) (Ty.pair tInt Ty.unit)))) (v9 : den tInt) (v10 : den tInt) (b2 : den tTrigger) (b3 : den tTrigger) : tree D_table_compare A_table_compare rs_table_compare f_table_compare 1000 (lp f_table_compare 2) (E_table_compare_2 v8 v9 v10 b2 b3) = TL_table_compare_2 v8 v9 v10 b2 b3 := by kernel_rfl

noncomputable abbrev D_r12_Find : Tabs := { T := tyTab, F := [(n_r12_is, S_r12_is)], n := (f_r12_Find).ntmps }
noncomputable abbrev A_r12_Find : Ann := { loops := [(2, { keep := [4, 5, 6, 9, 10, 11] })] }
theorem d_r12_Find (h_r12_is : FnOk prog [] n_r12_is S_r12_is) : DOkX prog D_r12_Find := dokx (dok_add (dok_nil tab_ok mixed_ok) h_r12_is)
theorem ht_r12_Find : htOk D_r12_Find = true := by kernel_rfl
noncomputable def T_r12_Find (t : den (Ty.slc tTrigger)) (id : den tId) (e : den tEntry) : Tree :=
  Tree.loop (lp f_r12_Find 2)
  [(4, K.ptr 4 tId []), (5, K.ptr 5 tEntry []), (6, K.ptr 6 tTrigger []), (9, K.val (Ty.slc tTrigger) t),
    (10, K.val tInt (lnx tTrigger t)), (11, K.val tInt 0)]
  [(4, Bx.cell tId id), (5, Bx.cell tEntry e), (6, Bx.cell tTrigger (zero tTrigger))]
theorem T_r12_Find_eq (t : den (Ty.slc tTrigger)) (id : den tId) (e : den tEntry) : tree D_r12_Find A_r12_Find rs_r12_Find f_r12_Find 1000 (bodyOf f_r12_Find) (Env.of
  (argEnv as_r12_Find (t, id, e, ()) 0) []) = T_r12_Find t id e := by kernel_rfl

noncomputable def E_r12_Find_2 (v9 : den (Ty.slc tTrigger)) (v10 : den tInt) (v11 : den tInt) (b4 : den tId) (b5 : den tEntry) (b6 : den tTrigger) : Env := Env.of [(4,
    K.ptr 4 tId []),
  (5, K.ptr 5 tEntry []), (6, K.ptr 6 tTrigger []), (9, K.val (Ty.slc tTrigger) v9), (10, K.val tInt v10),
  (11, K.val tInt v11)] [(4, Bx.cell tId b4), (5, Bx.cell tEntry b5), (6, Bx.cell tTrigger b6)]
noncomputable def TL_r12_Find_2 (v9 : den (Ty.slc tTrigger)) (v10 : den tInt) (v11 : den tInt) (b4 : den tId) (b5 : den tEntry) (b6 : den tTrigger) : Tree :=
  Tree.ite (decide (v11 < v10))
  (Tree.req (inB v11 (lnx tTrigger v9))
    (Tree.req True
      (Tree.ite (isIE (el tTrigger v9 v11) b4 b5)
        (Tree.ret (K.val (Ty.pair tTrigger Ty.unit) (el tTrigger v9 v11, PUnit.unit)))
        (Tree.loop (lp f_r12_Find 2)
          [(4, K.ptr 4 tId []), (5, K.ptr 5 tEntry []), (6, K.ptr 6 tTrigger []), (9, K.val (Ty.slc tTrigger) v9),
            (10, K.val tInt v10), (11, K.val tInt (IntKind.wrap IntKind.i64 (v11 + 1)))]
          [(4, Bx.cell tId b4), (5, Bx.cell tEntry b5), (6, Bx.cell tTrigger b6)]))))
  (Tree.ret
    (K.val (Ty.pair tTrigger Ty.unit)
      ((Prod.fst (zero (Ty.pair tId (Ty.pair tEntry (Ty.pair tInt Ty.unit)))),
          Prod.fst (Prod.snd (zero (Ty.pair tId (Ty.pair tEntry (Ty.pair tInt Ty.unit))))), -1,
          Prod.snd (Prod.snd (Prod.snd (zero (Ty.pair tId (Ty.pair tEntry (Ty.pair tInt Ty.unit))))))),
        PUnit.unit)))
theorem TL_r12_Find_2_eq (v9 : den (Ty.slc tTrigger)) (v10 : den tInt) (v11 : den tInt) (b4 : den tId) (b5 : den tEntry) (b6 : den tTrigger) : tree D_r12_Find A_r12_Find rs_r12_Find f_r12_Find 1000 (lp f_r12_Find 2) (E_r12_Find_2 v9 v10 v11 b4 b5 b6) = TL_r12_Find_2 v9 v10 v11 b4 b5 b6 := by kernel_rfl

noncomputable abbrev D_r12_Without : Tabs := { T := tyTab, F := [(n_r12_is, S_r12_is)], own := [10], n := (f_r12_Without).ntmps }
noncomputable abbrev A_r12_Without : Ann := { loops := [(3, { keep := [4, 5, 7, 11, 12, 13] })] }
theorem d_r12_Without (h_r12_is : FnOk prog [] n_r12_is S_r12_is) : DOkX prog D_r12_Without := dokx (dok_add (dok_nil tab_ok mixed_ok) h_r12_is)
theorem ht_r12_Without : htOk D_r12_Without = true := by kernel_rfl
noncomputable def T_r12_Without (t : den (Ty.slc tTrigger)) (id : den tId) (e : den tEntry) : Tree :=
  Tree.loop (lp f_r12_Without 3)
  [(4, K.ptr 4 tId []), (5, K.ptr 5 tEntry []), (7, K.sl 7 tTrigger), (11, K.val (Ty.slc tTrigger) t),
    (12, K.val tInt (lnx tTrigger t)), (13, K.val tInt 0)]
  [(4, Bx.cell tId id), (5, Bx.cell tEntry e), (7, Bx.row tTrigger (List.replicate 0 (zero tTrigger)))]
theorem T_r12_Without_eq (t : den (Ty.slc tTrigger)) (id : den tId) (e : den tEntry) : tree D_r12_Without A_r12_Without rs_r12_Without f_r12_Without 1000 (bodyOf f_r12_Without) (Env.of
  (argEnv as_r12_Without (t, id, e, ()) 0) []) = T_r12_Without t id e := by kernel_rfl

noncomputable def E_r12_Without_3 (v11 : den (Ty.slc tTrigger)) (v12 : den tInt) (v13 : den tInt) (b4 : den tId) (b5 : den tEntry) (b7 : List (den tTrigger)) : Env := Env.of [(4,
    K.ptr 4 tId []),
  (5, K.ptr 5 tEntry []), (7, K.sl 7 tTrigger), (11, K.val (Ty.slc tTrigger) v11), (12, K.val tInt v12),
  (13, K.val tInt v13)] [(4, Bx.cell tId b4), (5, Bx.cell tEntry b5), (7, Bx.row tTrigger b7)]
noncomputable def TL_r12_Without_3 (v11 : den (Ty.slc tTrigger)) (v12 : den tInt) (v13 : den tInt) (b4 : den tId) (b5 : den tEntry) (b7 : List (den tTrigger)) : Tree :=
  Tree.ite (decide (v13 < v12))
  (Tree.req (inB v13 (lnx tTrigger v11))
    (Tree.req True
      (Tree.ite (!isIE (el tTrigger v11 v13) b4 b5)
        (Tree.req (List.length (b7 ++ [el tTrigger v11 v13]) ≤ most)
          (Tree.loop (lp f_r12_Without 3)
            [(4, K.ptr 4 tId []), (5, K.ptr 5 tEntry []), (7, K.sl 7 tTrigger), (11, K.val (Ty.slc tTrigger) v11),
              (12, K.val tInt v12), (13, K.val tInt (IntKind.wrap IntKind.i64 (v13 + 1)))]
            [(4, Bx.cell tId b4), (5, Bx.cell tEntry b5), (7, Bx.row tTrigger (b7 ++ [el tTrigger v11 v13]))]))
        (Tree.loop (lp f_r12_Without 3)
          [(4, K.ptr 4 tId []), (5, K.ptr 5 tEntry []), (7, K.sl 7 tTrigger), (11, K.val (Ty.slc tTrigger) v11),
            (12, K.val tInt v12), (13, K.val tInt (IntKind.wrap IntKind.i64 (v13 + 1)))]
          [(4, Bx.cell tId b4), (5, Bx.cell tEntry b5), (7, Bx.row tTrigger b7)]))))
  (Tree.ret (K.val (Ty.pair (Ty.slc tTrigger) Ty.unit) (b7, PUnit.unit)))
theorem TL_r12_Without_3_eq (v11 : den (Ty.slc tTrigger)) (v12 : den tInt) (v13 : den tInt) (b4 : den tId) (b5 : den tEntry) (b7 : List (den tTrigger)) : tree D_r12_Without A_r12_Without rs_r12_Without f_r12_Without 1000 (lp f_r12_Without 3) (E_r12_Without_3 v11 v12 v13 b4 b5 b7) = TL_r12_Without_3 v11 v12 v13 b4 b5 b7 := by kernel_rfl

noncomputable abbrev D_r12_Put : Tabs := { T := tyTab, F := [(n_r12_Find, S_r12_Find), (n_r12_Without, S_r12_Without), (n_r12_Less, S_r12_Less)], own := [25], n := (f_r12_Put).ntmps }
noncomputable abbrev A_r12_Put : Ann := { loops := [(7, { keep := [3, 7, 8, 31, 32, 33] })] }
theorem d_r12_Put (h_r12_Find : FnOk prog [] n_r12_Find S_r12_Find) (h_r12_Without : FnOk prog [] n_r12_Without S_r12_Without) (h_r12_Less : FnOk prog [] n_r12_Less S_r12_Less) : DOkX prog D_r12_Put := dokx (dok_add (dok_add (dok_add (dok_nil tab_ok mixed_ok) h_r12_Less) h_r12_Without) h_r12_Find)
theorem ht_r12_Put : htOk D_r12_Put = true := by kernel_rfl
noncomputable def T_r12_Put (t : den (Ty.slc tTrigger)) (x : den tTrigger) : Tree :=
  Tree.req (Nat.le (List.length t) 1000000)
  (Tree.ite
    (decide
      (Prod.fst (Prod.snd (Prod.snd x)) <
        Prod.fst (Prod.snd (Prod.snd (g_Find t (Prod.fst x) (Prod.fst (Prod.snd x)))))))
    (Tree.req (Nat.le (List.length t) 1000000)
      (Tree.loop (lp f_r12_Put 7)
        [(3, K.ptr 3 tTrigger []), (7, K.sl 7 tTrigger), (8, K.val Ty.bool false),
          (31, K.val (Ty.slc tTrigger) (g_Without t (Prod.fst x) (Prod.fst (Prod.snd x)))),
          (32, K.val tInt (lnx tTrigger (g_Without t (Prod.fst x) (Prod.fst (Prod.snd x))))), (33, K.val tInt 0)]
        [(3,
            Bx.cell tTrigger
              (Prod.fst x, Prod.fst (Prod.snd x),
                Prod.fst (Prod.snd (Prod.snd (g_Find t (Prod.fst x) (Prod.fst (Prod.snd x))))),
                Prod.snd (Prod.snd (Prod.snd x)))),
          (7, Bx.row tTrigger (List.replicate 0 (zero tTrigger)))]))
    (Tree.req (Nat.le (List.length t) 1000000)
      (Tree.loop (lp f_r12_Put 7)
        [(3, K.ptr 3 tTrigger []), (7, K.sl 7 tTrigger), (8, K.val Ty.bool false),
          (31, K.val (Ty.slc tTrigger) (g_Without t (Prod.fst x) (Prod.fst (Prod.snd x)))),
          (32, K.val tInt (lnx tTrigger (g_Without t (Prod.fst x) (Prod.fst (Prod.snd x))))), (33, K.val tInt 0)]
        [(3, Bx.cell tTrigger x), (7, Bx.row tTrigger (List.replicate 0 (zero tTrigger)))])))
theorem T_r12_Put_eq (t : den (Ty.slc tTrigger)) (x : den tTrigger) : tree D_r12_Put A_r12_Put rs_r12_Put f_r12_Put 1000 (bodyOf f_r12_Put) (Env.of
  (argEnv as_r12_Put (t, x, ()) 0) []) = T_r12_Put t x := by kernel_rfl

noncomputable def E_r12_Put_7 (v8 : den Ty.bool) (v31 : den (Ty.slc tTrigger)) (v32 : den tInt) (v33 : den tInt) (b3 : den tTrigger) (b7 : List (den tTrigger)) : Env := Env.of [(3,
    K.ptr 3 tTrigger []),
  (7, K.sl 7 tTrigger), (8, K.val Ty.bool v8), (31, K.val (Ty.slc tTrigger) v31), (32, K.val tInt v32),
  (33, K.val tInt v33)] [(3, Bx.cell tTrigger b3), (7, Bx.row tTrigger b7)]
noncomputable def TL_r12_Put_7 (v8 : den Ty.bool) (v31 : den (Ty.slc tTrigger)) (v32 : den tInt) (v33 : den tInt) (b3 : den tTrigger) (b7 : List (den tTrigger)) : Tree :=
  Tree.ite (decide (v33 < v32))
  (Tree.req (inB v33 (lnx tTrigger v31))
    (Tree.req (impl [(!v8, true)] True)
      (Tree.ite (bif !v8 then g_Less b3 (el tTrigger v31 v33) else false)
        (Tree.req (List.length (b7 ++ [b3]) ≤ most)
          (Tree.req (List.length (b7 ++ [b3] ++ [el tTrigger v31 v33]) ≤ most)
            (Tree.loop (lp f_r12_Put 7)
              [(3, K.ptr 3 tTrigger []), (7, K.sl 7 tTrigger), (8, K.val Ty.bool true),
                (31, K.val (Ty.slc tTrigger) v31), (32, K.val tInt v32),
                (33, K.val tInt (IntKind.wrap IntKind.i64 (v33 + 1)))]
              [(3, Bx.cell tTrigger b3), (7, Bx.row tTrigger (b7 ++ [b3] ++ [el tTrigger v31 v33]))])))
        (Tree.req (List.length (b7 ++ [el tTrigger v31 v33]) ≤ most)
          (Tree.loop (lp f_r12_Put 7)
            [(3, K.ptr 3 tTrigger []), (7, K.sl 7 tTrigger), (8, K.val Ty.bool v8), (31, K.val (Ty.slc tTrigger) v31),
              (32, K.val tInt v32), (33, K.val tInt (IntKind.wrap IntKind.i64 (v33 + 1)))]
            [(3, Bx.cell tTrigger b3), (7, Bx.row tTrigger (b7 ++ [el tTrigger v31 v33]))])))))
  (Tree.ite (!v8)
    (Tree.req (List.length (b7 ++ [b3]) ≤ most)
      (Tree.ret
        (K.val (Ty.pair (Ty.slc tTrigger) (Ty.pair Ty.bool Ty.unit))
          (b7 ++ [b3], decide (lnx tTrigger (b7 ++ [b3]) ≤ 32), PUnit.unit))))
    (Tree.ret
      (K.val (Ty.pair (Ty.slc tTrigger) (Ty.pair Ty.bool Ty.unit)) (b7, decide (lnx tTrigger b7 ≤ 32), PUnit.unit))))
theorem TL_r12_Put_7_eq (v8 : den Ty.bool) (v31 : den (Ty.slc tTrigger)) (v32 : den tInt) (v33 : den tInt) (b3 : den tTrigger) (b7 : List (den tTrigger)) : tree D_r12_Put A_r12_Put rs_r12_Put f_r12_Put 1000 (lp f_r12_Put 7) (E_r12_Put_7 v8 v31 v32 v33 b3 b7) = TL_r12_Put_7 v8 v31 v32 v33 b3 b7 := by kernel_rfl

noncomputable abbrev D_table_Cut_1 : Tabs := { T := tyTab, F := [(n_ident_In, S_ident_In)], n := (f_table_Cut_1).ntmps }
noncomputable abbrev A_table_Cut_1 : Ann := { }
theorem d_table_Cut_1 (h_ident_In : FnOk prog [] n_ident_In S_ident_In) : DOkX prog D_table_Cut_1 := dokx (dok_add (dok_nil tab_ok mixed_ok) h_ident_In)
theorem ht_table_Cut_1 : htOk D_table_Cut_1 = true := by kernel_rfl
noncomputable def T_table_Cut_1 (x : den tTrigger) (a : den (Ty.ref tId)) (b : den (Ty.ref tId)) : Tree :=
  Tree.req True (Tree.ret (K.val (Ty.pair Ty.bool Ty.unit) (g_In (Prod.fst x) a b, PUnit.unit)))
theorem T_table_Cut_1_eq (x : den tTrigger) (a : den (Ty.ref tId)) (b : den (Ty.ref tId)) : tree D_table_Cut_1 A_table_Cut_1 rs_table_Cut_1 f_table_Cut_1 1000 (bodyOf f_table_Cut_1) (Env.of
  (argEnv as_table_Cut_1 (x, a, b, ()) 0) []) = T_table_Cut_1 x a b := by kernel_rfl

noncomputable abbrev D_table_Right : Tabs := { T := tyTab, F := [(n_table_may, S_table_may), (n_table_compare, S_table_compare)], n := (f_table_Right).ntmps }
noncomputable abbrev A_table_Right : Ann := { loops := [(2, { keep := [0, 5, 6, 7] })] }
theorem d_table_Right (h_table_may : FnOk prog [] n_table_may S_table_may) (h_table_compare : FnOk prog [] n_table_compare S_table_compare) : DOkX prog D_table_Right := dokx (dok_add (dok_add (dok_nil tab_ok mixed_ok) h_table_compare) h_table_may)
theorem ht_table_Right : htOk D_table_Right = true := by kernel_rfl
noncomputable def T_table_Right (t : den (Ty.slc tTrigger)) : Tree :=
  Tree.loop (lp f_table_Right 2)
  [(0, K.val (Ty.slc tTrigger) t), (5, K.val (Ty.slc tTrigger) t), (6, K.val tInt (lnx tTrigger t)), (7, K.val tInt 0)]
  []
theorem T_table_Right_eq (t : den (Ty.slc tTrigger)) : tree D_table_Right A_table_Right rs_table_Right f_table_Right 1000 (bodyOf f_table_Right) (Env.of
  (argEnv as_table_Right (t, ()) 0) []) = T_table_Right t := by kernel_rfl

noncomputable def E_table_Right_2 (v0 : den (Ty.slc tTrigger)) (v5 : den (Ty.slc tTrigger)) (v6 : den tInt) (v7 : den tInt) : Env := Env.of [(0,
    K.val (Ty.slc tTrigger) v0),
  (5, K.val (Ty.slc tTrigger) v5), (6, K.val tInt v6), (7, K.val tInt v7)] []
noncomputable def TL_table_Right_2 (v0 : den (Ty.slc tTrigger)) (v5 : den (Ty.slc tTrigger)) (v6 : den tInt) (v7 : den tInt) : Tree :=
  Tree.ite (decide (v7 < v6))
  (Tree.req (inB v7 (lnx tTrigger v5))
    (Tree.req True
      (Tree.req
        (impl [(!g_may (el tTrigger v5 v7), false), (decide (0 < v7), true)]
          (inB (IntKind.wrap IntKind.i64 (v7 - 1)) (lnx tTrigger v0)))
        (Tree.req (impl [(!g_may (el tTrigger v5 v7), false), (decide (0 < v7), true)] True)
          (Tree.ite
            (bif !g_may (el tTrigger v5 v7) then true
            else
              bif decide (0 < v7) then
                decide (0 ≤ g_cmpT (el tTrigger v0 (IntKind.wrap IntKind.i64 (v7 - 1))) (el tTrigger v5 v7))
              else false)
            (Tree.ret (K.val (Ty.pair Ty.bool Ty.unit) (false, PUnit.unit)))
            (Tree.loop (lp f_table_Right 2)
              [(0, K.val (Ty.slc tTrigger) v0), (5, K.val (Ty.slc tTrigger) v5), (6, K.val tInt v6),
                (7, K.val tInt (IntKind.wrap IntKind.i64 (v7 + 1)))]
              []))))))
  (Tree.ret (K.val (Ty.pair Ty.bool Ty.unit) (decide (lnx tTrigger v0 ≤ 32), PUnit.unit)))
theorem TL_table_Right_2_eq (v0 : den (Ty.slc tTrigger)) (v5 : den (Ty.slc tTrigger)) (v6 : den tInt) (v7 : den tInt) : tree D_table_Right A_table_Right rs_table_Right f_table_Right 1000 (lp f_table_Right 2) (E_table_Right_2 v0 v5 v6 v7) = TL_table_Right_2 v0 v5 v6 v7 := by kernel_rfl

noncomputable abbrev D_slices_BinarySearchFunc_Trigger : Tabs := { T := tyTab, F := [], n := (f_slices_BinarySearchFunc_Trigger).ntmps }
noncomputable abbrev A_slices_BinarySearchFunc_Trigger : Ann := { loops := [(3, { keep := [0, 2, 4, 8, 9, 10] })] }
theorem d_slices_BinarySearchFunc_Trigger : DOkX prog D_slices_BinarySearchFunc_Trigger := dokx ((dok_nil tab_ok mixed_ok))
theorem ht_slices_BinarySearchFunc_Trigger : htOk D_slices_BinarySearchFunc_Trigger = true := by kernel_rfl
noncomputable def T_slices_BinarySearchFunc_Trigger (t : den (Ty.slc tTrigger)) (x : den tTrigger) (f : den (Ty.fn (Ty.pair tTrigger (Ty.pair tTrigger Ty.unit)) (Ty.pair tInt Ty.unit))) : Tree :=
  Tree.loop (lp f_slices_BinarySearchFunc_Trigger 3)
  [(0, K.val (Ty.slc tTrigger) t),
    (2, K.val (Ty.fn (Ty.pair tTrigger (Ty.pair tTrigger Ty.unit)) (Ty.pair tInt Ty.unit)) f), (4, K.ptr 4 tTrigger []),
    (8, K.val tInt (lnx tTrigger t)), (9, K.val tInt 0), (10, K.val tInt (lnx tTrigger t))]
  [(4, Bx.cell tTrigger x)]
theorem T_slices_BinarySearchFunc_Trigger_eq (t : den (Ty.slc tTrigger)) (x : den tTrigger) (f : den (Ty.fn (Ty.pair tTrigger (Ty.pair tTrigger Ty.unit)) (Ty.pair tInt Ty.unit))) : tree D_slices_BinarySearchFunc_Trigger A_slices_BinarySearchFunc_Trigger rs_slices_BinarySearchFunc_Trigger f_slices_BinarySearchFunc_Trigger 1000 (bodyOf f_slices_BinarySearchFunc_Trigger) (Env.of
  (argEnv as_slices_BinarySearchFunc_Trigger (t, x, f, ()) 0)
  []) = T_slices_BinarySearchFunc_Trigger t x f := by kernel_rfl

noncomputable def E_slices_BinarySearchFunc_Trigger_3 (v0 : den (Ty.slc tTrigger)) (v2 : den (Ty.fn (Ty.pair tTrigger (Ty.pair tTrigger Ty.unit)) (Ty.pair tInt Ty.unit))) (v8 : den tInt) (v9 : den tInt) (v10 : den tInt) (b4 : den tTrigger) : Env := Env.of [(0,
    K.val (Ty.slc tTrigger) v0),
  (2, K.val (Ty.fn (Ty.pair tTrigger (Ty.pair tTrigger Ty.unit)) (Ty.pair tInt Ty.unit)) v2), (4, K.ptr 4 tTrigger []),
  (8, K.val tInt v8), (9, K.val tInt v9), (10, K.val tInt v10)] [(4, Bx.cell tTrigger b4)]
noncomputable def TL_slices_BinarySearchFunc_Trigger_3 (v0 : den (Ty.slc tTrigger)) (v2 : den (Ty.fn (Ty.pair tTrigger (Ty.pair tTrigger Ty.unit)) (Ty.pair tInt Ty.unit))) (v8 : den tInt) (v9 : den tInt) (v10 : den tInt) (b4 : den tTrigger) : Tree :=
  Tree.ite (decide (v9 < v10))
  (Tree.req (ge0 1)
    (Tree.req
      (inB
        (IntKind.wrap IntKind.i64
          (Int.fdiv (IntKind.wrap IntKind.u64 (IntKind.wrap IntKind.i64 (v9 + v10)))
            (2 ^ min (Int.toNat 1) (IntKind.bits IntKind.u64))))
        (lnx tTrigger v0))
      (Tree.req (isFnx (Ty.pair tTrigger (Ty.pair tTrigger Ty.unit)) (Ty.pair tInt Ty.unit) v2)
        (Tree.ite
          (decide
            (Prod.fst
                (fcallx (Ty.pair tTrigger (Ty.pair tTrigger Ty.unit)) (Ty.pair tInt Ty.unit) v2
                  (el tTrigger v0
                      (IntKind.wrap IntKind.i64
                        (Int.fdiv (IntKind.wrap IntKind.u64 (IntKind.wrap IntKind.i64 (v9 + v10)))
                          (2 ^ min (Int.toNat 1) (IntKind.bits IntKind.u64)))),
                    b4, PUnit.unit)) <
              0))
          (Tree.loop (lp f_slices_BinarySearchFunc_Trigger 3)
            [(0, K.val (Ty.slc tTrigger) v0),
              (2, K.val (Ty.fn (Ty.pair tTrigger (Ty.pair tTrigger Ty.unit)) (Ty.pair tInt Ty.unit)) v2),
              (4, K.ptr 4 tTrigger []), (8, K.val tInt v8),
              (9,
                K.val tInt
                  (IntKind.wrap IntKind.i64
                    (IntKind.wrap IntKind.i64
                        (Int.fdiv (IntKind.wrap IntKind.u64 (IntKind.wrap IntKind.i64 (v9 + v10)))
                          (2 ^ min (Int.toNat 1) (IntKind.bits IntKind.u64))) +
                      1))),
              (10, K.val tInt v10)]
            [(4, Bx.cell tTrigger b4)])
          (Tree.loop (lp f_slices_BinarySearchFunc_Trigger 3)
            [(0, K.val (Ty.slc tTrigger) v0),
              (2, K.val (Ty.fn (Ty.pair tTrigger (Ty.pair tTrigger Ty.unit)) (Ty.pair tInt Ty.unit)) v2),
              (4, K.ptr 4 tTrigger []), (8, K.val tInt v8), (9, K.val tInt v9),
              (10,
                K.val tInt
                  (IntKind.wrap IntKind.i64
                    (Int.fdiv (IntKind.wrap IntKind.u64 (IntKind.wrap IntKind.i64 (v9 + v10)))
                      (2 ^ min (Int.toNat 1) (IntKind.bits IntKind.u64)))))]
            [(4, Bx.cell tTrigger b4)])))))
  (Tree.req (impl [(decide (v9 < v8), true)] (inB v9 (lnx tTrigger v0)))
    (Tree.req
      (impl [(decide (v9 < v8), true)] (isFnx (Ty.pair tTrigger (Ty.pair tTrigger Ty.unit)) (Ty.pair tInt Ty.unit) v2))
      (Tree.ret
        (K.val (Ty.pair tInt (Ty.pair Ty.bool Ty.unit))
          (v9,
            bif decide (v9 < v8) then
              decide
                (Prod.fst
                    (fcallx (Ty.pair tTrigger (Ty.pair tTrigger Ty.unit)) (Ty.pair tInt Ty.unit) v2
                      (el tTrigger v0 v9, b4, PUnit.unit)) =
                  0)
            else false,
            PUnit.unit)))))
theorem TL_slices_BinarySearchFunc_Trigger_3_eq (v0 : den (Ty.slc tTrigger)) (v2 : den (Ty.fn (Ty.pair tTrigger (Ty.pair tTrigger Ty.unit)) (Ty.pair tInt Ty.unit))) (v8 : den tInt) (v9 : den tInt) (v10 : den tInt) (b4 : den tTrigger) : tree D_slices_BinarySearchFunc_Trigger A_slices_BinarySearchFunc_Trigger rs_slices_BinarySearchFunc_Trigger f_slices_BinarySearchFunc_Trigger 1000 (lp f_slices_BinarySearchFunc_Trigger 3) (E_slices_BinarySearchFunc_Trigger_3 v0 v2 v8 v9 v10 b4) = TL_slices_BinarySearchFunc_Trigger_3 v0 v2 v8 v9 v10 b4 := by kernel_rfl

end Go.Proofs.Ytnccacngedeoeaa

/- The order of triggers, finding, putting in, halving. -/
namespace Go.Proofs.Ytnccacngedeoeaa
open Go Go.RowKit

/-! ### The order, by four ways -/

abbrev cmpF : Ty := .fn (.pair tTrigger (.pair tTrigger .unit)) (.pair tInt .unit)
def ways : List (den cmpF) := [some fun x => (g_Cmp x.1.1 x.2.1.1, ()), some fun x => (cmpI x.1.2.1.1 x.2.1.2.1.1, ()), some fun x => (g_Cmp x.1.2.1.2.1 x.2.1.2.1.2.1, ()), some fun x => (cmpI x.1.2.1.2.2.1 x.2.1.2.1.2.2.1, ())]

theorem gl_table_compare (O : Nat → Prop) (w0 : World) (a b : den tTrigger) : Good prog D_table_compare O w0 f_table_compare (Ends prog O w0 rs_table_compare fun y => y = (g_cmpT a b, ())) (lp f_table_compare 2) (E_table_compare_2 ways 4 0 a b) := by
  have hD := d_table_compare k_table_trigger_id k_table_trigger_kind k_table_trigger_goes k_table_trigger_host
  have c4 : Good prog D_table_compare O w0 f_table_compare (Ends prog O w0 rs_table_compare fun y => y = ((0 : Int), ())) (lp f_table_compare 2) (E_table_compare_2 ways 4 4 a b) :=
    good_T hD ht_table_compare (TL_table_compare_2_eq ways 4 4 a b) ⟨fun h => (by cases h), fun _ => ⟨_, rfl, rfl⟩⟩
  have step : ∀ (i c r : Int), inB i 4 → isFnx (.pair tTrigger (.pair tTrigger .unit)) (.pair tInt .unit) (el cmpF ways i) → (fcallx (.pair tTrigger (.pair tTrigger .unit)) (.pair tInt .unit) (el cmpF ways i) (a, b, ())).1 = c →
      Good prog D_table_compare O w0 f_table_compare (Ends prog O w0 rs_table_compare fun y => y = (r, ())) (lp f_table_compare 2) (E_table_compare_2 ways 4 (i + 1) a b) →
      Good prog D_table_compare O w0 f_table_compare (Ends prog O w0 rs_table_compare fun y => y = (orC c r, ())) (lp f_table_compare 2) (E_table_compare_2 ways 4 i a b) := by
    intro i c r hi hf hc hg
    refine good_T hD ht_table_compare (TL_table_compare_2_eq ways 4 i a b) ⟨fun _ => ⟨hi, hf, fun h => ⟨_, rfl, ?_⟩, fun h => ?_⟩, fun h => ?_⟩
    · have h : ¬ (fcallx (.pair tTrigger (.pair tTrigger .unit)) (.pair tInt .unit) (el cmpF ways i) (a, b, ())).1 = (0 : Int) := by simpa using h
      rw [hc] at h
      have : orC c r = c := if_neg h
      rw [this, ← hc]
    · have h : (fcallx (.pair tTrigger (.pair tTrigger .unit)) (.pair tInt .unit) (el cmpF ways i) (a, b, ())).1 = (0 : Int) := by simpa using h
      rw [hc] at h
      have : orC c r = r := if_pos h
      rw [this]
      obtain ⟨h1, h2⟩ := hi
      rw [small_i64 (by omega)]
      exact hg
    · have h : ¬ i < 4 := of_decide_eq_false h
      exact absurd hi.2 h
  have c3 := step 3 _ _ ⟨by decide, by decide⟩ ⟨_, rfl⟩ rfl c4
  have c2 := step 2 _ _ ⟨by decide, by decide⟩ ⟨_, rfl⟩ rfl c3
  have c1 := step 1 _ _ ⟨by decide, by decide⟩ ⟨_, rfl⟩ rfl c2
  have c0 := step 0 _ _ ⟨by decide, by decide⟩ ⟨_, rfl⟩ rfl c1
  refine Good.mono (fun y hy => ?_) c0
  rw [hy]
  have h0 : ∀ x : Int, orC x 0 = x := fun x => by unfold orC; split <;> omega
  rw [h0]
  rfl
theorem k_table_compare : FnOk prog [] n_table_compare S_table_compare :=
  fn_T (d_table_compare k_table_trigger_id k_table_trigger_kind k_table_trigger_goes k_table_trigger_host) ht_table_compare at_table_compare (by kernel_rfl) (fun _ _ => trivial) (A := A_table_compare) (T := fun x => T_table_compare x.1 x.2.1) (fun x => T_table_compare_eq x.1 x.2.1) fun O w0 x _ _ =>
    gl_table_compare O w0 x.1 x.2.1

/-! ### Finding -/

theorem eqb_tEntry (x y : den tEntry) : eqb tEntry x y = decide (x = y) := by
  obtain ⟨a, b, c, ⟨⟩⟩ := x
  obtain ⟨a', b', c', ⟨⟩⟩ := y
  show (eqI a a' && (eqb tId b b' && (eqI c c' && true))) = _
  rw [eqb_tId, Bool.eq_iff_iff]
  simp [eqI, Prod.ext_iff]

theorem k_r12_is : FnOk prog [] n_r12_is S_r12_is :=
  fn_T d_r12_is ht_r12_is at_r12_is (by kernel_rfl) (fun _ _ => trivial) (A := A_r12_is) (T := fun x => T_r12_is x.1 x.2.1 x.2.2.1) (fun x => T_r12_is_eq x.1 x.2.1 x.2.2.1) fun O w0 x _ _ => ⟨_, rfl, by
    show (bif eqb tId x.1.1 x.2.1 then eqb tEntry x.1.2.1 x.2.2.1 else false, PUnit.unit) = (isIE x.1 x.2.1 x.2.2.1, ())
    rw [eqb_tId, eqb_tEntry, isIE]
    cases decide (x.1.1 = x.2.1) <;> rfl⟩

def gl_r12_Find (O : Nat → Prop) (w0 : World) (t : List (den tTrigger)) (id : den tId) (e : den tEntry) (ht : t.length ≤ 1000000) :=
  PLift.up <| range_good (P := prog) (D := D_r12_Find) (fn := f_r12_Find) (rs := rs_r12_Find) (O := O) (w0 := w0) (todo := lp f_r12_Find 2) (σ := Unit) t.length
    (fun i _ => E_r12_Find_2 t (lnx tTrigger t) i id e (zero tTrigger)) (fun _ _ => True)
    (fun i _ y => y = (g_Find (t.drop i) id e, ()))
    (fun i _ hi _ ih => good_T (d_r12_Find k_r12_is) ht_r12_Find (TL_r12_Find_2_eq t _ _ id e _) ⟨fun _ => by
      refine ⟨inB_of hi, trivial, ?_⟩
      rw [el_at hi, wr_idx hi (by omega), List.drop_eq_getElem_cons hi]
      refine ⟨fun h => ⟨_, rfl, ?_⟩, fun h => ?_⟩
      · show (t[i], ()) = (((t[i] :: t.drop (i + 1)).find? fun x => isIE x id e).getD noT, ())
        rw [List.find?_cons_of_pos (p := fun x => isIE x id e) h]; rfl
      · rw [g_Find, List.find?_cons_of_neg (p := fun x => isIE x id e) (by rw [h]; simp)]
        exact ih () trivial, fun h => by
      have h : ¬ (i : Int) < (t.length : Int) := of_decide_eq_false h
      omega⟩)
    (fun _ _ => good_T (d_r12_Find k_r12_is) ht_r12_Find (TL_r12_Find_2_eq t _ _ id e _) ⟨fun h => by
      have h : (t.length : Int) < (t.length : Int) := of_decide_eq_true h
      omega, fun _ => ⟨_, rfl, by rw [List.drop_length]; rfl⟩⟩)
theorem k_r12_Find : FnOk prog [] n_r12_Find S_r12_Find :=
  fn_T (d_r12_Find k_r12_is) ht_r12_Find at_r12_Find (by kernel_rfl) (fun h => by cases h) (A := A_r12_Find) (T := fun x => T_r12_Find x.1 x.2.1 x.2.2.1) (fun x => T_r12_Find_eq x.1 x.2.1 x.2.2.1) fun O w0 x _ hp =>
    (gl_r12_Find O w0 x.1 x.2.1 x.2.2.1 hp).down 0 () (Nat.zero_le _) trivial

def gl_r12_Without (O : Nat → Prop) (w0 : World) (t : List (den tTrigger)) (id : den tId) (e : den tEntry) (ht : t.length ≤ 1000000) :=
  PLift.up <| range_good (P := prog) (D := D_r12_Without) (fn := f_r12_Without) (rs := rs_r12_Without) (O := O) (w0 := w0) (todo := lp f_r12_Without 3) (σ := List (den tTrigger)) t.length
    (fun i s => E_r12_Without_3 t (lnx tTrigger t) i id e s) (fun i s => s.length ≤ i)
    (fun i s y => y = (s ++ g_Without (t.drop i) id e, ()))
    (fun i s hi hs ih => good_T (d_r12_Without k_r12_is) ht_r12_Without (TL_r12_Without_3_eq t _ _ id e s) ⟨fun _ => by
      refine ⟨inB_of hi, trivial, ?_⟩
      rw [el_at hi, wr_idx hi (by omega), List.drop_eq_getElem_cons hi]
      refine ⟨fun h => ⟨by simp [most]; omega, ?_⟩, fun h => ?_⟩
      · rw [g_Without, List.filter_cons, if_pos h]
        refine Good.mono (fun y hy => ?_) (ih (s ++ [t[i]]) (by simp; omega))
        rw [hy, List.append_assoc]; rfl
      · rw [g_Without, List.filter_cons, if_neg (by rw [h]; simp)]
        exact ih s (by omega), fun h => by
      have h : ¬ (i : Int) < (t.length : Int) := of_decide_eq_false h
      omega⟩)
    (fun s _ => good_T (d_r12_Without k_r12_is) ht_r12_Without (TL_r12_Without_3_eq t _ _ id e s) ⟨fun h => by
      have h : (t.length : Int) < (t.length : Int) := of_decide_eq_true h
      omega, fun _ => ⟨_, rfl, by rw [List.drop_length]; simp [g_Without]⟩⟩)
theorem k_r12_Without : FnOk prog [] n_r12_Without S_r12_Without :=
  fn_T (d_r12_Without k_r12_is) ht_r12_Without at_r12_Without (by kernel_rfl) (fun h => by cases h) (A := A_r12_Without) (T := fun x => T_r12_Without x.1 x.2.1 x.2.2.1) (fun x => T_r12_Without_eq x.1 x.2.1 x.2.2.1) fun O w0 x _ hp =>
    (gl_r12_Without O w0 x.1 x.2.1 x.2.2.1 hp).down 0 [] (Nat.zero_le _) (Nat.zero_le _)

/-! ### Putting in, by definition -/

def gl_r12_Put (O : Nat → Prop) (w0 : World) (t : List (den tTrigger)) (x : den tTrigger) (ht : t.length ≤ 1000000) :=
  PLift.up <| range_good (P := prog) (D := D_r12_Put) (fn := f_r12_Put) (rs := rs_r12_Put) (O := O) (w0 := w0) (todo := lp f_r12_Put 7) (σ := Bool × List (den tTrigger)) t.length
    (fun i s => E_r12_Put_7 s.1 t (lnx tTrigger t) i x s.2) (fun i s => s.2.length ≤ 2 * i)
    (fun i s y => y = (s.2 ++ (if s.1 then t.drop i else putD x (t.drop i)), decide ((s.2 ++ (if s.1 then t.drop i else putD x (t.drop i))).length ≤ 32), ()))
    (fun i s hi hs ih => good_T (d_r12_Put k_r12_Find k_r12_Without k_r12_Less) ht_r12_Put (TL_r12_Put_7_eq s.1 t _ _ x s.2) ⟨fun _ => by
      obtain ⟨d, s⟩ := s
      have hs : s.length ≤ 2 * i := hs
      have hb : (bif !d then g_Less x t[i] else false) = (!d && g_Less x t[i]) := by cases d <;> rfl
      refine ⟨inB_of hi, fun _ => trivial, ?_⟩
      rw [el_at hi, wr_idx hi (by omega), List.drop_eq_getElem_cons hi]
      refine ⟨fun h => ⟨by simp [most]; omega, by simp [most]; omega, ?_⟩, fun h => ⟨by simp [most]; omega, ?_⟩⟩
      · rw [hb, Bool.and_eq_true, Bool.not_eq_true'] at h
        refine Good.mono (fun y hy => ?_) (ih (true, s ++ [x] ++ [t[i]]) (by simp; omega))
        rw [hy]
        simp only [if_true, h.1, putD, h.2]
        simp
      · rw [hb] at h
        refine Good.mono (fun y hy => ?_) (ih (d, s ++ [t[i]]) (by simp; omega))
        rw [hy]
        cases d with
        | true => simp
        | false =>
          have h : g_Less x t[i] = false := by simpa using h
          simp [putD, h], fun h => by
      have h : ¬ (i : Int) < (t.length : Int) := of_decide_eq_false h
      omega⟩)
    (fun s hs => good_T (d_r12_Put k_r12_Find k_r12_Without k_r12_Less) ht_r12_Put (TL_r12_Put_7_eq s.1 t _ _ x s.2) ⟨fun h => by
      have h : (t.length : Int) < (t.length : Int) := of_decide_eq_true h
      omega, fun _ => by
        obtain ⟨d, s⟩ := s
        have hs : s.length ≤ 2 * t.length := hs
        have hl : ∀ l : List (den tTrigger), (decide (lnx tTrigger l ≤ 32)) = decide (l.length ≤ 32) := fun l => by
          rw [Bool.eq_iff_iff, decide_eq_true_eq, decide_eq_true_eq]
          exact ⟨fun h => by have h : (l.length : Int) ≤ 32 := h; omega, fun h => by show (l.length : Int) ≤ 32; omega⟩
        refine ⟨fun h => ⟨by simp [most]; omega, _, rfl, ?_⟩, fun h => ⟨_, rfl, ?_⟩⟩
        · have h : d = false := by simpa using h
          subst h
          show (s ++ [x], decide (lnx tTrigger (s ++ [x]) ≤ 32), PUnit.unit) = _
          rw [hl, List.drop_length]; rfl
        · have h : d = true := by simpa using h
          subst h
          show (s, decide (lnx tTrigger s ≤ 32), PUnit.unit) = _
          rw [hl, List.drop_length]; simp⟩)
theorem k_r12_Put : FnOk prog [] n_r12_Put S_r12_Put :=
  fn_T (d_r12_Put k_r12_Find k_r12_Without k_r12_Less) ht_r12_Put at_r12_Put (by kernel_rfl) (fun h => by cases h) (A := A_r12_Put) (T := fun x => T_r12_Put x.1 x.2.1) (fun x => T_r12_Put_eq x.1 x.2.1) fun O w0 x _ hp => by
    obtain ⟨t, x, ⟨⟩⟩ := x
    have hp : t.length ≤ 1000000 := hp
    have hw : (g_Without t x.1 x.2.1).length ≤ 1000000 := Nat.le_trans (List.length_filter_le _ _) hp
    refine ⟨hp, fun h => ⟨hp, ?_⟩, fun h => ⟨hp, ?_⟩⟩
    · have h := of_decide_eq_true h
      have e : lastT t x = (x.1, x.2.1, (g_Find t x.1 x.2.1).2.2.1, ()) := if_pos h
      refine Good.mono (fun y hy => ?_) ((gl_r12_Put O w0 (g_Without t x.1 x.2.1) (x.1, x.2.1, (g_Find t x.1 x.2.1).2.2.1, ()) hw).down 0 (false, []) (Nat.zero_le _) (Nat.zero_le _))
      have e2 : g_PutD t x = putD (lastT t x) (g_Without t x.1 x.2.1) := rfl
      rw [hy]
      show _ = (g_PutD t x, decide ((g_PutD t x).length ≤ 32), ())
      rw [e2, e]; rfl
    · have h := of_decide_eq_false h
      have e : lastT t x = x := if_neg h
      refine Good.mono (fun y hy => ?_) ((gl_r12_Put O w0 (g_Without t x.1 x.2.1) x hw).down 0 (false, []) (Nat.zero_le _) (Nat.zero_le _))
      have e2 : g_PutD t x = putD (lastT t x) (g_Without t x.1 x.2.1) := rfl
      rw [hy]
      show _ = (g_PutD t x, decide ((g_PutD t x).length ≤ 32), ())
      rw [e2, e]; rfl

theorem k_table_Cut_1 : FnOk prog [] n_table_Cut_1 S_table_Cut_1 :=
  fn_T (d_table_Cut_1 k_ident_In) ht_table_Cut_1 at_table_Cut_1 (by kernel_rfl) (fun _ _ => trivial) (A := A_table_Cut_1) (T := fun x => T_table_Cut_1 x.1 x.2.1 x.2.2.1) (fun x => T_table_Cut_1_eq x.1 x.2.1 x.2.2.1) fun O w0 x _ _ => ⟨trivial, _, rfl, rfl⟩

/-! ### Which tables may be -/

def gl_table_Right (O : Nat → Prop) (w0 : World) (t : List (den tTrigger)) (ht : t.length ≤ 1000000) :=
  PLift.up <| range_good (P := prog) (D := D_table_Right) (fn := f_table_Right) (rs := rs_table_Right) (O := O) (w0 := w0) (todo := lp f_table_Right 2) (σ := Unit) t.length
    (fun i _ => E_table_Right_2 t t (lnx tTrigger t) i) (fun i _ => True)
    (fun i _ y => y = (okFrom t i && decide (t.length ≤ 32), ()))
    (fun i s hi _ ih => good_T (d_table_Right k_table_may k_table_compare) ht_table_Right (TL_table_Right_2_eq t t _ _) ⟨fun _ => by
      have e1 : IntKind.wrap .i64 ((i : Int) - 1) = (i : Int) - 1 := small_i64 (by omega)
      have e2 : ∀ x y, decide (0 ≤ g_cmpT x y) = !g_Less x y := fun x y => by
        rw [g_Less, ← decide_not]; congr 1; exact propext (by omega)
      have hc : (bif !g_may (el tTrigger t (i : Nat)) then true else bif decide (0 < (i : Int)) then decide (0 ≤ g_cmpT (el tTrigger t (IntKind.wrap IntKind.i64 ((i : Int) - 1))) (el tTrigger t (i : Nat))) else false) = !okAt t i := by
        rw [e1, okAt, e2]
        cases g_may (el tTrigger t (i : Nat))
        · rfl
        · by_cases h : i = 0
          · simp [h]
          · have : (0 : Int) < (i : Int) := by omega
            rw [decide_eq_true this, decide_eq_false h]
            rfl
      refine ⟨inB_of hi, trivial, fun _ h => ?_, fun _ _ => trivial, ?_⟩
      · have h : (0 : Int) < (i : Int) := of_decide_eq_true h
        rw [e1]
        show 0 ≤ (i : Int) - 1 ∧ (i : Int) - 1 < (t.length : Int)
        omega
      · rw [hc, wr_idx hi (by omega)]
        refine ⟨fun h => ⟨_, rfl, ?_⟩, fun h => ?_⟩
        · rw [okFrom_step hi]
          have : okAt t i = false := by simpa using h
          rw [this]; rfl
        · refine Good.mono (fun y hy => ?_) (ih () trivial)
          have : okAt t i = true := by simpa using h
          rw [hy, okFrom_step hi, this, Bool.true_and], fun h => by
      have h : ¬ (i : Int) < (t.length : Int) := of_decide_eq_false h
      omega⟩)
    (fun s _ => good_T (d_table_Right k_table_may k_table_compare) ht_table_Right (TL_table_Right_2_eq t t _ _) ⟨fun h => by
      have h : (t.length : Int) < (t.length : Int) := of_decide_eq_true h
      omega, fun _ => ⟨_, rfl, by
        rw [okFrom_end]
        have : (lnx tTrigger t ≤ 32) ↔ t.length ≤ 32 := ⟨fun h => by have h : (t.length : Int) ≤ 32 := h; omega, fun h => by show (t.length : Int) ≤ 32; omega⟩
        simp [this]⟩⟩)
theorem k_table_Right : FnOk prog [] n_table_Right S_table_Right :=
  fn_T (d_table_Right k_table_may k_table_compare) ht_table_Right at_table_Right (by kernel_rfl) (fun h => by cases h) (A := A_table_Right) (T := fun x => T_table_Right x.1) (fun x => T_table_Right_eq x.1) fun O w0 x _ hp =>
    (gl_table_Right O w0 x.1 hp).down 0 () (Nat.zero_le _) trivial

/-! ### Halving -/

theorem half_of {i j : Nat} (h : i + j ≤ 4000000) : IntKind.wrap .i64 (Int.fdiv (IntKind.wrap .u64 (IntKind.wrap .i64 ((i : Int) + (j : Int)))) (2 ^ min (Int.toNat 1) (IntKind.bits .u64))) = (((i + j) / 2 : Nat) : Int) := by
  have e0 : (2 : Int) ^ min (Int.toNat 1) (IntKind.bits .u64) = 2 := by decide
  rw [e0, small_i64 (n := (i : Int) + (j : Int)) (by omega)]
  have e1 : IntKind.wrap .u64 ((i : Int) + (j : Int)) = (i : Int) + (j : Int) := by
    unfold IntKind.wrap
    simp only [IntKind.signed, IntKind.bits]
    simp
    omega
  have e2 : Int.fdiv ((i : Int) + (j : Int)) 2 = (((i + j) / 2 : Nat) : Int) := by
    rw [Int.fdiv_eq_ediv_of_nonneg _ (by decide)]; omega
  rw [e1, e2, small_i64 (by omega)]

theorem halve_range (c : Nat → Int) : ∀ (k i j : Nat), i ≤ j → i ≤ halve c k i j ∧ halve c k i j ≤ j
  | 0, i, j, h => ⟨Nat.le_refl _, h⟩
  | k + 1, i, j, h => by
    unfold halve
    split
    · split
      · have := halve_range c k ((i + j) / 2 + 1) j (by omega); omega
      · have := halve_range c k i ((i + j) / 2) (by omega); omega
    · exact ⟨Nat.le_refl _, h⟩

theorem gl_slices_BinarySearchFunc_Trigger (O : Nat → Prop) (w0 : World) (t : List (den tTrigger)) (x : den tTrigger) (f : den cmpF) (ht : t.length ≤ 1000000) (hf : isFn (a := .pair tTrigger (.pair tTrigger .unit)) (r := .pair (.int .i64) .unit) f) : ∀ (k i j : Nat), i ≤ j → j ≤ t.length → j - i ≤ k →
    Good prog D_slices_BinarySearchFunc_Trigger O w0 f_slices_BinarySearchFunc_Trigger (Ends prog O w0 rs_slices_BinarySearchFunc_Trigger fun y => y = (((halve (fun n => cmpB f (el tTrigger t (n : Nat)) x) k i j : Nat) : Int),
      decide (halve (fun n => cmpB f (el tTrigger t (n : Nat)) x) k i j < t.length) && decide (cmpB f (el tTrigger t (halve (fun n => cmpB f (el tTrigger t (n : Nat)) x) k i j : Nat)) x = 0), ()))
      (lp f_slices_BinarySearchFunc_Trigger 3) (E_slices_BinarySearchFunc_Trigger_3 t f (lnx tTrigger t) (i : Nat) (j : Nat) x) := by
  intro k
  have done : ∀ i j : Nat, j ≤ i → i ≤ t.length → Good prog D_slices_BinarySearchFunc_Trigger O w0 f_slices_BinarySearchFunc_Trigger (Ends prog O w0 rs_slices_BinarySearchFunc_Trigger fun y => y = (((i : Nat) : Int), decide (i < t.length) && decide (cmpB f (el tTrigger t (i : Nat)) x = 0), ()))
      (lp f_slices_BinarySearchFunc_Trigger 3) (E_slices_BinarySearchFunc_Trigger_3 t f (lnx tTrigger t) (i : Nat) (j : Nat) x) := fun i j hj hi => by
    refine good_T d_slices_BinarySearchFunc_Trigger ht_slices_BinarySearchFunc_Trigger (TL_slices_BinarySearchFunc_Trigger_3_eq t f _ _ _ x) ⟨fun h => ?_, fun h => ⟨fun h => ?_, fun _ => hf, _, rfl, ?_⟩⟩
    · have h : (i : Int) < (j : Int) := of_decide_eq_true h
      omega
    · have h : (i : Int) < (t.length : Int) := of_decide_eq_true h
      exact inB_of (by omega)
    · have e : (decide (((i : Nat) : Int) < lnx tTrigger t)) = decide (i < t.length) := by
        rw [Bool.eq_iff_iff, decide_eq_true_eq, decide_eq_true_eq]
        exact ⟨fun h => by have h : (i : Int) < (t.length : Int) := h; omega, fun h => by show (i : Int) < (t.length : Int); omega⟩
      show (_, (bif decide (((i : Nat) : Int) < lnx tTrigger t) then decide (cmpB f (el tTrigger t (i : Nat)) x = 0) else false), PUnit.unit) = _
      rw [e]
      cases decide (i < t.length) <;> rfl
  induction k with
  | zero =>
    intro i j h1 h2 h3
    exact done i j (by omega) (by omega)
  | succ k ih =>
    intro i j h1 h2 h3
    by_cases hlt : i < j
    · have hm := half_of (i := i) (j := j) (by omega)
      have hmt : (i + j) / 2 < t.length := by omega
      unfold halve
      rw [if_pos hlt]
      refine good_T d_slices_BinarySearchFunc_Trigger ht_slices_BinarySearchFunc_Trigger (TL_slices_BinarySearchFunc_Trigger_3_eq t f _ _ _ x) ⟨fun _ => ⟨show (0 : Int) ≤ 1 by decide, ?_, hf, ?_⟩, fun h => ?_⟩
      · rw [hm]; exact inB_of hmt
      · rw [hm]
        refine ⟨fun h => ?_, fun h => ?_⟩
        · have h : cmpB f (el tTrigger t ((i + j) / 2 : Nat)) x < 0 := of_decide_eq_true h
          rw [if_pos h, small_i64 (by omega)]
          exact ih ((i + j) / 2 + 1) j (by omega) h2 (by omega)
        · have h : ¬ cmpB f (el tTrigger t ((i + j) / 2 : Nat)) x < 0 := of_decide_eq_false h
          rw [if_neg h]
          exact ih i ((i + j) / 2) (by omega) (by omega) (by omega)
      · have h : ¬ (i : Int) < (j : Int) := of_decide_eq_false h
        omega
    · unfold halve
      rw [if_neg hlt]
      exact done i j (by omega) (by omega)
theorem k_slices_BinarySearchFunc_Trigger : FnOk prog [] n_slices_BinarySearchFunc_Trigger S_slices_BinarySearchFunc_Trigger :=
  fn_T d_slices_BinarySearchFunc_Trigger ht_slices_BinarySearchFunc_Trigger at_slices_BinarySearchFunc_Trigger (by kernel_rfl) (fun h => by cases h) (A := A_slices_BinarySearchFunc_Trigger) (T := fun x => T_slices_BinarySearchFunc_Trigger x.1 x.2.1 x.2.2.1) (fun x => T_slices_BinarySearchFunc_Trigger_eq x.1 x.2.1 x.2.2.1) fun O w0 x _ hp =>
    gl_slices_BinarySearchFunc_Trigger O w0 x.1 x.2.1 x.2.2.1 hp.1 hp.2 x.1.length 0 x.1.length (Nat.zero_le _) (Nat.le_refl _) (Nat.le_refl _)

end Go.Proofs.Ytnccacngedeoeaa

/- Tables: put, dropped from, those that live, that match, cut. -/
namespace Go.Proofs.Ytnccacngedeoeaa
open Go Go.RowKit

theorem range_ind {σ : Type} (n : Nat) (Inv : Nat → σ → Prop) (Q : Nat → σ → Prop) (step : ∀ i s, i < n → Inv i s → (∀ s', Inv (i + 1) s' → Q (i + 1) s') → Q i s) (last : ∀ s, Inv n s → Q n s) : ∀ (i : Nat) (s : σ), i ≤ n → Inv i s → Q i s := by
  intro i s hi
  obtain ⟨k, hk⟩ : ∃ k, k + i = n := ⟨n - i, by omega⟩
  induction k generalizing i s with
  | zero =>
    have e : i = n := by omega
    subst e
    exact last s
  | succ k ih =>
    intro hI
    exact step i s (by omega) hI fun s' h' => ih (i + 1) s' (by omega) (by omega) h'

theorem lnx_nat {e : Ty} (t : List (den e)) {i : Nat} : (decide ((i : Int) < lnx e t)) = decide (i < t.length) := by
  rw [Bool.eq_iff_iff, decide_eq_true_eq, decide_eq_true_eq]
  exact ⟨fun h => by have h : (i : Int) < (t.length : Int) := h; omega, fun h => by show (i : Int) < (t.length : Int); omega⟩

theorem vok_all (n : Nat) : vok 0 n n := by unfold vok; omega

theorem findB_le (c : den tTrigger → Int) (t : List (den tTrigger)) : findB c t ≤ t.length := (halve_range _ t.length 0 t.length (Nat.zero_le _)).2
theorem atB_le (t : List (den tTrigger)) (x : den tTrigger) : atB t x ≤ t.length := findB_le _ _
theorem thereB_lt {t : List (den tTrigger)} {x : den tTrigger} (h : thereB t x = true) : atB t x < t.length := by
  unfold thereB isB at h
  rw [Bool.and_eq_true, decide_eq_true_eq] at h
  exact h.1

theorem k_table_Put : FnOk prog [] n_table_Put S_table_Put :=
  fnS_T (S := S_table_Put) (x_table_Put k_table_Right k_table_may k_slices_BinarySearchFunc_Trigger k_table_compare ok_slices_Clone_Trigger ok_slices_Insert_Trigger) (fx := fx_table_Put) at_table_Put (by kernel_rfl) (fun h => by cases h) (T := fun x => T_table_Put x.1 x.2.1) (fun x => T_table_Put_eq x.1 x.2.1) fun O w0 x hk hp => by
    obtain ⟨t, x, ⟨⟩⟩ := x
    have hp : t.length ≤ 1000000 := hp
    have hm : t.length ≤ most := Nat.le_trans hp (by decide)
    have e0 : vpart tTrigger t 0 t.length = t := vpart_all t rfl
    refine ⟨hp, fun _ => trivial, fun h => ⟨_, rfl, ?_⟩, fun h => ⟨⟨hp, _, rfl⟩, fun h1 => ⟨hm, ?_, ?_, ?_, ?_, _, rfl, ?_⟩, fun h1 => ⟨fun h2 => ⟨_, rfl, ?_⟩, fun h2 => ⟨hm, vok_all _, ⟨Int.natCast_nonneg _, ?_, ?_⟩, _, rfl, ?_⟩⟩⟩⟩
    · have : g_Put t x = ([], 1) := by
        unfold g_Put
        rw [if_neg (fun h' => ?_)]
        rw [Bool.and_eq_true] at h'
        rw [h'.1, h'.2] at h
        cases h
      show (([] : List (den tTrigger)), (1 : Int), ()) = ((g_Put t x).1, (g_Put t x).2, ())
      rw [this]
    all_goals
      have hr : (g_Right t && g_may x) = true := by
        cases hR : g_Right t
        · rw [hR] at h; cases h
        · cases hM : g_may x
          · rw [hR, hM] at h; cases h
          · rfl
    · exact inB_of (thereB_lt h1)
    · exact inB_of (thereB_lt h1)
    · exact inB_of (thereB_lt h1)
    · exact inB_of (thereB_lt h1)
    · have h1 : thereB t x = true := h1
      have : g_Put t x = (t.set (atB t x) (untilT (el tTrigger t (atB t x : Nat)) (maxI (el tTrigger t (atB t x : Nat)).2.2.1 x.2.2.1)), 0) := by
        unfold g_Put; rw [if_pos hr, if_pos h1]
      show (_, (0 : Int), ()) = ((g_Put t x).1, (g_Put t x).2, ())
      rw [this]; rfl
    · have h1 : thereB t x = false := h1
      have h2 : t.length = 32 := by have h2 : (t.length : Int) = 32 := of_decide_eq_true h2; omega
      have : g_Put t x = ([], 8) := by
        unfold g_Put; rw [if_pos hr, if_neg (by rw [h1]; simp), if_pos h2]
      show (([] : List (den tTrigger)), (8 : Int), ()) = ((g_Put t x).1, (g_Put t x).2, ())
      rw [this]
    · rw [e0]; exact Int.ofNat_le.2 (atB_le t x)
    · rw [e0]; show t.length + 1 ≤ 1073741824; omega
    · have h1 : thereB t x = false := h1
      have h2 : ¬ t.length = 32 := by
        intro e
        have h2 : ¬ (t.length : Int) = 32 := of_decide_eq_false h2
        omega
      have : g_Put t x = (putIn t (atB t x) [x], 0) := by
        unfold g_Put; rw [if_pos hr, if_neg (by rw [h1]; simp), if_neg h2]
      show (putIn (vpart tTrigger t 0 t.length) (atB t x) [x], (0 : Int), ()) = ((g_Put t x).1, (g_Put t x).2, ())
      rw [this, e0]

theorem k_table_Drop : FnOk prog [] n_table_Drop S_table_Drop :=
  fnS_T (S := S_table_Drop) (x_table_Drop k_table_Right k_slices_BinarySearchFunc_Trigger k_table_compare ok_slices_Clone_Trigger ok_slices_Delete_Trigger) (fx := fx_table_Drop) at_table_Drop (by kernel_rfl) (fun h => by cases h) (T := fun x => T_table_Drop x.1 x.2.1 x.2.2.1) (fun x => T_table_Drop_eq x.1 x.2.1 x.2.2.1) fun O w0 x hk hp => by
    obtain ⟨t, id, e, ⟨⟩⟩ := x
    have hp : t.length ≤ 1000000 := hp
    have hm : t.length ≤ most := Nat.le_trans hp (by decide)
    have e0 : vpart tTrigger t 0 t.length = t := vpart_all t rfl
    refine ⟨hp, fun h => ⟨_, rfl, ?_⟩, fun h => ⟨⟨hp, _, rfl⟩, fun h1 => ⟨_, rfl, ?_⟩, fun h1 => ⟨hm, vok_all _, ⟨Int.natCast_nonneg _, ?_, ?_⟩, _, rfl, ?_⟩⟩⟩
    · have hr : g_Right t = false := by simpa using h
      have : g_Drop t id e = ([], 1) := by unfold g_Drop; rw [if_neg (by rw [hr]; simp)]
      show (([] : List (den tTrigger)), (1 : Int), ()) = ((g_Drop t id e).1, (g_Drop t id e).2, ())
      rw [this]
    all_goals have hr : g_Right t = true := by simpa using h
    · have h1 : thereB t (keyT id e) = false := by
        have h1 : (!thereB t (keyT id e)) = true := h1
        simpa using h1
      have : g_Drop t id e = ([], 6) := by unfold g_Drop; rw [if_pos hr, if_neg (by rw [h1]; simp)]
      show (([] : List (den tTrigger)), (6 : Int), ()) = ((g_Drop t id e).1, (g_Drop t id e).2, ())
      rw [this]
    all_goals
      have h1 : thereB t (keyT id e) = true := by
        have h1 : (!thereB t (keyT id e)) = false := h1
        simpa using h1
      have hlt := thereB_lt h1
      have e1 : IntKind.wrap .i64 (((atB t (keyT id e) : Nat) : Int) + 1) = ((atB t (keyT id e) + 1 : Nat) : Int) := wr_idx hlt (by omega)
    · show ((atB t (keyT id e) : Nat) : Int) ≤ IntKind.wrap .i64 (((atB t (keyT id e) : Nat) : Int) + 1)
      rw [e1]; omega
    · show IntKind.wrap .i64 (((atB t (keyT id e) : Nat) : Int) + 1) ≤ ((vpart tTrigger t 0 t.length).length : Int)
      rw [e1, e0]; omega
    · have : g_Drop t id e = (t.take (atB t (keyT id e)) ++ t.drop (atB t (keyT id e) + 1), 0) := by unfold g_Drop; rw [if_pos hr, if_pos h1]
      show ((vpart tTrigger t 0 t.length).take (atB t (keyT id e)) ++ (vpart tTrigger t 0 t.length).drop (IntKind.wrap .i64 (((atB t (keyT id e) : Nat) : Int) + 1)).toNat, (0 : Int), ()) = ((g_Drop t id e).1, (g_Drop t id e).2, ())
      rw [this, e0, e1]; rfl

theorem k_table_Expire : FnOk prog [] n_table_Expire S_table_Expire :=
  fnS_T (S := S_table_Expire) (x_table_Expire k_table_Right k_table_Expire_1 k_table_parted_Trigger) (fx := fx_table_Expire) at_table_Expire (by kernel_rfl) (fun h => by cases h) (T := fun x => T_table_Expire x.1 x.2.1) (fun x => T_table_Expire_eq x.1 x.2.1) fun O w0 x hk hp => by
    obtain ⟨t, now, ⟨⟩⟩ := x
    have hp : t.length ≤ 1000000 := hp
    refine ⟨hp, fun h => ⟨_, rfl, ?_⟩, fun h => ⟨fun _ => trivial, ⟨hp, _, rfl⟩, _, rfl, ?_⟩⟩
    · have hr : g_Right t = false := by simpa using h
      have : g_TExpire t now = ([], 1) := by unfold g_TExpire; rw [if_neg (by rw [hr]; simp)]
      show (([] : List (den tTrigger)), (1 : Int), ()) = ((g_TExpire t now).1, (g_TExpire t now).2, ())
      rw [this]
    · have hr : g_Right t = true := by simpa using h
      have : g_TExpire t now = (g_Expire t now, 0) := by unfold g_TExpire; rw [if_pos hr]
      show (t.filter (fun y => !decide ((y.2.2.1 : Int) ≤ now)), (0 : Int), ()) = ((g_TExpire t now).1, (g_TExpire t now).2, ())
      rw [this]
      have : (fun y : den tTrigger => !decide ((y.2.2.1 : Int) ≤ now)) = fun y => decide ((now : Int) < y.2.2.1) := by
        funext y
        rw [← decide_not]; congr 1; exact propext Int.not_le
      rw [this]; rfl

theorem k_table_Cut : FnOk prog [] n_table_Cut S_table_Cut :=
  fnS_T (S := S_table_Cut) (x_table_Cut k_table_Right k_table_Cut_1 k_table_parted_Trigger) (fx := fx_table_Cut) at_table_Cut (by kernel_rfl) (fun h => by cases h) (T := fun x => T_table_Cut x.1 x.2.1 x.2.2.1) (fun x => T_table_Cut_eq x.1 x.2.1 x.2.2.1) fun O w0 x hk hp => by
    obtain ⟨t, a, b, ⟨⟩⟩ := x
    have hp : t.length ≤ 1000000 := hp
    refine ⟨hp, fun h => ⟨_, rfl, ?_⟩, fun h => ⟨fun _ => trivial, ⟨hp, _, rfl⟩, _, rfl, ?_⟩⟩
    · have hr : g_Right t = false := by simpa using h
      have : g_Cut t a b = ([], [], 1) := by unfold g_Cut; rw [if_neg (by rw [hr]; simp)]
      show (([] : List (den tTrigger)), ([] : List (den tTrigger)), (1 : Int), ()) = ((g_Cut t a b).1, (g_Cut t a b).2.1, (g_Cut t a b).2.2, ())
      rw [this]
    · have hr : g_Right t = true := by simpa using h
      have : g_Cut t a b = (t.filter (fun x => g_In x.1 a b), t.filter (fun x => !g_In x.1 a b), 0) := by unfold g_Cut; rw [if_pos hr]
      show (t.filter (fun x => g_In x.1 a b), t.filter (fun x => !g_In x.1 a b), (0 : Int), ()) = ((g_Cut t a b).1, (g_Cut t a b).2.1, (g_Cut t a b).2.2, ())
      rw [this]

def gl_table_Match (O : Nat → Prop) (w0 : World) (t : List (den tTrigger)) (id : den tId) (ht : t.length ≤ 1000000) :=
  PLift.up <| range_ind (σ := Int × den tId) t.length (fun _ _ => True)
    (fun i s => GoodS prog X_table_Match (Cx.base O w0) (Ends prog O w0 rs_table_Match fun y => y = ((if (likest id (t.drop i) s.1 s.2).1 < 128 then ([] : List (den tTrigger)) else t.filter fun x => decide (x.1 = (likest id (t.drop i) s.1 s.2).2)), (if (likest id (t.drop i) s.1 s.2).1 < 128 then (6 : Int) else 0), ())) [] fx_table_Match (lp f_table_Match 5) (E_table_Match_5 t s.1 t (lnx tTrigger t) (i : Nat) id s.2))
    (fun i s hi _ ih => goodS_of (x_table_Match k_table_Right k_table_Match_1 k_table_parted_Trigger k_ident_Common) (TL_table_Match_5_eq t s.1 t _ _ id s.2) (by
      refine ⟨fun _ => ⟨inB_of hi, trivial, ?_⟩, fun h => ?_⟩
      · rw [el_at hi, wr_idx hi (by omega), List.drop_eq_getElem_cons hi]
        refine ⟨fun h => ?_, fun h => ?_⟩
        · have h : s.1 < g_Common t[i].1 id := of_decide_eq_true h
          rw [likest, if_pos h]
          exact ih (g_Common t[i].1 id, t[i].1) trivial
        · have h : ¬ s.1 < g_Common t[i].1 id := of_decide_eq_false h
          rw [likest, if_neg h]
          exact ih s trivial
      · rw [lnx_nat] at h
        exact absurd hi (of_decide_eq_false h)))
    (fun s _ => goodS_of (x_table_Match k_table_Right k_table_Match_1 k_table_parted_Trigger k_ident_Common) (TL_table_Match_5_eq t s.1 t _ _ id s.2) (by
      rw [List.drop_length]
      refine ⟨fun h => ?_, fun _ => ⟨fun h => ⟨_, rfl, ?_⟩, fun h => ⟨fun _ => trivial, ⟨ht, _, rfl⟩, _, rfl, ?_⟩⟩⟩
      · rw [lnx_nat] at h
        exact absurd (of_decide_eq_true h) (Nat.lt_irrefl _)
      · have h : s.1 < 128 := of_decide_eq_true h
        rw [likest, if_pos h, if_pos h]
      · have h : ¬ s.1 < 128 := of_decide_eq_false h
        rw [likest, if_neg h, if_neg h]
        rfl))

theorem k_table_Match : FnOk prog [] n_table_Match S_table_Match :=
  fnS_T (S := S_table_Match) (x_table_Match k_table_Right k_table_Match_1 k_table_parted_Trigger k_ident_Common) (fx := fx_table_Match) at_table_Match (by kernel_rfl) (fun h => by cases h) (T := fun x => T_table_Match x.1 x.2.1) (fun x => T_table_Match_eq x.1 x.2.1) fun O w0 x hk hp => by
    obtain ⟨t, id, ⟨⟩⟩ := x
    have hp : t.length ≤ 1000000 := hp
    refine ⟨hp, fun h => ⟨_, rfl, ?_⟩, fun h => ?_⟩
    · have hr : g_Right t = false := by simpa using h
      have : g_Match t id = ([], 1) := by unfold g_Match; rw [if_neg (by rw [hr]; simp)]
      show (([] : List (den tTrigger)), (1 : Int), ()) = ((g_Match t id).1, (g_Match t id).2, ())
      rw [this]
    · have hr : g_Right t = true := by simpa using h
      have := (gl_table_Match O w0 t id hp).down 0 (127, zero tId) (Nat.zero_le _) trivial
      have e : ((if (likest id t 127 (zero tId)).1 < 128 then ([] : List (den tTrigger)) else t.filter fun x => decide (x.1 = (likest id t 127 (zero tId)).2)), (if (likest id t 127 (zero tId)).1 < 128 then (6 : Int) else 0), ()) = ((g_Match t id).1, (g_Match t id).2, ()) := by
        unfold g_Match
        rw [if_pos hr]
        split <;> rfl
      have this : GoodS prog X_table_Match (Cx.base O w0) (Ends prog O w0 rs_table_Match fun y => y = ((if (likest id t 127 (zero tId)).1 < 128 then ([] : List (den tTrigger)) else t.filter fun x => decide (x.1 = (likest id t 127 (zero tId)).2)), (if (likest id t 127 (zero tId)).1 < 128 then (6 : Int) else 0), ())) [] fx_table_Match (lp f_table_Match 5) (E_table_Match_5 t 127 t (lnx tTrigger t) (0 : Nat) id (zero tId)) := this
      rw [e] at this
      exact this

end Go.Proofs.Ytnccacngedeoeaa

/- The trees of functions' bodies, as the evaluator prints them. -/
namespace Go.Proofs.Ytnccacngedeoeaa
open Go Go.RowKit

noncomputable abbrev fx_l12_alive : Fx := { fn := f_l12_alive, ann := { } }
noncomputable abbrev X_l12_alive : TabX := { D := { T := tyTab, F := [(n_table_Put, S_table_Put), (n_table_Match, S_table_Match), (n_table_Right, S_table_Right)], R := [], ovl := [] }, inl := [] }
noncomputable abbrev M_l12_alive : RMode := .data rs_l12_alive
theorem x_l12_alive (h_table_Put : FnOk prog [] n_table_Put S_table_Put) (h_table_Match : FnOk prog [] n_table_Match S_table_Match) (h_table_Right : FnOk prog [] n_table_Right S_table_Right) : XOk prog X_l12_alive := xok (dok_add (dok_add (dok_add (dok_nil tab_ok mixed_ok) h_table_Right) h_table_Match) h_table_Put) (by kernel_rfl) rows_nil inl_nil ovl_nil
noncomputable def T_l12_alive : TreeS :=
  TreeS.req (List.length ([] : List (den tTrigger)) ≤ 1000000)
  (TreeS.req
    (List.length
        (Prod.fst
          (g_Put []
            (List.set (List.replicate 32 (zero (Ty.int IntKind.u8))) 0 7,
              (2, Prod.fst (Prod.snd (zero (Ty.pair tInt (Ty.pair tId (Ty.pair tInt Ty.unit))))), 3,
                Prod.snd (Prod.snd (Prod.snd (zero (Ty.pair tInt (Ty.pair tId (Ty.pair tInt Ty.unit))))))),
              9, Prod.snd (Prod.snd (Prod.snd (zero (Ty.pair tId (Ty.pair tEntry (Ty.pair tInt Ty.unit))))))))) ≤
      1000000)
    (TreeS.req
      (impl
        [(bif
                bif
                    decide
                      (Prod.snd
                          (g_Put []
                            (List.set (List.replicate 32 (zero (Ty.int IntKind.u8))) 0 7,
                              (2, Prod.fst (Prod.snd (zero (Ty.pair tInt (Ty.pair tId (Ty.pair tInt Ty.unit))))), 3,
                                Prod.snd
                                  (Prod.snd (Prod.snd (zero (Ty.pair tInt (Ty.pair tId (Ty.pair tInt Ty.unit))))))),
                              9,
                              Prod.snd
                                (Prod.snd (Prod.snd (zero (Ty.pair tId (Ty.pair tEntry (Ty.pair tInt Ty.unit)))))))) =
                        0) then
                  decide
                    (Prod.snd
                        (g_Match
                          (Prod.fst
                            (g_Put []
                              (List.set (List.replicate 32 (zero (Ty.int IntKind.u8))) 0 7,
                                (2, Prod.fst (Prod.snd (zero (Ty.pair tInt (Ty.pair tId (Ty.pair tInt Ty.unit))))), 3,
                                  Prod.snd
                                    (Prod.snd (Prod.snd (zero (Ty.pair tInt (Ty.pair tId (Ty.pair tInt Ty.unit))))))),
                                9,
                                Prod.snd
                                  (Prod.snd (Prod.snd (zero (Ty.pair tId (Ty.pair tEntry (Ty.pair tInt Ty.unit)))))))))
                          (List.set (List.replicate 32 (zero (Ty.int IntKind.u8))) 0 7)) =
                      0)
                else false then
              decide
                (lnx tTrigger
                    (Prod.fst
                      (g_Match
                        (Prod.fst
                          (g_Put []
                            (List.set (List.replicate 32 (zero (Ty.int IntKind.u8))) 0 7,
                              (2, Prod.fst (Prod.snd (zero (Ty.pair tInt (Ty.pair tId (Ty.pair tInt Ty.unit))))), 3,
                                Prod.snd
                                  (Prod.snd (Prod.snd (zero (Ty.pair tInt (Ty.pair tId (Ty.pair tInt Ty.unit))))))),
                              9,
                              Prod.snd
                                (Prod.snd (Prod.snd (zero (Ty.pair tId (Ty.pair tEntry (Ty.pair tInt Ty.unit)))))))))
                        (List.set (List.replicate 32 (zero (Ty.int IntKind.u8))) 0 7))) =
                  1)
            else false,
            true)]
        (inB 0
          (lnx tTrigger
            (Prod.fst
              (g_Match
                (Prod.fst
                  (g_Put []
                    (List.set (List.replicate 32 (zero (Ty.int IntKind.u8))) 0 7,
                      (2, Prod.fst (Prod.snd (zero (Ty.pair tInt (Ty.pair tId (Ty.pair tInt Ty.unit))))), 3,
                        Prod.snd (Prod.snd (Prod.snd (zero (Ty.pair tInt (Ty.pair tId (Ty.pair tInt Ty.unit))))))),
                      9, Prod.snd (Prod.snd (Prod.snd (zero (Ty.pair tId (Ty.pair tEntry (Ty.pair tInt Ty.unit)))))))))
                (List.set (List.replicate 32 (zero (Ty.int IntKind.u8))) 0 7))))))
      (TreeS.req
        (impl
          [(bif
                  bif
                      bif
                          decide
                            (Prod.snd
                                (g_Put []
                                  (List.set (List.replicate 32 (zero (Ty.int IntKind.u8))) 0 7,
                                    (2, Prod.fst (Prod.snd (zero (Ty.pair tInt (Ty.pair tId (Ty.pair tInt Ty.unit))))),
                                      3,
                                      Prod.snd
                                        (Prod.snd
                                          (Prod.snd (zero (Ty.pair tInt (Ty.pair tId (Ty.pair tInt Ty.unit))))))),
                                    9,
                                    Prod.snd
                                      (Prod.snd
                                        (Prod.snd (zero (Ty.pair tId (Ty.pair tEntry (Ty.pair tInt Ty.unit)))))))) =
                              0) then
                        decide
                          (Prod.snd
                              (g_Match
                                (Prod.fst
                                  (g_Put []
                                    (List.set (List.replicate 32 (zero (Ty.int IntKind.u8))) 0 7,
                                      (2,
                                        Prod.fst (Prod.snd (zero (Ty.pair tInt (Ty.pair tId (Ty.pair tInt Ty.unit))))),
                                        3,
                                        Prod.snd
                                          (Prod.snd
                                            (Prod.snd (zero (Ty.pair tInt (Ty.pair tId (Ty.pair tInt Ty.unit))))))),
                                      9,
                                      Prod.snd
                                        (Prod.snd
                                          (Prod.snd (zero (Ty.pair tId (Ty.pair tEntry (Ty.pair tInt Ty.unit)))))))))
                                (List.set (List.replicate 32 (zero (Ty.int IntKind.u8))) 0 7)) =
                            0)
                      else false then
                    decide
                      (lnx tTrigger
                          (Prod.fst
                            (g_Match
                              (Prod.fst
                                (g_Put []
                                  (List.set (List.replicate 32 (zero (Ty.int IntKind.u8))) 0 7,
                                    (2, Prod.fst (Prod.snd (zero (Ty.pair tInt (Ty.pair tId (Ty.pair tInt Ty.unit))))),
                                      3,
                                      Prod.snd
                                        (Prod.snd
                                          (Prod.snd (zero (Ty.pair tInt (Ty.pair tId (Ty.pair tInt Ty.unit))))))),
                                    9,
                                    Prod.snd
                                      (Prod.snd
                                        (Prod.snd (zero (Ty.pair tId (Ty.pair tEntry (Ty.pair tInt Ty.unit)))))))))
                              (List.set (List.replicate 32 (zero (Ty.int IntKind.u8))) 0 7))) =
                        1)
                  else false then
                eqb tTrigger
                  (el tTrigger
                    (Prod.fst
                      (g_Match
                        (Prod.fst
                          (g_Put []
                            (List.set (List.replicate 32 (zero (Ty.int IntKind.u8))) 0 7,
                              (2, Prod.fst (Prod.snd (zero (Ty.pair tInt (Ty.pair tId (Ty.pair tInt Ty.unit))))), 3,
                                Prod.snd
                                  (Prod.snd (Prod.snd (zero (Ty.pair tInt (Ty.pair tId (Ty.pair tInt Ty.unit))))))),
                              9,
                              Prod.snd
                                (Prod.snd (Prod.snd (zero (Ty.pair tId (Ty.pair tEntry (Ty.pair tInt Ty.unit)))))))))
                        (List.set (List.replicate 32 (zero (Ty.int IntKind.u8))) 0 7)))
                    0)
                  (List.set (List.replicate 32 (zero (Ty.int IntKind.u8))) 0 7,
                    (2, Prod.fst (Prod.snd (zero (Ty.pair tInt (Ty.pair tId (Ty.pair tInt Ty.unit))))), 3,
                      Prod.snd (Prod.snd (Prod.snd (zero (Ty.pair tInt (Ty.pair tId (Ty.pair tInt Ty.unit))))))),
                    9, Prod.snd (Prod.snd (Prod.snd (zero (Ty.pair tId (Ty.pair tEntry (Ty.pair tInt Ty.unit)))))))
              else false,
              true)]
          (List.length
              (Prod.fst
                (g_Put []
                  (List.set (List.replicate 32 (zero (Ty.int IntKind.u8))) 0 7,
                    (2, Prod.fst (Prod.snd (zero (Ty.pair tInt (Ty.pair tId (Ty.pair tInt Ty.unit))))), 3,
                      Prod.snd (Prod.snd (Prod.snd (zero (Ty.pair tInt (Ty.pair tId (Ty.pair tInt Ty.unit))))))),
                    9, Prod.snd (Prod.snd (Prod.snd (zero (Ty.pair tId (Ty.pair tEntry (Ty.pair tInt Ty.unit))))))))) ≤
            1000000))
        (TreeS.ret
          (K.val (Ty.pair Ty.bool Ty.unit)
            (bif
                  bif
                      bif
                          bif
                              decide
                                (Prod.snd
                                    (g_Put []
                                      (List.set (List.replicate 32 (zero (Ty.int IntKind.u8))) 0 7,
                                        (2,
                                          Prod.fst
                                            (Prod.snd (zero (Ty.pair tInt (Ty.pair tId (Ty.pair tInt Ty.unit))))),
                                          3,
                                          Prod.snd
                                            (Prod.snd
                                              (Prod.snd (zero (Ty.pair tInt (Ty.pair tId (Ty.pair tInt Ty.unit))))))),
                                        9,
                                        Prod.snd
                                          (Prod.snd
                                            (Prod.snd (zero (Ty.pair tId (Ty.pair tEntry (Ty.pair tInt Ty.unit)))))))) =
                                  0) then
                            decide
                              (Prod.snd
                                  (g_Match
                                    (Prod.fst
                                      (g_Put []
                                        (List.set (List.replicate 32 (zero (Ty.int IntKind.u8))) 0 7,
                                          (2,
                                            Prod.fst
                                              (Prod.snd (zero (Ty.pair tInt (Ty.pair tId (Ty.pair tInt Ty.unit))))),
                                            3,
                                            Prod.snd
                                              (Prod.snd
                                                (Prod.snd (zero (Ty.pair tInt (Ty.pair tId (Ty.pair tInt Ty.unit))))))),
                                          9,
                                          Prod.snd
                                            (Prod.snd
                                              (Prod.snd
                                                (zero (Ty.pair tId (Ty.pair tEntry (Ty.pair tInt Ty.unit)))))))))
                                    (List.set (List.replicate 32 (zero (Ty.int IntKind.u8))) 0 7)) =
                                0)
                          else false then
                        decide
                          (lnx tTrigger
                              (Prod.fst
                                (g_Match
                                  (Prod.fst
                                    (g_Put []
                                      (List.set (List.replicate 32 (zero (Ty.int IntKind.u8))) 0 7,
                                        (2,
                                          Prod.fst
                                            (Prod.snd (zero (Ty.pair tInt (Ty.pair tId (Ty.pair tInt Ty.unit))))),
                                          3,
                                          Prod.snd
                                            (Prod.snd
                                              (Prod.snd (zero (Ty.pair tInt (Ty.pair tId (Ty.pair tInt Ty.unit))))))),
                                        9,
                                        Prod.snd
                                          (Prod.snd
                                            (Prod.snd (zero (Ty.pair tId (Ty.pair tEntry (Ty.pair tInt Ty.unit)))))))))
                                  (List.set (List.replicate 32 (zero (Ty.int IntKind.u8))) 0 7))) =
                            1)
                      else false then
                    eqb tTrigger
                      (el tTrigger
                        (Prod.fst
                          (g_Match
                            (Prod.fst
                              (g_Put []
                                (List.set (List.replicate 32 (zero (Ty.int IntKind.u8))) 0 7,
                                  (2, Prod.fst (Prod.snd (zero (Ty.pair tInt (Ty.pair tId (Ty.pair tInt Ty.unit))))), 3,
                                    Prod.snd
                                      (Prod.snd (Prod.snd (zero (Ty.pair tInt (Ty.pair tId (Ty.pair tInt Ty.unit))))))),
                                  9,
                                  Prod.snd
                                    (Prod.snd
                                      (Prod.snd (zero (Ty.pair tId (Ty.pair tEntry (Ty.pair tInt Ty.unit)))))))))
                            (List.set (List.replicate 32 (zero (Ty.int IntKind.u8))) 0 7)))
                        0)
                      (List.set (List.replicate 32 (zero (Ty.int IntKind.u8))) 0 7,
                        (2, Prod.fst (Prod.snd (zero (Ty.pair tInt (Ty.pair tId (Ty.pair tInt Ty.unit))))), 3,
                          Prod.snd (Prod.snd (Prod.snd (zero (Ty.pair tInt (Ty.pair tId (Ty.pair tInt Ty.unit))))))),
                        9, Prod.snd (Prod.snd (Prod.snd (zero (Ty.pair tId (Ty.pair tEntry (Ty.pair tInt Ty.unit)))))))
                  else false then
                g_Right
                  (Prod.fst
                    (g_Put []
                      (List.set (List.replicate 32 (zero (Ty.int IntKind.u8))) 0 7,
                        (2, Prod.fst (Prod.snd (zero (Ty.pair tInt (Ty.pair tId (Ty.pair tInt Ty.unit))))), 3,
                          Prod.snd (Prod.snd (Prod.snd (zero (Ty.pair tInt (Ty.pair tId (Ty.pair tInt Ty.unit))))))),
                        9,
                        Prod.snd (Prod.snd (Prod.snd (zero (Ty.pair tId (Ty.pair tEntry (Ty.pair tInt Ty.unit)))))))))
              else false,
              PUnit.unit))))))
theorem T_l12_alive_eq : treeS X_l12_alive M_l12_alive 5000 [] fx_l12_alive (bodyOf f_l12_alive) (Env.of
  (argEnv as_l12_alive () 0) []) = T_l12_alive := by kernel_rfl

noncomputable abbrev fx_l12_TablePuts : Fx := { fn := f_l12_TablePuts, ann := { } }
noncomputable abbrev X_l12_TablePuts : TabX := { D := { T := tyTab, F := [(n_l12_few, S_l12_few), (n_table_Put, S_table_Put), (n_table_Drop, S_table_Drop), (n_table_Right, S_table_Right), (n_r12_Right, S_r12_Right), (n_l12_alive, S_l12_alive), (n_r12_May, S_r12_May), (n_r12_Put, S_r12_Put), (n_r12_Same, S_r12_Same), (n_r12_Find, S_r12_Find), (n_r12_Without, S_r12_Without)], R := [], ovl := [] }, inl := [] }
noncomputable abbrev M_l12_TablePuts : RMode := .data rs_l12_TablePuts
theorem x_l12_TablePuts (h_l12_few : FnOk prog [] n_l12_few S_l12_few) (h_table_Put : FnOk prog [] n_table_Put S_table_Put) (h_table_Drop : FnOk prog [] n_table_Drop S_table_Drop) (h_table_Right : FnOk prog [] n_table_Right S_table_Right) (h_r12_Right : FnOk prog [] n_r12_Right S_r12_Right) (h_l12_alive : FnOk prog [] n_l12_alive S_l12_alive) (h_r12_May : FnOk prog [] n_r12_May S_r12_May) (h_r12_Put : FnOk prog [] n_r12_Put S_r12_Put) (h_r12_Same : FnOk prog [] n_r12_Same S_r12_Same) (h_r12_Find : FnOk prog [] n_r12_Find S_r12_Find) (h_r12_Without : FnOk prog [] n_r12_Without S_r12_Without) : XOk prog X_l12_TablePuts := xok (dok_add (dok_add (dok_add (dok_add (dok_add (dok_add (dok_add (dok_add (dok_add (dok_add (dok_add (dok_nil tab_ok mixed_ok) h_r12_Without) h_r12_Find) h_r12_Same) h_r12_Put) h_r12_May) h_l12_alive) h_r12_Right) h_table_Right) h_table_Drop) h_table_Put) h_l12_few) (by kernel_rfl) rows_nil inl_nil ovl_nil
noncomputable def T_l12_TablePuts (t : den (Ty.slc tTrigger)) (x : den tTrigger) (id : den tId) (e : den tEntry) : TreeS :=
  TreeS.req True
  (TreeS.req (List.length (List.take 34 t) ≤ 1000000)
    (TreeS.req (List.length (List.take 34 t) ≤ 1000000)
      (TreeS.req (List.length (List.take 34 t) ≤ 1000000)
        (TreeS.req (List.length (List.take 34 t) ≤ 1000000)
          (TreeS.req (impl [(!eqO (g_Right (List.take 34 t)) (g_Right (List.take 34 t)), false)] True)
            (TreeS.ite (bif !eqO (g_Right (List.take 34 t)) (g_Right (List.take 34 t)) then true else !true)
              (TreeS.ret (K.val (Ty.pair Ty.bool Ty.unit) (false, PUnit.unit)))
              (TreeS.req (List.length (List.take 34 t) ≤ 1000000)
                (TreeS.ite (!g_Right (List.take 34 t))
                  (TreeS.ret
                    (K.val (Ty.pair Ty.bool Ty.unit)
                      (bif
                            bif decide (Prod.snd (g_Put (List.take 34 t) x) = 1) then
                              decide (Prod.snd (g_Drop (List.take 34 t) id e) = 1)
                            else false then
                          decide
                            (IntKind.wrap IntKind.i64
                                (lnx tTrigger (Prod.fst (g_Put (List.take 34 t) x)) +
                                  lnx tTrigger (Prod.fst (g_Drop (List.take 34 t) id e))) =
                              0)
                        else false,
                        PUnit.unit)))
                  (TreeS.req True
                    (TreeS.ite (!g_may x)
                      (TreeS.ite
                        (bif !decide (Prod.snd (g_Put (List.take 34 t) x) = 1) then true
                        else !decide (lnx tTrigger (Prod.fst (g_Put (List.take 34 t) x)) = 0))
                        (TreeS.ret (K.val (Ty.pair Ty.bool Ty.unit) (false, PUnit.unit)))
                        (TreeS.req (List.length (List.take 34 t) ≤ 1000000)
                          (TreeS.ite (decide (Prod.fst (Prod.snd (Prod.snd (g_Find (List.take 34 t) id e))) < 0))
                            (TreeS.ret
                              (K.val (Ty.pair Ty.bool Ty.unit)
                                (bif decide (Prod.snd (g_Drop (List.take 34 t) id e) = 6) then
                                    decide (lnx tTrigger (Prod.fst (g_Drop (List.take 34 t) id e)) = 0)
                                  else false,
                                  PUnit.unit)))
                            (TreeS.req
                              (impl [(decide (Prod.snd (g_Drop (List.take 34 t) id e) = 0), true)]
                                (List.length (List.take 34 t) ≤ 1000000))
                              (TreeS.req (impl [(decide (Prod.snd (g_Drop (List.take 34 t) id e) = 0), true)] True)
                                (TreeS.ret
                                  (K.val (Ty.pair Ty.bool Ty.unit)
                                    (bif decide (Prod.snd (g_Drop (List.take 34 t) id e) = 0) then
                                        decide
                                          (Prod.fst (g_Drop (List.take 34 t) id e) = g_Without (List.take 34 t) id e)
                                      else false,
                                      PUnit.unit))))))))
                      (TreeS.req (List.length (List.take 34 t) ≤ 1000000)
                        (TreeS.req
                          (impl
                            [(decide (List.length (g_PutD (List.take 34 t) x) ≤ 32), true),
                              (!decide (Prod.snd (g_Put (List.take 34 t) x) = 0), false)]
                            True)
                          (TreeS.ite
                            (bif
                                bif decide (List.length (g_PutD (List.take 34 t) x) ≤ 32) then
                                  bif !decide (Prod.snd (g_Put (List.take 34 t) x) = 0) then true
                                  else !decide (Prod.fst (g_Put (List.take 34 t) x) = g_PutD (List.take 34 t) x)
                                else false then
                              true
                            else
                              bif !decide (List.length (g_PutD (List.take 34 t) x) ≤ 32) then
                                bif !decide (Prod.snd (g_Put (List.take 34 t) x) = 8) then true
                                else !decide (lnx tTrigger (Prod.fst (g_Put (List.take 34 t) x)) = 0)
                              else false)
                            (TreeS.ret (K.val (Ty.pair Ty.bool Ty.unit) (false, PUnit.unit)))
                            (TreeS.req (List.length (List.take 34 t) ≤ 1000000)
                              (TreeS.ite (decide (Prod.fst (Prod.snd (Prod.snd (g_Find (List.take 34 t) id e))) < 0))
                                (TreeS.ret
                                  (K.val (Ty.pair Ty.bool Ty.unit)
                                    (bif decide (Prod.snd (g_Drop (List.take 34 t) id e) = 6) then
                                        decide (lnx tTrigger (Prod.fst (g_Drop (List.take 34 t) id e)) = 0)
                                      else false,
                                      PUnit.unit)))
                                (TreeS.req
                                  (impl [(decide (Prod.snd (g_Drop (List.take 34 t) id e) = 0), true)]
                                    (List.length (List.take 34 t) ≤ 1000000))
                                  (TreeS.req (impl [(decide (Prod.snd (g_Drop (List.take 34 t) id e) = 0), true)] True)
                                    (TreeS.ret
                                      (K.val (Ty.pair Ty.bool Ty.unit)
                                        (bif decide (Prod.snd (g_Drop (List.take 34 t) id e) = 0) then
                                            decide
                                              (Prod.fst (g_Drop (List.take 34 t) id e) =
                                                g_Without (List.take 34 t) id e)
                                          else false,
                                          PUnit.unit))))))))))))))))))))
theorem T_l12_TablePuts_eq (t : den (Ty.slc tTrigger)) (x : den tTrigger) (id : den tId) (e : den tEntry) : treeS X_l12_TablePuts M_l12_TablePuts 5000 [] fx_l12_TablePuts (bodyOf f_l12_TablePuts) (Env.of
  (argEnv as_l12_TablePuts (t, x, id, e, ()) 0) []) = T_l12_TablePuts t x id e := by kernel_rfl

noncomputable abbrev fx_l12_TableMatches : Fx := { fn := f_l12_TableMatches, ann := { } }
noncomputable abbrev X_l12_TableMatches : TabX := { D := { T := tyTab, F := [(n_l12_few, S_l12_few), (n_table_Expire, S_table_Expire), (n_table_Match, S_table_Match), (n_table_Cut, S_table_Cut), (n_l12_alive, S_l12_alive), (n_r12_Right, S_r12_Right), (n_r12_Same, S_r12_Same), (n_r12_Expire, S_r12_Expire), (n_r12_On, S_r12_On), (n_r12_Match, S_r12_Match)], R := [], ovl := [] }, inl := [] }
noncomputable abbrev M_l12_TableMatches : RMode := .data rs_l12_TableMatches
theorem x_l12_TableMatches (h_l12_few : FnOk prog [] n_l12_few S_l12_few) (h_table_Expire : FnOk prog [] n_table_Expire S_table_Expire) (h_table_Match : FnOk prog [] n_table_Match S_table_Match) (h_table_Cut : FnOk prog [] n_table_Cut S_table_Cut) (h_l12_alive : FnOk prog [] n_l12_alive S_l12_alive) (h_r12_Right : FnOk prog [] n_r12_Right S_r12_Right) (h_r12_Same : FnOk prog [] n_r12_Same S_r12_Same) (h_r12_Expire : FnOk prog [] n_r12_Expire S_r12_Expire) (h_r12_On : FnOk prog [] n_r12_On S_r12_On) (h_r12_Match : FnOk prog [] n_r12_Match S_r12_Match) : XOk prog X_l12_TableMatches := xok (dok_add (dok_add (dok_add (dok_add (dok_add (dok_add (dok_add (dok_add (dok_add (dok_add (dok_nil tab_ok mixed_ok) h_r12_Match) h_r12_On) h_r12_Expire) h_r12_Same) h_r12_Right) h_l12_alive) h_table_Cut) h_table_Match) h_table_Expire) h_l12_few) (by kernel_rfl) rows_nil inl_nil ovl_nil
noncomputable def T_l12_TableMatches (t : den (Ty.slc tTrigger)) (now : den tInt) (id : den tId) (a : den tId) (b : den tId) : TreeS :=
  TreeS.req True
  (TreeS.req (List.length (List.take 34 t) ≤ 1000000)
    (TreeS.req (List.length (List.take 34 t) ≤ 1000000)
      (TreeS.req (List.length (List.take 34 t) ≤ 1000000)
        (TreeS.req True
          (TreeS.ite (!true) (TreeS.ret (K.val (Ty.pair Ty.bool Ty.unit) (false, PUnit.unit)))
            (TreeS.req (List.length (List.take 34 t) ≤ 1000000)
              (TreeS.ite (!g_Right (List.take 34 t))
                (TreeS.ret
                  (K.val (Ty.pair Ty.bool Ty.unit)
                    (bif
                          bif
                              bif decide (Prod.snd (g_TExpire (List.take 34 t) now) = 1) then
                                decide (Prod.snd (g_Match (List.take 34 t) id) = 1)
                              else false then
                            decide (Prod.snd (Prod.snd (g_Cut (List.take 34 t) a b)) = 1)
                          else false then
                        decide
                          (IntKind.wrap IntKind.i64
                              (IntKind.wrap IntKind.i64
                                  (IntKind.wrap IntKind.i64
                                      (lnx tTrigger (Prod.fst (g_TExpire (List.take 34 t) now)) +
                                        lnx tTrigger (Prod.fst (g_Match (List.take 34 t) id))) +
                                    lnx tTrigger (Prod.fst (g_Cut (List.take 34 t) a b))) +
                                lnx tTrigger (Prod.fst (Prod.snd (g_Cut (List.take 34 t) a b)))) =
                            0)
                      else false,
                      PUnit.unit)))
                (TreeS.req
                  (impl [(!decide (Prod.snd (g_TExpire (List.take 34 t) now) = 0), false)]
                    (List.length (List.take 34 t) ≤ 1000000))
                  (TreeS.req (impl [(!decide (Prod.snd (g_TExpire (List.take 34 t) now) = 0), false)] True)
                    (TreeS.req
                      (impl
                        [(bif
                                bif !decide (Prod.snd (g_TExpire (List.take 34 t) now) = 0) then true
                                else
                                  !decide
                                      (Prod.fst (g_TExpire (List.take 34 t) now) = g_Expire (List.take 34 t) now) then
                              true
                            else !decide (Prod.snd (Prod.snd (g_Cut (List.take 34 t) a b)) = 0),
                            false)]
                        (List.length (List.take 34 t) ≤ 1000000))
                      (TreeS.req
                        (impl
                          [(bif
                                  bif !decide (Prod.snd (g_TExpire (List.take 34 t) now) = 0) then true
                                  else
                                    !decide
                                        (Prod.fst (g_TExpire (List.take 34 t) now) = g_Expire (List.take 34 t) now) then
                                true
                              else !decide (Prod.snd (Prod.snd (g_Cut (List.take 34 t) a b)) = 0),
                              false)]
                          True)
                        (TreeS.req
                          (impl
                            [(bif
                                    bif
                                        bif !decide (Prod.snd (g_TExpire (List.take 34 t) now) = 0) then true
                                        else
                                          !decide
                                              (Prod.fst (g_TExpire (List.take 34 t) now) =
                                                g_Expire (List.take 34 t) now) then
                                      true
                                    else !decide (Prod.snd (Prod.snd (g_Cut (List.take 34 t) a b)) = 0) then
                                  true
                                else !decide (Prod.fst (g_Cut (List.take 34 t) a b) = g_On (List.take 34 t) a b true),
                                false)]
                            (List.length (List.take 34 t) ≤ 1000000))
                          (TreeS.req
                            (impl
                              [(bif
                                      bif
                                          bif !decide (Prod.snd (g_TExpire (List.take 34 t) now) = 0) then true
                                          else
                                            !decide
                                                (Prod.fst (g_TExpire (List.take 34 t) now) =
                                                  g_Expire (List.take 34 t) now) then
                                        true
                                      else !decide (Prod.snd (Prod.snd (g_Cut (List.take 34 t) a b)) = 0) then
                                    true
                                  else !decide (Prod.fst (g_Cut (List.take 34 t) a b) = g_On (List.take 34 t) a b true),
                                  false)]
                              True)
                            (TreeS.ite
                              (bif
                                  bif
                                      bif
                                          bif !decide (Prod.snd (g_TExpire (List.take 34 t) now) = 0) then true
                                          else
                                            !decide
                                                (Prod.fst (g_TExpire (List.take 34 t) now) =
                                                  g_Expire (List.take 34 t) now) then
                                        true
                                      else !decide (Prod.snd (Prod.snd (g_Cut (List.take 34 t) a b)) = 0) then
                                    true
                                  else
                                    !decide
                                        (Prod.fst (g_Cut (List.take 34 t) a b) = g_On (List.take 34 t) a b true) then
                                true
                              else
                                !decide
                                    (Prod.fst (Prod.snd (g_Cut (List.take 34 t) a b)) =
                                      g_On (List.take 34 t) a b false))
                              (TreeS.ret (K.val (Ty.pair Ty.bool Ty.unit) (false, PUnit.unit)))
                              (TreeS.req (List.length (List.take 34 t) ≤ 1000000)
                                (TreeS.ite (decide (lnx tTrigger (matchD (List.take 34 t) id 129) = 0))
                                  (TreeS.ret
                                    (K.val (Ty.pair Ty.bool Ty.unit)
                                      (bif decide (Prod.snd (g_Match (List.take 34 t) id) = 6) then
                                          decide (lnx tTrigger (Prod.fst (g_Match (List.take 34 t) id)) = 0)
                                        else false,
                                        PUnit.unit)))
                                  (TreeS.req (impl [(decide (Prod.snd (g_Match (List.take 34 t) id) = 0), true)] True)
                                    (TreeS.ret
                                      (K.val (Ty.pair Ty.bool Ty.unit)
                                        (bif decide (Prod.snd (g_Match (List.take 34 t) id) = 0) then
                                            decide
                                              (Prod.fst (g_Match (List.take 34 t) id) = matchD (List.take 34 t) id 129)
                                          else false,
                                          PUnit.unit))))))))))))))))))))
theorem T_l12_TableMatches_eq (t : den (Ty.slc tTrigger)) (now : den tInt) (id : den tId) (a : den tId) (b : den tId) : treeS X_l12_TableMatches M_l12_TableMatches 5000 [] fx_l12_TableMatches (bodyOf f_l12_TableMatches) (Env.of
  (argEnv as_l12_TableMatches (t, now, id, a, b, ()) 0) []) = T_l12_TableMatches t now id a b := by kernel_rfl

end Go.Proofs.Ytnccacngedeoeaa

/- Which triggers match: by the likest, and by definition. No program here. -/
namespace Go.Proofs.Ytnccacngedeoeaa
open Go Go.RowKit

theorem cmn_le (a b : List Int) : ∀ (k i : Nat), cmn a b k i ≤ i + k
  | 0, i => Nat.le_refl _
  | k + 1, i => by
    rw [cmn]; split
    · have := cmn_le a b k (i + 1); omega
    · omega

def bitsC (id : den tId) (x : den tTrigger) : Int := g_Common x.1 id
theorem bitsC_range (id : den tId) (x : den tTrigger) : 0 ≤ bitsC id x ∧ bitsC id x ≤ 256 := by
  have := cmn_le x.1 id 256 0
  show (0 : Int) ≤ ((cmn x.1 id 256 0 : Nat) : Int) ∧ ((cmn x.1 id 256 0 : Nat) : Int) ≤ 256
  omega

theorem likest_spec (id : den tId) : ∀ (t : List (den tTrigger)) (m : Int) (l : den tId), (likest id t m l = (m, l) ∧ ∀ x ∈ t, bitsC id x ≤ m) ∨
    ∃ h, t.find? (fun x => decide (bitsC id x = (likest id t m l).1)) = some h ∧ (likest id t m l).2 = h.1 ∧ m < (likest id t m l).1 ∧ ∀ x ∈ t, bitsC id x ≤ (likest id t m l).1
  | [], m, l => .inl ⟨rfl, fun _ h => by cases h⟩
  | x :: t, m, l => by
    by_cases hx : m < bitsC id x
    · have e : likest id (x :: t) m l = likest id t (bitsC id x) x.1 := by rw [likest]; exact if_pos hx
      rw [e]
      rcases likest_spec id t (bitsC id x) x.1 with ⟨h1, h2⟩ | ⟨h, h1, h2, h3, h4⟩
      · right
        rw [h1]
        refine ⟨x, by rw [List.find?_cons_of_pos (by simp)], rfl, hx, fun y hy => ?_⟩
        rcases List.mem_cons.1 hy with rfl | hy
        · exact Int.le_refl _
        · exact h2 y hy
      · right
        refine ⟨h, ?_, h2, by omega, fun y hy => ?_⟩
        · rw [List.find?_cons_of_neg (by simp; omega)]; exact h1
        · rcases List.mem_cons.1 hy with rfl | hy
          · omega
          · exact h4 y hy
    · have e : likest id (x :: t) m l = likest id t m l := by rw [likest]; exact if_neg hx
      rw [e]
      rcases likest_spec id t m l with ⟨h1, h2⟩ | ⟨h, h1, h2, h3, h4⟩
      · left
        refine ⟨h1, fun y hy => ?_⟩
        rcases List.mem_cons.1 hy with rfl | hy
        · omega
        · exact h2 y hy
      · right
        refine ⟨h, ?_, h2, h3, fun y hy => ?_⟩
        · rw [List.find?_cons_of_neg (by simp; omega)]; exact h1
        · rcases List.mem_cons.1 hy with rfl | hy
          · omega
          · exact h4 y hy

theorem matchN_some (id : den tId) (n : Int) (h : den tTrigger) (hh : bitsC id h = n) : ∀ (t b : List (den tTrigger)), matchN id n t (h :: b) = h :: b ++ t.filter (fun x => decide (x.1 = h.1))
  | [], b => by simp [matchN]
  | x :: t, b => by
    have hp : pickN id n (h :: b) x = decide (x.1 = h.1) := by
      have e1 : el tTrigger (h :: b) 0 = h := rfl
      rw [pickN, e1]
      by_cases e : x.1 = h.1
      · have : g_Common x.1 id = n := by rw [e]; exact hh
        rw [decide_eq_true this, e]; simp
      · have e' : ¬ h.1 = x.1 := fun h => e h.symm
        simp [e, e']
    rw [matchN, hp, List.filter_cons]
    split
    · rw [List.cons_append, matchN_some id n h hh t (b ++ [x])]; simp
    · exact matchN_some id n h hh t b

theorem matchN_none (id : den tId) (n : Int) : ∀ t : List (den tTrigger), matchN id n t [] = match t.find? (fun x => decide (bitsC id x = n)) with | none => [] | some h => t.filter (fun x => decide (x.1 = h.1))
  | [] => rfl
  | x :: t => by
    have hp : pickN id n [] x = decide (bitsC id x = n) := by
      rw [pickN]; simp only [List.length_nil, decide_true, Bool.true_or, Bool.and_true]; rfl
    rw [matchN, hp]
    by_cases hx : bitsC id x = n
    · rw [if_pos (by simp [hx]), List.find?_cons_of_pos (by simp [hx])]
      show matchN id n t [x] = (x :: t).filter (fun y => decide (y.1 = x.1))
      rw [matchN_some id n x hx t [], List.filter_cons, if_pos (by simp)]
      rfl
    · rw [if_neg (by simp [hx]), List.find?_cons_of_neg (by simp [hx]), matchN_none id n t]
      cases hf : t.find? (fun x => decide (bitsC id x = n)) with
      | none => rfl
      | some h =>
        have hh : bitsC id h = n := by simpa using List.find?_some hf
        show t.filter (fun y => decide (y.1 = h.1)) = (x :: t).filter (fun y => decide (y.1 = h.1))
        rw [List.filter_cons, if_neg]
        intro e
        have e : x.1 = h.1 := by simpa using e
        exact hx (by rw [← hh]; unfold bitsC; rw [e])

theorem matchD_none (t : List (den tTrigger)) (id : den tId) : ∀ k : Nat, (∀ x ∈ t, bitsC id x ≤ 127) → matchD t id k = []
  | 0, _ => rfl
  | k + 1, h => by
    have : matchN id (127 + (k + 1 : Nat)) t [] = [] := by
      rw [matchN_none, List.find?_eq_none.2 (fun x hx => by have := h x hx; simp; omega)]
    rw [matchD, this, if_neg (by simp)]
    exact matchD_none t id k h

theorem matchD_some (t : List (den tTrigger)) (id : den tId) (M : Int) (h : den tTrigger) (h0 : 127 < M) (h1 : ∀ x ∈ t, bitsC id x ≤ M) (h2 : t.find? (fun x => decide (bitsC id x = M)) = some h) :
    ∀ k : Nat, M ≤ 127 + (k : Nat) → matchD t id k = t.filter (fun x => decide (x.1 = h.1))
  | 0, hk => by omega
  | k + 1, hk => by
    by_cases e : M = 127 + ((k + 1 : Nat) : Int)
    · have hn : matchN id (127 + (k + 1 : Nat)) t [] = t.filter (fun x => decide (x.1 = h.1)) := by
        rw [matchN_none, ← e, h2]
      have hm : h ∈ t.filter (fun x => decide (x.1 = h.1)) := List.mem_filter.2 ⟨List.mem_of_find?_eq_some h2, by simp⟩
      rw [matchD, hn, if_pos (List.length_pos_of_mem hm)]
    · have : matchN id (127 + (k + 1 : Nat)) t [] = [] := by
        rw [matchN_none, List.find?_eq_none.2 (fun x hx => by have := h1 x hx; simp; omega)]
      rw [matchD, this, if_neg (by simp)]
      exact matchD_some t id M h h0 h1 h2 k (by omega)

/-- What matches a table that may be is what the document says. -/
theorem match_law (t : List (den tTrigger)) (id : den tId) (hr : g_Right t = true) : (matchD t id 129 = [] ∧ g_Match t id = ([], 6)) ∨ (matchD t id 129 ≠ [] ∧ g_Match t id = (matchD t id 129, 0)) := by
  unfold g_Match
  rw [if_pos hr]
  rcases likest_spec id t 127 (zero tId) with ⟨h1, h2⟩ | ⟨h, h1, h2, h3, h4⟩
  · left
    rw [h1]
    exact ⟨matchD_none t id 129 h2, if_pos (by decide)⟩
  · right
    have hm : h ∈ t.filter (fun x => decide (x.1 = h.1)) := List.mem_filter.2 ⟨List.mem_of_find?_eq_some h1, by simp⟩
    have hh : bitsC id h = (likest id t 127 (zero tId)).1 := by simpa using List.find?_some h1
    have hb := bitsC_range id h
    have e := matchD_some t id _ h h3 h4 h1 129 (by rw [← hh]; omega)
    refine ⟨fun h0 => ?_, ?_⟩
    · rw [e] at h0
      rw [h0] at hm
      cases hm
    · rw [if_neg (by omega), e, h2]

theorem on_true (t : List (den tTrigger)) (a b : den tId) : g_On t a b true = t.filter fun x => g_In x.1 a b := by
  unfold g_On
  congr 1
  funext x
  cases g_In x.1 a b <;> rfl
theorem on_false (t : List (den tTrigger)) (a b : den tId) : g_On t a b false = t.filter fun x => !g_In x.1 a b := by
  unfold g_On
  congr 1
  funext x
  cases g_In x.1 a b <;> rfl

end Go.Proofs.Ytnccacngedeoeaa

/- What is put is matched; which triggers of a table match, live, and are on a way. -/
namespace Go.Proofs.Ytnccacngedeoeaa
open Go Go.RowKit

theorem k_l12_alive : FnOk prog [] n_l12_alive S_l12_alive :=
  fnS_T (S := S_l12_alive) (x_l12_alive k_table_Put k_table_Match k_table_Right) (fx := fx_l12_alive) at_l12_alive (by kernel_rfl) (fun _ _ => trivial) (T := fun _ => T_l12_alive) (fun _ => T_l12_alive_eq) fun O w0 _ _ _ =>
    ⟨by decide, of_decide_eq_true (by kernel_rfl), fun _ => ⟨by decide, of_decide_eq_true (by kernel_rfl)⟩, fun _ => show List.length _ ≤ 1000000 from of_decide_eq_true (by kernel_rfl), _, rfl, show _ = (true, ()) from by kernel_rfl⟩

theorem lnx_zero {e : Ty} : lnx e [] = 0 := rfl

noncomputable abbrev S_l12_TableMatches : Spec := lawS as_l12_TableMatches
theorem k_l12_TableMatches : FnOk prog [] n_l12_TableMatches (lawS as_l12_TableMatches) :=
  fnS_T (S := lawS as_l12_TableMatches) (x_l12_TableMatches k_l12_few k_table_Expire k_table_Match k_table_Cut k_l12_alive k_r12_Right k_r12_Same k_r12_Expire k_r12_On k_r12_Match) (fx := fx_l12_TableMatches) at_l12_TableMatches (by kernel_rfl) (fun _ _ => trivial) (T := fun x => T_l12_TableMatches x.1 x.2.1 x.2.2.1 x.2.2.2.1 x.2.2.2.2.1) (fun x => T_l12_TableMatches_eq x.1 x.2.1 x.2.2.1 x.2.2.2.1 x.2.2.2.2.1) fun O w0 x hk _ => by
    obtain ⟨t0, now, id, a, b, ⟨⟩⟩ := x
    have hl : (t0.take 34).length ≤ 1000000 := by rw [List.length_take]; omega
    show TreeGoodS _ _ _ _ _ (T_l12_TableMatches t0 now id a b)
    unfold T_l12_TableMatches
    generalize hT : List.take 34 t0 = t
    have hl : t.length ≤ 1000000 := by rw [← hT]; exact hl
    refine ⟨trivial, hl, hl, hl, trivial, fun h => (by cases h), fun _ => ⟨hl, fun h => ⟨_, rfl, ?_⟩, fun h => ?_⟩⟩
    · have hr : g_Right t = false := by simpa using h
      have e1 : g_TExpire t now = ([], 1) := by unfold g_TExpire; rw [if_neg (by rw [hr]; simp)]
      have e2 : g_Match t id = ([], 1) := by unfold g_Match; rw [if_neg (by rw [hr]; simp)]
      have e3 : g_Cut t a b = ([], [], 1) := by unfold g_Cut; rw [if_neg (by rw [hr]; simp)]
      rw [e1, e2, e3]; rfl
    · have hr : g_Right t = true := by simpa using h
      have e1 : g_TExpire t now = (g_Expire t now, 0) := by unfold g_TExpire; rw [if_pos hr]
      have e3 : g_Cut t a b = (g_On t a b true, g_On t a b false, 0) := by unfold g_Cut; rw [if_pos hr, on_true, on_false]
      rw [e1, e3]
      refine ⟨fun _ => hl, fun _ => trivial, fun _ => hl, fun _ => trivial, fun _ => hl, fun _ => trivial, fun h => ?_, fun _ => ⟨hl, ?_⟩⟩
      · simp at h
      · rcases match_law t id hr with ⟨h1, h2⟩ | ⟨h1, h2⟩
        · rw [h1, h2]
          exact ⟨fun _ => ⟨_, rfl, rfl⟩, fun h => by cases h⟩
        · rw [h2]
          refine ⟨fun h => ?_, fun _ => ⟨fun _ => trivial, _, rfl, ?_⟩⟩
          · have h : ((matchD t id 129).length : Int) = 0 := of_decide_eq_true h
            exact absurd (List.eq_nil_of_length_eq_zero (by omega)) h1
          · show ((bif decide ((0 : Int) = 0) then decide (matchD t id 129 = matchD t id 129) else false), PUnit.unit) = (true, ())
            simp

end Go.Proofs.Ytnccacngedeoeaa

/- The trees of functions' bodies, as the evaluator prints them. -/
namespace Go.Proofs.Ytnccacngedeoeaa
open Go Go.RowKit

noncomputable abbrev fx_l12_TableKeeps : Fx := { fn := f_l12_TableKeeps, ann := { loops := [(13, { keep := [0, 3, 5, 11, 13, 15, 106, 107, 108] }), (20, { keep := [0, 3, 5, 11, 13, 15, 141, 142, 143] }), (26, { keep := [0, 3, 5, 11, 15, 160, 161, 162] })] }, share := true }
noncomputable abbrev X_l12_TableKeeps : TabX := { D := { T := tyTab, F := [(n_l12_few, S_l12_few), (n_table_Put, S_table_Put), (n_l12_alive, S_l12_alive), (n_table_Match, S_table_Match), (n_table_Drop, S_table_Drop), (n_table_Expire, S_table_Expire), (n_r12_Same, S_r12_Same), (n_table_Right, S_table_Right), (n_ident_Common, S_ident_Common)], R := [], ovl := [] }, inl := [] }
noncomputable abbrev M_l12_TableKeeps : RMode := .data rs_l12_TableKeeps
theorem x_l12_TableKeeps (h_l12_few : FnOk prog [] n_l12_few S_l12_few) (h_table_Put : FnOk prog [] n_table_Put S_table_Put) (h_l12_alive : FnOk prog [] n_l12_alive S_l12_alive) (h_table_Match : FnOk prog [] n_table_Match S_table_Match) (h_table_Drop : FnOk prog [] n_table_Drop S_table_Drop) (h_table_Expire : FnOk prog [] n_table_Expire S_table_Expire) (h_r12_Same : FnOk prog [] n_r12_Same S_r12_Same) (h_table_Right : FnOk prog [] n_table_Right S_table_Right) (h_ident_Common : FnOk prog [] n_ident_Common S_ident_Common) : XOk prog X_l12_TableKeeps := xok (dok_add (dok_add (dok_add (dok_add (dok_add (dok_add (dok_add (dok_add (dok_add (dok_nil tab_ok mixed_ok) h_ident_Common) h_table_Right) h_r12_Same) h_table_Expire) h_table_Drop) h_table_Match) h_l12_alive) h_table_Put) h_l12_few) (by kernel_rfl) rows_nil inl_nil ovl_nil
noncomputable def T_l12_TableKeeps (t : den (Ty.slc tTrigger)) (x : den tTrigger) : TreeS :=
  TreeS.req True
  (TreeS.all (den (Ty.slc tTrigger)) (fun (q2 : den (Ty.slc tTrigger)) ↦ q2 = List.take 34 t)
    fun (q2 : den (Ty.slc tTrigger)) ↦
    TreeS.req (List.length q2 ≤ 1000000)
      (TreeS.all (den (Ty.pair (Ty.slc tTrigger) (Ty.pair tInt Ty.unit)))
        (fun (q3 : den (Ty.pair (Ty.slc tTrigger) (Ty.pair tInt Ty.unit))) ↦
          q3 = (Prod.fst (g_Put q2 x), Prod.snd (g_Put q2 x), PUnit.unit))
        fun (q3 : den (Ty.pair (Ty.slc tTrigger) (Ty.pair tInt Ty.unit))) ↦
        TreeS.ite (!decide (Prod.fst (Prod.snd q3) = 0))
          (TreeS.req True
            (TreeS.all (den Ty.bool) (fun (q4 : den Ty.bool) ↦ q4 = true) fun (q4 : den Ty.bool) ↦
              TreeS.ret
                (K.val (Ty.pair Ty.bool Ty.unit)
                  (bif q4 then decide (lnx tTrigger (Prod.fst q3) = 0) else false, PUnit.unit))))
          (TreeS.req (List.length (Prod.fst q3) ≤ 1000000)
            (TreeS.all (den (Ty.pair (Ty.slc tTrigger) (Ty.pair tInt Ty.unit)))
              (fun (q4 : den (Ty.pair (Ty.slc tTrigger) (Ty.pair tInt Ty.unit))) ↦
                q4 = (Prod.fst (g_Put (Prod.fst q3) x), Prod.snd (g_Put (Prod.fst q3) x), PUnit.unit))
              fun (q4 : den (Ty.pair (Ty.slc tTrigger) (Ty.pair tInt Ty.unit))) ↦
              TreeS.req (List.length (Prod.fst q3) ≤ 1000000)
                (TreeS.all (den (Ty.pair (Ty.slc tTrigger) (Ty.pair tInt Ty.unit)))
                  (fun (q5 : den (Ty.pair (Ty.slc tTrigger) (Ty.pair tInt Ty.unit))) ↦
                    q5 =
                      (Prod.fst (g_Match (Prod.fst q3) (Prod.fst x)), Prod.snd (g_Match (Prod.fst q3) (Prod.fst x)),
                        PUnit.unit))
                  fun (q5 : den (Ty.pair (Ty.slc tTrigger) (Ty.pair tInt Ty.unit))) ↦
                  TreeS.req (List.length (Prod.fst q3) ≤ 1000000)
                    (TreeS.all (den (Ty.pair (Ty.slc tTrigger) (Ty.pair tInt Ty.unit)))
                      (fun (q6 : den (Ty.pair (Ty.slc tTrigger) (Ty.pair tInt Ty.unit))) ↦
                        q6 =
                          (Prod.fst (g_Drop (Prod.fst q3) (Prod.fst x) (Prod.fst (Prod.snd x))),
                            Prod.snd (g_Drop (Prod.fst q3) (Prod.fst x) (Prod.fst (Prod.snd x))), PUnit.unit))
                      fun (q6 : den (Ty.pair (Ty.slc tTrigger) (Ty.pair tInt Ty.unit))) ↦
                      TreeS.req (List.length (Prod.fst q3) ≤ 1000000)
                        (TreeS.all (den (Ty.pair (Ty.slc tTrigger) (Ty.pair tInt Ty.unit)))
                          (fun (q7 : den (Ty.pair (Ty.slc tTrigger) (Ty.pair tInt Ty.unit))) ↦
                            q7 =
                              (Prod.fst (g_TExpire (Prod.fst q3) (Prod.fst (Prod.snd (Prod.snd x)))),
                                Prod.snd (g_TExpire (Prod.fst q3) (Prod.fst (Prod.snd (Prod.snd x)))), PUnit.unit))
                          fun (q7 : den (Ty.pair (Ty.slc tTrigger) (Ty.pair tInt Ty.unit))) ↦
                          TreeS.req
                            (impl
                              [(bif
                                      bif
                                          bif !decide (Prod.fst (Prod.snd q4) = 0) then true
                                          else !decide (Prod.fst (Prod.snd q5) = 0) then
                                        true
                                      else !decide (Prod.fst (Prod.snd q6) = 0) then
                                    true
                                  else !decide (Prod.fst (Prod.snd q7) = 0),
                                  false)]
                              True)
                            (TreeS.req
                              (impl
                                [(bif
                                        bif
                                            bif
                                                bif !decide (Prod.fst (Prod.snd q4) = 0) then true
                                                else !decide (Prod.fst (Prod.snd q5) = 0) then
                                              true
                                            else !decide (Prod.fst (Prod.snd q6) = 0) then
                                          true
                                        else !decide (Prod.fst (Prod.snd q7) = 0) then
                                      true
                                    else !decide (Prod.fst q3 = Prod.fst q4),
                                    false)]
                                (List.length (Prod.fst q3) ≤ 1000000))
                              (TreeS.req
                                (impl
                                  [(bif
                                          bif
                                              bif
                                                  bif
                                                      bif !decide (Prod.fst (Prod.snd q4) = 0) then true
                                                      else !decide (Prod.fst (Prod.snd q5) = 0) then
                                                    true
                                                  else !decide (Prod.fst (Prod.snd q6) = 0) then
                                                true
                                              else !decide (Prod.fst (Prod.snd q7) = 0) then
                                            true
                                          else !decide (Prod.fst q3 = Prod.fst q4) then
                                        true
                                      else !g_Right (Prod.fst q3),
                                      false)]
                                  (List.length (Prod.fst q6) ≤ 1000000))
                                (TreeS.req
                                  (impl
                                    [(bif
                                            bif
                                                bif
                                                    bif
                                                        bif
                                                            bif !decide (Prod.fst (Prod.snd q4) = 0) then true
                                                            else !decide (Prod.fst (Prod.snd q5) = 0) then
                                                          true
                                                        else !decide (Prod.fst (Prod.snd q6) = 0) then
                                                      true
                                                    else !decide (Prod.fst (Prod.snd q7) = 0) then
                                                  true
                                                else !decide (Prod.fst q3 = Prod.fst q4) then
                                              true
                                            else !g_Right (Prod.fst q3) then
                                          true
                                        else !g_Right (Prod.fst q6),
                                        false)]
                                    (List.length (Prod.fst q7) ≤ 1000000))
                                  (TreeS.req
                                    (impl
                                      [(bif
                                              bif
                                                  bif
                                                      bif
                                                          bif
                                                              bif
                                                                  bif !decide (Prod.fst (Prod.snd q4) = 0) then true
                                                                  else !decide (Prod.fst (Prod.snd q5) = 0) then
                                                                true
                                                              else !decide (Prod.fst (Prod.snd q6) = 0) then
                                                            true
                                                          else !decide (Prod.fst (Prod.snd q7) = 0) then
                                                        true
                                                      else !decide (Prod.fst q3 = Prod.fst q4) then
                                                    true
                                                  else !g_Right (Prod.fst q3) then
                                                true
                                              else !g_Right (Prod.fst q6) then
                                            true
                                          else !g_Right (Prod.fst q7),
                                          false)]
                                      True)
                                    (TreeS.ite
                                      (bif
                                          bif
                                              bif
                                                  bif
                                                      bif
                                                          bif
                                                              bif
                                                                  bif !decide (Prod.fst (Prod.snd q4) = 0) then true
                                                                  else !decide (Prod.fst (Prod.snd q5) = 0) then
                                                                true
                                                              else !decide (Prod.fst (Prod.snd q6) = 0) then
                                                            true
                                                          else !decide (Prod.fst (Prod.snd q7) = 0) then
                                                        true
                                                      else !decide (Prod.fst q3 = Prod.fst q4) then
                                                    true
                                                  else !g_Right (Prod.fst q3) then
                                                true
                                              else !g_Right (Prod.fst q6) then
                                            true
                                          else !g_Right (Prod.fst q7) then
                                        true
                                      else !true)
                                      (TreeS.ret (K.val (Ty.pair Ty.bool Ty.unit) (false, PUnit.unit)))
                                      (TreeS.loop [] fx_l12_TableKeeps (lp f_l12_TableKeeps 13)
                                        [(0, K.val (Ty.slc tTrigger) q2), (3, K.ptr 0 tTrigger []),
                                          (5, K.val (Ty.slc tTrigger) (Prod.fst q3)),
                                          (11, K.val (Ty.slc tTrigger) (Prod.fst q6)),
                                          (13, K.val (Ty.slc tTrigger) (Prod.fst q7)), (15, K.val Ty.bool false),
                                          (106, K.val (Ty.slc tTrigger) (Prod.fst q5)),
                                          (107, K.val tInt (lnx tTrigger (Prod.fst q5))), (108, K.val tInt 0)]
                                        [(0, Bx.cell tTrigger x)])))))))))))))
theorem T_l12_TableKeeps_eq (t : den (Ty.slc tTrigger)) (x : den tTrigger) : treeS X_l12_TableKeeps M_l12_TableKeeps 5000 [] fx_l12_TableKeeps (bodyOf f_l12_TableKeeps) (Env.of
  (argEnv as_l12_TableKeeps (t, x, ()) 0) []) = T_l12_TableKeeps t x := by kernel_rfl

noncomputable def E_l12_TableKeeps_13 (v0 : den (Ty.slc tTrigger)) (v5 : den (Ty.slc tTrigger)) (v11 : den (Ty.slc tTrigger)) (v13 : den (Ty.slc tTrigger)) (v15 : den Ty.bool) (v106 : den (Ty.slc tTrigger)) (v107 : den tInt) (v108 : den tInt) (b0 : den tTrigger) : Env := Env.of
  [(0, K.val (Ty.slc tTrigger) v0), (3, K.ptr 0 tTrigger []), (5, K.val (Ty.slc tTrigger) v5),
    (11, K.val (Ty.slc tTrigger) v11), (13, K.val (Ty.slc tTrigger) v13), (15, K.val Ty.bool v15),
    (106, K.val (Ty.slc tTrigger) v106), (107, K.val tInt v107), (108, K.val tInt v108)]
  [(0, Bx.cell tTrigger b0)]
noncomputable def TL_l12_TableKeeps_13 (v0 : den (Ty.slc tTrigger)) (v5 : den (Ty.slc tTrigger)) (v11 : den (Ty.slc tTrigger)) (v13 : den (Ty.slc tTrigger)) (v15 : den Ty.bool) (v106 : den (Ty.slc tTrigger)) (v107 : den tInt) (v108 : den tInt) (b0 : den tTrigger) : TreeS :=
  TreeS.ite (decide (v108 < v107))
  (TreeS.req (inB v108 (lnx tTrigger v106))
    (TreeS.req (impl [(!eqb tId (Prod.fst (el tTrigger v106 v108)) (Prod.fst b0), false)] True)
      (TreeS.ite
        (bif !eqb tId (Prod.fst (el tTrigger v106 v108)) (Prod.fst b0) then true
        else !decide (g_Common (Prod.fst (el tTrigger v106 v108)) (Prod.fst b0) = 256))
        (TreeS.ret (K.val (Ty.pair Ty.bool Ty.unit) (false, PUnit.unit)))
        (TreeS.loop [] fx_l12_TableKeeps (lp f_l12_TableKeeps 13)
          [(0, K.val (Ty.slc tTrigger) v0), (3, K.ptr 0 tTrigger []), (5, K.val (Ty.slc tTrigger) v5),
            (11, K.val (Ty.slc tTrigger) v11), (13, K.val (Ty.slc tTrigger) v13),
            (15,
              K.val Ty.bool
                (bif v15 then true
                else
                  bif eqb tEntry (Prod.fst (Prod.snd (el tTrigger v106 v108))) (Prod.fst (Prod.snd b0)) then
                    decide (Prod.fst (Prod.snd (Prod.snd b0)) ≤ Prod.fst (Prod.snd (Prod.snd (el tTrigger v106 v108))))
                  else false)),
            (106, K.val (Ty.slc tTrigger) v106), (107, K.val tInt v107),
            (108, K.val tInt (IntKind.wrap IntKind.i64 (v108 + 1)))]
          [(0, Bx.cell tTrigger b0)]))))
  (TreeS.loop [] fx_l12_TableKeeps (lp f_l12_TableKeeps 20)
    [(0, K.val (Ty.slc tTrigger) v0), (3, K.ptr 0 tTrigger []), (5, K.val (Ty.slc tTrigger) v5),
      (11, K.val (Ty.slc tTrigger) v11), (13, K.val (Ty.slc tTrigger) v13), (15, K.val Ty.bool v15),
      (141, K.val (Ty.slc tTrigger) v11), (142, K.val tInt (lnx tTrigger v11)), (143, K.val tInt 0)]
    [(0, Bx.cell tTrigger b0)])
theorem TL_l12_TableKeeps_13_eq (v0 : den (Ty.slc tTrigger)) (v5 : den (Ty.slc tTrigger)) (v11 : den (Ty.slc tTrigger)) (v13 : den (Ty.slc tTrigger)) (v15 : den Ty.bool) (v106 : den (Ty.slc tTrigger)) (v107 : den tInt) (v108 : den tInt) (b0 : den tTrigger) : treeS X_l12_TableKeeps M_l12_TableKeeps 5000 [] fx_l12_TableKeeps (lp f_l12_TableKeeps 13) (E_l12_TableKeeps_13 v0 v5 v11 v13 v15 v106 v107 v108 b0) = TL_l12_TableKeeps_13 v0 v5 v11 v13 v15 v106 v107 v108 b0 := by kernel_rfl

noncomputable def E_l12_TableKeeps_20 (v0 : den (Ty.slc tTrigger)) (v5 : den (Ty.slc tTrigger)) (v11 : den (Ty.slc tTrigger)) (v13 : den (Ty.slc tTrigger)) (v15 : den Ty.bool) (v141 : den (Ty.slc tTrigger)) (v142 : den tInt) (v143 : den tInt) (b0 : den tTrigger) : Env := Env.of
  [(0, K.val (Ty.slc tTrigger) v0), (3, K.ptr 0 tTrigger []), (5, K.val (Ty.slc tTrigger) v5),
    (11, K.val (Ty.slc tTrigger) v11), (13, K.val (Ty.slc tTrigger) v13), (15, K.val Ty.bool v15),
    (141, K.val (Ty.slc tTrigger) v141), (142, K.val tInt v142), (143, K.val tInt v143)]
  [(0, Bx.cell tTrigger b0)]
noncomputable def TL_l12_TableKeeps_20 (v0 : den (Ty.slc tTrigger)) (v5 : den (Ty.slc tTrigger)) (v11 : den (Ty.slc tTrigger)) (v13 : den (Ty.slc tTrigger)) (v15 : den Ty.bool) (v141 : den (Ty.slc tTrigger)) (v142 : den tInt) (v143 : den tInt) (b0 : den tTrigger) : TreeS :=
  TreeS.ite (decide (v143 < v142))
  (TreeS.req (inB v143 (lnx tTrigger v141))
    (TreeS.ite
      (bif eqb tId (Prod.fst (el tTrigger v141 v143)) (Prod.fst b0) then
        eqb tEntry (Prod.fst (Prod.snd (el tTrigger v141 v143))) (Prod.fst (Prod.snd b0))
      else false)
      (TreeS.ret (K.val (Ty.pair Ty.bool Ty.unit) (false, PUnit.unit)))
      (TreeS.loop [] fx_l12_TableKeeps (lp f_l12_TableKeeps 20)
        [(0, K.val (Ty.slc tTrigger) v0), (3, K.ptr 0 tTrigger []), (5, K.val (Ty.slc tTrigger) v5),
          (11, K.val (Ty.slc tTrigger) v11), (13, K.val (Ty.slc tTrigger) v13), (15, K.val Ty.bool v15),
          (141, K.val (Ty.slc tTrigger) v141), (142, K.val tInt v142),
          (143, K.val tInt (IntKind.wrap IntKind.i64 (v143 + 1)))]
        [(0, Bx.cell tTrigger b0)])))
  (TreeS.loop [] fx_l12_TableKeeps (lp f_l12_TableKeeps 26)
    [(0, K.val (Ty.slc tTrigger) v0), (3, K.ptr 0 tTrigger []), (5, K.val (Ty.slc tTrigger) v5),
      (11, K.val (Ty.slc tTrigger) v11), (15, K.val Ty.bool v15), (160, K.val (Ty.slc tTrigger) v13),
      (161, K.val tInt (lnx tTrigger v13)), (162, K.val tInt 0)]
    [(0, Bx.cell tTrigger b0)])
theorem TL_l12_TableKeeps_20_eq (v0 : den (Ty.slc tTrigger)) (v5 : den (Ty.slc tTrigger)) (v11 : den (Ty.slc tTrigger)) (v13 : den (Ty.slc tTrigger)) (v15 : den Ty.bool) (v141 : den (Ty.slc tTrigger)) (v142 : den tInt) (v143 : den tInt) (b0 : den tTrigger) : treeS X_l12_TableKeeps M_l12_TableKeeps 5000 [] fx_l12_TableKeeps (lp f_l12_TableKeeps 20) (E_l12_TableKeeps_20 v0 v5 v11 v13 v15 v141 v142 v143 b0) = TL_l12_TableKeeps_20 v0 v5 v11 v13 v15 v141 v142 v143 b0 := by kernel_rfl

noncomputable def E_l12_TableKeeps_26 (v0 : den (Ty.slc tTrigger)) (v5 : den (Ty.slc tTrigger)) (v11 : den (Ty.slc tTrigger)) (v15 : den Ty.bool) (v160 : den (Ty.slc tTrigger)) (v161 : den tInt) (v162 : den tInt) (b0 : den tTrigger) : Env := Env.of
  [(0, K.val (Ty.slc tTrigger) v0), (3, K.ptr 0 tTrigger []), (5, K.val (Ty.slc tTrigger) v5),
    (11, K.val (Ty.slc tTrigger) v11), (15, K.val Ty.bool v15), (160, K.val (Ty.slc tTrigger) v160),
    (161, K.val tInt v161), (162, K.val tInt v162)]
  [(0, Bx.cell tTrigger b0)]
noncomputable def TL_l12_TableKeeps_26 (v0 : den (Ty.slc tTrigger)) (v5 : den (Ty.slc tTrigger)) (v11 : den (Ty.slc tTrigger)) (v15 : den Ty.bool) (v160 : den (Ty.slc tTrigger)) (v161 : den tInt) (v162 : den tInt) (b0 : den tTrigger) : TreeS :=
  TreeS.ite (decide (v162 < v161))
  (TreeS.req (inB v162 (lnx tTrigger v160))
    (TreeS.ite (decide (Prod.fst (Prod.snd (Prod.snd (el tTrigger v160 v162))) ≤ Prod.fst (Prod.snd (Prod.snd b0))))
      (TreeS.ret (K.val (Ty.pair Ty.bool Ty.unit) (false, PUnit.unit)))
      (TreeS.loop [] fx_l12_TableKeeps (lp f_l12_TableKeeps 26)
        [(0, K.val (Ty.slc tTrigger) v0), (3, K.ptr 0 tTrigger []), (5, K.val (Ty.slc tTrigger) v5),
          (11, K.val (Ty.slc tTrigger) v11), (15, K.val Ty.bool v15), (160, K.val (Ty.slc tTrigger) v160),
          (161, K.val tInt v161), (162, K.val tInt (IntKind.wrap IntKind.i64 (v162 + 1)))]
        [(0, Bx.cell tTrigger b0)])))
  (TreeS.ret
    (K.val (Ty.pair Ty.bool Ty.unit)
      (bif bif v15 then decide (lnx tTrigger v11 = IntKind.wrap IntKind.i64 (lnx tTrigger v5 - 1)) else false then
          decide (lnx tTrigger v5 ≤ IntKind.wrap IntKind.i64 (lnx tTrigger v0 + 1))
        else false,
        PUnit.unit)))
theorem TL_l12_TableKeeps_26_eq (v0 : den (Ty.slc tTrigger)) (v5 : den (Ty.slc tTrigger)) (v11 : den (Ty.slc tTrigger)) (v15 : den Ty.bool) (v160 : den (Ty.slc tTrigger)) (v161 : den tInt) (v162 : den tInt) (b0 : den tTrigger) : treeS X_l12_TableKeeps M_l12_TableKeeps 5000 [] fx_l12_TableKeeps (lp f_l12_TableKeeps 26) (E_l12_TableKeeps_26 v0 v5 v11 v15 v160 v161 v162 b0) = TL_l12_TableKeeps_26 v0 v5 v11 v15 v160 v161 v162 b0 := by kernel_rfl

noncomputable abbrev fx_l12_TableCuts : Fx := { fn := f_l12_TableCuts, ann := { loops := [(7, { keep := [0, 4, 5, 7, 8, 10, 39, 40, 41] })] }, share := true }
noncomputable abbrev X_l12_TableCuts : TabX := { D := { T := tyTab, F := [(n_l12_few, S_l12_few), (n_table_Cut, S_table_Cut), (n_l12_alive, S_l12_alive), (n_table_Put, S_table_Put), (n_ident_In, S_ident_In), (n_r12_Same, S_r12_Same)], R := [], ovl := [] }, inl := [] }
noncomputable abbrev M_l12_TableCuts : RMode := .data rs_l12_TableCuts
theorem x_l12_TableCuts (h_l12_few : FnOk prog [] n_l12_few S_l12_few) (h_table_Cut : FnOk prog [] n_table_Cut S_table_Cut) (h_l12_alive : FnOk prog [] n_l12_alive S_l12_alive) (h_table_Put : FnOk prog [] n_table_Put S_table_Put) (h_ident_In : FnOk prog [] n_ident_In S_ident_In) (h_r12_Same : FnOk prog [] n_r12_Same S_r12_Same) : XOk prog X_l12_TableCuts := xok (dok_add (dok_add (dok_add (dok_add (dok_add (dok_add (dok_nil tab_ok mixed_ok) h_r12_Same) h_ident_In) h_table_Put) h_l12_alive) h_table_Cut) h_l12_few) (by kernel_rfl) rows_nil inl_nil ovl_nil
noncomputable def T_l12_TableCuts (t : den (Ty.slc tTrigger)) (a : den tId) (b : den tId) : TreeS :=
  TreeS.req True
  (TreeS.all (den (Ty.slc tTrigger)) (fun (q3 : den (Ty.slc tTrigger)) ↦ q3 = List.take 34 t)
    fun (q3 : den (Ty.slc tTrigger)) ↦
    TreeS.req (List.length q3 ≤ 1000000)
      (TreeS.all (den (Ty.pair (Ty.slc tTrigger) (Ty.pair (Ty.slc tTrigger) (Ty.pair tInt Ty.unit))))
        (fun (q4 : den (Ty.pair (Ty.slc tTrigger) (Ty.pair (Ty.slc tTrigger) (Ty.pair tInt Ty.unit)))) ↦
          q4 =
            (Prod.fst (g_Cut q3 a b), Prod.fst (Prod.snd (g_Cut q3 a b)), Prod.snd (Prod.snd (g_Cut q3 a b)),
              PUnit.unit))
        fun (q4 : den (Ty.pair (Ty.slc tTrigger) (Ty.pair (Ty.slc tTrigger) (Ty.pair tInt Ty.unit)))) ↦
        TreeS.ite (!decide (Prod.fst (Prod.snd (Prod.snd q4)) = 0))
          (TreeS.req True
            (TreeS.all (den Ty.bool) (fun (q5 : den Ty.bool) ↦ q5 = true) fun (q5 : den Ty.bool) ↦
              TreeS.ret
                (K.val (Ty.pair Ty.bool Ty.unit)
                  (bif q5 then decide (Prod.fst (Prod.snd (Prod.snd q4)) = 1) else false, PUnit.unit))))
          (TreeS.loop [] fx_l12_TableCuts (lp f_l12_TableCuts 7)
            [(0, K.val (Ty.slc tTrigger) q3), (4, K.ptr 0 tId []), (5, K.ptr (0 + 1) tId []),
              (7, K.val (Ty.slc tTrigger) (Prod.fst q4)), (8, K.val (Ty.slc tTrigger) (Prod.fst (Prod.snd q4))),
              (10, K.val (Ty.slc tTrigger) (Prod.fst (Prod.snd q4))), (39, K.val (Ty.slc tTrigger) (Prod.fst q4)),
              (40, K.val tInt (lnx tTrigger (Prod.fst q4))), (41, K.val tInt 0)]
            [(0, Bx.cell tId a), (0 + 1, Bx.cell tId b)])))
theorem T_l12_TableCuts_eq (t : den (Ty.slc tTrigger)) (a : den tId) (b : den tId) : treeS X_l12_TableCuts M_l12_TableCuts 5000 [] fx_l12_TableCuts (bodyOf f_l12_TableCuts) (Env.of
  (argEnv as_l12_TableCuts (t, a, b, ()) 0) []) = T_l12_TableCuts t a b := by kernel_rfl

noncomputable def E_l12_TableCuts_7 (v0 : den (Ty.slc tTrigger)) (v7 : den (Ty.slc tTrigger)) (v8 : den (Ty.slc tTrigger)) (v10 : den (Ty.slc tTrigger)) (v39 : den (Ty.slc tTrigger)) (v40 : den tInt) (v41 : den tInt) (b0 : den tId) (b1 : den tId) : Env := Env.of
  [(0, K.val (Ty.slc tTrigger) v0), (4, K.ptr 0 tId []), (5, K.ptr (0 + 1) tId []), (7, K.val (Ty.slc tTrigger) v7),
    (8, K.val (Ty.slc tTrigger) v8), (10, K.val (Ty.slc tTrigger) v10), (39, K.val (Ty.slc tTrigger) v39),
    (40, K.val tInt v40), (41, K.val tInt v41)]
  [(0, Bx.cell tId b0), (1, Bx.cell tId b1)]
noncomputable def TL_l12_TableCuts_7 (v0 : den (Ty.slc tTrigger)) (v7 : den (Ty.slc tTrigger)) (v8 : den (Ty.slc tTrigger)) (v10 : den (Ty.slc tTrigger)) (v39 : den (Ty.slc tTrigger)) (v40 : den tInt) (v41 : den tInt) (b0 : den tId) (b1 : den tId) : TreeS :=
  TreeS.ite (decide (v41 < v40))
  (TreeS.req (inB v41 (lnx tTrigger v39))
    (TreeS.req (List.length v10 ≤ 1000000)
      (TreeS.all (den (Ty.pair (Ty.slc tTrigger) (Ty.pair tInt Ty.unit)))
        (fun (q9 : den (Ty.pair (Ty.slc tTrigger) (Ty.pair tInt Ty.unit))) ↦
          q9 = (Prod.fst (g_Put v10 (el tTrigger v39 v41)), Prod.snd (g_Put v10 (el tTrigger v39 v41)), PUnit.unit))
        fun (q9 : den (Ty.pair (Ty.slc tTrigger) (Ty.pair tInt Ty.unit))) ↦
        TreeS.req (impl [(!decide (Prod.fst (Prod.snd q9) = 0), false)] True)
          (TreeS.ite
            (bif !decide (Prod.fst (Prod.snd q9) = 0) then true else !g_In (Prod.fst (el tTrigger v39 v41)) b0 b1)
            (TreeS.ret (K.val (Ty.pair Ty.bool Ty.unit) (false, PUnit.unit)))
            (TreeS.loop [] fx_l12_TableCuts (lp f_l12_TableCuts 7)
              [(0, K.val (Ty.slc tTrigger) v0), (4, K.ptr 0 tId []), (5, K.ptr (0 + 1) tId []),
                (7, K.val (Ty.slc tTrigger) v7), (8, K.val (Ty.slc tTrigger) v8),
                (10, K.val (Ty.slc tTrigger) (Prod.fst q9)), (39, K.val (Ty.slc tTrigger) v39), (40, K.val tInt v40),
                (41, K.val tInt (IntKind.wrap IntKind.i64 (v41 + 1)))]
              [(0, Bx.cell tId b0), (0 + 1, Bx.cell tId b1)])))))
  (TreeS.req (List.length v0 ≤ 1000000)
    (TreeS.all (den (Ty.pair (Ty.slc tTrigger) (Ty.pair (Ty.slc tTrigger) (Ty.pair tInt Ty.unit))))
      (fun (q9 : den (Ty.pair (Ty.slc tTrigger) (Ty.pair (Ty.slc tTrigger) (Ty.pair tInt Ty.unit)))) ↦
        q9 =
          (Prod.fst (g_Cut v0 b1 b0), Prod.fst (Prod.snd (g_Cut v0 b1 b0)), Prod.snd (Prod.snd (g_Cut v0 b1 b0)),
            PUnit.unit))
      fun (q9 : den (Ty.pair (Ty.slc tTrigger) (Ty.pair (Ty.slc tTrigger) (Ty.pair tInt Ty.unit)))) ↦
      TreeS.req (List.length v0 ≤ 1000000)
        (TreeS.all (den (Ty.pair (Ty.slc tTrigger) (Ty.pair (Ty.slc tTrigger) (Ty.pair tInt Ty.unit))))
          (fun (q10 : den (Ty.pair (Ty.slc tTrigger) (Ty.pair (Ty.slc tTrigger) (Ty.pair tInt Ty.unit)))) ↦
            q10 =
              (Prod.fst (g_Cut v0 b0 b0), Prod.fst (Prod.snd (g_Cut v0 b0 b0)), Prod.snd (Prod.snd (g_Cut v0 b0 b0)),
                PUnit.unit))
          fun (q10 : den (Ty.pair (Ty.slc tTrigger) (Ty.pair (Ty.slc tTrigger) (Ty.pair tInt Ty.unit)))) ↦
          TreeS.req
            (impl
              [(bif !decide (Prod.fst (Prod.snd (Prod.snd q9)) = 0) then true
                  else !decide (Prod.fst (Prod.snd (Prod.snd q10)) = 0),
                  false)]
              True)
            (TreeS.req
              (impl
                [(bif
                        bif
                            bif !decide (Prod.fst (Prod.snd (Prod.snd q9)) = 0) then true
                            else !decide (Prod.fst (Prod.snd (Prod.snd q10)) = 0) then
                          true
                        else !decide (Prod.fst q10 = v0) then
                      true
                    else !decide (lnx tTrigger (Prod.fst (Prod.snd q10)) = 0),
                    false)]
                True)
              (TreeS.ite
                (bif
                    bif
                        bif
                            bif !decide (Prod.fst (Prod.snd (Prod.snd q9)) = 0) then true
                            else !decide (Prod.fst (Prod.snd (Prod.snd q10)) = 0) then
                          true
                        else !decide (Prod.fst q10 = v0) then
                      true
                    else !decide (lnx tTrigger (Prod.fst (Prod.snd q10)) = 0) then
                  true
                else !true)
                (TreeS.ret (K.val (Ty.pair Ty.bool Ty.unit) (false, PUnit.unit)))
                (TreeS.req True
                  (TreeS.all (den Ty.bool) (fun (q11 : den Ty.bool) ↦ q11 = decide (v10 = v0)) fun (q11 : den Ty.bool) ↦
                    TreeS.req (impl [(q11, true), (eqb tId b0 b1, false)] True)
                      (TreeS.req (impl [(q11, true), (eqb tId b0 b1, false), (decide (Prod.fst q9 = v8), true)] True)
                        (TreeS.ret
                          (K.val (Ty.pair Ty.bool Ty.unit)
                            (bif q11 then
                                bif eqb tId b0 b1 then true
                                else bif decide (Prod.fst q9 = v8) then decide (Prod.fst (Prod.snd q9) = v7) else false
                              else false,
                              PUnit.unit)))))))))))
theorem TL_l12_TableCuts_7_eq (v0 : den (Ty.slc tTrigger)) (v7 : den (Ty.slc tTrigger)) (v8 : den (Ty.slc tTrigger)) (v10 : den (Ty.slc tTrigger)) (v39 : den (Ty.slc tTrigger)) (v40 : den tInt) (v41 : den tInt) (b0 : den tId) (b1 : den tId) : treeS X_l12_TableCuts M_l12_TableCuts 5000 [] fx_l12_TableCuts (lp f_l12_TableCuts 7) (E_l12_TableCuts_7 v0 v7 v8 v10 v39 v40 v41 b0 b1) = TL_l12_TableCuts_7 v0 v7 v8 v10 v39 v40 v41 b0 b1 := by kernel_rfl

noncomputable abbrev fx_l12_TableOrders : Fx := { fn := f_l12_TableOrders, ann := { loops := [(4, { keep := [0, 1, 5, 7, 8, 9, 28, 29], own := [(7, (.ref tTrigger)), (8, (.ref tTrigger))] }), (17, { keep := [5, 7, 8, 9, 76, 77, 78], own := [(9, tTrigger)] })], frz := [(23, [9])] }, share := true }
noncomputable abbrev X_l12_TableOrders : TabX := { D := { T := tyTab, F := [(n_table_Put, S_table_Put), (n_ident_Common, S_ident_Common), (n_table_Match, S_table_Match), (n_l12_alive, S_l12_alive), (n_r12_Same, S_r12_Same)], R := [], ovl := [] }, inl := [] }
noncomputable abbrev M_l12_TableOrders : RMode := .data rs_l12_TableOrders
theorem x_l12_TableOrders (h_table_Put : FnOk prog [] n_table_Put S_table_Put) (h_ident_Common : FnOk prog [] n_ident_Common S_ident_Common) (h_table_Match : FnOk prog [] n_table_Match S_table_Match) (h_l12_alive : FnOk prog [] n_l12_alive S_l12_alive) (h_r12_Same : FnOk prog [] n_r12_Same S_r12_Same) : XOk prog X_l12_TableOrders := xok (dok_add (dok_add (dok_add (dok_add (dok_add (dok_nil tab_ok mixed_ok) h_r12_Same) h_l12_alive) h_table_Match) h_ident_Common) h_table_Put) (by kernel_rfl) rows_nil inl_nil ovl_nil
noncomputable def T_l12_TableOrders (l : den (Ty.slc tTrigger)) (n : den tInt) (id : den tId) : TreeS :=
  TreeS.req (cutOk 0 (minI (lnx tTrigger l) 20) (lnx tTrigger l))
  (TreeS.loop [] fx_l12_TableOrders (lp f_l12_TableOrders 4)
    [(0, K.val (Ty.slc tTrigger) (lCutx tTrigger l 0 (minI (lnx tTrigger l) 20))), (1, K.val tInt n),
      (5, K.ptr 0 tId []), (7, K.val (Ty.slc tTrigger) []), (8, K.val (Ty.slc tTrigger) []), (9, K.nilsl),
      (28, K.val tInt (lnx tTrigger (lCutx tTrigger l 0 (minI (lnx tTrigger l) 20)))), (29, K.val tInt 0)]
    [(0, Bx.cell tId id)])
theorem T_l12_TableOrders_eq (l : den (Ty.slc tTrigger)) (n : den tInt) (id : den tId) : treeS X_l12_TableOrders M_l12_TableOrders 5000 [] fx_l12_TableOrders (bodyOf f_l12_TableOrders) (Env.of
  (argEnv as_l12_TableOrders (l, n, id, ()) 0) []) = T_l12_TableOrders l n id := by kernel_rfl

noncomputable def E_l12_TableOrders_4 (v0 : den (Ty.slc tTrigger)) (v1 : den tInt) (v7 : den (Ty.slc tTrigger)) (v8 : den (Ty.slc tTrigger)) (v28 : den tInt) (v29 : den tInt) (b0 : den tId) : Env := Env.of
  [(0, K.val (Ty.slc tTrigger) v0), (1, K.val tInt v1), (5, K.ptr 0 tId []), (7, K.val (Ty.slc tTrigger) v7),
    (8, K.val (Ty.slc tTrigger) v8), (9, K.nilsl), (28, K.val tInt v28), (29, K.val tInt v29)]
  [(0, Bx.cell tId b0)]
noncomputable def TL_l12_TableOrders_4 (v0 : den (Ty.slc tTrigger)) (v1 : den tInt) (v7 : den (Ty.slc tTrigger)) (v8 : den (Ty.slc tTrigger)) (v28 : den tInt) (v29 : den tInt) (b0 : den tId) : TreeS :=
  TreeS.ite (decide (v29 < v28))
  (TreeS.req (inB v29 (lnx tTrigger v0))
    (TreeS.req (List.length v7 ≤ 1000000)
      (TreeS.all (den (Ty.pair (Ty.slc tTrigger) (Ty.pair tInt Ty.unit)))
        (fun (q7 : den (Ty.pair (Ty.slc tTrigger) (Ty.pair tInt Ty.unit))) ↦
          q7 = (Prod.fst (g_Put v7 (el tTrigger v0 v29)), Prod.snd (g_Put v7 (el tTrigger v0 v29)), PUnit.unit))
        fun (q7 : den (Ty.pair (Ty.slc tTrigger) (Ty.pair tInt Ty.unit))) ↦
        TreeS.ite (decide (Prod.fst (Prod.snd q7) = 0))
          (TreeS.ite (decide (0 < lnx tTrigger v0))
            (TreeS.req (nz (lnx tTrigger v0))
              (TreeS.req (nz (lnx tTrigger v0))
                (TreeS.req (nz (lnx tTrigger v0))
                  (TreeS.req
                    (inB
                      (Int.tmod
                        (IntKind.wrap IntKind.i64
                          (v29 +
                            Int.tmod (IntKind.wrap IntKind.i64 (Int.tmod v1 (lnx tTrigger v0) + lnx tTrigger v0))
                              (lnx tTrigger v0)))
                        (lnx tTrigger v0))
                      (lnx tTrigger v0))
                    (TreeS.req (List.length v8 ≤ 1000000)
                      (TreeS.all (den (Ty.pair (Ty.slc tTrigger) (Ty.pair tInt Ty.unit)))
                        (fun (q8 : den (Ty.pair (Ty.slc tTrigger) (Ty.pair tInt Ty.unit))) ↦
                          q8 =
                            (Prod.fst
                                (g_Put v8
                                  (el tTrigger v0
                                    (Int.tmod
                                      (IntKind.wrap IntKind.i64
                                        (v29 +
                                          Int.tmod
                                            (IntKind.wrap IntKind.i64 (Int.tmod v1 (lnx tTrigger v0) + lnx tTrigger v0))
                                            (lnx tTrigger v0)))
                                      (lnx tTrigger v0)))),
                              Prod.snd
                                (g_Put v8
                                  (el tTrigger v0
                                    (Int.tmod
                                      (IntKind.wrap IntKind.i64
                                        (v29 +
                                          Int.tmod
                                            (IntKind.wrap IntKind.i64 (Int.tmod v1 (lnx tTrigger v0) + lnx tTrigger v0))
                                            (lnx tTrigger v0)))
                                      (lnx tTrigger v0)))),
                              PUnit.unit))
                        fun (q8 : den (Ty.pair (Ty.slc tTrigger) (Ty.pair tInt Ty.unit))) ↦
                        TreeS.ite (decide (Prod.fst (Prod.snd q8) = 0))
                          (TreeS.loop [] fx_l12_TableOrders (lp f_l12_TableOrders 4)
                            [(0, K.val (Ty.slc tTrigger) v0), (1, K.val tInt v1), (5, K.ptr 0 tId []),
                              (7, K.val (Ty.slc tTrigger) (Prod.fst q7)), (8, K.val (Ty.slc tTrigger) (Prod.fst q8)),
                              (9, K.nilsl), (28, K.val tInt v28), (29, K.val tInt (IntKind.wrap IntKind.i64 (v29 + 1)))]
                            [(0, Bx.cell tId b0)])
                          (TreeS.loop [] fx_l12_TableOrders (lp f_l12_TableOrders 4)
                            [(0, K.val (Ty.slc tTrigger) v0), (1, K.val tInt v1), (5, K.ptr 0 tId []),
                              (7, K.val (Ty.slc tTrigger) (Prod.fst q7)), (8, K.val (Ty.slc tTrigger) v8), (9, K.nilsl),
                              (28, K.val tInt v28), (29, K.val tInt (IntKind.wrap IntKind.i64 (v29 + 1)))]
                            [(0, Bx.cell tId b0)])))))))
            (TreeS.req (inB v29 (lnx tTrigger v0))
              (TreeS.req (List.length v8 ≤ 1000000)
                (TreeS.all (den (Ty.pair (Ty.slc tTrigger) (Ty.pair tInt Ty.unit)))
                  (fun (q8 : den (Ty.pair (Ty.slc tTrigger) (Ty.pair tInt Ty.unit))) ↦
                    q8 =
                      (Prod.fst (g_Put v8 (el tTrigger v0 v29)), Prod.snd (g_Put v8 (el tTrigger v0 v29)), PUnit.unit))
                  fun (q8 : den (Ty.pair (Ty.slc tTrigger) (Ty.pair tInt Ty.unit))) ↦
                  TreeS.ite (decide (Prod.fst (Prod.snd q8) = 0))
                    (TreeS.loop [] fx_l12_TableOrders (lp f_l12_TableOrders 4)
                      [(0, K.val (Ty.slc tTrigger) v0), (1, K.val tInt v1), (5, K.ptr 0 tId []),
                        (7, K.val (Ty.slc tTrigger) (Prod.fst q7)), (8, K.val (Ty.slc tTrigger) (Prod.fst q8)),
                        (9, K.nilsl), (28, K.val tInt v28), (29, K.val tInt (IntKind.wrap IntKind.i64 (v29 + 1)))]
                      [(0, Bx.cell tId b0)])
                    (TreeS.loop [] fx_l12_TableOrders (lp f_l12_TableOrders 4)
                      [(0, K.val (Ty.slc tTrigger) v0), (1, K.val tInt v1), (5, K.ptr 0 tId []),
                        (7, K.val (Ty.slc tTrigger) (Prod.fst q7)), (8, K.val (Ty.slc tTrigger) v8), (9, K.nilsl),
                        (28, K.val tInt v28), (29, K.val tInt (IntKind.wrap IntKind.i64 (v29 + 1)))]
                      [(0, Bx.cell tId b0)])))))
          (TreeS.ite (decide (0 < lnx tTrigger v0))
            (TreeS.req (nz (lnx tTrigger v0))
              (TreeS.req (nz (lnx tTrigger v0))
                (TreeS.req (nz (lnx tTrigger v0))
                  (TreeS.req
                    (inB
                      (Int.tmod
                        (IntKind.wrap IntKind.i64
                          (v29 +
                            Int.tmod (IntKind.wrap IntKind.i64 (Int.tmod v1 (lnx tTrigger v0) + lnx tTrigger v0))
                              (lnx tTrigger v0)))
                        (lnx tTrigger v0))
                      (lnx tTrigger v0))
                    (TreeS.req (List.length v8 ≤ 1000000)
                      (TreeS.all (den (Ty.pair (Ty.slc tTrigger) (Ty.pair tInt Ty.unit)))
                        (fun (q8 : den (Ty.pair (Ty.slc tTrigger) (Ty.pair tInt Ty.unit))) ↦
                          q8 =
                            (Prod.fst
                                (g_Put v8
                                  (el tTrigger v0
                                    (Int.tmod
                                      (IntKind.wrap IntKind.i64
                                        (v29 +
                                          Int.tmod
                                            (IntKind.wrap IntKind.i64 (Int.tmod v1 (lnx tTrigger v0) + lnx tTrigger v0))
                                            (lnx tTrigger v0)))
                                      (lnx tTrigger v0)))),
                              Prod.snd
                                (g_Put v8
                                  (el tTrigger v0
                                    (Int.tmod
                                      (IntKind.wrap IntKind.i64
                                        (v29 +
                                          Int.tmod
                                            (IntKind.wrap IntKind.i64 (Int.tmod v1 (lnx tTrigger v0) + lnx tTrigger v0))
                                            (lnx tTrigger v0)))
                                      (lnx tTrigger v0)))),
                              PUnit.unit))
                        fun (q8 : den (Ty.pair (Ty.slc tTrigger) (Ty.pair tInt Ty.unit))) ↦
                        TreeS.ite (decide (Prod.fst (Prod.snd q8) = 0))
                          (TreeS.loop [] fx_l12_TableOrders (lp f_l12_TableOrders 4)
                            [(0, K.val (Ty.slc tTrigger) v0), (1, K.val tInt v1), (5, K.ptr 0 tId []),
                              (7, K.val (Ty.slc tTrigger) v7), (8, K.val (Ty.slc tTrigger) (Prod.fst q8)), (9, K.nilsl),
                              (28, K.val tInt v28), (29, K.val tInt (IntKind.wrap IntKind.i64 (v29 + 1)))]
                            [(0, Bx.cell tId b0)])
                          (TreeS.loop [] fx_l12_TableOrders (lp f_l12_TableOrders 4)
                            [(0, K.val (Ty.slc tTrigger) v0), (1, K.val tInt v1), (5, K.ptr 0 tId []),
                              (7, K.val (Ty.slc tTrigger) v7), (8, K.val (Ty.slc tTrigger) v8), (9, K.nilsl),
                              (28, K.val tInt v28), (29, K.val tInt (IntKind.wrap IntKind.i64 (v29 + 1)))]
                            [(0, Bx.cell tId b0)])))))))
            (TreeS.req (inB v29 (lnx tTrigger v0))
              (TreeS.req (List.length v8 ≤ 1000000)
                (TreeS.all (den (Ty.pair (Ty.slc tTrigger) (Ty.pair tInt Ty.unit)))
                  (fun (q8 : den (Ty.pair (Ty.slc tTrigger) (Ty.pair tInt Ty.unit))) ↦
                    q8 =
                      (Prod.fst (g_Put v8 (el tTrigger v0 v29)), Prod.snd (g_Put v8 (el tTrigger v0 v29)), PUnit.unit))
                  fun (q8 : den (Ty.pair (Ty.slc tTrigger) (Ty.pair tInt Ty.unit))) ↦
                  TreeS.ite (decide (Prod.fst (Prod.snd q8) = 0))
                    (TreeS.loop [] fx_l12_TableOrders (lp f_l12_TableOrders 4)
                      [(0, K.val (Ty.slc tTrigger) v0), (1, K.val tInt v1), (5, K.ptr 0 tId []),
                        (7, K.val (Ty.slc tTrigger) v7), (8, K.val (Ty.slc tTrigger) (Prod.fst q8)), (9, K.nilsl),
                        (28, K.val tInt v28), (29, K.val tInt (IntKind.wrap IntKind.i64 (v29 + 1)))]
                      [(0, Bx.cell tId b0)])
                    (TreeS.loop [] fx_l12_TableOrders (lp f_l12_TableOrders 4)
                      [(0, K.val (Ty.slc tTrigger) v0), (1, K.val tInt v1), (5, K.ptr 0 tId []),
                        (7, K.val (Ty.slc tTrigger) v7), (8, K.val (Ty.slc tTrigger) v8), (9, K.nilsl),
                        (28, K.val tInt v28), (29, K.val tInt (IntKind.wrap IntKind.i64 (v29 + 1)))]
                      [(0, Bx.cell tId b0)]))))))))
  (TreeS.loop [] fx_l12_TableOrders (lp f_l12_TableOrders 17)
    [(5, K.ptr 0 tId []), (7, K.val (Ty.slc tTrigger) v7), (8, K.val (Ty.slc tTrigger) v8), (9, K.sl (0 + 1) tTrigger),
      (76, K.val (Ty.slc tTrigger) v7), (77, K.val tInt (lnx tTrigger v7)), (78, K.val tInt 0)]
    [(0, Bx.cell tId b0), (0 + 1, Bx.row tTrigger [])])
theorem TL_l12_TableOrders_4_eq (v0 : den (Ty.slc tTrigger)) (v1 : den tInt) (v7 : den (Ty.slc tTrigger)) (v8 : den (Ty.slc tTrigger)) (v28 : den tInt) (v29 : den tInt) (b0 : den tId) : treeS X_l12_TableOrders M_l12_TableOrders 5000 [] fx_l12_TableOrders (lp f_l12_TableOrders 4) (E_l12_TableOrders_4 v0 v1 v7 v8 v28 v29 b0) = TL_l12_TableOrders_4 v0 v1 v7 v8 v28 v29 b0 := by kernel_rfl

noncomputable def E_l12_TableOrders_17 (v7 : den (Ty.slc tTrigger)) (v8 : den (Ty.slc tTrigger)) (v76 : den (Ty.slc tTrigger)) (v77 : den tInt) (v78 : den tInt) (b0 : den tId) (b1 : List (den tTrigger)) : Env := Env.of
  [(5, K.ptr 0 tId []), (7, K.val (Ty.slc tTrigger) v7), (8, K.val (Ty.slc tTrigger) v8), (9, K.sl (0 + 1) tTrigger),
    (76, K.val (Ty.slc tTrigger) v76), (77, K.val tInt v77), (78, K.val tInt v78)]
  [(0, Bx.cell tId b0), (1, Bx.row tTrigger b1)]
noncomputable def TL_l12_TableOrders_17 (v7 : den (Ty.slc tTrigger)) (v8 : den (Ty.slc tTrigger)) (v76 : den (Ty.slc tTrigger)) (v77 : den tInt) (v78 : den tInt) (b0 : den tId) (b1 : List (den tTrigger)) : TreeS :=
  TreeS.ite (decide (v78 < v77))
  (TreeS.req (inB v78 (lnx tTrigger v76))
    (TreeS.req True
      (TreeS.all (den tInt) (fun (q7 : den tInt) ↦ q7 = g_Common (Prod.fst (el tTrigger v76 v78)) b0)
        fun (q7 : den tInt) ↦
        TreeS.ite (decide (128 ≤ q7))
          (TreeS.req (List.length (b1 ++ List.set (List.replicate 1 (zero tTrigger)) 0 (el tTrigger v76 v78)) ≤ most)
            (TreeS.loop [] fx_l12_TableOrders (lp f_l12_TableOrders 17)
              [(5, K.ptr 0 tId []), (7, K.val (Ty.slc tTrigger) v7), (8, K.val (Ty.slc tTrigger) v8),
                (9, K.sl (0 + 1) tTrigger), (76, K.val (Ty.slc tTrigger) v76), (77, K.val tInt v77),
                (78, K.val tInt (IntKind.wrap IntKind.i64 (v78 + 1)))]
              [(0, Bx.cell tId b0),
                (0 + 1, Bx.row tTrigger (b1 ++ List.set (List.replicate 1 (zero tTrigger)) 0 (el tTrigger v76 v78)))]))
          (TreeS.loop [] fx_l12_TableOrders (lp f_l12_TableOrders 17)
            [(5, K.ptr 0 tId []), (7, K.val (Ty.slc tTrigger) v7), (8, K.val (Ty.slc tTrigger) v8),
              (9, K.sl (0 + 1) tTrigger), (76, K.val (Ty.slc tTrigger) v76), (77, K.val tInt v77),
              (78, K.val tInt (IntKind.wrap IntKind.i64 (v78 + 1)))]
            [(0, Bx.cell tId b0), (0 + 1, Bx.row tTrigger b1)]))))
  (TreeS.req (List.length v7 ≤ 1000000)
    (TreeS.all (den (Ty.pair (Ty.slc tTrigger) (Ty.pair tInt Ty.unit)))
      (fun (q7 : den (Ty.pair (Ty.slc tTrigger) (Ty.pair tInt Ty.unit))) ↦
        q7 = (Prod.fst (g_Match v7 b0), Prod.snd (g_Match v7 b0), PUnit.unit))
      fun (q7 : den (Ty.pair (Ty.slc tTrigger) (Ty.pair tInt Ty.unit))) ↦
      TreeS.req (List.length b1 ≤ 1000000)
        (TreeS.all (den (Ty.pair (Ty.slc tTrigger) (Ty.pair tInt Ty.unit)))
          (fun (q8 : den (Ty.pair (Ty.slc tTrigger) (Ty.pair tInt Ty.unit))) ↦
            q8 = (Prod.fst (g_Match b1 b0), Prod.snd (g_Match b1 b0), PUnit.unit))
          fun (q8 : den (Ty.pair (Ty.slc tTrigger) (Ty.pair tInt Ty.unit))) ↦
          TreeS.req True
            (TreeS.all (den Ty.bool) (fun (q9 : den Ty.bool) ↦ q9 = true) fun (q9 : den Ty.bool) ↦
              TreeS.req (impl [(q9, true)] True)
                (TreeS.req
                  (impl
                    [(bif bif q9 then decide (v7 = v8) else false then
                          decide (Prod.fst (Prod.snd q7) = Prod.fst (Prod.snd q8))
                        else false,
                        true)]
                    True)
                  (TreeS.ret
                    (K.val (Ty.pair Ty.bool Ty.unit)
                      (bif
                            bif
                                bif bif q9 then decide (v7 = v8) else false then
                                  decide (Prod.fst (Prod.snd q7) = Prod.fst (Prod.snd q8))
                                else false then
                              decide (Prod.fst q7 = Prod.fst q8)
                            else false then
                          eqO (decide (Prod.fst (Prod.snd q7) = 0)) (decide (0 < lnx tTrigger b1))
                        else false,
                        PUnit.unit))))))))
theorem TL_l12_TableOrders_17_eq (v7 : den (Ty.slc tTrigger)) (v8 : den (Ty.slc tTrigger)) (v76 : den (Ty.slc tTrigger)) (v77 : den tInt) (v78 : den tInt) (b0 : den tId) (b1 : List (den tTrigger)) : treeS X_l12_TableOrders M_l12_TableOrders 5000 [] fx_l12_TableOrders (lp f_l12_TableOrders 17) (E_l12_TableOrders_17 v7 v8 v76 v77 v78 b0 b1) = TL_l12_TableOrders_17 v7 v8 v76 v77 v78 b0 b1 := by kernel_rfl

end Go.Proofs.Ytnccacngedeoeaa

/- Tables in order: where a trigger stands, what putting and dropping make. No program here. -/
namespace Go.Proofs.Ytnccacngedeoeaa
open Go Go.RowKit

/-! ### The order -/

def lexI (a b c d a' b' c' d' : Int) : Prop := a < a' ∨ (a = a' ∧ (b < b' ∨ (b = b' ∧ (c < c' ∨ (c = c' ∧ d < d')))))
def eqI4 (a b c d a' b' c' d' : Int) : Prop := a = a' ∧ b = b' ∧ c = c' ∧ d = d'
def lexLt (a b : den tTrigger) : Prop := lexI (vB a.1) a.2.1.1 (vB a.2.1.2.1) a.2.1.2.2.1 (vB b.1) b.2.1.1 (vB b.2.1.2.1) b.2.1.2.2.1
def lexEq (a b : den tTrigger) : Prop := eqI4 (vB a.1) a.2.1.1 (vB a.2.1.2.1) a.2.1.2.2.1 (vB b.1) b.2.1.1 (vB b.2.1.2.1) b.2.1.2.2.1

theorem cmpI_cases (x y : Int) : (x < y ∧ cmpI x y = -1) ∨ (x = y ∧ cmpI x y = 0) ∨ (y < x ∧ cmpI x y = 1) := by
  unfold cmpI
  rcases Int.lt_trichotomy x y with h | h | h
  · left; exact ⟨h, if_pos h⟩
  · right; left; exact ⟨h, by rw [if_neg (by omega), if_neg (by omega)]⟩
  · right; right; exact ⟨h, by rw [if_neg (by omega), if_pos h]⟩

theorem orC_lt {x y z : Int} : orC (cmpI x y) z < 0 ↔ x < y ∨ (x = y ∧ z < 0) := by
  unfold orC
  rcases cmpI_cases x y with ⟨h, e⟩ | ⟨h, e⟩ | ⟨h, e⟩ <;> rw [e]
  · rw [if_neg (by decide)]; omega
  · rw [if_pos rfl]; omega
  · rw [if_neg (by decide)]; omega
theorem orC_zero {x y z : Int} : orC (cmpI x y) z = 0 ↔ x = y ∧ z = 0 := by
  unfold orC
  rcases cmpI_cases x y with ⟨h, e⟩ | ⟨h, e⟩ | ⟨h, e⟩ <;> rw [e]
  · rw [if_neg (by decide)]; omega
  · rw [if_pos rfl]; omega
  · rw [if_neg (by decide)]; omega

theorem cmpT_lt {a b : den tTrigger} : g_cmpT a b < 0 ↔ lexLt a b := by
  unfold g_cmpT lexLt lexI g_Cmp
  rw [orC_lt, orC_lt, orC_lt, cmpI_lt]
theorem cmpT_zero {a b : den tTrigger} : g_cmpT a b = 0 ↔ lexEq a b := by
  unfold g_cmpT lexEq eqI4 g_Cmp
  rw [orC_zero, orC_zero, orC_zero, cmpI_zero]

section
variable {a b c d a' b' c' d' a'' b'' c'' d'' : Int}
theorem lexI_trans (h : lexI a b c d a' b' c' d') (k : lexI a' b' c' d' a'' b'' c'' d'') : lexI a b c d a'' b'' c'' d'' := by unfold lexI at *; omega
theorem lexI_irrefl (h : lexI a b c d a b c d) : False := by unfold lexI at h; omega
theorem lexI_tri (a b c d a' b' c' d' : Int) : lexI a b c d a' b' c' d' ∨ eqI4 a b c d a' b' c' d' ∨ lexI a' b' c' d' a b c d := by unfold lexI eqI4; omega
theorem lexI_eq (h : eqI4 a b c d a' b' c' d') : (lexI a b c d a'' b'' c'' d'' ↔ lexI a' b' c' d' a'' b'' c'' d'') ∧ (lexI a'' b'' c'' d'' a b c d ↔ lexI a'' b'' c'' d'' a' b' c' d') := by
  obtain ⟨rfl, rfl, rfl, rfl⟩ := h; exact ⟨Iff.rfl, Iff.rfl⟩
end
theorem lex_trans {a b c : den tTrigger} (h : lexLt a b) (k : lexLt b c) : lexLt a c := lexI_trans h k
theorem lex_irrefl {a : den tTrigger} (h : lexLt a a) : False := lexI_irrefl h
theorem lex_tri (a b : den tTrigger) : lexLt a b ∨ lexEq a b ∨ lexLt b a := lexI_tri _ _ _ _ _ _ _ _
theorem lex_eq_lt {a b c : den tTrigger} (h : lexEq a b) : lexLt a c ↔ lexLt b c := (lexI_eq h).1
theorem lex_lt_eq {a b c : den tTrigger} (h : lexEq a b) : lexLt c a ↔ lexLt c b := (lexI_eq h).2
theorem lex_not_eq {a b : den tTrigger} (h : lexLt a b) : ¬ lexEq a b := fun e => lex_irrefl ((lex_eq_lt e).1 h)

/-! ### Tables that may be -/

structure Tab (t : List (den tTrigger)) : Prop where
  may : ∀ x ∈ t, g_may x = true
  rise : ∀ (i j : Nat) (hj : j < t.length) (hij : i < j), lexLt (t[i]'(by omega)) t[j]
  len : t.length ≤ 32

theorem tab_of_right {t : List (den tTrigger)} (h : g_Right t = true) : Tab t := by
  unfold g_Right okFrom at h
  rw [Bool.and_eq_true, decide_eq_true_eq, List.all_eq_true] at h
  obtain ⟨h1, h2⟩ := h
  have ok : ∀ i (hi : i < t.length), okAt t i = true := fun i hi => h1 i (by rw [List.mem_range'_1]; omega)
  have step : ∀ i (hi : i + 1 < t.length), lexLt (t[i]'(by omega)) t[i + 1] := fun i hi => by
    have := ok (i + 1) hi
    unfold okAt at this
    rw [Bool.and_eq_true] at this
    have h3 := this.2
    rw [show decide (i + 1 = 0) = false by simp, Bool.false_or, show (((i + 1 : Nat) : Int) - 1) = ((i : Nat) : Int) by omega, el_at hi, el_at (show i < t.length by omega)] at h3
    exact cmpT_lt.1 (of_decide_eq_true h3)
  refine ⟨fun x hx => ?_, fun i j hj hij => ?_, h2⟩
  · obtain ⟨i, hi, rfl⟩ := List.getElem_of_mem hx
    have := ok i hi
    unfold okAt at this
    rw [Bool.and_eq_true, el_at hi] at this
    exact this.1
  · obtain ⟨k, rfl⟩ : ∃ k, j = i + 1 + k := ⟨j - (i + 1), by omega⟩
    have key : ∀ (k : Nat) (hj : i + 1 + k < t.length), lexLt (t[i]'(by omega)) t[i + 1 + k] := by
      intro k
      induction k with
      | zero => exact fun hj => step i hj
      | succ k ih => exact fun hj => lex_trans (ih (by omega)) (step (i + 1 + k) hj)
    exact key k hj

theorem halve_spec (c : Nat → Int) (n p : Nat) (h1 : ∀ i, i < p → i < n → c i < 0) (h2 : ∀ i, p ≤ i → i < n → ¬ c i < 0) : ∀ (k i j : Nat), i ≤ p → p ≤ j → j ≤ n → j - i ≤ k → halve c k i j = p
  | 0, i, j, hi, hj, hn, hk => by unfold halve; omega
  | k + 1, i, j, hi, hj, hn, hk => by
    unfold halve
    split
    · rename_i hlt
      split
      · rename_i hc
        have : (i + j) / 2 < p := by
          rcases Nat.lt_or_ge ((i + j) / 2) p with h | h
          · exact h
          · exact absurd hc (h2 _ h (by omega))
        exact halve_spec c n p h1 h2 k _ j (by omega) hj hn (by omega)
      · rename_i hc
        have : p ≤ (i + j) / 2 := by
          rcases Nat.lt_or_ge ((i + j) / 2) p with h | h
          · exact absurd (h1 _ h (by omega)) hc
          · exact h
        exact halve_spec c n p h1 h2 k i _ hi this (by omega) (by omega)
    · omega

theorem place {t : List (den tTrigger)} (ht : Tab t) (x : den tTrigger) : ∃ p, p ≤ t.length ∧ (∀ i (hi : i < t.length), i < p → lexLt t[i] x) ∧ (∀ i (hi : i < t.length), p ≤ i → ¬ lexLt t[i] x) := by
  have : ∀ n, n ≤ t.length → ∃ p, p ≤ n ∧ (∀ i (hi : i < t.length), i < p → lexLt t[i] x) ∧ (∀ i (hi : i < t.length), i < n → p ≤ i → ¬ lexLt t[i] x) := by
    intro n
    induction n with
    | zero => exact fun _ => ⟨0, Nat.le_refl _, fun i _ h => by omega, fun i _ h => by omega⟩
    | succ n ih =>
      intro hn
      obtain ⟨p, h1, h2, h3⟩ := ih (by omega)
      by_cases hp : p = n
      · subst hp
        by_cases hx : lexLt (t[p]'(by omega)) x
        · refine ⟨p + 1, Nat.le_refl _, fun i hi h => ?_, fun i hi h h' => by omega⟩
          rcases Nat.lt_or_ge i p with h4 | h4
          · exact h2 i hi h4
          · have : i = p := by omega
            subst this; exact hx
        · refine ⟨p, by omega, h2, fun i hi h h' => ?_⟩
          have : i = p := by omega
          subst this; exact hx
      · refine ⟨p, by omega, h2, fun i hi h h' hlt => ?_⟩
        have hpl : p < t.length := by omega
        rcases Nat.lt_or_ge p i with h4 | h4
        · exact h3 p hpl (by omega) (Nat.le_refl _) (lex_trans (ht.rise p i hi h4) hlt)
        · have : i = p := by omega
          subst this
          exact h3 i hi (by omega) (Nat.le_refl _) hlt
  obtain ⟨p, h1, h2, h3⟩ := this t.length (Nat.le_refl _)
  exact ⟨p, h1, h2, fun i hi h => h3 i hi hi h⟩

theorem at_spec {t : List (den tTrigger)} (ht : Tab t) (x : den tTrigger) : (∀ i (hi : i < t.length), i < atB t x → lexLt t[i] x) ∧ (∀ i (hi : i < t.length), atB t x ≤ i → ¬ lexLt t[i] x) := by
  obtain ⟨p, h1, h2, h3⟩ := place ht x
  have : atB t x = p := halve_spec _ t.length p (fun i hi hn => by rw [el_at hn]; exact cmpT_lt.2 (h2 i hn hi)) (fun i hi hn hc => by
    rw [el_at hn] at hc
    exact h3 i hn hi (cmpT_lt.1 hc)) t.length 0 t.length (Nat.zero_le _) h1 (Nat.le_refl _) (Nat.le_refl _)
  rw [this]
  exact ⟨fun i hi h => h2 i hi h, fun i hi h => h3 i hi h⟩

theorem there_true {t : List (den tTrigger)} {x : den tTrigger} (h : thereB t x = true) : ∃ hp : atB t x < t.length, lexEq t[atB t x] x := by
  have hp := thereB_lt h
  unfold thereB isB at h
  rw [Bool.and_eq_true] at h
  refine ⟨hp, ?_⟩
  have h2 := of_decide_eq_true h.2
  have h2 : g_cmpT (el tTrigger t ((atB t x : Nat) : Int)) x = 0 := h2
  rw [el_at hp] at h2
  exact cmpT_zero.1 h2

theorem there_false {t : List (den tTrigger)} (ht : Tab t) {x : den tTrigger} (h : thereB t x = false) : ∀ y ∈ t, ¬ lexEq y x := by
  intro y hy he
  obtain ⟨i, hi, rfl⟩ := List.getElem_of_mem hy
  obtain ⟨h1, h2⟩ := at_spec ht x
  have hge : atB t x ≤ i := by
    rcases Nat.lt_or_ge i (atB t x) with h4 | h4
    · exact absurd he (lex_not_eq (h1 i hi h4))
    · exact h4
  have : thereB t x = true := by
    unfold thereB isB
    have hp : atB t x < t.length := by omega
    rw [Bool.and_eq_true]
    refine ⟨decide_eq_true hp, decide_eq_true ?_⟩
    show g_cmpT (el tTrigger t ((atB t x : Nat) : Int)) x = 0
    rw [el_at hp]
    rcases Nat.lt_or_ge (atB t x) i with h5 | h5
    · exact absurd ((lex_lt_eq he).1 (ht.rise _ i hi h5)) (h2 _ hp (Nat.le_refl _))
    · have : i = atB t x := by omega
      exact cmpT_zero.2 (by rw [← getElem_congr_idx this]; exact he)
  rw [h] at this; cases this

theorem split_there {t : List (den tTrigger)} (ht : Tab t) {x : den tTrigger} (h : thereB t x = true) : ∃ A y B, t = A ++ y :: B ∧ A.length = atB t x ∧ (∀ z ∈ A, lexLt z x) ∧ lexEq y x ∧ ∀ z ∈ B, lexLt x z := by
  obtain ⟨hp, he⟩ := there_true h
  obtain ⟨h1, h2⟩ := at_spec ht x
  refine ⟨t.take (atB t x), t[atB t x], t.drop (atB t x + 1), ?_, by rw [List.length_take]; omega, fun z hz => ?_, he, fun z hz => ?_⟩
  · rw [← List.drop_eq_getElem_cons hp, List.take_append_drop]
  · obtain ⟨i, hi, rfl⟩ := List.getElem_of_mem hz
    rw [List.length_take] at hi
    rw [List.getElem_take]
    exact h1 i (by omega) (by omega)
  · obtain ⟨i, hi, rfl⟩ := List.getElem_of_mem hz
    rw [List.length_drop] at hi
    rw [List.getElem_drop]
    exact (lex_eq_lt he).1 (ht.rise _ _ (by omega) (by omega))

theorem split_not {t : List (den tTrigger)} (ht : Tab t) {x : den tTrigger} (h : thereB t x = false) : ∃ A B, t = A ++ B ∧ A.length = atB t x ∧ (∀ z ∈ A, lexLt z x) ∧ ∀ z ∈ B, lexLt x z := by
  obtain ⟨h1, h2⟩ := at_spec ht x
  have hn := there_false ht h
  refine ⟨t.take (atB t x), t.drop (atB t x), (List.take_append_drop _ _).symm, by have := atB_le t x; rw [List.length_take]; omega, fun z hz => ?_, fun z hz => ?_⟩
  · obtain ⟨i, hi, rfl⟩ := List.getElem_of_mem hz
    rw [List.length_take] at hi
    rw [List.getElem_take]
    exact h1 i (by omega) (by omega)
  · have hm := List.mem_of_mem_drop hz
    obtain ⟨i, hi, rfl⟩ := List.getElem_of_mem hz
    rw [List.length_drop] at hi
    rw [List.getElem_drop] at hm ⊢
    rcases lex_tri (t[atB t x + i]'(by omega)) x with h5 | h5 | h5
    · exact absurd h5 (h2 _ (by omega) (by omega))
    · exact absurd h5 (hn _ hm)
    · exact h5

/-- Identifiers that are such. -/
def okTr (x : den tTrigger) : Prop := (x.1.length = 32 ∧ byt x.1) ∧ x.2.1.2.1.length = 32 ∧ byt x.2.1.2.1

theorem isIE_iff {y x : den tTrigger} (hy : okTr y) (hx : okTr x) : isIE y x.1 x.2.1 = true ↔ lexEq y x := by
  unfold isIE
  rw [Bool.and_eq_true, decide_eq_true_eq, decide_eq_true_eq]
  constructor
  · rintro ⟨h1, h2⟩
    unfold lexEq
    rw [h1, h2]
    exact ⟨rfl, rfl, rfl, rfl⟩
  · rintro ⟨h1, h2, h3, h4⟩
    refine ⟨vB_inj (by rw [hy.1.1, hx.1.1]) hy.1.2 hx.1.2 h1, ?_⟩
    have e3 := vB_inj (by rw [hy.2.1, hx.2.1]) hy.2.2 hx.2.2 h3
    obtain ⟨yi, ⟨yk, yd, yh, ⟨⟩⟩, yu, ⟨⟩⟩ := y
    obtain ⟨xi, ⟨xk, xd, xh, ⟨⟩⟩, xu, ⟨⟩⟩ := x
    have h2 : yk = xk := h2
    have h4 : yh = xh := h4
    have e3 : yd = xd := e3
    rw [h2, e3, h4]

theorem isIE_false {y x : den tTrigger} (hy : okTr y) (hx : okTr x) (h : ¬ lexEq y x) : isIE y x.1 x.2.1 = false := by
  cases hc : isIE y x.1 x.2.1 with
  | false => rfl
  | true => exact absurd ((isIE_iff hy hx).1 hc) h

section
variable {A B : List (den tTrigger)} {x y : den tTrigger}

theorem find_there (hx : okTr x) (hA : ∀ z ∈ A, okTr z) (hy : okTr y) (h1 : ∀ z ∈ A, lexLt z x) (h2 : lexEq y x) : g_Find (A ++ y :: B) x.1 x.2.1 = y := by
  unfold g_Find
  rw [List.find?_append, List.find?_eq_none.2 (fun z hz => by rw [isIE_false (hA z hz) hx (lex_not_eq (h1 z hz))]; simp), List.find?_cons_of_pos (p := fun z => isIE z x.1 x.2.1) ((isIE_iff hy hx).2 h2)]
  rfl
theorem lex_not_eq' {a b : den tTrigger} (h : lexLt a b) : ¬ lexEq b a := fun e => lex_irrefl ((lex_lt_eq e).1 h)
theorem without_part (hx : okTr x) (hA : ∀ z ∈ A, okTr z) (h1 : ∀ z ∈ A, ¬ lexEq z x) : g_Without A x.1 x.2.1 = A := by
  unfold g_Without
  exact List.filter_eq_self.2 fun z hz => by rw [isIE_false (hA z hz) hx (h1 z hz)]; rfl
theorem without_there (hx : okTr x) (hA : ∀ z ∈ A, okTr z) (hy : okTr y) (hB : ∀ z ∈ B, okTr z) (h1 : ∀ z ∈ A, lexLt z x) (h2 : lexEq y x) (h3 : ∀ z ∈ B, lexLt x z) : g_Without (A ++ y :: B) x.1 x.2.1 = A ++ B := by
  have eA := without_part hx hA fun z hz => lex_not_eq (h1 z hz)
  have eB := without_part hx hB fun z hz => lex_not_eq' (h3 z hz)
  unfold g_Without at *
  rw [List.filter_append, List.filter_cons, if_neg (by rw [(isIE_iff hy hx).2 h2]; simp), eA, eB]
theorem find_not (hx : okTr x) (hA : ∀ z ∈ A, okTr z) (h1 : ∀ z ∈ A, ¬ lexEq z x) : g_Find A x.1 x.2.1 = noT := by
  unfold g_Find
  rw [List.find?_eq_none.2 (fun z hz => by rw [isIE_false (hA z hz) hx (h1 z hz)]; simp)]
  rfl

theorem putD_at (h1 : ∀ z ∈ A, lexLt z x) (h3 : ∀ z ∈ B, lexLt x z) : putD x (A ++ B) = A ++ x :: B := by
  induction A with
  | nil =>
    cases B with
    | nil => rfl
    | cons z B =>
      show (if g_Less x z then x :: z :: B else z :: putD x B) = x :: z :: B
      exact if_pos (decide_eq_true (cmpT_lt.2 (h3 z (List.mem_cons_self ..))))
  | cons z A ih =>
    show (if g_Less x z then x :: z :: (A ++ B) else z :: putD x (A ++ B)) = z :: (A ++ x :: B)
    rw [if_neg, ih (fun w hw => h1 w (List.mem_cons_of_mem _ hw))]
    intro hc
    have := cmpT_lt.1 (of_decide_eq_true hc)
    exact lex_irrefl (lex_trans this (h1 z (List.mem_cons_self ..)))
end

theorem until_key {x : den tTrigger} {u : Int} {z : den tTrigger} : (lexLt (untilT x u) z ↔ lexLt x z) ∧ (lexLt z (untilT x u) ↔ lexLt z x) := ⟨Iff.rfl, Iff.rfl⟩

theorem may_until {x : den tTrigger} (h : g_may x = true) : 0 ≤ (x.2.2.1 : Int) := by
  unfold g_may at h
  rw [Bool.and_eq_true, Bool.and_eq_true] at h
  exact of_decide_eq_true h.1.2

/-- Dropping is as the document says. -/
theorem drop_law {t : List (den tTrigger)} (ht : g_Right t = true) (hk : ∀ z ∈ t, okTr z) (id : den tId) (e : den tEntry) (hx : okTr (keyT id e)) :
    ((g_Find t id e).2.2.1 < (0 : Int) ∧ g_Drop t id e = ([], 6)) ∨ (¬ (g_Find t id e).2.2.1 < (0 : Int) ∧ g_Drop t id e = (g_Without t id e, 0)) := by
  have hT := tab_of_right ht
  cases h : thereB t (keyT id e) with
  | false =>
    left
    have e1 : g_Find t id e = noT := find_not (x := keyT id e) hx hk (there_false hT h)
    rw [e1]
    refine ⟨by show (-1 : Int) < 0; decide, ?_⟩
    unfold g_Drop; rw [if_pos ht, if_neg (by rw [h]; simp)]
  | true =>
    right
    obtain ⟨A, y, B, rfl, hl, h1, h2, h3⟩ := split_there hT h
    have kA : ∀ z ∈ A, okTr z := fun z hz => hk z (List.mem_append_left _ hz)
    have ky := hk y (by simp)
    have kB : ∀ z ∈ B, okTr z := fun z hz => hk z (by simp [hz])
    have e1 : g_Find (A ++ y :: B) id e = y := find_there (x := keyT id e) hx kA ky h1 h2
    have e2 : g_Without (A ++ y :: B) id e = A ++ B := without_there (x := keyT id e) hx kA ky kB h1 h2 h3
    rw [e1, e2]
    refine ⟨fun h5 => Int.lt_irrefl _ (Int.lt_of_le_of_lt (may_until (hT.may y (by simp))) h5), ?_⟩
    unfold g_Drop
    rw [if_pos ht, if_pos h, ← hl, List.take_left' rfl]
    congr 2
    rw [← List.drop_drop, List.drop_left' rfl]; rfl

/-- Putting is as the document says. -/
theorem put_law {t : List (den tTrigger)} (ht : g_Right t = true) (hk : ∀ z ∈ t, okTr z) (x : den tTrigger) (hx : okTr x) (hm : g_may x = true) :
    ((g_PutD t x).length ≤ 32 ∧ g_Put t x = (g_PutD t x, 0)) ∨ (¬ (g_PutD t x).length ≤ 32 ∧ g_Put t x = ([], 8)) := by
  have hT := tab_of_right ht
  have hc : (g_Right t && g_may x) = true := by rw [ht, hm]; rfl
  cases h : thereB t x with
  | false =>
    have e1 : g_Find t x.1 x.2.1 = noT := find_not hx hk (there_false hT h)
    have e2 : g_Without t x.1 x.2.1 = t := without_part hx hk (there_false hT h)
    have e3 : lastT t x = x := by
      unfold lastT
      rw [e1]
      exact if_neg fun h5 => by
        have h5 : (x.2.2.1 : Int) < -1 := h5
        have := may_until hm
        exact absurd (Int.lt_of_le_of_lt this h5) (by decide)
    obtain ⟨A, B, hAB, hl, h1, h3⟩ := split_not hT h
    have e4 : g_PutD t x = A ++ x :: B := by
      unfold g_PutD
      rw [e3, e2, hAB]
      exact putD_at h1 h3
    have e5 : (g_PutD t x).length = t.length + 1 := by rw [e4, hAB]; simp; omega
    have hlen := hT.len
    by_cases h32 : t.length = 32
    · right
      refine ⟨by omega, ?_⟩
      unfold g_Put; rw [if_pos hc, if_neg (by rw [h]; simp), if_pos h32]
    · left
      refine ⟨by omega, ?_⟩
      unfold g_Put; rw [if_pos hc, if_neg (by rw [h]; simp), if_neg h32, e4, ← hl]
      unfold putIn
      rw [hAB, List.take_left' rfl, List.drop_left' rfl]
      simp
  | true =>
    left
    obtain ⟨A, y, B, hAB, hl, h1, h2, h3⟩ := split_there hT h
    subst hAB
    have kA : ∀ z ∈ A, okTr z := fun z hz => hk z (List.mem_append_left _ hz)
    have ky := hk y (by simp)
    have kB : ∀ z ∈ B, okTr z := fun z hz => hk z (by simp [hz])
    have e1 := find_there (B := B) hx kA ky h1 h2
    have e2 := without_there hx kA ky kB h1 h2 h3
    have hie := (isIE_iff ky hx).2 h2
    unfold isIE at hie
    rw [Bool.and_eq_true, decide_eq_true_eq, decide_eq_true_eq] at hie
    obtain ⟨hi1, hi2⟩ := hie
    have e3 : lastT (A ++ y :: B) x = untilT y (maxI y.2.2.1 x.2.2.1) := by
      unfold lastT
      rw [e1]
      unfold untilT maxI
      rw [hi1, hi2]
      obtain ⟨xi, xt, (xu : Int), ⟨⟩⟩ := x
      obtain ⟨yi, yt, (yu : Int), ⟨⟩⟩ := y
      show (if xu < yu then (xi, xt, yu, ()) else (xi, xt, xu, ())) = (xi, xt, (if yu < xu then xu else yu), ())
      by_cases h6 : xu < yu
      · rw [if_pos h6, if_neg (by omega)]
      · rw [if_neg h6]
        by_cases h7 : yu < xu
        · rw [if_pos h7]
        · rw [if_neg h7, show xu = yu by omega]
    have e4 : g_PutD (A ++ y :: B) x = A ++ untilT y (maxI y.2.2.1 x.2.2.1) :: B := by
      unfold g_PutD
      rw [e3, e2]
      exact putD_at (fun z hz => (lex_lt_eq h2).2 (h1 z hz)) (fun z hz => (lex_eq_lt h2).2 (h3 z hz))
    have hp := thereB_lt h
    have hy : el tTrigger (A ++ y :: B) ((atB (A ++ y :: B) x : Nat) : Int) = y := by
      rw [el_at hp]
      have : (A ++ y :: B)[A.length]? = some y := by simp
      rw [hl] at this
      exact Option.some.inj ((List.getElem?_eq_getElem hp).symm.trans this)
    refine ⟨by rw [e4]; have := hT.len; simp at this ⊢; omega, ?_⟩
    unfold g_Put
    rw [if_pos hc, if_pos h, hy, e4, ← hl]
    congr 1
    rw [List.set_append_right _ _ (Nat.le_refl _), Nat.sub_self, List.set_cons_zero]

end Go.Proofs.Ytnccacngedeoeaa

/- Tables, further: what may be, put into, matched. No program here. -/
namespace Go.Proofs.Ytnccacngedeoeaa
open Go Go.RowKit

/-! ### Tables that may be, as rising rows -/

theorem right_iff {t : List (den tTrigger)} : g_Right t = true ↔ (∀ x ∈ t, g_may x = true) ∧ t.Pairwise lexLt ∧ t.length ≤ 32 := by
  constructor
  · intro h
    have hT := tab_of_right h
    exact ⟨hT.may, List.pairwise_iff_getElem.2 fun i j hi hj hij => hT.rise i j hj hij, hT.len⟩
  · rintro ⟨h1, h2, h3⟩
    rw [List.pairwise_iff_getElem] at h2
    unfold g_Right okFrom
    rw [Bool.and_eq_true, decide_eq_true_eq, List.all_eq_true]
    refine ⟨fun i hi => ?_, h3⟩
    rw [List.mem_range'_1] at hi
    have hi : i < t.length := by omega
    unfold okAt
    rw [el_at hi, h1 _ (List.getElem_mem hi), Bool.true_and]
    cases i with
    | zero => rfl
    | succ j =>
      rw [show (((j + 1 : Nat) : Int) - 1) = ((j : Nat) : Int) by omega, el_at (show j < t.length by omega)]
      have : g_Less t[j] t[j + 1] = true := decide_eq_true (cmpT_lt.2 (h2 j (j + 1) (by omega) hi (by omega)))
      rw [this, Bool.or_true]

theorem pw_ext : ∀ {a b : List (den tTrigger)}, a.Pairwise lexLt → b.Pairwise lexLt → (∀ z, z ∈ a ↔ z ∈ b) → a = b
  | [], [], _, _, _ => rfl
  | [], y :: b, _, _, h => by have := (h y).2 (List.mem_cons_self ..); cases this
  | x :: a, [], _, _, h => by have := (h x).1 (List.mem_cons_self ..); cases this
  | x :: a, y :: b, ha, hb, h => by
    rw [List.pairwise_cons] at ha hb
    have e : x = y := by
      rcases List.mem_cons.1 ((h x).1 (List.mem_cons_self ..)) with e | h1
      · exact e
      · rcases List.mem_cons.1 ((h y).2 (List.mem_cons_self ..)) with e | h2
        · exact e.symm
        · exact absurd (lex_trans (ha.1 _ h2) (hb.1 _ h1)) lex_irrefl
    subst e
    rw [pw_ext ha.2 hb.2 fun z => ⟨fun hz => ?_, fun hz => ?_⟩]
    · rcases List.mem_cons.1 ((h z).1 (List.mem_cons_of_mem _ hz)) with e | h1
      · rw [e] at hz; exact absurd (ha.1 _ hz) lex_irrefl
      · exact h1
    · rcases List.mem_cons.1 ((h z).2 (List.mem_cons_of_mem _ hz)) with e | h1
      · rw [e] at hz; exact absurd (hb.1 _ hz) lex_irrefl
      · exact h1

theorem right_filter {t : List (den tTrigger)} (h : g_Right t = true) (p : den tTrigger → Bool) : g_Right (t.filter p) = true := by
  obtain ⟨h1, h2, h3⟩ := right_iff.1 h
  exact right_iff.2 ⟨fun x hx => h1 x (List.mem_filter.1 hx).1, h2.filter _, Nat.le_trans (List.length_filter_le _ _) h3⟩

/-! ### Putting -/

theorem put_cases {t : List (den tTrigger)} (ht : g_Right t = true) (x : den tTrigger) (hm : g_may x = true) :
    (∃ A B, t = A ++ B ∧ (∀ z ∈ A, lexLt z x) ∧ (∀ z ∈ B, lexLt x z) ∧ thereB t x = false ∧ ((t.length = 32 ∧ g_Put t x = ([], 8)) ∨ (t.length < 32 ∧ g_Put t x = (A ++ x :: B, 0)))) ∨
    (∃ A y B, t = A ++ y :: B ∧ (∀ z ∈ A, lexLt z x) ∧ lexEq y x ∧ (∀ z ∈ B, lexLt x z) ∧ thereB t x = true ∧ g_Put t x = (A ++ untilT y (maxI y.2.2.1 x.2.2.1) :: B, 0)) := by
  have hT := tab_of_right ht
  have hc : (g_Right t && g_may x) = true := by rw [ht, hm]; rfl
  cases h : thereB t x with
  | false =>
    left
    obtain ⟨A, B, hAB, hl, h1, h3⟩ := split_not hT h
    refine ⟨A, B, hAB, h1, h3, rfl, ?_⟩
    have hlen := hT.len
    by_cases h32 : t.length = 32
    · left
      refine ⟨h32, ?_⟩
      unfold g_Put; rw [if_pos hc, if_neg (by rw [h]; simp), if_pos h32]
    · right
      refine ⟨by omega, ?_⟩
      unfold g_Put; rw [if_pos hc, if_neg (by rw [h]; simp), if_neg h32, ← hl]
      unfold putIn
      rw [hAB, List.take_left' rfl, List.drop_left' rfl]
      simp
  | true =>
    right
    obtain ⟨A, y, B, hAB, hl, h1, h2, h3⟩ := split_there hT h
    refine ⟨A, y, B, hAB, h1, h2, h3, rfl, ?_⟩
    subst hAB
    have hp := thereB_lt h
    have hy : el tTrigger (A ++ y :: B) ((atB (A ++ y :: B) x : Nat) : Int) = y := by
      rw [el_at hp]
      have : (A ++ y :: B)[A.length]? = some y := by simp
      rw [hl] at this
      exact Option.some.inj ((List.getElem?_eq_getElem hp).symm.trans this)
    unfold g_Put
    rw [if_pos hc, if_pos h, hy, ← hl]
    congr 1
    rw [List.set_append_right _ _ (Nat.le_refl _), Nat.sub_self, List.set_cons_zero]

theorem pw_mid {A B : List (den tTrigger)} {x : den tTrigger} (h : (A ++ B).Pairwise lexLt) (h1 : ∀ z ∈ A, lexLt z x) (h2 : ∀ z ∈ B, lexLt x z) : (A ++ x :: B).Pairwise lexLt := by
  rw [List.pairwise_append] at h ⊢
  obtain ⟨hA, hB, hAB⟩ := h
  refine ⟨hA, List.pairwise_cons.2 ⟨h2, hB⟩, fun a ha b hb => ?_⟩
  rcases List.mem_cons.1 hb with rfl | hb
  · exact h1 a ha
  · exact hAB a ha b hb

theorem pw_out {A B : List (den tTrigger)} {y : den tTrigger} (h : (A ++ y :: B).Pairwise lexLt) : (A ++ B).Pairwise lexLt := by
  rw [List.pairwise_append] at h ⊢
  exact ⟨h.1, (List.pairwise_cons.1 h.2.1).2, fun a ha b hb => h.2.2 a ha b (List.mem_cons_of_mem _ hb)⟩

theorem may_max {x y : den tTrigger} (hx : g_may x = true) (hy : g_may y = true) : g_may (untilT y (maxI y.2.2.1 x.2.2.1)) = true := by
  unfold g_may at *
  simp only [Bool.and_eq_true, decide_eq_true_eq] at *
  obtain ⟨⟨x1, x2⟩, x3⟩ := hx
  obtain ⟨⟨y1, y2⟩, y3⟩ := hy
  obtain ⟨yi, yt, (yu : Int), ⟨⟩⟩ := y
  obtain ⟨xi, xt, (xu : Int), ⟨⟩⟩ := x
  show ((_ = true ∧ (0 : Int) ≤ maxI yu xu) ∧ maxI yu xu ≤ (1099511627776 : Int))
  have x2 : 0 ≤ xu := x2
  have x3 : xu ≤ 1099511627776 := x3
  have y2 : 0 ≤ yu := y2
  have y3 : yu ≤ 1099511627776 := y3
  refine ⟨⟨y1, ?_⟩, ?_⟩ <;> (unfold maxI; split <;> omega)

/-- What putting comes to, when it is done. -/
theorem put_right {t : List (den tTrigger)} (ht : g_Right t = true) (x : den tTrigger) (hm : g_may x = true) (hl : t.length < 32 ∨ thereB t x = true) :
    ∃ a, g_Put t x = (a, 0) ∧ g_Right a = true ∧ a.length ≤ t.length + 1 := by
  obtain ⟨r1, r2, r3⟩ := right_iff.1 ht
  rcases put_cases ht x hm with ⟨A, B, rfl, h1, h2, h3, h4⟩ | ⟨A, y, B, rfl, h1, h2, h3, _, h4⟩
  · rcases h4 with ⟨h5, _⟩ | ⟨h5, h6⟩
    · rcases hl with hl | hl
      · omega
      · rw [h3] at hl; cases hl
    · refine ⟨_, h6, right_iff.2 ⟨fun z hz => ?_, pw_mid r2 h1 h2, by simp at h5 ⊢; omega⟩, by simp; omega⟩
      rcases List.mem_append.1 hz with hz | hz
      · exact r1 z (List.mem_append_left _ hz)
      · rcases List.mem_cons.1 hz with rfl | hz
        · exact hm
        · exact r1 z (List.mem_append_right _ hz)
  · refine ⟨_, h4, right_iff.2 ⟨fun z hz => ?_, pw_mid (pw_out r2) (fun z hz => (lex_lt_eq h2).2 (h1 z hz)) (fun z hz => (lex_eq_lt h2).2 (h3 z hz)), by simp at r3 ⊢; omega⟩, by simp⟩
    rcases List.mem_append.1 hz with hz | hz
    · exact r1 z (List.mem_append_left _ hz)
    · rcases List.mem_cons.1 hz with rfl | hz
      · exact may_max hm (r1 y (by simp))
      · exact r1 z (List.mem_append_right _ (List.mem_cons_of_mem _ hz))

theorem put_not {t : List (den tTrigger)} {x : den tTrigger} (h : (g_Right t && g_may x) = false) : g_Put t x = ([], 1) := by
  unfold g_Put; rw [if_neg (by rw [h]; simp)]

theorem put_ok {t : List (den tTrigger)} {x : den tTrigger} (h : (g_Put t x).2 = 0) : g_Right t = true ∧ g_may x = true := by
  cases hc : (g_Right t && g_may x) with
  | true => exact (Bool.and_eq_true _ _ ▸ hc)
  | false => rw [put_not hc] at h; cases h

/-! ### Bits in common -/

theorem cmn_full {a b : List Int} : ∀ (k i : Nat), cmn a b k i = i + k → ∀ j : Nat, i ≤ j → j < i + k → g_Bit a (j : Nat) = g_Bit b (j : Nat)
  | 0, i, _, j, h1, h2 => by omega
  | k + 1, i, h, j, h1, h2 => by
    rw [cmn] at h
    split at h
    · rename_i hb
      by_cases e : j = i
      · rw [e]; exact hb
      · exact cmn_full k (i + 1) (by omega) j (by omega) (by omega)
    · omega

theorem cmn_same (a : List Int) : ∀ (k i : Nat), cmn a a k i = i + k
  | 0, i => rfl
  | k + 1, i => by rw [cmn, if_pos rfl, cmn_same a k (i + 1)]; omega

theorem common_same (a : List Int) : g_Common a a = 256 := by unfold g_Common; rw [cmn_same]; rfl

theorem common_full {a b : List Int} (ha : a.length = 32 ∧ byt a) (hb : b.length = 32 ∧ byt b) (h : g_Common a b = 256) : a = b := by
  have h : cmn a b 256 0 = 256 := by unfold g_Common at h; omega
  have hf := cmn_full 256 0 (by rw [h])
  refine List.ext_getElem (by rw [ha.1, hb.1]) fun i h1 h2 => ?_
  obtain ⟨a0, a1⟩ := ha.2 _ (List.getElem_mem h1)
  obtain ⟨b0, b1⟩ := hb.2 _ (List.getElem_mem h2)
  have key : ∀ k : Nat, k < 8 → a[i] / 2 ^ (7 - k) % 2 = b[i] / 2 ^ (7 - k) % 2 := fun k hk => by
    have := hf (8 * i + k) (by omega) (by omega)
    unfold g_Bit at this
    have e1 : ((8 * i + k : Nat) : Int) / 8 = (i : Nat) := by omega
    have e2 : ((8 * i + k : Nat) : Int) % 8 = (k : Nat) := by omega
    have e3 : ((7 : Int) - (k : Nat)).toNat = 7 - k := by omega
    rw [e1, e2, e3, el_at (e := .int .u8) h1, el_at (e := .int .u8) h2] at this
    exact this
  have k0 := key 0 (by omega)
  have k1 := key 1 (by omega)
  have k2 := key 2 (by omega)
  have k3 := key 3 (by omega)
  have k4 := key 4 (by omega)
  have k5 := key 5 (by omega)
  have k6 := key 6 (by omega)
  have k7 := key 7 (by omega)
  simp only [Nat.sub_zero, Nat.reduceSub, Int.reducePow] at k0 k1 k2 k3 k4 k5 k6 k7
  generalize a[i] = x at *
  generalize b[i] = y at *
  omega

/-! ### Matching -/

theorem match_cases {t : List (den tTrigger)} (id : den tId) (hr : g_Right t = true) : (g_Match t id = ([], 6) ∧ ∀ x ∈ t, bitsC id x ≤ 127) ∨
    ∃ h ∈ t, t.find? (fun x => decide (bitsC id x = bitsC id h)) = some h ∧ 127 < bitsC id h ∧ (∀ x ∈ t, bitsC id x ≤ bitsC id h) ∧ g_Match t id = (t.filter (fun x => decide (x.1 = h.1)), 0) := by
  unfold g_Match
  rw [if_pos hr]
  rcases likest_spec id t 127 (zero tId) with ⟨h1, h2⟩ | ⟨h, h1, h2, h3, h4⟩
  · left
    rw [h1]
    exact ⟨if_pos (by decide), h2⟩
  · right
    have hm := List.mem_of_find?_eq_some h1
    have hh : bitsC id h = (likest id t 127 (zero tId)).1 := by simpa using List.find?_some h1
    rw [← hh] at h1 h3 h4
    refine ⟨h, hm, h1, h3, h4, ?_⟩
    rw [if_neg (by omega), h2]

/-- Of what a table matches it matches as much without what is not alike. -/
theorem match_near {t : List (den tTrigger)} (id : den tId) (hr : g_Right t = true) : g_Match (t.filter fun x => decide (128 ≤ g_Common x.1 id)) id = g_Match t id ∧
    ((g_Match t id).2 = 0 ↔ t.filter (fun x => decide (128 ≤ g_Common x.1 id)) ≠ []) := by
  have hn := right_filter hr fun x => decide (128 ≤ g_Common x.1 id)
  rcases match_cases id hr with ⟨h1, h2⟩ | ⟨h, h1, h2, h3, h4, h5⟩
  · have e : t.filter (fun x => decide (128 ≤ g_Common x.1 id)) = [] := List.filter_eq_nil_iff.2 fun x hx => by
      have : g_Common x.1 id ≤ 127 := h2 x hx
      simp; omega
    rw [e, h1]
    exact ⟨rfl, ⟨fun h => (by cases h), fun h => absurd rfl h⟩⟩
  · have hin : h ∈ t.filter fun x => decide (128 ≤ g_Common x.1 id) := List.mem_filter.2 ⟨h1, decide_eq_true (by have : 127 < g_Common h.1 id := h3; omega)⟩
    refine ⟨?_, ⟨fun _ e => (by rw [e] at hin; cases hin), fun _ => (by rw [h5])⟩⟩
    rcases match_cases id hn with ⟨_, g2⟩ | ⟨g, g1, g2, g3, g4, g5⟩
    · have := g2 h hin; omega
    · have eM : bitsC id g = bitsC id h := Int.le_antisymm (h4 g (List.mem_filter.1 g1).1) (g4 h hin)
      have e : g = h := by
        rw [List.find?_filter, eM] at g2
        have e2 : (fun x : den tTrigger => decide (decide (128 ≤ g_Common x.1 id) = true ∧ decide (bitsC id x = bitsC id h) = true)) = fun x => decide (bitsC id x = bitsC id h) := by
          funext x
          rw [Bool.eq_iff_iff, decide_eq_true_eq, decide_eq_true_eq, decide_eq_true_eq]
          refine ⟨fun h => h.2, fun e => ⟨?_, e⟩⟩
          have : bitsC id x = g_Common x.1 id := rfl
          omega
        rw [e2, h2] at g2
        exact (Option.some.inj g2).symm
      rw [g5, h5, e, List.filter_filter]
      congr 1
      refine List.filter_congr fun x hx => ?_
      rw [Bool.eq_iff_iff, Bool.and_eq_true, decide_eq_true_eq, decide_eq_true_eq]
      refine ⟨fun h => h.1, fun e => ⟨e, ?_⟩⟩
      rw [e]
      have : bitsC id h = g_Common h.1 id := rfl
      omega

/-- An identifier that is there matches itself alone. -/
theorem match_own {t : List (den tTrigger)} (hr : g_Right t = true) (hk : ∀ z ∈ t, okTr z) {x : den tTrigger} (hx : okTr x) {z : den tTrigger} (hz : z ∈ t) (hid : z.1 = x.1) :
    g_Match t x.1 = (t.filter (fun y => decide (y.1 = x.1)), 0) := by
  have hb : bitsC x.1 z = 256 := by show g_Common z.1 x.1 = 256; rw [hid]; exact common_same _
  rcases match_cases x.1 hr with ⟨_, h2⟩ | ⟨h, h1, _, _, h4, h5⟩
  · have := h2 z hz; omega
  · have e : h.1 = x.1 := common_full (hk h h1).1 hx.1 (by
      have := h4 z hz
      have := (bitsC_range x.1 h).2
      show bitsC x.1 h = 256
      omega)
    rw [h5, e]

end Go.Proofs.Ytnccacngedeoeaa
