/- Part 8 of 8 of what this claim's proof stands on: a theory of programs on data, and the contracts of the functions that the law reaches. It holds no condition of its own. -/
import Derived.Test.YtnccacngedeoeaaCk7

/- Tables, put together: in whatever order, and of the parts of a cut. No program here. -/
namespace Go.Proofs.Ytnccacngedeoeaa
open Go Go.RowKit

theorem lex_refl (a : den tTrigger) : lexEq a a := ⟨rfl, rfl, rfl, rfl⟩
theorem lex_symm {a b : den tTrigger} (h : lexEq a b) : lexEq b a := by obtain ⟨h1, h2, h3, h4⟩ := h; exact ⟨h1.symm, h2.symm, h3.symm, h4.symm⟩
theorem lex_etrans {a b c : den tTrigger} (h : lexEq a b) (k : lexEq b c) : lexEq a c := by
  obtain ⟨h1, h2, h3, h4⟩ := h; obtain ⟨k1, k2, k3, k4⟩ := k
  exact ⟨h1.trans k1, h2.trans k2, h3.trans k3, h4.trans k4⟩

/-- Of one key and one time: the same. -/
theorem same_of {y x : den tTrigger} (hy : okTr y) (hx : okTr x) (h : lexEq y x) (hu : (y.2.2.1 : Int) = x.2.2.1) : y = x := by
  have := (isIE_iff hy hx).2 h
  unfold isIE at this
  rw [Bool.and_eq_true, decide_eq_true_eq, decide_eq_true_eq] at this
  obtain ⟨h1, h2⟩ := this
  obtain ⟨yi, yt, yu, ⟨⟩⟩ := y
  obtain ⟨xi, xt, xu, ⟨⟩⟩ := x
  have h1 : yi = xi := h1
  have h2 : yt = xt := h2
  have hu : yu = xu := hu
  rw [h1, h2, hu]

theorem until_ok {y : den tTrigger} (h : okTr y) (u : Int) : okTr (untilT y u) := h
theorem max_le (a b : Int) : a ≤ maxI a b ∧ b ≤ maxI a b := by unfold maxI; split <;> omega
theorem max_cases (a b : Int) : (maxI a b = a ∧ b ≤ a) ∨ (maxI a b = b ∧ a ≤ b) := by unfold maxI; split <;> omega

/-! ### Putting one behind the other -/

def stepT (a : List (den tTrigger)) (x : den tTrigger) : List (den tTrigger) := if (g_Put a x).2 = 0 then (g_Put a x).1 else a

structure Made (L a : List (den tTrigger)) : Prop where
  right : g_Right a = true
  len : a.length ≤ L.length
  mem : ∀ z ∈ a, z ∈ L ∧ g_may z = true
  top : ∀ z ∈ a, ∀ y ∈ L, g_may y = true → lexEq y z → (y.2.2.1 : Int) ≤ z.2.2.1
  all : ∀ y ∈ L, g_may y = true → ∃ z ∈ a, lexEq y z

theorem made_nil : Made [] [] := ⟨rfl, Nat.le_refl _, fun _ h => (by cases h), fun _ h => (by cases h), fun _ h => (by cases h)⟩

theorem made_step {L a : List (den tTrigger)} (h : Made L a) {x : den tTrigger} (hL : ∀ y ∈ L, okTr y) (hx : okTr x) (hlen : L.length < 32) : Made (L ++ [x]) (stepT a x) := by
  have hk : ∀ z ∈ a, okTr z := fun z hz => hL z (h.mem z hz).1
  cases hm : g_may x with
  | false =>
    have e : stepT a x = a := by unfold stepT; rw [put_not (by rw [hm, Bool.and_false])]; exact if_neg (by decide)
    rw [e]
    refine ⟨h.right, by have := h.len; simp; omega, fun z hz => ⟨List.mem_append_left _ (h.mem z hz).1, (h.mem z hz).2⟩, fun z hz y hy hmy hyz => ?_, fun y hy hmy => ?_⟩
    · rcases List.mem_append.1 hy with hy | hy
      · exact h.top z hz y hy hmy hyz
      · rw [List.mem_singleton.1 hy, hm] at hmy; cases hmy
    · rcases List.mem_append.1 hy with hy | hy
      · exact h.all y hy hmy
      · rw [List.mem_singleton.1 hy, hm] at hmy; cases hmy
  | true =>
    rcases put_cases h.right x hm with ⟨A, B, rfl, h1, h2, h3, h4⟩ | ⟨A, y0, B, rfl, h1, h2, h3, h3', h4⟩
    · rcases h4 with ⟨h5, _⟩ | ⟨h5, h6⟩
      · have := h.len; omega
      · obtain ⟨a', g1, g2, g3⟩ := put_right h.right x hm (.inl h5)
        have e : stepT (A ++ B) x = A ++ x :: B := by unfold stepT; rw [h6]; exact if_pos rfl
        have e2 : a' = A ++ x :: B := by rw [h6] at g1; exact (congrArg Prod.fst g1).symm
        rw [e]
        rw [e2] at g2
        have hin : ∀ z, z ∈ A ++ x :: B ↔ z ∈ A ++ B ∨ z = x := fun z => by
          simp only [List.mem_append, List.mem_cons]
          constructor
          · rintro (h | h | h) <;> simp [h]
          · rintro ((h | h) | h) <;> simp [h]
        have hne : ∀ z ∈ A ++ B, ¬ lexEq z x := fun z hz hc => by
          rcases List.mem_append.1 hz with hz | hz
          · exact lex_not_eq (h1 z hz) hc
          · exact lex_not_eq' (h2 z hz) hc
        refine ⟨g2, by have := h.len; simp at this ⊢; omega, fun z hz => ?_, fun z hz y hy hmy hyz => ?_, fun y hy hmy => ?_⟩
        · rcases (hin z).1 hz with hz | rfl
          · exact ⟨List.mem_append_left _ (h.mem z hz).1, (h.mem z hz).2⟩
          · exact ⟨by simp, hm⟩
        · rcases (hin z).1 hz with hz | rfl
          · rcases List.mem_append.1 hy with hy | hy
            · exact h.top z hz y hy hmy hyz
            · rw [List.mem_singleton.1 hy] at hyz
              exact absurd (lex_symm hyz) (hne z hz)
          · rcases List.mem_append.1 hy with hy | hy
            · obtain ⟨w, hw, hyw⟩ := h.all y hy hmy
              exact absurd (lex_etrans (lex_symm hyw) hyz) (hne w hw)
            · rw [List.mem_singleton.1 hy]; exact Int.le_refl _
        · rcases List.mem_append.1 hy with hy | hy
          · obtain ⟨w, hw, hyw⟩ := h.all y hy hmy
            exact ⟨w, (hin w).2 (.inl hw), hyw⟩
          · exact ⟨x, (hin x).2 (.inr rfl), by rw [List.mem_singleton.1 hy]; exact lex_refl x⟩
    · obtain ⟨a', g1, g2, g3⟩ := put_right h.right x hm (.inr h3')
      have e : stepT (A ++ y0 :: B) x = A ++ untilT y0 (maxI y0.2.2.1 x.2.2.1) :: B := by unfold stepT; rw [h4]; exact if_pos rfl
      have e2 : a' = A ++ untilT y0 (maxI y0.2.2.1 x.2.2.1) :: B := by rw [h4] at g1; exact (congrArg Prod.fst g1).symm
      rw [e]
      rw [e2] at g2
      have hy0 := h.mem y0 (by simp)
      have ky0 := hL y0 hy0.1
      have hw : untilT y0 (maxI y0.2.2.1 x.2.2.1) ∈ L ++ [x] := by
        rcases max_cases y0.2.2.1 x.2.2.1 with ⟨e1, _⟩ | ⟨e1, _⟩
        · rw [e1]; exact List.mem_append_left _ hy0.1
        · rw [same_of (y := untilT y0 (maxI y0.2.2.1 x.2.2.1)) (x := x) ky0 hx h2 e1]; simp
      have hwm : g_may (untilT y0 (maxI y0.2.2.1 x.2.2.1)) = true := may_max hm hy0.2
      have hwu : (y0.2.2.1 : Int) ≤ maxI y0.2.2.1 x.2.2.1 ∧ (x.2.2.1 : Int) ≤ maxI y0.2.2.1 x.2.2.1 := max_le _ _
      generalize hwd : untilT y0 (maxI y0.2.2.1 x.2.2.1) = w at *
      have hwk : lexEq w y0 := by rw [← hwd]; exact lex_refl y0
      have hwu' : (w.2.2.1 : Int) = maxI y0.2.2.1 x.2.2.1 := by rw [← hwd]; rfl
      have hin : ∀ z, z ∈ A ++ w :: B ↔ (z ∈ A ∨ z ∈ B) ∨ z = w := fun z => by
        simp only [List.mem_append, List.mem_cons]
        constructor
        · rintro (h | h | h) <;> simp [h]
        · rintro ((h | h) | h) <;> simp [h]
      have hab : ∀ z, z ∈ A ∨ z ∈ B → z ∈ A ++ y0 :: B := fun z hz => by rcases hz with hz | hz <;> simp [hz]
      have hne : ∀ z, z ∈ A ∨ z ∈ B → ¬ lexEq z x := fun z hz hc => by
        rcases hz with hz | hz
        · exact lex_not_eq (h1 z hz) hc
        · exact lex_not_eq' (h3 z hz) hc
      refine ⟨g2, by have := h.len; simp at this ⊢; omega, fun z hz => ?_, fun z hz y hy hmy hyz => ?_, fun y hy hmy => ?_⟩
      · rcases (hin z).1 hz with hz | rfl
        · exact ⟨List.mem_append_left _ (h.mem z (hab z hz)).1, (h.mem z (hab z hz)).2⟩
        · exact ⟨hw, hwm⟩
      · rcases (hin z).1 hz with hz | rfl
        · rcases List.mem_append.1 hy with hy | hy
          · exact h.top z (hab z hz) y hy hmy hyz
          · rw [List.mem_singleton.1 hy] at hyz
            exact absurd (lex_symm hyz) (hne z hz)
        · rw [hwu']
          rcases List.mem_append.1 hy with hy | hy
          · exact Int.le_trans (h.top y0 (by simp) y hy hmy (lex_etrans hyz hwk)) hwu.1
          · rw [List.mem_singleton.1 hy]; exact hwu.2
      · rcases List.mem_append.1 hy with hy | hy
        · obtain ⟨v, hv, hyv⟩ := h.all y hy hmy
          rcases List.mem_append.1 hv with hv | hv
          · exact ⟨v, (hin v).2 (.inl (.inl hv)), hyv⟩
          · rcases List.mem_cons.1 hv with rfl | hv
            · exact ⟨w, (hin w).2 (.inr rfl), lex_etrans hyv (lex_symm hwk)⟩
            · exact ⟨v, (hin v).2 (.inl (.inr hv)), hyv⟩
        · exact ⟨w, (hin w).2 (.inr rfl), by rw [List.mem_singleton.1 hy]; exact lex_symm (lex_etrans hwk h2)⟩

theorem made_same {L L' a a' : List (den tTrigger)} (h : Made L a) (h' : Made L' a') (hL : ∀ y ∈ L, okTr y) (hs : ∀ z, z ∈ L ↔ z ∈ L') : a = a' := by
  have key : ∀ {L L' a a' : List (den tTrigger)}, Made L a → Made L' a' → (∀ y ∈ L, okTr y) → (∀ z, z ∈ L ↔ z ∈ L') → ∀ z ∈ a, z ∈ a' := by
    intro L L' a a' h h' hL hs z hz
    obtain ⟨h1, h2⟩ := h.mem z hz
    obtain ⟨w, hw, hzw⟩ := h'.all z ((hs z).1 h1) h2
    obtain ⟨w1, w2⟩ := h'.mem w hw
    have u1 := h'.top w hw z ((hs z).1 h1) h2 hzw
    have u2 := h.top z hz w ((hs w).2 w1) w2 (lex_symm hzw)
    rw [same_of (hL z h1) (hL w ((hs w).2 w1)) hzw (Int.le_antisymm u1 u2)]
    exact hw
  exact pw_ext (right_iff.1 h.right).2.1 (right_iff.1 h'.right).2.1 fun z => ⟨key h h' hL hs z, key h' h (fun y hy => hL y ((hs y).2 hy)) (fun z => (hs z).symm) z⟩

/-- In the order that starts so far on. -/
def turnedK (c n : Nat) (i : Nat) : Nat := (i + c) % n
theorem turned_mem {α : Type} {l : List α} {c : Nat} (hc : c < l.length) (z : α) : z ∈ l ↔ ∃ i, i < l.length ∧ l[turnedK c l.length i]? = some z := by
  unfold turnedK
  constructor
  · intro h
    obtain ⟨j, hj, e⟩ := List.getElem_of_mem h
    refine ⟨(j + (l.length - c)) % l.length, Nat.mod_lt _ (by omega), ?_⟩
    have : ((j + (l.length - c)) % l.length + c) % l.length = j := by
      rw [Nat.mod_add_mod, show j + (l.length - c) + c = j + l.length by omega, Nat.add_mod_right, Nat.mod_eq_of_lt hj]
    rw [this, List.getElem?_eq_getElem hj, e]
  · rintro ⟨i, hi, e⟩
    exact List.mem_of_getElem? e

/-! ### The parts of a cut -/

theorem in_turn {x a b : List Int} (ha : a.length = 32 ∧ byt a) (hb : b.length = 32 ∧ byt b) (h : a ≠ b) : g_In x b a = !g_In x a b := by
  have hne : vB a ≠ vB b := fun e => h (vB_inj (by rw [ha.1, hb.1]) ha.2 hb.2 e)
  unfold g_In
  rw [if_neg h, if_neg (fun e => h e.symm)]
  by_cases h1 : vB a < vB b
  · rw [if_pos h1, if_neg (by omega), Bool.eq_iff_iff]
    simp only [Bool.or_eq_true, Bool.not_eq_true', Bool.and_eq_false_iff, decide_eq_true_eq, decide_eq_false_iff_not]
    omega
  · rw [if_neg h1, if_pos (by omega), Bool.eq_iff_iff]
    simp only [Bool.and_eq_true, Bool.not_eq_true', Bool.or_eq_false_iff, decide_eq_true_eq, decide_eq_false_iff_not]
    omega

theorem in_whole (x a : List Int) : g_In x a a = true := by unfold g_In; rw [if_pos rfl]

theorem parts_len {α : Type} (p : α → Bool) : ∀ t : List α, (t.filter p).length + (t.filter fun x => !p x).length = t.length
  | [] => rfl
  | x :: t => by
    have := parts_len p t
    rw [List.filter_cons, List.filter_cons]
    cases p x <;> simp <;> omega

structure Both (t b a : List (den tTrigger)) (i : Nat) (all : List (den tTrigger)) : Prop where
  right : g_Right all = true
  len : all.length = b.length + i
  mem : ∀ z, z ∈ all ↔ z ∈ b ∨ z ∈ a.take i

theorem both_step {t : List (den tTrigger)} (ht : g_Right t = true) (p : den tTrigger → Bool) {i : Nat} {all : List (den tTrigger)} (hi : i < (t.filter p).length) (h : Both t (t.filter fun x => !p x) (t.filter p) i all) :
    ∃ more, g_Put all (t.filter p)[i] = (more, 0) ∧ Both t (t.filter fun x => !p x) (t.filter p) (i + 1) more := by
  obtain ⟨t1, t2, t3⟩ := right_iff.1 ht
  have hpl := parts_len p t
  have hxm := List.getElem_mem hi
  have hxt := (List.mem_filter.1 hxm).1
  have hxp := (List.mem_filter.1 hxm).2
  have hpa := t2.filter p
  have huniq : ∀ {y z : den tTrigger}, y ∈ t → z ∈ t → lexEq y z → y = z := by
    intro y z hy hz he
    obtain ⟨j, hj, rfl⟩ := List.getElem_of_mem hy
    obtain ⟨k, hk, rfl⟩ := List.getElem_of_mem hz
    rw [List.pairwise_iff_getElem] at t2
    rcases Nat.lt_trichotomy j k with h | h | h
    · exact absurd he (lex_not_eq (t2 j k hj hk h))
    · subst h; rfl
    · exact absurd he (lex_not_eq' (t2 k j hk hj h))
  have hsub : ∀ z ∈ all, z ∈ t := fun z hz => by
    rcases (h.mem z).1 hz with h1 | h1
    · exact (List.mem_filter.1 h1).1
    · exact (List.mem_filter.1 (List.mem_of_mem_take h1)).1
  have hnot : (t.filter p)[i] ∉ all := fun hc => by
    rcases (h.mem _).1 hc with h1 | h1
    · have := (List.mem_filter.1 h1).2
      rw [hxp] at this; cases this
    · obtain ⟨j, hj, e⟩ := List.getElem_of_mem h1
      rw [List.length_take] at hj
      rw [List.getElem_take] at e
      rw [List.pairwise_iff_getElem] at hpa
      have := hpa j i (by omega) hi (by omega)
      rw [e] at this
      exact lex_irrefl this
  have hl := h.len
  rcases put_cases h.right _ (t1 _ hxt) with ⟨A, B, hAB, h1, h2, h3, h4⟩ | ⟨A, y, B, hAB, h1, h2, h3, _, h4⟩
  · rcases h4 with ⟨h5, _⟩ | ⟨h5, h6⟩
    · omega
    · obtain ⟨a', g1, g2, g3⟩ := put_right h.right _ (t1 _ hxt) (.inl h5)
      rw [h6] at g1
      have e := congrArg Prod.fst g1
      have e : A ++ (t.filter p)[i] :: B = a' := e
      refine ⟨_, h6, by rw [e]; exact g2, by rw [hAB] at hl; simp at hl ⊢; omega, fun z => ?_⟩
      rw [List.take_succ_eq_append_getElem hi]
      have hz := h.mem z
      rw [hAB] at hz
      rw [List.mem_append] at hz
      rw [List.mem_append, List.mem_append, List.mem_singleton, ← or_assoc (a := z ∈ List.filter (fun x => !p x) t), ← hz, List.mem_cons]
      constructor
      · rintro (h | h | h) <;> simp [h]
      · rintro ((h | h) | h) <;> simp [h]
  · exfalso
    have hy : y ∈ all := by rw [hAB]; simp
    rw [huniq (hsub y hy) hxt h2] at hy
    exact hnot hy

theorem both_end {t : List (den tTrigger)} (ht : g_Right t = true) (p : den tTrigger → Bool) {all : List (den tTrigger)} (h : Both t (t.filter fun x => !p x) (t.filter p) (t.filter p).length all) : all = t := by
  refine pw_ext (right_iff.1 h.right).2.1 (right_iff.1 ht).2.1 fun z => ?_
  rw [h.mem z, List.take_length, List.mem_filter, List.mem_filter]
  constructor
  · rintro (h | h) <;> exact h.1
  · intro hz
    cases hp : p z
    · exact .inl ⟨hz, by rfl⟩
    · exact .inr ⟨hz, rfl⟩

end Go.Proofs.Ytnccacngedeoeaa

/- What may be stays such; what is put is matched by its own identifier, until it is dropped, or its time is over. -/
namespace Go.Proofs.Ytnccacngedeoeaa
open Go Go.RowKit

theorem okTr_of' {x : den tTrigger} (h : okT tTrigger x) : okTr x := ⟨ok_byt h.1, ok_byt h.2.1.2.1⟩

/-- The result is true. -/
abbrev isTrue (y : den (.pair .bool .unit)) : Prop := y = (true, ())

theorem put_none {t : List (den tTrigger)} {x : den tTrigger} (h : ¬ (g_Put t x).2 = 0) : (g_Put t x).1 = [] := by
  by_cases hc : (g_Right t && g_may x) = true
  · by_cases ht : thereB t x = true
    · exact absurd (by unfold g_Put; rw [if_pos hc, if_pos ht]) h
    · by_cases h3 : t.length = 32
      · unfold g_Put; rw [if_pos hc, if_neg ht, if_pos h3]
      · exact absurd (by unfold g_Put; rw [if_pos hc, if_neg ht, if_neg h3]) h
  · unfold g_Put; rw [if_neg hc]

def gl_TableKeeps_26 (O : Nat → Prop) (w0 : World) (t a c d : List (den tTrigger)) (x : den tTrigger) (hd : ∀ y ∈ d, (x.2.2.1 : Int) < y.2.2.1) (hdl : d.length ≤ 1000000)
    (hc : (c.length : Int) = IntKind.wrap .i64 ((a.length : Int) - 1)) (ha : (a.length : Int) ≤ IntKind.wrap .i64 ((t.length : Int) + 1)) :=
  PLift.up <| range_ind (σ := Unit) d.length (fun _ _ => True)
    (fun i _ => GoodS prog X_l12_TableKeeps (Cx.base O w0) (Ends prog O w0 rs_l12_TableKeeps isTrue) [] fx_l12_TableKeeps (lp f_l12_TableKeeps 26) (E_l12_TableKeeps_26 t a c true d (lnx tTrigger d) (i : Nat) x))
    (fun i s hi _ ih => goodS_of (x_l12_TableKeeps k_l12_few k_table_Put k_l12_alive k_table_Match k_table_Drop k_table_Expire k_r12_Same k_table_Right k_ident_Common) (TL_l12_TableKeeps_26_eq t a c true d _ _ x) (by
      refine ⟨fun _ => ⟨inB_of hi, ?_⟩, fun h => ?_⟩
      · rw [el_at hi, wr_idx hi (by omega)]
        refine ⟨fun h => ?_, fun h => ih () trivial⟩
        have h : (d[i].2.2.1 : Int) ≤ x.2.2.1 := of_decide_eq_true h
        exact absurd (Int.lt_of_lt_of_le (hd _ (List.getElem_mem hi)) h) (Int.lt_irrefl _)
      · rw [lnx_nat] at h
        exact absurd hi (of_decide_eq_false h)))
    (fun s _ => goodS_of (x_l12_TableKeeps k_l12_few k_table_Put k_l12_alive k_table_Match k_table_Drop k_table_Expire k_r12_Same k_table_Right k_ident_Common) (TL_l12_TableKeeps_26_eq t a c true d _ _ x) (by
      refine ⟨fun h => ?_, fun _ => ⟨_, rfl, ?_⟩⟩
      · rw [lnx_nat] at h
        exact absurd (of_decide_eq_true h) (Nat.lt_irrefl _)
      · rw [lnx_eq, lnx_eq, lnx_eq, decide_eq_true hc, decide_eq_true ha]; rfl))

def gl_TableKeeps_20 (O : Nat → Prop) (w0 : World) (t a c d : List (den tTrigger)) (x : den tTrigger) (hd : ∀ y ∈ d, (x.2.2.1 : Int) < y.2.2.1) (hdl : d.length ≤ 1000000)
    (hc : (c.length : Int) = IntKind.wrap .i64 ((a.length : Int) - 1)) (ha : (a.length : Int) ≤ IntKind.wrap .i64 ((t.length : Int) + 1)) (hcl : c.length ≤ 1000000) (hck : ∀ y ∈ c, isIE y x.1 x.2.1 = false) :=
  PLift.up <| range_ind (σ := Unit) c.length (fun _ _ => True)
    (fun i _ => GoodS prog X_l12_TableKeeps (Cx.base O w0) (Ends prog O w0 rs_l12_TableKeeps isTrue) [] fx_l12_TableKeeps (lp f_l12_TableKeeps 20) (E_l12_TableKeeps_20 t a c d true c (lnx tTrigger c) (i : Nat) x))
    (fun i s hi _ ih => goodS_of (x_l12_TableKeeps k_l12_few k_table_Put k_l12_alive k_table_Match k_table_Drop k_table_Expire k_r12_Same k_table_Right k_ident_Common) (TL_l12_TableKeeps_20_eq t a c d true c _ _ x) (by
      refine ⟨fun _ => ⟨inB_of hi, ?_⟩, fun h => ?_⟩
      · rw [el_at hi, wr_idx hi (by omega)]
        refine ⟨fun h => ?_, fun h => ih () trivial⟩
        exfalso
        have := hck _ (List.getElem_mem hi)
        have e : (bif eqb tId c[i].1 x.1 then eqb tEntry c[i].2.1 x.2.1 else false) = isIE c[i] x.1 x.2.1 := by
          unfold isIE
          have e1 : eqb tId c[i].1 x.1 = decide (c[i].1 = x.1) := Bool.eq_iff_iff.2 ((eqb_iff (t := tId) rfl _ _).trans decide_eq_true_iff.symm)
          have e2 : eqb tEntry c[i].2.1 x.2.1 = decide (c[i].2.1 = x.2.1) := Bool.eq_iff_iff.2 ((eqb_iff (t := tEntry) rfl _ _).trans decide_eq_true_iff.symm)
          rw [e1, e2]
          cases decide (c[i].1 = x.1) <;> rfl
        rw [e, this] at h
        cases h
      · rw [lnx_nat] at h
        exact absurd hi (of_decide_eq_false h)))
    (fun s _ => goodS_of (x_l12_TableKeeps k_l12_few k_table_Put k_l12_alive k_table_Match k_table_Drop k_table_Expire k_r12_Same k_table_Right k_ident_Common) (TL_l12_TableKeeps_20_eq t a c d true c _ _ x) (by
      refine ⟨fun h => ?_, fun _ => (gl_TableKeeps_26 O w0 t a c d x hd hdl hc ha).down 0 () (Nat.zero_le _) trivial⟩
      rw [lnx_nat] at h
      exact absurd (of_decide_eq_true h) (Nat.lt_irrefl _)))

def hitK (x y : den tTrigger) : Bool := decide (y.2.1 = x.2.1) && decide ((x.2.2.1 : Int) ≤ y.2.2.1)

def gl_TableKeeps_13 (O : Nat → Prop) (w0 : World) (t a c d m : List (den tTrigger)) (x : den tTrigger) (hd : ∀ y ∈ d, (x.2.2.1 : Int) < y.2.2.1) (hdl : d.length ≤ 1000000)
    (hc : (c.length : Int) = IntKind.wrap .i64 ((a.length : Int) - 1)) (ha : (a.length : Int) ≤ IntKind.wrap .i64 ((t.length : Int) + 1)) (hcl : c.length ≤ 1000000) (hck : ∀ y ∈ c, isIE y x.1 x.2.1 = false)
    (hml : m.length ≤ 1000000) (hmk : ∀ y ∈ m, y.1 = x.1) (hhit : m.any (hitK x) = true) :=
  PLift.up <| range_ind (σ := Bool) m.length (fun i s => s = (m.take i).any (hitK x))
    (fun i s => GoodS prog X_l12_TableKeeps (Cx.base O w0) (Ends prog O w0 rs_l12_TableKeeps isTrue) [] fx_l12_TableKeeps (lp f_l12_TableKeeps 13) (E_l12_TableKeeps_13 t a c d s m (lnx tTrigger m) (i : Nat) x))
    (fun i s hi hs ih => goodS_of (x_l12_TableKeeps k_l12_few k_table_Put k_l12_alive k_table_Match k_table_Drop k_table_Expire k_r12_Same k_table_Right k_ident_Common) (TL_l12_TableKeeps_13_eq t a c d s m _ _ x) (by
      refine ⟨fun _ => ⟨inB_of hi, fun _ => trivial, ?_⟩, fun h => ?_⟩
      · rw [el_at hi, wr_idx hi (by omega)]
        have hk := hmk _ (List.getElem_mem hi)
        have e1 : eqb tId m[i].1 x.1 = true := (eqb_iff (t := tId) rfl _ _).2 hk
        have e3 : g_Common m[i].1 x.1 = 256 := by rw [hk]; exact common_same _
        refine ⟨fun h => ?_, fun h => ih _ ?_⟩
        · rw [e1, e3] at h; cases h
        · have e2 : eqb tEntry m[i].2.1 x.2.1 = decide (m[i].2.1 = x.2.1) := Bool.eq_iff_iff.2 ((eqb_iff (t := tEntry) rfl _ _).trans decide_eq_true_iff.symm)
          rw [e2, List.take_succ_eq_append_getElem hi, List.any_append, ← hs, List.any_cons, List.any_nil, Bool.or_false, hitK]
          cases s <;> cases decide (m[i].2.1 = x.2.1) <;> rfl
      · rw [lnx_nat] at h
        exact absurd hi (of_decide_eq_false h)))
    (fun s hs => goodS_of (x_l12_TableKeeps k_l12_few k_table_Put k_l12_alive k_table_Match k_table_Drop k_table_Expire k_r12_Same k_table_Right k_ident_Common) (TL_l12_TableKeeps_13_eq t a c d s m _ _ x) (by
      refine ⟨fun h => ?_, fun _ => ?_⟩
      · rw [lnx_nat] at h
        exact absurd (of_decide_eq_true h) (Nat.lt_irrefl _)
      · have hs : s = (m.take m.length).any (hitK x) := hs
        rw [List.take_length, hhit] at hs
        subst hs
        exact (gl_TableKeeps_20 O w0 t a c d x hd hdl hc ha hcl hck).down 0 () (Nat.zero_le _) trivial))

theorem k_l12_TableKeeps : FnOk prog [] n_l12_TableKeeps (lawS as_l12_TableKeeps) :=
  fnS_T (S := lawS as_l12_TableKeeps) (x_l12_TableKeeps k_l12_few k_table_Put k_l12_alive k_table_Match k_table_Drop k_table_Expire k_r12_Same k_table_Right k_ident_Common) (fx := fx_l12_TableKeeps) at_l12_TableKeeps (by kernel_rfl) (fun _ _ => trivial) (T := fun x => T_l12_TableKeeps x.1 x.2.1) (fun x => T_l12_TableKeeps_eq x.1 x.2.1) fun O w0 x hk _ => by
    obtain ⟨t0, x, ⟨⟩⟩ := x
    have hl : (t0.take 34).length ≤ 1000000 := by rw [List.length_take]; omega
    have hkt : ∀ z ∈ t0.take 34, okTr z := fun z hz => okTr_of' (hk.1.2 z (List.mem_of_mem_take hz))
    have hkx : okTr x := okTr_of' hk.2.1
    clear hk
    refine ⟨trivial, fun t ht => ?_⟩
    have ht : t = t0.take 34 := ht
    rw [← ht] at hl hkt
    refine ⟨hl, fun q hq => ⟨fun h => ?_, fun h => ?_⟩⟩
    · refine ⟨trivial, fun b hb => ⟨_, rfl, ?_⟩⟩
      subst hb
      subst hq
      have h : ¬ (g_Put t x).2 = 0 := by simpa using h
      have : (g_Put t x).1 = [] := put_none h
      show ((bif true then decide (lnx tTrigger (g_Put t x).1 = 0) else false), PUnit.unit) = (true, ())
      rw [this]; rfl
    · have h : (g_Put t x).2 = 0 := by
        subst hq
        simpa using h
      obtain ⟨hr, hm⟩ := put_ok h
      obtain ⟨r1, r2, r3⟩ := right_iff.1 hr
      -- what is put
      obtain ⟨A, z, B, hput, hA, hz, hB, hzu, hAt, hzok, hzm, hBt, hle⟩ : ∃ A z B, g_Put t x = (A ++ z :: B, 0) ∧ (∀ y ∈ A, lexLt y x) ∧ lexEq z x ∧ (∀ y ∈ B, lexLt x y) ∧ (x.2.2.1 : Int) ≤ z.2.2.1 ∧ (∀ y ∈ A, y ∈ t) ∧ okTr z ∧ g_may z = true ∧ (∀ y ∈ B, y ∈ t) ∧ (A ++ z :: B).length ≤ t.length + 1 := by
        rcases put_cases hr x hm with ⟨A, B, rfl, h1, h2, h3, h4⟩ | ⟨A, y, B, rfl, h1, h2, h3, _, h4⟩
        · rcases h4 with ⟨_, h6⟩ | ⟨_, h6⟩
          · rw [h6] at h; cases h
          · exact ⟨A, x, B, h6, h1, lex_refl x, h2, Int.le_refl _, fun y hy => List.mem_append_left _ hy, hkx, hm, fun y hy => List.mem_append_right _ hy, by simp; omega⟩
        · exact ⟨A, _, B, h4, h1, h2, h3, (max_le y.2.2.1 x.2.2.1).2, fun z hz => List.mem_append_left _ hz, hkt y (by simp), may_max hm (r1 y (by simp)), fun z hz => by simp [hz], by simp⟩
      have hra : g_Right (A ++ z :: B) = true := by
        obtain ⟨a', g1, g2, _⟩ := put_right hr x hm (by
          rcases put_cases hr x hm with ⟨A, B, rfl, h1, h2, h3, h4⟩ | ⟨A, y, B, rfl, h1, h2, h3, h4, _⟩
          · rcases h4 with ⟨_, h6⟩ | ⟨h5, _⟩
            · rw [h6] at h; cases h
            · exact .inl h5
          · exact .inr h4)
        rw [hput] at g1
        have : A ++ z :: B = a' := congrArg Prod.fst g1
        rw [this]; exact g2
      obtain ⟨s1, s2, s3⟩ := right_iff.1 hra
      have hka : ∀ y ∈ A ++ z :: B, okTr y := fun y hy => by
        rcases List.mem_append.1 hy with hy | hy
        · exact hkt y (hAt y hy)
        · rcases List.mem_cons.1 hy with rfl | hy
          · exact hzok
          · exact hkt y (hBt y hy)
      have hie := (isIE_iff hzok hkx).2 hz
      unfold isIE at hie
      rw [Bool.and_eq_true, decide_eq_true_eq, decide_eq_true_eq] at hie
      obtain ⟨hz1, hz2⟩ := hie
      -- there
      have hsplit : ∀ A' y B', A ++ z :: B = A' ++ y :: B' → (∀ w ∈ A', lexLt w x) → lexEq y x → (∀ w ∈ B', lexLt x w) → A' = A ∧ y = z ∧ B' = B := by
        intro A' y B' e h1 h2 h3
        have el : A'.length = A.length := by
          rcases Nat.lt_trichotomy A'.length A.length with hlt | heq | hgt
          · exfalso
            have e1 : (A ++ z :: B)[A'.length]? = some y := by rw [e]; simp
            rw [List.getElem?_append_left hlt] at e1
            exact lex_not_eq (hA _ (List.mem_of_getElem? e1)) h2
          · exact heq
          · exfalso
            have e1 : (A' ++ y :: B')[A.length]? = some z := by rw [← e]; simp
            rw [List.getElem?_append_left hgt] at e1
            exact lex_not_eq (h1 _ (List.mem_of_getElem? e1)) hz
        have := List.append_inj e el.symm
        have e2 := this.2
        injection e2 with e3 e4
        exact ⟨this.1.symm, e3.symm, e4.symm⟩
      have hth : thereB (A ++ z :: B) x = true := by
        cases hc : thereB (A ++ z :: B) x with
        | true => rfl
        | false => exact absurd hz (there_false (tab_of_right hra) hc z (by simp))
      have hput2 : g_Put (A ++ z :: B) x = (A ++ z :: B, 0) := by
        rcases put_cases hra x hm with ⟨_, _, _, _, _, h3, _⟩ | ⟨A', y, B', e, h1, h2, h3, _, h4⟩
        · rw [hth] at h3; cases h3
        · obtain ⟨rfl, rfl, rfl⟩ := hsplit A' y B' e h1 h2 h3
          rw [h4]
          congr 2
          have : maxI y.2.2.1 x.2.2.1 = y.2.2.1 := by
            rcases max_cases y.2.2.1 x.2.2.1 with ⟨e, _⟩ | ⟨e, e'⟩
            · exact e
            · rw [e]; exact Int.le_antisymm hzu e'
          rw [this]; rfl
      have hmatch := match_own hra hka hkx (z := z) (by simp) hz1
      have hkey : keyT x.1 x.2.1 = untilT x 0 := rfl
      have hdrop : g_Drop (A ++ z :: B) x.1 x.2.1 = (A ++ B, 0) := by
        rcases drop_law hra hka x.1 x.2.1 (by rw [hkey]; exact hkx) with ⟨e1, _⟩ | ⟨_, e1⟩
        · rw [find_there hkx (fun w hw => hka w (by simp [hw])) hzok hA hz] at e1
          exact absurd e1 (Int.not_lt.2 (may_until hzm))
        · rw [e1, without_there hkx (fun w hw => hka w (by simp [hw])) hzok (fun w hw => hka w (by simp [hw])) hA hz hB]
      have hexp : g_TExpire (A ++ z :: B) x.2.2.1 = ((A ++ z :: B).filter fun y => decide ((x.2.2.1 : Int) < y.2.2.1), 0) := by
        unfold g_TExpire; rw [if_pos hra]; rfl
      have hrc : g_Right (A ++ B) = true := right_iff.2 ⟨fun y hy => s1 y (by rcases List.mem_append.1 hy with h | h <;> simp [h]), pw_out s2, by simp at s3 ⊢; omega⟩
      have hq : q = (A ++ z :: B, 0, ()) := by rw [hq, hput]
      subst hq
      have la : (A ++ z :: B).length ≤ 1000000 := by omega
      have lc : (A ++ B).length ≤ 1000000 := by simp at la ⊢; omega
      refine ⟨la, fun q4 h4 => ⟨la, fun q5 h5 => ⟨la, fun q6 h6 => ⟨la, fun q7 h7 => ?_⟩⟩⟩⟩
      have h4 : q4 = (A ++ z :: B, 0, ()) := h4.trans (by show ((g_Put (A ++ z :: B) x).1, (g_Put (A ++ z :: B) x).2, ()) = _; rw [hput2])
      have h5 : q5 = ((A ++ z :: B).filter (fun y => decide (y.1 = x.1)), 0, ()) := h5.trans (by show ((g_Match (A ++ z :: B) x.1).1, (g_Match (A ++ z :: B) x.1).2, ()) = _; rw [hmatch])
      have h6 : q6 = (A ++ B, 0, ()) := h6.trans (by show ((g_Drop (A ++ z :: B) x.1 x.2.1).1, (g_Drop (A ++ z :: B) x.1 x.2.1).2, ()) = _; rw [hdrop])
      have h7 : q7 = ((A ++ z :: B).filter (fun y => decide ((x.2.2.1 : Int) < y.2.2.1)), 0, ()) := h7.trans (by show ((g_TExpire (A ++ z :: B) x.2.2.1).1, (g_TExpire (A ++ z :: B) x.2.2.1).2, ()) = _; rw [hexp])
      subst h4 h5 h6 h7
      have hrd := right_filter hra fun y => decide ((x.2.2.1 : Int) < y.2.2.1)
      have ld : ((A ++ z :: B).filter fun y => decide ((x.2.2.1 : Int) < y.2.2.1)).length ≤ 1000000 := Nat.le_trans (List.length_filter_le _ _) la
      have lm : ((A ++ z :: B).filter fun y => decide (y.1 = x.1)).length ≤ 1000000 := Nat.le_trans (List.length_filter_le _ _) la
      refine ⟨fun _ => trivial, fun _ => la, fun _ => lc, fun _ => ld, fun _ => trivial, fun h9 => ?_, fun _ => ?_⟩
      · have e : (!decide (A ++ z :: B = A ++ z :: B)) = false := by simp
        have h9 : (bif (bif (bif (bif (bif false then true else !decide (A ++ z :: B = A ++ z :: B)) then true else !g_Right (A ++ z :: B)) then true else !g_Right (A ++ B)) then true else !g_Right ((A ++ z :: B).filter fun y => decide ((x.2.2.1 : Int) < y.2.2.1))) then true else !true) = true := h9
        rw [e, hra, hrc, hrd] at h9
        cases h9
      · refine (gl_TableKeeps_13 O w0 t (A ++ z :: B) (A ++ B) _ _ x (fun y hy => of_decide_eq_true (List.mem_filter.1 hy).2) ld ?_ ?_ lc ?_ lm (fun y hy => of_decide_eq_true (List.mem_filter.1 hy).2) ?_).down 0 false (Nat.zero_le _) rfl
        · rw [small_i64 (by simp at la ⊢; omega)]; simp; omega
        · rw [small_i64 (by omega)]; omega
        · intro y hy
          have hyk : okTr y := hka y (by rcases List.mem_append.1 hy with h | h <;> simp [h])
          refine isIE_false hyk hkx fun hc => ?_
          rcases List.mem_append.1 hy with h | h
          · exact lex_not_eq (hA y h) hc
          · exact lex_not_eq' (hB y h) hc
        · rw [List.any_eq_true]
          refine ⟨z, List.mem_filter.2 ⟨by simp, decide_eq_true hz1⟩, ?_⟩
          unfold hitK
          rw [decide_eq_true hz2, decide_eq_true hzu]; rfl

end Go.Proofs.Ytnccacngedeoeaa
