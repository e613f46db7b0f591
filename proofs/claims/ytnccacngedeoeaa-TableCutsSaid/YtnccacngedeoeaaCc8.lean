/- Part 8 of 8 of what this claim's proof stands on: a theory of programs on data, and the contracts of the functions that the law reaches. It holds no condition of its own. -/
import Derived.Test.YtnccacngedeoeaaCc7

/- Tables, put together: in whatever order, and of the parts of a cut. No program here. -/
namespace Go.Proofs.Ytnccacngedeoeaa
open Go Go.RowKit

theorem lex_refl (a : den tTrigger) : lexEq a a := ⟨rfl, rfl, rfl, rfl⟩
theorem lex_symm {a b : den tTrigger} (h : lexEq a b) : lexEq b a := by obtain ⟨h1, h2, h3, h4⟩ := h; exact ⟨h1.symm, h2.symm, h3.symm, h4.symm⟩
theorem lex_etrans {a b c : den tTrigger} (h : lexEq a b) (k : lexEq b c) : lexEq a c := by
  obtain ⟨h1, h2, h3, h4⟩ := h; obtain ⟨k1, k2, k3, k4⟩ := k
  exact ⟨h1.trans k1, h2.trans k2, h3.trans k3, h4.trans k4⟩

/-- Of one key and one time: the same. -/
theorem same_of {y x : den tTrigger} (hy : okTr y) (hx : okTr x) (h : lexEq y x) (hu : (y.2.2.1 : Int) = x.2.2.1) : y = x := by
  have := (isIE_iff hy hx).2 h
  unfold isIE at this
  rw [Bool.and_eq_true, decide_eq_true_eq, decide_eq_true_eq] at this
  obtain ⟨h1, h2⟩ := this
  obtain ⟨yi, yt, yu, ⟨⟩⟩ := y
  obtain ⟨xi, xt, xu, ⟨⟩⟩ := x
  have h1 : yi = xi := h1
  have h2 : yt = xt := h2
  have hu : yu = xu := hu
  rw [h1, h2, hu]

theorem until_ok {y : den tTrigger} (h : okTr y) (u : Int) : okTr (untilT y u) := h
theorem max_le (a b : Int) : a ≤ maxI a b ∧ b ≤ maxI a b := by unfold maxI; split <;> omega
theorem max_cases (a b : Int) : (maxI a b = a ∧ b ≤ a) ∨ (maxI a b = b ∧ a ≤ b) := by unfold maxI; split <;> omega

/-! ### Putting one behind the other -/

def stepT (a : List (den tTrigger)) (x : den tTrigger) : List (den tTrigger) := if (g_Put a x).2 = 0 then (g_Put a x).1 else a

structure Made (L a : List (den tTrigger)) : Prop where
  right : g_Right a = true
  len : a.length ≤ L.length
  mem : ∀ z ∈ a, z ∈ L ∧ g_may z = true
  top : ∀ z ∈ a, ∀ y ∈ L, g_may y = true → lexEq y z → (y.2.2.1 : Int) ≤ z.2.2.1
  all : ∀ y ∈ L, g_may y = true → ∃ z ∈ a, lexEq y z

theorem made_nil : Made [] [] := ⟨rfl, Nat.le_refl _, fun _ h => (by cases h), fun _ h => (by cases h), fun _ h => (by cases h)⟩

theorem made_step {L a : List (den tTrigger)} (h : Made L a) {x : den tTrigger} (hL : ∀ y ∈ L, okTr y) (hx : okTr x) (hlen : L.length < 32) : Made (L ++ [x]) (stepT a x) := by
  have hk : ∀ z ∈ a, okTr z := fun z hz => hL z (h.mem z hz).1
  cases hm : g_may x with
  | false =>
    have e : stepT a x = a := by unfold stepT; rw [put_not (by rw [hm, Bool.and_false])]; exact if_neg (by decide)
    rw [e]
    refine ⟨h.right, by have := h.len; simp; omega, fun z hz => ⟨List.mem_append_left _ (h.mem z hz).1, (h.mem z hz).2⟩, fun z hz y hy hmy hyz => ?_, fun y hy hmy => ?_⟩
    · rcases List.mem_append.1 hy with hy | hy
      · exact h.top z hz y hy hmy hyz
      · rw [List.mem_singleton.1 hy, hm] at hmy; cases hmy
    · rcases List.mem_append.1 hy with hy | hy
      · exact h.all y hy hmy
      · rw [List.mem_singleton.1 hy, hm] at hmy; cases hmy
  | true =>
    rcases put_cases h.right x hm with ⟨A, B, rfl, h1, h2, h3, h4⟩ | ⟨A, y0, B, rfl, h1, h2, h3, h3', h4⟩
    · rcases h4 with ⟨h5, _⟩ | ⟨h5, h6⟩
      · have := h.len; omega
      · obtain ⟨a', g1, g2, g3⟩ := put_right h.right x hm (.inl h5)
        have e : stepT (A ++ B) x = A ++ x :: B := by unfold stepT; rw [h6]; exact if_pos rfl
        have e2 : a' = A ++ x :: B := by rw [h6] at g1; exact (congrArg Prod.fst g1).symm
        rw [e]
        rw [e2] at g2
        have hin : ∀ z, z ∈ A ++ x :: B ↔ z ∈ A ++ B ∨ z = x := fun z => by
          simp only [List.mem_append, List.mem_cons]
          constructor
          · rintro (h | h | h) <;> simp [h]
          · rintro ((h | h) | h) <;> simp [h]
        have hne : ∀ z ∈ A ++ B, ¬ lexEq z x := fun z hz hc => by
          rcases List.mem_append.1 hz with hz | hz
          · exact lex_not_eq (h1 z hz) hc
          · exact lex_not_eq' (h2 z hz) hc
        refine ⟨g2, by have := h.len; simp at this ⊢; omega, fun z hz => ?_, fun z hz y hy hmy hyz => ?_, fun y hy hmy => ?_⟩
        · rcases (hin z).1 hz with hz | rfl
          · exact ⟨List.mem_append_left _ (h.mem z hz).1, (h.mem z hz).2⟩
          · exact ⟨by simp, hm⟩
        · rcases (hin z).1 hz with hz | rfl
          · rcases List.mem_append.1 hy with hy | hy
            · exact h.top z hz y hy hmy hyz
            · rw [List.mem_singleton.1 hy] at hyz
              exact absurd (lex_symm hyz) (hne z hz)
          · rcases List.mem_append.1 hy with hy | hy
            · obtain ⟨w, hw, hyw⟩ := h.all y hy hmy
              exact absurd (lex_etrans (lex_symm hyw) hyz) (hne w hw)
            · rw [List.mem_singleton.1 hy]; exact Int.le_refl _
        · rcases List.mem_append.1 hy with hy | hy
          · obtain ⟨w, hw, hyw⟩ := h.all y hy hmy
            exact ⟨w, (hin w).2 (.inl hw), hyw⟩
          · exact ⟨x, (hin x).2 (.inr rfl), by rw [List.mem_singleton.1 hy]; exact lex_refl x⟩
    · obtain ⟨a', g1, g2, g3⟩ := put_right h.right x hm (.inr h3')
      have e : stepT (A ++ y0 :: B) x = A ++ untilT y0 (maxI y0.2.2.1 x.2.2.1) :: B := by unfold stepT; rw [h4]; exact if_pos rfl
      have e2 : a' = A ++ untilT y0 (maxI y0.2.2.1 x.2.2.1) :: B := by rw [h4] at g1; exact (congrArg Prod.fst g1).symm
      rw [e]
      rw [e2] at g2
      have hy0 := h.mem y0 (by simp)
      have ky0 := hL y0 hy0.1
      have hw : untilT y0 (maxI y0.2.2.1 x.2.2.1) ∈ L ++ [x] := by
        rcases max_cases y0.2.2.1 x.2.2.1 with ⟨e1, _⟩ | ⟨e1, _⟩
        · rw [e1]; exact List.mem_append_left _ hy0.1
        · rw [same_of (y := untilT y0 (maxI y0.2.2.1 x.2.2.1)) (x := x) ky0 hx h2 e1]; simp
      have hwm : g_may (untilT y0 (maxI y0.2.2.1 x.2.2.1)) = true := may_max hm hy0.2
      have hwu : (y0.2.2.1 : Int) ≤ maxI y0.2.2.1 x.2.2.1 ∧ (x.2.2.1 : Int) ≤ maxI y0.2.2.1 x.2.2.1 := max_le _ _
      generalize hwd : untilT y0 (maxI y0.2.2.1 x.2.2.1) = w at *
      have hwk : lexEq w y0 := by rw [← hwd]; exact lex_refl y0
      have hwu' : (w.2.2.1 : Int) = maxI y0.2.2.1 x.2.2.1 := by rw [← hwd]; rfl
      have hin : ∀ z, z ∈ A ++ w :: B ↔ (z ∈ A ∨ z ∈ B) ∨ z = w := fun z => by
        simp only [List.mem_append, List.mem_cons]
        constructor
        · rintro (h | h | h) <;> simp [h]
        · rintro ((h | h) | h) <;> simp [h]
      have hab : ∀ z, z ∈ A ∨ z ∈ B → z ∈ A ++ y0 :: B := fun z hz => by rcases hz with hz | hz <;> simp [hz]
      have hne : ∀ z, z ∈ A ∨ z ∈ B → ¬ lexEq z x := fun z hz hc => by
        rcases hz with hz | hz
        · exact lex_not_eq (h1 z hz) hc
        · exact lex_not_eq' (h3 z hz) hc
      refine ⟨g2, by have := h.len; simp at this ⊢; omega, fun z hz => ?_, fun z hz y hy hmy hyz => ?_, fun y hy hmy => ?_⟩
      · rcases (hin z).1 hz with hz | rfl
        · exact ⟨List.mem_append_left _ (h.mem z (hab z hz)).1, (h.mem z (hab z hz)).2⟩
        · exact ⟨hw, hwm⟩
      · rcases (hin z).1 hz with hz | rfl
        · rcases List.mem_append.1 hy with hy | hy
          · exact h.top z (hab z hz) y hy hmy hyz
          · rw [List.mem_singleton.1 hy] at hyz
            exact absurd (lex_symm hyz) (hne z hz)
        · rw [hwu']
          rcases List.mem_append.1 hy with hy | hy
          · exact Int.le_trans (h.top y0 (by simp) y hy hmy (lex_etrans hyz hwk)) hwu.1
          · rw [List.mem_singleton.1 hy]; exact hwu.2
      · rcases List.mem_append.1 hy with hy | hy
        · obtain ⟨v, hv, hyv⟩ := h.all y hy hmy
          rcases List.mem_append.1 hv with hv | hv
          · exact ⟨v, (hin v).2 (.inl (.inl hv)), hyv⟩
          · rcases List.mem_cons.1 hv with rfl | hv
            · exact ⟨w, (hin w).2 (.inr rfl), lex_etrans hyv (lex_symm hwk)⟩
            · exact ⟨v, (hin v).2 (.inl (.inr hv)), hyv⟩
        · exact ⟨w, (hin w).2 (.inr rfl), by rw [List.mem_singleton.1 hy]; exact lex_symm (lex_etrans hwk h2)⟩

theorem made_same {L L' a a' : List (den tTrigger)} (h : Made L a) (h' : Made L' a') (hL : ∀ y ∈ L, okTr y) (hs : ∀ z, z ∈ L ↔ z ∈ L') : a = a' := by
  have key : ∀ {L L' a a' : List (den tTrigger)}, Made L a → Made L' a' → (∀ y ∈ L, okTr y) → (∀ z, z ∈ L ↔ z ∈ L') → ∀ z ∈ a, z ∈ a' := by
    intro L L' a a' h h' hL hs z hz
    obtain ⟨h1, h2⟩ := h.mem z hz
    obtain ⟨w, hw, hzw⟩ := h'.all z ((hs z).1 h1) h2
    obtain ⟨w1, w2⟩ := h'.mem w hw
    have u1 := h'.top w hw z ((hs z).1 h1) h2 hzw
    have u2 := h.top z hz w ((hs w).2 w1) w2 (lex_symm hzw)
    rw [same_of (hL z h1) (hL w ((hs w).2 w1)) hzw (Int.le_antisymm u1 u2)]
    exact hw
  exact pw_ext (right_iff.1 h.right).2.1 (right_iff.1 h'.right).2.1 fun z => ⟨key h h' hL hs z, key h' h (fun y hy => hL y ((hs y).2 hy)) (fun z => (hs z).symm) z⟩

/-- In the order that starts so far on. -/
def turnedK (c n : Nat) (i : Nat) : Nat := (i + c) % n
theorem turned_mem {α : Type} {l : List α} {c : Nat} (hc : c < l.length) (z : α) : z ∈ l ↔ ∃ i, i < l.length ∧ l[turnedK c l.length i]? = some z := by
  unfold turnedK
  constructor
  · intro h
    obtain ⟨j, hj, e⟩ := List.getElem_of_mem h
    refine ⟨(j + (l.length - c)) % l.length, Nat.mod_lt _ (by omega), ?_⟩
    have : ((j + (l.length - c)) % l.length + c) % l.length = j := by
      rw [Nat.mod_add_mod, show j + (l.length - c) + c = j + l.length by omega, Nat.add_mod_right, Nat.mod_eq_of_lt hj]
    rw [this, List.getElem?_eq_getElem hj, e]
  · rintro ⟨i, hi, e⟩
    exact List.mem_of_getElem? e

/-! ### The parts of a cut -/

theorem in_turn {x a b : List Int} (ha : a.length = 32 ∧ byt a) (hb : b.length = 32 ∧ byt b) (h : a ≠ b) : g_In x b a = !g_In x a b := by
  have hne : vB a ≠ vB b := fun e => h (vB_inj (by rw [ha.1, hb.1]) ha.2 hb.2 e)
  unfold g_In
  rw [if_neg h, if_neg (fun e => h e.symm)]
  by_cases h1 : vB a < vB b
  · rw [if_pos h1, if_neg (by omega), Bool.eq_iff_iff]
    simp only [Bool.or_eq_true, Bool.not_eq_true', Bool.and_eq_false_iff, decide_eq_true_eq, decide_eq_false_iff_not]
    omega
  · rw [if_neg h1, if_pos (by omega), Bool.eq_iff_iff]
    simp only [Bool.and_eq_true, Bool.not_eq_true', Bool.or_eq_false_iff, decide_eq_true_eq, decide_eq_false_iff_not]
    omega

theorem in_whole (x a : List Int) : g_In x a a = true := by unfold g_In; rw [if_pos rfl]

theorem parts_len {α : Type} (p : α → Bool) : ∀ t : List α, (t.filter p).length + (t.filter fun x => !p x).length = t.length
  | [] => rfl
  | x :: t => by
    have := parts_len p t
    rw [List.filter_cons, List.filter_cons]
    cases p x <;> simp <;> omega

structure Both (t b a : List (den tTrigger)) (i : Nat) (all : List (den tTrigger)) : Prop where
  right : g_Right all = true
  len : all.length = b.length + i
  mem : ∀ z, z ∈ all ↔ z ∈ b ∨ z ∈ a.take i

theorem both_step {t : List (den tTrigger)} (ht : g_Right t = true) (p : den tTrigger → Bool) {i : Nat} {all : List (den tTrigger)} (hi : i < (t.filter p).length) (h : Both t (t.filter fun x => !p x) (t.filter p) i all) :
    ∃ more, g_Put all (t.filter p)[i] = (more, 0) ∧ Both t (t.filter fun x => !p x) (t.filter p) (i + 1) more := by
  obtain ⟨t1, t2, t3⟩ := right_iff.1 ht
  have hpl := parts_len p t
  have hxm := List.getElem_mem hi
  have hxt := (List.mem_filter.1 hxm).1
  have hxp := (List.mem_filter.1 hxm).2
  have hpa := t2.filter p
  have huniq : ∀ {y z : den tTrigger}, y ∈ t → z ∈ t → lexEq y z → y = z := by
    intro y z hy hz he
    obtain ⟨j, hj, rfl⟩ := List.getElem_of_mem hy
    obtain ⟨k, hk, rfl⟩ := List.getElem_of_mem hz
    rw [List.pairwise_iff_getElem] at t2
    rcases Nat.lt_trichotomy j k with h | h | h
    · exact absurd he (lex_not_eq (t2 j k hj hk h))
    · subst h; rfl
    · exact absurd he (lex_not_eq' (t2 k j hk hj h))
  have hsub : ∀ z ∈ all, z ∈ t := fun z hz => by
    rcases (h.mem z).1 hz with h1 | h1
    · exact (List.mem_filter.1 h1).1
    · exact (List.mem_filter.1 (List.mem_of_mem_take h1)).1
  have hnot : (t.filter p)[i] ∉ all := fun hc => by
    rcases (h.mem _).1 hc with h1 | h1
    · have := (List.mem_filter.1 h1).2
      rw [hxp] at this; cases this
    · obtain ⟨j, hj, e⟩ := List.getElem_of_mem h1
      rw [List.length_take] at hj
      rw [List.getElem_take] at e
      rw [List.pairwise_iff_getElem] at hpa
      have := hpa j i (by omega) hi (by omega)
      rw [e] at this
      exact lex_irrefl this
  have hl := h.len
  rcases put_cases h.right _ (t1 _ hxt) with ⟨A, B, hAB, h1, h2, h3, h4⟩ | ⟨A, y, B, hAB, h1, h2, h3, _, h4⟩
  · rcases h4 with ⟨h5, _⟩ | ⟨h5, h6⟩
    · omega
    · obtain ⟨a', g1, g2, g3⟩ := put_right h.right _ (t1 _ hxt) (.inl h5)
      rw [h6] at g1
      have e := congrArg Prod.fst g1
      have e : A ++ (t.filter p)[i] :: B = a' := e
      refine ⟨_, h6, by rw [e]; exact g2, by rw [hAB] at hl; simp at hl ⊢; omega, fun z => ?_⟩
      rw [List.take_succ_eq_append_getElem hi]
      have hz := h.mem z
      rw [hAB] at hz
      rw [List.mem_append] at hz
      rw [List.mem_append, List.mem_append, List.mem_singleton, ← or_assoc (a := z ∈ List.filter (fun x => !p x) t), ← hz, List.mem_cons]
      constructor
      · rintro (h | h | h) <;> simp [h]
      · rintro ((h | h) | h) <;> simp [h]
  · exfalso
    have hy : y ∈ all := by rw [hAB]; simp
    rw [huniq (hsub y hy) hxt h2] at hy
    exact hnot hy

theorem both_end {t : List (den tTrigger)} (ht : g_Right t = true) (p : den tTrigger → Bool) {all : List (den tTrigger)} (h : Both t (t.filter fun x => !p x) (t.filter p) (t.filter p).length all) : all = t := by
  refine pw_ext (right_iff.1 h.right).2.1 (right_iff.1 ht).2.1 fun z => ?_
  rw [h.mem z, List.take_length, List.mem_filter, List.mem_filter]
  constructor
  · rintro (h | h) <;> exact h.1
  · intro hz
    cases hp : p z
    · exact .inl ⟨hz, by rfl⟩
    · exact .inr ⟨hz, rfl⟩

end Go.Proofs.Ytnccacngedeoeaa

/- The parts of a cut, put together, are the table; each belongs where it is; the same way round the ring has all. -/
namespace Go.Proofs.Ytnccacngedeoeaa
open Go Go.RowKit

def gl_TableCuts_7 (O : Nat → Prop) (w0 : World) (t : List (den tTrigger)) (x y : den tId) (hx : List.length (α := Int) x = 32 ∧ byt x) (hy : List.length (α := Int) y = 32 ∧ byt y) (hr : g_Right t = true) (hl : t.length ≤ 1000000) (a b : List (den tTrigger))
    (ha : a = t.filter fun z => g_In z.1 x y) (hb : b = t.filter fun z => !g_In z.1 x y) :=
  PLift.up <| range_ind (σ := List (den tTrigger)) a.length (fun i s => Both t b a i s)
    (fun i s => GoodS prog X_l12_TableCuts (Cx.base O w0) (Ends prog O w0 rs_l12_TableCuts fun z => z = (true, ())) [] fx_l12_TableCuts (lp f_l12_TableCuts 7) (E_l12_TableCuts_7 t a b s a (lnx tTrigger a) (i : Nat) x y))
    (fun i s hi hs ih => goodS_of (x_l12_TableCuts k_l12_few k_table_Cut k_l12_alive k_table_Put k_ident_In k_r12_Same) (TL_l12_TableCuts_7_eq t a b s a _ _ x y) (by
      subst ha hb
      obtain ⟨more, h1, h2⟩ := both_step hr (fun z => g_In z.1 x y) hi hs
      have hsl : s.length ≤ 1000000 := by have := (right_iff.1 hs.right).2.2; omega
      refine ⟨fun _ => ⟨inB_of hi, hsl, fun q hq => ⟨fun _ => trivial, fun h => ?_, fun h => ?_⟩⟩, fun h => ?_⟩
      · rw [el_at hi] at h hq
        have hq : q = (more, 0, ()) := hq.trans (by rw [h1])
        have hin : g_In ((t.filter fun z => g_In z.1 x y)[i]).1 x y = true := (List.mem_filter.1 (List.getElem_mem hi)).2
        subst hq
        rw [hin] at h; cases h
      · rw [el_at hi] at h hq
        have hq : q = (more, 0, ()) := hq.trans (by rw [h1])
        subst hq
        rw [wr_idx hi (by have := List.length_filter_le (fun z : den tTrigger => g_In z.1 x y) t; omega)]
        exact ih more h2
      · rw [lnx_nat] at h
        exact absurd hi (of_decide_eq_false h)))
    (fun s hs => goodS_of (x_l12_TableCuts k_l12_few k_table_Cut k_l12_alive k_table_Put k_ident_In k_r12_Same) (TL_l12_TableCuts_7_eq t a b s a _ _ x y) (by
      subst ha hb
      have hst : s = t := both_end hr (fun z => g_In z.1 x y) hs
      have c1 : g_Cut t y x = (t.filter (fun z => g_In z.1 y x), t.filter (fun z => !g_In z.1 y x), 0) := by unfold g_Cut; rw [if_pos hr]
      have c2 : g_Cut t x x = (t, [], 0) := by
        unfold g_Cut; rw [if_pos hr]
        have e1 : t.filter (fun z => g_In z.1 x x) = t := List.filter_eq_self.2 fun z _ => in_whole _ _
        have e2 : t.filter (fun z => !g_In z.1 x x) = [] := List.filter_eq_nil_iff.2 fun z _ => by rw [in_whole]; simp
        rw [e1, e2]
      refine ⟨fun h => ?_, fun _ => ⟨hl, fun q hq => ⟨hl, fun q' hq' => ?_⟩⟩⟩
      · rw [lnx_nat] at h
        exact absurd (of_decide_eq_true h) (Nat.lt_irrefl _)
      · have hq : q = (t.filter (fun z => g_In z.1 y x), t.filter (fun z => !g_In z.1 y x), 0, ()) := hq.trans (by rw [c1])
        have hq' : q' = (t, [], 0, ()) := hq'.trans (by rw [c2])
        subst hq hq'
        refine ⟨fun _ => trivial, fun _ => trivial, fun h => ?_, fun _ => ⟨trivial, fun b hb => ⟨fun _ _ => trivial, fun _ _ _ => trivial, _, rfl, ?_⟩⟩⟩
        · have h : (bif (bif (bif false then true else !decide (t = t)) then true else !decide ((0 : Int) = 0)) then true else !true) = true := h
          rw [decide_eq_true (rfl : t = t)] at h
          cases h
        · have hb : b = true := hb.trans (decide_eq_true hst)
          subst hb
          by_cases e : x = y
          · have e1 : eqb tId x y = true := (eqb_iff (t := tId) rfl _ _).2 e
            rw [e1]; rfl
          · have e1 : eqb tId x y = false := by
              cases hc : eqb tId x y with
              | false => rfl
              | true => exact absurd ((eqb_iff (t := tId) rfl _ _).1 hc) e
            have f1 : t.filter (fun z => g_In z.1 y x) = t.filter fun z => !g_In z.1 x y := List.filter_congr fun z _ => in_turn hx hy e
            have f2 : t.filter (fun z => !g_In z.1 y x) = t.filter fun z => g_In z.1 x y := List.filter_congr fun z _ => by rw [in_turn hx hy e, Bool.not_not]
            rw [e1]
            show ((bif true then bif false then true else bif decide (t.filter (fun z => g_In z.1 y x) = t.filter fun z => !g_In z.1 x y) then decide (t.filter (fun z => !g_In z.1 y x) = t.filter fun z => g_In z.1 x y) else false else false), PUnit.unit) = (true, ())
            rw [decide_eq_true f1, decide_eq_true f2]; rfl))

theorem k_l12_TableCuts : FnOk prog [] n_l12_TableCuts (lawS as_l12_TableCuts) :=
  fnS_T (S := lawS as_l12_TableCuts) (x_l12_TableCuts k_l12_few k_table_Cut k_l12_alive k_table_Put k_ident_In k_r12_Same) (fx := fx_l12_TableCuts) at_l12_TableCuts (by kernel_rfl) (fun _ _ => trivial) (T := fun x => T_l12_TableCuts x.1 x.2.1 x.2.2.1) (fun x => T_l12_TableCuts_eq x.1 x.2.1 x.2.2.1) fun O w0 x hk _ => by
    obtain ⟨t0, x, y, ⟨⟩⟩ := x
    have hl : (t0.take 34).length ≤ 1000000 := by rw [List.length_take]; omega
    have hkx := ok_byt hk.2.1
    have hky := ok_byt hk.2.2.1
    clear hk
    refine ⟨trivial, fun t ht => ?_⟩
    have ht : t = t0.take 34 := ht
    rw [← ht] at hl
    refine ⟨hl, fun q hq => ?_⟩
    cases hr : g_Right t with
    | false =>
      have c1 : g_Cut t x y = ([], [], 1) := by unfold g_Cut; rw [if_neg (by rw [hr]; simp)]
      have hq : q = ([], [], 1, ()) := hq.trans (by show ((g_Cut t x y).1, (g_Cut t x y).2.1, (g_Cut t x y).2.2, ()) = _; rw [c1])
      subst hq
      refine ⟨fun _ => ⟨trivial, fun b hb => ⟨_, rfl, ?_⟩⟩, fun h => (by cases h)⟩
      subst hb; rfl
    | true =>
      have c1 : g_Cut t x y = (t.filter (fun z => g_In z.1 x y), t.filter (fun z => !g_In z.1 x y), 0) := by unfold g_Cut; rw [if_pos hr]
      have hq : q = (t.filter (fun z => g_In z.1 x y), t.filter (fun z => !g_In z.1 x y), 0, ()) := hq.trans (by show ((g_Cut t x y).1, (g_Cut t x y).2.1, (g_Cut t x y).2.2, ()) = _; rw [c1])
      subst hq
      refine ⟨fun h => (by cases h), fun _ => ?_⟩
      exact (gl_TableCuts_7 O w0 t x y hkx hky hr hl _ _ rfl rfl).down 0 _ (Nat.zero_le _) ⟨right_filter hr _, rfl, fun z => by simp⟩

end Go.Proofs.Ytnccacngedeoeaa
