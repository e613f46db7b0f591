/- Part 8 of 8 of what this claim's proof stands on: a theory of programs on data, and the contracts of the functions that the law reaches. It holds no condition of its own. -/
import Derived.Test.YtnccacngedeoeaaCo7

/- Tables, put together: in whatever order, and of the parts of a cut. No program here. -/
namespace Go.Proofs.Ytnccacngedeoeaa
open Go Go.RowKit

theorem lex_refl (a : den tTrigger) : lexEq a a := ⟨rfl, rfl, rfl, rfl⟩
theorem lex_symm {a b : den tTrigger} (h : lexEq a b) : lexEq b a := by obtain ⟨h1, h2, h3, h4⟩ := h; exact ⟨h1.symm, h2.symm, h3.symm, h4.symm⟩
theorem lex_etrans {a b c : den tTrigger} (h : lexEq a b) (k : lexEq b c) : lexEq a c := by
  obtain ⟨h1, h2, h3, h4⟩ := h; obtain ⟨k1, k2, k3, k4⟩ := k
  exact ⟨h1.trans k1, h2.trans k2, h3.trans k3, h4.trans k4⟩

/-- Of one key and one time: the same. -/
theorem same_of {y x : den tTrigger} (hy : okTr y) (hx : okTr x) (h : lexEq y x) (hu : (y.2.2.1 : Int) = x.2.2.1) : y = x := by
  have := (isIE_iff hy hx).2 h
  unfold isIE at this
  rw [Bool.and_eq_true, decide_eq_true_eq, decide_eq_true_eq] at this
  obtain ⟨h1, h2⟩ := this
  obtain ⟨yi, yt, yu, ⟨⟩⟩ := y
  obtain ⟨xi, xt, xu, ⟨⟩⟩ := x
  have h1 : yi = xi := h1
  have h2 : yt = xt := h2
  have hu : yu = xu := hu
  rw [h1, h2, hu]

theorem until_ok {y : den tTrigger} (h : okTr y) (u : Int) : okTr (untilT y u) := h
theorem max_le (a b : Int) : a ≤ maxI a b ∧ b ≤ maxI a b := by unfold maxI; split <;> omega
theorem max_cases (a b : Int) : (maxI a b = a ∧ b ≤ a) ∨ (maxI a b = b ∧ a ≤ b) := by unfold maxI; split <;> omega

/-! ### Putting one behind the other -/

def stepT (a : List (den tTrigger)) (x : den tTrigger) : List (den tTrigger) := if (g_Put a x).2 = 0 then (g_Put a x).1 else a

structure Made (L a : List (den tTrigger)) : Prop where
  right : g_Right a = true
  len : a.length ≤ L.length
  mem : ∀ z ∈ a, z ∈ L ∧ g_may z = true
  top : ∀ z ∈ a, ∀ y ∈ L, g_may y = true → lexEq y z → (y.2.2.1 : Int) ≤ z.2.2.1
  all : ∀ y ∈ L, g_may y = true → ∃ z ∈ a, lexEq y z

theorem made_nil : Made [] [] := ⟨rfl, Nat.le_refl _, fun _ h => (by cases h), fun _ h => (by cases h), fun _ h => (by cases h)⟩

theorem made_step {L a : List (den tTrigger)} (h : Made L a) {x : den tTrigger} (hL : ∀ y ∈ L, okTr y) (hx : okTr x) (hlen : L.length < 32) : Made (L ++ [x]) (stepT a x) := by
  have hk : ∀ z ∈ a, okTr z := fun z hz => hL z (h.mem z hz).1
  cases hm : g_may x with
  | false =>
    have e : stepT a x = a := by unfold stepT; rw [put_not (by rw [hm, Bool.and_false])]; exact if_neg (by decide)
    rw [e]
    refine ⟨h.right, by have := h.len; simp; omega, fun z hz => ⟨List.mem_append_left _ (h.mem z hz).1, (h.mem z hz).2⟩, fun z hz y hy hmy hyz => ?_, fun y hy hmy => ?_⟩
    · rcases List.mem_append.1 hy with hy | hy
      · exact h.top z hz y hy hmy hyz
      · rw [List.mem_singleton.1 hy, hm] at hmy; cases hmy
    · rcases List.mem_append.1 hy with hy | hy
      · exact h.all y hy hmy
      · rw [List.mem_singleton.1 hy, hm] at hmy; cases hmy
  | true =>
    rcases put_cases h.right x hm with ⟨A, B, rfl, h1, h2, h3, h4⟩ | ⟨A, y0, B, rfl, h1, h2, h3, h3', h4⟩
    · rcases h4 with ⟨h5, _⟩ | ⟨h5, h6⟩
      · have := h.len; omega
      · obtain ⟨a', g1, g2, g3⟩ := put_right h.right x hm (.inl h5)
        have e : stepT (A ++ B) x = A ++ x :: B := by unfold stepT; rw [h6]; exact if_pos rfl
        have e2 : a' = A ++ x :: B := by rw [h6] at g1; exact (congrArg Prod.fst g1).symm
        rw [e]
        rw [e2] at g2
        have hin : ∀ z, z ∈ A ++ x :: B ↔ z ∈ A ++ B ∨ z = x := fun z => by
          simp only [List.mem_append, List.mem_cons]
          constructor
          · rintro (h | h | h) <;> simp [h]
          · rintro ((h | h) | h) <;> simp [h]
        have hne : ∀ z ∈ A ++ B, ¬ lexEq z x := fun z hz hc => by
          rcases List.mem_append.1 hz with hz | hz
          · exact lex_not_eq (h1 z hz) hc
          · exact lex_not_eq' (h2 z hz) hc
        refine ⟨g2, by have := h.len; simp at this ⊢; omega, fun z hz => ?_, fun z hz y hy hmy hyz => ?_, fun y hy hmy => ?_⟩
        · rcases (hin z).1 hz with hz | rfl
          · exact ⟨List.mem_append_left _ (h.mem z hz).1, (h.mem z hz).2⟩
          · exact ⟨by simp, hm⟩
        · rcases (hin z).1 hz with hz | rfl
          · rcases List.mem_append.1 hy with hy | hy
            · exact h.top z hz y hy hmy hyz
            · rw [List.mem_singleton.1 hy] at hyz
              exact absurd (lex_symm hyz) (hne z hz)
          · rcases List.mem_append.1 hy with hy | hy
            · obtain ⟨w, hw, hyw⟩ := h.all y hy hmy
              exact absurd (lex_etrans (lex_symm hyw) hyz) (hne w hw)
            · rw [List.mem_singleton.1 hy]; exact Int.le_refl _
        · rcases List.mem_append.1 hy with hy | hy
          · obtain ⟨w, hw, hyw⟩ := h.all y hy hmy
            exact ⟨w, (hin w).2 (.inl hw), hyw⟩
          · exact ⟨x, (hin x).2 (.inr rfl), by rw [List.mem_singleton.1 hy]; exact lex_refl x⟩
    · obtain ⟨a', g1, g2, g3⟩ := put_right h.right x hm (.inr h3')
      have e : stepT (A ++ y0 :: B) x = A ++ untilT y0 (maxI y0.2.2.1 x.2.2.1) :: B := by unfold stepT; rw [h4]; exact if_pos rfl
      have e2 : a' = A ++ untilT y0 (maxI y0.2.2.1 x.2.2.1) :: B := by rw [h4] at g1; exact (congrArg Prod.fst g1).symm
      rw [e]
      rw [e2] at g2
      have hy0 := h.mem y0 (by simp)
      have ky0 := hL y0 hy0.1
      have hw : untilT y0 (maxI y0.2.2.1 x.2.2.1) ∈ L ++ [x] := by
        rcases max_cases y0.2.2.1 x.2.2.1 with ⟨e1, _⟩ | ⟨e1, _⟩
        · rw [e1]; exact List.mem_append_left _ hy0.1
        · rw [same_of (y := untilT y0 (maxI y0.2.2.1 x.2.2.1)) (x := x) ky0 hx h2 e1]; simp
      have hwm : g_may (untilT y0 (maxI y0.2.2.1 x.2.2.1)) = true := may_max hm hy0.2
      have hwu : (y0.2.2.1 : Int) ≤ maxI y0.2.2.1 x.2.2.1 ∧ (x.2.2.1 : Int) ≤ maxI y0.2.2.1 x.2.2.1 := max_le _ _
      generalize hwd : untilT y0 (maxI y0.2.2.1 x.2.2.1) = w at *
      have hwk : lexEq w y0 := by rw [← hwd]; exact lex_refl y0
      have hwu' : (w.2.2.1 : Int) = maxI y0.2.2.1 x.2.2.1 := by rw [← hwd]; rfl
      have hin : ∀ z, z ∈ A ++ w :: B ↔ (z ∈ A ∨ z ∈ B) ∨ z = w := fun z => by
        simp only [List.mem_append, List.mem_cons]
        constructor
        · rintro (h | h | h) <;> simp [h]
        · rintro ((h | h) | h) <;> simp [h]
      have hab : ∀ z, z ∈ A ∨ z ∈ B → z ∈ A ++ y0 :: B := fun z hz => by rcases hz with hz | hz <;> simp [hz]
      have hne : ∀ z, z ∈ A ∨ z ∈ B → ¬ lexEq z x := fun z hz hc => by
        rcases hz with hz | hz
        · exact lex_not_eq (h1 z hz) hc
        · exact lex_not_eq' (h3 z hz) hc
      refine ⟨g2, by have := h.len; simp at this ⊢; omega, fun z hz => ?_, fun z hz y hy hmy hyz => ?_, fun y hy hmy => ?_⟩
      · rcases (hin z).1 hz with hz | rfl
        · exact ⟨List.mem_append_left _ (h.mem z (hab z hz)).1, (h.mem z (hab z hz)).2⟩
        · exact ⟨hw, hwm⟩
      · rcases (hin z).1 hz with hz | rfl
        · rcases List.mem_append.1 hy with hy | hy
          · exact h.top z (hab z hz) y hy hmy hyz
          · rw [List.mem_singleton.1 hy] at hyz
            exact absurd (lex_symm hyz) (hne z hz)
        · rw [hwu']
          rcases List.mem_append.1 hy with hy | hy
          · exact Int.le_trans (h.top y0 (by simp) y hy hmy (lex_etrans hyz hwk)) hwu.1
          · rw [List.mem_singleton.1 hy]; exact hwu.2
      · rcases List.mem_append.1 hy with hy | hy
        · obtain ⟨v, hv, hyv⟩ := h.all y hy hmy
          rcases List.mem_append.1 hv with hv | hv
          · exact ⟨v, (hin v).2 (.inl (.inl hv)), hyv⟩
          · rcases List.mem_cons.1 hv with rfl | hv
            · exact ⟨w, (hin w).2 (.inr rfl), lex_etrans hyv (lex_symm hwk)⟩
            · exact ⟨v, (hin v).2 (.inl (.inr hv)), hyv⟩
        · exact ⟨w, (hin w).2 (.inr rfl), by rw [List.mem_singleton.1 hy]; exact lex_symm (lex_etrans hwk h2)⟩

theorem made_same {L L' a a' : List (den tTrigger)} (h : Made L a) (h' : Made L' a') (hL : ∀ y ∈ L, okTr y) (hs : ∀ z, z ∈ L ↔ z ∈ L') : a = a' := by
  have key : ∀ {L L' a a' : List (den tTrigger)}, Made L a → Made L' a' → (∀ y ∈ L, okTr y) → (∀ z, z ∈ L ↔ z ∈ L') → ∀ z ∈ a, z ∈ a' := by
    intro L L' a a' h h' hL hs z hz
    obtain ⟨h1, h2⟩ := h.mem z hz
    obtain ⟨w, hw, hzw⟩ := h'.all z ((hs z).1 h1) h2
    obtain ⟨w1, w2⟩ := h'.mem w hw
    have u1 := h'.top w hw z ((hs z).1 h1) h2 hzw
    have u2 := h.top z hz w ((hs w).2 w1) w2 (lex_symm hzw)
    rw [same_of (hL z h1) (hL w ((hs w).2 w1)) hzw (Int.le_antisymm u1 u2)]
    exact hw
  exact pw_ext (right_iff.1 h.right).2.1 (right_iff.1 h'.right).2.1 fun z => ⟨key h h' hL hs z, key h' h (fun y hy => hL y ((hs y).2 hy)) (fun z => (hs z).symm) z⟩

/-- In the order that starts so far on. -/
def turnedK (c n : Nat) (i : Nat) : Nat := (i + c) % n
theorem turned_mem {α : Type} {l : List α} {c : Nat} (hc : c < l.length) (z : α) : z ∈ l ↔ ∃ i, i < l.length ∧ l[turnedK c l.length i]? = some z := by
  unfold turnedK
  constructor
  · intro h
    obtain ⟨j, hj, e⟩ := List.getElem_of_mem h
    refine ⟨(j + (l.length - c)) % l.length, Nat.mod_lt _ (by omega), ?_⟩
    have : ((j + (l.length - c)) % l.length + c) % l.length = j := by
      rw [Nat.mod_add_mod, show j + (l.length - c) + c = j + l.length by omega, Nat.add_mod_right, Nat.mod_eq_of_lt hj]
    rw [this, List.getElem?_eq_getElem hj, e]
  · rintro ⟨i, hi, e⟩
    exact List.mem_of_getElem? e

/-! ### The parts of a cut -/

theorem in_turn {x a b : List Int} (ha : a.length = 32 ∧ byt a) (hb : b.length = 32 ∧ byt b) (h : a ≠ b) : g_In x b a = !g_In x a b := by
  have hne : vB a ≠ vB b := fun e => h (vB_inj (by rw [ha.1, hb.1]) ha.2 hb.2 e)
  unfold g_In
  rw [if_neg h, if_neg (fun e => h e.symm)]
  by_cases h1 : vB a < vB b
  · rw [if_pos h1, if_neg (by omega), Bool.eq_iff_iff]
    simp only [Bool.or_eq_true, Bool.not_eq_true', Bool.and_eq_false_iff, decide_eq_true_eq, decide_eq_false_iff_not]
    omega
  · rw [if_neg h1, if_pos (by omega), Bool.eq_iff_iff]
    simp only [Bool.and_eq_true, Bool.not_eq_true', Bool.or_eq_false_iff, decide_eq_true_eq, decide_eq_false_iff_not]
    omega

theorem in_whole (x a : List Int) : g_In x a a = true := by unfold g_In; rw [if_pos rfl]

theorem parts_len {α : Type} (p : α → Bool) : ∀ t : List α, (t.filter p).length + (t.filter fun x => !p x).length = t.length
  | [] => rfl
  | x :: t => by
    have := parts_len p t
    rw [List.filter_cons, List.filter_cons]
    cases p x <;> simp <;> omega

structure Both (t b a : List (den tTrigger)) (i : Nat) (all : List (den tTrigger)) : Prop where
  right : g_Right all = true
  len : all.length = b.length + i
  mem : ∀ z, z ∈ all ↔ z ∈ b ∨ z ∈ a.take i

theorem both_step {t : List (den tTrigger)} (ht : g_Right t = true) (p : den tTrigger → Bool) {i : Nat} {all : List (den tTrigger)} (hi : i < (t.filter p).length) (h : Both t (t.filter fun x => !p x) (t.filter p) i all) :
    ∃ more, g_Put all (t.filter p)[i] = (more, 0) ∧ Both t (t.filter fun x => !p x) (t.filter p) (i + 1) more := by
  obtain ⟨t1, t2, t3⟩ := right_iff.1 ht
  have hpl := parts_len p t
  have hxm := List.getElem_mem hi
  have hxt := (List.mem_filter.1 hxm).1
  have hxp := (List.mem_filter.1 hxm).2
  have hpa := t2.filter p
  have huniq : ∀ {y z : den tTrigger}, y ∈ t → z ∈ t → lexEq y z → y = z := by
    intro y z hy hz he
    obtain ⟨j, hj, rfl⟩ := List.getElem_of_mem hy
    obtain ⟨k, hk, rfl⟩ := List.getElem_of_mem hz
    rw [List.pairwise_iff_getElem] at t2
    rcases Nat.lt_trichotomy j k with h | h | h
    · exact absurd he (lex_not_eq (t2 j k hj hk h))
    · subst h; rfl
    · exact absurd he (lex_not_eq' (t2 k j hk hj h))
  have hsub : ∀ z ∈ all, z ∈ t := fun z hz => by
    rcases (h.mem z).1 hz with h1 | h1
    · exact (List.mem_filter.1 h1).1
    · exact (List.mem_filter.1 (List.mem_of_mem_take h1)).1
  have hnot : (t.filter p)[i] ∉ all := fun hc => by
    rcases (h.mem _).1 hc with h1 | h1
    · have := (List.mem_filter.1 h1).2
      rw [hxp] at this; cases this
    · obtain ⟨j, hj, e⟩ := List.getElem_of_mem h1
      rw [List.length_take] at hj
      rw [List.getElem_take] at e
      rw [List.pairwise_iff_getElem] at hpa
      have := hpa j i (by omega) hi (by omega)
      rw [e] at this
      exact lex_irrefl this
  have hl := h.len
  rcases put_cases h.right _ (t1 _ hxt) with ⟨A, B, hAB, h1, h2, h3, h4⟩ | ⟨A, y, B, hAB, h1, h2, h3, _, h4⟩
  · rcases h4 with ⟨h5, _⟩ | ⟨h5, h6⟩
    · omega
    · obtain ⟨a', g1, g2, g3⟩ := put_right h.right _ (t1 _ hxt) (.inl h5)
      rw [h6] at g1
      have e := congrArg Prod.fst g1
      have e : A ++ (t.filter p)[i] :: B = a' := e
      refine ⟨_, h6, by rw [e]; exact g2, by rw [hAB] at hl; simp at hl ⊢; omega, fun z => ?_⟩
      rw [List.take_succ_eq_append_getElem hi]
      have hz := h.mem z
      rw [hAB] at hz
      rw [List.mem_append] at hz
      rw [List.mem_append, List.mem_append, List.mem_singleton, ← or_assoc (a := z ∈ List.filter (fun x => !p x) t), ← hz, List.mem_cons]
      constructor
      · rintro (h | h | h) <;> simp [h]
      · rintro ((h | h) | h) <;> simp [h]
  · exfalso
    have hy : y ∈ all := by rw [hAB]; simp
    rw [huniq (hsub y hy) hxt h2] at hy
    exact hnot hy

theorem both_end {t : List (den tTrigger)} (ht : g_Right t = true) (p : den tTrigger → Bool) {all : List (den tTrigger)} (h : Both t (t.filter fun x => !p x) (t.filter p) (t.filter p).length all) : all = t := by
  refine pw_ext (right_iff.1 h.right).2.1 (right_iff.1 ht).2.1 fun z => ?_
  rw [h.mem z, List.take_length, List.mem_filter, List.mem_filter]
  constructor
  · rintro (h | h) <;> exact h.1
  · intro hz
    cases hp : p z
    · exact .inl ⟨hz, by rfl⟩
    · exact .inr ⟨hz, rfl⟩

end Go.Proofs.Ytnccacngedeoeaa

/- Triggers that are put in whatever order make one table; what a table matches it matches without triggers of other keys, too. -/
namespace Go.Proofs.Ytnccacngedeoeaa
open Go Go.RowKit

theorem okTr_of'' {x : den tTrigger} (h : okT tTrigger x) : okTr x := ⟨ok_byt h.1, ok_byt h.2.1.2.1⟩

/-- How far on the other order starts. -/
def offC (n : Nat) (k : Int) : Nat := ((k.tmod n + n).tmod n).toNat

theorem offC_spec {n : Nat} (h : 0 < n) (hn : n ≤ 1000000) (k : Int) : IntKind.wrap .i64 (k.tmod n + n) = k.tmod n + n ∧ (k.tmod n + n).tmod n = (offC n k : Nat) ∧ offC n k < n := by
  have h1 : k.tmod n < n := Int.tmod_lt_of_pos k (by omega)
  have h2 : -(n : Int) < k.tmod n := Int.lt_tmod_of_pos k (by omega)
  have h3 : 0 ≤ (k.tmod n + n).tmod n := Int.tmod_nonneg _ (by omega)
  have h4 : (k.tmod n + n).tmod n < n := Int.tmod_lt_of_pos _ (by omega)
  refine ⟨wr_i64 (by omega) (by omega), by unfold offC; omega, by unfold offC; omega⟩

/-- The place in the other order. -/
theorem offC_at {n : Nat} (h : 0 < n) (hn : n ≤ 1000000) (k : Int) {i : Nat} (hi : i < n) :
    Int.tmod (IntKind.wrap .i64 ((i : Int) + Int.tmod (IntKind.wrap .i64 (Int.tmod k n + n)) n)) n = ((turnedK (offC n k) n i : Nat) : Int) := by
  obtain ⟨h1, h2, h3⟩ := offC_spec h hn k
  rw [h1, h2, wr_i64 (by omega) (by omega)]
  unfold turnedK
  rw [Int.tmod_eq_emod_of_nonneg (by omega)]
  push_cast
  rfl

def turnedL (l : List (den tTrigger)) (k : Int) (i : Nat) : List (den tTrigger) := (List.range i).map fun j => el tTrigger l ((turnedK (offC l.length k) l.length j : Nat) : Int)

theorem turnedL_succ (l : List (den tTrigger)) (k : Int) (i : Nat) : turnedL l k (i + 1) = turnedL l k i ++ [el tTrigger l ((turnedK (offC l.length k) l.length i : Nat) : Int)] := by
  unfold turnedL; rw [List.range_succ, List.map_append]; rfl

theorem turnedK_lt {c n i : Nat} (h : 0 < n) : turnedK c n i < n := Nat.mod_lt _ h

theorem turnedL_mem {l : List (den tTrigger)} (h : 0 < l.length) (hn : l.length ≤ 1000000) (k : Int) {i : Nat} : ∀ z ∈ turnedL l k i, z ∈ l := by
  intro z hz
  unfold turnedL at hz
  obtain ⟨j, _, rfl⟩ := List.mem_map.1 hz
  have := turnedK_lt (c := offC l.length k) (i := j) h
  rw [el_at this]
  exact List.getElem_mem _

theorem turnedL_all {l : List (den tTrigger)} (hn : l.length ≤ 1000000) (k : Int) (z : den tTrigger) : z ∈ l ↔ z ∈ turnedL l k l.length := by
  by_cases h : 0 < l.length
  · refine ⟨fun hz => ?_, turnedL_mem h hn k z⟩
    obtain ⟨i, hi, e⟩ := (turned_mem (offC_spec h hn k).2.2 z).1 hz
    refine List.mem_map.2 ⟨i, List.mem_range.2 hi, ?_⟩
    have := turnedK_lt (c := offC l.length k) (i := i) h
    rw [el_at this]
    rw [List.getElem?_eq_getElem this] at e
    exact Option.some.inj e
  · have : l = [] := List.eq_nil_of_length_eq_zero (by omega)
    subst this
    exact ⟨fun h => (by cases h), fun h => (by cases h)⟩

def gl_TableOrders_17 (O : Nat → Prop) (w0 : World) (a : List (den tTrigger)) (id : den tId) (hr : g_Right a = true) :=
  PLift.up <| range_ind (σ := List (den tTrigger)) a.length (fun i s => s = (a.take i).filter fun z => decide (128 ≤ g_Common z.1 id))
    (fun i s => GoodS prog X_l12_TableOrders (Cx.base O w0) (Ends prog O w0 rs_l12_TableOrders fun z => z = (true, ())) [] fx_l12_TableOrders (lp f_l12_TableOrders 17) (E_l12_TableOrders_17 a a a (lnx tTrigger a) (i : Nat) id s))
    (fun i s hi hs ih => goodS_of (x_l12_TableOrders k_table_Put k_ident_Common k_table_Match k_l12_alive k_r12_Same) (TL_l12_TableOrders_17_eq a a a _ _ id s) (by
      have hal := (right_iff.1 hr).2.2
      refine ⟨fun _ => ⟨inB_of hi, trivial, fun q hq => ?_⟩, fun h => ?_⟩
      · rw [el_at hi] at hq ⊢
        have hq : q = g_Common a[i].1 id := hq
        subst hq
        rw [wr_idx hi (by omega)]
        have hsl : s.length ≤ 32 := by rw [hs]; exact Nat.le_trans (List.length_filter_le _ _) (by rw [List.length_take]; omega)
        refine ⟨fun h => ⟨by simp [most]; omega, ?_⟩, fun h => ?_⟩
        · refine ih (s ++ [a[i]]) ?_
          rw [hs, List.take_succ_eq_append_getElem hi, List.filter_append, List.filter_cons, if_pos h]; rfl
        · refine ih s ?_
          rw [hs, List.take_succ_eq_append_getElem hi, List.filter_append, List.filter_cons, if_neg (by rw [h]; simp), List.filter_nil, List.append_nil]
      · rw [lnx_nat] at h
        exact absurd hi (of_decide_eq_false h)))
    (fun s hs => goodS_of (x_l12_TableOrders k_table_Put k_ident_Common k_table_Match k_l12_alive k_r12_Same) (TL_l12_TableOrders_17_eq a a a _ _ id s) (by
      have hal := (right_iff.1 hr).2.2
      have hs : s = a.filter fun z => decide (128 ≤ g_Common z.1 id) := by rw [hs, List.take_length]
      have hsl : s.length ≤ 32 := by rw [hs]; exact Nat.le_trans (List.length_filter_le _ _) hal
      obtain ⟨m1, m2⟩ := match_near id hr
      rw [← hs] at m1 m2
      refine ⟨fun h => ?_, fun _ => ⟨show a.length ≤ 1000000 by omega, fun q hq => ⟨show s.length ≤ 1000000 by omega, fun q' hq' => ⟨trivial, fun b hb => ⟨fun _ => trivial, fun _ => trivial, _, rfl, ?_⟩⟩⟩⟩⟩
      · rw [lnx_nat] at h
        exact absurd (of_decide_eq_true h) (Nat.lt_irrefl _)
      · have hq' : q' = q := hq'.trans (by rw [m1]; exact hq.symm)
        have hb : b = true := hb
        subst hb
        rw [hq']
        have e3 : eqO (decide (q.2.1 = 0)) (decide ((0 : Int) < lnx tTrigger s)) = true := by
          have hq1 : q.2.1 = (g_Match a id).2 := by rw [hq]
          rw [hq1]
          unfold eqO
          rw [beq_iff_eq, Bool.eq_iff_iff, decide_eq_true_eq, decide_eq_true_eq, m2, lnx_eq]
          constructor
          · intro h
            cases s with
            | nil => exact absurd rfl h
            | cons x s => simp
          · intro h e
            rw [e] at h
            exact absurd h (by decide)
        show ((bif (bif (bif (bif true then decide (a = a) else false) then decide (q.2.1 = q.2.1) else false) then decide (q.1 = q.1) else false) then eqO (decide (q.2.1 = 0)) (decide ((0 : Int) < lnx tTrigger s)) else false), PUnit.unit) = (true, ())
        rw [e3, decide_eq_true (rfl : a = a), decide_eq_true (rfl : q.2.1 = q.2.1), decide_eq_true (rfl : q.1 = q.1)]
        rfl))

def gl_TableOrders_4 (O : Nat → Prop) (w0 : World) (l : List (den tTrigger)) (k : Int) (id : den tId) (hl : l.length ≤ 20) (hk : ∀ y ∈ l, okTr y) :=
  PLift.up <| range_ind (σ := List (den tTrigger) × List (den tTrigger)) l.length (fun i s => Made (l.take i) s.1 ∧ Made (turnedL l k i) s.2)
    (fun i s => GoodS prog X_l12_TableOrders (Cx.base O w0) (Ends prog O w0 rs_l12_TableOrders fun z => z = (true, ())) [] fx_l12_TableOrders (lp f_l12_TableOrders 4) (E_l12_TableOrders_4 l k s.1 s.2 (lnx tTrigger l) (i : Nat) id))
    (fun i s hi hs ih => goodS_of (x_l12_TableOrders k_table_Put k_ident_Common k_table_Match k_l12_alive k_r12_Same) (TL_l12_TableOrders_4_eq l k s.1 s.2 _ _ id) (by
      obtain ⟨h1, h2⟩ := hs
      have h0 : 0 < l.length := by omega
      have hd : decide ((0 : Int) < lnx tTrigger l) = true := decide_eq_true (by rw [lnx_eq]; omega)
      have hnz : nz (lnx tTrigger l) := by rw [lnx_eq]; show (l.length : Int) ≠ 0; omega
      have eK := offC_at h0 (by omega) k hi
      have hK := turnedK_lt (c := offC l.length k) (i := i) h0
      have s1 : s.1.length ≤ 1000000 := by have := (right_iff.1 h1.right).2.2; omega
      have s2 : s.2.length ≤ 1000000 := by have := (right_iff.1 h2.right).2.2; omega
      have n1 : Made (l.take (i + 1)) (stepT s.1 l[i]) := by
        rw [List.take_succ_eq_append_getElem hi]
        exact made_step h1 (fun y hy => hk y (List.mem_of_mem_take hy)) (hk _ (List.getElem_mem hi)) (by rw [List.length_take]; omega)
      have n2 : Made (turnedL l k (i + 1)) (stepT s.2 (el tTrigger l ((turnedK (offC l.length k) l.length i : Nat) : Int))) := by
        rw [turnedL_succ]
        exact made_step h2 (fun y hy => hk y (turnedL_mem h0 (by omega) k y hy)) (by rw [el_at hK]; exact hk _ (List.getElem_mem hK)) (by unfold turnedL; rw [List.length_map, List.length_range]; omega)
      have fin : ∀ a b, a = stepT s.1 l[i] → b = stepT s.2 (el tTrigger l ((turnedK (offC l.length k) l.length i : Nat) : Int)) → GoodS prog X_l12_TableOrders (Cx.base O w0) (Ends prog O w0 rs_l12_TableOrders fun z => z = (true, ())) [] fx_l12_TableOrders (lp f_l12_TableOrders 4) (E_l12_TableOrders_4 l k a b (lnx tTrigger l) ((i + 1 : Nat) : Int) id) := by
        intro a b ha hb
        exact ih (a, b) ⟨by rw [ha]; exact n1, by rw [hb]; exact n2⟩
      have st : ∀ (a : List (den tTrigger)) (x : den tTrigger) (q : den (.pair (.slc tTrigger) (.pair tInt .unit))), q = ((g_Put a x).1, (g_Put a x).2, ()) → (decide (q.2.1 = 0) = true → q.1 = stepT a x) ∧ (decide (q.2.1 = 0) = false → a = stepT a x) := by
        intro a x q hq
        subst hq
        unfold stepT
        exact ⟨fun h => by rw [if_pos (of_decide_eq_true h)], fun h => by rw [if_neg (of_decide_eq_false h)]⟩
      refine ⟨fun _ => ⟨inB_of hi, s1, fun q hq => ?_⟩, fun h => ?_⟩
      · rw [el_at hi] at hq
        have st1 := st _ _ q hq
        have rest : ∀ a, a = stepT s.1 l[i] → TreeGoodS prog X_l12_TableOrders (Cx.base O w0) (Ends prog O w0 rs_l12_TableOrders fun z => z = (true, ())) (ZD rs_l12_TableOrders fun z => z = (true, ()))
            (TreeS.req (nz (lnx tTrigger l)) (TreeS.req (nz (lnx tTrigger l)) (TreeS.req (nz (lnx tTrigger l)) (TreeS.req (inB (Int.tmod (IntKind.wrap IntKind.i64 ((i : Nat) + Int.tmod (IntKind.wrap IntKind.i64 (Int.tmod k (lnx tTrigger l) + lnx tTrigger l)) (lnx tTrigger l))) (lnx tTrigger l)) (lnx tTrigger l))
              (TreeS.req (List.length s.2 ≤ 1000000)
                (TreeS.all (den (Ty.pair (Ty.slc tTrigger) (Ty.pair tInt Ty.unit))) (fun (q8 : den (Ty.pair (Ty.slc tTrigger) (Ty.pair tInt Ty.unit))) =>
                  q8 = (Prod.fst (g_Put s.2 (el tTrigger l (Int.tmod (IntKind.wrap IntKind.i64 ((i : Nat) + Int.tmod (IntKind.wrap IntKind.i64 (Int.tmod k (lnx tTrigger l) + lnx tTrigger l)) (lnx tTrigger l))) (lnx tTrigger l)))),
                    Prod.snd (g_Put s.2 (el tTrigger l (Int.tmod (IntKind.wrap IntKind.i64 ((i : Nat) + Int.tmod (IntKind.wrap IntKind.i64 (Int.tmod k (lnx tTrigger l) + lnx tTrigger l)) (lnx tTrigger l))) (lnx tTrigger l)))), PUnit.unit))
                  fun (q8 : den (Ty.pair (Ty.slc tTrigger) (Ty.pair tInt Ty.unit))) =>
                    TreeS.ite (decide (Prod.fst (Prod.snd q8) = 0))
                      (TreeS.loop [] fx_l12_TableOrders (lp f_l12_TableOrders 4)
                        [(0, K.val (Ty.slc tTrigger) l), (1, K.val tInt k), (5, K.ptr 0 tId []), (7, K.val (Ty.slc tTrigger) a), (8, K.val (Ty.slc tTrigger) (Prod.fst q8)),
                          (9, K.nilsl), (28, K.val tInt (lnx tTrigger l)), (29, K.val tInt (IntKind.wrap IntKind.i64 ((i : Nat) + 1)))] [(0, Bx.cell tId id)])
                      (TreeS.loop [] fx_l12_TableOrders (lp f_l12_TableOrders 4)
                        [(0, K.val (Ty.slc tTrigger) l), (1, K.val tInt k), (5, K.ptr 0 tId []), (7, K.val (Ty.slc tTrigger) a), (8, K.val (Ty.slc tTrigger) s.2), (9, K.nilsl),
                          (28, K.val tInt (lnx tTrigger l)), (29, K.val tInt (IntKind.wrap IntKind.i64 ((i : Nat) + 1)))] [(0, Bx.cell tId id)]))))))) := by
          intro a ha
          rw [lnx_eq] at *
          rw [eK, wr_idx hi (by omega)]
          refine ⟨hnz, hnz, hnz, inB_of hK, s2, fun q8 h8 => ?_⟩
          have st2 := st _ _ q8 h8
          exact ⟨fun h => fin _ _ ha (st2.1 h), fun h => fin _ _ ha (st2.2 h)⟩
        exact ⟨fun h => ⟨fun _ => rest _ (st1.1 h), fun h' => absurd h' (by rw [hd]; simp)⟩, fun h => ⟨fun _ => rest _ (st1.2 h), fun h' => absurd h' (by rw [hd]; simp)⟩⟩
      · rw [lnx_nat] at h
        exact absurd hi (of_decide_eq_false h)))
    (fun s hs => goodS_of (x_l12_TableOrders k_table_Put k_ident_Common k_table_Match k_l12_alive k_r12_Same) (TL_l12_TableOrders_4_eq l k s.1 s.2 _ _ id) (by
      obtain ⟨h1, h2⟩ := hs
      refine ⟨fun h => ?_, fun _ => ?_⟩
      · rw [lnx_nat] at h
        exact absurd (of_decide_eq_true h) (Nat.lt_irrefl _)
      · rw [List.take_length] at h1
        have e := made_same h1 h2 hk (turnedL_all (by omega) k)
        rw [← e]
        exact (gl_TableOrders_17 O w0 s.1 id h1.right).down 0 [] (Nat.zero_le _) rfl))

theorem k_l12_TableOrders : FnOk prog [] n_l12_TableOrders (lawS as_l12_TableOrders) :=
  fnS_T (S := lawS as_l12_TableOrders) (x_l12_TableOrders k_table_Put k_ident_Common k_table_Match k_l12_alive k_r12_Same) (fx := fx_l12_TableOrders) at_l12_TableOrders (by kernel_rfl) (fun _ _ => trivial) (T := fun x => T_l12_TableOrders x.1 x.2.1 x.2.2.1) (fun x => T_l12_TableOrders_eq x.1 x.2.1 x.2.2.1) fun O w0 x hk _ => by
    obtain ⟨l0, k, id, ⟨⟩⟩ := x
    have hkl : ∀ z ∈ l0, okTr z := fun z hz => okTr_of'' (hk.1.2 z hz)
    have e : lCutx tTrigger l0 0 (minI (lnx tTrigger l0) 20) = l0.take 20 := by
      show (l0.take (minI (l0.length : Int) 20).toNat).drop 0 = l0.take 20
      unfold minI
      split
      · rfl
      · rw [List.drop_zero, List.take_of_length_le (by omega), List.take_of_length_le (by omega)]
    refine ⟨⟨Int.le_refl _, ?_, ?_⟩, ?_⟩
    · show (0 : Int) ≤ minI (l0.length : Int) 20; unfold minI; split <;> omega
    · show minI (l0.length : Int) 20 ≤ (l0.length : Int); unfold minI; split <;> omega
    · show GoodS prog X_l12_TableOrders (Cx.base O w0) (Ends prog O w0 rs_l12_TableOrders fun z => z = (true, ())) [] fx_l12_TableOrders (lp f_l12_TableOrders 4) (E_l12_TableOrders_4 (lCutx tTrigger l0 0 (minI (lnx tTrigger l0) 20)) k [] [] (lnx tTrigger (lCutx tTrigger l0 0 (minI (lnx tTrigger l0) 20))) 0 id)
      rw [e]
      exact (gl_TableOrders_4 O w0 (l0.take 20) k id (by rw [List.length_take]; omega) (fun y hy => hkl y (List.mem_of_mem_take hy))).down 0 ([], []) (Nat.zero_le _) ⟨made_nil, made_nil⟩

end Go.Proofs.Ytnccacngedeoeaa
