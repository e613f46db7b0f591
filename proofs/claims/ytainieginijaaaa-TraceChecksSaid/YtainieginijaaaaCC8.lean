/- Part 8 of 8 of what this claim's proof stands on: a theory of programs on data, and the contracts of the functions that the law reaches. It holds no condition of its own. -/
import Derived.Test.YtainieginijaaaaCC7

/- What one note more does. -/
namespace Go.Proofs.Ytainieginijaaaa
open Go Go.RowKit

/-! ### The plain law -/

theorem has_any (m : List (Int × Int)) (c : Int) : hasW m c = m.any fun q => decide (c = q.1) := by
  unfold hasW mpHas mpFind
  cases hf : m.find? (fun q : Int × Int => eqb tInt c q.1) with
  | none =>
    refine Eq.symm (Bool.eq_false_iff.2 fun h => ?_)
    obtain ⟨q, hq, hd⟩ := List.any_eq_true.1 h
    exact List.find?_eq_none.1 hf q hq hd
  | some q =>
    have h1 := List.mem_of_find?_eq_some hf
    have h2 := List.find?_some hf
    exact (List.any_eq_true.2 ⟨q, h1, h2⟩).symm

theorem has_set (m : List (Int × Int)) (a v c : Int) : hasW (mpSet (k := tInt) (v := tInt) m a v) c = (hasW m c || decide (c = a)) := by
  rw [has_any, has_any]
  induction m with
  | nil => show (decide (c = a) || false) = (false || decide (c = a)); rw [Bool.or_false, Bool.false_or]
  | cons q m ih =>
    rw [mpSet]
    by_cases h : eqb tInt a q.1 = true
    · have e : a = q.1 := of_decide_eq_true h
      rw [if_pos h, List.any_cons, List.any_cons]
      show (decide (c = a) || _) = _
      rw [e]
      cases decide (c = q.1) <;> cases m.any fun q => decide (c = q.1) <;> rfl
    · rw [if_neg h, List.any_cons, List.any_cons, ih, Bool.or_assoc]

theorem get_mem {m : List (Int × Lt)} {a : Int} (h : hasM m a = true) : ∃ e ∈ m, e.2 = getM m a := by
  unfold hasM mpHas at h
  unfold getM mpGet
  unfold mpFind at h ⊢
  cases hf : m.find? (fun q : Int × Lt => eqb tInt a q.1) with
  | none => rw [hf] at h; cases h
  | some q => exact ⟨q, List.mem_of_find?_eq_some hf, rfl⟩

structure Bo (b : Bk) : Prop where
  who : ∀ a, hasW b.2.2.1 a = true → hasM b.1 a = true
  fst : ∀ e ∈ b.1, hasM b.1 (firstL e.2) = true

theorem bo_nil : Bo bk0 := ⟨fun _ h => (by cases h), fun _ h => (by cases h)⟩

theorem bo_step {f : Bool} {b b' : Bk} {x : Nt} (h : stepB f b x = some b') (hb : Bo b) : Bo b' := by
  have old : ∀ (q : Int × Lt) (a : Int), hasM b.1 a = true → hasM (b.1 ++ [q]) a = true := fun q a h => (has_app' b.1 [q] h).1
  rcases (step_cases h).2 with ⟨_, _, h1, rfl⟩ | ⟨_, rfl⟩ | ⟨_, h1, _, h2, _, rfl⟩ | ⟨_, _, _, rfl⟩ | ⟨_, rfl⟩
  · refine ⟨fun a ha => ?_, fun e he => ?_⟩
    · have ha : hasW (mpSet (k := tInt) (v := tInt) b.2.2.1 (ltN x) (noN x)) a = true := ha
      rw [has_set] at ha
      show hasM (b.1 ++ _) a = true
      rw [has_app]
      rcases Bool.or_eq_true_iff.1 ha with ha | ha
      · rw [hb.who a ha]; rfl
      · rw [ha, Bool.or_true]
    · rcases List.mem_append.1 he with he | he
      · exact old _ _ (hb.fst e he)
      · rw [List.mem_singleton.1 he]
        show hasM (b.1 ++ _) (ltN x) = true
        rw [has_app, decide_eq_true rfl, Bool.or_true]
  · exact ⟨hb.who, hb.fst⟩
  · refine ⟨fun a ha => old _ _ (hb.who a ha), fun e he => ?_⟩
    rcases List.mem_append.1 he with he | he
    · exact old _ _ (hb.fst e he)
    · rw [List.mem_singleton.1 he]
      obtain ⟨e', h3, h4⟩ := get_mem h1
      have := hb.fst e' h3
      rw [h4] at this
      exact old _ _ this
  · exact ⟨hb.who, hb.fst⟩
  · exact ⟨hb.who, hb.fst⟩

theorem bo_run : ∀ {l : List Nt} {i : Nat} {b b' : Bk}, runB l i b = .inr b' → Bo b → Bo b'
  | [], i, b, b', h, hb => by cases h; exact hb
  | x :: l, i, b, b', h, hb => by
    rw [runB] at h
    cases hs : stepB (decide (i = 0)) b x with
    | none => rw [hs] at h; cases h
    | some b1 => rw [hs] at h; exact bo_run h (bo_step hs hb)

theorem run_more {L m : List Nt} {b : Bk} (h : runB L 0 bk0 = .inr b) : runB (L ++ m) 0 bk0 = runB m L.length b := by
  rw [runB_append, h]
  simp only [Nat.zero_add]

theorem step4 {b : Bk} {g : Nt} (hk : kdN g = 4) (h1 : hasM b.1 (wasN g) = true) (h2 : (getM b.1 (wasN g)).1 = dtN g) (ha : b.2.2.2 = atN g) : stepB false b g = some (b.1, b.2.1, b.2.2.1, atN g) := by
  unfold stepB
  have e : (bif hasL b (wasN g) then eqb .str (getL b (wasN g)).1 (dtN g) else false) = true := by
    rw [show hasL b (wasN g) = hasM b.1 (wasN g) from rfl, h1]
    exact (eqb_iff (t := .str) rfl _ _).2 h2
  rw [e, hk]
  have e2 : decide (atN g < (if false = true then atN g else b.2.2.2)) = false := by
    rw [if_neg (by decide), ha]
    exact decide_eq_false (by omega)
  rw [e2]
  rfl

theorem twice_run {L : List Nt} {b : Bk} (h : runB L 0 bk0 = .inr b) {g : Nt} (hk : kdN g = 4) :
    (∃ b1 b2, runB (L ++ [g]) 0 bk0 = .inr b1 ∧ runB (L ++ [g, g]) 0 bk0 = .inr b2) ∨ (runB (L ++ [g]) 0 bk0 = .inl L.length ∧ runB (L ++ [g, g]) 0 bk0 = .inl L.length) := by
  rw [run_more h, run_more h]
  cases hs : stepB (decide (L.length = 0)) b g with
  | none =>
    right
    constructor
    · rw [runB, hs]
    · rw [runB, hs]
  | some b1 =>
    left
    rcases (step_cases hs).2 with ⟨h0, _⟩ | ⟨h0, _⟩ | ⟨h0, _⟩ | ⟨_, h1, h2, e⟩ | ⟨h0, _⟩
    · rw [hk] at h0; exact absurd h0 (by decide)
    · rw [hk] at h0; exact absurd h0 (by decide)
    · rw [hk] at h0; exact absurd h0 (by decide)
    · subst e
      have hs2 := step4 (b := (b.1, b.2.1, b.2.2.1, atN g)) hk h1 h2 rfl
      have hd : decide (L.length + 1 = 0) = false := decide_eq_false (by omega)
      refine ⟨(b.1, b.2.1, b.2.2.1, atN g), (b.1, b.2.1, b.2.2.1, atN g), by rw [runB, hs]; rfl, ?_⟩
      rw [runB, hs]
      show runB [g] (L.length + 1) _ = _
      rw [runB, hd, hs2]
      rfl
    · rw [hk] at h0; exact absurd h0 (by decide)

theorem twice_ok {L : List Nt} (hL : L.length ≤ 40) {b : Bk} (h : runB L 0 bk0 = .inr b) {g : Nt} (hk : kdN g = 4) :
    (g_Check (L ++ [g]) = ((L.length : Int) + 1, 0, ()) ∧ g_Check (L ++ [g, g]) = ((L.length : Int) + 2, 0, ())) ∨ (g_Check (L ++ [g]) = ((L.length : Int), 11, ()) ∧ g_Check (L ++ [g, g]) = ((L.length : Int), 11, ())) := by
  have l1 : (L ++ [g]).length = L.length + 1 := by simp
  have l2 : (L ++ [g, g]).length = L.length + 2 := by simp
  rcases twice_run h hk with ⟨b1, b2, h1, h2⟩ | ⟨h1, h2⟩
  · left
    rw [check_ok (by omega) h1, check_ok (by omega) h2, l1, l2]
    exact ⟨rfl, rfl⟩
  · right
    exact ⟨check_bad (by omega) h1, check_bad (by omega) h2⟩

theorem sent_ok {L : List Nt} (hL : L.length ≤ 40) {b : Bk} (h : runB L 0 bk0 = .inr b) {s : Nt} (hk : kdN s = 1) :
    (∃ i : Int, g_Check (L ++ [s]) = (i, 11, ())) ∨ (g_Cost (L ++ [s]) (ltN s) = (1, 0, ()) ∧ g_Cost L (ltN s) = (0, 6, ())) := by
  have l1 : (L ++ [s]).length = L.length + 1 := by simp
  have hr : runB (L ++ [s]) 0 bk0 = runB [s] L.length b := run_more h
  cases hs : stepB (decide (L.length = 0)) b s with
  | none =>
    left
    rw [runB, hs] at hr
    exact ⟨_, check_bad (by omega) hr⟩
  | some b1 =>
    right
    rw [runB, hs] at hr
    have hr : runB (L ++ [s]) 0 bk0 = .inr b1 := hr
    have hb := bo_run h bo_nil
    rcases (step_cases hs).2 with ⟨_, _, h1, e⟩ | ⟨h0, _⟩ | ⟨h0, _⟩ | ⟨h0, _⟩ | ⟨h0, _⟩
    · subst e
      have hw : hasW b.2.2.1 (ltN s) = false := by
        cases hh : hasW b.2.2.1 (ltN s) with
        | false => rfl
        | true => rw [hb.who _ hh] at h1; cases h1
      have hc : cntF (ltN s) b.1 = 0 := by
        unfold cntF
        rw [List.filter_eq_nil_iff.2 fun e he hd => ?_]
        · rfl
        · have hd : firstL e.2 = ltN s := of_decide_eq_true hd
          have := hb.fst e he
          rw [hd, h1] at this
          cases this
      constructor
      · unfold g_Cost
        rw [if_neg (by omega), hr]
        unfold resCost
        have hw2 : hasW (mpSet (k := tInt) (v := tInt) b.2.2.1 (ltN s) (noN s)) (ltN s) = true := by rw [has_set, decide_eq_true rfl, Bool.or_true]
        show (if (!hasW (mpSet (k := tInt) (v := tInt) b.2.2.1 (ltN s) (noN s)) (ltN s)) = true then ((0 : Int), (6 : Int), ()) else (cntF (ltN s) (b.1 ++ [(ltN s, (dtN s, (0 : Int), zero tTrigger, ltN s, ()))]), (0 : Int), ())) = _
        rw [hw2, if_neg (by decide)]
        have e : cntF (ltN s) (b.1 ++ [(ltN s, (dtN s, (0 : Int), zero tTrigger, ltN s, ()))]) = cntF (ltN s) b.1 + 1 := by
          unfold cntF
          rw [List.filter_append, List.length_append, List.filter_cons_of_pos (p := fun e : Int × Lt => decide (firstL e.2 = ltN s)) (decide_eq_true rfl)]
          rfl
        rw [e, hc]; rfl
      · unfold g_Cost
        rw [if_neg (by omega), h]
        unfold resCost
        show (if (!hasW b.2.2.1 (ltN s)) = true then ((0 : Int), (6 : Int), ()) else _) = _
        rw [hw]
        rfl
    · rw [hk] at h0; exact absurd h0 (by decide)
    · rw [hk] at h0; exact absurd h0 (by decide)
    · rw [hk] at h0; exact absurd h0 (by decide)
    · rw [hk] at h0; exact absurd h0 (by decide)

end Go.Proofs.Ytainieginijaaaa

/- What the book holds, by the notes: births, admissions, who sent. No program here. -/
namespace Go.Proofs.Ytainieginijaaaa
open Go Go.RowKit

theorem birth_find (n : Int) : ∀ (l : List Nt) (i : Nat), (l.find? (isBirth n) = none ∧ birthN n l i = -1) ∨ ∃ (j : Nat) (h : j < l.length), l.find? (isBirth n) = some l[j] ∧ birthN n l i = ((i + j : Nat) : Int)
  | [], i => .inl ⟨rfl, rfl⟩
  | x :: l, i => by
    by_cases h : isBirth n x = true
    · right
      exact ⟨0, Nat.zero_lt_succ _, by rw [List.find?_cons_of_pos h]; rfl, by rw [birthN, if_pos h]; rfl⟩
    · rw [List.find?_cons_of_neg h, birthN, if_neg h]
      rcases birth_find n l (i + 1) with h1 | ⟨j, h1, h2, h3⟩
      · exact .inl h1
      · right
        exact ⟨j + 1, Nat.succ_lt_succ h1, h2, by rw [h3]; congr 1; omega⟩

theorem born_find (l : List Nt) (n : Int) : bornAt l n = l.find? (isBirth n) := by
  unfold bornAt
  rcases birth_find n l 0 with ⟨h1, h2⟩ | ⟨j, h, h1, h2⟩
  · rw [h1, h2, if_neg (by decide)]
  · rw [h1, h2, if_pos (by omega)]
    rw [show ((0 + j : Nat) : Int) = (j : Nat) by congr 1; omega, el_at h]

theorem born_pos (l : List Nt) (n : Int) : decide (0 ≤ birthN n l 0) = (bornAt l n).isSome := by
  unfold bornAt
  by_cases h : 0 ≤ birthN n l 0
  · rw [if_pos h, decide_eq_true h]; rfl
  · rw [if_neg h, decide_eq_false h]; rfl

theorem born_snoc (l : List Nt) (x : Nt) (n : Int) : bornAt (l ++ [x]) n = match bornAt l n with | some y => some y | none => if isBirth n x then some x else none := by
  rw [born_find, born_find, List.find?_append]
  cases l.find? (isBirth n) with
  | some y => rfl
  | none =>
    rw [Option.none_or]
    by_cases h : isBirth n x = true
    · rw [List.find?_cons_of_pos h, if_pos h]
    · rw [List.find?_cons_of_neg h, if_neg h]; rfl

def isB (x : Nt) : Bool := decide (kdN x = 1) || decide (kdN x = 3)
theorem isBirth_eq (n : Int) (x : Nt) : isBirth n x = (isB x && decide (ltN x = n)) := rfl

theorem getW_set (m : List (Int × Int)) (a v c : Int) : mpGet (k := tInt) (v := tInt) (mpSet (k := tInt) (v := tInt) m a v) c = if c = a then v else mpGet (k := tInt) (v := tInt) m c := by
  induction m with
  | nil =>
    unfold mpGet mpFind mpSet
    by_cases h : c = a
    · rw [List.find?_cons_of_pos (by rw [eqI_dec]; exact decide_eq_true h), if_pos h]; rfl
    · rw [List.find?_cons_of_neg (by rw [eqI_dec]; simp [h]), if_neg h]
  | cons q m ih =>
    rw [mpSet]
    by_cases h : eqb tInt a q.1 = true
    · have e : a = q.1 := of_decide_eq_true h
      rw [if_pos h]
      unfold mpGet mpFind
      by_cases hc : c = a
      · rw [List.find?_cons_of_pos (by rw [eqI_dec]; exact decide_eq_true hc), if_pos hc]; rfl
      · rw [List.find?_cons_of_neg (by rw [eqI_dec]; simp [hc]), if_neg hc, List.find?_cons_of_neg (by rw [eqI_dec, ← e]; simp [hc])]
    · rw [if_neg h]
      by_cases hq : c = q.1
      · have hca : ¬ c = a := fun e => h (decide_eq_true (e.symm.trans hq))
        rw [if_neg hca]
        unfold mpGet mpFind
        rw [List.find?_cons_of_pos (by rw [eqI_dec]; exact decide_eq_true hq), List.find?_cons_of_pos (by rw [eqI_dec]; exact decide_eq_true hq)]
      · have e1 : ∀ m' : List (Int × Int), mpGet (k := tInt) (v := tInt) (q :: m') c = mpGet (k := tInt) (v := tInt) m' c := fun m' => by
          unfold mpGet mpFind
          rw [List.find?_cons_of_neg (by rw [eqI_dec]; simp [hq])]
        rw [e1, e1, ih]

/-- What notes that are justified say of the book. -/
structure Rf (l : List Nt) (b : Bk) : Prop where
  has : ∀ a, hasM b.1 a = (bornAt l a).isSome
  rel : ∀ a y, bornAt l a = some y → 0 < a ∧ ((kdN y = 1 ∧ getM b.1 a = (dtN y, (0 : Int), zero tTrigger, a, ())) ∨
    (kdN y = 3 ∧ hasM b.1 (wasN y) = true ∧ getM b.1 a = ((getM b.1 (wasN y)).1, wasN y, trN y, firstL (getM b.1 (wasN y)), ())))
  adm : ∀ z, z ∈ b.2.1 ↔ l.any (isAdm z) = true
  who : ∀ a, hasW b.2.2.1 a = match bornAt l a with | some y => decide (kdN y = 1) | none => false
  whoV : ∀ a y, bornAt l a = some y → kdN y = 1 → mpGet (k := tInt) (v := tInt) b.2.2.1 a = noN y
  at_ : ∀ z, l.getLast? = some z → b.2.2.2 = atN z
  keys : b.1.map (·.1) = (l.filter isB).map ltN
  own : ∀ e ∈ b.1, getM b.1 e.1 = e.2

theorem rf_nil : Rf [] bk0 where
  has _ := rfl
  rel _ _ h := by cases h
  adm z := ⟨fun h => (by cases h), fun h => (by cases h)⟩
  who _ := rfl
  whoV _ _ h := by cases h
  at_ _ h := by cases h
  keys := rfl
  own _ h := by cases h

theorem isAdm_iff (z : Tr) (x : Nt) : isAdm z x = true ↔ kdN x = 2 ∧ trN x = z := by
  unfold isAdm
  rw [Bool.and_eq_true, decide_eq_true_iff, decide_eq_true_iff]

theorem any_snoc (l : List Nt) (x : Nt) (z : Tr) : (l ++ [x]).any (isAdm z) = true ↔ l.any (isAdm z) = true ∨ (kdN x = 2 ∧ trN x = z) := by
  rw [List.any_append, Bool.or_eq_true, List.any_cons, List.any_nil, Bool.or_false, isAdm_iff]

theorem rf_old {l : List Nt} {b b' : Bk} {x : Nt} (h : Rf l b) (hk : ¬ kdN x = 1) (hk2 : ¬ kdN x = 2) (hk3 : ¬ kdN x = 3) (e : b' = (b.1, b.2.1, b.2.2.1, atN x)) : Rf (l ++ [x]) b' := by
  subst e
  have hb : ∀ a, isBirth a x = false := fun a => by rw [isBirth_eq, isB, decide_eq_false hk, decide_eq_false hk3]; rfl
  have e : ∀ a, bornAt (l ++ [x]) a = bornAt l a := fun a => by
    rw [born_snoc, hb]
    cases bornAt l a <;> rfl
  exact {
    has := fun a => by rw [e]; exact h.has a
    rel := fun a y => by rw [e]; exact h.rel a y
    adm := fun z => by
      rw [any_snoc]
      exact (h.adm z).trans ⟨.inl, fun h => h.resolve_right fun h => hk2 h.1⟩
    who := fun a => by rw [e]; exact h.who a
    whoV := fun a y => by rw [e]; exact h.whoV a y
    at_ := fun z hz => by rw [List.getLast?_concat] at hz; cases hz; rfl
    keys := by
      rw [List.filter_append, List.filter_cons_of_neg (by rw [isB, decide_eq_false hk, decide_eq_false hk3]; decide), List.filter_nil, List.append_nil]
      exact h.keys
    own := h.own }

theorem rf_adm {l : List Nt} {b b' : Bk} {x : Nt} (h : Rf l b) (hk : kdN x = 2) (e : b' = (b.1, b.2.1 ++ [trN x], b.2.2.1, atN x)) : Rf (l ++ [x]) b' := by
  subst e
  have hk1 : ¬ kdN x = 1 := by rw [hk]; decide
  have hk3 : ¬ kdN x = 3 := by rw [hk]; decide
  have hb : ∀ a, isBirth a x = false := fun a => by rw [isBirth_eq, isB, decide_eq_false hk1, decide_eq_false hk3]; rfl
  have e : ∀ a, bornAt (l ++ [x]) a = bornAt l a := fun a => by
    rw [born_snoc, hb]
    cases bornAt l a <;> rfl
  exact {
    has := fun a => by rw [e]; exact h.has a
    rel := fun a y => by rw [e]; exact h.rel a y
    adm := fun z => by
      rw [any_snoc]
      show z ∈ b.2.1 ++ [trN x] ↔ _
      rw [List.mem_append, List.mem_singleton, h.adm z]
      exact ⟨fun h => h.imp id fun h => ⟨hk, h.symm⟩, fun h => h.imp id fun h => h.2.symm⟩
    who := fun a => by rw [e]; exact h.who a
    whoV := fun a y => by rw [e]; exact h.whoV a y
    at_ := fun z hz => by rw [List.getLast?_concat] at hz; cases hz; rfl
    keys := by
      rw [List.filter_append, List.filter_cons_of_neg (by rw [isB, decide_eq_false hk1, decide_eq_false hk3]; decide), List.filter_nil, List.append_nil]
      exact h.keys
    own := h.own }

theorem rf_born {l : List Nt} {b b' : Bk} {x : Nt} {y : Lt} (h : Rf l b) (hk : isB x = true) (hp : 0 < ltN x) (hn : hasM b.1 (ltN x) = false) (h1 : b'.1 = b.1 ++ [(ltN x, y)]) (h2 : b'.2.1 = b.2.1) (h4 : b'.2.2.2 = atN x)
    (hw : ∀ a, hasW b'.2.2.1 a = (hasW b.2.2.1 a || (decide (a = ltN x) && decide (kdN x = 1))))
    (hv : ∀ a, mpGet (k := tInt) (v := tInt) b'.2.2.1 a = if a = ltN x ∧ kdN x = 1 then noN x else mpGet (k := tInt) (v := tInt) b.2.2.1 a)
    (hy : (kdN x = 1 ∧ y = (dtN x, (0 : Int), zero tTrigger, ltN x, ())) ∨ (kdN x = 3 ∧ hasM b.1 (wasN x) = true ∧ y = ((getM b.1 (wasN x)).1, wasN x, trN x, firstL (getM b.1 (wasN x)), ()))) : Rf (l ++ [x]) b' := by
  have hb : ∀ a, isBirth a x = decide (ltN x = a) := fun a => by rw [isBirth_eq, hk]; rfl
  have hno : bornAt l (ltN x) = none := by
    have := h.has (ltN x)
    rw [hn] at this
    cases hh : bornAt l (ltN x) with
    | none => rfl
    | some z => rw [hh] at this; cases this
  have e : ∀ a, bornAt (l ++ [x]) a = if a = ltN x then some x else bornAt l a := fun a => by
    rw [born_snoc, hb]
    by_cases ha : a = ltN x
    · subst ha
      rw [hno, if_pos rfl, decide_eq_true rfl]; rfl
    · rw [if_neg ha, decide_eq_false fun e => ha e.symm]
      cases bornAt l a <;> rfl
  have hk2 : ¬ kdN x = 2 := by
    intro hh
    unfold isB at hk
    rw [hh] at hk
    exact absurd hk (by decide)
  have old : ∀ a, hasM b.1 a = true → hasM b'.1 a = true ∧ getM b'.1 a = getM b.1 a := fun a ha => by
    rw [h1]
    exact ⟨by rw [has_app, ha]; rfl, get_old ha⟩
  have hold : ∀ a, (bornAt l a).isSome = true → hasM b.1 a = true := fun a ha => (h.has a).trans ha
  exact {
    has := fun a => by
      rw [h1, has_app, e, h.has a]
      by_cases ha : a = ltN x
      · rw [if_pos ha, decide_eq_true ha, Bool.or_true]; rfl
      · rw [if_neg ha, decide_eq_false ha, Bool.or_false]
    rel := fun a z hz => by
      rw [e] at hz
      by_cases ha : a = ltN x
      · rw [if_pos ha] at hz
        cases hz
        subst ha
        refine ⟨hp, ?_⟩
        rw [h1, get_new hn]
        rcases hy with ⟨e1, e2⟩ | ⟨e1, e2, e3⟩
        · exact .inl ⟨e1, e2⟩
        · refine .inr ⟨e1, by rw [has_app, e2]; rfl, ?_⟩
          rw [get_old e2]
          exact e3
      · rw [if_neg ha] at hz
        obtain ⟨r1, r2⟩ := h.rel a z hz
        refine ⟨r1, ?_⟩
        rw [(old a (hold a (by rw [hz]; rfl))).2]
        rcases r2 with r2 | ⟨s1, s2, s3⟩
        · exact .inl r2
        · refine .inr ⟨s1, (old _ s2).1, ?_⟩
          rw [(old _ s2).2]
          exact s3
    adm := fun z => by
      rw [any_snoc, h2]
      exact (h.adm z).trans ⟨.inl, fun h => h.resolve_right fun h => hk2 h.1⟩
    who := fun a => by
      rw [hw, e, h.who a]
      by_cases ha : a = ltN x
      · rw [if_pos ha, decide_eq_true ha]
        subst ha
        rw [hno]
        simp
      · rw [if_neg ha, decide_eq_false ha]
        simp
    whoV := fun a z hz hz1 => by
      rw [hv]
      rw [e] at hz
      by_cases ha : a = ltN x
      · rw [if_pos ha] at hz
        cases hz
        rw [if_pos ⟨ha, hz1⟩]
      · rw [if_neg ha] at hz
        rw [if_neg fun hh => ha hh.1]
        exact h.whoV a z hz hz1
    at_ := fun z hz => by rw [List.getLast?_concat] at hz; cases hz; exact h4
    keys := by
      rw [List.filter_append, List.filter_cons_of_pos hk, List.filter_nil, h1, List.map_append, List.map_append, h.keys]; rfl
    own := fun q hq => by
      rw [h1] at hq ⊢
      rcases List.mem_append.1 hq with hq | hq
      · have hh : hasM b.1 q.1 = true := by
          unfold hasM mpHas mpFind
          cases hf : b.1.find? (fun r : Int × Lt => eqb tInt q.1 r.1) with
          | some r => rfl
          | none => exact absurd (decide_eq_true (rfl : q.1 = q.1)) (List.find?_eq_none.1 hf q hq)
        rw [get_old hh]
        exact h.own q hq
      · rw [List.mem_singleton.1 hq]
        exact get_new hn }

theorem rf_step {l : List Nt} {f : Bool} {b b' : Bk} {x : Nt} (hs : stepB f b x = some b') (h : Rf l b) : Rf (l ++ [x]) b' := by
  rcases (step_cases hs).2 with ⟨k1, hp, hn, e⟩ | ⟨k1, e⟩ | ⟨k1, h1, hp, hn, _, e⟩ | ⟨k1, _, _, e⟩ | ⟨k1, e⟩
  · subst e
    refine rf_born (y := (dtN x, (0 : Int), zero tTrigger, ltN x, ())) h (by unfold isB; rw [k1]; rfl) hp hn rfl rfl rfl (fun a => ?_) (fun a => ?_) (.inl ⟨k1, rfl⟩)
    · show hasW (mpSet (k := tInt) (v := tInt) b.2.2.1 (ltN x) (noN x)) a = _
      rw [has_set, k1]
      simp
    · show mpGet (k := tInt) (v := tInt) (mpSet (k := tInt) (v := tInt) b.2.2.1 (ltN x) (noN x)) a = _
      rw [getW_set]
      by_cases ha : a = ltN x
      · rw [if_pos ha, if_pos ⟨ha, k1⟩]
      · rw [if_neg ha, if_neg fun hh => ha hh.1]
  · exact rf_adm h k1 e
  · subst e
    have hk1 : ¬ kdN x = 1 := by rw [k1]; decide
    refine rf_born (y := ((getM b.1 (wasN x)).1, wasN x, trN x, firstL (getM b.1 (wasN x)), ())) h (by unfold isB; rw [k1]; rfl) hp hn rfl rfl rfl (fun a => ?_) (fun a => ?_) (.inr ⟨k1, h1, rfl⟩)
    · rw [decide_eq_false hk1, Bool.and_false, Bool.or_false]
    · rw [if_neg fun hh => hk1 hh.2]
  · exact rf_old h (by rw [k1]; decide) (by rw [k1]; decide) (by rw [k1]; decide) e
  · exact rf_old h (by rw [k1]; decide) (by rw [k1]; decide) (by rw [k1]; decide) e

theorem rf_run : ∀ {l p : List Nt} {i : Nat} {b b' : Bk}, runB l i b = .inr b' → Rf p b → Rf (p ++ l) b'
  | [], p, i, b, b', h, ha => by cases h; simpa using ha
  | x :: l, p, i, b, b', h, ha => by
    rw [runB] at h
    cases hs : stepB (decide (i = 0)) b x with
    | none => rw [hs] at h; cases h
    | some b1 =>
      rw [hs] at h
      have := rf_run h (rf_step hs ha)
      rwa [List.append_assoc] at this

theorem rf_of {l : List Nt} {b : Bk} (h : runB l 0 bk0 = .inr b) : Rf l b := by
  have := rf_run h rf_nil
  rwa [List.nil_append] at this

/-! ### By rank -/

theorem walk_acc (m : List (Int × Lt)) : ∀ (k : Nat) (no : Int) (out : List Tr), walk m k no out = (out ++ (walk m k no []).1, (walk m k no []).2)
  | 0, no, out => by simp [walk]
  | k + 1, no, out => by
    rw [walk, walk]
    by_cases h : 0 < wasL (getM m no)
    · rw [if_pos h, if_pos h, walk_acc m k _ (if byL (getM m no) = zero tTrigger then out else out ++ [byL (getM m no)]), walk_acc m k _ (if byL (getM m no) = zero tTrigger then [] else [] ++ [byL (getM m no)])]
      split
      · rfl
      · rw [List.append_assoc, List.append_assoc]; rfl
    · rw [if_neg h, if_neg h, List.append_nil]

theorem ranked {l : List Nt} {b : Bk} (h : Rf l b) (rk : Int → Nat) (hrk : ∀ a, 0 < wasL (getM b.1 a) → hasM b.1 (wasL (getM b.1 a)) = true ∧ rk (wasL (getM b.1 a)) < rk a) :
    ∀ (k : Nat) (a : Int), hasM b.1 a = true → rk a < k → dataR l k a = some (getM b.1 a).1 ∧ firstR l k a = some (firstL (getM b.1 a)) ∧ (∃ y, bornAt l (firstL (getM b.1 a)) = some y ∧ kdN y = 1) ∧
      ∀ j, rk a ≤ j → chainR l k a = some (walk b.1 j a []).1.reverse ∧ (walk b.1 j a []).2 = firstL (getM b.1 a)
  | 0, a, _, hk => absurd hk (Nat.not_lt_zero _)
  | k + 1, a, ha, hk => by
    rw [h.has a] at ha
    cases hy : bornAt l a with
    | none => rw [hy] at ha; cases ha
    | some y =>
      obtain ⟨hp, h1⟩ := h.rel a y hy
      rw [dataR, firstR, chainR, hy]
      rcases h1 with ⟨k1, e⟩ | ⟨k3, h2, e⟩
      · have hd : decide (kdN y = 1) = true := decide_eq_true k1
        have hw : ¬ 0 < wasL (getM b.1 a) := by rw [e]; exact Int.lt_irrefl 0
        simp only [hd, if_true]
        refine ⟨by rw [e], by rw [e], ⟨y, by rw [e]; exact hy, k1⟩, fun j hj => ?_⟩
        have ew : walk b.1 j a [] = ([], a) := by
          cases j with
          | zero => rfl
          | succ j => rw [walk, if_neg hw]
        rw [ew]
        exact ⟨rfl, by rw [e]⟩
      · have hd : decide (kdN y = 1) = false := by rw [k3]; decide
        have hwp : 0 < wasN y := by
          have h2' := h2
          rw [h.has] at h2'
          cases hz : bornAt l (wasN y) with
          | none => rw [hz] at h2'; cases h2'
          | some z => exact (h.rel _ z hz).1
        have hwe : wasL (getM b.1 a) = wasN y := by rw [e]
        have hw : 0 < wasL (getM b.1 a) := by rw [hwe]; exact hwp
        obtain ⟨_, hlt⟩ := hrk a hw
        rw [hwe] at hlt
        obtain ⟨i1, i2, i3, i4⟩ := ranked h rk hrk k (wasN y) h2 (by omega)
        have ef : firstL (getM b.1 a) = firstL (getM b.1 (wasN y)) := by rw [e]
        have ed : (getM b.1 a).1 = (getM b.1 (wasN y)).1 := by rw [e]
        have eb : byL (getM b.1 a) = trN y := by rw [e]
        simp only [hd, Bool.false_eq_true, if_false]
        refine ⟨by rw [i1, ed], by rw [i2, ef], by rw [ef]; exact i3, fun j hj => ?_⟩
        cases j with
        | zero => omega
        | succ j =>
          obtain ⟨j1, j2⟩ := i4 j (by omega)
          rw [walk, if_pos hw, hwe, eb, walk_acc, j1, ef]
          refine ⟨?_, j2⟩
          show (match some (walk b.1 j (wasN y) []).1.reverse with | some c => some (if trN y = zero tTrigger then c else c ++ [trN y]) | none => none) = _
          by_cases hz : trN y = zero tTrigger
          · simp only [if_pos hz, List.nil_append]
          · simp only [if_neg hz, List.nil_append, List.reverse_append, List.reverse_cons, List.reverse_nil]

/-- What the reference's functions say of letters that are known. -/
theorem known {l : List Nt} {b : Bk} (hr : runB l 0 bk0 = .inr b) (hl : l.length ≤ 1000) {a : Int} (ha : hasM b.1 a = true) : dataR l 1001 a = some (getM b.1 a).1 ∧ firstR l 1001 a = some (firstL (getM b.1 a)) ∧ (∃ y, bornAt l (firstL (getM b.1 a)) = some y ∧ kdN y = 1) ∧
      chainR l 1001 a = some (walk b.1 b.1.length a []).1.reverse ∧ (walk b.1 b.1.length a []).2 = firstL (getM b.1 a) := by
  obtain ⟨rk, r1, r2⟩ := (run_fam hr Fam.nil).rank
  have hlen := run_len hr
  have hlen : b.1.length ≤ l.length := by simpa [bk0] using hlen
  obtain ⟨h1, h2, h3, h4⟩ := ranked (rf_of hr) rk r2 1001 a ha (by have := r1 a; omega)
  exact ⟨h1, h2, h3, h4 _ (r1 a)⟩

end Go.Proofs.Ytainieginijaaaa

/- What the reference's judgements are, by the book. -/
namespace Go.Proofs.Ytainieginijaaaa
open Go Go.RowKit

def okL (l : List Nt) : Prop := ∃ b, runB l 0 bk0 = .inr b
def g_Is (l : List Nt) (x : Nt) : Bool := match runB l 0 bk0 with | .inr b => (stepB (decide (l.length = 0)) b x).isSome | .inl _ => false
def g_CheckR (l : List Nt) : Int := match runB l 0 bk0 with | .inr _ => (l.length : Int) | .inl i => (i : Int)
def g_CostR (l : List Nt) (n : Int) : Int := match runB l 0 bk0 with | .inr b => cntF n b.1 | .inl _ => 0

noncomputable abbrev S_r20_Is : Spec := ⟨as_r20_Is, rs_r20_Is, fun x => (g_Is x.1 x.2.1, ()), fun x => x.1.length ≤ 1000 ∧ okL x.1, false⟩
noncomputable abbrev S_r20_Check : Spec := ⟨as_r20_Check, rs_r20_Check, fun x => (g_CheckR x.1, ()), fun x => x.1.length ≤ 1000, false⟩
noncomputable abbrev S_r20_Cost : Spec := ⟨as_r20_Cost, rs_r20_Cost, fun x => (g_CostR x.1 x.2.1, ()), fun x => x.1.length ≤ 1000 ∧ okL x.1, false⟩

end Go.Proofs.Ytainieginijaaaa

/- The trees of functions' bodies, as the evaluator prints them. -/
namespace Go.Proofs.Ytainieginijaaaa
open Go Go.RowKit

noncomputable abbrev fx_r20_Is : Fx := { fn := f_r20_Is, ann := { }, share := true }
noncomputable abbrev X_r20_Is : TabX := { D := { T := tyTab, F := [(n_r20_Birth, S_r20_Birth), (n_r20_Admitted, S_r20_Admitted), (n_r20_Data, S_r20_Data 1001)], R := [], ovl := [] }, inl := [] }
noncomputable abbrev M_r20_Is : RMode := .data rs_r20_Is
theorem x_r20_Is (h_r20_Birth : FnOk prog [] n_r20_Birth S_r20_Birth) (h_r20_Admitted : FnOk prog [] n_r20_Admitted S_r20_Admitted) (h_r20_Data : FnOk prog [] n_r20_Data (S_r20_Data 1001)) : XOk prog X_r20_Is := xok (dok_add (dok_add (dok_add (dok_nil tab_ok mixed_ok) h_r20_Data) h_r20_Admitted) h_r20_Birth) (by kernel_rfl) rows_nil inl_nil ovl_nil
noncomputable def T_r20_Is (l : den (Ty.slc tNote)) (x : den tNote) : TreeS :=
  TreeS.req (impl [(decide (0 < lnx tNote l), true)] (inB (IntKind.wrap IntKind.i64 (lnx tNote l - 1)) (lnx tNote l)))
  (TreeS.ite
    (bif decide (0 < lnx tNote l) then
      decide (Prod.fst (Prod.snd x) < Prod.fst (Prod.snd (el tNote l (IntKind.wrap IntKind.i64 (lnx tNote l - 1)))))
    else false)
    (TreeS.ret (K.val (Ty.pair Ty.bool Ty.unit) (false, PUnit.unit)))
    (TreeS.req
      (impl [(decide (0 < Prod.fst (Prod.snd (Prod.snd (Prod.snd (Prod.snd x))))), true)] (List.length l ≤ 1000000))
      (TreeS.req (List.length l ≤ 1000000)
        (TreeS.all (den tInt) (fun (q2 : den tInt) ↦ q2 = birthN (Prod.fst (Prod.snd (Prod.snd (Prod.snd x)))) l 0)
          fun (q2 : den tInt) ↦
          TreeS.ite (decide (Prod.fst x = 1))
            (TreeS.ret
              (K.val (Ty.pair Ty.bool Ty.unit)
                (bif decide (0 < Prod.fst (Prod.snd (Prod.snd (Prod.snd (Prod.snd x))))) then
                    decide (birthN (Prod.fst (Prod.snd (Prod.snd (Prod.snd (Prod.snd x))))) l 0 < 0)
                  else false,
                  PUnit.unit)))
            (TreeS.ite (decide (Prod.fst x = 2))
              (TreeS.ite (decide (Prod.fst x = 2)) (TreeS.ret (K.val (Ty.pair Ty.bool Ty.unit) (true, PUnit.unit)))
                (TreeS.ite (decide (Prod.fst x = 3))
                  (TreeS.req
                    (impl
                      [(bif
                              bif decide (0 < Prod.fst (Prod.snd (Prod.snd (Prod.snd (Prod.snd x))))) then
                                decide (birthN (Prod.fst (Prod.snd (Prod.snd (Prod.snd (Prod.snd x))))) l 0 < 0)
                              else false then
                            decide (0 ≤ q2)
                          else false,
                          true),
                        (eqb tTrigger (Prod.fst (Prod.snd (Prod.snd (Prod.snd (Prod.snd (Prod.snd x))))))
                            (zero (Ty.pair tId (Ty.pair tEntry (Ty.pair tInt Ty.unit)))),
                          false)]
                      (List.length l ≤ 1000000))
                    (TreeS.ret
                      (K.val (Ty.pair Ty.bool Ty.unit)
                        (bif
                              bif
                                  bif decide (0 < Prod.fst (Prod.snd (Prod.snd (Prod.snd (Prod.snd x))))) then
                                    decide (birthN (Prod.fst (Prod.snd (Prod.snd (Prod.snd (Prod.snd x))))) l 0 < 0)
                                  else false then
                                decide (0 ≤ q2)
                              else false then
                            bif
                                eqb tTrigger (Prod.fst (Prod.snd (Prod.snd (Prod.snd (Prod.snd (Prod.snd x))))))
                                  (zero (Ty.pair tId (Ty.pair tEntry (Ty.pair tInt Ty.unit)))) then
                              true
                            else
                              bif
                                  List.any l
                                    (isAdm (Prod.fst (Prod.snd (Prod.snd (Prod.snd (Prod.snd (Prod.snd x))))))) then
                                decide
                                  (Prod.fst (Prod.snd x) <
                                    Prod.fst
                                      (Prod.snd
                                        (Prod.snd (Prod.fst (Prod.snd (Prod.snd (Prod.snd (Prod.snd (Prod.snd x)))))))))
                              else false
                          else false,
                          PUnit.unit))))
                  (TreeS.ite (decide (Prod.fst x = 4))
                    (TreeS.req
                      (impl [(decide (0 ≤ q2), true)]
                        (List.length l ≤ 1000 ∧
                          Option.isSome (dataR l 1001 (Prod.fst (Prod.snd (Prod.snd (Prod.snd x))))) = true))
                      (TreeS.ret
                        (K.val (Ty.pair Ty.bool Ty.unit)
                          (bif decide (0 ≤ q2) then
                              eqb Ty.str (g_Data l 1001 (Prod.fst (Prod.snd (Prod.snd (Prod.snd x)))))
                                (Prod.fst (Prod.snd (Prod.snd (Prod.snd (Prod.snd (Prod.snd (Prod.snd x)))))))
                            else false,
                            PUnit.unit))))
                    (TreeS.ret (K.val (Ty.pair Ty.bool Ty.unit) (false, PUnit.unit))))))
              (TreeS.ite (decide (Prod.fst x = 5)) (TreeS.ret (K.val (Ty.pair Ty.bool Ty.unit) (true, PUnit.unit)))
                (TreeS.ite (decide (Prod.fst x = 3))
                  (TreeS.req
                    (impl
                      [(bif
                              bif decide (0 < Prod.fst (Prod.snd (Prod.snd (Prod.snd (Prod.snd x))))) then
                                decide (birthN (Prod.fst (Prod.snd (Prod.snd (Prod.snd (Prod.snd x))))) l 0 < 0)
                              else false then
                            decide (0 ≤ q2)
                          else false,
                          true),
                        (eqb tTrigger (Prod.fst (Prod.snd (Prod.snd (Prod.snd (Prod.snd (Prod.snd x))))))
                            (zero (Ty.pair tId (Ty.pair tEntry (Ty.pair tInt Ty.unit)))),
                          false)]
                      (List.length l ≤ 1000000))
                    (TreeS.ret
                      (K.val (Ty.pair Ty.bool Ty.unit)
                        (bif
                              bif
                                  bif decide (0 < Prod.fst (Prod.snd (Prod.snd (Prod.snd (Prod.snd x))))) then
                                    decide (birthN (Prod.fst (Prod.snd (Prod.snd (Prod.snd (Prod.snd x))))) l 0 < 0)
                                  else false then
                                decide (0 ≤ q2)
                              else false then
                            bif
                                eqb tTrigger (Prod.fst (Prod.snd (Prod.snd (Prod.snd (Prod.snd (Prod.snd x))))))
                                  (zero (Ty.pair tId (Ty.pair tEntry (Ty.pair tInt Ty.unit)))) then
                              true
                            else
                              bif
                                  List.any l
                                    (isAdm (Prod.fst (Prod.snd (Prod.snd (Prod.snd (Prod.snd (Prod.snd x))))))) then
                                decide
                                  (Prod.fst (Prod.snd x) <
                                    Prod.fst
                                      (Prod.snd
                                        (Prod.snd (Prod.fst (Prod.snd (Prod.snd (Prod.snd (Prod.snd (Prod.snd x)))))))))
                              else false
                          else false,
                          PUnit.unit))))
                  (TreeS.ite (decide (Prod.fst x = 4))
                    (TreeS.req
                      (impl [(decide (0 ≤ q2), true)]
                        (List.length l ≤ 1000 ∧
                          Option.isSome (dataR l 1001 (Prod.fst (Prod.snd (Prod.snd (Prod.snd x))))) = true))
                      (TreeS.ret
                        (K.val (Ty.pair Ty.bool Ty.unit)
                          (bif decide (0 ≤ q2) then
                              eqb Ty.str (g_Data l 1001 (Prod.fst (Prod.snd (Prod.snd (Prod.snd x)))))
                                (Prod.fst (Prod.snd (Prod.snd (Prod.snd (Prod.snd (Prod.snd (Prod.snd x)))))))
                            else false,
                            PUnit.unit))))
                    (TreeS.ret (K.val (Ty.pair Ty.bool Ty.unit) (false, PUnit.unit)))))))))))
theorem T_r20_Is_eq (l : den (Ty.slc tNote)) (x : den tNote) : treeS X_r20_Is M_r20_Is 5000 [] fx_r20_Is (bodyOf f_r20_Is) (Env.of
  (argEnv as_r20_Is (l, x, ()) 0) []) = T_r20_Is l x := by kernel_rfl

noncomputable abbrev fx_r20_Check : Fx := { fn := f_r20_Check, ann := { loops := [(2, { keep := [0, 5, 6, 7] })] }, share := true }
noncomputable abbrev X_r20_Check : TabX := { D := { T := tyTab, F := [(n_r20_Is, S_r20_Is)], R := [], ovl := [] }, inl := [] }
noncomputable abbrev M_r20_Check : RMode := .data rs_r20_Check
theorem x_r20_Check (h_r20_Is : FnOk prog [] n_r20_Is S_r20_Is) : XOk prog X_r20_Check := xok (dok_add (dok_nil tab_ok mixed_ok) h_r20_Is) (by kernel_rfl) rows_nil inl_nil ovl_nil
noncomputable def T_r20_Check (l : den (Ty.slc tNote)) : TreeS :=
  TreeS.loop [] fx_r20_Check (lp f_r20_Check 2)
  [(0, K.val (Ty.slc tNote) l), (5, K.val (Ty.slc tNote) l), (6, K.val tInt (lnx tNote l)), (7, K.val tInt 0)] []
theorem T_r20_Check_eq (l : den (Ty.slc tNote)) : treeS X_r20_Check M_r20_Check 5000 [] fx_r20_Check (bodyOf f_r20_Check) (Env.of
  (argEnv as_r20_Check (l, ()) 0) []) = T_r20_Check l := by kernel_rfl

noncomputable def E_r20_Check_2 (v0 : den (Ty.slc tNote)) (v5 : den (Ty.slc tNote)) (v6 : den tInt) (v7 : den tInt) : Env := Env.of
  [(0, K.val (Ty.slc tNote) v0), (5, K.val (Ty.slc tNote) v5), (6, K.val tInt v6), (7, K.val tInt v7)] []
noncomputable def TL_r20_Check_2 (v0 : den (Ty.slc tNote)) (v5 : den (Ty.slc tNote)) (v6 : den tInt) (v7 : den tInt) : TreeS :=
  TreeS.ite (decide (v7 < v6))
  (TreeS.req (inB v7 (lnx tNote v5))
    (TreeS.req (cutOk 0 v7 (lnx tNote v0))
      (TreeS.req (List.length (lCutx tNote v0 0 v7) ≤ 1000 ∧ okL (lCutx tNote v0 0 v7))
        (TreeS.all (den Ty.bool) (fun (q4 : den Ty.bool) ↦ q4 = g_Is (lCutx tNote v0 0 v7) (el tNote v5 v7))
          fun (q4 : den Ty.bool) ↦
          TreeS.ite (!g_Is (lCutx tNote v0 0 v7) (el tNote v5 v7))
            (TreeS.ret (K.val (Ty.pair tInt Ty.unit) (v7, PUnit.unit)))
            (TreeS.loop [] fx_r20_Check (lp f_r20_Check 2)
              [(0, K.val (Ty.slc tNote) v0), (5, K.val (Ty.slc tNote) v5), (6, K.val tInt v6),
                (7, K.val tInt (IntKind.wrap IntKind.i64 (v7 + 1)))]
              [])))))
  (TreeS.ret (K.val (Ty.pair tInt Ty.unit) (lnx tNote v0, PUnit.unit)))
theorem TL_r20_Check_2_eq (v0 : den (Ty.slc tNote)) (v5 : den (Ty.slc tNote)) (v6 : den tInt) (v7 : den tInt) : treeS X_r20_Check M_r20_Check 5000 [] fx_r20_Check (lp f_r20_Check 2) (E_r20_Check_2 v0 v5 v6 v7) = TL_r20_Check_2 v0 v5 v6 v7 := by kernel_rfl

noncomputable abbrev fx_r20_Cost : Fx := { fn := f_r20_Cost, ann := { loops := [(3, { keep := [0, 1, 5, 8, 9, 10] })] }, share := true }
noncomputable abbrev X_r20_Cost : TabX := { D := { T := tyTab, F := [(n_r20_First, S_r20_First 1001)], R := [], ovl := [] }, inl := [] }
noncomputable abbrev M_r20_Cost : RMode := .data rs_r20_Cost
theorem x_r20_Cost (h_r20_First : FnOk prog [] n_r20_First (S_r20_First 1001)) : XOk prog X_r20_Cost := xok (dok_add (dok_nil tab_ok mixed_ok) h_r20_First) (by kernel_rfl) rows_nil inl_nil ovl_nil
noncomputable def T_r20_Cost (l : den (Ty.slc tNote)) (n : den tInt) : TreeS :=
  TreeS.loop [] fx_r20_Cost (lp f_r20_Cost 3)
  [(0, K.val (Ty.slc tNote) l), (1, K.val tInt n), (5, K.val tInt 0), (8, K.val (Ty.slc tNote) l),
    (9, K.val tInt (lnx tNote l)), (10, K.val tInt 0)]
  []
theorem T_r20_Cost_eq (l : den (Ty.slc tNote)) (n : den tInt) : treeS X_r20_Cost M_r20_Cost 5000 [] fx_r20_Cost (bodyOf f_r20_Cost) (Env.of
  (argEnv as_r20_Cost (l, n, ()) 0) []) = T_r20_Cost l n := by kernel_rfl

noncomputable def E_r20_Cost_3 (v0 : den (Ty.slc tNote)) (v1 : den tInt) (v5 : den tInt) (v8 : den (Ty.slc tNote)) (v9 : den tInt) (v10 : den tInt) : Env := Env.of
  [(0, K.val (Ty.slc tNote) v0), (1, K.val tInt v1), (5, K.val tInt v5), (8, K.val (Ty.slc tNote) v8),
    (9, K.val tInt v9), (10, K.val tInt v10)]
  []
noncomputable def TL_r20_Cost_3 (v0 : den (Ty.slc tNote)) (v1 : den tInt) (v5 : den tInt) (v8 : den (Ty.slc tNote)) (v9 : den tInt) (v10 : den tInt) : TreeS :=
  TreeS.ite (decide (v10 < v9))
  (TreeS.req (inB v10 (lnx tNote v8))
    (TreeS.req
      (impl [(bif decide (Prod.fst (el tNote v8 v10) = 1) then true else decide (Prod.fst (el tNote v8 v10) = 3), true)]
        (List.length v0 ≤ 1000 ∧
          Option.isSome (firstR v0 1001 (Prod.fst (Prod.snd (Prod.snd (Prod.snd (Prod.snd (el tNote v8 v10))))))) =
            true))
      (TreeS.ite
        (bif bif decide (Prod.fst (el tNote v8 v10) = 1) then true else decide (Prod.fst (el tNote v8 v10) = 3) then
          decide (g_First v0 1001 (Prod.fst (Prod.snd (Prod.snd (Prod.snd (Prod.snd (el tNote v8 v10)))))) = v1)
        else false)
        (TreeS.loop [] fx_r20_Cost (lp f_r20_Cost 3)
          [(0, K.val (Ty.slc tNote) v0), (1, K.val tInt v1), (5, K.val tInt (IntKind.wrap IntKind.i64 (v5 + 1))),
            (8, K.val (Ty.slc tNote) v8), (9, K.val tInt v9), (10, K.val tInt (IntKind.wrap IntKind.i64 (v10 + 1)))]
          [])
        (TreeS.loop [] fx_r20_Cost (lp f_r20_Cost 3)
          [(0, K.val (Ty.slc tNote) v0), (1, K.val tInt v1), (5, K.val tInt v5), (8, K.val (Ty.slc tNote) v8),
            (9, K.val tInt v9), (10, K.val tInt (IntKind.wrap IntKind.i64 (v10 + 1)))]
          []))))
  (TreeS.ret (K.val (Ty.pair tInt Ty.unit) (v5, PUnit.unit)))
theorem TL_r20_Cost_3_eq (v0 : den (Ty.slc tNote)) (v1 : den tInt) (v5 : den tInt) (v8 : den (Ty.slc tNote)) (v9 : den tInt) (v10 : den tInt) : treeS X_r20_Cost M_r20_Cost 5000 [] fx_r20_Cost (lp f_r20_Cost 3) (E_r20_Cost_3 v0 v1 v5 v8 v9 v10) = TL_r20_Cost_3 v0 v1 v5 v8 v9 v10 := by kernel_rfl

noncomputable abbrev fx_l20_TraceChecks : Fx := { fn := f_l20_TraceChecks, ann := { }, share := true }
noncomputable abbrev X_l20_TraceChecks : TabX := { D := { T := tyTab, F := [(n_l20_few, S_l20_few), (n_trace_Check, S_trace_Check), (n_trace_Chain, S_trace_Chain), (n_trace_Cost, S_trace_Cost), (n_l20_alive, S_l20_alive), (n_l20_same, S_l20_same), (n_r20_Check, S_r20_Check), (n_r20_Chain, S_r20_Chain 1001), (n_r20_First, S_r20_First 1001), (n_r20_Birth, S_r20_Birth), (n_r20_Cost, S_r20_Cost)], R := [], ovl := [] }, inl := [] }
noncomputable abbrev M_l20_TraceChecks : RMode := .data rs_l20_TraceChecks
theorem x_l20_TraceChecks (h_l20_few : FnOk prog [] n_l20_few S_l20_few) (h_trace_Check : FnOk prog [] n_trace_Check S_trace_Check) (h_trace_Chain : FnOk prog [] n_trace_Chain S_trace_Chain) (h_trace_Cost : FnOk prog [] n_trace_Cost S_trace_Cost) (h_l20_alive : FnOk prog [] n_l20_alive S_l20_alive) (h_l20_same : FnOk prog [] n_l20_same S_l20_same) (h_r20_Check : FnOk prog [] n_r20_Check S_r20_Check) (h_r20_Chain : FnOk prog [] n_r20_Chain (S_r20_Chain 1001)) (h_r20_First : FnOk prog [] n_r20_First (S_r20_First 1001)) (h_r20_Birth : FnOk prog [] n_r20_Birth S_r20_Birth) (h_r20_Cost : FnOk prog [] n_r20_Cost S_r20_Cost) : XOk prog X_l20_TraceChecks := xok (dok_add (dok_add (dok_add (dok_add (dok_add (dok_add (dok_add (dok_add (dok_add (dok_add (dok_add (dok_nil tab_ok mixed_ok) h_r20_Cost) h_r20_Birth) h_r20_First) h_r20_Chain) h_r20_Check) h_l20_same) h_l20_alive) h_trace_Cost) h_trace_Chain) h_trace_Check) h_l20_few) (by kernel_rfl) rows_nil inl_nil ovl_nil
noncomputable def T_l20_TraceChecks (l : den (Ty.slc tNote)) (n : den tInt) (m : den tInt) : TreeS :=
  TreeS.req True
  (TreeS.all (den (Ty.slc tNote)) (fun (q3 : den (Ty.slc tNote)) ↦ q3 = g_few l) fun (q3 : den (Ty.slc tNote)) ↦
    TreeS.req True
      (TreeS.all (den (Ty.pair tInt (Ty.pair tInt Ty.unit)))
        (fun (q4 : den (Ty.pair tInt (Ty.pair tInt Ty.unit))) ↦ q4 = g_Check q3)
        fun (q4 : den (Ty.pair tInt (Ty.pair tInt Ty.unit))) ↦
        TreeS.req True
          (TreeS.all (den (Ty.pair (Ty.slc tTrigger) (Ty.pair tInt (Ty.pair tInt Ty.unit))))
            (fun (q5 : den (Ty.pair (Ty.slc tTrigger) (Ty.pair tInt (Ty.pair tInt Ty.unit)))) ↦ q5 = g_Chain q3 n)
            fun (q5 : den (Ty.pair (Ty.slc tTrigger) (Ty.pair tInt (Ty.pair tInt Ty.unit)))) ↦
            TreeS.req True
              (TreeS.all (den (Ty.pair tInt (Ty.pair tInt Ty.unit)))
                (fun (q6 : den (Ty.pair tInt (Ty.pair tInt Ty.unit))) ↦ q6 = g_Cost q3 m)
                fun (q6 : den (Ty.pair tInt (Ty.pair tInt Ty.unit))) ↦
                TreeS.req ((1001 : Int) = 1001)
                  (TreeS.req ((0 : Int) ≤ 1001)
                    (TreeS.req (Int.toNat 1001 * 74 ≤ 16777216)
                      (TreeS.req True
                        (TreeS.all (den (Ty.pair tInt (Ty.pair tInt Ty.unit)))
                          (fun (q7 : den (Ty.pair tInt (Ty.pair tInt Ty.unit))) ↦
                            q7 = g_Check (List.replicate (Int.toNat 1001) (zero tNote)))
                          fun (q7 : den (Ty.pair tInt (Ty.pair tInt Ty.unit))) ↦
                          TreeS.req (impl [(!decide (Prod.fst (Prod.snd q7) = 2), false)] True)
                            (TreeS.ite (bif !decide (Prod.fst (Prod.snd q7) = 2) then true else !true)
                              (TreeS.ret (K.val (Ty.pair Ty.bool Ty.unit) (false, PUnit.unit)))
                              (TreeS.req (List.length q3 ≤ 1000)
                                (TreeS.all (den tInt) (fun (q8 : den tInt) ↦ q8 = g_CheckR q3) fun (q8 : den tInt) ↦
                                  TreeS.ite (decide (q8 < lnx tNote q3))
                                    (TreeS.ret
                                      (K.val (Ty.pair Ty.bool Ty.unit)
                                        (bif
                                              bif
                                                  bif
                                                      bif
                                                          bif
                                                              bif decide (Prod.fst (Prod.snd q4) = 11) then
                                                                decide (Prod.fst q4 = q8)
                                                              else false then
                                                            decide (Prod.fst (Prod.snd (Prod.snd q5)) = 11)
                                                          else false then
                                                        decide (Prod.fst (Prod.snd q6) = 11)
                                                      else false then
                                                    decide (lnx tTrigger (Prod.fst q5) = 0)
                                                  else false then
                                                decide (Prod.fst (Prod.snd q5) = 0)
                                              else false then
                                            decide (Prod.fst q6 = 0)
                                          else false,
                                          PUnit.unit)))
                                    (TreeS.ite
                                      (bif !decide (Prod.fst (Prod.snd q4) = 0) then true
                                      else !decide (Prod.fst q4 = lnx tNote q3))
                                      (TreeS.ret (K.val (Ty.pair Ty.bool Ty.unit) (false, PUnit.unit)))
                                      (TreeS.req
                                        (impl [(bif decide (n < 0) then true else decide (lnx tNote q3 ≤ n), false)]
                                          (inB n (lnx tNote q3)))
                                        (TreeS.ite
                                          (bif bif decide (n < 0) then true else decide (lnx tNote q3 ≤ n) then true
                                          else !decide (Prod.fst (el tNote q3 n) = 4))
                                          (TreeS.ite
                                            (bif
                                                bif !decide (Prod.fst (Prod.snd (Prod.snd q5)) = 6) then true
                                                else !decide (lnx tTrigger (Prod.fst q5) = 0) then
                                              true
                                            else !decide (Prod.fst (Prod.snd q5) = 0))
                                            (TreeS.ret (K.val (Ty.pair Ty.bool Ty.unit) (false, PUnit.unit)))
                                            (TreeS.req (List.length q3 ≤ 1000000)
                                              (TreeS.all (den tInt) (fun (q9 : den tInt) ↦ q9 = birthN m q3 0)
                                                fun (q9 : den tInt) ↦
                                                TreeS.req (impl [(decide (q9 < 0), false)] (inB q9 (lnx tNote q3)))
                                                  (TreeS.ite
                                                    (bif decide (q9 < 0) then true
                                                    else !decide (Prod.fst (el tNote q3 q9) = 1))
                                                    (TreeS.ret
                                                      (K.val (Ty.pair Ty.bool Ty.unit)
                                                        (bif decide (Prod.fst (Prod.snd q6) = 6) then
                                                            decide (Prod.fst q6 = 0)
                                                          else false,
                                                          PUnit.unit)))
                                                    (TreeS.req
                                                      (impl [(decide (Prod.fst (Prod.snd q6) = 0), true)]
                                                        (List.length q3 ≤ 1000 ∧ okL q3))
                                                      (TreeS.ret
                                                        (K.val (Ty.pair Ty.bool Ty.unit)
                                                          (bif decide (Prod.fst (Prod.snd q6) = 0) then
                                                              decide (Prod.fst q6 = g_CostR q3 m)
                                                            else false,
                                                            PUnit.unit))))))))
                                          (TreeS.req
                                            (impl [(!decide (Prod.fst (Prod.snd (Prod.snd q5)) = 0), false)]
                                              (inB n (lnx tNote q3)))
                                            (TreeS.req
                                              (impl [(!decide (Prod.fst (Prod.snd (Prod.snd q5)) = 0), false)]
                                                (List.length q3 ≤ 1000 ∧
                                                  Option.isSome
                                                      (chainR q3 1001
                                                        (Prod.fst (Prod.snd (Prod.snd (Prod.snd (el tNote q3 n)))))) =
                                                    true))
                                              (TreeS.req
                                                (impl [(!decide (Prod.fst (Prod.snd (Prod.snd q5)) = 0), false)] True)
                                                (TreeS.req
                                                  (impl
                                                    [(bif !decide (Prod.fst (Prod.snd (Prod.snd q5)) = 0) then true
                                                        else
                                                          !decide
                                                              (Prod.fst q5 =
                                                                g_ChainR q3 1001
                                                                  (Prod.fst
                                                                    (Prod.snd (Prod.snd (Prod.snd (el tNote q3 n)))))),
                                                        false)]
                                                    (inB n (lnx tNote q3)))
                                                  (TreeS.req
                                                    (impl
                                                      [(bif !decide (Prod.fst (Prod.snd (Prod.snd q5)) = 0) then true
                                                          else
                                                            !decide
                                                                (Prod.fst q5 =
                                                                  g_ChainR q3 1001
                                                                    (Prod.fst
                                                                      (Prod.snd
                                                                        (Prod.snd (Prod.snd (el tNote q3 n)))))),
                                                          false)]
                                                      (List.length q3 ≤ 1000 ∧
                                                        Option.isSome
                                                            (firstR q3 1001
                                                              (Prod.fst
                                                                (Prod.snd (Prod.snd (Prod.snd (el tNote q3 n)))))) =
                                                          true))
                                                    (TreeS.req
                                                      (impl
                                                        [(bif !decide (Prod.fst (Prod.snd (Prod.snd q5)) = 0) then true
                                                            else
                                                              !decide
                                                                  (Prod.fst q5 =
                                                                    g_ChainR q3 1001
                                                                      (Prod.fst
                                                                        (Prod.snd
                                                                          (Prod.snd (Prod.snd (el tNote q3 n)))))),
                                                            false)]
                                                        (List.length q3 ≤ 1000000))
                                                      (TreeS.req
                                                        (impl
                                                          [(bif !decide (Prod.fst (Prod.snd (Prod.snd q5)) = 0) then
                                                                true
                                                              else
                                                                !decide
                                                                    (Prod.fst q5 =
                                                                      g_ChainR q3 1001
                                                                        (Prod.fst
                                                                          (Prod.snd
                                                                            (Prod.snd (Prod.snd (el tNote q3 n)))))),
                                                              false)]
                                                          (inB
                                                            (birthN
                                                              (g_First q3 1001
                                                                (Prod.fst
                                                                  (Prod.snd (Prod.snd (Prod.snd (el tNote q3 n))))))
                                                              q3 0)
                                                            (lnx tNote q3)))
                                                        (TreeS.ite
                                                          (bif
                                                              bif !decide (Prod.fst (Prod.snd (Prod.snd q5)) = 0) then
                                                                true
                                                              else
                                                                !decide
                                                                    (Prod.fst q5 =
                                                                      g_ChainR q3 1001
                                                                        (Prod.fst
                                                                          (Prod.snd
                                                                            (Prod.snd
                                                                              (Prod.snd (el tNote q3 n)))))) then
                                                            true
                                                          else
                                                            !decide
                                                                (Prod.fst (Prod.snd q5) =
                                                                  Prod.fst
                                                                    (Prod.snd
                                                                      (Prod.snd
                                                                        (el tNote q3
                                                                          (birthN
                                                                            (g_First q3 1001
                                                                              (Prod.fst
                                                                                (Prod.snd
                                                                                  (Prod.snd
                                                                                    (Prod.snd (el tNote q3 n))))))
                                                                            q3 0))))))
                                                          (TreeS.ret
                                                            (K.val (Ty.pair Ty.bool Ty.unit) (false, PUnit.unit)))
                                                          (TreeS.req (List.length q3 ≤ 1000000)
                                                            (TreeS.all (den tInt)
                                                              (fun (q9 : den tInt) ↦ q9 = birthN m q3 0)
                                                              fun (q9 : den tInt) ↦
                                                              TreeS.req
                                                                (impl [(decide (q9 < 0), false)]
                                                                  (inB q9 (lnx tNote q3)))
                                                                (TreeS.ite
                                                                  (bif decide (q9 < 0) then true
                                                                  else !decide (Prod.fst (el tNote q3 q9) = 1))
                                                                  (TreeS.ret
                                                                    (K.val (Ty.pair Ty.bool Ty.unit)
                                                                      (bif decide (Prod.fst (Prod.snd q6) = 6) then
                                                                          decide (Prod.fst q6 = 0)
                                                                        else false,
                                                                        PUnit.unit)))
                                                                  (TreeS.req
                                                                    (impl [(decide (Prod.fst (Prod.snd q6) = 0), true)]
                                                                      (List.length q3 ≤ 1000 ∧ okL q3))
                                                                    (TreeS.ret
                                                                      (K.val (Ty.pair Ty.bool Ty.unit)
                                                                        (bif decide (Prod.fst (Prod.snd q6) = 0) then
                                                                            decide (Prod.fst q6 = g_CostR q3 m)
                                                                          else false,
                                                                          PUnit.unit)))))))))))))))))))))))))))))
theorem T_l20_TraceChecks_eq (l : den (Ty.slc tNote)) (n : den tInt) (m : den tInt) : treeS X_l20_TraceChecks M_l20_TraceChecks 5000 [] fx_l20_TraceChecks (bodyOf f_l20_TraceChecks) (Env.of
  (argEnv as_l20_TraceChecks (l, n, m, ()) 0) []) = T_l20_TraceChecks l n m := by kernel_rfl

end Go.Proofs.Ytainieginijaaaa

/- The reference's judgements of notes. -/
namespace Go.Proofs.Ytainieginijaaaa
open Go Go.RowKit

theorem step_some (f : Bool) (b : Bk) (x : Nt) : (stepB f b x).isSome = (if decide (atN x < (if f then atN x else b.2.2.2)) = true then false else if decide (kdN x = 1) = true then (bif decide (0 < ltN x) then !hasL b (ltN x) else false)
    else if decide (kdN x = 2) = true then true else if decide (kdN x = 3) = true then okOn b x else if decide (kdN x = 4) = true then (bif hasL b (wasN x) then eqb .str (getL b (wasN x)).1 (dtN x) else false) else decide (kdN x = 5)) := by
  unfold stepB
  generalize (if f then atN x else b.2.2.2) = a
  by_cases c1 : decide (atN x < a) = true
  · rw [if_pos c1, if_pos c1]; rfl
  rw [if_neg c1, if_neg c1]
  by_cases c2 : decide (kdN x = 1) = true
  · rw [if_pos c2, if_pos c2]
    cases (bif decide (0 < ltN x) then !hasL b (ltN x) else false) <;> rfl
  rw [if_neg c2, if_neg c2]
  by_cases c3 : decide (kdN x = 2) = true
  · rw [if_pos c3, if_pos c3]; rfl
  rw [if_neg c3, if_neg c3]
  by_cases c4 : decide (kdN x = 3) = true
  · rw [if_pos c4, if_pos c4]
    cases okOn b x <;> rfl
  rw [if_neg c4, if_neg c4]
  by_cases c5 : decide (kdN x = 4) = true
  · rw [if_pos c5, if_pos c5]
    cases (bif hasL b (wasN x) then eqb .str (getL b (wasN x)).1 (dtN x) else false) <;> rfl
  rw [if_neg c5, if_neg c5]
  cases decide (kdN x = 5) <;> rfl

theorem last_at {l : List Nt} {b : Bk} (h : Rf l b) (hl : l.length ≤ 1000) (x : Nt) : (bif decide (0 < lnx tNote l) then decide (atN x < atN (el tNote l (IntKind.wrap .i64 (lnx tNote l - 1)))) else false) = decide (atN x < (if decide (l.length = 0) then atN x else b.2.2.2)) := by
  rw [lnx_eq]
  by_cases h0 : l.length = 0
  · rw [decide_eq_true h0, decide_eq_false (by omega), if_pos rfl, decide_eq_false (Int.lt_irrefl _)]; rfl
  · have hi : l.length - 1 < l.length := by omega
    rw [decide_eq_false h0, decide_eq_true (by omega), small_i64 (by omega), show (l.length : Int) - 1 = ((l.length - 1 : Nat) : Int) by omega, el_at hi, h.at_ l[l.length - 1] (by rw [List.getLast?_eq_getElem?, List.getElem?_eq_getElem hi])]
    rfl

theorem pos_has {l : List Nt} {b : Bk} (h : Rf l b) (a : Int) : decide (0 ≤ birthN a l 0) = hasM b.1 a := by rw [born_pos, h.has]
theorem neg_has {l : List Nt} {b : Bk} (h : Rf l b) (a : Int) : decide (birthN a l 0 < 0) = !hasM b.1 a := by
  rw [← pos_has h a, ← decide_not]
  exact decide_eq_decide.2 ⟨fun h => by omega, fun h => by omega⟩

theorem any_has {l : List Nt} {b : Bk} (h : Rf l b) (z : Tr) : l.any (isAdm z) = g_has b.2.1 z := by
  rw [Bool.eq_iff_iff, ← h.adm z]
  unfold g_has
  rw [decide_eq_true_iff]

theorem k_r20_Is : FnOk prog [] n_r20_Is S_r20_Is :=
  fnS_T (S := S_r20_Is) (x_r20_Is k_r20_Birth k_r20_Admitted (k_r20_Data 1001)) (fx := fx_r20_Is) at_r20_Is (by kernel_rfl) (fun h => by cases h) (T := fun x => T_r20_Is x.1 x.2.1) (fun x => T_r20_Is_eq x.1 x.2.1) fun O w0 x _ hp => by
    obtain ⟨l, x, ⟨⟩⟩ := x
    obtain ⟨hl, b, hr⟩ := hp
    have hl : l.length ≤ 1000 := hl
    have hr : runB l 0 bk0 = .inr b := hr
    have hf := rf_of hr
    have hl' : l.length ≤ 1000000 := by omega
    have e : g_Is l x = _ := (show g_Is l x = (stepB (decide (l.length = 0)) b x).isSome by unfold g_Is; rw [hr]).trans (step_some _ _ _)
    rw [← last_at hf hl x] at e
    have three : ∀ q2 : Int, q2 = birthN (wasN x) l 0 → decide (kdN x = 3) = true → (bif decide (0 < lnx tNote l) then decide (atN x < atN (el tNote l (IntKind.wrap .i64 (lnx tNote l - 1)))) else false) = false →
        (bif bif bif decide (0 < ltN x) then decide (birthN (ltN x) l 0 < 0) else false then decide (0 ≤ q2) else false then
          bif eqb tTrigger (trN x) (zero tTrigger) then true else bif List.any l (isAdm (trN x)) then decide (atN x < (trN x).2.2.1) else false else false) = g_Is l x := fun q2 hq h3 h0 => by
      subst hq
      have k3 : kdN x = 3 := of_decide_eq_true h3
      rw [e, if_neg (neT h0), if_neg (by rw [k3]; decide), if_neg (by rw [k3]; decide), if_pos h3, neg_has hf, pos_has hf, any_has hf]
      unfold okOn
      show _ = (bif bif bif hasM b.1 (wasN x) then decide (0 < ltN x) else false then !hasM b.1 (ltN x) else false then _ else false)
      cases hasM b.1 (wasN x) <;> cases decide (0 < ltN x) <;> cases hasM b.1 (ltN x) <;> cases eqb tTrigger (trN x) (zero tTrigger) <;> cases g_has b.2.1 (trN x) <;> cases decide (atN x < (trN x).2.2.1) <;> rfl
    have four : ∀ q2 : Int, q2 = birthN (wasN x) l 0 → decide (kdN x = 4) = true → (bif decide (0 < lnx tNote l) then decide (atN x < atN (el tNote l (IntKind.wrap .i64 (lnx tNote l - 1)))) else false) = false →
        (decide (0 ≤ q2) = true → l.length ≤ 1000 ∧ (dataR l 1001 (wasN x)).isSome = true) ∧ (bif decide (0 ≤ q2) then eqb .str (g_Data l 1001 (wasN x)) (dtN x) else false) = g_Is l x := fun q2 hq h4 h0 => by
      subst hq
      have k4 : kdN x = 4 := of_decide_eq_true h4
      rw [e, if_neg (neT h0), if_neg (by rw [k4]; decide), if_neg (by rw [k4]; decide), if_neg (by rw [k4]; decide), if_pos h4, pos_has hf]
      show _ ∧ _ = (bif hasM b.1 (wasN x) then eqb .str (getM b.1 (wasN x)).1 (dtN x) else false)
      cases hh : hasM b.1 (wasN x) with
      | false => exact ⟨fun h => (by cases h), rfl⟩
      | true =>
        have := (known hr hl hh).1
        refine ⟨fun _ => ⟨hl, by rw [this]; rfl⟩, ?_⟩
        unfold g_Data
        rw [this]
        rfl
    show TreeGoodS _ _ _ _ _ (T_r20_Is l x)
    refine ⟨fun h0 => ?_, fun h0 => ⟨_, rfl, ?_⟩, fun h0 => ⟨fun _ => hl', hl', fun q2 hq => ⟨fun h1 => ⟨_, rfl, ?_⟩, fun h1 => ⟨fun h2 => ⟨fun _ => ⟨_, rfl, ?_⟩, fun h => absurd (h.symm.trans h2) (by decide)⟩,
      fun h2 => ⟨fun h5 => ⟨_, rfl, ?_⟩, fun h5 => ⟨fun h3 => ⟨fun _ _ => hl', _, rfl, ?_⟩, fun h3 => ⟨fun h4 => ⟨(four q2 hq h4 h0).1, _, rfl, ?_⟩, fun h4 => ⟨_, rfl, ?_⟩⟩⟩⟩⟩⟩⟩⟩
    · have h0 : 0 < lnx tNote l := of_decide_eq_true h0
      rw [lnx_eq] at h0 ⊢
      rw [small_i64 (by omega)]
      exact ⟨by omega, by omega⟩
    · show (false, ()) = (g_Is l x, ())
      rw [e, if_pos h0]
    · show _ = (g_Is l x, ())
      rw [e, if_neg (neT h0), if_pos h1, neg_has hf]
    · show _ = (g_Is l x, ())
      rw [e, if_neg (neT h0), if_neg (neT h1), if_pos h2]
    · have k5 : kdN x = 5 := of_decide_eq_true h5
      show _ = (g_Is l x, ())
      rw [e, if_neg (neT h0), if_neg (neT h1), if_neg (neT h2), if_neg (by rw [k5]; decide), if_neg (by rw [k5]; decide), decide_eq_true k5]
    · exact congrArg (·, ()) (three q2 hq h3 h0)
    · exact congrArg (·, ()) (four q2 hq h4 h0).2
    · show (false, ()) = (g_Is l x, ())
      rw [e, if_neg (neT h0), if_neg (neT h1), if_neg (neT h2), if_neg (neT h3), if_neg (neT h4)]
      exact congrArg (·, ()) h5.symm

theorem cut0 (l : List Nt) (i : Nat) : lCutx tNote l 0 (i : Nat) = l.take i := by show (l.take i).drop 0 = _; rw [List.drop_zero]

def gl_r20_Check (O : Nat → Prop) (w0 : World) (l : List Nt) (hl : l.length ≤ 1000) :=
  PLift.up <| range_ind (σ := Bk) l.length (fun i b => runB (l.take i) 0 bk0 = .inr b)
    (fun i _ => GoodS prog X_r20_Check (Cx.base O w0) (Ends prog O w0 rs_r20_Check fun y => y = (g_CheckR l, ())) [] fx_r20_Check (lp f_r20_Check 2) (E_r20_Check_2 l l (lnx tNote l) (i : Nat)))
    (fun i b hi hb ih => goodS_of (x_r20_Check k_r20_Is) (TL_r20_Check_2_eq l l _ _) (by
      have hb : runB (l.take i) 0 bk0 = .inr b := hb
      have ht : (l.take i).length = i := by rw [List.length_take]; omega
      refine ⟨fun _ => ⟨inB_of hi, ⟨Int.le_refl _, Int.natCast_nonneg _, Int.ofNat_le.2 (by omega)⟩, ?_⟩, fun h => ?_⟩
      · rw [cut0]
        refine ⟨⟨by omega, b, hb⟩, fun q4 hq => ?_⟩
        rw [el_at hi, wr_idx hi (by omega)]
        have e : g_Is (l.take i) l[i] = (stepB (decide (i = 0)) b l[i]).isSome := by unfold g_Is; rw [hb, ht]
        rw [e]
        have e2 : runB (l.take (i + 1)) 0 bk0 = runB [l[i]] i b := by
          rw [List.take_succ_eq_append_getElem hi, runB_append, hb, ht, Nat.zero_add]
        have e3 : runB l 0 bk0 = runB (l.drop i) i b := by
          have := runB_append (l.take i) (l.drop i) 0 bk0
          rw [List.take_append_drop, hb, ht, Nat.zero_add] at this
          exact this
        rw [List.drop_eq_getElem_cons hi, runB] at e3
        rw [runB] at e2
        cases hs : stepB (decide (i = 0)) b l[i] with
        | none =>
          rw [hs] at e3
          refine ⟨fun _ => ⟨_, rfl, ?_⟩, fun h => (by cases h)⟩
          show (((i : Nat) : Int), ()) = (g_CheckR l, ())
          unfold g_CheckR
          rw [e3]
        | some b' =>
          rw [hs] at e2
          exact ⟨fun h => (by cases h), fun _ => ih b' e2⟩
      · rw [lnx_nat] at h
        exact absurd hi (of_decide_eq_false h)))
    (fun b hb => goodS_of (x_r20_Check k_r20_Is) (TL_r20_Check_2_eq l l _ _) (by
      have hb : runB (l.take l.length) 0 bk0 = .inr b := hb
      rw [List.take_length] at hb
      refine ⟨fun h => ?_, fun _ => ⟨_, rfl, ?_⟩⟩
      · rw [lnx_nat] at h
        exact absurd (of_decide_eq_true h) (Nat.lt_irrefl _)
      · show ((l.length : Int), ()) = (g_CheckR l, ())
        unfold g_CheckR
        rw [hb]))
theorem k_r20_Check : FnOk prog [] n_r20_Check S_r20_Check :=
  fnS_T (S := S_r20_Check) (x_r20_Check k_r20_Is) (fx := fx_r20_Check) at_r20_Check (by kernel_rfl) (fun h => by cases h) (T := fun x => T_r20_Check x.1) (fun x => T_r20_Check_eq x.1) fun O w0 x _ hp =>
    (gl_r20_Check O w0 x.1 hp).down 0 bk0 (Nat.zero_le _) rfl

/-! ### Costs -/

def isOf (b : Bk) (n : Int) (x : Nt) : Bool := isB x && decide (firstL (getM b.1 (ltN x)) = n)

theorem cost_eq {l : List Nt} {b : Bk} (h : Rf l b) (n : Int) : cntF n b.1 = ((l.filter (isOf b n)).length : Nat) := by
  unfold cntF
  congr 1
  have e1 : (b.1.filter fun e => decide (firstL e.2 = n)) = b.1.filter fun e => decide (firstL (getM b.1 e.1) = n) := List.filter_congr fun e he => by rw [h.own e he]
  have e2 : l.filter (isOf b n) = (l.filter isB).filter fun x => decide (firstL (getM b.1 (ltN x)) = n) := by
    rw [List.filter_filter]
    exact List.filter_congr fun x _ => by unfold isOf; rw [Bool.and_comm]
  have e3 : ((b.1.map (·.1)).filter fun a => decide (firstL (getM b.1 a) = n)).length = (b.1.filter fun e => decide (firstL (getM b.1 e.1) = n)).length := by
    rw [List.filter_map, List.length_map]; rfl
  have e4 : (((l.filter isB).map ltN).filter fun a => decide (firstL (getM b.1 a) = n)).length = ((l.filter isB).filter fun x => decide (firstL (getM b.1 (ltN x)) = n)).length := by
    rw [List.filter_map, List.length_map]; rfl
  rw [e1, e2, ← e3, ← e4, h.keys]

theorem born_has {l : List Nt} {b : Bk} (h : Rf l b) {x : Nt} (hx : x ∈ l) (hb : isB x = true) : hasM b.1 (ltN x) = true := by
  rw [h.has, born_find]
  cases hf : l.find? (isBirth (ltN x)) with
  | some y => rfl
  | none =>
    have := List.find?_eq_none.1 hf x hx
    rw [isBirth_eq, hb, decide_eq_true rfl] at this
    exact absurd rfl this

def gl_r20_Cost (O : Nat → Prop) (w0 : World) (l : List Nt) (n : Int) (hl : l.length ≤ 1000) (b : Bk) (hr : runB l 0 bk0 = .inr b) :=
  PLift.up <| range_ind (σ := Int) l.length (fun i s => s = (((l.take i).filter (isOf b n)).length : Nat))
    (fun i s => GoodS prog X_r20_Cost (Cx.base O w0) (Ends prog O w0 rs_r20_Cost fun y => y = (cntF n b.1, ())) [] fx_r20_Cost (lp f_r20_Cost 3) (E_r20_Cost_3 l n s l (lnx tNote l) (i : Nat)))
    (fun i s hi hs ih => goodS_of (x_r20_Cost (k_r20_First 1001)) (TL_r20_Cost_3_eq l n s l _ _) (by
      have hs : s = (((l.take i).filter (isOf b n)).length : Nat) := hs
      have hle : ((l.take i).filter (isOf b n)).length ≤ i := by
        have h1 := List.length_filter_le (isOf b n) (l.take i)
        rw [List.length_take] at h1
        omega
      have e2 : (((l.take (i + 1)).filter (isOf b n)).length : Nat) = ((l.take i).filter (isOf b n)).length + (if isOf b n l[i] = true then 1 else 0) := by
        rw [List.take_succ_eq_append_getElem hi, List.filter_append, List.length_append, List.filter_cons]
        split <;> rfl
      refine ⟨fun _ => ⟨inB_of hi, ?_⟩, fun h => ?_⟩
      · rw [el_at hi, wr_idx hi (by omega)]
        have hx : l[i] ∈ l := List.getElem_mem hi
        generalize l[i] = x at e2 hx ⊢
        have eb : (bif decide (kdN x = 1) then true else decide (kdN x = 3)) = isB x := by unfold isB; cases decide (kdN x = 1) <;> rfl
        show impl [((bif decide (kdN x = 1) then true else decide (kdN x = 3)), true)] _ ∧ TreeGoodS _ _ _ _ _ (TreeS.ite (bif (bif decide (kdN x = 1) then true else decide (kdN x = 3)) then decide (g_First l 1001 (ltN x) = n) else false) _ _)
        rw [eb]
        cases hB : isB x with
        | false =>
          refine ⟨fun h => (by cases h), fun h => (by cases h), fun _ => ih s ?_⟩
          have eo : isOf b n x = false := by unfold isOf; rw [hB]; rfl
          rw [eo, if_neg (by decide)] at e2
          rw [hs, e2]; rfl
        | true =>
          have hk := (known hr hl (born_has (rf_of hr) hx hB)).2.1
          have ef : g_First l 1001 (ltN x) = firstL (getM b.1 (ltN x)) := by unfold g_First; rw [hk]; rfl
          have eo : isOf b n x = decide (firstL (getM b.1 (ltN x)) = n) := by unfold isOf; rw [hB]; rfl
          rw [eo] at e2
          rw [ef]
          refine ⟨fun _ => ⟨hl, by show (firstR l 1001 (ltN x)).isSome = true; rw [hk]; rfl⟩, fun h => ?_, fun h => ih s ?_⟩
          · have h : decide (firstL (getM b.1 (ltN x)) = n) = true := h
            rw [if_pos h] at e2
            have ew : IntKind.wrap .i64 (s + 1) = s + 1 := small_i64 (by omega)
            rw [ew]
            exact ih (s + 1) (by show s + 1 = _; rw [hs, e2]; omega)
          · have h : decide (firstL (getM b.1 (ltN x)) = n) = false := h
            rw [if_neg (neT h)] at e2
            rw [hs]
            omega
      · rw [lnx_nat] at h
        exact absurd hi (of_decide_eq_false h)))
    (fun s hs => goodS_of (x_r20_Cost (k_r20_First 1001)) (TL_r20_Cost_3_eq l n s l _ _) (by
      have hs : s = (((l.take l.length).filter (isOf b n)).length : Nat) := hs
      rw [List.take_length, ← cost_eq (rf_of hr)] at hs
      refine ⟨fun h => ?_, fun _ => ⟨_, rfl, ?_⟩⟩
      · rw [lnx_nat] at h
        exact absurd (of_decide_eq_true h) (Nat.lt_irrefl _)
      · rw [hs]))
theorem k_r20_Cost : FnOk prog [] n_r20_Cost S_r20_Cost :=
  fnS_T (S := S_r20_Cost) (x_r20_Cost (k_r20_First 1001)) (fx := fx_r20_Cost) at_r20_Cost (by kernel_rfl) (fun h => by cases h) (T := fun x => T_r20_Cost x.1 x.2.1) (fun x => T_r20_Cost_eq x.1 x.2.1) fun O w0 x _ hp => by
    obtain ⟨l, n, ⟨⟩⟩ := x
    obtain ⟨hl, b, hr⟩ := hp
    have hr : runB l 0 bk0 = .inr b := hr
    have := (gl_r20_Cost O w0 l n hl b hr).down 0 0 (Nat.zero_le _) rfl
    have e : g_CostR l n = cntF n b.1 := by unfold g_CostR; rw [hr]
    show GoodS prog X_r20_Cost (Cx.base O w0) (Ends prog O w0 rs_r20_Cost fun y => y = (g_CostR l n, ())) _ _ _ _
    rw [e]
    exact this

end Go.Proofs.Ytainieginijaaaa

/- TraceAdds: its contract. -/
namespace Go.Proofs.Ytainieginijaaaa
open Go Go.RowKit

theorem few_len' (l : List Nt) : (g_few l).length ≤ 40 := few_len l

def gotN (at_ n : Int) (d : ByteArray) : Nt := (4, at_, 0, n, 0, zero tTrigger, d, 0, ())
def sentN (at_ n : Int) (d : ByteArray) : Nt := (1, at_, 0, 0, n, zero tTrigger, d, 0, ())

theorem same_twice {L : List Nt} (hL : L.length ≤ 40) {b : Bk} (h : runB L 0 bk0 = .inr b) {g : Nt} (hk : kdN g = 4) {q6 : Int × Int × Unit} {q9 q10 q12 q13 : Int} (h6 : q6 = ((L.length : Int), 0, ()))
    (h9 : q9 = (g_Check (L ++ [g])).1) (h10 : q10 = (g_Check (L ++ [g])).2.1) (h12 : q12 = (g_Check (L ++ [g, g])).1) (h13 : q13 = (g_Check (L ++ [g, g])).2.1) :
    (bif bif bif !eqO (decide (q10 = 0)) (decide (q13 = 0)) then true else bif decide (q10 = 0) then bif !decide (q9 = IntKind.wrap IntKind.i64 (Prod.fst q6 + 1)) then true else !decide (q12 = IntKind.wrap IntKind.i64 (Prod.fst q6 + 2)) else false then true else bif !decide (q10 = 0) then bif !decide (q9 = Prod.fst q6) then true else !decide (q12 = Prod.fst q6) else false then true else !true) = false := by
  subst h6
  show (bif bif bif !eqO (decide (q10 = 0)) (decide (q13 = 0)) then true else bif decide (q10 = 0) then bif !decide (q9 = IntKind.wrap IntKind.i64 ((L.length : Int) + 1)) then true else !decide (q12 = IntKind.wrap IntKind.i64 ((L.length : Int) + 2)) else false then true else bif !decide (q10 = 0) then bif !decide (q9 = (L.length : Int)) then true else !decide (q12 = (L.length : Int)) else false then true else !true) = false
  rw [small_i64 (n := (L.length : Int) + 1) (by omega), small_i64 (n := (L.length : Int) + 2) (by omega)]
  rcases twice_ok hL h hk with ⟨e1, e2⟩ | ⟨e1, e2⟩
  · rw [e1] at h9 h10
    rw [e2] at h12 h13
    subst h9; subst h10; subst h12; subst h13
    simp [eqO]
  · rw [e1] at h9 h10
    rw [e2] at h12 h13
    subst h9; subst h10; subst h12; subst h13
    simp [eqO]

theorem check_err {l : List Nt} {q : Int × Int × Unit} (hb : (!decide (q.2.1 = 0)) = true) (h : q = g_Check l) (hl : l.length ≤ 1000) : (decide (q.2.1 = 11), ()) = (true, ()) := by
  cases hr : runB l 0 bk0 with
  | inl i =>
    rw [check_bad hl hr] at h
    subst h
    rfl
  | inr b =>
    rw [check_ok hl hr] at h
    subst h
    have hb : (!decide ((0 : Int) = 0)) = true := hb
    exact absurd hb (by decide)

theorem k_l20_TraceAdds : FnOk prog [] n_l20_TraceAdds (lawS as_l20_TraceAdds) :=
  fnS_T (S := lawS as_l20_TraceAdds) (x_l20_TraceAdds k_l20_few k_trace_Check k_trace_Cost k_l20_alive) (fx := fx_l20_TraceAdds) at_l20_TraceAdds (by kernel_rfl) (fun _ _ => trivial) (T := fun x => T_l20_TraceAdds x.1 x.2.1 x.2.2.1) (fun x => T_l20_TraceAdds_eq x.1 x.2.1 x.2.2.1) fun O w0 x _ _ => by
    obtain ⟨l0, n, d, ⟨⟩⟩ := x
    refine ⟨trivial, cut_ok d (by decide), fun _ _ L hl d1 _ => ⟨trivial, fun q6 h6 => ?_⟩⟩
    have hlen : L.length ≤ 40 := by have hl : L = g_few l0 := hl; rw [hl]; exact few_len l0
    clear hl
    have h6 : q6 = g_Check L := h6
    cases hr : runB L 0 bk0 with
    | inl i =>
      have e := check_bad (by omega) hr
      rw [e] at h6
      subst h6
      refine ⟨fun _ => ⟨trivial, fun q7 h7 => ⟨_, rfl, ?_⟩⟩, fun h => ?_⟩
      · have h7 : q7 = true := h7
        subst h7
        rfl
      · have h : (!decide ((11 : Int) = 0)) = false := h
        exact absurd h (by decide)
    | inr b =>
      have e := check_ok (by omega) hr
      rw [e] at h6
      have m0 : (List.length (List.replicate 0 (zero tNote) ++ L)) ≤ most := by
        show L.length ≤ most
        unfold most; omega
      have m1 : ∀ x : Nt, (L ++ [x]).length ≤ most := fun x => by unfold most; rw [List.length_append]; show L.length + 1 ≤ _; omega
      have m2 : ∀ x y : Nt, (L ++ [x, y]).length ≤ most := fun x y => by unfold most; rw [List.length_append]; show L.length + 2 ≤ _; omega
      refine ⟨fun h => ?_, fun _ => ?_⟩
      · have h6 : q6 = ((L.length : Int), (0 : Int), ()) := h6
        subst h6
        have h : (!decide ((0 : Int) = 0)) = true := h
        exact absurd h (by decide)
      refine ⟨fun h0 => ⟨?_, ?_⟩, fun _ => ?_⟩
      · have h0 : 0 < (L.length : Int) := of_decide_eq_true h0
        show inB (IntKind.wrap .i64 ((L.length : Int) - 1)) (L.length : Int)
        rw [small_i64 (by omega)]
        exact ⟨by omega, by omega⟩
      · generalize Prod.fst (Prod.snd (el tNote L (IntKind.wrap IntKind.i64 (lnx tNote L - 1)))) = a
        refine ⟨trivial, fun q7 h7 => ⟨m0, m1 (gotN a n d1), trivial, fun q8 h8 q9 h9 q10 h10 => ⟨m0, m2 (gotN a n d1) (gotN a n d1), trivial, fun q11 h11 q12 h12 q13 h13 => ⟨fun _ => trivial, fun hc => ?_, fun _ => ⟨m0, m1 (sentN a n d1), trivial, fun q14 h14 => ?_⟩⟩⟩⟩⟩
        · exact absurd (hc.symm.trans (same_twice hlen hr (g := gotN a n d1) rfl h6 h9 h10 h12 h13)) (by decide)
        have h14 : q14 = g_Check (L ++ [sentN a n d1]) := h14
        have h7 : q7 = g_Cost L n := h7
        rcases sent_ok hlen hr (s := sentN a n d1) rfl with ⟨i, e1⟩ | ⟨e1, e2⟩
        · rw [e1] at h14
          subst h14
          refine ⟨fun hb => ⟨_, rfl, rfl⟩, fun hg => ?_⟩
          have hg : (!decide ((11 : Int) = 0)) = false := hg
          exact absurd hg (by decide)
        · refine ⟨fun hb => ⟨_, rfl, ?_⟩, fun hg => ⟨trivial, fun q15 h15 => ⟨_, rfl, ?_⟩⟩⟩
          · exact check_err hb h14 (by rw [List.length_append]; show L.length + 1 ≤ 1000; omega)
          · have h15 : q15 = g_Cost (L ++ [sentN a n d1]) n := h15
            have e1 : g_Cost (L ++ [sentN a n d1]) n = (1, 0, ()) := e1
            have e2 : g_Cost L n = (0, 6, ()) := e2
            rw [e1] at h15
            rw [e2] at h7
            subst h15; subst h7
            rfl
      · refine ⟨trivial, fun q7 h7 => ⟨m0, m1 (gotN 0 n d1), trivial, fun q8 h8 q9 h9 q10 h10 => ⟨m0, m2 (gotN 0 n d1) (gotN 0 n d1), trivial, fun q11 h11 q12 h12 q13 h13 => ⟨fun _ => trivial, fun hc => ?_, fun _ => ⟨m0, m1 (sentN 0 n d1), trivial, fun q14 h14 => ?_⟩⟩⟩⟩⟩
        · exact absurd (hc.symm.trans (same_twice hlen hr (g := gotN 0 n d1) rfl h6 h9 h10 h12 h13)) (by decide)
        have h14 : q14 = g_Check (L ++ [sentN 0 n d1]) := h14
        have h7 : q7 = g_Cost L n := h7
        rcases sent_ok hlen hr (s := sentN 0 n d1) rfl with ⟨i, e1⟩ | ⟨e1, e2⟩
        · rw [e1] at h14
          subst h14
          refine ⟨fun hb => ⟨_, rfl, rfl⟩, fun hg => ?_⟩
          have hg : (!decide ((11 : Int) = 0)) = false := hg
          exact absurd hg (by decide)
        · refine ⟨fun hb => ⟨_, rfl, ?_⟩, fun hg => ⟨trivial, fun q15 h15 => ⟨_, rfl, ?_⟩⟩⟩
          · exact check_err hb h14 (by rw [List.length_append]; show L.length + 1 ≤ 1000; omega)
          · have h15 : q15 = g_Cost (L ++ [sentN 0 n d1]) n := h15
            have e1 : g_Cost (L ++ [sentN 0 n d1]) n = (1, 0, ()) := e1
            have e2 : g_Cost L n = (0, 6, ()) := e2
            rw [e1] at h15
            rw [e2] at h7
            subst h15; subst h7
            rfl

end Go.Proofs.Ytainieginijaaaa

/- TraceChecks: its contract. -/
namespace Go.Proofs.Ytainieginijaaaa
open Go Go.RowKit

theorem born_none {l : List Nt} {n : Int} (h : bornAt l n = none) : birthN n l 0 < 0 := by
  unfold bornAt at h
  split at h
  · cases h
  · omega

theorem inB_lt {l : List Nt} {n : Int} (h : inB n (lnx tNote l)) : n.toNat < l.length := by
  obtain ⟨a1, a2⟩ := h
  have a2 : n < (l.length : Int) := a2
  omega

theorem checks_fin {P : Program} {X : TabX} {c : Cx} {R0 : Ending → World → Prop} {Z : K → Prop} {l : List Nt} {b : Bk} (hr : runB l 0 bk0 = .inr b) (hl : l.length ≤ 40) (m : Int) (q6 : Int × Int × Unit) (h6 : q6 = g_Cost l m) (hZ : Z (K.val (Ty.pair Ty.bool Ty.unit) (true, PUnit.unit))) :
    TreeGoodS P X c R0 Z (TreeS.req (List.length l ≤ 1000000) (TreeS.all (den tInt) (fun (q9 : den tInt) ↦ q9 = birthN m l 0) fun (q9 : den tInt) ↦
      TreeS.req (impl [(decide (q9 < 0), false)] (inB q9 (lnx tNote l)))
        (TreeS.ite (bif decide (q9 < 0) then true else !decide (Prod.fst (el tNote l q9) = 1))
          (TreeS.ret (K.val (Ty.pair Ty.bool Ty.unit) (bif decide (Prod.fst (Prod.snd q6) = 6) then decide (Prod.fst q6 = 0) else false, PUnit.unit)))
          (TreeS.req (impl [(decide (Prod.fst (Prod.snd q6) = 0), true)] (List.length l ≤ 1000 ∧ okL l))
            (TreeS.ret (K.val (Ty.pair Ty.bool Ty.unit) (bif decide (Prod.fst (Prod.snd q6) = 0) then decide (Prod.fst q6 = g_CostR l m) else false, PUnit.unit))))))) := by
  refine ⟨by omega, fun q9 h9 => ?_⟩
  have h6 : q6 = resCost m (.inr b) := by rw [h6]; unfold g_Cost; rw [if_neg (by omega), hr]
  have hf := rf_of hr
  have hw := hf.who m
  cases hb : bornAt l m with
  | none =>
    have hneg := born_none hb
    have h9 : q9 = birthN m l 0 := h9
    rw [hb] at hw
    have h6 : q6 = (0, 6, ()) := h6.trans (if_pos (by rw [hw]; rfl))
    subst h6
    have hd : decide (q9 < 0) = true := by subst h9; exact decide_eq_true hneg
    refine ⟨fun h => absurd (h.symm.trans hd) (by decide), fun _ => hZ, fun h => ?_⟩
    rw [hd] at h
    cases h
  | some y =>
    obtain ⟨h1, h2⟩ := born_in hb
    have h9 : q9 = birthN m l 0 := h9
    rw [← h9] at h1 h2
    have hd : decide (q9 < 0) = false := decide_eq_false (Int.not_lt.2 h1.1)
    rw [hb] at hw
    show TreeGoodS P X c R0 Z (TreeS.req (impl [(decide (q9 < 0), false)] (inB q9 (lnx tNote l))) (TreeS.ite (bif decide (q9 < 0) then true else !decide (Prod.fst (el tNote l q9) = 1)) _ _))
    rw [h2]
    have hw : hasW b.2.2.1 m = decide (kdN y = 1) := hw
    refine ⟨fun _ => h1, fun h => ?_, fun h => ?_⟩
    · rw [hd] at h
      have h : (!decide (kdN y = 1)) = true := h
      have h6 : q6 = (0, 6, ()) := h6.trans (if_pos (by rw [hw]; exact h))
      subst h6
      exact hZ
    · rw [hd] at h
      have h : (!decide (kdN y = 1)) = false := h
      have h6 : q6 = (cntF m b.1, 0, ()) := h6.trans (if_neg (by rw [hw, h]; decide))
      subst h6
      refine ⟨fun _ => ⟨by omega, b, hr⟩, ?_⟩
      have e : g_CostR l m = cntF m b.1 := by unfold g_CostR; rw [hr]
      show Z (K.val (Ty.pair Ty.bool Ty.unit) (bif decide ((0 : Int) = 0) then decide (cntF m b.1 = g_CostR l m) else false, PUnit.unit))
      rw [e, decide_eq_true (rfl : cntF m b.1 = cntF m b.1)]
      exact hZ

theorem k_l20_TraceChecks : FnOk prog [] n_l20_TraceChecks (lawS as_l20_TraceChecks) :=
  fnS_T (S := lawS as_l20_TraceChecks) (x_l20_TraceChecks k_l20_few k_trace_Check k_trace_Chain k_trace_Cost k_l20_alive k_l20_same k_r20_Check (k_r20_Chain 1001 (by decide)) (k_r20_First 1001) k_r20_Birth k_r20_Cost) (fx := fx_l20_TraceChecks) at_l20_TraceChecks (by kernel_rfl) (fun _ _ => trivial) (T := fun x => T_l20_TraceChecks x.1 x.2.1 x.2.2.1) (fun x => T_l20_TraceChecks_eq x.1 x.2.1 x.2.2.1) fun O w0 x _ _ => by
    obtain ⟨l0, n, m, ⟨⟩⟩ := x
    refine ⟨trivial, fun l hl => ⟨trivial, fun q4 h4 => ⟨trivial, fun q5 h5 => ⟨trivial, fun q6 h6 => ⟨rfl, by decide, by decide, trivial, fun q7 h7 => ⟨fun _ => trivial, ?_⟩⟩⟩⟩⟩⟩
    have hlen : l.length ≤ 40 := by have hl : l = g_few l0 := hl; rw [hl]; exact few_len l0
    clear hl
    have h7 : q7 = (0, 2, ()) := by
      have h7 : q7 = g_Check (List.replicate 1001 (zero tNote)) := h7
      rw [h7]
      unfold g_Check
      rw [if_pos (by rw [List.length_replicate]; decide)]
    subst h7
    have h4 : q4 = g_Check l := h4
    have h5 : q5 = g_Chain l n := h5
    have h6 : q6 = g_Cost l m := h6
    have h5 : q5 = resChain l n (runB l 0 bk0) := by rw [h5]; unfold g_Chain; rw [if_neg (by omega)]
    refine ⟨fun h => absurd (show false = true from h) (by decide), fun _ => ⟨by omega, fun q8 h8 => ?_⟩⟩
    have h8 : q8 = g_CheckR l := h8
    unfold g_CheckR at h8
    cases hr : runB l 0 bk0 with
    | inl i =>
      rw [check_bad (by omega) hr] at h4
      have h6 : q6 = (0, 11, ()) := by rw [h6]; unfold g_Cost; rw [if_neg (by omega), hr]; rfl
      rw [hr] at h5 h8
      have h8 : q8 = (i : Int) := h8
      have h5 : q5 = ([], 0, 11, ()) := h5
      subst h4 h5 h6 h8
      obtain ⟨_, h2, _⟩ := run_bad hr
      refine ⟨fun _ => ⟨_, rfl, ?_⟩, fun h => ?_⟩
      · show ((bif bif bif bif bif bif true then decide (((i : Nat) : Int) = (i : Nat)) else false then true else false then true else false then true else false then true else false then true else false), PUnit.unit) = (true, ())
        rw [decide_eq_true (rfl : ((i : Nat) : Int) = (i : Nat))]; rfl
      · have h : ¬ ((i : Nat) : Int) < (l.length : Int) := of_decide_eq_false h
        omega
    | inr b =>
      rw [check_ok (by omega) hr] at h4
      rw [hr] at h5 h8
      have h8 : q8 = (l.length : Int) := h8
      subst h4 h8
      have fin := fun {P X c R0 Z} => @checks_fin P X c R0 Z l b hr hlen m q6 h6
      refine ⟨fun h => ?_, fun _ => ⟨fun h => ?_, fun _ => ⟨fun h => badAt_in h, fun h => ⟨fun h2 => ?_, fun _ => fin ⟨_, rfl, rfl⟩⟩, fun h => ?_⟩⟩⟩
      · have h : (l.length : Int) < (l.length : Int) := of_decide_eq_true h
        omega
      · have h : (bif !decide ((0 : Int) = 0) then true else !decide ((l.length : Int) = l.length)) = true := h
        rw [decide_eq_true (rfl : (l.length : Int) = l.length)] at h
        cases h
      · have h5 : q5 = ([], 0, 6, ()) := h5.trans (if_pos h)
        subst h5
        exact absurd (show false = true from h2) (by decide)
      · have hbad : badAt l n = false := h
        have h5 : q5 = ((walk b.1 b.1.length (wasN (el tNote l n)) []).1.reverse, mpGet (k := tInt) (v := tInt) b.2.2.1 (walk b.1 b.1.length (wasN (el tNote l n)) []).2, 0, ()) := h5.trans (if_neg (neT hbad))
        have hin := badAt_in' hbad
        have h4 : kdN (el tNote l n) = 4 := by
          unfold badAt at hbad
          cases h4 : decide (kdN (el tNote l n) = 4) with
          | true => exact of_decide_eq_true h4
          | false =>
            rw [h4] at hbad
            cases h5 : (bif decide (n < 0) then true else decide (lnx tNote l ≤ n)) <;> (rw [h5] at hbad; cases hbad)
        have hkl : n.toNat < l.length := inB_lt hin
        have hel : el tNote l n = l[n.toNat] := by
          show l.getD n.toNat _ = _
          rw [List.getD_eq_getElem?_getD, List.getElem?_eq_getElem hkl]; rfl
        have hw : hasM b.1 (wasN (el tNote l n)) = true := by
          rw [hel] at h4 ⊢
          obtain ⟨b1, r1, r2⟩ := run_take hr n.toNat
          rw [List.drop_eq_getElem_cons hkl, runB] at r2
          cases hs : stepB (decide ((l.take n.toNat).length = 0)) b1 l[n.toNat] with
          | none => rw [hs] at r2; cases r2
          | some b2 =>
            rw [hs] at r2
            have r2 : runB (l.drop (n.toNat + 1)) ((l.take n.toNat).length + 1) b2 = .inr b := r2
            obtain ⟨e, he⟩ := run_ext r2
            rcases (step_cases hs).2 with ⟨e, _⟩ | ⟨e, _⟩ | ⟨e, _⟩ | ⟨_, h1, _, rfl⟩ | ⟨e, _⟩
            · rw [h4] at e; exact absurd e (by decide)
            · rw [h4] at e; exact absurd e (by decide)
            · rw [h4] at e; exact absurd e (by decide)
            · rw [he]; exact (has_app' b1.1 e h1).1
            · rw [h4] at e; exact absurd e (by decide)
        generalize el tNote l n = x at h5 h4 hw hel ⊢
        obtain ⟨_, k2, ⟨y, k3, k4⟩, k5, k6⟩ := known hr (by omega) hw
        have ec : g_ChainR l 1001 (wasN x) = (walk b.1 b.1.length (wasN x) []).1.reverse := by unfold g_ChainR; rw [k5]; rfl
        have ef : g_First l 1001 (wasN x) = firstL (getM b.1 (wasN x)) := by unfold g_First; rw [k2]; rfl
        obtain ⟨b1, b2⟩ := born_in k3
        have ey : mpGet (k := tInt) (v := tInt) b.2.2.1 (walk b.1 b.1.length (wasN x) []).2 = noN y := by
          rw [k6]
          exact (rf_of hr).whoV _ y k3 k4
        rw [ey, ← ec] at h5
        subst h5
        have hin' : inB n (lnx tNote l) := hin
        have p2 : l.length ≤ 1000 ∧ (chainR l 1001 (wasN x)).isSome = true := ⟨by omega, by rw [k5]; rfl⟩
        have p3 : l.length ≤ 1000 ∧ (firstR l 1001 (wasN x)).isSome = true := ⟨by omega, by rw [k2]; rfl⟩
        have p4 : List.length l ≤ 1000000 := Nat.le_trans hlen (by decide)
        refine ⟨fun _ => hin', fun _ => p2, fun _ => trivial, fun _ => hin', fun _ => p3, fun _ => p4, fun _ => ?_, fun h => ?_, fun _ => fin ⟨_, rfl, rfl⟩⟩
        · show inB (birthN (g_First l 1001 (wasN x)) l 0) (lnx tNote l)
          rw [ef]
          exact b1
        · have h : (bif bif !decide ((0 : Int) = 0) then true else !decide (g_ChainR l 1001 (wasN x) = g_ChainR l 1001 (wasN x)) then true else !decide (noN y = noN (el tNote l (birthN (g_First l 1001 (wasN x)) l 0)))) = true := h
          rw [ef, b2, decide_eq_true (rfl : g_ChainR l 1001 (wasN x) = _), decide_eq_true (rfl : noN y = _)] at h
          cases h

end Go.Proofs.Ytainieginijaaaa
