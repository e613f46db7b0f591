/- Part 7 of 8 of what this claim's proof stands on: a theory of programs on data, and the contracts of the functions that the law reaches. It holds no condition of its own. -/
import Derived.Test.YtainieginijaaaaCC6

/- Notes that are justified are so without what is behind; what a chain has was admitted ahead of the note. -/
namespace Go.Proofs.Ytainieginijaaaa
open Go Go.RowKit

/-! ### The plain law -/

theorem run_bad : ∀ {l : List Nt} {j i : Nat} {b : Bk}, runB l j b = .inl i → j ≤ i ∧ i - j < l.length ∧ ∃ b', runB (l.take (i - j)) j b = .inr b'
  | [], j, i, b, h => by cases h
  | x :: l, j, i, b, h => by
    rw [runB] at h
    cases hs : stepB (decide (j = 0)) b x with
    | none =>
      rw [hs] at h
      cases h
      exact ⟨Nat.le_refl _, by simp, b, by rw [Nat.sub_self]; rfl⟩
    | some b1 =>
      rw [hs] at h
      obtain ⟨h1, h2, b', h3⟩ := run_bad h
      refine ⟨by omega, by rw [List.length_cons]; omega, b', ?_⟩
      rw [show i - j = (i - (j + 1)) + 1 by omega, List.take_succ_cons, runB, hs]
      exact h3

theorem run_take {l : List Nt} {b : Bk} (h : runB l 0 bk0 = .inr b) (k : Nat) : ∃ b', runB (l.take k) 0 bk0 = .inr b' ∧ runB (l.drop k) ((l.take k).length) b' = .inr b := by
  have := runB_append (l.take k) (l.drop k) 0 bk0
  rw [List.take_append_drop, h] at this
  cases hr : runB (l.take k) 0 bk0 with
  | inl j => rw [hr] at this; cases this
  | inr b' => rw [hr] at this; simp only [Nat.zero_add] at this; exact ⟨b', rfl, this.symm⟩

theorem check_ok {l : List Nt} (hl : l.length ≤ 1000) {b : Bk} (h : runB l 0 bk0 = .inr b) : g_Check l = ((l.length : Int), 0, ()) := by
  unfold g_Check; rw [if_neg (by omega), h]; rfl
theorem check_bad {l : List Nt} (hl : l.length ≤ 1000) {i : Nat} (h : runB l 0 bk0 = .inl i) : g_Check l = ((i : Int), 11, ()) := by
  unfold g_Check; rw [if_neg (by omega), h]; rfl

theorem has_app' (m e : List (Int × Lt)) {a : Int} (h : hasM m a = true) : hasM (m ++ e) a = true ∧ getM (m ++ e) a = getM m a := by
  unfold hasM mpHas at h ⊢
  unfold getM mpGet
  have : mpFind (k := tInt) (v := tTraceLetter) (m ++ e) a = mpFind (k := tInt) (v := tTraceLetter) m a := by
    unfold mpFind at h ⊢
    rw [List.find?_append]
    cases hf : m.find? (fun q : Int × Lt => eqb tInt a q.1) with
    | some q => rfl
    | none => rw [hf] at h; cases h
  rw [this]
  exact ⟨h, rfl⟩

theorem run_ext : ∀ {l : List Nt} {i : Nat} {b b' : Bk}, runB l i b = .inr b' → ∃ e, b'.1 = b.1 ++ e
  | [], i, b, b', h => by cases h; exact ⟨[], by simp⟩
  | x :: l, i, b, b', h => by
    rw [runB] at h
    cases hs : stepB (decide (i = 0)) b x with
    | none => rw [hs] at h; cases h
    | some b1 =>
      rw [hs] at h
      obtain ⟨e, he⟩ := run_ext h
      have : ∃ e1, b1.1 = b.1 ++ e1 := by
        rcases (step_cases hs).2 with ⟨_, _, _, rfl⟩ | ⟨_, rfl⟩ | ⟨_, _, _, _, _, rfl⟩ | ⟨_, _, _, rfl⟩ | ⟨_, rfl⟩
        · exact ⟨_, rfl⟩
        · exact ⟨[], by simp⟩
        · exact ⟨_, rfl⟩
        · exact ⟨[], by simp⟩
        · exact ⟨[], by simp⟩
      obtain ⟨e1, h1⟩ := this
      exact ⟨e1 ++ e, by rw [he, h1, List.append_assoc]⟩

/-- Was a trigger admitted? -/
def admIn (l : List Nt) (z : Tr) : Prop := ∃ y ∈ l, kdN y = 2 ∧ trN y = z

structure Ad (l : List Nt) (b : Bk) : Prop where
  adm : ∀ z ∈ b.2.1, admIn l z
  by_ : ∀ a, hasM b.1 a = true → byL (getM b.1 a) = zero tTrigger ∨ admIn l (byL (getM b.1 a))

theorem admIn_app {l m : List Nt} {z : Tr} (h : admIn l z) : admIn (l ++ m) z := by
  obtain ⟨y, hy, h1⟩ := h
  exact ⟨y, List.mem_append_left _ hy, h1⟩

theorem ad_step {l : List Nt} {b b' : Bk} {f : Bool} {x : Nt} (h : stepB f b x = some b') (ha : Ad l b) : Ad (l ++ [x]) b' := by
  have old : ∀ a, hasM b.1 a = true → byL (getM b.1 a) = zero tTrigger ∨ admIn (l ++ [x]) (byL (getM b.1 a)) := fun a h => (ha.by_ a h).imp id admIn_app
  have oldA : ∀ z ∈ b.2.1, admIn (l ++ [x]) z := fun z hz => admIn_app (ha.adm z hz)
  rcases (step_cases h).2 with ⟨_, _, h1, rfl⟩ | ⟨h1, rfl⟩ | ⟨_, _, _, h1, h2, rfl⟩ | ⟨_, _, _, rfl⟩ | ⟨_, rfl⟩
  · refine ⟨oldA, fun a hh => ?_⟩
    cases hb : hasM b.1 a with
    | true => rw [get_old hb]; exact old a hb
    | false =>
      have hh : hasM (b.1 ++ _) a = true := hh
      rw [has_app, hb, Bool.false_or] at hh
      have e := of_decide_eq_true hh
      subst e
      rw [get_new hb]
      exact .inl rfl
  · refine ⟨fun z hz => ?_, old⟩
    rcases List.mem_append.1 hz with hz | hz
    · exact oldA z hz
    · rw [List.mem_singleton.1 hz]
      exact ⟨x, by simp, h1, rfl⟩
  · refine ⟨oldA, fun a hh => ?_⟩
    cases hb : hasM b.1 a with
    | true => rw [get_old hb]; exact old a hb
    | false =>
      have hh : hasM (b.1 ++ _) a = true := hh
      rw [has_app, hb, Bool.false_or] at hh
      have e := of_decide_eq_true hh
      subst e
      rw [get_new hb]
      rcases h2 with ⟨h2, _⟩ | h2
      · exact .inr (oldA _ h2)
      · exact .inl h2
  · exact ⟨oldA, old⟩
  · exact ⟨oldA, old⟩

theorem ad_run : ∀ {l p : List Nt} {i : Nat} {b b' : Bk}, runB l i b = .inr b' → Ad p b → Ad (p ++ l) b'
  | [], p, i, b, b', h, ha => by cases h; simpa using ha
  | x :: l, p, i, b, b', h, ha => by
    rw [runB] at h
    cases hs : stepB (decide (i = 0)) b x with
    | none => rw [hs] at h; cases h
    | some b1 =>
      rw [hs] at h
      have := ad_run h (ad_step hs ha)
      rwa [List.append_assoc] at this

theorem ad_nil : Ad [] bk0 := ⟨fun _ h => (by cases h), fun a h => (by cases h)⟩

theorem walk_all (m m0 : List (Int × Lt)) (P : Tr → Prop) (h1 : ∀ a, hasM m0 a = true → getM m a = getM m0 a) (h2 : ∀ a, 0 < wasL (getM m0 a) → hasM m0 (wasL (getM m0 a)) = true)
    (h3 : ∀ a, hasM m0 a = true → byL (getM m0 a) = zero tTrigger ∨ P (byL (getM m0 a))) : ∀ (k : Nat) (no : Int) (out : List Tr), hasM m0 no = true → (∀ x ∈ out, P x) → ∀ x ∈ (walk m k no out).1, P x
  | 0, no, out, _, ho, x, hx => ho x hx
  | k + 1, no, out, hn, ho, x, hx => by
    rw [walk] at hx
    split at hx
    · rename_i hw
      rw [h1 no hn] at hw hx
      refine walk_all m m0 P h1 h2 h3 k _ _ (h2 no hw) (fun y hy => ?_) x hx
      split at hy
      · exact ho y hy
      · rename_i hz
        rcases List.mem_append.1 hy with hy | hy
        · exact ho y hy
        · rw [List.mem_singleton.1 hy]
          exact (h3 no hn).resolve_left hz
    · exact ho x hx

/-- What a chain has was admitted ahead of the note. -/
theorem chain_adm {l : List Nt} {b : Bk} (h : runB l 0 bk0 = .inr b) {k : Nat} (hk : k < l.length) (h4 : kdN l[k] = 4) : ∀ x ∈ (walk b.1 b.1.length (wasN l[k]) []).1, admIn (l.take k) x := by
  obtain ⟨b1, r1, r2⟩ := run_take h k
  rw [List.drop_eq_getElem_cons hk, runB] at r2
  cases hs : stepB (decide ((l.take k).length = 0)) b1 l[k] with
  | none => rw [hs] at r2; cases r2
  | some b2 =>
    rw [hs] at r2
    have r2 : runB (l.drop (k + 1)) ((l.take k).length + 1) b2 = .inr b := r2
    have hw : hasM b1.1 (wasN l[k]) = true ∧ b2.1 = b1.1 := by
      rcases (step_cases hs).2 with ⟨e, _⟩ | ⟨e, _⟩ | ⟨e, _⟩ | ⟨_, h1, _, rfl⟩ | ⟨e, _⟩
      · rw [h4] at e; exact absurd e (by decide)
      · rw [h4] at e; exact absurd e (by decide)
      · rw [h4] at e; exact absurd e (by decide)
      · exact ⟨h1, rfl⟩
      · rw [h4] at e; exact absurd e (by decide)
    obtain ⟨e, he⟩ := run_ext r2
    rw [hw.2] at he
    have had := ad_run r1 ad_nil
    rw [List.nil_append] at had
    obtain ⟨rk, _, hr⟩ := (run_fam r1 Fam.nil).rank
    exact walk_all b.1 b1.1 _ (fun a ha => by rw [he]; exact (has_app' b1.1 e ha).2) (fun a ha => (hr a ha).1) had.by_ _ _ [] hw.1 (fun _ h => by cases h)

/-! ### The contracts -/

theorem k_l20_alive : FnOk prog [] n_l20_alive S_l20_alive :=
  fnS_T (S := S_l20_alive) (x_l20_alive k_trace_Check k_trace_Chain) (fx := fx_l20_alive) at_l20_alive (by kernel_rfl) (fun _ _ => trivial) (T := fun _ => T_l20_alive) (fun _ => T_l20_alive_eq) fun O w0 _ _ _ => by
    refine ⟨trivial, fun q hq => ⟨trivial, fun q' hq' => ⟨_, rfl, ?_⟩⟩⟩
    have h1 : q = (2, 0, ()) := hq.trans (by kernel_rfl)
    have h2 : q' = ([], 3, 0, ()) := hq'.trans (by kernel_rfl)
    subst h1 h2
    rfl

/-- Which place. -/
def atK (m : Nat) (n : Int) : Nat := ((n.tmod (m + 1 : Nat) + m + 1).tmod (m + 1 : Nat)).toNat
theorem atK_spec {m : Nat} (hm : m ≤ 1000000) (n : Int) : Int.tmod (IntKind.wrap .i64 (IntKind.wrap .i64 (Int.tmod n (IntKind.wrap .i64 ((m : Int) + 1)) + m) + 1)) (IntKind.wrap .i64 ((m : Int) + 1)) = (atK m n : Nat) ∧ atK m n ≤ m ∧ IntKind.wrap .i64 ((m : Int) + 1) = ((m + 1 : Nat) : Int) := by
  have e : IntKind.wrap .i64 ((m : Int) + 1) = ((m + 1 : Nat) : Int) := by rw [small_i64 (by omega)]; omega
  have h1 : n.tmod (m + 1 : Nat) < (m + 1 : Nat) := Int.tmod_lt_of_pos n (by omega)
  have h2 : -((m + 1 : Nat) : Int) < n.tmod (m + 1 : Nat) := Int.lt_tmod_of_pos n (by omega)
  have h3 : 0 ≤ (n.tmod (m + 1 : Nat) + m + 1).tmod (m + 1 : Nat) := Int.tmod_nonneg _ (by omega)
  have h4 : (n.tmod (m + 1 : Nat) + m + 1).tmod (m + 1 : Nat) < (m + 1 : Nat) := Int.tmod_lt_of_pos _ (by omega)
  rw [e, small_i64 (n := n.tmod (m + 1 : Nat) + m) (by omega), small_i64 (n := n.tmod (m + 1 : Nat) + m + 1) (by omega)]
  unfold atK
  exact ⟨by omega, by omega, rfl⟩

def foundB (x : Tr) (y : Nt) : Bool := decide (kdN y = 2) && decide (trN y = x)

def gl_Begin_14 (O : Nat → Prop) (w0 : World) (l : List Nt) (k : Nat) (hk : k ≤ l.length) (hl : l.length ≤ 1000) (c : List Tr) (hc : c.length ≤ 1000000) (ha : ∀ x ∈ c, admIn (l.take k) x) :=
  PLift.up <| range_ind (σ := Unit) c.length (fun _ _ => True)
    (fun i _ => GoodS prog X_l20_TraceBeginnings (Cx.base O w0) (Ends prog O w0 rs_l20_TraceBeginnings fun y => y = (true, ())) [] fx_l20_TraceBeginnings (lp f_l20_TraceBeginnings 14) (E_l20_TraceBeginnings_14 l (k : Nat) c (lnx tTrigger c) (i : Nat)))
    (fun i u hi _ ih => goodS_of (x_l20_TraceBeginnings k_l20_few k_trace_Check k_trace_Chain k_l20_alive) (TL_l20_TraceBeginnings_14_eq l _ c _ _) (by
      have hcut : lCutx tNote l 0 (k : Nat) = l.take k := by show (l.take k).drop 0 = _; rw [List.drop_zero]
      have hlk : (l.take k).length = k := by rw [List.length_take]; omega
      refine ⟨fun _ => ⟨inB_of hi, ⟨Int.le_refl _, Int.natCast_nonneg _, Int.ofNat_le.2 hk⟩, ?_⟩, fun h => ?_⟩
      · rw [el_at hi]
        have inner := (PLift.up <| range_ind (σ := Bool) (l.take k).length (fun j s => s = ((l.take k).take j).any (foundB c[i]))
          (fun j s => GoodS prog X_l20_TraceBeginnings (Cx.base O w0) (Ends prog O w0 rs_l20_TraceBeginnings fun y => y = (true, ())) [] fx_l20_TraceBeginnings (lp f_l20_TraceBeginnings 18) (E_l20_TraceBeginnings_18 l (k : Nat) s c (lnx tTrigger c) (i : Nat) (l.take k) (lnx tNote (l.take k)) (j : Nat) c[i]))
          (fun j s hj hs ih2 => goodS_of (x_l20_TraceBeginnings k_l20_few k_trace_Check k_trace_Chain k_l20_alive) (TL_l20_TraceBeginnings_18_eq l _ s c _ _ (l.take k) _ _ c[i]) (by
            refine ⟨fun _ => ⟨inB_of hj, ?_⟩, fun h => ?_⟩
            · rw [el_at hj, wr_idx hj (by omega), eqb_tr]
              refine ih2 _ ?_
              rw [List.take_succ_eq_append_getElem hj, List.any_append, ← hs, List.any_cons, List.any_nil, Bool.or_false, foundB]
              cases s <;> cases decide (kdN (l.take k)[j] = 2) <;> rfl
            · rw [lnx_nat] at h
              exact absurd hj (of_decide_eq_false h)))
          (fun s hs => goodS_of (x_l20_TraceBeginnings k_l20_few k_trace_Check k_trace_Chain k_l20_alive) (TL_l20_TraceBeginnings_18_eq l _ s c _ _ (l.take k) _ _ c[i]) (by
            have hs : s = ((l.take k).take (l.take k).length).any (foundB c[i]) := hs
            rw [List.take_length] at hs
            have ht : s = true := by
              obtain ⟨y, hy, h1, h2⟩ := ha _ (List.getElem_mem hi)
              rw [hs, List.any_eq_true]
              exact ⟨y, hy, by unfold foundB; rw [decide_eq_true h1, decide_eq_true h2]; rfl⟩
            subst ht
            refine ⟨fun h => ?_, fun _ => ⟨fun h => (by cases h), fun _ => ?_⟩⟩
            · rw [lnx_nat] at h
              exact absurd (of_decide_eq_true h) (Nat.lt_irrefl _)
            · rw [wr_idx hi (by omega)]
              exact ih () trivial))).down 0 false (Nat.zero_le _) rfl
        rw [← hcut] at inner
        exact inner
      · rw [lnx_nat] at h
        exact absurd hi (of_decide_eq_false h)))
    (fun u _ => goodS_of (x_l20_TraceBeginnings k_l20_few k_trace_Check k_trace_Chain k_l20_alive) (TL_l20_TraceBeginnings_14_eq l _ c _ _) (by
      refine ⟨fun h => ?_, fun _ => ⟨_, rfl, rfl⟩⟩
      rw [lnx_nat] at h
      exact absurd (of_decide_eq_true h) (Nat.lt_irrefl _)))

theorem few_len (l : List Nt) : (g_few l).length ≤ 40 := by unfold g_few; rw [List.length_map, List.length_take]; omega

theorem walk_len (m : List (Int × Lt)) : ∀ (k : Nat) (no : Int) (out : List Tr), (walk m k no out).1.length ≤ out.length + k
  | 0, no, out => Nat.le_refl _
  | k + 1, no, out => by
    rw [walk]
    split
    · have := walk_len m k (wasL (getM m no)) (if byL (getM m no) = zero tTrigger then out else out ++ [byL (getM m no)])
      have hb : (if byL (getM m no) = zero tTrigger then out else out ++ [byL (getM m no)]).length ≤ out.length + 1 := by
        split
        · omega
        · rw [List.length_append]; exact Nat.le_refl _
      omega
    · show out.length ≤ out.length + (k + 1); omega

theorem k_l20_TraceBeginnings : FnOk prog [] n_l20_TraceBeginnings (lawS as_l20_TraceBeginnings) :=
  fnS_T (S := lawS as_l20_TraceBeginnings) (x_l20_TraceBeginnings k_l20_few k_trace_Check k_trace_Chain k_l20_alive) (fx := fx_l20_TraceBeginnings) at_l20_TraceBeginnings (by kernel_rfl) (fun _ _ => trivial) (T := fun x => T_l20_TraceBeginnings x.1 x.2.1) (fun x => T_l20_TraceBeginnings_eq x.1 x.2.1) fun O w0 x _ _ => by
    obtain ⟨l0, n, ⟨⟩⟩ := x
    refine ⟨trivial, fun l hl => ⟨trivial, fun q hq => ?_⟩⟩
    have hlen : l.length ≤ 40 := by have hl : l = g_few l0 := hl; rw [hl]; exact few_len l0
    clear hl
    cases hr : runB l 0 bk0 with
    | inl i =>
      have hq : q = ((i : Int), (11 : Int), ()) := hq.trans (check_bad (by omega) hr)
      subst hq
      obtain ⟨_, h2, b', h3⟩ := run_bad hr
      rw [Nat.sub_zero] at h2 h3
      have ecut : minI (maxI ((i : Nat) : Int) 0) (lnx tNote l) = (i : Nat) := by rw [lnx_eq]; unfold minI maxI; split <;> split <;> omega
      refine ⟨fun _ => ⟨?_, trivial, fun q' hq' => ⟨trivial, fun b hb => ⟨_, rfl, ?_⟩⟩⟩, fun h => absurd (show true = false from h) (by decide)⟩
      · show cutOk 0 (minI (maxI ((i : Nat) : Int) 0) (lnx tNote l)) (lnx tNote l)
        rw [ecut]
        exact ⟨Int.le_refl _, Int.natCast_nonneg _, Int.ofNat_le.2 (by omega)⟩
      · have hcut : lCutx tNote l 0 (minI (maxI ((i : Nat) : Int) 0) (lnx tNote l)) = l.take i := by rw [ecut]; show (l.take i).drop 0 = _; rw [List.drop_zero]
        have hli : (l.take i).length = i := by rw [List.length_take]; omega
        have hq' : q' = ((i : Int), (0 : Int), ()) := hq'.trans (by
          show g_Check (lCutx tNote l 0 (minI (maxI ((i : Nat) : Int) 0) (lnx tNote l))) = _
          rw [hcut, check_ok (by omega) h3, hli])
        have hb : b = true := hb
        subst hb hq'
        show ((bif bif bif true then decide ((11 : Int) = 11) else false then decide ((0 : Int) = 0) else false then decide (((i : Nat) : Int) = (i : Nat)) else false), PUnit.unit) = (true, ())
        rw [decide_eq_true (rfl : ((i : Nat) : Int) = (i : Nat))]; rfl
    | inr b =>
      have hq : q = ((l.length : Int), (0 : Int), ()) := hq.trans (check_ok (by omega) hr)
      subst hq
      obtain ⟨a1, a2, a3⟩ := atK_spec (m := l.length) (by omega) n
      generalize atK l.length n = k at a1 a2
      have hlx : lnx tNote l = (l.length : Int) := rfl
      rw [hlx, a1, a3]
      have hnz : nz ((l.length + 1 : Nat) : Int) := by show ((l.length + 1 : Nat) : Int) ≠ 0; omega
      have hcut : lCutx tNote l 0 (k : Nat) = l.take k := by show (l.take k).drop 0 = _; rw [List.drop_zero]
      have hlk : (l.take k).length = k := by rw [List.length_take]; omega
      obtain ⟨b1, r1, _⟩ := run_take hr k
      refine ⟨fun h => absurd (show false = true from h) (by decide), fun _ => ⟨hnz, hnz, ⟨Int.le_refl _, Int.natCast_nonneg _, Int.ofNat_le.2 a2⟩, trivial, fun q' hq' => ?_⟩⟩
      have hq' : q' = ((k : Int), (0 : Int), ()) := hq'.trans (by rw [hcut, check_ok (by omega) r1, hlk])
      subst hq'
      refine ⟨fun _ => trivial, fun h => ?_, fun _ => ⟨trivial, fun c hc => ?_⟩⟩
      · have h : (bif (bif !decide ((0 : Int) = 0) then true else !decide (((k : Nat) : Int) = (k : Nat))) then true else !true) = true := h
        rw [decide_eq_true (rfl : ((k : Nat) : Int) = (k : Nat))] at h
        cases h
      · have hc : c = g_Chain l (k : Nat) := hc
        have hc : c = resChain l (k : Nat) (.inr b) := by rw [hc]; unfold g_Chain; rw [if_neg (by omega), hr]
        cases hbad : badAt l (k : Nat) with
        | true =>
          have hc : c = ([], 0, 6, ()) := hc.trans (if_pos hbad)
          subst hc
          exact ⟨fun _ => ⟨_, rfl, rfl⟩, fun h => absurd h (by decide)⟩
        | false =>
          have hc : c = ((walk b.1 b.1.length (wasN (el tNote l (k : Nat))) []).1.reverse, mpGet (k := tInt) (v := tInt) b.2.2.1 (walk b.1 b.1.length (wasN (el tNote l (k : Nat))) []).2, 0, ()) := hc.trans (if_neg (neT hbad))
          obtain ⟨_, hin⟩ := badAt_in' hbad
          have hkl : k < l.length := by have hin : ((k : Nat) : Int) < (l.length : Int) := hin; omega
          rw [el_at hkl] at hc
          have h4 : kdN l[k] = 4 := by
            unfold badAt at hbad
            rw [el_at hkl] at hbad
            cases h4 : decide (kdN l[k] = 4) with
            | true => exact of_decide_eq_true h4
            | false =>
              rw [h4] at hbad
              cases h5 : (bif decide (((k : Nat) : Int) < 0) then true else decide (lnx tNote l ≤ ((k : Nat) : Int))) <;> (rw [h5] at hbad; cases hbad)
          have hadm := chain_adm hr hkl h4
          subst hc
          refine ⟨fun h => absurd (show false = true from h) (by decide), fun _ => ?_⟩
          exact (gl_Begin_14 O w0 l k a2 (by omega) _ (by
            have h1 := walk_len b.1 b.1.length (wasN l[k]) []
            have h2 := run_len hr
            simp [bk0] at h1 h2 ⊢
            omega) (fun x hx => hadm x (List.mem_reverse.1 hx))).down 0 () (Nat.zero_le _) trivial

end Go.Proofs.Ytainieginijaaaa

/- What a letter caused; notes that are added. -/
namespace Go.Proofs.Ytainieginijaaaa
open Go Go.RowKit

abbrev hasW (m : List (Int × Int)) (n : Int) : Bool := mpHas (k := tInt) (v := tInt) m n
def cntF (n : Int) (m : List (Int × Lt)) : Int := ((m.filter fun e => decide (firstL e.2 = n)).length : Nat)
def resCost (n : Int) : Nat ⊕ Bk → Int × Int × Unit
  | .inl _ => (0, 11, ())
  | .inr b => if (!hasW b.2.2.1 n) = true then (0, 6, ()) else (cntF n b.1, 0, ())

theorem cnt_erase (p : Int × Lt → Bool) : ∀ (l : List (Int × Lt)) (q : Nat) (h : q < l.length), (l.filter p).length = ((l.eraseIdx q).filter p).length + (if p l[q] then 1 else 0)
  | x :: l, 0, h => by
    rw [List.eraseIdx_cons_zero, List.filter_cons]
    show _ = _ + (if p x then 1 else 0)
    split <;> simp
  | x :: l, q + 1, h => by
    have hq : q < l.length := by simpa using h
    have ih := cnt_erase p l q hq
    rw [List.eraseIdx_cons_succ, List.filter_cons, List.filter_cons]
    show _ = _ + (if p l[q] then 1 else 0)
    by_cases hp : p x = true
    · rw [if_pos hp, if_pos hp, List.length_cons, List.length_cons]; omega
    · rw [if_neg hp, if_neg hp]; exact ih

theorem gl_Cost_9 (O : Nat → Prop) (w0 : World) (no : Int) : ∀ (m : Nat) (left : List (Int × Lt)) (cnt : Int) (cur : Option (Int × Lt)), left.length = m → (0 ≤ cnt ∧ cnt + left.length ≤ 1000000) →
    GoodS prog X_trace_Cost (Cx.base O w0) (Ends prog O w0 rs_trace_Cost fun y => y = (cnt + cntF no left, (0 : Int), ())) [] fx_trace_Cost (lp f_trace_Cost 9) (E_trace_Cost_9 no cnt left cur)
  | 0, left, cnt, cur, hm, hc => goodS_of (x_trace_Cost k_slices_Contains_Trigger) (TL_trace_Cost_9_eq no cnt left cur) (by
      have e : left = [] := List.eq_nil_of_length_eq_zero hm
      subst e
      refine fun q _ => ⟨fun h => absurd (of_decide_eq_true h) (by decide), fun _ => ⟨_, rfl, ?_⟩⟩
      have e0 : cntF no [] = 0 := rfl
      rw [e0, Int.add_zero])
  | m + 1, left, cnt, cur, hm, hc => goodS_of (x_trace_Cost k_slices_Contains_Trigger) (TL_trace_Cost_9_eq no cnt left cur) (by
      refine fun q hq => ⟨fun _ => ?_, fun h => ?_⟩
      · have hq : q < left.length := by
          rcases hq with h | h
          · rw [h] at hm; cases hm
          · exact h
        have hl : (left.eraseIdx q).length = m := by rw [List.length_eraseIdx, if_pos hq]; omega
        have hget : left[q]? = some left[q] := List.getElem?_eq_getElem hq
        have hcnt := cnt_erase (fun e => decide (firstL e.2 = no)) left q hq
        rw [hget]
        refine ⟨rfl, fun h => ?_, fun h => ?_⟩
        · have h : decide (firstL left[q].2 = no) = true := h
          have e : cnt + cntF no left = (cnt + 1) + cntF no (left.eraseIdx q) := by
            unfold cntF
            rw [hcnt, if_pos h]; omega
          rw [e, small_i64 (n := cnt + 1) (by omega)]
          exact gl_Cost_9 O w0 no m (left.eraseIdx q) (cnt + 1) _ hl ⟨by omega, by omega⟩
        · have h : decide (firstL left[q].2 = no) = false := h
          have e : cnt + cntF no left = cnt + cntF no (left.eraseIdx q) := by
            unfold cntF
            rw [hcnt, if_neg (by rw [h]; simp)]; omega
          rw [e]
          exact gl_Cost_9 O w0 no m (left.eraseIdx q) cnt _ hl ⟨by omega, by omega⟩
      · exact absurd (show 0 < left.length by omega) (of_decide_eq_false h))

def gl_read_Cost (O : Nat → Prop) (w0 : World) (l : List Nt) (n : Int) (hl : l.length ≤ 1000) (R : Nat ⊕ Bk → den rs_trace_Cost) (hbad : ∀ i : Nat, R (.inl i) = ((0 : Int), (11 : Int), ())) (hR : ∀ b, R (.inr b) = resCost n (.inr b)) :=
  PLift.up <| range_ind (σ := Bk) l.length (fun i b => b.2.1.length ≤ i ∧ runB (l.take i) 0 bk0 = .inr b)
    (fun i b => GoodS prog X_trace_Cost (Cx.base O w0) (Ends prog O w0 rs_trace_Cost fun y => y = R (runB (l.drop i) i b)) (Q_trace_Cost_trace_read_5 l n l l (lnx tNote l) (i : Nat) b.2.2.2 b.1 b.2.1 b.2.2.1) fx_trace_read (lp f_trace_read 5) (E_trace_Cost_trace_read_5 l n l l (lnx tNote l) (i : Nat) b.2.2.2 b.1 b.2.1 b.2.2.1))
    (fun i b hi hb ih => goodS_of (x_trace_Cost k_slices_Contains_Trigger) (TL_trace_Cost_trace_read_5_eq l n l l _ _ b.2.2.2 b.1 b.2.1 b.2.2.1) (by
      have e : runB (l.drop i) i b = match stepB (decide (i = 0)) b l[i] with | none => .inl i | some b' => runB (l.drop (i + 1)) (i + 1) b' := by
        rw [List.drop_eq_getElem_cons hi]; rfl
      obtain ⟨hb1, hb2⟩ := hb
      have e2 : ∀ b', stepB (decide (i = 0)) b l[i] = some b' → runB (l.take (i + 1)) 0 bk0 = .inr b' := fun b' h => by
        rw [List.take_succ_eq_append_getElem hi, runB_append, hb2, List.length_take, Nat.min_eq_left (by omega), Nat.zero_add]
        show runB [l[i]] i b = _
        rw [runB, h]; rfl
      refine ⟨fun _ => ⟨inB_of hi, ?_⟩, fun h => ?_⟩
      · rw [el_at hi, wr_idx hi (by omega)]
        generalize l[i] = x at e e2 ⊢
        have bad : stepB (decide (i = 0)) b x = none → ((0 : Int), (11 : Int), ()) = R (runB (l.drop i) i b) := fun h => by rw [e, h]; exact (hbad i).symm
        have good : ∀ b', stepB (decide (i = 0)) b x = some b' → b'.2.1.length ≤ i + 1 → GoodS prog X_trace_Cost (Cx.base O w0) (Ends prog O w0 rs_trace_Cost fun y => y = R (runB (l.drop i) i b)) (Q_trace_Cost_trace_read_5 l n l l (lnx tNote l) ((i + 1 : Nat) : Int) b'.2.2.2 b'.1 b'.2.1 b'.2.2.1) fx_trace_read (lp f_trace_read 5)
            (E_trace_Cost_trace_read_5 l n l l (lnx tNote l) ((i + 1 : Nat) : Int) b'.2.2.2 b'.1 b'.2.1 b'.2.2.1) := fun b' h hI => by rw [e, h]; exact ih b' ⟨hI, e2 b' h⟩
        have hm : ∀ z : Tr, (b.2.1 ++ [z]).length ≤ most := fun z => by simp [most]; omega
        have hc : b.2.1.length ≤ 1000000 := by omega
        have h1' : ∀ z : Tr, (b.2.1 ++ [z]).length ≤ i + 1 := fun z => by rw [List.length_append]; exact Nat.add_le_add_right hb1 1
        have h0' : b.2.1.length ≤ i + 1 := by omega
        refine ⟨fun h0 => ?_, fun h0 => ?_⟩
        · have hf : decide (i = 0) = true := decide_eq_true (by have h0 : ((i : Nat) : Int) = 0 := of_decide_eq_true h0; omega)
          rw [hf] at bad good
          refine ⟨fun a1 => ⟨fun _ => ⟨fun _ => ⟨_, rfl, (bad (if_pos a1))⟩, fun h => absurd h (by decide)⟩, fun h => absurd h (by decide)⟩, fun a1 => ⟨fun a2 => ⟨fun a3 => ⟨fun _ => ⟨_, rfl, (bad ((if_neg (neT a1)).trans ((if_pos a2).trans (if_pos a3))))⟩, fun h => absurd h (by decide)⟩, fun a3 => good (mpSet (k := tInt) (v := tTraceLetter) b.1 (ltN x) (dtN x, (0 : Int), zero tTrigger, ltN x, ()), b.2.1, mpSet (k := tInt) (v := tInt) b.2.2.1 (ltN x) (noN x), atN x) ((if_neg (neT a1)).trans ((if_pos a2).trans (if_neg (neT a3)))) h0'⟩,
            fun a2 => ⟨fun a3 => ⟨hm _, fun h => absurd h (by decide), fun _ => good (b.1, b.2.1 ++ [trN x], b.2.2.1, atN x) ((if_neg (neT a1)).trans ((if_neg (neT a2)).trans (if_pos a3))) (h1' _)⟩,
              fun a3 => ⟨fun a4 => ⟨hc, fun q hq => by
                  have hq : q = g_has b.2.1 (trN x) := hq
                  subst hq
                  exact ⟨fun a5 => ⟨fun _ => ⟨_, rfl, (bad ((if_neg (neT a1)).trans ((if_neg (neT a2)).trans ((if_neg (neT a3)).trans ((if_pos a4).trans (if_pos a5))))))⟩, fun h => absurd h (by decide)⟩, fun a5 => good (mpSet (k := tInt) (v := tTraceLetter) b.1 (ltN x) ((mpGet (k := tInt) (v := tTraceLetter) b.1 (wasN x)).1, wasN x, trN x, (mpGet (k := tInt) (v := tTraceLetter) b.1 (wasN x)).2.2.2.1, ()), b.2.1, b.2.2.1, atN x) ((if_neg (neT a1)).trans ((if_neg (neT a2)).trans ((if_neg (neT a3)).trans ((if_pos a4).trans (if_neg (neT a5)))))) h0'⟩⟩,
                fun a4 => ⟨fun a5 => ⟨fun a6 => ⟨fun _ => ⟨_, rfl, (bad ((if_neg (neT a1)).trans ((if_neg (neT a2)).trans ((if_neg (neT a3)).trans ((if_neg (neT a4)).trans ((if_pos a5).trans (if_pos a6)))))))⟩, fun h => absurd h (by decide)⟩, fun a6 => good (b.1, b.2.1, b.2.2.1, atN x) ((if_neg (neT a1)).trans ((if_neg (neT a2)).trans ((if_neg (neT a3)).trans ((if_neg (neT a4)).trans ((if_pos a5).trans (if_neg (neT a6))))))) h0'⟩,
                  fun a5 => ⟨fun a6 => ⟨fun _ => ⟨_, rfl, (bad ((if_neg (neT a1)).trans ((if_neg (neT a2)).trans ((if_neg (neT a3)).trans ((if_neg (neT a4)).trans ((if_neg (neT a5)).trans (if_pos a6)))))))⟩, fun h => absurd h (by decide)⟩, fun a6 => good (b.1, b.2.1, b.2.2.1, atN x) ((if_neg (neT a1)).trans ((if_neg (neT a2)).trans ((if_neg (neT a3)).trans ((if_neg (neT a4)).trans ((if_neg (neT a5)).trans (if_neg (neT a6))))))) h0'⟩⟩⟩⟩⟩⟩
        · have hf : decide (i = 0) = false := decide_eq_false (by have h0 : ¬ ((i : Nat) : Int) = 0 := of_decide_eq_false h0; omega)
          rw [hf] at bad good
          refine ⟨fun a1 => ⟨fun _ => ⟨fun _ => ⟨_, rfl, (bad (if_pos a1))⟩, fun h => absurd h (by decide)⟩, fun h => absurd h (by decide)⟩, fun a1 => ⟨fun a2 => ⟨fun a3 => ⟨fun _ => ⟨_, rfl, (bad ((if_neg (neT a1)).trans ((if_pos a2).trans (if_pos a3))))⟩, fun h => absurd h (by decide)⟩, fun a3 => good (mpSet (k := tInt) (v := tTraceLetter) b.1 (ltN x) (dtN x, (0 : Int), zero tTrigger, ltN x, ()), b.2.1, mpSet (k := tInt) (v := tInt) b.2.2.1 (ltN x) (noN x), atN x) ((if_neg (neT a1)).trans ((if_pos a2).trans (if_neg (neT a3)))) h0'⟩,
            fun a2 => ⟨fun a3 => ⟨hm _, fun h => absurd h (by decide), fun _ => good (b.1, b.2.1 ++ [trN x], b.2.2.1, atN x) ((if_neg (neT a1)).trans ((if_neg (neT a2)).trans (if_pos a3))) (h1' _)⟩,
              fun a3 => ⟨fun a4 => ⟨hc, fun q hq => by
                  have hq : q = g_has b.2.1 (trN x) := hq
                  subst hq
                  exact ⟨fun a5 => ⟨fun _ => ⟨_, rfl, (bad ((if_neg (neT a1)).trans ((if_neg (neT a2)).trans ((if_neg (neT a3)).trans ((if_pos a4).trans (if_pos a5))))))⟩, fun h => absurd h (by decide)⟩, fun a5 => good (mpSet (k := tInt) (v := tTraceLetter) b.1 (ltN x) ((mpGet (k := tInt) (v := tTraceLetter) b.1 (wasN x)).1, wasN x, trN x, (mpGet (k := tInt) (v := tTraceLetter) b.1 (wasN x)).2.2.2.1, ()), b.2.1, b.2.2.1, atN x) ((if_neg (neT a1)).trans ((if_neg (neT a2)).trans ((if_neg (neT a3)).trans ((if_pos a4).trans (if_neg (neT a5)))))) h0'⟩⟩,
                fun a4 => ⟨fun a5 => ⟨fun a6 => ⟨fun _ => ⟨_, rfl, (bad ((if_neg (neT a1)).trans ((if_neg (neT a2)).trans ((if_neg (neT a3)).trans ((if_neg (neT a4)).trans ((if_pos a5).trans (if_pos a6)))))))⟩, fun h => absurd h (by decide)⟩, fun a6 => good (b.1, b.2.1, b.2.2.1, atN x) ((if_neg (neT a1)).trans ((if_neg (neT a2)).trans ((if_neg (neT a3)).trans ((if_neg (neT a4)).trans ((if_pos a5).trans (if_neg (neT a6))))))) h0'⟩,
                  fun a5 => ⟨fun a6 => ⟨fun _ => ⟨_, rfl, (bad ((if_neg (neT a1)).trans ((if_neg (neT a2)).trans ((if_neg (neT a3)).trans ((if_neg (neT a4)).trans ((if_neg (neT a5)).trans (if_pos a6)))))))⟩, fun h => absurd h (by decide)⟩, fun a6 => good (b.1, b.2.1, b.2.2.1, atN x) ((if_neg (neT a1)).trans ((if_neg (neT a2)).trans ((if_neg (neT a3)).trans ((if_neg (neT a4)).trans ((if_neg (neT a5)).trans (if_neg (neT a6))))))) h0'⟩⟩⟩⟩⟩⟩
      · rw [lnx_nat] at h
        exact absurd hi (of_decide_eq_false h)))
    (fun b hb => goodS_of (x_trace_Cost k_slices_Contains_Trigger) (TL_trace_Cost_trace_read_5_eq l n l l _ _ b.2.2.2 b.1 b.2.1 b.2.2.1) (by
      refine ⟨fun h => ?_, fun _ => ?_⟩
      · rw [lnx_nat] at h
        exact absurd (of_decide_eq_true h) (Nat.lt_irrefl _)
      · have e : runB (l.drop l.length) l.length b = .inr b := by rw [List.drop_length, runB]
        rw [e]
        obtain ⟨_, hb2⟩ := hb
        rw [List.take_length] at hb2
        have hb2 : runB l 0 bk0 = .inr b := hb2
        have eR1 : (!hasW b.2.2.1 n) = true → R (.inr b) = ((0 : Int), (6 : Int), ()) := fun h => (hR b).trans (if_pos h)
        have eR2 : (!hasW b.2.2.1 n) = false → R (.inr b) = (cntF n b.1, (0 : Int), ()) := fun h => (hR b).trans (if_neg (neT h))
        refine ⟨fun h => absurd h (by decide), fun _ => ⟨fun h => ⟨_, rfl, (eR1 h).symm⟩, fun h => ?_⟩⟩
        rw [eR2 h]
        have := gl_Cost_9 O w0 n b.1.length b.1 0 none rfl ⟨by omega, by have := run_len hb2; simp [bk0] at this ⊢; omega⟩
        rw [Int.zero_add] at this
        exact this))


def g_Cost (l : List Nt) (n : Int) : Int × Int × Unit := if 1000 < l.length then (0, 2, ()) else resCost n (runB l 0 bk0)
noncomputable abbrev S_trace_Cost : Spec := ⟨as_trace_Cost, rs_trace_Cost, fun x => g_Cost x.1 x.2.1, fun _ => True, true⟩
theorem k_trace_Cost : FnOk prog [] n_trace_Cost S_trace_Cost :=
  fnS_T (S := S_trace_Cost) (x_trace_Cost k_slices_Contains_Trigger) (fx := fx_trace_Cost) at_trace_Cost (by kernel_rfl) (fun _ _ => trivial) (T := fun x => T_trace_Cost x.1 x.2.1) (fun x => T_trace_Cost_eq x.1 x.2.1) fun O w0 x _ _ => by
    obtain ⟨l, n, ⟨⟩⟩ := x
    refine ⟨fun h => ⟨fun _ => ⟨_, rfl, ?_⟩, fun h => absurd h (by decide)⟩, fun h => ?_⟩
    · have h : (1000 : Int) < l.length := of_decide_eq_true h
      show ((0 : Int), (2 : Int), ()) = g_Cost l n
      unfold g_Cost
      rw [if_pos (by omega)]
    · have h : ¬ (1000 : Int) < l.length := of_decide_eq_false h
      have := (gl_read_Cost O w0 l n (by omega) (resCost n) (fun _ => rfl) (fun _ => rfl)).down 0 bk0 (Nat.zero_le _) ⟨Nat.le_refl _, rfl⟩
      rw [List.drop_zero] at this
      have e : g_Cost l n = resCost n (runB l 0 bk0) := by unfold g_Cost; rw [if_neg (by omega)]
      show GoodS prog X_trace_Cost (Cx.base O w0) (Ends prog O w0 rs_trace_Cost fun y => y = g_Cost l n) _ _ _ _
      rw [e]
      exact this

end Go.Proofs.Ytainieginijaaaa

/- What a letter's data, first and chain are, by the reference: with so much fuel. -/
namespace Go.Proofs.Ytainieginijaaaa
open Go Go.RowKit

/-- The note of a letter's birth. -/
def bornAt (l : List Nt) (n : Int) : Option Nt := if 0 ≤ birthN n l 0 then some (el tNote l (birthN n l 0)) else none

def dataR (l : List Nt) : Nat → Int → Option ByteArray
  | 0, _ => none
  | k + 1, n => match bornAt l n with
    | some y => if decide (kdN y = 1) = true then some (dtN y) else dataR l k (wasN y)
    | none => none
def firstR (l : List Nt) : Nat → Int → Option Int
  | 0, _ => none
  | k + 1, n => match bornAt l n with
    | some y => if decide (kdN y = 1) = true then some n else firstR l k (wasN y)
    | none => none
def chainR (l : List Nt) : Nat → Int → Option (List Tr)
  | 0, _ => none
  | k + 1, n => match bornAt l n with
    | some y => if decide (kdN y = 1) = true then some [] else match chainR l k (wasN y) with
      | some c => some (if trN y = zero tTrigger then c else c ++ [trN y])
      | none => none
    | none => none

def g_Data (l : List Nt) (k : Nat) (n : Int) : ByteArray := (dataR l k n).getD ByteArray.empty
def g_First (l : List Nt) (k : Nat) (n : Int) : Int := (firstR l k n).getD 0
def g_ChainR (l : List Nt) (k : Nat) (n : Int) : List Tr := (chainR l k n).getD []

noncomputable abbrev S_r20_Data (k : Nat) : Spec := ⟨as_r20_Data, rs_r20_Data, fun x => (g_Data x.1 k x.2.1, ()), fun x => x.1.length ≤ 1000 ∧ (dataR x.1 k x.2.1).isSome = true, false⟩
noncomputable abbrev S_r20_First (k : Nat) : Spec := ⟨as_r20_First, rs_r20_First, fun x => (g_First x.1 k x.2.1, ()), fun x => x.1.length ≤ 1000 ∧ (firstR x.1 k x.2.1).isSome = true, false⟩
noncomputable abbrev S_r20_Chain (k : Nat) : Spec := ⟨as_r20_Chain, rs_r20_Chain, fun x => (g_ChainR x.1 k x.2.1, ()), fun x => x.1.length ≤ 1000 ∧ (chainR x.1 k x.2.1).isSome = true, false⟩

end Go.Proofs.Ytainieginijaaaa

/- The trees of functions' bodies, as the evaluator prints them. -/
namespace Go.Proofs.Ytainieginijaaaa
open Go Go.RowKit

noncomputable abbrev fx_r20_Data : Fx := { fn := f_r20_Data, ann := { } }
noncomputable abbrev X_r20_Data (k : Nat) : TabX := { D := { T := tyTab, F := [(n_r20_Birth, S_r20_Birth), (n_r20_Data, S_r20_Data k)], R := [], ovl := [] }, inl := [] }
noncomputable abbrev M_r20_Data : RMode := .data rs_r20_Data
theorem x_r20_Data (k : Nat) (h_r20_Birth : FnOk prog [] n_r20_Birth S_r20_Birth) (h_r20_Data : FnOk prog [] n_r20_Data (S_r20_Data k)) : XOk prog (X_r20_Data k) := xok (dok_add (dok_add (dok_nil tab_ok mixed_ok) h_r20_Data) h_r20_Birth) (by kernel_rfl) rows_nil inl_nil ovl_nil
noncomputable def T_r20_Data (k : Nat) (l : den (Ty.slc tNote)) (n : den tInt) : TreeS :=
  TreeS.req (List.length l ≤ 1000000)
  (TreeS.req (inB (birthN n l 0) (lnx tNote l))
    (TreeS.ite (decide (Prod.fst (el tNote l (birthN n l 0)) = 1))
      (TreeS.ret
        (K.val (Ty.pair Ty.str Ty.unit)
          (Prod.fst (Prod.snd (Prod.snd (Prod.snd (Prod.snd (Prod.snd (Prod.snd (el tNote l (birthN n l 0)))))))),
            PUnit.unit)))
      (TreeS.req
        (List.length l ≤ 1000 ∧
          Option.isSome (dataR l k (Prod.fst (Prod.snd (Prod.snd (Prod.snd (el tNote l (birthN n l 0))))))) = true)
        (TreeS.ret
          (K.val (Ty.pair Ty.str Ty.unit)
            (g_Data l k (Prod.fst (Prod.snd (Prod.snd (Prod.snd (el tNote l (birthN n l 0)))))), PUnit.unit))))))
theorem T_r20_Data_eq (k : Nat) (l : den (Ty.slc tNote)) (n : den tInt) : treeS (X_r20_Data k) M_r20_Data 5000 [] fx_r20_Data (bodyOf f_r20_Data) (Env.of
  (argEnv as_r20_Data (l, n, ()) 0) []) = T_r20_Data k l n := by kernel_rfl

noncomputable abbrev fx_r20_First : Fx := { fn := f_r20_First, ann := { } }
noncomputable abbrev X_r20_First (k : Nat) : TabX := { D := { T := tyTab, F := [(n_r20_Birth, S_r20_Birth), (n_r20_First, S_r20_First k)], R := [], ovl := [] }, inl := [] }
noncomputable abbrev M_r20_First : RMode := .data rs_r20_First
theorem x_r20_First (k : Nat) (h_r20_Birth : FnOk prog [] n_r20_Birth S_r20_Birth) (h_r20_First : FnOk prog [] n_r20_First (S_r20_First k)) : XOk prog (X_r20_First k) := xok (dok_add (dok_add (dok_nil tab_ok mixed_ok) h_r20_First) h_r20_Birth) (by kernel_rfl) rows_nil inl_nil ovl_nil
noncomputable def T_r20_First (k : Nat) (l : den (Ty.slc tNote)) (n : den tInt) : TreeS :=
  TreeS.req (List.length l ≤ 1000000)
  (TreeS.req (inB (birthN n l 0) (lnx tNote l))
    (TreeS.ite (decide (Prod.fst (el tNote l (birthN n l 0)) = 1))
      (TreeS.ret (K.val (Ty.pair tInt Ty.unit) (n, PUnit.unit)))
      (TreeS.req
        (List.length l ≤ 1000 ∧
          Option.isSome (firstR l k (Prod.fst (Prod.snd (Prod.snd (Prod.snd (el tNote l (birthN n l 0))))))) = true)
        (TreeS.ret
          (K.val (Ty.pair tInt Ty.unit)
            (g_First l k (Prod.fst (Prod.snd (Prod.snd (Prod.snd (el tNote l (birthN n l 0)))))), PUnit.unit))))))
theorem T_r20_First_eq (k : Nat) (l : den (Ty.slc tNote)) (n : den tInt) : treeS (X_r20_First k) M_r20_First 5000 [] fx_r20_First (bodyOf f_r20_First) (Env.of
  (argEnv as_r20_First (l, n, ()) 0) []) = T_r20_First k l n := by kernel_rfl

noncomputable abbrev fx_r20_Chain : Fx := { fn := f_r20_Chain, ann := { }, own := [17, 23, 34] }
noncomputable abbrev X_r20_Chain (k : Nat) : TabX := { D := { T := tyTab, F := [(n_r20_Birth, S_r20_Birth), (n_r20_Chain, S_r20_Chain k)], R := [], ovl := [] }, inl := [] }
noncomputable abbrev M_r20_Chain : RMode := .data rs_r20_Chain
theorem x_r20_Chain (k : Nat) (h_r20_Birth : FnOk prog [] n_r20_Birth S_r20_Birth) (h_r20_Chain : FnOk prog [] n_r20_Chain (S_r20_Chain k)) : XOk prog (X_r20_Chain k) := xok (dok_add (dok_add (dok_nil tab_ok mixed_ok) h_r20_Chain) h_r20_Birth) (by kernel_rfl) rows_nil inl_nil ovl_nil
noncomputable def T_r20_Chain (k : Nat) (l : den (Ty.slc tNote)) (n : den tInt) : TreeS :=
  TreeS.req (List.length l ≤ 1000000)
  (TreeS.req (inB (birthN n l 0) (lnx tNote l))
    (TreeS.ite (decide (Prod.fst (el tNote l (birthN n l 0)) = 1))
      (TreeS.ret (K.val (Ty.pair (Ty.slc tTrigger) Ty.unit) ([], PUnit.unit)))
      (TreeS.req
        (List.length l ≤ 1000 ∧
          Option.isSome (chainR l k (Prod.fst (Prod.snd (Prod.snd (Prod.snd (el tNote l (birthN n l 0))))))) = true)
        (TreeS.req
          (List.length
              (List.replicate 0 (zero tTrigger) ++
                g_ChainR l k (Prod.fst (Prod.snd (Prod.snd (Prod.snd (el tNote l (birthN n l 0))))))) ≤
            most)
          (TreeS.ite
            (!eqb tTrigger (Prod.fst (Prod.snd (Prod.snd (Prod.snd (Prod.snd (Prod.snd (el tNote l (birthN n l 0))))))))
                (zero (Ty.pair tId (Ty.pair tEntry (Ty.pair tInt Ty.unit)))))
            (TreeS.req
              (List.length
                  (List.replicate 0 (zero tTrigger) ++
                      g_ChainR l k (Prod.fst (Prod.snd (Prod.snd (Prod.snd (el tNote l (birthN n l 0)))))) ++
                    List.set (List.replicate 1 (zero tTrigger)) 0
                      (Prod.fst (Prod.snd (Prod.snd (Prod.snd (Prod.snd (Prod.snd (el tNote l (birthN n l 0))))))))) ≤
                most)
              (TreeS.ret
                (K.val (Ty.pair (Ty.slc tTrigger) Ty.unit)
                  (List.replicate 0 (zero tTrigger) ++
                        g_ChainR l k (Prod.fst (Prod.snd (Prod.snd (Prod.snd (el tNote l (birthN n l 0)))))) ++
                      List.set (List.replicate 1 (zero tTrigger)) 0
                        (Prod.fst (Prod.snd (Prod.snd (Prod.snd (Prod.snd (Prod.snd (el tNote l (birthN n l 0)))))))),
                    PUnit.unit))))
            (TreeS.ret
              (K.val (Ty.pair (Ty.slc tTrigger) Ty.unit)
                (List.replicate 0 (zero tTrigger) ++
                    g_ChainR l k (Prod.fst (Prod.snd (Prod.snd (Prod.snd (el tNote l (birthN n l 0)))))),
                  PUnit.unit))))))))
theorem T_r20_Chain_eq (k : Nat) (l : den (Ty.slc tNote)) (n : den tInt) : treeS (X_r20_Chain k) M_r20_Chain 5000 [] fx_r20_Chain (bodyOf f_r20_Chain) (Env.of
  (argEnv as_r20_Chain (l, n, ()) 0) []) = T_r20_Chain k l n := by kernel_rfl

end Go.Proofs.Ytainieginijaaaa

/- The reference's recursive functions. -/
namespace Go.Proofs.Ytainieginijaaaa
open Go Go.RowKit

theorem born_le (n : Int) : ∀ (l : List Nt) (i : Nat), birthN n l i = -1 ∨ ((i : Int) ≤ birthN n l i ∧ birthN n l i < i + l.length)
  | [], i => .inl rfl
  | x :: l, i => by
    rw [birthN]
    split
    · right
      rw [List.length_cons]
      omega
    · rcases born_le n l (i + 1) with h | h
      · exact .inl h
      · right
        rw [List.length_cons]
        omega

theorem born_in {l : List Nt} {n : Int} {y : Nt} (h : bornAt l n = some y) : inB (birthN n l 0) (lnx tNote l) ∧ el tNote l (birthN n l 0) = y := by
  unfold bornAt at h
  split at h
  · rename_i h0
    refine ⟨⟨h0, ?_⟩, Option.some.inj h⟩
    show birthN n l 0 < (l.length : Int)
    rcases born_le n l 0 with h1 | h1
    · rw [h1] at h0; exact absurd h0 (by decide)
    · omega
  · cases h

theorem can_r20_Data : callable prog n_r20_Data := callable_of (fn := f_r20_Data) at_r20_Data (by kernel_rfl) (by kernel_rfl)
theorem can_r20_First : callable prog n_r20_First := callable_of (fn := f_r20_First) at_r20_First (by kernel_rfl) (by kernel_rfl)
theorem can_r20_Chain : callable prog n_r20_Chain := callable_of (fn := f_r20_Chain) at_r20_Chain (by kernel_rfl) (by kernel_rfl)

theorem k_r20_First : ∀ k : Nat, FnOk prog [] n_r20_First (S_r20_First k)
  | 0 => ⟨can_r20_First, fun h => (by cases h), fun O w vs x _ _ _ hp => absurd (show (firstR x.1 0 x.2.1).isSome = true from hp.2) (fun h => by cases h)⟩
  | k + 1 => fnS_T (S := S_r20_First (k + 1)) (x_r20_First k k_r20_Birth (k_r20_First k)) (fx := fx_r20_First) at_r20_First (by kernel_rfl) (fun h => by cases h) (T := fun x => T_r20_First k x.1 x.2.1) (fun x => T_r20_First_eq k x.1 x.2.1) fun O w0 x _ hp => by
    obtain ⟨l, n, ⟨⟩⟩ := x
    obtain ⟨hl, hs⟩ := hp
    have hl : l.length ≤ 1000 := hl
    have hs : (firstR l (k + 1) n).isSome = true := hs
    show TreeGoodS _ _ _ _ _ (T_r20_First k l n)
    refine ⟨by omega, ?_⟩
    have hg : g_First l (k + 1) n = (firstR l (k + 1) n).getD 0 := rfl
    show inB (birthN n l 0) (lnx tNote l) ∧ _
    rw [firstR] at hs hg
    cases hb : bornAt l n with
    | none => rw [hb] at hs; cases hs
    | some y =>
      rw [hb] at hs hg
      obtain ⟨h1, h2⟩ := born_in hb
      refine ⟨h1, ?_⟩
      rw [h2]
      refine ⟨fun h => ⟨_, rfl, ?_⟩, fun h => ?_⟩
      · have h : decide (kdN y = 1) = true := h
        show (n, ()) = (g_First l (k + 1) n, ())
        rw [hg]
        simp only [h, if_true]
        rfl
      · have h : decide (kdN y = 1) = false := h
        simp only [h, Bool.false_eq_true, if_false] at hs hg
        refine ⟨⟨hl, hs⟩, _, rfl, ?_⟩
        show (g_First l k (wasN y), ()) = (g_First l (k + 1) n, ())
        rw [hg]
        rfl

theorem k_r20_Data : ∀ k : Nat, FnOk prog [] n_r20_Data (S_r20_Data k)
  | 0 => ⟨can_r20_Data, fun h => (by cases h), fun O w vs x _ _ _ hp => absurd (show (dataR x.1 0 x.2.1).isSome = true from hp.2) (fun h => by cases h)⟩
  | k + 1 => fnS_T (S := S_r20_Data (k + 1)) (x_r20_Data k k_r20_Birth (k_r20_Data k)) (fx := fx_r20_Data) at_r20_Data (by kernel_rfl) (fun h => by cases h) (T := fun x => T_r20_Data k x.1 x.2.1) (fun x => T_r20_Data_eq k x.1 x.2.1) fun O w0 x _ hp => by
    obtain ⟨l, n, ⟨⟩⟩ := x
    obtain ⟨hl, hs⟩ := hp
    have hl : l.length ≤ 1000 := hl
    have hs : (dataR l (k + 1) n).isSome = true := hs
    show TreeGoodS _ _ _ _ _ (T_r20_Data k l n)
    refine ⟨by omega, ?_⟩
    have hg : g_Data l (k + 1) n = (dataR l (k + 1) n).getD ByteArray.empty := rfl
    show inB (birthN n l 0) (lnx tNote l) ∧ _
    rw [dataR] at hs hg
    cases hb : bornAt l n with
    | none => rw [hb] at hs; cases hs
    | some y =>
      rw [hb] at hs hg
      obtain ⟨h1, h2⟩ := born_in hb
      refine ⟨h1, ?_⟩
      rw [h2]
      refine ⟨fun h => ⟨_, rfl, ?_⟩, fun h => ?_⟩
      · have h : decide (kdN y = 1) = true := h
        show (dtN y, ()) = (g_Data l (k + 1) n, ())
        rw [hg]
        simp only [h, if_true]
        rfl
      · have h : decide (kdN y = 1) = false := h
        simp only [h, Bool.false_eq_true, if_false] at hs hg
        refine ⟨⟨hl, hs⟩, _, rfl, ?_⟩
        show (g_Data l k (wasN y), ()) = (g_Data l (k + 1) n, ())
        rw [hg]
        rfl

theorem chainR_len (l : List Nt) : ∀ (k : Nat) (n : Int), ((chainR l k n).getD []).length ≤ k
  | 0, n => Nat.le_refl _
  | k + 1, n => by
    rw [chainR]
    split
    · rename_i y hb
      split
      · exact Nat.zero_le _
      · have ih := chainR_len l k (wasN y)
        split
        · rename_i c hc
          rw [hc] at ih
          have ih : c.length ≤ k := ih
          show (if trN y = zero tTrigger then c else c ++ [trN y]).length ≤ k + 1
          split
          · omega
          · rw [List.length_append, List.length_singleton]; omega
        · exact Nat.zero_le _
    · exact Nat.zero_le _

theorem k_r20_Chain : ∀ k : Nat, k ≤ 10000 → FnOk prog [] n_r20_Chain (S_r20_Chain k)
  | 0, _ => ⟨can_r20_Chain, fun h => (by cases h), fun O w vs x _ _ _ hp => absurd (show (chainR x.1 0 x.2.1).isSome = true from hp.2) (fun h => by cases h)⟩
  | k + 1, hk => fnS_T (S := S_r20_Chain (k + 1)) (x_r20_Chain k k_r20_Birth (k_r20_Chain k (by omega))) (fx := fx_r20_Chain) at_r20_Chain (by kernel_rfl) (fun h => by cases h) (T := fun x => T_r20_Chain k x.1 x.2.1) (fun x => T_r20_Chain_eq k x.1 x.2.1) fun O w0 x _ hp => by
    obtain ⟨l, n, ⟨⟩⟩ := x
    obtain ⟨hl, hs⟩ := hp
    have hl : l.length ≤ 1000 := hl
    have hs : (chainR l (k + 1) n).isSome = true := hs
    show TreeGoodS _ _ _ _ _ (T_r20_Chain k l n)
    refine ⟨by omega, ?_⟩
    have hg : g_ChainR l (k + 1) n = (chainR l (k + 1) n).getD [] := rfl
    show inB (birthN n l 0) (lnx tNote l) ∧ _
    rw [chainR] at hs hg
    cases hb : bornAt l n with
    | none => rw [hb] at hs; cases hs
    | some y =>
      rw [hb] at hs hg
      obtain ⟨h1, h2⟩ := born_in hb
      refine ⟨h1, ?_⟩
      rw [h2]
      refine ⟨fun h => ⟨_, rfl, ?_⟩, fun h => ?_⟩
      · have h : decide (kdN y = 1) = true := h
        show ([], ()) = (g_ChainR l (k + 1) n, ())
        rw [hg]
        simp only [h, if_true]
        rfl
      · have h : decide (kdN y = 1) = false := h
        simp only [h, Bool.false_eq_true, if_false] at hs hg
        cases hc : chainR l k (wasN y) with
        | none => rw [hc] at hs; cases hs
        | some c =>
          rw [hc] at hg
          have hg : g_ChainR l (k + 1) n = if trN y = zero tTrigger then c else c ++ [trN y] := hg
          have hgk : g_ChainR l k (wasN y) = c := by unfold g_ChainR; rw [hc]; rfl
          have hlen := chainR_len l k (wasN y)
          rw [hc] at hlen
          have hlen : c.length ≤ k := hlen
          refine ⟨⟨hl, rfl⟩, ?_⟩
          show (g_ChainR l k (wasN y)).length ≤ most ∧ _
          rw [show (Prod.fst (Prod.snd (Prod.snd (Prod.snd y)))) = wasN y from rfl, hgk, eqb_tr]
          refine ⟨by unfold most; omega, fun h => ⟨?_, _, rfl, ?_⟩, fun h => ⟨_, rfl, ?_⟩⟩
          · show (c ++ [trN y]).length ≤ most
            unfold most; rw [List.length_append, List.length_singleton]; omega
          · have h : (!decide (trN y = zero tTrigger)) = true := h
            have h : ¬ trN y = zero tTrigger := by simpa using h
            show (c ++ [trN y], ()) = (g_ChainR l (k + 1) n, ())
            rw [hg, if_neg h]
          · have h : (!decide (trN y = zero tTrigger)) = false := h
            have h : trN y = zero tTrigger := by simpa using h
            show (c, ()) = (g_ChainR l (k + 1) n, ())
            rw [hg, if_pos h]

end Go.Proofs.Ytainieginijaaaa

/- The trees of functions' bodies, as the evaluator prints them. -/
namespace Go.Proofs.Ytainieginijaaaa
open Go Go.RowKit

noncomputable abbrev fx_l20_TraceAdds : Fx := { fn := f_l20_TraceAdds, ann := { }, own := [63, 73, 126], share := true, shareD := true }
noncomputable abbrev X_l20_TraceAdds : TabX := { D := { T := tyTab, F := [(n_l20_few, S_l20_few), (n_trace_Check, S_trace_Check), (n_trace_Cost, S_trace_Cost), (n_l20_alive, S_l20_alive)], R := [], ovl := [] }, inl := [] }
noncomputable abbrev M_l20_TraceAdds : RMode := .data rs_l20_TraceAdds
theorem x_l20_TraceAdds (h_l20_few : FnOk prog [] n_l20_few S_l20_few) (h_trace_Check : FnOk prog [] n_trace_Check S_trace_Check) (h_trace_Cost : FnOk prog [] n_trace_Cost S_trace_Cost) (h_l20_alive : FnOk prog [] n_l20_alive S_l20_alive) : XOk prog X_l20_TraceAdds := xok (dok_add (dok_add (dok_add (dok_add (dok_nil tab_ok mixed_ok) h_l20_alive) h_trace_Cost) h_trace_Check) h_l20_few) (by kernel_rfl) rows_nil inl_nil ovl_nil
noncomputable def T_l20_TraceAdds (l : den (Ty.slc tNote)) (n : den tInt) (d : den Ty.str) : TreeS :=
  TreeS.req True
  (TreeS.req (cutOk 0 (minI (sLen d) 70) (sLen d))
    (TreeS.all (den (Ty.slc tNote)) (fun (q3 : den (Ty.slc tNote)) ↦ q3 = g_few l) fun (q3 : den (Ty.slc tNote)) ↦
      TreeS.all (den (Ty.slc tNote)) (fun (q4 : den (Ty.slc tNote)) ↦ q4 = g_few l) fun (q4 : den (Ty.slc tNote)) ↦
        TreeS.all (den Ty.str) (fun (q5 : den Ty.str) ↦ q5 = sCut d 0 (minI (sLen d) 70)) fun (q5 : den Ty.str) ↦
          TreeS.req True
            (TreeS.all (den (Ty.pair tInt (Ty.pair tInt Ty.unit)))
              (fun (q6 : den (Ty.pair tInt (Ty.pair tInt Ty.unit))) ↦ q6 = g_Check q4)
              fun (q6 : den (Ty.pair tInt (Ty.pair tInt Ty.unit))) ↦
              TreeS.ite (!decide (Prod.fst (Prod.snd q6) = 0))
                (TreeS.req True
                  (TreeS.all (den Ty.bool) (fun (q7 : den Ty.bool) ↦ q7 = true) fun (q7 : den Ty.bool) ↦
                    TreeS.ret
                      (K.val (Ty.pair Ty.bool Ty.unit)
                        (bif q7 then decide (Prod.fst (Prod.snd q6) = 11) else false, PUnit.unit))))
                (TreeS.ite (decide (0 < lnx tNote q4))
                  (TreeS.req (inB (IntKind.wrap IntKind.i64 (lnx tNote q4 - 1)) (lnx tNote q4))
                    (TreeS.req True
                      (TreeS.all (den (Ty.pair tInt (Ty.pair tInt Ty.unit)))
                        (fun (q7 : den (Ty.pair tInt (Ty.pair tInt Ty.unit))) ↦ q7 = g_Cost q4 n)
                        fun (q7 : den (Ty.pair tInt (Ty.pair tInt Ty.unit))) ↦
                        TreeS.req (List.length (List.replicate 0 (zero tNote) ++ q4) ≤ most)
                          (TreeS.req
                            (List.length
                                (List.replicate 0 (zero tNote) ++ q4 ++
                                  List.set (List.replicate 1 (zero tNote)) 0
                                    (4, Prod.fst (Prod.snd (el tNote q4 (IntKind.wrap IntKind.i64 (lnx tNote q4 - 1)))),
                                      Prod.fst
                                        (Prod.snd
                                          (Prod.snd
                                            (zero
                                              (Ty.pair tInt
                                                (Ty.pair tInt
                                                  (Ty.pair tInt
                                                    (Ty.pair tInt
                                                      (Ty.pair tInt
                                                        (Ty.pair tTrigger
                                                          (Ty.pair Ty.str (Ty.pair tInt Ty.unit))))))))))),
                                      n,
                                      Prod.fst
                                        (Prod.snd
                                          (Prod.snd
                                            (Prod.snd
                                              (Prod.snd
                                                (zero
                                                  (Ty.pair tInt
                                                    (Ty.pair tInt
                                                      (Ty.pair tInt
                                                        (Ty.pair tInt
                                                          (Ty.pair tInt
                                                            (Ty.pair tTrigger
                                                              (Ty.pair Ty.str (Ty.pair tInt Ty.unit))))))))))))),
                                      Prod.fst
                                        (Prod.snd
                                          (Prod.snd
                                            (Prod.snd
                                              (Prod.snd
                                                (Prod.snd
                                                  (zero
                                                    (Ty.pair tInt
                                                      (Ty.pair tInt
                                                        (Ty.pair tInt
                                                          (Ty.pair tInt
                                                            (Ty.pair tInt
                                                              (Ty.pair tTrigger
                                                                (Ty.pair Ty.str (Ty.pair tInt Ty.unit)))))))))))))),
                                      q5,
                                      Prod.snd
                                        (Prod.snd
                                          (Prod.snd
                                            (Prod.snd
                                              (Prod.snd
                                                (Prod.snd
                                                  (Prod.snd
                                                    (zero
                                                      (Ty.pair tInt
                                                        (Ty.pair tInt
                                                          (Ty.pair tInt
                                                            (Ty.pair tInt
                                                              (Ty.pair tInt
                                                                (Ty.pair tTrigger
                                                                  (Ty.pair Ty.str
                                                                    (Ty.pair tInt Ty.unit))))))))))))))))) ≤
                              most)
                            (TreeS.req True
                              (TreeS.all (den (Ty.pair tInt (Ty.pair tInt Ty.unit)))
                                (fun (q8 : den (Ty.pair tInt (Ty.pair tInt Ty.unit))) ↦
                                  q8 =
                                    g_Check
                                      (List.replicate 0 (zero tNote) ++ q4 ++
                                        List.set (List.replicate 1 (zero tNote)) 0
                                          (4,
                                            Prod.fst
                                              (Prod.snd (el tNote q4 (IntKind.wrap IntKind.i64 (lnx tNote q4 - 1)))),
                                            Prod.fst
                                              (Prod.snd
                                                (Prod.snd
                                                  (zero
                                                    (Ty.pair tInt
                                                      (Ty.pair tInt
                                                        (Ty.pair tInt
                                                          (Ty.pair tInt
                                                            (Ty.pair tInt
                                                              (Ty.pair tTrigger
                                                                (Ty.pair Ty.str (Ty.pair tInt Ty.unit))))))))))),
                                            n,
                                            Prod.fst
                                              (Prod.snd
                                                (Prod.snd
                                                  (Prod.snd
                                                    (Prod.snd
                                                      (zero
                                                        (Ty.pair tInt
                                                          (Ty.pair tInt
                                                            (Ty.pair tInt
                                                              (Ty.pair tInt
                                                                (Ty.pair tInt
                                                                  (Ty.pair tTrigger
                                                                    (Ty.pair Ty.str (Ty.pair tInt Ty.unit))))))))))))),
                                            Prod.fst
                                              (Prod.snd
                                                (Prod.snd
                                                  (Prod.snd
                                                    (Prod.snd
                                                      (Prod.snd
                                                        (zero
                                                          (Ty.pair tInt
                                                            (Ty.pair tInt
                                                              (Ty.pair tInt
                                                                (Ty.pair tInt
                                                                  (Ty.pair tInt
                                                                    (Ty.pair tTrigger
                                                                      (Ty.pair Ty.str
                                                                        (Ty.pair tInt Ty.unit)))))))))))))),
                                            q5,
                                            Prod.snd
                                              (Prod.snd
                                                (Prod.snd
                                                  (Prod.snd
                                                    (Prod.snd
                                                      (Prod.snd
                                                        (Prod.snd
                                                          (zero
                                                            (Ty.pair tInt
                                                              (Ty.pair tInt
                                                                (Ty.pair tInt
                                                                  (Ty.pair tInt
                                                                    (Ty.pair tInt
                                                                      (Ty.pair tTrigger
                                                                        (Ty.pair Ty.str
                                                                          (Ty.pair tInt Ty.unit))))))))))))))))))
                                fun (q8 : den (Ty.pair tInt (Ty.pair tInt Ty.unit))) ↦
                                TreeS.all (den tInt)
                                  (fun (q9 : den tInt) ↦
                                    q9 =
                                      Prod.fst
                                        (g_Check
                                          (List.replicate 0 (zero tNote) ++ q4 ++
                                            List.set (List.replicate 1 (zero tNote)) 0
                                              (4,
                                                Prod.fst
                                                  (Prod.snd
                                                    (el tNote q4 (IntKind.wrap IntKind.i64 (lnx tNote q4 - 1)))),
                                                Prod.fst
                                                  (Prod.snd
                                                    (Prod.snd
                                                      (zero
                                                        (Ty.pair tInt
                                                          (Ty.pair tInt
                                                            (Ty.pair tInt
                                                              (Ty.pair tInt
                                                                (Ty.pair tInt
                                                                  (Ty.pair tTrigger
                                                                    (Ty.pair Ty.str (Ty.pair tInt Ty.unit))))))))))),
                                                n,
                                                Prod.fst
                                                  (Prod.snd
                                                    (Prod.snd
                                                      (Prod.snd
                                                        (Prod.snd
                                                          (zero
                                                            (Ty.pair tInt
                                                              (Ty.pair tInt
                                                                (Ty.pair tInt
                                                                  (Ty.pair tInt
                                                                    (Ty.pair tInt
                                                                      (Ty.pair tTrigger
                                                                        (Ty.pair Ty.str
                                                                          (Ty.pair tInt Ty.unit))))))))))))),
                                                Prod.fst
                                                  (Prod.snd
                                                    (Prod.snd
                                                      (Prod.snd
                                                        (Prod.snd
                                                          (Prod.snd
                                                            (zero
                                                              (Ty.pair tInt
                                                                (Ty.pair tInt
                                                                  (Ty.pair tInt
                                                                    (Ty.pair tInt
                                                                      (Ty.pair tInt
                                                                        (Ty.pair tTrigger
                                                                          (Ty.pair Ty.str
                                                                            (Ty.pair tInt Ty.unit)))))))))))))),
                                                q5,
                                                Prod.snd
                                                  (Prod.snd
                                                    (Prod.snd
                                                      (Prod.snd
                                                        (Prod.snd
                                                          (Prod.snd
                                                            (Prod.snd
                                                              (zero
                                                                (Ty.pair tInt
                                                                  (Ty.pair tInt
                                                                    (Ty.pair tInt
                                                                      (Ty.pair tInt
                                                                        (Ty.pair tInt
                                                                          (Ty.pair tTrigger
                                                                            (Ty.pair Ty.str
                                                                              (Ty.pair tInt Ty.unit)))))))))))))))))))
                                  fun (q9 : den tInt) ↦
                                  TreeS.all (den tInt)
                                    (fun (q10 : den tInt) ↦
                                      q10 =
                                        Prod.fst
                                          (Prod.snd
                                            (g_Check
                                              (List.replicate 0 (zero tNote) ++ q4 ++
                                                List.set (List.replicate 1 (zero tNote)) 0
                                                  (4,
                                                    Prod.fst
                                                      (Prod.snd
                                                        (el tNote q4 (IntKind.wrap IntKind.i64 (lnx tNote q4 - 1)))),
                                                    Prod.fst
                                                      (Prod.snd
                                                        (Prod.snd
                                                          (zero
                                                            (Ty.pair tInt
                                                              (Ty.pair tInt
                                                                (Ty.pair tInt
                                                                  (Ty.pair tInt
                                                                    (Ty.pair tInt
                                                                      (Ty.pair tTrigger
                                                                        (Ty.pair Ty.str
                                                                          (Ty.pair tInt Ty.unit))))))))))),
                                                    n,
                                                    Prod.fst
                                                      (Prod.snd
                                                        (Prod.snd
                                                          (Prod.snd
                                                            (Prod.snd
                                                              (zero
                                                                (Ty.pair tInt
                                                                  (Ty.pair tInt
                                                                    (Ty.pair tInt
                                                                      (Ty.pair tInt
                                                                        (Ty.pair tInt
                                                                          (Ty.pair tTrigger
                                                                            (Ty.pair Ty.str
                                                                              (Ty.pair tInt Ty.unit))))))))))))),
                                                    Prod.fst
                                                      (Prod.snd
                                                        (Prod.snd
                                                          (Prod.snd
                                                            (Prod.snd
                                                              (Prod.snd
                                                                (zero
                                                                  (Ty.pair tInt
                                                                    (Ty.pair tInt
                                                                      (Ty.pair tInt
                                                                        (Ty.pair tInt
                                                                          (Ty.pair tInt
                                                                            (Ty.pair tTrigger
                                                                              (Ty.pair Ty.str
                                                                                (Ty.pair tInt Ty.unit)))))))))))))),
                                                    q5,
                                                    Prod.snd
                                                      (Prod.snd
                                                        (Prod.snd
                                                          (Prod.snd
                                                            (Prod.snd
                                                              (Prod.snd
                                                                (Prod.snd
                                                                  (zero
                                                                    (Ty.pair tInt
                                                                      (Ty.pair tInt
                                                                        (Ty.pair tInt
                                                                          (Ty.pair tInt
                                                                            (Ty.pair tInt
                                                                              (Ty.pair tTrigger
                                                                                (Ty.pair Ty.str
                                                                                  (Ty.pair tInt
                                                                                    Ty.unit))))))))))))))))))))
                                    fun (q10 : den tInt) ↦
                                    TreeS.req (List.length (List.replicate 0 (zero tNote) ++ q4) ≤ most)
                                      (TreeS.req
                                        (List.length
                                            (List.replicate 0 (zero tNote) ++ q4 ++
                                              List.set
                                                (List.set (List.replicate 2 (zero tNote)) 0
                                                  (4,
                                                    Prod.fst
                                                      (Prod.snd
                                                        (el tNote q4 (IntKind.wrap IntKind.i64 (lnx tNote q4 - 1)))),
                                                    Prod.fst
                                                      (Prod.snd
                                                        (Prod.snd
                                                          (zero
                                                            (Ty.pair tInt
                                                              (Ty.pair tInt
                                                                (Ty.pair tInt
                                                                  (Ty.pair tInt
                                                                    (Ty.pair tInt
                                                                      (Ty.pair tTrigger
                                                                        (Ty.pair Ty.str
                                                                          (Ty.pair tInt Ty.unit))))))))))),
                                                    n,
                                                    Prod.fst
                                                      (Prod.snd
                                                        (Prod.snd
                                                          (Prod.snd
                                                            (Prod.snd
                                                              (zero
                                                                (Ty.pair tInt
                                                                  (Ty.pair tInt
                                                                    (Ty.pair tInt
                                                                      (Ty.pair tInt
                                                                        (Ty.pair tInt
                                                                          (Ty.pair tTrigger
                                                                            (Ty.pair Ty.str
                                                                              (Ty.pair tInt Ty.unit))))))))))))),
                                                    Prod.fst
                                                      (Prod.snd
                                                        (Prod.snd
                                                          (Prod.snd
                                                            (Prod.snd
                                                              (Prod.snd
                                                                (zero
                                                                  (Ty.pair tInt
                                                                    (Ty.pair tInt
                                                                      (Ty.pair tInt
                                                                        (Ty.pair tInt
                                                                          (Ty.pair tInt
                                                                            (Ty.pair tTrigger
                                                                              (Ty.pair Ty.str
                                                                                (Ty.pair tInt Ty.unit)))))))))))))),
                                                    q5,
                                                    Prod.snd
                                                      (Prod.snd
                                                        (Prod.snd
                                                          (Prod.snd
                                                            (Prod.snd
                                                              (Prod.snd
                                                                (Prod.snd
                                                                  (zero
                                                                    (Ty.pair tInt
                                                                      (Ty.pair tInt
                                                                        (Ty.pair tInt
                                                                          (Ty.pair tInt
                                                                            (Ty.pair tInt
                                                                              (Ty.pair tTrigger
                                                                                (Ty.pair Ty.str
                                                                                  (Ty.pair tInt Ty.unit)))))))))))))))))
                                                1
                                                (4,
                                                  Prod.fst
                                                    (Prod.snd
                                                      (el tNote q4 (IntKind.wrap IntKind.i64 (lnx tNote q4 - 1)))),
                                                  Prod.fst
                                                    (Prod.snd
                                                      (Prod.snd
                                                        (zero
                                                          (Ty.pair tInt
                                                            (Ty.pair tInt
                                                              (Ty.pair tInt
                                                                (Ty.pair tInt
                                                                  (Ty.pair tInt
                                                                    (Ty.pair tTrigger
                                                                      (Ty.pair Ty.str (Ty.pair tInt Ty.unit))))))))))),
                                                  n,
                                                  Prod.fst
                                                    (Prod.snd
                                                      (Prod.snd
                                                        (Prod.snd
                                                          (Prod.snd
                                                            (zero
                                                              (Ty.pair tInt
                                                                (Ty.pair tInt
                                                                  (Ty.pair tInt
                                                                    (Ty.pair tInt
                                                                      (Ty.pair tInt
                                                                        (Ty.pair tTrigger
                                                                          (Ty.pair Ty.str
                                                                            (Ty.pair tInt Ty.unit))))))))))))),
                                                  Prod.fst
                                                    (Prod.snd
                                                      (Prod.snd
                                                        (Prod.snd
                                                          (Prod.snd
                                                            (Prod.snd
                                                              (zero
                                                                (Ty.pair tInt
                                                                  (Ty.pair tInt
                                                                    (Ty.pair tInt
                                                                      (Ty.pair tInt
                                                                        (Ty.pair tInt
                                                                          (Ty.pair tTrigger
                                                                            (Ty.pair Ty.str
                                                                              (Ty.pair tInt Ty.unit)))))))))))))),
                                                  q5,
                                                  Prod.snd
                                                    (Prod.snd
                                                      (Prod.snd
                                                        (Prod.snd
                                                          (Prod.snd
                                                            (Prod.snd
                                                              (Prod.snd
                                                                (zero
                                                                  (Ty.pair tInt
                                                                    (Ty.pair tInt
                                                                      (Ty.pair tInt
                                                                        (Ty.pair tInt
                                                                          (Ty.pair tInt
                                                                            (Ty.pair tTrigger
                                                                              (Ty.pair Ty.str
                                                                                (Ty.pair tInt Ty.unit))))))))))))))))) ≤
                                          most)
                                        (TreeS.req True
                                          (TreeS.all (den (Ty.pair tInt (Ty.pair tInt Ty.unit)))
                                            (fun (q11 : den (Ty.pair tInt (Ty.pair tInt Ty.unit))) ↦
                                              q11 =
                                                g_Check
                                                  (List.replicate 0 (zero tNote) ++ q4 ++
                                                    List.set
                                                      (List.set (List.replicate 2 (zero tNote)) 0
                                                        (4,
                                                          Prod.fst
                                                            (Prod.snd
                                                              (el tNote q4
                                                                (IntKind.wrap IntKind.i64 (lnx tNote q4 - 1)))),
                                                          Prod.fst
                                                            (Prod.snd
                                                              (Prod.snd
                                                                (zero
                                                                  (Ty.pair tInt
                                                                    (Ty.pair tInt
                                                                      (Ty.pair tInt
                                                                        (Ty.pair tInt
                                                                          (Ty.pair tInt
                                                                            (Ty.pair tTrigger
                                                                              (Ty.pair Ty.str
                                                                                (Ty.pair tInt Ty.unit))))))))))),
                                                          n,
                                                          Prod.fst
                                                            (Prod.snd
                                                              (Prod.snd
                                                                (Prod.snd
                                                                  (Prod.snd
                                                                    (zero
                                                                      (Ty.pair tInt
                                                                        (Ty.pair tInt
                                                                          (Ty.pair tInt
                                                                            (Ty.pair tInt
                                                                              (Ty.pair tInt
                                                                                (Ty.pair tTrigger
                                                                                  (Ty.pair Ty.str
                                                                                    (Ty.pair tInt Ty.unit))))))))))))),
                                                          Prod.fst
                                                            (Prod.snd
                                                              (Prod.snd
                                                                (Prod.snd
                                                                  (Prod.snd
                                                                    (Prod.snd
                                                                      (zero
                                                                        (Ty.pair tInt
                                                                          (Ty.pair tInt
                                                                            (Ty.pair tInt
                                                                              (Ty.pair tInt
                                                                                (Ty.pair tInt
                                                                                  (Ty.pair tTrigger
                                                                                    (Ty.pair Ty.str
                                                                                      (Ty.pair tInt
                                                                                        Ty.unit)))))))))))))),
                                                          q5,
                                                          Prod.snd
                                                            (Prod.snd
                                                              (Prod.snd
                                                                (Prod.snd
                                                                  (Prod.snd
                                                                    (Prod.snd
                                                                      (Prod.snd
                                                                        (zero
                                                                          (Ty.pair tInt
                                                                            (Ty.pair tInt
                                                                              (Ty.pair tInt
                                                                                (Ty.pair tInt
                                                                                  (Ty.pair tInt
                                                                                    (Ty.pair tTrigger
                                                                                      (Ty.pair Ty.str
                                                                                        (Ty.pair tInt
                                                                                          Ty.unit)))))))))))))))))
                                                      1
                                                      (4,
                                                        Prod.fst
                                                          (Prod.snd
                                                            (el tNote q4
                                                              (IntKind.wrap IntKind.i64 (lnx tNote q4 - 1)))),
                                                        Prod.fst
                                                          (Prod.snd
                                                            (Prod.snd
                                                              (zero
                                                                (Ty.pair tInt
                                                                  (Ty.pair tInt
                                                                    (Ty.pair tInt
                                                                      (Ty.pair tInt
                                                                        (Ty.pair tInt
                                                                          (Ty.pair tTrigger
                                                                            (Ty.pair Ty.str
                                                                              (Ty.pair tInt Ty.unit))))))))))),
                                                        n,
                                                        Prod.fst
                                                          (Prod.snd
                                                            (Prod.snd
                                                              (Prod.snd
                                                                (Prod.snd
                                                                  (zero
                                                                    (Ty.pair tInt
                                                                      (Ty.pair tInt
                                                                        (Ty.pair tInt
                                                                          (Ty.pair tInt
                                                                            (Ty.pair tInt
                                                                              (Ty.pair tTrigger
                                                                                (Ty.pair Ty.str
                                                                                  (Ty.pair tInt Ty.unit))))))))))))),
                                                        Prod.fst
                                                          (Prod.snd
                                                            (Prod.snd
                                                              (Prod.snd
                                                                (Prod.snd
                                                                  (Prod.snd
                                                                    (zero
                                                                      (Ty.pair tInt
                                                                        (Ty.pair tInt
                                                                          (Ty.pair tInt
                                                                            (Ty.pair tInt
                                                                              (Ty.pair tInt
                                                                                (Ty.pair tTrigger
                                                                                  (Ty.pair Ty.str
                                                                                    (Ty.pair tInt Ty.unit)))))))))))))),
                                                        q5,
                                                        Prod.snd
                                                          (Prod.snd
                                                            (Prod.snd
                                                              (Prod.snd
                                                                (Prod.snd
                                                                  (Prod.snd
                                                                    (Prod.snd
                                                                      (zero
                                                                        (Ty.pair tInt
                                                                          (Ty.pair tInt
                                                                            (Ty.pair tInt
                                                                              (Ty.pair tInt
                                                                                (Ty.pair tInt
                                                                                  (Ty.pair tTrigger
                                                                                    (Ty.pair Ty.str
                                                                                      (Ty.pair tInt
                                                                                        Ty.unit))))))))))))))))))
                                            fun (q11 : den (Ty.pair tInt (Ty.pair tInt Ty.unit))) ↦
                                            TreeS.all (den tInt)
                                              (fun (q12 : den tInt) ↦
                                                q12 =
                                                  Prod.fst
                                                    (g_Check
                                                      (List.replicate 0 (zero tNote) ++ q4 ++
                                                        List.set
                                                          (List.set (List.replicate 2 (zero tNote)) 0
                                                            (4,
                                                              Prod.fst
                                                                (Prod.snd
                                                                  (el tNote q4
                                                                    (IntKind.wrap IntKind.i64 (lnx tNote q4 - 1)))),
                                                              Prod.fst
                                                                (Prod.snd
                                                                  (Prod.snd
                                                                    (zero
                                                                      (Ty.pair tInt
                                                                        (Ty.pair tInt
                                                                          (Ty.pair tInt
                                                                            (Ty.pair tInt
                                                                              (Ty.pair tInt
                                                                                (Ty.pair tTrigger
                                                                                  (Ty.pair Ty.str
                                                                                    (Ty.pair tInt Ty.unit))))))))))),
                                                              n,
                                                              Prod.fst
                                                                (Prod.snd
                                                                  (Prod.snd
                                                                    (Prod.snd
                                                                      (Prod.snd
                                                                        (zero
                                                                          (Ty.pair tInt
                                                                            (Ty.pair tInt
                                                                              (Ty.pair tInt
                                                                                (Ty.pair tInt
                                                                                  (Ty.pair tInt
                                                                                    (Ty.pair tTrigger
                                                                                      (Ty.pair Ty.str
                                                                                        (Ty.pair tInt
                                                                                          Ty.unit))))))))))))),
                                                              Prod.fst
                                                                (Prod.snd
                                                                  (Prod.snd
                                                                    (Prod.snd
                                                                      (Prod.snd
                                                                        (Prod.snd
                                                                          (zero
                                                                            (Ty.pair tInt
                                                                              (Ty.pair tInt
                                                                                (Ty.pair tInt
                                                                                  (Ty.pair tInt
                                                                                    (Ty.pair tInt
                                                                                      (Ty.pair tTrigger
                                                                                        (Ty.pair Ty.str
                                                                                          (Ty.pair tInt
                                                                                            Ty.unit)))))))))))))),
                                                              q5,
                                                              Prod.snd
                                                                (Prod.snd
                                                                  (Prod.snd
                                                                    (Prod.snd
                                                                      (Prod.snd
                                                                        (Prod.snd
                                                                          (Prod.snd
                                                                            (zero
                                                                              (Ty.pair tInt
                                                                                (Ty.pair tInt
                                                                                  (Ty.pair tInt
                                                                                    (Ty.pair tInt
                                                                                      (Ty.pair tInt
                                                                                        (Ty.pair tTrigger
                                                                                          (Ty.pair Ty.str
                                                                                            (Ty.pair tInt
                                                                                              Ty.unit)))))))))))))))))
                                                          1
                                                          (4,
                                                            Prod.fst
                                                              (Prod.snd
                                                                (el tNote q4
                                                                  (IntKind.wrap IntKind.i64 (lnx tNote q4 - 1)))),
                                                            Prod.fst
                                                              (Prod.snd
                                                                (Prod.snd
                                                                  (zero
                                                                    (Ty.pair tInt
                                                                      (Ty.pair tInt
                                                                        (Ty.pair tInt
                                                                          (Ty.pair tInt
                                                                            (Ty.pair tInt
                                                                              (Ty.pair tTrigger
                                                                                (Ty.pair Ty.str
                                                                                  (Ty.pair tInt Ty.unit))))))))))),
                                                            n,
                                                            Prod.fst
                                                              (Prod.snd
                                                                (Prod.snd
                                                                  (Prod.snd
                                                                    (Prod.snd
                                                                      (zero
                                                                        (Ty.pair tInt
                                                                          (Ty.pair tInt
                                                                            (Ty.pair tInt
                                                                              (Ty.pair tInt
                                                                                (Ty.pair tInt
                                                                                  (Ty.pair tTrigger
                                                                                    (Ty.pair Ty.str
                                                                                      (Ty.pair tInt
                                                                                        Ty.unit))))))))))))),
                                                            Prod.fst
                                                              (Prod.snd
                                                                (Prod.snd
                                                                  (Prod.snd
                                                                    (Prod.snd
                                                                      (Prod.snd
                                                                        (zero
                                                                          (Ty.pair tInt
                                                                            (Ty.pair tInt
                                                                              (Ty.pair tInt
                                                                                (Ty.pair tInt
                                                                                  (Ty.pair tInt
                                                                                    (Ty.pair tTrigger
                                                                                      (Ty.pair Ty.str
                                                                                        (Ty.pair tInt
                                                                                          Ty.unit)))))))))))))),
                                                            q5,
                                                            Prod.snd
                                                              (Prod.snd
                                                                (Prod.snd
                                                                  (Prod.snd
                                                                    (Prod.snd
                                                                      (Prod.snd
                                                                        (Prod.snd
                                                                          (zero
                                                                            (Ty.pair tInt
                                                                              (Ty.pair tInt
                                                                                (Ty.pair tInt
                                                                                  (Ty.pair tInt
                                                                                    (Ty.pair tInt
                                                                                      (Ty.pair tTrigger
                                                                                        (Ty.pair Ty.str
                                                                                          (Ty.pair tInt
                                                                                            Ty.unit)))))))))))))))))))
                                              fun (q12 : den tInt) ↦
                                              TreeS.all (den tInt)
                                                (fun (q13 : den tInt) ↦
                                                  q13 =
                                                    Prod.fst
                                                      (Prod.snd
                                                        (g_Check
                                                          (List.replicate 0 (zero tNote) ++ q4 ++
                                                            List.set
                                                              (List.set (List.replicate 2 (zero tNote)) 0
                                                                (4,
                                                                  Prod.fst
                                                                    (Prod.snd
                                                                      (el tNote q4
                                                                        (IntKind.wrap IntKind.i64 (lnx tNote q4 - 1)))),
                                                                  Prod.fst
                                                                    (Prod.snd
                                                                      (Prod.snd
                                                                        (zero
                                                                          (Ty.pair tInt
                                                                            (Ty.pair tInt
                                                                              (Ty.pair tInt
                                                                                (Ty.pair tInt
                                                                                  (Ty.pair tInt
                                                                                    (Ty.pair tTrigger
                                                                                      (Ty.pair Ty.str
                                                                                        (Ty.pair tInt
                                                                                          Ty.unit))))))))))),
                                                                  n,
                                                                  Prod.fst
                                                                    (Prod.snd
                                                                      (Prod.snd
                                                                        (Prod.snd
                                                                          (Prod.snd
                                                                            (zero
                                                                              (Ty.pair tInt
                                                                                (Ty.pair tInt
                                                                                  (Ty.pair tInt
                                                                                    (Ty.pair tInt
                                                                                      (Ty.pair tInt
                                                                                        (Ty.pair tTrigger
                                                                                          (Ty.pair Ty.str
                                                                                            (Ty.pair tInt
                                                                                              Ty.unit))))))))))))),
                                                                  Prod.fst
                                                                    (Prod.snd
                                                                      (Prod.snd
                                                                        (Prod.snd
                                                                          (Prod.snd
                                                                            (Prod.snd
                                                                              (zero
                                                                                (Ty.pair tInt
                                                                                  (Ty.pair tInt
                                                                                    (Ty.pair tInt
                                                                                      (Ty.pair tInt
                                                                                        (Ty.pair tInt
                                                                                          (Ty.pair tTrigger
                                                                                            (Ty.pair Ty.str
                                                                                              (Ty.pair tInt
                                                                                                Ty.unit)))))))))))))),
                                                                  q5,
                                                                  Prod.snd
                                                                    (Prod.snd
                                                                      (Prod.snd
                                                                        (Prod.snd
                                                                          (Prod.snd
                                                                            (Prod.snd
                                                                              (Prod.snd
                                                                                (zero
                                                                                  (Ty.pair tInt
                                                                                    (Ty.pair tInt
                                                                                      (Ty.pair tInt
                                                                                        (Ty.pair tInt
                                                                                          (Ty.pair tInt
                                                                                            (Ty.pair tTrigger
                                                                                              (Ty.pair Ty.str
                                                                                                (Ty.pair tInt
                                                                                                  Ty.unit)))))))))))))))))
                                                              1
                                                              (4,
                                                                Prod.fst
                                                                  (Prod.snd
                                                                    (el tNote q4
                                                                      (IntKind.wrap IntKind.i64 (lnx tNote q4 - 1)))),
                                                                Prod.fst
                                                                  (Prod.snd
                                                                    (Prod.snd
                                                                      (zero
                                                                        (Ty.pair tInt
                                                                          (Ty.pair tInt
                                                                            (Ty.pair tInt
                                                                              (Ty.pair tInt
                                                                                (Ty.pair tInt
                                                                                  (Ty.pair tTrigger
                                                                                    (Ty.pair Ty.str
                                                                                      (Ty.pair tInt Ty.unit))))))))))),
                                                                n,
                                                                Prod.fst
                                                                  (Prod.snd
                                                                    (Prod.snd
                                                                      (Prod.snd
                                                                        (Prod.snd
                                                                          (zero
                                                                            (Ty.pair tInt
                                                                              (Ty.pair tInt
                                                                                (Ty.pair tInt
                                                                                  (Ty.pair tInt
                                                                                    (Ty.pair tInt
                                                                                      (Ty.pair tTrigger
                                                                                        (Ty.pair Ty.str
                                                                                          (Ty.pair tInt
                                                                                            Ty.unit))))))))))))),
                                                                Prod.fst
                                                                  (Prod.snd
                                                                    (Prod.snd
                                                                      (Prod.snd
                                                                        (Prod.snd
                                                                          (Prod.snd
                                                                            (zero
                                                                              (Ty.pair tInt
                                                                                (Ty.pair tInt
                                                                                  (Ty.pair tInt
                                                                                    (Ty.pair tInt
                                                                                      (Ty.pair tInt
                                                                                        (Ty.pair tTrigger
                                                                                          (Ty.pair Ty.str
                                                                                            (Ty.pair tInt
                                                                                              Ty.unit)))))))))))))),
                                                                q5,
                                                                Prod.snd
                                                                  (Prod.snd
                                                                    (Prod.snd
                                                                      (Prod.snd
                                                                        (Prod.snd
                                                                          (Prod.snd
                                                                            (Prod.snd
                                                                              (zero
                                                                                (Ty.pair tInt
                                                                                  (Ty.pair tInt
                                                                                    (Ty.pair tInt
                                                                                      (Ty.pair tInt
                                                                                        (Ty.pair tInt
                                                                                          (Ty.pair tTrigger
                                                                                            (Ty.pair Ty.str
                                                                                              (Ty.pair tInt
                                                                                                Ty.unit))))))))))))))))))))
                                                fun (q13 : den tInt) ↦
                                                TreeS.req
                                                  (impl
                                                    [(bif
                                                            bif !eqO (decide (q10 = 0)) (decide (q13 = 0)) then true
                                                            else
                                                              bif decide (q10 = 0) then
                                                                bif
                                                                    !decide
                                                                        (q9 =
                                                                          IntKind.wrap IntKind.i64
                                                                            (Prod.fst q6 + 1)) then
                                                                  true
                                                                else
                                                                  !decide
                                                                      (q12 = IntKind.wrap IntKind.i64 (Prod.fst q6 + 2))
                                                              else false then
                                                          true
                                                        else
                                                          bif !decide (q10 = 0) then
                                                            bif !decide (q9 = Prod.fst q6) then true
                                                            else !decide (q12 = Prod.fst q6)
                                                          else false,
                                                        false)]
                                                    True)
                                                  (TreeS.ite
                                                    (bif
                                                        bif
                                                            bif !eqO (decide (q10 = 0)) (decide (q13 = 0)) then true
                                                            else
                                                              bif decide (q10 = 0) then
                                                                bif
                                                                    !decide
                                                                        (q9 =
                                                                          IntKind.wrap IntKind.i64
                                                                            (Prod.fst q6 + 1)) then
                                                                  true
                                                                else
                                                                  !decide
                                                                      (q12 = IntKind.wrap IntKind.i64 (Prod.fst q6 + 2))
                                                              else false then
                                                          true
                                                        else
                                                          bif !decide (q10 = 0) then
                                                            bif !decide (q9 = Prod.fst q6) then true
                                                            else !decide (q12 = Prod.fst q6)
                                                          else false then
                                                      true
                                                    else !true)
                                                    (TreeS.ret (K.val (Ty.pair Ty.bool Ty.unit) (false, PUnit.unit)))
                                                    (TreeS.req
                                                      (List.length (List.replicate 0 (zero tNote) ++ q4) ≤ most)
                                                      (TreeS.req
                                                        (List.length
                                                            (List.replicate 0 (zero tNote) ++ q4 ++
                                                              List.set (List.replicate 1 (zero tNote)) 0
                                                                (1,
                                                                  Prod.fst
                                                                    (Prod.snd
                                                                      (el tNote q4
                                                                        (IntKind.wrap IntKind.i64 (lnx tNote q4 - 1)))),
                                                                  Prod.fst
                                                                    (Prod.snd
                                                                      (Prod.snd
                                                                        (zero
                                                                          (Ty.pair tInt
                                                                            (Ty.pair tInt
                                                                              (Ty.pair tInt
                                                                                (Ty.pair tInt
                                                                                  (Ty.pair tInt
                                                                                    (Ty.pair tTrigger
                                                                                      (Ty.pair Ty.str
                                                                                        (Ty.pair tInt
                                                                                          Ty.unit))))))))))),
                                                                  Prod.fst
                                                                    (Prod.snd
                                                                      (Prod.snd
                                                                        (Prod.snd
                                                                          (zero
                                                                            (Ty.pair tInt
                                                                              (Ty.pair tInt
                                                                                (Ty.pair tInt
                                                                                  (Ty.pair tInt
                                                                                    (Ty.pair tInt
                                                                                      (Ty.pair tTrigger
                                                                                        (Ty.pair Ty.str
                                                                                          (Ty.pair tInt
                                                                                            Ty.unit)))))))))))),
                                                                  n,
                                                                  Prod.fst
                                                                    (Prod.snd
                                                                      (Prod.snd
                                                                        (Prod.snd
                                                                          (Prod.snd
                                                                            (Prod.snd
                                                                              (zero
                                                                                (Ty.pair tInt
                                                                                  (Ty.pair tInt
                                                                                    (Ty.pair tInt
                                                                                      (Ty.pair tInt
                                                                                        (Ty.pair tInt
                                                                                          (Ty.pair tTrigger
                                                                                            (Ty.pair Ty.str
                                                                                              (Ty.pair tInt
                                                                                                Ty.unit)))))))))))))),
                                                                  q5,
                                                                  Prod.snd
                                                                    (Prod.snd
                                                                      (Prod.snd
                                                                        (Prod.snd
                                                                          (Prod.snd
                                                                            (Prod.snd
                                                                              (Prod.snd
                                                                                (zero
                                                                                  (Ty.pair tInt
                                                                                    (Ty.pair tInt
                                                                                      (Ty.pair tInt
                                                                                        (Ty.pair tInt
                                                                                          (Ty.pair tInt
                                                                                            (Ty.pair tTrigger
                                                                                              (Ty.pair Ty.str
                                                                                                (Ty.pair tInt
                                                                                                  Ty.unit))))))))))))))))) ≤
                                                          most)
                                                        (TreeS.req True
                                                          (TreeS.all (den (Ty.pair tInt (Ty.pair tInt Ty.unit)))
                                                            (fun (q14 : den (Ty.pair tInt (Ty.pair tInt Ty.unit))) ↦
                                                              q14 =
                                                                g_Check
                                                                  (List.replicate 0 (zero tNote) ++ q4 ++
                                                                    List.set (List.replicate 1 (zero tNote)) 0
                                                                      (1,
                                                                        Prod.fst
                                                                          (Prod.snd
                                                                            (el tNote q4
                                                                              (IntKind.wrap IntKind.i64
                                                                                (lnx tNote q4 - 1)))),
                                                                        Prod.fst
                                                                          (Prod.snd
                                                                            (Prod.snd
                                                                              (zero
                                                                                (Ty.pair tInt
                                                                                  (Ty.pair tInt
                                                                                    (Ty.pair tInt
                                                                                      (Ty.pair tInt
                                                                                        (Ty.pair tInt
                                                                                          (Ty.pair tTrigger
                                                                                            (Ty.pair Ty.str
                                                                                              (Ty.pair tInt
                                                                                                Ty.unit))))))))))),
                                                                        Prod.fst
                                                                          (Prod.snd
                                                                            (Prod.snd
                                                                              (Prod.snd
                                                                                (zero
                                                                                  (Ty.pair tInt
                                                                                    (Ty.pair tInt
                                                                                      (Ty.pair tInt
                                                                                        (Ty.pair tInt
                                                                                          (Ty.pair tInt
                                                                                            (Ty.pair tTrigger
                                                                                              (Ty.pair Ty.str
                                                                                                (Ty.pair tInt
                                                                                                  Ty.unit)))))))))))),
                                                                        n,
                                                                        Prod.fst
                                                                          (Prod.snd
                                                                            (Prod.snd
                                                                              (Prod.snd
                                                                                (Prod.snd
                                                                                  (Prod.snd
                                                                                    (zero
                                                                                      (Ty.pair tInt
                                                                                        (Ty.pair tInt
                                                                                          (Ty.pair tInt
                                                                                            (Ty.pair tInt
                                                                                              (Ty.pair tInt
                                                                                                (Ty.pair tTrigger
                                                                                                  (Ty.pair Ty.str
                                                                                                    (Ty.pair tInt
                                                                                                      Ty.unit)))))))))))))),
                                                                        q5,
                                                                        Prod.snd
                                                                          (Prod.snd
                                                                            (Prod.snd
                                                                              (Prod.snd
                                                                                (Prod.snd
                                                                                  (Prod.snd
                                                                                    (Prod.snd
                                                                                      (zero
                                                                                        (Ty.pair tInt
                                                                                          (Ty.pair tInt
                                                                                            (Ty.pair tInt
                                                                                              (Ty.pair tInt
                                                                                                (Ty.pair tInt
                                                                                                  (Ty.pair tTrigger
                                                                                                    (Ty.pair Ty.str
                                                                                                      (Ty.pair tInt
                                                                                                        Ty.unit))))))))))))))))))
                                                            fun (q14 : den (Ty.pair tInt (Ty.pair tInt Ty.unit))) ↦
                                                            TreeS.ite (!decide (Prod.fst (Prod.snd q14) = 0))
                                                              (TreeS.ret
                                                                (K.val (Ty.pair Ty.bool Ty.unit)
                                                                  (decide (Prod.fst (Prod.snd q14) = 11), PUnit.unit)))
                                                              (TreeS.req True
                                                                (TreeS.all (den (Ty.pair tInt (Ty.pair tInt Ty.unit)))
                                                                  (fun
                                                                      (q15 :
                                                                        den (Ty.pair tInt (Ty.pair tInt Ty.unit))) ↦
                                                                    q15 =
                                                                      g_Cost
                                                                        (List.replicate 0 (zero tNote) ++ q4 ++
                                                                          List.set (List.replicate 1 (zero tNote)) 0
                                                                            (1,
                                                                              Prod.fst
                                                                                (Prod.snd
                                                                                  (el tNote q4
                                                                                    (IntKind.wrap IntKind.i64
                                                                                      (lnx tNote q4 - 1)))),
                                                                              Prod.fst
                                                                                (Prod.snd
                                                                                  (Prod.snd
                                                                                    (zero
                                                                                      (Ty.pair tInt
                                                                                        (Ty.pair tInt
                                                                                          (Ty.pair tInt
                                                                                            (Ty.pair tInt
                                                                                              (Ty.pair tInt
                                                                                                (Ty.pair tTrigger
                                                                                                  (Ty.pair Ty.str
                                                                                                    (Ty.pair tInt
                                                                                                      Ty.unit))))))))))),
                                                                              Prod.fst
                                                                                (Prod.snd
                                                                                  (Prod.snd
                                                                                    (Prod.snd
                                                                                      (zero
                                                                                        (Ty.pair tInt
                                                                                          (Ty.pair tInt
                                                                                            (Ty.pair tInt
                                                                                              (Ty.pair tInt
                                                                                                (Ty.pair tInt
                                                                                                  (Ty.pair tTrigger
                                                                                                    (Ty.pair Ty.str
                                                                                                      (Ty.pair tInt
                                                                                                        Ty.unit)))))))))))),
                                                                              n,
                                                                              Prod.fst
                                                                                (Prod.snd
                                                                                  (Prod.snd
                                                                                    (Prod.snd
                                                                                      (Prod.snd
                                                                                        (Prod.snd
                                                                                          (zero
                                                                                            (Ty.pair tInt
                                                                                              (Ty.pair tInt
                                                                                                (Ty.pair tInt
                                                                                                  (Ty.pair tInt
                                                                                                    (Ty.pair tInt
                                                                                                      (Ty.pair tTrigger
                                                                                                        (Ty.pair Ty.str
                                                                                                          (Ty.pair tInt
                                                                                                            Ty.unit)))))))))))))),
                                                                              q5,
                                                                              Prod.snd
                                                                                (Prod.snd
                                                                                  (Prod.snd
                                                                                    (Prod.snd
                                                                                      (Prod.snd
                                                                                        (Prod.snd
                                                                                          (Prod.snd
                                                                                            (zero
                                                                                              (Ty.pair tInt
                                                                                                (Ty.pair tInt
                                                                                                  (Ty.pair tInt
                                                                                                    (Ty.pair tInt
                                                                                                      (Ty.pair tInt
                                                                                                        (Ty.pair
                                                                                                          tTrigger
                                                                                                          (Ty.pair
                                                                                                            Ty.str
                                                                                                            (Ty.pair
                                                                                                              tInt
                                                                                                              Ty.unit)))))))))))))))))
                                                                        n)
                                                                  fun
                                                                    (q15 : den (Ty.pair tInt (Ty.pair tInt Ty.unit))) ↦
                                                                  TreeS.ret
                                                                    (K.val (Ty.pair Ty.bool Ty.unit)
                                                                      (bif
                                                                            bif
                                                                                bif
                                                                                    decide
                                                                                      (Prod.fst (Prod.snd q15) = 0) then
                                                                                  decide (Prod.fst q15 = 1)
                                                                                else false then
                                                                              decide (Prod.fst (Prod.snd q7) = 6)
                                                                            else false then
                                                                          decide (Prod.fst q7 = 0)
                                                                        else false,
                                                                        PUnit.unit))))))))))))))))))
                  (TreeS.req True
                    (TreeS.all (den (Ty.pair tInt (Ty.pair tInt Ty.unit)))
                      (fun (q7 : den (Ty.pair tInt (Ty.pair tInt Ty.unit))) ↦ q7 = g_Cost q4 n)
                      fun (q7 : den (Ty.pair tInt (Ty.pair tInt Ty.unit))) ↦
                      TreeS.req (List.length (List.replicate 0 (zero tNote) ++ q4) ≤ most)
                        (TreeS.req
                          (List.length
                              (List.replicate 0 (zero tNote) ++ q4 ++
                                List.set (List.replicate 1 (zero tNote)) 0
                                  (4, 0,
                                    Prod.fst
                                      (Prod.snd
                                        (Prod.snd
                                          (zero
                                            (Ty.pair tInt
                                              (Ty.pair tInt
                                                (Ty.pair tInt
                                                  (Ty.pair tInt
                                                    (Ty.pair tInt
                                                      (Ty.pair tTrigger
                                                        (Ty.pair Ty.str (Ty.pair tInt Ty.unit))))))))))),
                                    n,
                                    Prod.fst
                                      (Prod.snd
                                        (Prod.snd
                                          (Prod.snd
                                            (Prod.snd
                                              (zero
                                                (Ty.pair tInt
                                                  (Ty.pair tInt
                                                    (Ty.pair tInt
                                                      (Ty.pair tInt
                                                        (Ty.pair tInt
                                                          (Ty.pair tTrigger
                                                            (Ty.pair Ty.str (Ty.pair tInt Ty.unit))))))))))))),
                                    Prod.fst
                                      (Prod.snd
                                        (Prod.snd
                                          (Prod.snd
                                            (Prod.snd
                                              (Prod.snd
                                                (zero
                                                  (Ty.pair tInt
                                                    (Ty.pair tInt
                                                      (Ty.pair tInt
                                                        (Ty.pair tInt
                                                          (Ty.pair tInt
                                                            (Ty.pair tTrigger
                                                              (Ty.pair Ty.str (Ty.pair tInt Ty.unit)))))))))))))),
                                    q5,
                                    Prod.snd
                                      (Prod.snd
                                        (Prod.snd
                                          (Prod.snd
                                            (Prod.snd
                                              (Prod.snd
                                                (Prod.snd
                                                  (zero
                                                    (Ty.pair tInt
                                                      (Ty.pair tInt
                                                        (Ty.pair tInt
                                                          (Ty.pair tInt
                                                            (Ty.pair tInt
                                                              (Ty.pair tTrigger
                                                                (Ty.pair Ty.str (Ty.pair tInt Ty.unit))))))))))))))))) ≤
                            most)
                          (TreeS.req True
                            (TreeS.all (den (Ty.pair tInt (Ty.pair tInt Ty.unit)))
                              (fun (q8 : den (Ty.pair tInt (Ty.pair tInt Ty.unit))) ↦
                                q8 =
                                  g_Check
                                    (List.replicate 0 (zero tNote) ++ q4 ++
                                      List.set (List.replicate 1 (zero tNote)) 0
                                        (4, 0,
                                          Prod.fst
                                            (Prod.snd
                                              (Prod.snd
                                                (zero
                                                  (Ty.pair tInt
                                                    (Ty.pair tInt
                                                      (Ty.pair tInt
                                                        (Ty.pair tInt
                                                          (Ty.pair tInt
                                                            (Ty.pair tTrigger
                                                              (Ty.pair Ty.str (Ty.pair tInt Ty.unit))))))))))),
                                          n,
                                          Prod.fst
                                            (Prod.snd
                                              (Prod.snd
                                                (Prod.snd
                                                  (Prod.snd
                                                    (zero
                                                      (Ty.pair tInt
                                                        (Ty.pair tInt
                                                          (Ty.pair tInt
                                                            (Ty.pair tInt
                                                              (Ty.pair tInt
                                                                (Ty.pair tTrigger
                                                                  (Ty.pair Ty.str (Ty.pair tInt Ty.unit))))))))))))),
                                          Prod.fst
                                            (Prod.snd
                                              (Prod.snd
                                                (Prod.snd
                                                  (Prod.snd
                                                    (Prod.snd
                                                      (zero
                                                        (Ty.pair tInt
                                                          (Ty.pair tInt
                                                            (Ty.pair tInt
                                                              (Ty.pair tInt
                                                                (Ty.pair tInt
                                                                  (Ty.pair tTrigger
                                                                    (Ty.pair Ty.str (Ty.pair tInt Ty.unit)))))))))))))),
                                          q5,
                                          Prod.snd
                                            (Prod.snd
                                              (Prod.snd
                                                (Prod.snd
                                                  (Prod.snd
                                                    (Prod.snd
                                                      (Prod.snd
                                                        (zero
                                                          (Ty.pair tInt
                                                            (Ty.pair tInt
                                                              (Ty.pair tInt
                                                                (Ty.pair tInt
                                                                  (Ty.pair tInt
                                                                    (Ty.pair tTrigger
                                                                      (Ty.pair Ty.str
                                                                        (Ty.pair tInt Ty.unit))))))))))))))))))
                              fun (q8 : den (Ty.pair tInt (Ty.pair tInt Ty.unit))) ↦
                              TreeS.all (den tInt)
                                (fun (q9 : den tInt) ↦
                                  q9 =
                                    Prod.fst
                                      (g_Check
                                        (List.replicate 0 (zero tNote) ++ q4 ++
                                          List.set (List.replicate 1 (zero tNote)) 0
                                            (4, 0,
                                              Prod.fst
                                                (Prod.snd
                                                  (Prod.snd
                                                    (zero
                                                      (Ty.pair tInt
                                                        (Ty.pair tInt
                                                          (Ty.pair tInt
                                                            (Ty.pair tInt
                                                              (Ty.pair tInt
                                                                (Ty.pair tTrigger
                                                                  (Ty.pair Ty.str (Ty.pair tInt Ty.unit))))))))))),
                                              n,
                                              Prod.fst
                                                (Prod.snd
                                                  (Prod.snd
                                                    (Prod.snd
                                                      (Prod.snd
                                                        (zero
                                                          (Ty.pair tInt
                                                            (Ty.pair tInt
                                                              (Ty.pair tInt
                                                                (Ty.pair tInt
                                                                  (Ty.pair tInt
                                                                    (Ty.pair tTrigger
                                                                      (Ty.pair Ty.str
                                                                        (Ty.pair tInt Ty.unit))))))))))))),
                                              Prod.fst
                                                (Prod.snd
                                                  (Prod.snd
                                                    (Prod.snd
                                                      (Prod.snd
                                                        (Prod.snd
                                                          (zero
                                                            (Ty.pair tInt
                                                              (Ty.pair tInt
                                                                (Ty.pair tInt
                                                                  (Ty.pair tInt
                                                                    (Ty.pair tInt
                                                                      (Ty.pair tTrigger
                                                                        (Ty.pair Ty.str
                                                                          (Ty.pair tInt Ty.unit)))))))))))))),
                                              q5,
                                              Prod.snd
                                                (Prod.snd
                                                  (Prod.snd
                                                    (Prod.snd
                                                      (Prod.snd
                                                        (Prod.snd
                                                          (Prod.snd
                                                            (zero
                                                              (Ty.pair tInt
                                                                (Ty.pair tInt
                                                                  (Ty.pair tInt
                                                                    (Ty.pair tInt
                                                                      (Ty.pair tInt
                                                                        (Ty.pair tTrigger
                                                                          (Ty.pair Ty.str
                                                                            (Ty.pair tInt Ty.unit)))))))))))))))))))
                                fun (q9 : den tInt) ↦
                                TreeS.all (den tInt)
                                  (fun (q10 : den tInt) ↦
                                    q10 =
                                      Prod.fst
                                        (Prod.snd
                                          (g_Check
                                            (List.replicate 0 (zero tNote) ++ q4 ++
                                              List.set (List.replicate 1 (zero tNote)) 0
                                                (4, 0,
                                                  Prod.fst
                                                    (Prod.snd
                                                      (Prod.snd
                                                        (zero
                                                          (Ty.pair tInt
                                                            (Ty.pair tInt
                                                              (Ty.pair tInt
                                                                (Ty.pair tInt
                                                                  (Ty.pair tInt
                                                                    (Ty.pair tTrigger
                                                                      (Ty.pair Ty.str (Ty.pair tInt Ty.unit))))))))))),
                                                  n,
                                                  Prod.fst
                                                    (Prod.snd
                                                      (Prod.snd
                                                        (Prod.snd
                                                          (Prod.snd
                                                            (zero
                                                              (Ty.pair tInt
                                                                (Ty.pair tInt
                                                                  (Ty.pair tInt
                                                                    (Ty.pair tInt
                                                                      (Ty.pair tInt
                                                                        (Ty.pair tTrigger
                                                                          (Ty.pair Ty.str
                                                                            (Ty.pair tInt Ty.unit))))))))))))),
                                                  Prod.fst
                                                    (Prod.snd
                                                      (Prod.snd
                                                        (Prod.snd
                                                          (Prod.snd
                                                            (Prod.snd
                                                              (zero
                                                                (Ty.pair tInt
                                                                  (Ty.pair tInt
                                                                    (Ty.pair tInt
                                                                      (Ty.pair tInt
                                                                        (Ty.pair tInt
                                                                          (Ty.pair tTrigger
                                                                            (Ty.pair Ty.str
                                                                              (Ty.pair tInt Ty.unit)))))))))))))),
                                                  q5,
                                                  Prod.snd
                                                    (Prod.snd
                                                      (Prod.snd
                                                        (Prod.snd
                                                          (Prod.snd
                                                            (Prod.snd
                                                              (Prod.snd
                                                                (zero
                                                                  (Ty.pair tInt
                                                                    (Ty.pair tInt
                                                                      (Ty.pair tInt
                                                                        (Ty.pair tInt
                                                                          (Ty.pair tInt
                                                                            (Ty.pair tTrigger
                                                                              (Ty.pair Ty.str
                                                                                (Ty.pair tInt
                                                                                  Ty.unit))))))))))))))))))))
                                  fun (q10 : den tInt) ↦
                                  TreeS.req (List.length (List.replicate 0 (zero tNote) ++ q4) ≤ most)
                                    (TreeS.req
                                      (List.length
                                          (List.replicate 0 (zero tNote) ++ q4 ++
                                            List.set
                                              (List.set (List.replicate 2 (zero tNote)) 0
                                                (4, 0,
                                                  Prod.fst
                                                    (Prod.snd
                                                      (Prod.snd
                                                        (zero
                                                          (Ty.pair tInt
                                                            (Ty.pair tInt
                                                              (Ty.pair tInt
                                                                (Ty.pair tInt
                                                                  (Ty.pair tInt
                                                                    (Ty.pair tTrigger
                                                                      (Ty.pair Ty.str (Ty.pair tInt Ty.unit))))))))))),
                                                  n,
                                                  Prod.fst
                                                    (Prod.snd
                                                      (Prod.snd
                                                        (Prod.snd
                                                          (Prod.snd
                                                            (zero
                                                              (Ty.pair tInt
                                                                (Ty.pair tInt
                                                                  (Ty.pair tInt
                                                                    (Ty.pair tInt
                                                                      (Ty.pair tInt
                                                                        (Ty.pair tTrigger
                                                                          (Ty.pair Ty.str
                                                                            (Ty.pair tInt Ty.unit))))))))))))),
                                                  Prod.fst
                                                    (Prod.snd
                                                      (Prod.snd
                                                        (Prod.snd
                                                          (Prod.snd
                                                            (Prod.snd
                                                              (zero
                                                                (Ty.pair tInt
                                                                  (Ty.pair tInt
                                                                    (Ty.pair tInt
                                                                      (Ty.pair tInt
                                                                        (Ty.pair tInt
                                                                          (Ty.pair tTrigger
                                                                            (Ty.pair Ty.str
                                                                              (Ty.pair tInt Ty.unit)))))))))))))),
                                                  q5,
                                                  Prod.snd
                                                    (Prod.snd
                                                      (Prod.snd
                                                        (Prod.snd
                                                          (Prod.snd
                                                            (Prod.snd
                                                              (Prod.snd
                                                                (zero
                                                                  (Ty.pair tInt
                                                                    (Ty.pair tInt
                                                                      (Ty.pair tInt
                                                                        (Ty.pair tInt
                                                                          (Ty.pair tInt
                                                                            (Ty.pair tTrigger
                                                                              (Ty.pair Ty.str
                                                                                (Ty.pair tInt Ty.unit)))))))))))))))))
                                              1
                                              (4, 0,
                                                Prod.fst
                                                  (Prod.snd
                                                    (Prod.snd
                                                      (zero
                                                        (Ty.pair tInt
                                                          (Ty.pair tInt
                                                            (Ty.pair tInt
                                                              (Ty.pair tInt
                                                                (Ty.pair tInt
                                                                  (Ty.pair tTrigger
                                                                    (Ty.pair Ty.str (Ty.pair tInt Ty.unit))))))))))),
                                                n,
                                                Prod.fst
                                                  (Prod.snd
                                                    (Prod.snd
                                                      (Prod.snd
                                                        (Prod.snd
                                                          (zero
                                                            (Ty.pair tInt
                                                              (Ty.pair tInt
                                                                (Ty.pair tInt
                                                                  (Ty.pair tInt
                                                                    (Ty.pair tInt
                                                                      (Ty.pair tTrigger
                                                                        (Ty.pair Ty.str
                                                                          (Ty.pair tInt Ty.unit))))))))))))),
                                                Prod.fst
                                                  (Prod.snd
                                                    (Prod.snd
                                                      (Prod.snd
                                                        (Prod.snd
                                                          (Prod.snd
                                                            (zero
                                                              (Ty.pair tInt
                                                                (Ty.pair tInt
                                                                  (Ty.pair tInt
                                                                    (Ty.pair tInt
                                                                      (Ty.pair tInt
                                                                        (Ty.pair tTrigger
                                                                          (Ty.pair Ty.str
                                                                            (Ty.pair tInt Ty.unit)))))))))))))),
                                                q5,
                                                Prod.snd
                                                  (Prod.snd
                                                    (Prod.snd
                                                      (Prod.snd
                                                        (Prod.snd
                                                          (Prod.snd
                                                            (Prod.snd
                                                              (zero
                                                                (Ty.pair tInt
                                                                  (Ty.pair tInt
                                                                    (Ty.pair tInt
                                                                      (Ty.pair tInt
                                                                        (Ty.pair tInt
                                                                          (Ty.pair tTrigger
                                                                            (Ty.pair Ty.str
                                                                              (Ty.pair tInt Ty.unit))))))))))))))))) ≤
                                        most)
                                      (TreeS.req True
                                        (TreeS.all (den (Ty.pair tInt (Ty.pair tInt Ty.unit)))
                                          (fun (q11 : den (Ty.pair tInt (Ty.pair tInt Ty.unit))) ↦
                                            q11 =
                                              g_Check
                                                (List.replicate 0 (zero tNote) ++ q4 ++
                                                  List.set
                                                    (List.set (List.replicate 2 (zero tNote)) 0
                                                      (4, 0,
                                                        Prod.fst
                                                          (Prod.snd
                                                            (Prod.snd
                                                              (zero
                                                                (Ty.pair tInt
                                                                  (Ty.pair tInt
                                                                    (Ty.pair tInt
                                                                      (Ty.pair tInt
                                                                        (Ty.pair tInt
                                                                          (Ty.pair tTrigger
                                                                            (Ty.pair Ty.str
                                                                              (Ty.pair tInt Ty.unit))))))))))),
                                                        n,
                                                        Prod.fst
                                                          (Prod.snd
                                                            (Prod.snd
                                                              (Prod.snd
                                                                (Prod.snd
                                                                  (zero
                                                                    (Ty.pair tInt
                                                                      (Ty.pair tInt
                                                                        (Ty.pair tInt
                                                                          (Ty.pair tInt
                                                                            (Ty.pair tInt
                                                                              (Ty.pair tTrigger
                                                                                (Ty.pair Ty.str
                                                                                  (Ty.pair tInt Ty.unit))))))))))))),
                                                        Prod.fst
                                                          (Prod.snd
                                                            (Prod.snd
                                                              (Prod.snd
                                                                (Prod.snd
                                                                  (Prod.snd
                                                                    (zero
                                                                      (Ty.pair tInt
                                                                        (Ty.pair tInt
                                                                          (Ty.pair tInt
                                                                            (Ty.pair tInt
                                                                              (Ty.pair tInt
                                                                                (Ty.pair tTrigger
                                                                                  (Ty.pair Ty.str
                                                                                    (Ty.pair tInt Ty.unit)))))))))))))),
                                                        q5,
                                                        Prod.snd
                                                          (Prod.snd
                                                            (Prod.snd
                                                              (Prod.snd
                                                                (Prod.snd
                                                                  (Prod.snd
                                                                    (Prod.snd
                                                                      (zero
                                                                        (Ty.pair tInt
                                                                          (Ty.pair tInt
                                                                            (Ty.pair tInt
                                                                              (Ty.pair tInt
                                                                                (Ty.pair tInt
                                                                                  (Ty.pair tTrigger
                                                                                    (Ty.pair Ty.str
                                                                                      (Ty.pair tInt
                                                                                        Ty.unit)))))))))))))))))
                                                    1
                                                    (4, 0,
                                                      Prod.fst
                                                        (Prod.snd
                                                          (Prod.snd
                                                            (zero
                                                              (Ty.pair tInt
                                                                (Ty.pair tInt
                                                                  (Ty.pair tInt
                                                                    (Ty.pair tInt
                                                                      (Ty.pair tInt
                                                                        (Ty.pair tTrigger
                                                                          (Ty.pair Ty.str
                                                                            (Ty.pair tInt Ty.unit))))))))))),
                                                      n,
                                                      Prod.fst
                                                        (Prod.snd
                                                          (Prod.snd
                                                            (Prod.snd
                                                              (Prod.snd
                                                                (zero
                                                                  (Ty.pair tInt
                                                                    (Ty.pair tInt
                                                                      (Ty.pair tInt
                                                                        (Ty.pair tInt
                                                                          (Ty.pair tInt
                                                                            (Ty.pair tTrigger
                                                                              (Ty.pair Ty.str
                                                                                (Ty.pair tInt Ty.unit))))))))))))),
                                                      Prod.fst
                                                        (Prod.snd
                                                          (Prod.snd
                                                            (Prod.snd
                                                              (Prod.snd
                                                                (Prod.snd
                                                                  (zero
                                                                    (Ty.pair tInt
                                                                      (Ty.pair tInt
                                                                        (Ty.pair tInt
                                                                          (Ty.pair tInt
                                                                            (Ty.pair tInt
                                                                              (Ty.pair tTrigger
                                                                                (Ty.pair Ty.str
                                                                                  (Ty.pair tInt Ty.unit)))))))))))))),
                                                      q5,
                                                      Prod.snd
                                                        (Prod.snd
                                                          (Prod.snd
                                                            (Prod.snd
                                                              (Prod.snd
                                                                (Prod.snd
                                                                  (Prod.snd
                                                                    (zero
                                                                      (Ty.pair tInt
                                                                        (Ty.pair tInt
                                                                          (Ty.pair tInt
                                                                            (Ty.pair tInt
                                                                              (Ty.pair tInt
                                                                                (Ty.pair tTrigger
                                                                                  (Ty.pair Ty.str
                                                                                    (Ty.pair tInt
                                                                                      Ty.unit))))))))))))))))))
                                          fun (q11 : den (Ty.pair tInt (Ty.pair tInt Ty.unit))) ↦
                                          TreeS.all (den tInt)
                                            (fun (q12 : den tInt) ↦
                                              q12 =
                                                Prod.fst
                                                  (g_Check
                                                    (List.replicate 0 (zero tNote) ++ q4 ++
                                                      List.set
                                                        (List.set (List.replicate 2 (zero tNote)) 0
                                                          (4, 0,
                                                            Prod.fst
                                                              (Prod.snd
                                                                (Prod.snd
                                                                  (zero
                                                                    (Ty.pair tInt
                                                                      (Ty.pair tInt
                                                                        (Ty.pair tInt
                                                                          (Ty.pair tInt
                                                                            (Ty.pair tInt
                                                                              (Ty.pair tTrigger
                                                                                (Ty.pair Ty.str
                                                                                  (Ty.pair tInt Ty.unit))))))))))),
                                                            n,
                                                            Prod.fst
                                                              (Prod.snd
                                                                (Prod.snd
                                                                  (Prod.snd
                                                                    (Prod.snd
                                                                      (zero
                                                                        (Ty.pair tInt
                                                                          (Ty.pair tInt
                                                                            (Ty.pair tInt
                                                                              (Ty.pair tInt
                                                                                (Ty.pair tInt
                                                                                  (Ty.pair tTrigger
                                                                                    (Ty.pair Ty.str
                                                                                      (Ty.pair tInt
                                                                                        Ty.unit))))))))))))),
                                                            Prod.fst
                                                              (Prod.snd
                                                                (Prod.snd
                                                                  (Prod.snd
                                                                    (Prod.snd
                                                                      (Prod.snd
                                                                        (zero
                                                                          (Ty.pair tInt
                                                                            (Ty.pair tInt
                                                                              (Ty.pair tInt
                                                                                (Ty.pair tInt
                                                                                  (Ty.pair tInt
                                                                                    (Ty.pair tTrigger
                                                                                      (Ty.pair Ty.str
                                                                                        (Ty.pair tInt
                                                                                          Ty.unit)))))))))))))),
                                                            q5,
                                                            Prod.snd
                                                              (Prod.snd
                                                                (Prod.snd
                                                                  (Prod.snd
                                                                    (Prod.snd
                                                                      (Prod.snd
                                                                        (Prod.snd
                                                                          (zero
                                                                            (Ty.pair tInt
                                                                              (Ty.pair tInt
                                                                                (Ty.pair tInt
                                                                                  (Ty.pair tInt
                                                                                    (Ty.pair tInt
                                                                                      (Ty.pair tTrigger
                                                                                        (Ty.pair Ty.str
                                                                                          (Ty.pair tInt
                                                                                            Ty.unit)))))))))))))))))
                                                        1
                                                        (4, 0,
                                                          Prod.fst
                                                            (Prod.snd
                                                              (Prod.snd
                                                                (zero
                                                                  (Ty.pair tInt
                                                                    (Ty.pair tInt
                                                                      (Ty.pair tInt
                                                                        (Ty.pair tInt
                                                                          (Ty.pair tInt
                                                                            (Ty.pair tTrigger
                                                                              (Ty.pair Ty.str
                                                                                (Ty.pair tInt Ty.unit))))))))))),
                                                          n,
                                                          Prod.fst
                                                            (Prod.snd
                                                              (Prod.snd
                                                                (Prod.snd
                                                                  (Prod.snd
                                                                    (zero
                                                                      (Ty.pair tInt
                                                                        (Ty.pair tInt
                                                                          (Ty.pair tInt
                                                                            (Ty.pair tInt
                                                                              (Ty.pair tInt
                                                                                (Ty.pair tTrigger
                                                                                  (Ty.pair Ty.str
                                                                                    (Ty.pair tInt Ty.unit))))))))))))),
                                                          Prod.fst
                                                            (Prod.snd
                                                              (Prod.snd
                                                                (Prod.snd
                                                                  (Prod.snd
                                                                    (Prod.snd
                                                                      (zero
                                                                        (Ty.pair tInt
                                                                          (Ty.pair tInt
                                                                            (Ty.pair tInt
                                                                              (Ty.pair tInt
                                                                                (Ty.pair tInt
                                                                                  (Ty.pair tTrigger
                                                                                    (Ty.pair Ty.str
                                                                                      (Ty.pair tInt
                                                                                        Ty.unit)))))))))))))),
                                                          q5,
                                                          Prod.snd
                                                            (Prod.snd
                                                              (Prod.snd
                                                                (Prod.snd
                                                                  (Prod.snd
                                                                    (Prod.snd
                                                                      (Prod.snd
                                                                        (zero
                                                                          (Ty.pair tInt
                                                                            (Ty.pair tInt
                                                                              (Ty.pair tInt
                                                                                (Ty.pair tInt
                                                                                  (Ty.pair tInt
                                                                                    (Ty.pair tTrigger
                                                                                      (Ty.pair Ty.str
                                                                                        (Ty.pair tInt
                                                                                          Ty.unit)))))))))))))))))))
                                            fun (q12 : den tInt) ↦
                                            TreeS.all (den tInt)
                                              (fun (q13 : den tInt) ↦
                                                q13 =
                                                  Prod.fst
                                                    (Prod.snd
                                                      (g_Check
                                                        (List.replicate 0 (zero tNote) ++ q4 ++
                                                          List.set
                                                            (List.set (List.replicate 2 (zero tNote)) 0
                                                              (4, 0,
                                                                Prod.fst
                                                                  (Prod.snd
                                                                    (Prod.snd
                                                                      (zero
                                                                        (Ty.pair tInt
                                                                          (Ty.pair tInt
                                                                            (Ty.pair tInt
                                                                              (Ty.pair tInt
                                                                                (Ty.pair tInt
                                                                                  (Ty.pair tTrigger
                                                                                    (Ty.pair Ty.str
                                                                                      (Ty.pair tInt Ty.unit))))))))))),
                                                                n,
                                                                Prod.fst
                                                                  (Prod.snd
                                                                    (Prod.snd
                                                                      (Prod.snd
                                                                        (Prod.snd
                                                                          (zero
                                                                            (Ty.pair tInt
                                                                              (Ty.pair tInt
                                                                                (Ty.pair tInt
                                                                                  (Ty.pair tInt
                                                                                    (Ty.pair tInt
                                                                                      (Ty.pair tTrigger
                                                                                        (Ty.pair Ty.str
                                                                                          (Ty.pair tInt
                                                                                            Ty.unit))))))))))))),
                                                                Prod.fst
                                                                  (Prod.snd
                                                                    (Prod.snd
                                                                      (Prod.snd
                                                                        (Prod.snd
                                                                          (Prod.snd
                                                                            (zero
                                                                              (Ty.pair tInt
                                                                                (Ty.pair tInt
                                                                                  (Ty.pair tInt
                                                                                    (Ty.pair tInt
                                                                                      (Ty.pair tInt
                                                                                        (Ty.pair tTrigger
                                                                                          (Ty.pair Ty.str
                                                                                            (Ty.pair tInt
                                                                                              Ty.unit)))))))))))))),
                                                                q5,
                                                                Prod.snd
                                                                  (Prod.snd
                                                                    (Prod.snd
                                                                      (Prod.snd
                                                                        (Prod.snd
                                                                          (Prod.snd
                                                                            (Prod.snd
                                                                              (zero
                                                                                (Ty.pair tInt
                                                                                  (Ty.pair tInt
                                                                                    (Ty.pair tInt
                                                                                      (Ty.pair tInt
                                                                                        (Ty.pair tInt
                                                                                          (Ty.pair tTrigger
                                                                                            (Ty.pair Ty.str
                                                                                              (Ty.pair tInt
                                                                                                Ty.unit)))))))))))))))))
                                                            1
                                                            (4, 0,
                                                              Prod.fst
                                                                (Prod.snd
                                                                  (Prod.snd
                                                                    (zero
                                                                      (Ty.pair tInt
                                                                        (Ty.pair tInt
                                                                          (Ty.pair tInt
                                                                            (Ty.pair tInt
                                                                              (Ty.pair tInt
                                                                                (Ty.pair tTrigger
                                                                                  (Ty.pair Ty.str
                                                                                    (Ty.pair tInt Ty.unit))))))))))),
                                                              n,
                                                              Prod.fst
                                                                (Prod.snd
                                                                  (Prod.snd
                                                                    (Prod.snd
                                                                      (Prod.snd
                                                                        (zero
                                                                          (Ty.pair tInt
                                                                            (Ty.pair tInt
                                                                              (Ty.pair tInt
                                                                                (Ty.pair tInt
                                                                                  (Ty.pair tInt
                                                                                    (Ty.pair tTrigger
                                                                                      (Ty.pair Ty.str
                                                                                        (Ty.pair tInt
                                                                                          Ty.unit))))))))))))),
                                                              Prod.fst
                                                                (Prod.snd
                                                                  (Prod.snd
                                                                    (Prod.snd
                                                                      (Prod.snd
                                                                        (Prod.snd
                                                                          (zero
                                                                            (Ty.pair tInt
                                                                              (Ty.pair tInt
                                                                                (Ty.pair tInt
                                                                                  (Ty.pair tInt
                                                                                    (Ty.pair tInt
                                                                                      (Ty.pair tTrigger
                                                                                        (Ty.pair Ty.str
                                                                                          (Ty.pair tInt
                                                                                            Ty.unit)))))))))))))),
                                                              q5,
                                                              Prod.snd
                                                                (Prod.snd
                                                                  (Prod.snd
                                                                    (Prod.snd
                                                                      (Prod.snd
                                                                        (Prod.snd
                                                                          (Prod.snd
                                                                            (zero
                                                                              (Ty.pair tInt
                                                                                (Ty.pair tInt
                                                                                  (Ty.pair tInt
                                                                                    (Ty.pair tInt
                                                                                      (Ty.pair tInt
                                                                                        (Ty.pair tTrigger
                                                                                          (Ty.pair Ty.str
                                                                                            (Ty.pair tInt
                                                                                              Ty.unit))))))))))))))))))))
                                              fun (q13 : den tInt) ↦
                                              TreeS.req
                                                (impl
                                                  [(bif
                                                          bif !eqO (decide (q10 = 0)) (decide (q13 = 0)) then true
                                                          else
                                                            bif decide (q10 = 0) then
                                                              bif
                                                                  !decide
                                                                      (q9 =
                                                                        IntKind.wrap IntKind.i64 (Prod.fst q6 + 1)) then
                                                                true
                                                              else
                                                                !decide
                                                                    (q12 = IntKind.wrap IntKind.i64 (Prod.fst q6 + 2))
                                                            else false then
                                                        true
                                                      else
                                                        bif !decide (q10 = 0) then
                                                          bif !decide (q9 = Prod.fst q6) then true
                                                          else !decide (q12 = Prod.fst q6)
                                                        else false,
                                                      false)]
                                                  True)
                                                (TreeS.ite
                                                  (bif
                                                      bif
                                                          bif !eqO (decide (q10 = 0)) (decide (q13 = 0)) then true
                                                          else
                                                            bif decide (q10 = 0) then
                                                              bif
                                                                  !decide
                                                                      (q9 =
                                                                        IntKind.wrap IntKind.i64 (Prod.fst q6 + 1)) then
                                                                true
                                                              else
                                                                !decide
                                                                    (q12 = IntKind.wrap IntKind.i64 (Prod.fst q6 + 2))
                                                            else false then
                                                        true
                                                      else
                                                        bif !decide (q10 = 0) then
                                                          bif !decide (q9 = Prod.fst q6) then true
                                                          else !decide (q12 = Prod.fst q6)
                                                        else false then
                                                    true
                                                  else !true)
                                                  (TreeS.ret (K.val (Ty.pair Ty.bool Ty.unit) (false, PUnit.unit)))
                                                  (TreeS.req (List.length (List.replicate 0 (zero tNote) ++ q4) ≤ most)
                                                    (TreeS.req
                                                      (List.length
                                                          (List.replicate 0 (zero tNote) ++ q4 ++
                                                            List.set (List.replicate 1 (zero tNote)) 0
                                                              (1, 0,
                                                                Prod.fst
                                                                  (Prod.snd
                                                                    (Prod.snd
                                                                      (zero
                                                                        (Ty.pair tInt
                                                                          (Ty.pair tInt
                                                                            (Ty.pair tInt
                                                                              (Ty.pair tInt
                                                                                (Ty.pair tInt
                                                                                  (Ty.pair tTrigger
                                                                                    (Ty.pair Ty.str
                                                                                      (Ty.pair tInt Ty.unit))))))))))),
                                                                Prod.fst
                                                                  (Prod.snd
                                                                    (Prod.snd
                                                                      (Prod.snd
                                                                        (zero
                                                                          (Ty.pair tInt
                                                                            (Ty.pair tInt
                                                                              (Ty.pair tInt
                                                                                (Ty.pair tInt
                                                                                  (Ty.pair tInt
                                                                                    (Ty.pair tTrigger
                                                                                      (Ty.pair Ty.str
                                                                                        (Ty.pair tInt
                                                                                          Ty.unit)))))))))))),
                                                                n,
                                                                Prod.fst
                                                                  (Prod.snd
                                                                    (Prod.snd
                                                                      (Prod.snd
                                                                        (Prod.snd
                                                                          (Prod.snd
                                                                            (zero
                                                                              (Ty.pair tInt
                                                                                (Ty.pair tInt
                                                                                  (Ty.pair tInt
                                                                                    (Ty.pair tInt
                                                                                      (Ty.pair tInt
                                                                                        (Ty.pair tTrigger
                                                                                          (Ty.pair Ty.str
                                                                                            (Ty.pair tInt
                                                                                              Ty.unit)))))))))))))),
                                                                q5,
                                                                Prod.snd
                                                                  (Prod.snd
                                                                    (Prod.snd
                                                                      (Prod.snd
                                                                        (Prod.snd
                                                                          (Prod.snd
                                                                            (Prod.snd
                                                                              (zero
                                                                                (Ty.pair tInt
                                                                                  (Ty.pair tInt
                                                                                    (Ty.pair tInt
                                                                                      (Ty.pair tInt
                                                                                        (Ty.pair tInt
                                                                                          (Ty.pair tTrigger
                                                                                            (Ty.pair Ty.str
                                                                                              (Ty.pair tInt
                                                                                                Ty.unit))))))))))))))))) ≤
                                                        most)
                                                      (TreeS.req True
                                                        (TreeS.all (den (Ty.pair tInt (Ty.pair tInt Ty.unit)))
                                                          (fun (q14 : den (Ty.pair tInt (Ty.pair tInt Ty.unit))) ↦
                                                            q14 =
                                                              g_Check
                                                                (List.replicate 0 (zero tNote) ++ q4 ++
                                                                  List.set (List.replicate 1 (zero tNote)) 0
                                                                    (1, 0,
                                                                      Prod.fst
                                                                        (Prod.snd
                                                                          (Prod.snd
                                                                            (zero
                                                                              (Ty.pair tInt
                                                                                (Ty.pair tInt
                                                                                  (Ty.pair tInt
                                                                                    (Ty.pair tInt
                                                                                      (Ty.pair tInt
                                                                                        (Ty.pair tTrigger
                                                                                          (Ty.pair Ty.str
                                                                                            (Ty.pair tInt
                                                                                              Ty.unit))))))))))),
                                                                      Prod.fst
                                                                        (Prod.snd
                                                                          (Prod.snd
                                                                            (Prod.snd
                                                                              (zero
                                                                                (Ty.pair tInt
                                                                                  (Ty.pair tInt
                                                                                    (Ty.pair tInt
                                                                                      (Ty.pair tInt
                                                                                        (Ty.pair tInt
                                                                                          (Ty.pair tTrigger
                                                                                            (Ty.pair Ty.str
                                                                                              (Ty.pair tInt
                                                                                                Ty.unit)))))))))))),
                                                                      n,
                                                                      Prod.fst
                                                                        (Prod.snd
                                                                          (Prod.snd
                                                                            (Prod.snd
                                                                              (Prod.snd
                                                                                (Prod.snd
                                                                                  (zero
                                                                                    (Ty.pair tInt
                                                                                      (Ty.pair tInt
                                                                                        (Ty.pair tInt
                                                                                          (Ty.pair tInt
                                                                                            (Ty.pair tInt
                                                                                              (Ty.pair tTrigger
                                                                                                (Ty.pair Ty.str
                                                                                                  (Ty.pair tInt
                                                                                                    Ty.unit)))))))))))))),
                                                                      q5,
                                                                      Prod.snd
                                                                        (Prod.snd
                                                                          (Prod.snd
                                                                            (Prod.snd
                                                                              (Prod.snd
                                                                                (Prod.snd
                                                                                  (Prod.snd
                                                                                    (zero
                                                                                      (Ty.pair tInt
                                                                                        (Ty.pair tInt
                                                                                          (Ty.pair tInt
                                                                                            (Ty.pair tInt
                                                                                              (Ty.pair tInt
                                                                                                (Ty.pair tTrigger
                                                                                                  (Ty.pair Ty.str
                                                                                                    (Ty.pair tInt
                                                                                                      Ty.unit))))))))))))))))))
                                                          fun (q14 : den (Ty.pair tInt (Ty.pair tInt Ty.unit))) ↦
                                                          TreeS.ite (!decide (Prod.fst (Prod.snd q14) = 0))
                                                            (TreeS.ret
                                                              (K.val (Ty.pair Ty.bool Ty.unit)
                                                                (decide (Prod.fst (Prod.snd q14) = 11), PUnit.unit)))
                                                            (TreeS.req True
                                                              (TreeS.all (den (Ty.pair tInt (Ty.pair tInt Ty.unit)))
                                                                (fun (q15 : den (Ty.pair tInt (Ty.pair tInt Ty.unit))) ↦
                                                                  q15 =
                                                                    g_Cost
                                                                      (List.replicate 0 (zero tNote) ++ q4 ++
                                                                        List.set (List.replicate 1 (zero tNote)) 0
                                                                          (1, 0,
                                                                            Prod.fst
                                                                              (Prod.snd
                                                                                (Prod.snd
                                                                                  (zero
                                                                                    (Ty.pair tInt
                                                                                      (Ty.pair tInt
                                                                                        (Ty.pair tInt
                                                                                          (Ty.pair tInt
                                                                                            (Ty.pair tInt
                                                                                              (Ty.pair tTrigger
                                                                                                (Ty.pair Ty.str
                                                                                                  (Ty.pair tInt
                                                                                                    Ty.unit))))))))))),
                                                                            Prod.fst
                                                                              (Prod.snd
                                                                                (Prod.snd
                                                                                  (Prod.snd
                                                                                    (zero
                                                                                      (Ty.pair tInt
                                                                                        (Ty.pair tInt
                                                                                          (Ty.pair tInt
                                                                                            (Ty.pair tInt
                                                                                              (Ty.pair tInt
                                                                                                (Ty.pair tTrigger
                                                                                                  (Ty.pair Ty.str
                                                                                                    (Ty.pair tInt
                                                                                                      Ty.unit)))))))))))),
                                                                            n,
                                                                            Prod.fst
                                                                              (Prod.snd
                                                                                (Prod.snd
                                                                                  (Prod.snd
                                                                                    (Prod.snd
                                                                                      (Prod.snd
                                                                                        (zero
                                                                                          (Ty.pair tInt
                                                                                            (Ty.pair tInt
                                                                                              (Ty.pair tInt
                                                                                                (Ty.pair tInt
                                                                                                  (Ty.pair tInt
                                                                                                    (Ty.pair tTrigger
                                                                                                      (Ty.pair Ty.str
                                                                                                        (Ty.pair tInt
                                                                                                          Ty.unit)))))))))))))),
                                                                            q5,
                                                                            Prod.snd
                                                                              (Prod.snd
                                                                                (Prod.snd
                                                                                  (Prod.snd
                                                                                    (Prod.snd
                                                                                      (Prod.snd
                                                                                        (Prod.snd
                                                                                          (zero
                                                                                            (Ty.pair tInt
                                                                                              (Ty.pair tInt
                                                                                                (Ty.pair tInt
                                                                                                  (Ty.pair tInt
                                                                                                    (Ty.pair tInt
                                                                                                      (Ty.pair tTrigger
                                                                                                        (Ty.pair Ty.str
                                                                                                          (Ty.pair tInt
                                                                                                            Ty.unit)))))))))))))))))
                                                                      n)
                                                                fun (q15 : den (Ty.pair tInt (Ty.pair tInt Ty.unit))) ↦
                                                                TreeS.ret
                                                                  (K.val (Ty.pair Ty.bool Ty.unit)
                                                                    (bif
                                                                          bif
                                                                              bif
                                                                                  decide
                                                                                    (Prod.fst (Prod.snd q15) = 0) then
                                                                                decide (Prod.fst q15 = 1)
                                                                              else false then
                                                                            decide (Prod.fst (Prod.snd q7) = 6)
                                                                          else false then
                                                                        decide (Prod.fst q7 = 0)
                                                                      else false,
                                                                      PUnit.unit)))))))))))))))))))))
theorem T_l20_TraceAdds_eq (l : den (Ty.slc tNote)) (n : den tInt) (d : den Ty.str) : treeS X_l20_TraceAdds M_l20_TraceAdds 5000 [] fx_l20_TraceAdds (bodyOf f_l20_TraceAdds) (Env.of
  (argEnv as_l20_TraceAdds (l, n, d, ()) 0) []) = T_l20_TraceAdds l n d := by kernel_rfl

end Go.Proofs.Ytainieginijaaaa
