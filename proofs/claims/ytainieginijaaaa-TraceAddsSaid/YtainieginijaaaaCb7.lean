/- Part 7 of 7 of what this claim's proof stands on: a theory of programs on data, and the contracts of the functions that the law reaches. It holds no condition of its own. -/
import Derived.Test.YtainieginijaaaaCb6

/- Notes that are justified are so without what is behind; what a chain has was admitted ahead of the note. -/
namespace Go.Proofs.Ytainieginijaaaa
open Go Go.RowKit

/-! ### The plain law -/

theorem run_bad : ∀ {l : List Nt} {j i : Nat} {b : Bk}, runB l j b = .inl i → j ≤ i ∧ i - j < l.length ∧ ∃ b', runB (l.take (i - j)) j b = .inr b'
  | [], j, i, b, h => by cases h
  | x :: l, j, i, b, h => by
    rw [runB] at h
    cases hs : stepB (decide (j = 0)) b x with
    | none =>
      rw [hs] at h
      cases h
      exact ⟨Nat.le_refl _, by simp, b, by rw [Nat.sub_self]; rfl⟩
    | some b1 =>
      rw [hs] at h
      obtain ⟨h1, h2, b', h3⟩ := run_bad h
      refine ⟨by omega, by rw [List.length_cons]; omega, b', ?_⟩
      rw [show i - j = (i - (j + 1)) + 1 by omega, List.take_succ_cons, runB, hs]
      exact h3

theorem run_take {l : List Nt} {b : Bk} (h : runB l 0 bk0 = .inr b) (k : Nat) : ∃ b', runB (l.take k) 0 bk0 = .inr b' ∧ runB (l.drop k) ((l.take k).length) b' = .inr b := by
  have := runB_append (l.take k) (l.drop k) 0 bk0
  rw [List.take_append_drop, h] at this
  cases hr : runB (l.take k) 0 bk0 with
  | inl j => rw [hr] at this; cases this
  | inr b' => rw [hr] at this; simp only [Nat.zero_add] at this; exact ⟨b', rfl, this.symm⟩

theorem check_ok {l : List Nt} (hl : l.length ≤ 1000) {b : Bk} (h : runB l 0 bk0 = .inr b) : g_Check l = ((l.length : Int), 0, ()) := by
  unfold g_Check; rw [if_neg (by omega), h]; rfl
theorem check_bad {l : List Nt} (hl : l.length ≤ 1000) {i : Nat} (h : runB l 0 bk0 = .inl i) : g_Check l = ((i : Int), 11, ()) := by
  unfold g_Check; rw [if_neg (by omega), h]; rfl

theorem has_app' (m e : List (Int × Lt)) {a : Int} (h : hasM m a = true) : hasM (m ++ e) a = true ∧ getM (m ++ e) a = getM m a := by
  unfold hasM mpHas at h ⊢
  unfold getM mpGet
  have : mpFind (k := tInt) (v := tTraceLetter) (m ++ e) a = mpFind (k := tInt) (v := tTraceLetter) m a := by
    unfold mpFind at h ⊢
    rw [List.find?_append]
    cases hf : m.find? (fun q : Int × Lt => eqb tInt a q.1) with
    | some q => rfl
    | none => rw [hf] at h; cases h
  rw [this]
  exact ⟨h, rfl⟩

theorem run_ext : ∀ {l : List Nt} {i : Nat} {b b' : Bk}, runB l i b = .inr b' → ∃ e, b'.1 = b.1 ++ e
  | [], i, b, b', h => by cases h; exact ⟨[], by simp⟩
  | x :: l, i, b, b', h => by
    rw [runB] at h
    cases hs : stepB (decide (i = 0)) b x with
    | none => rw [hs] at h; cases h
    | some b1 =>
      rw [hs] at h
      obtain ⟨e, he⟩ := run_ext h
      have : ∃ e1, b1.1 = b.1 ++ e1 := by
        rcases (step_cases hs).2 with ⟨_, _, _, rfl⟩ | ⟨_, rfl⟩ | ⟨_, _, _, _, _, rfl⟩ | ⟨_, _, _, rfl⟩ | ⟨_, rfl⟩
        · exact ⟨_, rfl⟩
        · exact ⟨[], by simp⟩
        · exact ⟨_, rfl⟩
        · exact ⟨[], by simp⟩
        · exact ⟨[], by simp⟩
      obtain ⟨e1, h1⟩ := this
      exact ⟨e1 ++ e, by rw [he, h1, List.append_assoc]⟩

/-- Was a trigger admitted? -/
def admIn (l : List Nt) (z : Tr) : Prop := ∃ y ∈ l, kdN y = 2 ∧ trN y = z

structure Ad (l : List Nt) (b : Bk) : Prop where
  adm : ∀ z ∈ b.2.1, admIn l z
  by_ : ∀ a, hasM b.1 a = true → byL (getM b.1 a) = zero tTrigger ∨ admIn l (byL (getM b.1 a))

theorem admIn_app {l m : List Nt} {z : Tr} (h : admIn l z) : admIn (l ++ m) z := by
  obtain ⟨y, hy, h1⟩ := h
  exact ⟨y, List.mem_append_left _ hy, h1⟩

theorem ad_step {l : List Nt} {b b' : Bk} {f : Bool} {x : Nt} (h : stepB f b x = some b') (ha : Ad l b) : Ad (l ++ [x]) b' := by
  have old : ∀ a, hasM b.1 a = true → byL (getM b.1 a) = zero tTrigger ∨ admIn (l ++ [x]) (byL (getM b.1 a)) := fun a h => (ha.by_ a h).imp id admIn_app
  have oldA : ∀ z ∈ b.2.1, admIn (l ++ [x]) z := fun z hz => admIn_app (ha.adm z hz)
  rcases (step_cases h).2 with ⟨_, _, h1, rfl⟩ | ⟨h1, rfl⟩ | ⟨_, _, _, h1, h2, rfl⟩ | ⟨_, _, _, rfl⟩ | ⟨_, rfl⟩
  · refine ⟨oldA, fun a hh => ?_⟩
    cases hb : hasM b.1 a with
    | true => rw [get_old hb]; exact old a hb
    | false =>
      have hh : hasM (b.1 ++ _) a = true := hh
      rw [has_app, hb, Bool.false_or] at hh
      have e := of_decide_eq_true hh
      subst e
      rw [get_new hb]
      exact .inl rfl
  · refine ⟨fun z hz => ?_, old⟩
    rcases List.mem_append.1 hz with hz | hz
    · exact oldA z hz
    · rw [List.mem_singleton.1 hz]
      exact ⟨x, by simp, h1, rfl⟩
  · refine ⟨oldA, fun a hh => ?_⟩
    cases hb : hasM b.1 a with
    | true => rw [get_old hb]; exact old a hb
    | false =>
      have hh : hasM (b.1 ++ _) a = true := hh
      rw [has_app, hb, Bool.false_or] at hh
      have e := of_decide_eq_true hh
      subst e
      rw [get_new hb]
      rcases h2 with ⟨h2, _⟩ | h2
      · exact .inr (oldA _ h2)
      · exact .inl h2
  · exact ⟨oldA, old⟩
  · exact ⟨oldA, old⟩

theorem ad_run : ∀ {l p : List Nt} {i : Nat} {b b' : Bk}, runB l i b = .inr b' → Ad p b → Ad (p ++ l) b'
  | [], p, i, b, b', h, ha => by cases h; simpa using ha
  | x :: l, p, i, b, b', h, ha => by
    rw [runB] at h
    cases hs : stepB (decide (i = 0)) b x with
    | none => rw [hs] at h; cases h
    | some b1 =>
      rw [hs] at h
      have := ad_run h (ad_step hs ha)
      rwa [List.append_assoc] at this

theorem ad_nil : Ad [] bk0 := ⟨fun _ h => (by cases h), fun a h => (by cases h)⟩

theorem walk_all (m m0 : List (Int × Lt)) (P : Tr → Prop) (h1 : ∀ a, hasM m0 a = true → getM m a = getM m0 a) (h2 : ∀ a, 0 < wasL (getM m0 a) → hasM m0 (wasL (getM m0 a)) = true)
    (h3 : ∀ a, hasM m0 a = true → byL (getM m0 a) = zero tTrigger ∨ P (byL (getM m0 a))) : ∀ (k : Nat) (no : Int) (out : List Tr), hasM m0 no = true → (∀ x ∈ out, P x) → ∀ x ∈ (walk m k no out).1, P x
  | 0, no, out, _, ho, x, hx => ho x hx
  | k + 1, no, out, hn, ho, x, hx => by
    rw [walk] at hx
    split at hx
    · rename_i hw
      rw [h1 no hn] at hw hx
      refine walk_all m m0 P h1 h2 h3 k _ _ (h2 no hw) (fun y hy => ?_) x hx
      split at hy
      · exact ho y hy
      · rename_i hz
        rcases List.mem_append.1 hy with hy | hy
        · exact ho y hy
        · rw [List.mem_singleton.1 hy]
          exact (h3 no hn).resolve_left hz
    · exact ho x hx

/-- What a chain has was admitted ahead of the note. -/
theorem chain_adm {l : List Nt} {b : Bk} (h : runB l 0 bk0 = .inr b) {k : Nat} (hk : k < l.length) (h4 : kdN l[k] = 4) : ∀ x ∈ (walk b.1 b.1.length (wasN l[k]) []).1, admIn (l.take k) x := by
  obtain ⟨b1, r1, r2⟩ := run_take h k
  rw [List.drop_eq_getElem_cons hk, runB] at r2
  cases hs : stepB (decide ((l.take k).length = 0)) b1 l[k] with
  | none => rw [hs] at r2; cases r2
  | some b2 =>
    rw [hs] at r2
    have r2 : runB (l.drop (k + 1)) ((l.take k).length + 1) b2 = .inr b := r2
    have hw : hasM b1.1 (wasN l[k]) = true ∧ b2.1 = b1.1 := by
      rcases (step_cases hs).2 with ⟨e, _⟩ | ⟨e, _⟩ | ⟨e, _⟩ | ⟨_, h1, _, rfl⟩ | ⟨e, _⟩
      · rw [h4] at e; exact absurd e (by decide)
      · rw [h4] at e; exact absurd e (by decide)
      · rw [h4] at e; exact absurd e (by decide)
      · exact ⟨h1, rfl⟩
      · rw [h4] at e; exact absurd e (by decide)
    obtain ⟨e, he⟩ := run_ext r2
    rw [hw.2] at he
    have had := ad_run r1 ad_nil
    rw [List.nil_append] at had
    obtain ⟨rk, _, hr⟩ := (run_fam r1 Fam.nil).rank
    exact walk_all b.1 b1.1 _ (fun a ha => by rw [he]; exact (has_app' b1.1 e ha).2) (fun a ha => (hr a ha).1) had.by_ _ _ [] hw.1 (fun _ h => by cases h)

/-! ### The contracts -/

theorem k_l20_alive : FnOk prog [] n_l20_alive S_l20_alive :=
  fnS_T (S := S_l20_alive) (x_l20_alive k_trace_Check k_trace_Chain) (fx := fx_l20_alive) at_l20_alive (by kernel_rfl) (fun _ _ => trivial) (T := fun _ => T_l20_alive) (fun _ => T_l20_alive_eq) fun O w0 _ _ _ => by
    refine ⟨trivial, fun q hq => ⟨trivial, fun q' hq' => ⟨_, rfl, ?_⟩⟩⟩
    have h1 : q = (2, 0, ()) := hq.trans (by kernel_rfl)
    have h2 : q' = ([], 3, 0, ()) := hq'.trans (by kernel_rfl)
    subst h1 h2
    rfl

/-- Which place. -/
def atK (m : Nat) (n : Int) : Nat := ((n.tmod (m + 1 : Nat) + m + 1).tmod (m + 1 : Nat)).toNat
theorem atK_spec {m : Nat} (hm : m ≤ 1000000) (n : Int) : Int.tmod (IntKind.wrap .i64 (IntKind.wrap .i64 (Int.tmod n (IntKind.wrap .i64 ((m : Int) + 1)) + m) + 1)) (IntKind.wrap .i64 ((m : Int) + 1)) = (atK m n : Nat) ∧ atK m n ≤ m ∧ IntKind.wrap .i64 ((m : Int) + 1) = ((m + 1 : Nat) : Int) := by
  have e : IntKind.wrap .i64 ((m : Int) + 1) = ((m + 1 : Nat) : Int) := by rw [small_i64 (by omega)]; omega
  have h1 : n.tmod (m + 1 : Nat) < (m + 1 : Nat) := Int.tmod_lt_of_pos n (by omega)
  have h2 : -((m + 1 : Nat) : Int) < n.tmod (m + 1 : Nat) := Int.lt_tmod_of_pos n (by omega)
  have h3 : 0 ≤ (n.tmod (m + 1 : Nat) + m + 1).tmod (m + 1 : Nat) := Int.tmod_nonneg _ (by omega)
  have h4 : (n.tmod (m + 1 : Nat) + m + 1).tmod (m + 1 : Nat) < (m + 1 : Nat) := Int.tmod_lt_of_pos _ (by omega)
  rw [e, small_i64 (n := n.tmod (m + 1 : Nat) + m) (by omega), small_i64 (n := n.tmod (m + 1 : Nat) + m + 1) (by omega)]
  unfold atK
  exact ⟨by omega, by omega, rfl⟩

def foundB (x : Tr) (y : Nt) : Bool := decide (kdN y = 2) && decide (trN y = x)

def gl_Begin_14 (O : Nat → Prop) (w0 : World) (l : List Nt) (k : Nat) (hk : k ≤ l.length) (hl : l.length ≤ 1000) (c : List Tr) (hc : c.length ≤ 1000000) (ha : ∀ x ∈ c, admIn (l.take k) x) :=
  PLift.up <| range_ind (σ := Unit) c.length (fun _ _ => True)
    (fun i _ => GoodS prog X_l20_TraceBeginnings (Cx.base O w0) (Ends prog O w0 rs_l20_TraceBeginnings fun y => y = (true, ())) [] fx_l20_TraceBeginnings (lp f_l20_TraceBeginnings 14) (E_l20_TraceBeginnings_14 l (k : Nat) c (lnx tTrigger c) (i : Nat)))
    (fun i u hi _ ih => goodS_of (x_l20_TraceBeginnings k_l20_few k_trace_Check k_trace_Chain k_l20_alive) (TL_l20_TraceBeginnings_14_eq l _ c _ _) (by
      have hcut : lCutx tNote l 0 (k : Nat) = l.take k := by show (l.take k).drop 0 = _; rw [List.drop_zero]
      have hlk : (l.take k).length = k := by rw [List.length_take]; omega
      refine ⟨fun _ => ⟨inB_of hi, ⟨Int.le_refl _, Int.natCast_nonneg _, Int.ofNat_le.2 hk⟩, ?_⟩, fun h => ?_⟩
      · rw [el_at hi]
        have inner := (PLift.up <| range_ind (σ := Bool) (l.take k).length (fun j s => s = ((l.take k).take j).any (foundB c[i]))
          (fun j s => GoodS prog X_l20_TraceBeginnings (Cx.base O w0) (Ends prog O w0 rs_l20_TraceBeginnings fun y => y = (true, ())) [] fx_l20_TraceBeginnings (lp f_l20_TraceBeginnings 18) (E_l20_TraceBeginnings_18 l (k : Nat) s c (lnx tTrigger c) (i : Nat) (l.take k) (lnx tNote (l.take k)) (j : Nat) c[i]))
          (fun j s hj hs ih2 => goodS_of (x_l20_TraceBeginnings k_l20_few k_trace_Check k_trace_Chain k_l20_alive) (TL_l20_TraceBeginnings_18_eq l _ s c _ _ (l.take k) _ _ c[i]) (by
            refine ⟨fun _ => ⟨inB_of hj, ?_⟩, fun h => ?_⟩
            · rw [el_at hj, wr_idx hj (by omega), eqb_tr]
              refine ih2 _ ?_
              rw [List.take_succ_eq_append_getElem hj, List.any_append, ← hs, List.any_cons, List.any_nil, Bool.or_false, foundB]
              cases s <;> cases decide (kdN (l.take k)[j] = 2) <;> rfl
            · rw [lnx_nat] at h
              exact absurd hj (of_decide_eq_false h)))
          (fun s hs => goodS_of (x_l20_TraceBeginnings k_l20_few k_trace_Check k_trace_Chain k_l20_alive) (TL_l20_TraceBeginnings_18_eq l _ s c _ _ (l.take k) _ _ c[i]) (by
            have hs : s = ((l.take k).take (l.take k).length).any (foundB c[i]) := hs
            rw [List.take_length] at hs
            have ht : s = true := by
              obtain ⟨y, hy, h1, h2⟩ := ha _ (List.getElem_mem hi)
              rw [hs, List.any_eq_true]
              exact ⟨y, hy, by unfold foundB; rw [decide_eq_true h1, decide_eq_true h2]; rfl⟩
            subst ht
            refine ⟨fun h => ?_, fun _ => ⟨fun h => (by cases h), fun _ => ?_⟩⟩
            · rw [lnx_nat] at h
              exact absurd (of_decide_eq_true h) (Nat.lt_irrefl _)
            · rw [wr_idx hi (by omega)]
              exact ih () trivial))).down 0 false (Nat.zero_le _) rfl
        rw [← hcut] at inner
        exact inner
      · rw [lnx_nat] at h
        exact absurd hi (of_decide_eq_false h)))
    (fun u _ => goodS_of (x_l20_TraceBeginnings k_l20_few k_trace_Check k_trace_Chain k_l20_alive) (TL_l20_TraceBeginnings_14_eq l _ c _ _) (by
      refine ⟨fun h => ?_, fun _ => ⟨_, rfl, rfl⟩⟩
      rw [lnx_nat] at h
      exact absurd (of_decide_eq_true h) (Nat.lt_irrefl _)))

theorem few_len (l : List Nt) : (g_few l).length ≤ 40 := by unfold g_few; rw [List.length_map, List.length_take]; omega

theorem walk_len (m : List (Int × Lt)) : ∀ (k : Nat) (no : Int) (out : List Tr), (walk m k no out).1.length ≤ out.length + k
  | 0, no, out => Nat.le_refl _
  | k + 1, no, out => by
    rw [walk]
    split
    · have := walk_len m k (wasL (getM m no)) (if byL (getM m no) = zero tTrigger then out else out ++ [byL (getM m no)])
      have hb : (if byL (getM m no) = zero tTrigger then out else out ++ [byL (getM m no)]).length ≤ out.length + 1 := by
        split
        · omega
        · rw [List.length_append]; exact Nat.le_refl _
      omega
    · show out.length ≤ out.length + (k + 1); omega

theorem k_l20_TraceBeginnings : FnOk prog [] n_l20_TraceBeginnings (lawS as_l20_TraceBeginnings) :=
  fnS_T (S := lawS as_l20_TraceBeginnings) (x_l20_TraceBeginnings k_l20_few k_trace_Check k_trace_Chain k_l20_alive) (fx := fx_l20_TraceBeginnings) at_l20_TraceBeginnings (by kernel_rfl) (fun _ _ => trivial) (T := fun x => T_l20_TraceBeginnings x.1 x.2.1) (fun x => T_l20_TraceBeginnings_eq x.1 x.2.1) fun O w0 x _ _ => by
    obtain ⟨l0, n, ⟨⟩⟩ := x
    refine ⟨trivial, fun l hl => ⟨trivial, fun q hq => ?_⟩⟩
    have hlen : l.length ≤ 40 := by have hl : l = g_few l0 := hl; rw [hl]; exact few_len l0
    clear hl
    cases hr : runB l 0 bk0 with
    | inl i =>
      have hq : q = ((i : Int), (11 : Int), ()) := hq.trans (check_bad (by omega) hr)
      subst hq
      obtain ⟨_, h2, b', h3⟩ := run_bad hr
      rw [Nat.sub_zero] at h2 h3
      have ecut : minI (maxI ((i : Nat) : Int) 0) (lnx tNote l) = (i : Nat) := by rw [lnx_eq]; unfold minI maxI; split <;> split <;> omega
      refine ⟨fun _ => ⟨?_, trivial, fun q' hq' => ⟨trivial, fun b hb => ⟨_, rfl, ?_⟩⟩⟩, fun h => absurd (show true = false from h) (by decide)⟩
      · show cutOk 0 (minI (maxI ((i : Nat) : Int) 0) (lnx tNote l)) (lnx tNote l)
        rw [ecut]
        exact ⟨Int.le_refl _, Int.natCast_nonneg _, Int.ofNat_le.2 (by omega)⟩
      · have hcut : lCutx tNote l 0 (minI (maxI ((i : Nat) : Int) 0) (lnx tNote l)) = l.take i := by rw [ecut]; show (l.take i).drop 0 = _; rw [List.drop_zero]
        have hli : (l.take i).length = i := by rw [List.length_take]; omega
        have hq' : q' = ((i : Int), (0 : Int), ()) := hq'.trans (by
          show g_Check (lCutx tNote l 0 (minI (maxI ((i : Nat) : Int) 0) (lnx tNote l))) = _
          rw [hcut, check_ok (by omega) h3, hli])
        have hb : b = true := hb
        subst hb hq'
        show ((bif bif bif true then decide ((11 : Int) = 11) else false then decide ((0 : Int) = 0) else false then decide (((i : Nat) : Int) = (i : Nat)) else false), PUnit.unit) = (true, ())
        rw [decide_eq_true (rfl : ((i : Nat) : Int) = (i : Nat))]; rfl
    | inr b =>
      have hq : q = ((l.length : Int), (0 : Int), ()) := hq.trans (check_ok (by omega) hr)
      subst hq
      obtain ⟨a1, a2, a3⟩ := atK_spec (m := l.length) (by omega) n
      generalize atK l.length n = k at a1 a2
      have hlx : lnx tNote l = (l.length : Int) := rfl
      rw [hlx, a1, a3]
      have hnz : nz ((l.length + 1 : Nat) : Int) := by show ((l.length + 1 : Nat) : Int) ≠ 0; omega
      have hcut : lCutx tNote l 0 (k : Nat) = l.take k := by show (l.take k).drop 0 = _; rw [List.drop_zero]
      have hlk : (l.take k).length = k := by rw [List.length_take]; omega
      obtain ⟨b1, r1, _⟩ := run_take hr k
      refine ⟨fun h => absurd (show false = true from h) (by decide), fun _ => ⟨hnz, hnz, ⟨Int.le_refl _, Int.natCast_nonneg _, Int.ofNat_le.2 a2⟩, trivial, fun q' hq' => ?_⟩⟩
      have hq' : q' = ((k : Int), (0 : Int), ()) := hq'.trans (by rw [hcut, check_ok (by omega) r1, hlk])
      subst hq'
      refine ⟨fun _ => trivial, fun h => ?_, fun _ => ⟨trivial, fun c hc => ?_⟩⟩
      · have h : (bif (bif !decide ((0 : Int) = 0) then true else !decide (((k : Nat) : Int) = (k : Nat))) then true else !true) = true := h
        rw [decide_eq_true (rfl : ((k : Nat) : Int) = (k : Nat))] at h
        cases h
      · have hc : c = g_Chain l (k : Nat) := hc
        have hc : c = resChain l (k : Nat) (.inr b) := by rw [hc]; unfold g_Chain; rw [if_neg (by omega), hr]
        cases hbad : badAt l (k : Nat) with
        | true =>
          have hc : c = ([], 0, 6, ()) := hc.trans (if_pos hbad)
          subst hc
          exact ⟨fun _ => ⟨_, rfl, rfl⟩, fun h => absurd h (by decide)⟩
        | false =>
          have hc : c = ((walk b.1 b.1.length (wasN (el tNote l (k : Nat))) []).1.reverse, mpGet (k := tInt) (v := tInt) b.2.2.1 (walk b.1 b.1.length (wasN (el tNote l (k : Nat))) []).2, 0, ()) := hc.trans (if_neg (neT hbad))
          obtain ⟨_, hin⟩ := badAt_in' hbad
          have hkl : k < l.length := by have hin : ((k : Nat) : Int) < (l.length : Int) := hin; omega
          rw [el_at hkl] at hc
          have h4 : kdN l[k] = 4 := by
            unfold badAt at hbad
            rw [el_at hkl] at hbad
            cases h4 : decide (kdN l[k] = 4) with
            | true => exact of_decide_eq_true h4
            | false =>
              rw [h4] at hbad
              cases h5 : (bif decide (((k : Nat) : Int) < 0) then true else decide (lnx tNote l ≤ ((k : Nat) : Int))) <;> (rw [h5] at hbad; cases hbad)
          have hadm := chain_adm hr hkl h4
          subst hc
          refine ⟨fun h => absurd (show false = true from h) (by decide), fun _ => ?_⟩
          exact (gl_Begin_14 O w0 l k a2 (by omega) _ (by
            have h1 := walk_len b.1 b.1.length (wasN l[k]) []
            have h2 := run_len hr
            simp [bk0] at h1 h2 ⊢
            omega) (fun x hx => hadm x (List.mem_reverse.1 hx))).down 0 () (Nat.zero_le _) trivial

end Go.Proofs.Ytainieginijaaaa

/- What a letter caused; notes that are added. -/
namespace Go.Proofs.Ytainieginijaaaa
open Go Go.RowKit

abbrev hasW (m : List (Int × Int)) (n : Int) : Bool := mpHas (k := tInt) (v := tInt) m n
def cntF (n : Int) (m : List (Int × Lt)) : Int := ((m.filter fun e => decide (firstL e.2 = n)).length : Nat)
def resCost (n : Int) : Nat ⊕ Bk → Int × Int × Unit
  | .inl _ => (0, 11, ())
  | .inr b => if (!hasW b.2.2.1 n) = true then (0, 6, ()) else (cntF n b.1, 0, ())

theorem cnt_erase (p : Int × Lt → Bool) : ∀ (l : List (Int × Lt)) (q : Nat) (h : q < l.length), (l.filter p).length = ((l.eraseIdx q).filter p).length + (if p l[q] then 1 else 0)
  | x :: l, 0, h => by
    rw [List.eraseIdx_cons_zero, List.filter_cons]
    show _ = _ + (if p x then 1 else 0)
    split <;> simp
  | x :: l, q + 1, h => by
    have hq : q < l.length := by simpa using h
    have ih := cnt_erase p l q hq
    rw [List.eraseIdx_cons_succ, List.filter_cons, List.filter_cons]
    show _ = _ + (if p l[q] then 1 else 0)
    by_cases hp : p x = true
    · rw [if_pos hp, if_pos hp, List.length_cons, List.length_cons]; omega
    · rw [if_neg hp, if_neg hp]; exact ih

theorem gl_Cost_9 (O : Nat → Prop) (w0 : World) (no : Int) : ∀ (m : Nat) (left : List (Int × Lt)) (cnt : Int) (cur : Option (Int × Lt)), left.length = m → (0 ≤ cnt ∧ cnt + left.length ≤ 1000000) →
    GoodS prog X_trace_Cost (Cx.base O w0) (Ends prog O w0 rs_trace_Cost fun y => y = (cnt + cntF no left, (0 : Int), ())) [] fx_trace_Cost (lp f_trace_Cost 9) (E_trace_Cost_9 no cnt left cur)
  | 0, left, cnt, cur, hm, hc => goodS_of (x_trace_Cost k_slices_Contains_Trigger) (TL_trace_Cost_9_eq no cnt left cur) (by
      have e : left = [] := List.eq_nil_of_length_eq_zero hm
      subst e
      refine fun q _ => ⟨fun h => absurd (of_decide_eq_true h) (by decide), fun _ => ⟨_, rfl, ?_⟩⟩
      have e0 : cntF no [] = 0 := rfl
      rw [e0, Int.add_zero])
  | m + 1, left, cnt, cur, hm, hc => goodS_of (x_trace_Cost k_slices_Contains_Trigger) (TL_trace_Cost_9_eq no cnt left cur) (by
      refine fun q hq => ⟨fun _ => ?_, fun h => ?_⟩
      · have hq : q < left.length := by
          rcases hq with h | h
          · rw [h] at hm; cases hm
          · exact h
        have hl : (left.eraseIdx q).length = m := by rw [List.length_eraseIdx, if_pos hq]; omega
        have hget : left[q]? = some left[q] := List.getElem?_eq_getElem hq
        have hcnt := cnt_erase (fun e => decide (firstL e.2 = no)) left q hq
        rw [hget]
        refine ⟨rfl, fun h => ?_, fun h => ?_⟩
        · have h : decide (firstL left[q].2 = no) = true := h
          have e : cnt + cntF no left = (cnt + 1) + cntF no (left.eraseIdx q) := by
            unfold cntF
            rw [hcnt, if_pos h]; omega
          rw [e, small_i64 (n := cnt + 1) (by omega)]
          exact gl_Cost_9 O w0 no m (left.eraseIdx q) (cnt + 1) _ hl ⟨by omega, by omega⟩
        · have h : decide (firstL left[q].2 = no) = false := h
          have e : cnt + cntF no left = cnt + cntF no (left.eraseIdx q) := by
            unfold cntF
            rw [hcnt, if_neg (by rw [h]; simp)]; omega
          rw [e]
          exact gl_Cost_9 O w0 no m (left.eraseIdx q) cnt _ hl ⟨by omega, by omega⟩
      · exact absurd (show 0 < left.length by omega) (of_decide_eq_false h))

def gl_read_Cost (O : Nat → Prop) (w0 : World) (l : List Nt) (n : Int) (hl : l.length ≤ 1000) (R : Nat ⊕ Bk → den rs_trace_Cost) (hbad : ∀ i : Nat, R (.inl i) = ((0 : Int), (11 : Int), ())) (hR : ∀ b, R (.inr b) = resCost n (.inr b)) :=
  PLift.up <| range_ind (σ := Bk) l.length (fun i b => b.2.1.length ≤ i ∧ runB (l.take i) 0 bk0 = .inr b)
    (fun i b => GoodS prog X_trace_Cost (Cx.base O w0) (Ends prog O w0 rs_trace_Cost fun y => y = R (runB (l.drop i) i b)) (Q_trace_Cost_trace_read_5 l n l l (lnx tNote l) (i : Nat) b.2.2.2 b.1 b.2.1 b.2.2.1) fx_trace_read (lp f_trace_read 5) (E_trace_Cost_trace_read_5 l n l l (lnx tNote l) (i : Nat) b.2.2.2 b.1 b.2.1 b.2.2.1))
    (fun i b hi hb ih => goodS_of (x_trace_Cost k_slices_Contains_Trigger) (TL_trace_Cost_trace_read_5_eq l n l l _ _ b.2.2.2 b.1 b.2.1 b.2.2.1) (by
      have e : runB (l.drop i) i b = match stepB (decide (i = 0)) b l[i] with | none => .inl i | some b' => runB (l.drop (i + 1)) (i + 1) b' := by
        rw [List.drop_eq_getElem_cons hi]; rfl
      obtain ⟨hb1, hb2⟩ := hb
      have e2 : ∀ b', stepB (decide (i = 0)) b l[i] = some b' → runB (l.take (i + 1)) 0 bk0 = .inr b' := fun b' h => by
        rw [List.take_succ_eq_append_getElem hi, runB_append, hb2, List.length_take, Nat.min_eq_left (by omega), Nat.zero_add]
        show runB [l[i]] i b = _
        rw [runB, h]; rfl
      refine ⟨fun _ => ⟨inB_of hi, ?_⟩, fun h => ?_⟩
      · rw [el_at hi, wr_idx hi (by omega)]
        generalize l[i] = x at e e2 ⊢
        have bad : stepB (decide (i = 0)) b x = none → ((0 : Int), (11 : Int), ()) = R (runB (l.drop i) i b) := fun h => by rw [e, h]; exact (hbad i).symm
        have good : ∀ b', stepB (decide (i = 0)) b x = some b' → b'.2.1.length ≤ i + 1 → GoodS prog X_trace_Cost (Cx.base O w0) (Ends prog O w0 rs_trace_Cost fun y => y = R (runB (l.drop i) i b)) (Q_trace_Cost_trace_read_5 l n l l (lnx tNote l) ((i + 1 : Nat) : Int) b'.2.2.2 b'.1 b'.2.1 b'.2.2.1) fx_trace_read (lp f_trace_read 5)
            (E_trace_Cost_trace_read_5 l n l l (lnx tNote l) ((i + 1 : Nat) : Int) b'.2.2.2 b'.1 b'.2.1 b'.2.2.1) := fun b' h hI => by rw [e, h]; exact ih b' ⟨hI, e2 b' h⟩
        have hm : ∀ z : Tr, (b.2.1 ++ [z]).length ≤ most := fun z => by simp [most]; omega
        have hc : b.2.1.length ≤ 1000000 := by omega
        have h1' : ∀ z : Tr, (b.2.1 ++ [z]).length ≤ i + 1 := fun z => by rw [List.length_append]; exact Nat.add_le_add_right hb1 1
        have h0' : b.2.1.length ≤ i + 1 := by omega
        refine ⟨fun h0 => ?_, fun h0 => ?_⟩
        · have hf : decide (i = 0) = true := decide_eq_true (by have h0 : ((i : Nat) : Int) = 0 := of_decide_eq_true h0; omega)
          rw [hf] at bad good
          refine ⟨fun a1 => ⟨fun _ => ⟨fun _ => ⟨_, rfl, (bad (if_pos a1))⟩, fun h => absurd h (by decide)⟩, fun h => absurd h (by decide)⟩, fun a1 => ⟨fun a2 => ⟨fun a3 => ⟨fun _ => ⟨_, rfl, (bad ((if_neg (neT a1)).trans ((if_pos a2).trans (if_pos a3))))⟩, fun h => absurd h (by decide)⟩, fun a3 => good (mpSet (k := tInt) (v := tTraceLetter) b.1 (ltN x) (dtN x, (0 : Int), zero tTrigger, ltN x, ()), b.2.1, mpSet (k := tInt) (v := tInt) b.2.2.1 (ltN x) (noN x), atN x) ((if_neg (neT a1)).trans ((if_pos a2).trans (if_neg (neT a3)))) h0'⟩,
            fun a2 => ⟨fun a3 => ⟨hm _, fun h => absurd h (by decide), fun _ => good (b.1, b.2.1 ++ [trN x], b.2.2.1, atN x) ((if_neg (neT a1)).trans ((if_neg (neT a2)).trans (if_pos a3))) (h1' _)⟩,
              fun a3 => ⟨fun a4 => ⟨hc, fun q hq => by
                  have hq : q = g_has b.2.1 (trN x) := hq
                  subst hq
                  exact ⟨fun a5 => ⟨fun _ => ⟨_, rfl, (bad ((if_neg (neT a1)).trans ((if_neg (neT a2)).trans ((if_neg (neT a3)).trans ((if_pos a4).trans (if_pos a5))))))⟩, fun h => absurd h (by decide)⟩, fun a5 => good (mpSet (k := tInt) (v := tTraceLetter) b.1 (ltN x) ((mpGet (k := tInt) (v := tTraceLetter) b.1 (wasN x)).1, wasN x, trN x, (mpGet (k := tInt) (v := tTraceLetter) b.1 (wasN x)).2.2.2.1, ()), b.2.1, b.2.2.1, atN x) ((if_neg (neT a1)).trans ((if_neg (neT a2)).trans ((if_neg (neT a3)).trans ((if_pos a4).trans (if_neg (neT a5)))))) h0'⟩⟩,
                fun a4 => ⟨fun a5 => ⟨fun a6 => ⟨fun _ => ⟨_, rfl, (bad ((if_neg (neT a1)).trans ((if_neg (neT a2)).trans ((if_neg (neT a3)).trans ((if_neg (neT a4)).trans ((if_pos a5).trans (if_pos a6)))))))⟩, fun h => absurd h (by decide)⟩, fun a6 => good (b.1, b.2.1, b.2.2.1, atN x) ((if_neg (neT a1)).trans ((if_neg (neT a2)).trans ((if_neg (neT a3)).trans ((if_neg (neT a4)).trans ((if_pos a5).trans (if_neg (neT a6))))))) h0'⟩,
                  fun a5 => ⟨fun a6 => ⟨fun _ => ⟨_, rfl, (bad ((if_neg (neT a1)).trans ((if_neg (neT a2)).trans ((if_neg (neT a3)).trans ((if_neg (neT a4)).trans ((if_neg (neT a5)).trans (if_pos a6)))))))⟩, fun h => absurd h (by decide)⟩, fun a6 => good (b.1, b.2.1, b.2.2.1, atN x) ((if_neg (neT a1)).trans ((if_neg (neT a2)).trans ((if_neg (neT a3)).trans ((if_neg (neT a4)).trans ((if_neg (neT a5)).trans (if_neg (neT a6))))))) h0'⟩⟩⟩⟩⟩⟩
        · have hf : decide (i = 0) = false := decide_eq_false (by have h0 : ¬ ((i : Nat) : Int) = 0 := of_decide_eq_false h0; omega)
          rw [hf] at bad good
          refine ⟨fun a1 => ⟨fun _ => ⟨fun _ => ⟨_, rfl, (bad (if_pos a1))⟩, fun h => absurd h (by decide)⟩, fun h => absurd h (by decide)⟩, fun a1 => ⟨fun a2 => ⟨fun a3 => ⟨fun _ => ⟨_, rfl, (bad ((if_neg (neT a1)).trans ((if_pos a2).trans (if_pos a3))))⟩, fun h => absurd h (by decide)⟩, fun a3 => good (mpSet (k := tInt) (v := tTraceLetter) b.1 (ltN x) (dtN x, (0 : Int), zero tTrigger, ltN x, ()), b.2.1, mpSet (k := tInt) (v := tInt) b.2.2.1 (ltN x) (noN x), atN x) ((if_neg (neT a1)).trans ((if_pos a2).trans (if_neg (neT a3)))) h0'⟩,
            fun a2 => ⟨fun a3 => ⟨hm _, fun h => absurd h (by decide), fun _ => good (b.1, b.2.1 ++ [trN x], b.2.2.1, atN x) ((if_neg (neT a1)).trans ((if_neg (neT a2)).trans (if_pos a3))) (h1' _)⟩,
              fun a3 => ⟨fun a4 => ⟨hc, fun q hq => by
                  have hq : q = g_has b.2.1 (trN x) := hq
                  subst hq
                  exact ⟨fun a5 => ⟨fun _ => ⟨_, rfl, (bad ((if_neg (neT a1)).trans ((if_neg (neT a2)).trans ((if_neg (neT a3)).trans ((if_pos a4).trans (if_pos a5))))))⟩, fun h => absurd h (by decide)⟩, fun a5 => good (mpSet (k := tInt) (v := tTraceLetter) b.1 (ltN x) ((mpGet (k := tInt) (v := tTraceLetter) b.1 (wasN x)).1, wasN x, trN x, (mpGet (k := tInt) (v := tTraceLetter) b.1 (wasN x)).2.2.2.1, ()), b.2.1, b.2.2.1, atN x) ((if_neg (neT a1)).trans ((if_neg (neT a2)).trans ((if_neg (neT a3)).trans ((if_pos a4).trans (if_neg (neT a5)))))) h0'⟩⟩,
                fun a4 => ⟨fun a5 => ⟨fun a6 => ⟨fun _ => ⟨_, rfl, (bad ((if_neg (neT a1)).trans ((if_neg (neT a2)).trans ((if_neg (neT a3)).trans ((if_neg (neT a4)).trans ((if_pos a5).trans (if_pos a6)))))))⟩, fun h => absurd h (by decide)⟩, fun a6 => good (b.1, b.2.1, b.2.2.1, atN x) ((if_neg (neT a1)).trans ((if_neg (neT a2)).trans ((if_neg (neT a3)).trans ((if_neg (neT a4)).trans ((if_pos a5).trans (if_neg (neT a6))))))) h0'⟩,
                  fun a5 => ⟨fun a6 => ⟨fun _ => ⟨_, rfl, (bad ((if_neg (neT a1)).trans ((if_neg (neT a2)).trans ((if_neg (neT a3)).trans ((if_neg (neT a4)).trans ((if_neg (neT a5)).trans (if_pos a6)))))))⟩, fun h => absurd h (by decide)⟩, fun a6 => good (b.1, b.2.1, b.2.2.1, atN x) ((if_neg (neT a1)).trans ((if_neg (neT a2)).trans ((if_neg (neT a3)).trans ((if_neg (neT a4)).trans ((if_neg (neT a5)).trans (if_neg (neT a6))))))) h0'⟩⟩⟩⟩⟩⟩
      · rw [lnx_nat] at h
        exact absurd hi (of_decide_eq_false h)))
    (fun b hb => goodS_of (x_trace_Cost k_slices_Contains_Trigger) (TL_trace_Cost_trace_read_5_eq l n l l _ _ b.2.2.2 b.1 b.2.1 b.2.2.1) (by
      refine ⟨fun h => ?_, fun _ => ?_⟩
      · rw [lnx_nat] at h
        exact absurd (of_decide_eq_true h) (Nat.lt_irrefl _)
      · have e : runB (l.drop l.length) l.length b = .inr b := by rw [List.drop_length, runB]
        rw [e]
        obtain ⟨_, hb2⟩ := hb
        rw [List.take_length] at hb2
        have hb2 : runB l 0 bk0 = .inr b := hb2
        have eR1 : (!hasW b.2.2.1 n) = true → R (.inr b) = ((0 : Int), (6 : Int), ()) := fun h => (hR b).trans (if_pos h)
        have eR2 : (!hasW b.2.2.1 n) = false → R (.inr b) = (cntF n b.1, (0 : Int), ()) := fun h => (hR b).trans (if_neg (neT h))
        refine ⟨fun h => absurd h (by decide), fun _ => ⟨fun h => ⟨_, rfl, (eR1 h).symm⟩, fun h => ?_⟩⟩
        rw [eR2 h]
        have := gl_Cost_9 O w0 n b.1.length b.1 0 none rfl ⟨by omega, by have := run_len hb2; simp [bk0] at this ⊢; omega⟩
        rw [Int.zero_add] at this
        exact this))


def g_Cost (l : List Nt) (n : Int) : Int × Int × Unit := if 1000 < l.length then (0, 2, ()) else resCost n (runB l 0 bk0)
noncomputable abbrev S_trace_Cost : Spec := ⟨as_trace_Cost, rs_trace_Cost, fun x => g_Cost x.1 x.2.1, fun _ => True, true⟩
theorem k_trace_Cost : FnOk prog [] n_trace_Cost S_trace_Cost :=
  fnS_T (S := S_trace_Cost) (x_trace_Cost k_slices_Contains_Trigger) (fx := fx_trace_Cost) at_trace_Cost (by kernel_rfl) (fun _ _ => trivial) (T := fun x => T_trace_Cost x.1 x.2.1) (fun x => T_trace_Cost_eq x.1 x.2.1) fun O w0 x _ _ => by
    obtain ⟨l, n, ⟨⟩⟩ := x
    refine ⟨fun h => ⟨fun _ => ⟨_, rfl, ?_⟩, fun h => absurd h (by decide)⟩, fun h => ?_⟩
    · have h : (1000 : Int) < l.length := of_decide_eq_true h
      show ((0 : Int), (2 : Int), ()) = g_Cost l n
      unfold g_Cost
      rw [if_pos (by omega)]
    · have h : ¬ (1000 : Int) < l.length := of_decide_eq_false h
      have := (gl_read_Cost O w0 l n (by omega) (resCost n) (fun _ => rfl) (fun _ => rfl)).down 0 bk0 (Nat.zero_le _) ⟨Nat.le_refl _, rfl⟩
      rw [List.drop_zero] at this
      have e : g_Cost l n = resCost n (runB l 0 bk0) := by unfold g_Cost; rw [if_neg (by omega)]
      show GoodS prog X_trace_Cost (Cx.base O w0) (Ends prog O w0 rs_trace_Cost fun y => y = g_Cost l n) _ _ _ _
      rw [e]
      exact this

end Go.Proofs.Ytainieginijaaaa

/- The trees of functions' bodies, as the evaluator prints them. -/
namespace Go.Proofs.Ytainieginijaaaa
open Go Go.RowKit

noncomputable abbrev fx_l20_TraceAdds : Fx := { fn := f_l20_TraceAdds, ann := { }, own := [63, 73, 126], share := true, shareD := true }
noncomputable abbrev X_l20_TraceAdds : TabX := { D := { T := tyTab, F := [(n_l20_few, S_l20_few), (n_trace_Check, S_trace_Check), (n_trace_Cost, S_trace_Cost), (n_l20_alive, S_l20_alive)], R := [], ovl := [] }, inl := [] }
noncomputable abbrev M_l20_TraceAdds : RMode := .data rs_l20_TraceAdds
theorem x_l20_TraceAdds (h_l20_few : FnOk prog [] n_l20_few S_l20_few) (h_trace_Check : FnOk prog [] n_trace_Check S_trace_Check) (h_trace_Cost : FnOk prog [] n_trace_Cost S_trace_Cost) (h_l20_alive : FnOk prog [] n_l20_alive S_l20_alive) : XOk prog X_l20_TraceAdds := xok (dok_add (dok_add (dok_add (dok_add (dok_nil tab_ok mixed_ok) h_l20_alive) h_trace_Cost) h_trace_Check) h_l20_few) (by kernel_rfl) rows_nil inl_nil ovl_nil
noncomputable def T_l20_TraceAdds (l : den (Ty.slc tNote)) (n : den tInt) (d : den Ty.str) : TreeS :=
  TreeS.req True
  (TreeS.req (cutOk 0 (minI (sLen d) 70) (sLen d))
    (TreeS.all (den (Ty.slc tNote)) (fun (q3 : den (Ty.slc tNote)) ↦ q3 = g_few l) fun (q3 : den (Ty.slc tNote)) ↦
      TreeS.all (den (Ty.slc tNote)) (fun (q4 : den (Ty.slc tNote)) ↦ q4 = g_few l) fun (q4 : den (Ty.slc tNote)) ↦
        TreeS.all (den Ty.str) (fun (q5 : den Ty.str) ↦ q5 = sCut d 0 (minI (sLen d) 70)) fun (q5 : den Ty.str) ↦
          TreeS.req True
            (TreeS.all (den (Ty.pair tInt (Ty.pair tInt Ty.unit)))
              (fun (q6 : den (Ty.pair tInt (Ty.pair tInt Ty.unit))) ↦ q6 = g_Check q4)
              fun (q6 : den (Ty.pair tInt (Ty.pair tInt Ty.unit))) ↦
              TreeS.ite (!decide (Prod.fst (Prod.snd q6) = 0))
                (TreeS.req True
                  (TreeS.all (den Ty.bool) (fun (q7 : den Ty.bool) ↦ q7 = true) fun (q7 : den Ty.bool) ↦
                    TreeS.ret
                      (K.val (Ty.pair Ty.bool Ty.unit)
                        (bif q7 then decide (Prod.fst (Prod.snd q6) = 11) else false, PUnit.unit))))
                (TreeS.ite (decide (0 < lnx tNote q4))
                  (TreeS.req (inB (IntKind.wrap IntKind.i64 (lnx tNote q4 - 1)) (lnx tNote q4))
                    (TreeS.req True
                      (TreeS.all (den (Ty.pair tInt (Ty.pair tInt Ty.unit)))
                        (fun (q7 : den (Ty.pair tInt (Ty.pair tInt Ty.unit))) ↦ q7 = g_Cost q4 n)
                        fun (q7 : den (Ty.pair tInt (Ty.pair tInt Ty.unit))) ↦
                        TreeS.req (List.length (List.replicate 0 (zero tNote) ++ q4) ≤ most)
                          (TreeS.req
                            (List.length
                                (List.replicate 0 (zero tNote) ++ q4 ++
                                  List.set (List.replicate 1 (zero tNote)) 0
                                    (4, Prod.fst (Prod.snd (el tNote q4 (IntKind.wrap IntKind.i64 (lnx tNote q4 - 1)))),
                                      Prod.fst
                                        (Prod.snd
                                          (Prod.snd
                                            (zero
                                              (Ty.pair tInt
                                                (Ty.pair tInt
                                                  (Ty.pair tInt
                                                    (Ty.pair tInt
                                                      (Ty.pair tInt
                                                        (Ty.pair tTrigger
                                                          (Ty.pair Ty.str (Ty.pair tInt Ty.unit))))))))))),
                                      n,
                                      Prod.fst
                                        (Prod.snd
                                          (Prod.snd
                                            (Prod.snd
                                              (Prod.snd
                                                (zero
                                                  (Ty.pair tInt
                                                    (Ty.pair tInt
                                                      (Ty.pair tInt
                                                        (Ty.pair tInt
                                                          (Ty.pair tInt
                                                            (Ty.pair tTrigger
                                                              (Ty.pair Ty.str (Ty.pair tInt Ty.unit))))))))))))),
                                      Prod.fst
                                        (Prod.snd
                                          (Prod.snd
                                            (Prod.snd
                                              (Prod.snd
                                                (Prod.snd
                                                  (zero
                                                    (Ty.pair tInt
                                                      (Ty.pair tInt
                                                        (Ty.pair tInt
                                                          (Ty.pair tInt
                                                            (Ty.pair tInt
                                                              (Ty.pair tTrigger
                                                                (Ty.pair Ty.str (Ty.pair tInt Ty.unit)))))))))))))),
                                      q5,
                                      Prod.snd
                                        (Prod.snd
                                          (Prod.snd
                                            (Prod.snd
                                              (Prod.snd
                                                (Prod.snd
                                                  (Prod.snd
                                                    (zero
                                                      (Ty.pair tInt
                                                        (Ty.pair tInt
                                                          (Ty.pair tInt
                                                            (Ty.pair tInt
                                                              (Ty.pair tInt
                                                                (Ty.pair tTrigger
                                                                  (Ty.pair Ty.str
                                                                    (Ty.pair tInt Ty.unit))))))))))))))))) ≤
                              most)
                            (TreeS.req True
                              (TreeS.all (den (Ty.pair tInt (Ty.pair tInt Ty.unit)))
                                (fun (q8 : den (Ty.pair tInt (Ty.pair tInt Ty.unit))) ↦
                                  q8 =
                                    g_Check
                                      (List.replicate 0 (zero tNote) ++ q4 ++
                                        List.set (List.replicate 1 (zero tNote)) 0
                                          (4,
                                            Prod.fst
                                              (Prod.snd (el tNote q4 (IntKind.wrap IntKind.i64 (lnx tNote q4 - 1)))),
                                            Prod.fst
                                              (Prod.snd
                                                (Prod.snd
                                                  (zero
                                                    (Ty.pair tInt
                                                      (Ty.pair tInt
                                                        (Ty.pair tInt
                                                          (Ty.pair tInt
                                                            (Ty.pair tInt
                                                              (Ty.pair tTrigger
                                                                (Ty.pair Ty.str (Ty.pair tInt Ty.unit))))))))))),
                                            n,
                                            Prod.fst
                                              (Prod.snd
                                                (Prod.snd
                                                  (Prod.snd
                                                    (Prod.snd
                                                      (zero
                                                        (Ty.pair tInt
                                                          (Ty.pair tInt
                                                            (Ty.pair tInt
                                                              (Ty.pair tInt
                                                                (Ty.pair tInt
                                                                  (Ty.pair tTrigger
                                                                    (Ty.pair Ty.str (Ty.pair tInt Ty.unit))))))))))))),
                                            Prod.fst
                                              (Prod.snd
                                                (Prod.snd
                                                  (Prod.snd
                                                    (Prod.snd
                                                      (Prod.snd
                                                        (zero
                                                          (Ty.pair tInt
                                                            (Ty.pair tInt
                                                              (Ty.pair tInt
                                                                (Ty.pair tInt
                                                                  (Ty.pair tInt
                                                                    (Ty.pair tTrigger
                                                                      (Ty.pair Ty.str
                                                                        (Ty.pair tInt Ty.unit)))))))))))))),
                                            q5,
                                            Prod.snd
                                              (Prod.snd
                                                (Prod.snd
                                                  (Prod.snd
                                                    (Prod.snd
                                                      (Prod.snd
                                                        (Prod.snd
                                                          (zero
                                                            (Ty.pair tInt
                                                              (Ty.pair tInt
                                                                (Ty.pair tInt
                                                                  (Ty.pair tInt
                                                                    (Ty.pair tInt
                                                                      (Ty.pair tTrigger
                                                                        (Ty.pair Ty.str
                                                                          (Ty.pair tInt Ty.unit))))))))))))))))))
                                fun (q8 : den (Ty.pair tInt (Ty.pair tInt Ty.unit))) ↦
                                TreeS.all (den tInt)
                                  (fun (q9 : den tInt) ↦
                                    q9 =
                                      Prod.fst
                                        (g_Check
                                          (List.replicate 0 (zero tNote) ++ q4 ++
                                            List.set (List.replicate 1 (zero tNote)) 0
                                              (4,
                                                Prod.fst
                                                  (Prod.snd
                                                    (el tNote q4 (IntKind.wrap IntKind.i64 (lnx tNote q4 - 1)))),
                                                Prod.fst
                                                  (Prod.snd
                                                    (Prod.snd
                                                      (zero
                                                        (Ty.pair tInt
                                                          (Ty.pair tInt
                                                            (Ty.pair tInt
                                                              (Ty.pair tInt
                                                                (Ty.pair tInt
                                                                  (Ty.pair tTrigger
                                                                    (Ty.pair Ty.str (Ty.pair tInt Ty.unit))))))))))),
                                                n,
                                                Prod.fst
                                                  (Prod.snd
                                                    (Prod.snd
                                                      (Prod.snd
                                                        (Prod.snd
                                                          (zero
                                                            (Ty.pair tInt
                                                              (Ty.pair tInt
                                                                (Ty.pair tInt
                                                                  (Ty.pair tInt
                                                                    (Ty.pair tInt
                                                                      (Ty.pair tTrigger
                                                                        (Ty.pair Ty.str
                                                                          (Ty.pair tInt Ty.unit))))))))))))),
                                                Prod.fst
                                                  (Prod.snd
                                                    (Prod.snd
                                                      (Prod.snd
                                                        (Prod.snd
                                                          (Prod.snd
                                                            (zero
                                                              (Ty.pair tInt
                                                                (Ty.pair tInt
                                                                  (Ty.pair tInt
                                                                    (Ty.pair tInt
                                                                      (Ty.pair tInt
                                                                        (Ty.pair tTrigger
                                                                          (Ty.pair Ty.str
                                                                            (Ty.pair tInt Ty.unit)))))))))))))),
                                                q5,
                                                Prod.snd
                                                  (Prod.snd
                                                    (Prod.snd
                                                      (Prod.snd
                                                        (Prod.snd
                                                          (Prod.snd
                                                            (Prod.snd
                                                              (zero
                                                                (Ty.pair tInt
                                                                  (Ty.pair tInt
                                                                    (Ty.pair tInt
                                                                      (Ty.pair tInt
                                                                        (Ty.pair tInt
                                                                          (Ty.pair tTrigger
                                                                            (Ty.pair Ty.str
                                                                              (Ty.pair tInt Ty.unit)))))))))))))))))))
                                  fun (q9 : den tInt) ↦
                                  TreeS.all (den tInt)
                                    (fun (q10 : den tInt) ↦
                                      q10 =
                                        Prod.fst
                                          (Prod.snd
                                            (g_Check
                                              (List.replicate 0 (zero tNote) ++ q4 ++
                                                List.set (List.replicate 1 (zero tNote)) 0
                                                  (4,
                                                    Prod.fst
                                                      (Prod.snd
                                                        (el tNote q4 (IntKind.wrap IntKind.i64 (lnx tNote q4 - 1)))),
                                                    Prod.fst
                                                      (Prod.snd
                                                        (Prod.snd
                                                          (zero
                                                            (Ty.pair tInt
                                                              (Ty.pair tInt
                                                                (Ty.pair tInt
                                                                  (Ty.pair tInt
                                                                    (Ty.pair tInt
                                                                      (Ty.pair tTrigger
                                                                        (Ty.pair Ty.str
                                                                          (Ty.pair tInt Ty.unit))))))))))),
                                                    n,
                                                    Prod.fst
                                                      (Prod.snd
                                                        (Prod.snd
                                                          (Prod.snd
                                                            (Prod.snd
                                                              (zero
                                                                (Ty.pair tInt
                                                                  (Ty.pair tInt
                                                                    (Ty.pair tInt
                                                                      (Ty.pair tInt
                                                                        (Ty.pair tInt
                                                                          (Ty.pair tTrigger
                                                                            (Ty.pair Ty.str
                                                                              (Ty.pair tInt Ty.unit))))))))))))),
                                                    Prod.fst
                                                      (Prod.snd
                                                        (Prod.snd
                                                          (Prod.snd
                                                            (Prod.snd
                                                              (Prod.snd
                                                                (zero
                                                                  (Ty.pair tInt
                                                                    (Ty.pair tInt
                                                                      (Ty.pair tInt
                                                                        (Ty.pair tInt
                                                                          (Ty.pair tInt
                                                                            (Ty.pair tTrigger
                                                                              (Ty.pair Ty.str
                                                                                (Ty.pair tInt Ty.unit)))))))))))))),
                                                    q5,
                                                    Prod.snd
                                                      (Prod.snd
                                                        (Prod.snd
                                                          (Prod.snd
                                                            (Prod.snd
                                                              (Prod.snd
                                                                (Prod.snd
                                                                  (zero
                                                                    (Ty.pair tInt
                                                                      (Ty.pair tInt
                                                                        (Ty.pair tInt
                                                                          (Ty.pair tInt
                                                                            (Ty.pair tInt
                                                                              (Ty.pair tTrigger
                                                                                (Ty.pair Ty.str
                                                                                  (Ty.pair tInt
                                                                                    Ty.unit))))))))))))))))))))
                                    fun (q10 : den tInt) ↦
                                    TreeS.req (List.length (List.replicate 0 (zero tNote) ++ q4) ≤ most)
                                      (TreeS.req
                                        (List.length
                                            (List.replicate 0 (zero tNote) ++ q4 ++
                                              List.set
                                                (List.set (List.replicate 2 (zero tNote)) 0
                                                  (4,
                                                    Prod.fst
                                                      (Prod.snd
                                                        (el tNote q4 (IntKind.wrap IntKind.i64 (lnx tNote q4 - 1)))),
                                                    Prod.fst
                                                      (Prod.snd
                                                        (Prod.snd
                                                          (zero
                                                            (Ty.pair tInt
                                                              (Ty.pair tInt
                                                                (Ty.pair tInt
                                                                  (Ty.pair tInt
                                                                    (Ty.pair tInt
                                                                      (Ty.pair tTrigger
                                                                        (Ty.pair Ty.str
                                                                          (Ty.pair tInt Ty.unit))))))))))),
                                                    n,
                                                    Prod.fst
                                                      (Prod.snd
                                                        (Prod.snd
                                                          (Prod.snd
                                                            (Prod.snd
                                                              (zero
                                                                (Ty.pair tInt
                                                                  (Ty.pair tInt
                                                                    (Ty.pair tInt
                                                                      (Ty.pair tInt
                                                                        (Ty.pair tInt
                                                                          (Ty.pair tTrigger
                                                                            (Ty.pair Ty.str
                                                                              (Ty.pair tInt Ty.unit))))))))))))),
                                                    Prod.fst
                                                      (Prod.snd
                                                        (Prod.snd
                                                          (Prod.snd
                                                            (Prod.snd
                                                              (Prod.snd
                                                                (zero
                                                                  (Ty.pair tInt
                                                                    (Ty.pair tInt
                                                                      (Ty.pair tInt
                                                                        (Ty.pair tInt
                                                                          (Ty.pair tInt
                                                                            (Ty.pair tTrigger
                                                                              (Ty.pair Ty.str
                                                                                (Ty.pair tInt Ty.unit)))))))))))))),
                                                    q5,
                                                    Prod.snd
                                                      (Prod.snd
                                                        (Prod.snd
                                                          (Prod.snd
                                                            (Prod.snd
                                                              (Prod.snd
                                                                (Prod.snd
                                                                  (zero
                                                                    (Ty.pair tInt
                                                                      (Ty.pair tInt
                                                                        (Ty.pair tInt
                                                                          (Ty.pair tInt
                                                                            (Ty.pair tInt
                                                                              (Ty.pair tTrigger
                                                                                (Ty.pair Ty.str
                                                                                  (Ty.pair tInt Ty.unit)))))))))))))))))
                                                1
                                                (4,
                                                  Prod.fst
                                                    (Prod.snd
                                                      (el tNote q4 (IntKind.wrap IntKind.i64 (lnx tNote q4 - 1)))),
                                                  Prod.fst
                                                    (Prod.snd
                                                      (Prod.snd
                                                        (zero
                                                          (Ty.pair tInt
                                                            (Ty.pair tInt
                                                              (Ty.pair tInt
                                                                (Ty.pair tInt
                                                                  (Ty.pair tInt
                                                                    (Ty.pair tTrigger
                                                                      (Ty.pair Ty.str (Ty.pair tInt Ty.unit))))))))))),
                                                  n,
                                                  Prod.fst
                                                    (Prod.snd
                                                      (Prod.snd
                                                        (Prod.snd
                                                          (Prod.snd
                                                            (zero
                                                              (Ty.pair tInt
                                                                (Ty.pair tInt
                                                                  (Ty.pair tInt
                                                                    (Ty.pair tInt
                                                                      (Ty.pair tInt
                                                                        (Ty.pair tTrigger
                                                                          (Ty.pair Ty.str
                                                                            (Ty.pair tInt Ty.unit))))))))))))),
                                                  Prod.fst
                                                    (Prod.snd
                                                      (Prod.snd
                                                        (Prod.snd
                                                          (Prod.snd
                                                            (Prod.snd
                                                              (zero
                                                                (Ty.pair tInt
                                                                  (Ty.pair tInt
                                                                    (Ty.pair tInt
                                                                      (Ty.pair tInt
                                                                        (Ty.pair tInt
                                                                          (Ty.pair tTrigger
                                                                            (Ty.pair Ty.str
                                                                              (Ty.pair tInt Ty.unit)))))))))))))),
                                                  q5,
                                                  Prod.snd
                                                    (Prod.snd
                                                      (Prod.snd
                                                        (Prod.snd
                                                          (Prod.snd
                                                            (Prod.snd
                                                              (Prod.snd
                                                                (zero
                                                                  (Ty.pair tInt
                                                                    (Ty.pair tInt
                                                                      (Ty.pair tInt
                                                                        (Ty.pair tInt
                                                                          (Ty.pair tInt
                                                                            (Ty.pair tTrigger
                                                                              (Ty.pair Ty.str
                                                                                (Ty.pair tInt Ty.unit))))))))))))))))) ≤
                                          most)
                                        (TreeS.req True
                                          (TreeS.all (den (Ty.pair tInt (Ty.pair tInt Ty.unit)))
                                            (fun (q11 : den (Ty.pair tInt (Ty.pair tInt Ty.unit))) ↦
                                              q11 =
                                                g_Check
                                                  (List.replicate 0 (zero tNote) ++ q4 ++
                                                    List.set
                                                      (List.set (List.replicate 2 (zero tNote)) 0
                                                        (4,
                                                          Prod.fst
                                                            (Prod.snd
                                                              (el tNote q4
                                                                (IntKind.wrap IntKind.i64 (lnx tNote q4 - 1)))),
                                                          Prod.fst
                                                            (Prod.snd
                                                              (Prod.snd
                                                                (zero
                                                                  (Ty.pair tInt
                                                                    (Ty.pair tInt
                                                                      (Ty.pair tInt
                                                                        (Ty.pair tInt
                                                                          (Ty.pair tInt
                                                                            (Ty.pair tTrigger
                                                                              (Ty.pair Ty.str
                                                                                (Ty.pair tInt Ty.unit))))))))))),
                                                          n,
                                                          Prod.fst
                                                            (Prod.snd
                                                              (Prod.snd
                                                                (Prod.snd
                                                                  (Prod.snd
                                                                    (zero
                                                                      (Ty.pair tInt
                                                                        (Ty.pair tInt
                                                                          (Ty.pair tInt
                                                                            (Ty.pair tInt
                                                                              (Ty.pair tInt
                                                                                (Ty.pair tTrigger
                                                                                  (Ty.pair Ty.str
                                                                                    (Ty.pair tInt Ty.unit))))))))))))),
                                                          Prod.fst
                                                            (Prod.snd
                                                              (Prod.snd
                                                                (Prod.snd
                                                                  (Prod.snd
                                                                    (Prod.snd
                                                                      (zero
                                                                        (Ty.pair tInt
                                                                          (Ty.pair tInt
                                                                            (Ty.pair tInt
                                                                              (Ty.pair tInt
                                                                                (Ty.pair tInt
                                                                                  (Ty.pair tTrigger
                                                                                    (Ty.pair Ty.str
                                                                                      (Ty.pair tInt
                                                                                        Ty.unit)))))))))))))),
                                                          q5,
                                                          Prod.snd
                                                            (Prod.snd
                                                              (Prod.snd
                                                                (Prod.snd
                                                                  (Prod.snd
                                                                    (Prod.snd
                                                                      (Prod.snd
                                                                        (zero
                                                                          (Ty.pair tInt
                                                                            (Ty.pair tInt
                                                                              (Ty.pair tInt
                                                                                (Ty.pair tInt
                                                                                  (Ty.pair tInt
                                                                                    (Ty.pair tTrigger
                                                                                      (Ty.pair Ty.str
                                                                                        (Ty.pair tInt
                                                                                          Ty.unit)))))))))))))))))
                                                      1
                                                      (4,
                                                        Prod.fst
                                                          (Prod.snd
                                                            (el tNote q4
                                                              (IntKind.wrap IntKind.i64 (lnx tNote q4 - 1)))),
                                                        Prod.fst
                                                          (Prod.snd
                                                            (Prod.snd
                                                              (zero
                                                                (Ty.pair tInt
                                                                  (Ty.pair tInt
                                                                    (Ty.pair tInt
                                                                      (Ty.pair tInt
                                                                        (Ty.pair tInt
                                                                          (Ty.pair tTrigger
                                                                            (Ty.pair Ty.str
                                                                              (Ty.pair tInt Ty.unit))))))))))),
                                                        n,
                                                        Prod.fst
                                                          (Prod.snd
                                                            (Prod.snd
                                                              (Prod.snd
                                                                (Prod.snd
                                                                  (zero
                                                                    (Ty.pair tInt
                                                                      (Ty.pair tInt
                                                                        (Ty.pair tInt
                                                                          (Ty.pair tInt
                                                                            (Ty.pair tInt
                                                                              (Ty.pair tTrigger
                                                                                (Ty.pair Ty.str
                                                                                  (Ty.pair tInt Ty.unit))))))))))))),
                                                        Prod.fst
                                                          (Prod.snd
                                                            (Prod.snd
                                                              (Prod.snd
                                                                (Prod.snd
                                                                  (Prod.snd
                                                                    (zero
                                                                      (Ty.pair tInt
                                                                        (Ty.pair tInt
                                                                          (Ty.pair tInt
                                                                            (Ty.pair tInt
                                                                              (Ty.pair tInt
                                                                                (Ty.pair tTrigger
                                                                                  (Ty.pair Ty.str
                                                                                    (Ty.pair tInt Ty.unit)))))))))))))),
                                                        q5,
                                                        Prod.snd
                                                          (Prod.snd
                                                            (Prod.snd
                                                              (Prod.snd
                                                                (Prod.snd
                                                                  (Prod.snd
                                                                    (Prod.snd
                                                                      (zero
                                                                        (Ty.pair tInt
                                                                          (Ty.pair tInt
                                                                            (Ty.pair tInt
                                                                              (Ty.pair tInt
                                                                                (Ty.pair tInt
                                                                                  (Ty.pair tTrigger
                                                                                    (Ty.pair Ty.str
                                                                                      (Ty.pair tInt
                                                                                        Ty.unit))))))))))))))))))
                                            fun (q11 : den (Ty.pair tInt (Ty.pair tInt Ty.unit))) ↦
                                            TreeS.all (den tInt)
                                              (fun (q12 : den tInt) ↦
                                                q12 =
                                                  Prod.fst
                                                    (g_Check
                                                      (List.replicate 0 (zero tNote) ++ q4 ++
                                                        List.set
                                                          (List.set (List.replicate 2 (zero tNote)) 0
                                                            (4,
                                                              Prod.fst
                                                                (Prod.snd
                                                                  (el tNote q4
                                                                    (IntKind.wrap IntKind.i64 (lnx tNote q4 - 1)))),
                                                              Prod.fst
                                                                (Prod.snd
                                                                  (Prod.snd
                                                                    (zero
                                                                      (Ty.pair tInt
                                                                        (Ty.pair tInt
                                                                          (Ty.pair tInt
                                                                            (Ty.pair tInt
                                                                              (Ty.pair tInt
                                                                                (Ty.pair tTrigger
                                                                                  (Ty.pair Ty.str
                                                                                    (Ty.pair tInt Ty.unit))))))))))),
                                                              n,
                                                              Prod.fst
                                                                (Prod.snd
                                                                  (Prod.snd
                                                                    (Prod.snd
                                                                      (Prod.snd
                                                                        (zero
                                                                          (Ty.pair tInt
                                                                            (Ty.pair tInt
                                                                              (Ty.pair tInt
                                                                                (Ty.pair tInt
                                                                                  (Ty.pair tInt
                                                                                    (Ty.pair tTrigger
                                                                                      (Ty.pair Ty.str
                                                                                        (Ty.pair tInt
                                                                                          Ty.unit))))))))))))),
                                                              Prod.fst
                                                                (Prod.snd
                                                                  (Prod.snd
                                                                    (Prod.snd
                                                                      (Prod.snd
                                                                        (Prod.snd
                                                                          (zero
                                                                            (Ty.pair tInt
                                                                              (Ty.pair tInt
                                                                                (Ty.pair tInt
                                                                                  (Ty.pair tInt
                                                                                    (Ty.pair tInt
                                                                                      (Ty.pair tTrigger
                                                                                        (Ty.pair Ty.str
                                                                                          (Ty.pair tInt
                                                                                            Ty.unit)))))))))))))),
                                                              q5,
                                                              Prod.snd
                                                                (Prod.snd
                                                                  (Prod.snd
                                                                    (Prod.snd
                                                                      (Prod.snd
                                                                        (Prod.snd
                                                                          (Prod.snd
                                                                            (zero
                                                                              (Ty.pair tInt
                                                                                (Ty.pair tInt
                                                                                  (Ty.pair tInt
                                                                                    (Ty.pair tInt
                                                                                      (Ty.pair tInt
                                                                                        (Ty.pair tTrigger
                                                                                          (Ty.pair Ty.str
                                                                                            (Ty.pair tInt
                                                                                              Ty.unit)))))))))))))))))
                                                          1
                                                          (4,
                                                            Prod.fst
                                                              (Prod.snd
                                                                (el tNote q4
                                                                  (IntKind.wrap IntKind.i64 (lnx tNote q4 - 1)))),
                                                            Prod.fst
                                                              (Prod.snd
                                                                (Prod.snd
                                                                  (zero
                                                                    (Ty.pair tInt
                                                                      (Ty.pair tInt
                                                                        (Ty.pair tInt
                                                                          (Ty.pair tInt
                                                                            (Ty.pair tInt
                                                                              (Ty.pair tTrigger
                                                                                (Ty.pair Ty.str
                                                                                  (Ty.pair tInt Ty.unit))))))))))),
                                                            n,
                                                            Prod.fst
                                                              (Prod.snd
                                                                (Prod.snd
                                                                  (Prod.snd
                                                                    (Prod.snd
                                                                      (zero
                                                                        (Ty.pair tInt
                                                                          (Ty.pair tInt
                                                                            (Ty.pair tInt
                                                                              (Ty.pair tInt
                                                                                (Ty.pair tInt
                                                                                  (Ty.pair tTrigger
                                                                                    (Ty.pair Ty.str
                                                                                      (Ty.pair tInt
                                                                                        Ty.unit))))))))))))),
                                                            Prod.fst
                                                              (Prod.snd
                                                                (Prod.snd
                                                                  (Prod.snd
                                                                    (Prod.snd
                                                                      (Prod.snd
                                                                        (zero
                                                                          (Ty.pair tInt
                                                                            (Ty.pair tInt
                                                                              (Ty.pair tInt
                                                                                (Ty.pair tInt
                                                                                  (Ty.pair tInt
                                                                                    (Ty.pair tTrigger
                                                                                      (Ty.pair Ty.str
                                                                                        (Ty.pair tInt
                                                                                          Ty.unit)))))))))))))),
                                                            q5,
                                                            Prod.snd
                                                              (Prod.snd
                                                                (Prod.snd
                                                                  (Prod.snd
                                                                    (Prod.snd
                                                                      (Prod.snd
                                                                        (Prod.snd
                                                                          (zero
                                                                            (Ty.pair tInt
                                                                              (Ty.pair tInt
                                                                                (Ty.pair tInt
                                                                                  (Ty.pair tInt
                                                                                    (Ty.pair tInt
                                                                                      (Ty.pair tTrigger
                                                                                        (Ty.pair Ty.str
                                                                                          (Ty.pair tInt
                                                                                            Ty.unit)))))))))))))))))))
                                              fun (q12 : den tInt) ↦
                                              TreeS.all (den tInt)
                                                (fun (q13 : den tInt) ↦
                                                  q13 =
                                                    Prod.fst
                                                      (Prod.snd
                                                        (g_Check
                                                          (List.replicate 0 (zero tNote) ++ q4 ++
                                                            List.set
                                                              (List.set (List.replicate 2 (zero tNote)) 0
                                                                (4,
                                                                  Prod.fst
                                                                    (Prod.snd
                                                                      (el tNote q4
                                                                        (IntKind.wrap IntKind.i64 (lnx tNote q4 - 1)))),
                                                                  Prod.fst
                                                                    (Prod.snd
                                                                      (Prod.snd
                                                                        (zero
                                                                          (Ty.pair tInt
                                                                            (Ty.pair tInt
                                                                              (Ty.pair tInt
                                                                                (Ty.pair tInt
                                                                                  (Ty.pair tInt
                                                                                    (Ty.pair tTrigger
                                                                                      (Ty.pair Ty.str
                                                                                        (Ty.pair tInt
                                                                                          Ty.unit))))))))))),
                                                                  n,
                                                                  Prod.fst
                                                                    (Prod.snd
                                                                      (Prod.snd
                                                                        (Prod.snd
                                                                          (Prod.snd
                                                                            (zero
                                                                              (Ty.pair tInt
                                                                                (Ty.pair tInt
                                                                                  (Ty.pair tInt
                                                                                    (Ty.pair tInt
                                                                                      (Ty.pair tInt
                                                                                        (Ty.pair tTrigger
                                                                                          (Ty.pair Ty.str
                                                                                            (Ty.pair tInt
                                                                                              Ty.unit))))))))))))),
                                                                  Prod.fst
                                                                    (Prod.snd
                                                                      (Prod.snd
                                                                        (Prod.snd
                                                                          (Prod.snd
                                                                            (Prod.snd
                                                                              (zero
                                                                                (Ty.pair tInt
                                                                                  (Ty.pair tInt
                                                                                    (Ty.pair tInt
                                                                                      (Ty.pair tInt
                                                                                        (Ty.pair tInt
                                                                                          (Ty.pair tTrigger
                                                                                            (Ty.pair Ty.str
                                                                                              (Ty.pair tInt
                                                                                                Ty.unit)))))))))))))),
                                                                  q5,
                                                                  Prod.snd
                                                                    (Prod.snd
                                                                      (Prod.snd
                                                                        (Prod.snd
                                                                          (Prod.snd
                                                                            (Prod.snd
                                                                              (Prod.snd
                                                                                (zero
                                                                                  (Ty.pair tInt
                                                                                    (Ty.pair tInt
                                                                                      (Ty.pair tInt
                                                                                        (Ty.pair tInt
                                                                                          (Ty.pair tInt
                                                                                            (Ty.pair tTrigger
                                                                                              (Ty.pair Ty.str
                                                                                                (Ty.pair tInt
                                                                                                  Ty.unit)))))))))))))))))
                                                              1
                                                              (4,
                                                                Prod.fst
                                                                  (Prod.snd
                                                                    (el tNote q4
                                                                      (IntKind.wrap IntKind.i64 (lnx tNote q4 - 1)))),
                                                                Prod.fst
                                                                  (Prod.snd
                                                                    (Prod.snd
                                                                      (zero
                                                                        (Ty.pair tInt
                                                                          (Ty.pair tInt
                                                                            (Ty.pair tInt
                                                                              (Ty.pair tInt
                                                                                (Ty.pair tInt
                                                                                  (Ty.pair tTrigger
                                                                                    (Ty.pair Ty.str
                                                                                      (Ty.pair tInt Ty.unit))))))))))),
                                                                n,
                                                                Prod.fst
                                                                  (Prod.snd
                                                                    (Prod.snd
                                                                      (Prod.snd
                                                                        (Prod.snd
                                                                          (zero
                                                                            (Ty.pair tInt
                                                                              (Ty.pair tInt
                                                                                (Ty.pair tInt
                                                                                  (Ty.pair tInt
                                                                                    (Ty.pair tInt
                                                                                      (Ty.pair tTrigger
                                                                                        (Ty.pair Ty.str
                                                                                          (Ty.pair tInt
                                                                                            Ty.unit))))))))))))),
                                                                Prod.fst
                                                                  (Prod.snd
                                                                    (Prod.snd
                                                                      (Prod.snd
                                                                        (Prod.snd
                                                                          (Prod.snd
                                                                            (zero
                                                                              (Ty.pair tInt
                                                                                (Ty.pair tInt
                                                                                  (Ty.pair tInt
                                                                                    (Ty.pair tInt
                                                                                      (Ty.pair tInt
                                                                                        (Ty.pair tTrigger
                                                                                          (Ty.pair Ty.str
                                                                                            (Ty.pair tInt
                                                                                              Ty.unit)))))))))))))),
                                                                q5,
                                                                Prod.snd
                                                                  (Prod.snd
                                                                    (Prod.snd
                                                                      (Prod.snd
                                                                        (Prod.snd
                                                                          (Prod.snd
                                                                            (Prod.snd
                                                                              (zero
                                                                                (Ty.pair tInt
                                                                                  (Ty.pair tInt
                                                                                    (Ty.pair tInt
                                                                                      (Ty.pair tInt
                                                                                        (Ty.pair tInt
                                                                                          (Ty.pair tTrigger
                                                                                            (Ty.pair Ty.str
                                                                                              (Ty.pair tInt
                                                                                                Ty.unit))))))))))))))))))))
                                                fun (q13 : den tInt) ↦
                                                TreeS.req
                                                  (impl
                                                    [(bif
                                                            bif !eqO (decide (q10 = 0)) (decide (q13 = 0)) then true
                                                            else
                                                              bif decide (q10 = 0) then
                                                                bif
                                                                    !decide
                                                                        (q9 =
                                                                          IntKind.wrap IntKind.i64
                                                                            (Prod.fst q6 + 1)) then
                                                                  true
                                                                else
                                                                  !decide
                                                                      (q12 = IntKind.wrap IntKind.i64 (Prod.fst q6 + 2))
                                                              else false then
                                                          true
                                                        else
                                                          bif !decide (q10 = 0) then
                                                            bif !decide (q9 = Prod.fst q6) then true
                                                            else !decide (q12 = Prod.fst q6)
                                                          else false,
                                                        false)]
                                                    True)
                                                  (TreeS.ite
                                                    (bif
                                                        bif
                                                            bif !eqO (decide (q10 = 0)) (decide (q13 = 0)) then true
                                                            else
                                                              bif decide (q10 = 0) then
                                                                bif
                                                                    !decide
                                                                        (q9 =
                                                                          IntKind.wrap IntKind.i64
                                                                            (Prod.fst q6 + 1)) then
                                                                  true
                                                                else
                                                                  !decide
                                                                      (q12 = IntKind.wrap IntKind.i64 (Prod.fst q6 + 2))
                                                              else false then
                                                          true
                                                        else
                                                          bif !decide (q10 = 0) then
                                                            bif !decide (q9 = Prod.fst q6) then true
                                                            else !decide (q12 = Prod.fst q6)
                                                          else false then
                                                      true
                                                    else !true)
                                                    (TreeS.ret (K.val (Ty.pair Ty.bool Ty.unit) (false, PUnit.unit)))
                                                    (TreeS.req
                                                      (List.length (List.replicate 0 (zero tNote) ++ q4) ≤ most)
                                                      (TreeS.req
                                                        (List.length
                                                            (List.replicate 0 (zero tNote) ++ q4 ++
                                                              List.set (List.replicate 1 (zero tNote)) 0
                                                                (1,
                                                                  Prod.fst
                                                                    (Prod.snd
                                                                      (el tNote q4
                                                                        (IntKind.wrap IntKind.i64 (lnx tNote q4 - 1)))),
                                                                  Prod.fst
                                                                    (Prod.snd
                                                                      (Prod.snd
                                                                        (zero
                                                                          (Ty.pair tInt
                                                                            (Ty.pair tInt
                                                                              (Ty.pair tInt
                                                                                (Ty.pair tInt
                                                                                  (Ty.pair tInt
                                                                                    (Ty.pair tTrigger
                                                                                      (Ty.pair Ty.str
                                                                                        (Ty.pair tInt
                                                                                          Ty.unit))))))))))),
                                                                  Prod.fst
                                                                    (Prod.snd
                                                                      (Prod.snd
                                                                        (Prod.snd
                                                                          (zero
                                                                            (Ty.pair tInt
                                                                              (Ty.pair tInt
                                                                                (Ty.pair tInt
                                                                                  (Ty.pair tInt
                                                                                    (Ty.pair tInt
                                                                                      (Ty.pair tTrigger
                                                                                        (Ty.pair Ty.str
                                                                                          (Ty.pair tInt
                                                                                            Ty.unit)))))))))))),
                                                                  n,
                                                                  Prod.fst
                                                                    (Prod.snd
                                                                      (Prod.snd
                                                                        (Prod.snd
                                                                          (Prod.snd
                                                                            (Prod.snd
                                                                              (zero
                                                                                (Ty.pair tInt
                                                                                  (Ty.pair tInt
                                                                                    (Ty.pair tInt
                                                                                      (Ty.pair tInt
                                                                                        (Ty.pair tInt
                                                                                          (Ty.pair tTrigger
                                                                                            (Ty.pair Ty.str
                                                                                              (Ty.pair tInt
                                                                                                Ty.unit)))))))))))))),
                                                                  q5,
                                                                  Prod.snd
                                                                    (Prod.snd
                                                                      (Prod.snd
                                                                        (Prod.snd
                                                                          (Prod.snd
                                                                            (Prod.snd
                                                                              (Prod.snd
                                                                                (zero
                                                                                  (Ty.pair tInt
                                                                                    (Ty.pair tInt
                                                                                      (Ty.pair tInt
                                                                                        (Ty.pair tInt
                                                                                          (Ty.pair tInt
                                                                                            (Ty.pair tTrigger
                                                                                              (Ty.pair Ty.str
                                                                                                (Ty.pair tInt
                                                                                                  Ty.unit))))))))))))))))) ≤
                                                          most)
                                                        (TreeS.req True
                                                          (TreeS.all (den (Ty.pair tInt (Ty.pair tInt Ty.unit)))
                                                            (fun (q14 : den (Ty.pair tInt (Ty.pair tInt Ty.unit))) ↦
                                                              q14 =
                                                                g_Check
                                                                  (List.replicate 0 (zero tNote) ++ q4 ++
                                                                    List.set (List.replicate 1 (zero tNote)) 0
                                                                      (1,
                                                                        Prod.fst
                                                                          (Prod.snd
                                                                            (el tNote q4
                                                                              (IntKind.wrap IntKind.i64
                                                                                (lnx tNote q4 - 1)))),
                                                                        Prod.fst
                                                                          (Prod.snd
                                                                            (Prod.snd
                                                                              (zero
                                                                                (Ty.pair tInt
                                                                                  (Ty.pair tInt
                                                                                    (Ty.pair tInt
                                                                                      (Ty.pair tInt
                                                                                        (Ty.pair tInt
                                                                                          (Ty.pair tTrigger
                                                                                            (Ty.pair Ty.str
                                                                                              (Ty.pair tInt
                                                                                                Ty.unit))))))))))),
                                                                        Prod.fst
                                                                          (Prod.snd
                                                                            (Prod.snd
                                                                              (Prod.snd
                                                                                (zero
                                                                                  (Ty.pair tInt
                                                                                    (Ty.pair tInt
                                                                                      (Ty.pair tInt
                                                                                        (Ty.pair tInt
                                                                                          (Ty.pair tInt
                                                                                            (Ty.pair tTrigger
                                                                                              (Ty.pair Ty.str
                                                                                                (Ty.pair tInt
                                                                                                  Ty.unit)))))))))))),
                                                                        n,
                                                                        Prod.fst
                                                                          (Prod.snd
                                                                            (Prod.snd
                                                                              (Prod.snd
                                                                                (Prod.snd
                                                                                  (Prod.snd
                                                                                    (zero
                                                                                      (Ty.pair tInt
                                                                                        (Ty.pair tInt
                                                                                          (Ty.pair tInt
                                                                                            (Ty.pair tInt
                                                                                              (Ty.pair tInt
                                                                                                (Ty.pair tTrigger
                                                                                                  (Ty.pair Ty.str
                                                                                                    (Ty.pair tInt
                                                                                                      Ty.unit)))))))))))))),
                                                                        q5,
                                                                        Prod.snd
                                                                          (Prod.snd
                                                                            (Prod.snd
                                                                              (Prod.snd
                                                                                (Prod.snd
                                                                                  (Prod.snd
                                                                                    (Prod.snd
                                                                                      (zero
                                                                                        (Ty.pair tInt
                                                                                          (Ty.pair tInt
                                                                                            (Ty.pair tInt
                                                                                              (Ty.pair tInt
                                                                                                (Ty.pair tInt
                                                                                                  (Ty.pair tTrigger
                                                                                                    (Ty.pair Ty.str
                                                                                                      (Ty.pair tInt
                                                                                                        Ty.unit))))))))))))))))))
                                                            fun (q14 : den (Ty.pair tInt (Ty.pair tInt Ty.unit))) ↦
                                                            TreeS.ite (!decide (Prod.fst (Prod.snd q14) = 0))
                                                              (TreeS.ret
                                                                (K.val (Ty.pair Ty.bool Ty.unit)
                                                                  (decide (Prod.fst (Prod.snd q14) = 11), PUnit.unit)))
                                                              (TreeS.req True
                                                                (TreeS.all (den (Ty.pair tInt (Ty.pair tInt Ty.unit)))
                                                                  (fun
                                                                      (q15 :
                                                                        den (Ty.pair tInt (Ty.pair tInt Ty.unit))) ↦
                                                                    q15 =
                                                                      g_Cost
                                                                        (List.replicate 0 (zero tNote) ++ q4 ++
                                                                          List.set (List.replicate 1 (zero tNote)) 0
                                                                            (1,
                                                                              Prod.fst
                                                                                (Prod.snd
                                                                                  (el tNote q4
                                                                                    (IntKind.wrap IntKind.i64
                                                                                      (lnx tNote q4 - 1)))),
                                                                              Prod.fst
                                                                                (Prod.snd
                                                                                  (Prod.snd
                                                                                    (zero
                                                                                      (Ty.pair tInt
                                                                                        (Ty.pair tInt
                                                                                          (Ty.pair tInt
                                                                                            (Ty.pair tInt
                                                                                              (Ty.pair tInt
                                                                                                (Ty.pair tTrigger
                                                                                                  (Ty.pair Ty.str
                                                                                                    (Ty.pair tInt
                                                                                                      Ty.unit))))))))))),
                                                                              Prod.fst
                                                                                (Prod.snd
                                                                                  (Prod.snd
                                                                                    (Prod.snd
                                                                                      (zero
                                                                                        (Ty.pair tInt
                                                                                          (Ty.pair tInt
                                                                                            (Ty.pair tInt
                                                                                              (Ty.pair tInt
                                                                                                (Ty.pair tInt
                                                                                                  (Ty.pair tTrigger
                                                                                                    (Ty.pair Ty.str
                                                                                                      (Ty.pair tInt
                                                                                                        Ty.unit)))))))))))),
                                                                              n,
                                                                              Prod.fst
                                                                                (Prod.snd
                                                                                  (Prod.snd
                                                                                    (Prod.snd
                                                                                      (Prod.snd
                                                                                        (Prod.snd
                                                                                          (zero
                                                                                            (Ty.pair tInt
                                                                                              (Ty.pair tInt
                                                                                                (Ty.pair tInt
                                                                                                  (Ty.pair tInt
                                                                                                    (Ty.pair tInt
                                                                                                      (Ty.pair tTrigger
                                                                                                        (Ty.pair Ty.str
                                                                                                          (Ty.pair tInt
                                                                                                            Ty.unit)))))))))))))),
                                                                              q5,
                                                                              Prod.snd
                                                                                (Prod.snd
                                                                                  (Prod.snd
                                                                                    (Prod.snd
                                                                                      (Prod.snd
                                                                                        (Prod.snd
                                                                                          (Prod.snd
                                                                                            (zero
                                                                                              (Ty.pair tInt
                                                                                                (Ty.pair tInt
                                                                                                  (Ty.pair tInt
                                                                                                    (Ty.pair tInt
                                                                                                      (Ty.pair tInt
                                                                                                        (Ty.pair
                                                                                                          tTrigger
                                                                                                          (Ty.pair
                                                                                                            Ty.str
                                                                                                            (Ty.pair
                                                                                                              tInt
                                                                                                              Ty.unit)))))))))))))))))
                                                                        n)
                                                                  fun
                                                                    (q15 : den (Ty.pair tInt (Ty.pair tInt Ty.unit))) ↦
                                                                  TreeS.ret
                                                                    (K.val (Ty.pair Ty.bool Ty.unit)
                                                                      (bif
                                                                            bif
                                                                                bif
                                                                                    decide
                                                                                      (Prod.fst (Prod.snd q15) = 0) then
                                                                                  decide (Prod.fst q15 = 1)
                                                                                else false then
                                                                              decide (Prod.fst (Prod.snd q7) = 6)
                                                                            else false then
                                                                          decide (Prod.fst q7 = 0)
                                                                        else false,
                                                                        PUnit.unit))))))))))))))))))
                  (TreeS.req True
                    (TreeS.all (den (Ty.pair tInt (Ty.pair tInt Ty.unit)))
                      (fun (q7 : den (Ty.pair tInt (Ty.pair tInt Ty.unit))) ↦ q7 = g_Cost q4 n)
                      fun (q7 : den (Ty.pair tInt (Ty.pair tInt Ty.unit))) ↦
                      TreeS.req (List.length (List.replicate 0 (zero tNote) ++ q4) ≤ most)
                        (TreeS.req
                          (List.length
                              (List.replicate 0 (zero tNote) ++ q4 ++
                                List.set (List.replicate 1 (zero tNote)) 0
                                  (4, 0,
                                    Prod.fst
                                      (Prod.snd
                                        (Prod.snd
                                          (zero
                                            (Ty.pair tInt
                                              (Ty.pair tInt
                                                (Ty.pair tInt
                                                  (Ty.pair tInt
                                                    (Ty.pair tInt
                                                      (Ty.pair tTrigger
                                                        (Ty.pair Ty.str (Ty.pair tInt Ty.unit))))))))))),
                                    n,
                                    Prod.fst
                                      (Prod.snd
                                        (Prod.snd
                                          (Prod.snd
                                            (Prod.snd
                                              (zero
                                                (Ty.pair tInt
                                                  (Ty.pair tInt
                                                    (Ty.pair tInt
                                                      (Ty.pair tInt
                                                        (Ty.pair tInt
                                                          (Ty.pair tTrigger
                                                            (Ty.pair Ty.str (Ty.pair tInt Ty.unit))))))))))))),
                                    Prod.fst
                                      (Prod.snd
                                        (Prod.snd
                                          (Prod.snd
                                            (Prod.snd
                                              (Prod.snd
                                                (zero
                                                  (Ty.pair tInt
                                                    (Ty.pair tInt
                                                      (Ty.pair tInt
                                                        (Ty.pair tInt
                                                          (Ty.pair tInt
                                                            (Ty.pair tTrigger
                                                              (Ty.pair Ty.str (Ty.pair tInt Ty.unit)))))))))))))),
                                    q5,
                                    Prod.snd
                                      (Prod.snd
                                        (Prod.snd
                                          (Prod.snd
                                            (Prod.snd
                                              (Prod.snd
                                                (Prod.snd
                                                  (zero
                                                    (Ty.pair tInt
                                                      (Ty.pair tInt
                                                        (Ty.pair tInt
                                                          (Ty.pair tInt
                                                            (Ty.pair tInt
                                                              (Ty.pair tTrigger
                                                                (Ty.pair Ty.str (Ty.pair tInt Ty.unit))))))))))))))))) ≤
                            most)
                          (TreeS.req True
                            (TreeS.all (den (Ty.pair tInt (Ty.pair tInt Ty.unit)))
                              (fun (q8 : den (Ty.pair tInt (Ty.pair tInt Ty.unit))) ↦
                                q8 =
                                  g_Check
                                    (List.replicate 0 (zero tNote) ++ q4 ++
                                      List.set (List.replicate 1 (zero tNote)) 0
                                        (4, 0,
                                          Prod.fst
                                            (Prod.snd
                                              (Prod.snd
                                                (zero
                                                  (Ty.pair tInt
                                                    (Ty.pair tInt
                                                      (Ty.pair tInt
                                                        (Ty.pair tInt
                                                          (Ty.pair tInt
                                                            (Ty.pair tTrigger
                                                              (Ty.pair Ty.str (Ty.pair tInt Ty.unit))))))))))),
                                          n,
                                          Prod.fst
                                            (Prod.snd
                                              (Prod.snd
                                                (Prod.snd
                                                  (Prod.snd
                                                    (zero
                                                      (Ty.pair tInt
                                                        (Ty.pair tInt
                                                          (Ty.pair tInt
                                                            (Ty.pair tInt
                                                              (Ty.pair tInt
                                                                (Ty.pair tTrigger
                                                                  (Ty.pair Ty.str (Ty.pair tInt Ty.unit))))))))))))),
                                          Prod.fst
                                            (Prod.snd
                                              (Prod.snd
                                                (Prod.snd
                                                  (Prod.snd
                                                    (Prod.snd
                                                      (zero
                                                        (Ty.pair tInt
                                                          (Ty.pair tInt
                                                            (Ty.pair tInt
                                                              (Ty.pair tInt
                                                                (Ty.pair tInt
                                                                  (Ty.pair tTrigger
                                                                    (Ty.pair Ty.str (Ty.pair tInt Ty.unit)))))))))))))),
                                          q5,
                                          Prod.snd
                                            (Prod.snd
                                              (Prod.snd
                                                (Prod.snd
                                                  (Prod.snd
                                                    (Prod.snd
                                                      (Prod.snd
                                                        (zero
                                                          (Ty.pair tInt
                                                            (Ty.pair tInt
                                                              (Ty.pair tInt
                                                                (Ty.pair tInt
                                                                  (Ty.pair tInt
                                                                    (Ty.pair tTrigger
                                                                      (Ty.pair Ty.str
                                                                        (Ty.pair tInt Ty.unit))))))))))))))))))
                              fun (q8 : den (Ty.pair tInt (Ty.pair tInt Ty.unit))) ↦
                              TreeS.all (den tInt)
                                (fun (q9 : den tInt) ↦
                                  q9 =
                                    Prod.fst
                                      (g_Check
                                        (List.replicate 0 (zero tNote) ++ q4 ++
                                          List.set (List.replicate 1 (zero tNote)) 0
                                            (4, 0,
                                              Prod.fst
                                                (Prod.snd
                                                  (Prod.snd
                                                    (zero
                                                      (Ty.pair tInt
                                                        (Ty.pair tInt
                                                          (Ty.pair tInt
                                                            (Ty.pair tInt
                                                              (Ty.pair tInt
                                                                (Ty.pair tTrigger
                                                                  (Ty.pair Ty.str (Ty.pair tInt Ty.unit))))))))))),
                                              n,
                                              Prod.fst
                                                (Prod.snd
                                                  (Prod.snd
                                                    (Prod.snd
                                                      (Prod.snd
                                                        (zero
                                                          (Ty.pair tInt
                                                            (Ty.pair tInt
                                                              (Ty.pair tInt
                                                                (Ty.pair tInt
                                                                  (Ty.pair tInt
                                                                    (Ty.pair tTrigger
                                                                      (Ty.pair Ty.str
                                                                        (Ty.pair tInt Ty.unit))))))))))))),
                                              Prod.fst
                                                (Prod.snd
                                                  (Prod.snd
                                                    (Prod.snd
                                                      (Prod.snd
                                                        (Prod.snd
                                                          (zero
                                                            (Ty.pair tInt
                                                              (Ty.pair tInt
                                                                (Ty.pair tInt
                                                                  (Ty.pair tInt
                                                                    (Ty.pair tInt
                                                                      (Ty.pair tTrigger
                                                                        (Ty.pair Ty.str
                                                                          (Ty.pair tInt Ty.unit)))))))))))))),
                                              q5,
                                              Prod.snd
                                                (Prod.snd
                                                  (Prod.snd
                                                    (Prod.snd
                                                      (Prod.snd
                                                        (Prod.snd
                                                          (Prod.snd
                                                            (zero
                                                              (Ty.pair tInt
                                                                (Ty.pair tInt
                                                                  (Ty.pair tInt
                                                                    (Ty.pair tInt
                                                                      (Ty.pair tInt
                                                                        (Ty.pair tTrigger
                                                                          (Ty.pair Ty.str
                                                                            (Ty.pair tInt Ty.unit)))))))))))))))))))
                                fun (q9 : den tInt) ↦
                                TreeS.all (den tInt)
                                  (fun (q10 : den tInt) ↦
                                    q10 =
                                      Prod.fst
                                        (Prod.snd
                                          (g_Check
                                            (List.replicate 0 (zero tNote) ++ q4 ++
                                              List.set (List.replicate 1 (zero tNote)) 0
                                                (4, 0,
                                                  Prod.fst
                                                    (Prod.snd
                                                      (Prod.snd
                                                        (zero
                                                          (Ty.pair tInt
                                                            (Ty.pair tInt
                                                              (Ty.pair tInt
                                                                (Ty.pair tInt
                                                                  (Ty.pair tInt
                                                                    (Ty.pair tTrigger
                                                                      (Ty.pair Ty.str (Ty.pair tInt Ty.unit))))))))))),
                                                  n,
                                                  Prod.fst
                                                    (Prod.snd
                                                      (Prod.snd
                                                        (Prod.snd
                                                          (Prod.snd
                                                            (zero
                                                              (Ty.pair tInt
                                                                (Ty.pair tInt
                                                                  (Ty.pair tInt
                                                                    (Ty.pair tInt
                                                                      (Ty.pair tInt
                                                                        (Ty.pair tTrigger
                                                                          (Ty.pair Ty.str
                                                                            (Ty.pair tInt Ty.unit))))))))))))),
                                                  Prod.fst
                                                    (Prod.snd
                                                      (Prod.snd
                                                        (Prod.snd
                                                          (Prod.snd
                                                            (Prod.snd
                                                              (zero
                                                                (Ty.pair tInt
                                                                  (Ty.pair tInt
                                                                    (Ty.pair tInt
                                                                      (Ty.pair tInt
                                                                        (Ty.pair tInt
                                                                          (Ty.pair tTrigger
                                                                            (Ty.pair Ty.str
                                                                              (Ty.pair tInt Ty.unit)))))))))))))),
                                                  q5,
                                                  Prod.snd
                                                    (Prod.snd
                                                      (Prod.snd
                                                        (Prod.snd
                                                          (Prod.snd
                                                            (Prod.snd
                                                              (Prod.snd
                                                                (zero
                                                                  (Ty.pair tInt
                                                                    (Ty.pair tInt
                                                                      (Ty.pair tInt
                                                                        (Ty.pair tInt
                                                                          (Ty.pair tInt
                                                                            (Ty.pair tTrigger
                                                                              (Ty.pair Ty.str
                                                                                (Ty.pair tInt
                                                                                  Ty.unit))))))))))))))))))))
                                  fun (q10 : den tInt) ↦
                                  TreeS.req (List.length (List.replicate 0 (zero tNote) ++ q4) ≤ most)
                                    (TreeS.req
                                      (List.length
                                          (List.replicate 0 (zero tNote) ++ q4 ++
                                            List.set
                                              (List.set (List.replicate 2 (zero tNote)) 0
                                                (4, 0,
                                                  Prod.fst
                                                    (Prod.snd
                                                      (Prod.snd
                                                        (zero
                                                          (Ty.pair tInt
                                                            (Ty.pair tInt
                                                              (Ty.pair tInt
                                                                (Ty.pair tInt
                                                                  (Ty.pair tInt
                                                                    (Ty.pair tTrigger
                                                                      (Ty.pair Ty.str (Ty.pair tInt Ty.unit))))))))))),
                                                  n,
                                                  Prod.fst
                                                    (Prod.snd
                                                      (Prod.snd
                                                        (Prod.snd
                                                          (Prod.snd
                                                            (zero
                                                              (Ty.pair tInt
                                                                (Ty.pair tInt
                                                                  (Ty.pair tInt
                                                                    (Ty.pair tInt
                                                                      (Ty.pair tInt
                                                                        (Ty.pair tTrigger
                                                                          (Ty.pair Ty.str
                                                                            (Ty.pair tInt Ty.unit))))))))))))),
                                                  Prod.fst
                                                    (Prod.snd
                                                      (Prod.snd
                                                        (Prod.snd
                                                          (Prod.snd
                                                            (Prod.snd
                                                              (zero
                                                                (Ty.pair tInt
                                                                  (Ty.pair tInt
                                                                    (Ty.pair tInt
                                                                      (Ty.pair tInt
                                                                        (Ty.pair tInt
                                                                          (Ty.pair tTrigger
                                                                            (Ty.pair Ty.str
                                                                              (Ty.pair tInt Ty.unit)))))))))))))),
                                                  q5,
                                                  Prod.snd
                                                    (Prod.snd
                                                      (Prod.snd
                                                        (Prod.snd
                                                          (Prod.snd
                                                            (Prod.snd
                                                              (Prod.snd
                                                                (zero
                                                                  (Ty.pair tInt
                                                                    (Ty.pair tInt
                                                                      (Ty.pair tInt
                                                                        (Ty.pair tInt
                                                                          (Ty.pair tInt
                                                                            (Ty.pair tTrigger
                                                                              (Ty.pair Ty.str
                                                                                (Ty.pair tInt Ty.unit)))))))))))))))))
                                              1
                                              (4, 0,
                                                Prod.fst
                                                  (Prod.snd
                                                    (Prod.snd
                                                      (zero
                                                        (Ty.pair tInt
                                                          (Ty.pair tInt
                                                            (Ty.pair tInt
                                                              (Ty.pair tInt
                                                                (Ty.pair tInt
                                                                  (Ty.pair tTrigger
                                                                    (Ty.pair Ty.str (Ty.pair tInt Ty.unit))))))))))),
                                                n,
                                                Prod.fst
                                                  (Prod.snd
                                                    (Prod.snd
                                                      (Prod.snd
                                                        (Prod.snd
                                                          (zero
                                                            (Ty.pair tInt
                                                              (Ty.pair tInt
                                                                (Ty.pair tInt
                                                                  (Ty.pair tInt
                                                                    (Ty.pair tInt
                                                                      (Ty.pair tTrigger
                                                                        (Ty.pair Ty.str
                                                                          (Ty.pair tInt Ty.unit))))))))))))),
                                                Prod.fst
                                                  (Prod.snd
                                                    (Prod.snd
                                                      (Prod.snd
                                                        (Prod.snd
                                                          (Prod.snd
                                                            (zero
                                                              (Ty.pair tInt
                                                                (Ty.pair tInt
                                                                  (Ty.pair tInt
                                                                    (Ty.pair tInt
                                                                      (Ty.pair tInt
                                                                        (Ty.pair tTrigger
                                                                          (Ty.pair Ty.str
                                                                            (Ty.pair tInt Ty.unit)))))))))))))),
                                                q5,
                                                Prod.snd
                                                  (Prod.snd
                                                    (Prod.snd
                                                      (Prod.snd
                                                        (Prod.snd
                                                          (Prod.snd
                                                            (Prod.snd
                                                              (zero
                                                                (Ty.pair tInt
                                                                  (Ty.pair tInt
                                                                    (Ty.pair tInt
                                                                      (Ty.pair tInt
                                                                        (Ty.pair tInt
                                                                          (Ty.pair tTrigger
                                                                            (Ty.pair Ty.str
                                                                              (Ty.pair tInt Ty.unit))))))))))))))))) ≤
                                        most)
                                      (TreeS.req True
                                        (TreeS.all (den (Ty.pair tInt (Ty.pair tInt Ty.unit)))
                                          (fun (q11 : den (Ty.pair tInt (Ty.pair tInt Ty.unit))) ↦
                                            q11 =
                                              g_Check
                                                (List.replicate 0 (zero tNote) ++ q4 ++
                                                  List.set
                                                    (List.set (List.replicate 2 (zero tNote)) 0
                                                      (4, 0,
                                                        Prod.fst
                                                          (Prod.snd
                                                            (Prod.snd
                                                              (zero
                                                                (Ty.pair tInt
                                                                  (Ty.pair tInt
                                                                    (Ty.pair tInt
                                                                      (Ty.pair tInt
                                                                        (Ty.pair tInt
                                                                          (Ty.pair tTrigger
                                                                            (Ty.pair Ty.str
                                                                              (Ty.pair tInt Ty.unit))))))))))),
                                                        n,
                                                        Prod.fst
                                                          (Prod.snd
                                                            (Prod.snd
                                                              (Prod.snd
                                                                (Prod.snd
                                                                  (zero
                                                                    (Ty.pair tInt
                                                                      (Ty.pair tInt
                                                                        (Ty.pair tInt
                                                                          (Ty.pair tInt
                                                                            (Ty.pair tInt
                                                                              (Ty.pair tTrigger
                                                                                (Ty.pair Ty.str
                                                                                  (Ty.pair tInt Ty.unit))))))))))))),
                                                        Prod.fst
                                                          (Prod.snd
                                                            (Prod.snd
                                                              (Prod.snd
                                                                (Prod.snd
                                                                  (Prod.snd
                                                                    (zero
                                                                      (Ty.pair tInt
                                                                        (Ty.pair tInt
                                                                          (Ty.pair tInt
                                                                            (Ty.pair tInt
                                                                              (Ty.pair tInt
                                                                                (Ty.pair tTrigger
                                                                                  (Ty.pair Ty.str
                                                                                    (Ty.pair tInt Ty.unit)))))))))))))),
                                                        q5,
                                                        Prod.snd
                                                          (Prod.snd
                                                            (Prod.snd
                                                              (Prod.snd
                                                                (Prod.snd
                                                                  (Prod.snd
                                                                    (Prod.snd
                                                                      (zero
                                                                        (Ty.pair tInt
                                                                          (Ty.pair tInt
                                                                            (Ty.pair tInt
                                                                              (Ty.pair tInt
                                                                                (Ty.pair tInt
                                                                                  (Ty.pair tTrigger
                                                                                    (Ty.pair Ty.str
                                                                                      (Ty.pair tInt
                                                                                        Ty.unit)))))))))))))))))
                                                    1
                                                    (4, 0,
                                                      Prod.fst
                                                        (Prod.snd
                                                          (Prod.snd
                                                            (zero
                                                              (Ty.pair tInt
                                                                (Ty.pair tInt
                                                                  (Ty.pair tInt
                                                                    (Ty.pair tInt
                                                                      (Ty.pair tInt
                                                                        (Ty.pair tTrigger
                                                                          (Ty.pair Ty.str
                                                                            (Ty.pair tInt Ty.unit))))))))))),
                                                      n,
                                                      Prod.fst
                                                        (Prod.snd
                                                          (Prod.snd
                                                            (Prod.snd
                                                              (Prod.snd
                                                                (zero
                                                                  (Ty.pair tInt
                                                                    (Ty.pair tInt
                                                                      (Ty.pair tInt
                                                                        (Ty.pair tInt
                                                                          (Ty.pair tInt
                                                                            (Ty.pair tTrigger
                                                                              (Ty.pair Ty.str
                                                                                (Ty.pair tInt Ty.unit))))))))))))),
                                                      Prod.fst
                                                        (Prod.snd
                                                          (Prod.snd
                                                            (Prod.snd
                                                              (Prod.snd
                                                                (Prod.snd
                                                                  (zero
                                                                    (Ty.pair tInt
                                                                      (Ty.pair tInt
                                                                        (Ty.pair tInt
                                                                          (Ty.pair tInt
                                                                            (Ty.pair tInt
                                                                              (Ty.pair tTrigger
                                                                                (Ty.pair Ty.str
                                                                                  (Ty.pair tInt Ty.unit)))))))))))))),
                                                      q5,
                                                      Prod.snd
                                                        (Prod.snd
                                                          (Prod.snd
                                                            (Prod.snd
                                                              (Prod.snd
                                                                (Prod.snd
                                                                  (Prod.snd
                                                                    (zero
                                                                      (Ty.pair tInt
                                                                        (Ty.pair tInt
                                                                          (Ty.pair tInt
                                                                            (Ty.pair tInt
                                                                              (Ty.pair tInt
                                                                                (Ty.pair tTrigger
                                                                                  (Ty.pair Ty.str
                                                                                    (Ty.pair tInt
                                                                                      Ty.unit))))))))))))))))))
                                          fun (q11 : den (Ty.pair tInt (Ty.pair tInt Ty.unit))) ↦
                                          TreeS.all (den tInt)
                                            (fun (q12 : den tInt) ↦
                                              q12 =
                                                Prod.fst
                                                  (g_Check
                                                    (List.replicate 0 (zero tNote) ++ q4 ++
                                                      List.set
                                                        (List.set (List.replicate 2 (zero tNote)) 0
                                                          (4, 0,
                                                            Prod.fst
                                                              (Prod.snd
                                                                (Prod.snd
                                                                  (zero
                                                                    (Ty.pair tInt
                                                                      (Ty.pair tInt
                                                                        (Ty.pair tInt
                                                                          (Ty.pair tInt
                                                                            (Ty.pair tInt
                                                                              (Ty.pair tTrigger
                                                                                (Ty.pair Ty.str
                                                                                  (Ty.pair tInt Ty.unit))))))))))),
                                                            n,
                                                            Prod.fst
                                                              (Prod.snd
                                                                (Prod.snd
                                                                  (Prod.snd
                                                                    (Prod.snd
                                                                      (zero
                                                                        (Ty.pair tInt
                                                                          (Ty.pair tInt
                                                                            (Ty.pair tInt
                                                                              (Ty.pair tInt
                                                                                (Ty.pair tInt
                                                                                  (Ty.pair tTrigger
                                                                                    (Ty.pair Ty.str
                                                                                      (Ty.pair tInt
                                                                                        Ty.unit))))))))))))),
                                                            Prod.fst
                                                              (Prod.snd
                                                                (Prod.snd
                                                                  (Prod.snd
                                                                    (Prod.snd
                                                                      (Prod.snd
                                                                        (zero
                                                                          (Ty.pair tInt
                                                                            (Ty.pair tInt
                                                                              (Ty.pair tInt
                                                                                (Ty.pair tInt
                                                                                  (Ty.pair tInt
                                                                                    (Ty.pair tTrigger
                                                                                      (Ty.pair Ty.str
                                                                                        (Ty.pair tInt
                                                                                          Ty.unit)))))))))))))),
                                                            q5,
                                                            Prod.snd
                                                              (Prod.snd
                                                                (Prod.snd
                                                                  (Prod.snd
                                                                    (Prod.snd
                                                                      (Prod.snd
                                                                        (Prod.snd
                                                                          (zero
                                                                            (Ty.pair tInt
                                                                              (Ty.pair tInt
                                                                                (Ty.pair tInt
                                                                                  (Ty.pair tInt
                                                                                    (Ty.pair tInt
                                                                                      (Ty.pair tTrigger
                                                                                        (Ty.pair Ty.str
                                                                                          (Ty.pair tInt
                                                                                            Ty.unit)))))))))))))))))
                                                        1
                                                        (4, 0,
                                                          Prod.fst
                                                            (Prod.snd
                                                              (Prod.snd
                                                                (zero
                                                                  (Ty.pair tInt
                                                                    (Ty.pair tInt
                                                                      (Ty.pair tInt
                                                                        (Ty.pair tInt
                                                                          (Ty.pair tInt
                                                                            (Ty.pair tTrigger
                                                                              (Ty.pair Ty.str
                                                                                (Ty.pair tInt Ty.unit))))))))))),
                                                          n,
                                                          Prod.fst
                                                            (Prod.snd
                                                              (Prod.snd
                                                                (Prod.snd
                                                                  (Prod.snd
                                                                    (zero
                                                                      (Ty.pair tInt
                                                                        (Ty.pair tInt
                                                                          (Ty.pair tInt
                                                                            (Ty.pair tInt
                                                                              (Ty.pair tInt
                                                                                (Ty.pair tTrigger
                                                                                  (Ty.pair Ty.str
                                                                                    (Ty.pair tInt Ty.unit))))))))))))),
                                                          Prod.fst
                                                            (Prod.snd
                                                              (Prod.snd
                                                                (Prod.snd
                                                                  (Prod.snd
                                                                    (Prod.snd
                                                                      (zero
                                                                        (Ty.pair tInt
                                                                          (Ty.pair tInt
                                                                            (Ty.pair tInt
                                                                              (Ty.pair tInt
                                                                                (Ty.pair tInt
                                                                                  (Ty.pair tTrigger
                                                                                    (Ty.pair Ty.str
                                                                                      (Ty.pair tInt
                                                                                        Ty.unit)))))))))))))),
                                                          q5,
                                                          Prod.snd
                                                            (Prod.snd
                                                              (Prod.snd
                                                                (Prod.snd
                                                                  (Prod.snd
                                                                    (Prod.snd
                                                                      (Prod.snd
                                                                        (zero
                                                                          (Ty.pair tInt
                                                                            (Ty.pair tInt
                                                                              (Ty.pair tInt
                                                                                (Ty.pair tInt
                                                                                  (Ty.pair tInt
                                                                                    (Ty.pair tTrigger
                                                                                      (Ty.pair Ty.str
                                                                                        (Ty.pair tInt
                                                                                          Ty.unit)))))))))))))))))))
                                            fun (q12 : den tInt) ↦
                                            TreeS.all (den tInt)
                                              (fun (q13 : den tInt) ↦
                                                q13 =
                                                  Prod.fst
                                                    (Prod.snd
                                                      (g_Check
                                                        (List.replicate 0 (zero tNote) ++ q4 ++
                                                          List.set
                                                            (List.set (List.replicate 2 (zero tNote)) 0
                                                              (4, 0,
                                                                Prod.fst
                                                                  (Prod.snd
                                                                    (Prod.snd
                                                                      (zero
                                                                        (Ty.pair tInt
                                                                          (Ty.pair tInt
                                                                            (Ty.pair tInt
                                                                              (Ty.pair tInt
                                                                                (Ty.pair tInt
                                                                                  (Ty.pair tTrigger
                                                                                    (Ty.pair Ty.str
                                                                                      (Ty.pair tInt Ty.unit))))))))))),
                                                                n,
                                                                Prod.fst
                                                                  (Prod.snd
                                                                    (Prod.snd
                                                                      (Prod.snd
                                                                        (Prod.snd
                                                                          (zero
                                                                            (Ty.pair tInt
                                                                              (Ty.pair tInt
                                                                                (Ty.pair tInt
                                                                                  (Ty.pair tInt
                                                                                    (Ty.pair tInt
                                                                                      (Ty.pair tTrigger
                                                                                        (Ty.pair Ty.str
                                                                                          (Ty.pair tInt
                                                                                            Ty.unit))))))))))))),
                                                                Prod.fst
                                                                  (Prod.snd
                                                                    (Prod.snd
                                                                      (Prod.snd
                                                                        (Prod.snd
                                                                          (Prod.snd
                                                                            (zero
                                                                              (Ty.pair tInt
                                                                                (Ty.pair tInt
                                                                                  (Ty.pair tInt
                                                                                    (Ty.pair tInt
                                                                                      (Ty.pair tInt
                                                                                        (Ty.pair tTrigger
                                                                                          (Ty.pair Ty.str
                                                                                            (Ty.pair tInt
                                                                                              Ty.unit)))))))))))))),
                                                                q5,
                                                                Prod.snd
                                                                  (Prod.snd
                                                                    (Prod.snd
                                                                      (Prod.snd
                                                                        (Prod.snd
                                                                          (Prod.snd
                                                                            (Prod.snd
                                                                              (zero
                                                                                (Ty.pair tInt
                                                                                  (Ty.pair tInt
                                                                                    (Ty.pair tInt
                                                                                      (Ty.pair tInt
                                                                                        (Ty.pair tInt
                                                                                          (Ty.pair tTrigger
                                                                                            (Ty.pair Ty.str
                                                                                              (Ty.pair tInt
                                                                                                Ty.unit)))))))))))))))))
                                                            1
                                                            (4, 0,
                                                              Prod.fst
                                                                (Prod.snd
                                                                  (Prod.snd
                                                                    (zero
                                                                      (Ty.pair tInt
                                                                        (Ty.pair tInt
                                                                          (Ty.pair tInt
                                                                            (Ty.pair tInt
                                                                              (Ty.pair tInt
                                                                                (Ty.pair tTrigger
                                                                                  (Ty.pair Ty.str
                                                                                    (Ty.pair tInt Ty.unit))))))))))),
                                                              n,
                                                              Prod.fst
                                                                (Prod.snd
                                                                  (Prod.snd
                                                                    (Prod.snd
                                                                      (Prod.snd
                                                                        (zero
                                                                          (Ty.pair tInt
                                                                            (Ty.pair tInt
                                                                              (Ty.pair tInt
                                                                                (Ty.pair tInt
                                                                                  (Ty.pair tInt
                                                                                    (Ty.pair tTrigger
                                                                                      (Ty.pair Ty.str
                                                                                        (Ty.pair tInt
                                                                                          Ty.unit))))))))))))),
                                                              Prod.fst
                                                                (Prod.snd
                                                                  (Prod.snd
                                                                    (Prod.snd
                                                                      (Prod.snd
                                                                        (Prod.snd
                                                                          (zero
                                                                            (Ty.pair tInt
                                                                              (Ty.pair tInt
                                                                                (Ty.pair tInt
                                                                                  (Ty.pair tInt
                                                                                    (Ty.pair tInt
                                                                                      (Ty.pair tTrigger
                                                                                        (Ty.pair Ty.str
                                                                                          (Ty.pair tInt
                                                                                            Ty.unit)))))))))))))),
                                                              q5,
                                                              Prod.snd
                                                                (Prod.snd
                                                                  (Prod.snd
                                                                    (Prod.snd
                                                                      (Prod.snd
                                                                        (Prod.snd
                                                                          (Prod.snd
                                                                            (zero
                                                                              (Ty.pair tInt
                                                                                (Ty.pair tInt
                                                                                  (Ty.pair tInt
                                                                                    (Ty.pair tInt
                                                                                      (Ty.pair tInt
                                                                                        (Ty.pair tTrigger
                                                                                          (Ty.pair Ty.str
                                                                                            (Ty.pair tInt
                                                                                              Ty.unit))))))))))))))))))))
                                              fun (q13 : den tInt) ↦
                                              TreeS.req
                                                (impl
                                                  [(bif
                                                          bif !eqO (decide (q10 = 0)) (decide (q13 = 0)) then true
                                                          else
                                                            bif decide (q10 = 0) then
                                                              bif
                                                                  !decide
                                                                      (q9 =
                                                                        IntKind.wrap IntKind.i64 (Prod.fst q6 + 1)) then
                                                                true
                                                              else
                                                                !decide
                                                                    (q12 = IntKind.wrap IntKind.i64 (Prod.fst q6 + 2))
                                                            else false then
                                                        true
                                                      else
                                                        bif !decide (q10 = 0) then
                                                          bif !decide (q9 = Prod.fst q6) then true
                                                          else !decide (q12 = Prod.fst q6)
                                                        else false,
                                                      false)]
                                                  True)
                                                (TreeS.ite
                                                  (bif
                                                      bif
                                                          bif !eqO (decide (q10 = 0)) (decide (q13 = 0)) then true
                                                          else
                                                            bif decide (q10 = 0) then
                                                              bif
                                                                  !decide
                                                                      (q9 =
                                                                        IntKind.wrap IntKind.i64 (Prod.fst q6 + 1)) then
                                                                true
                                                              else
                                                                !decide
                                                                    (q12 = IntKind.wrap IntKind.i64 (Prod.fst q6 + 2))
                                                            else false then
                                                        true
                                                      else
                                                        bif !decide (q10 = 0) then
                                                          bif !decide (q9 = Prod.fst q6) then true
                                                          else !decide (q12 = Prod.fst q6)
                                                        else false then
                                                    true
                                                  else !true)
                                                  (TreeS.ret (K.val (Ty.pair Ty.bool Ty.unit) (false, PUnit.unit)))
                                                  (TreeS.req (List.length (List.replicate 0 (zero tNote) ++ q4) ≤ most)
                                                    (TreeS.req
                                                      (List.length
                                                          (List.replicate 0 (zero tNote) ++ q4 ++
                                                            List.set (List.replicate 1 (zero tNote)) 0
                                                              (1, 0,
                                                                Prod.fst
                                                                  (Prod.snd
                                                                    (Prod.snd
                                                                      (zero
                                                                        (Ty.pair tInt
                                                                          (Ty.pair tInt
                                                                            (Ty.pair tInt
                                                                              (Ty.pair tInt
                                                                                (Ty.pair tInt
                                                                                  (Ty.pair tTrigger
                                                                                    (Ty.pair Ty.str
                                                                                      (Ty.pair tInt Ty.unit))))))))))),
                                                                Prod.fst
                                                                  (Prod.snd
                                                                    (Prod.snd
                                                                      (Prod.snd
                                                                        (zero
                                                                          (Ty.pair tInt
                                                                            (Ty.pair tInt
                                                                              (Ty.pair tInt
                                                                                (Ty.pair tInt
                                                                                  (Ty.pair tInt
                                                                                    (Ty.pair tTrigger
                                                                                      (Ty.pair Ty.str
                                                                                        (Ty.pair tInt
                                                                                          Ty.unit)))))))))))),
                                                                n,
                                                                Prod.fst
                                                                  (Prod.snd
                                                                    (Prod.snd
                                                                      (Prod.snd
                                                                        (Prod.snd
                                                                          (Prod.snd
                                                                            (zero
                                                                              (Ty.pair tInt
                                                                                (Ty.pair tInt
                                                                                  (Ty.pair tInt
                                                                                    (Ty.pair tInt
                                                                                      (Ty.pair tInt
                                                                                        (Ty.pair tTrigger
                                                                                          (Ty.pair Ty.str
                                                                                            (Ty.pair tInt
                                                                                              Ty.unit)))))))))))))),
                                                                q5,
                                                                Prod.snd
                                                                  (Prod.snd
                                                                    (Prod.snd
                                                                      (Prod.snd
                                                                        (Prod.snd
                                                                          (Prod.snd
                                                                            (Prod.snd
                                                                              (zero
                                                                                (Ty.pair tInt
                                                                                  (Ty.pair tInt
                                                                                    (Ty.pair tInt
                                                                                      (Ty.pair tInt
                                                                                        (Ty.pair tInt
                                                                                          (Ty.pair tTrigger
                                                                                            (Ty.pair Ty.str
                                                                                              (Ty.pair tInt
                                                                                                Ty.unit))))))))))))))))) ≤
                                                        most)
                                                      (TreeS.req True
                                                        (TreeS.all (den (Ty.pair tInt (Ty.pair tInt Ty.unit)))
                                                          (fun (q14 : den (Ty.pair tInt (Ty.pair tInt Ty.unit))) ↦
                                                            q14 =
                                                              g_Check
                                                                (List.replicate 0 (zero tNote) ++ q4 ++
                                                                  List.set (List.replicate 1 (zero tNote)) 0
                                                                    (1, 0,
                                                                      Prod.fst
                                                                        (Prod.snd
                                                                          (Prod.snd
                                                                            (zero
                                                                              (Ty.pair tInt
                                                                                (Ty.pair tInt
                                                                                  (Ty.pair tInt
                                                                                    (Ty.pair tInt
                                                                                      (Ty.pair tInt
                                                                                        (Ty.pair tTrigger
                                                                                          (Ty.pair Ty.str
                                                                                            (Ty.pair tInt
                                                                                              Ty.unit))))))))))),
                                                                      Prod.fst
                                                                        (Prod.snd
                                                                          (Prod.snd
                                                                            (Prod.snd
                                                                              (zero
                                                                                (Ty.pair tInt
                                                                                  (Ty.pair tInt
                                                                                    (Ty.pair tInt
                                                                                      (Ty.pair tInt
                                                                                        (Ty.pair tInt
                                                                                          (Ty.pair tTrigger
                                                                                            (Ty.pair Ty.str
                                                                                              (Ty.pair tInt
                                                                                                Ty.unit)))))))))))),
                                                                      n,
                                                                      Prod.fst
                                                                        (Prod.snd
                                                                          (Prod.snd
                                                                            (Prod.snd
                                                                              (Prod.snd
                                                                                (Prod.snd
                                                                                  (zero
                                                                                    (Ty.pair tInt
                                                                                      (Ty.pair tInt
                                                                                        (Ty.pair tInt
                                                                                          (Ty.pair tInt
                                                                                            (Ty.pair tInt
                                                                                              (Ty.pair tTrigger
                                                                                                (Ty.pair Ty.str
                                                                                                  (Ty.pair tInt
                                                                                                    Ty.unit)))))))))))))),
                                                                      q5,
                                                                      Prod.snd
                                                                        (Prod.snd
                                                                          (Prod.snd
                                                                            (Prod.snd
                                                                              (Prod.snd
                                                                                (Prod.snd
                                                                                  (Prod.snd
                                                                                    (zero
                                                                                      (Ty.pair tInt
                                                                                        (Ty.pair tInt
                                                                                          (Ty.pair tInt
                                                                                            (Ty.pair tInt
                                                                                              (Ty.pair tInt
                                                                                                (Ty.pair tTrigger
                                                                                                  (Ty.pair Ty.str
                                                                                                    (Ty.pair tInt
                                                                                                      Ty.unit))))))))))))))))))
                                                          fun (q14 : den (Ty.pair tInt (Ty.pair tInt Ty.unit))) ↦
                                                          TreeS.ite (!decide (Prod.fst (Prod.snd q14) = 0))
                                                            (TreeS.ret
                                                              (K.val (Ty.pair Ty.bool Ty.unit)
                                                                (decide (Prod.fst (Prod.snd q14) = 11), PUnit.unit)))
                                                            (TreeS.req True
                                                              (TreeS.all (den (Ty.pair tInt (Ty.pair tInt Ty.unit)))
                                                                (fun (q15 : den (Ty.pair tInt (Ty.pair tInt Ty.unit))) ↦
                                                                  q15 =
                                                                    g_Cost
                                                                      (List.replicate 0 (zero tNote) ++ q4 ++
                                                                        List.set (List.replicate 1 (zero tNote)) 0
                                                                          (1, 0,
                                                                            Prod.fst
                                                                              (Prod.snd
                                                                                (Prod.snd
                                                                                  (zero
                                                                                    (Ty.pair tInt
                                                                                      (Ty.pair tInt
                                                                                        (Ty.pair tInt
                                                                                          (Ty.pair tInt
                                                                                            (Ty.pair tInt
                                                                                              (Ty.pair tTrigger
                                                                                                (Ty.pair Ty.str
                                                                                                  (Ty.pair tInt
                                                                                                    Ty.unit))))))))))),
                                                                            Prod.fst
                                                                              (Prod.snd
                                                                                (Prod.snd
                                                                                  (Prod.snd
                                                                                    (zero
                                                                                      (Ty.pair tInt
                                                                                        (Ty.pair tInt
                                                                                          (Ty.pair tInt
                                                                                            (Ty.pair tInt
                                                                                              (Ty.pair tInt
                                                                                                (Ty.pair tTrigger
                                                                                                  (Ty.pair Ty.str
                                                                                                    (Ty.pair tInt
                                                                                                      Ty.unit)))))))))))),
                                                                            n,
                                                                            Prod.fst
                                                                              (Prod.snd
                                                                                (Prod.snd
                                                                                  (Prod.snd
                                                                                    (Prod.snd
                                                                                      (Prod.snd
                                                                                        (zero
                                                                                          (Ty.pair tInt
                                                                                            (Ty.pair tInt
                                                                                              (Ty.pair tInt
                                                                                                (Ty.pair tInt
                                                                                                  (Ty.pair tInt
                                                                                                    (Ty.pair tTrigger
                                                                                                      (Ty.pair Ty.str
                                                                                                        (Ty.pair tInt
                                                                                                          Ty.unit)))))))))))))),
                                                                            q5,
                                                                            Prod.snd
                                                                              (Prod.snd
                                                                                (Prod.snd
                                                                                  (Prod.snd
                                                                                    (Prod.snd
                                                                                      (Prod.snd
                                                                                        (Prod.snd
                                                                                          (zero
                                                                                            (Ty.pair tInt
                                                                                              (Ty.pair tInt
                                                                                                (Ty.pair tInt
                                                                                                  (Ty.pair tInt
                                                                                                    (Ty.pair tInt
                                                                                                      (Ty.pair tTrigger
                                                                                                        (Ty.pair Ty.str
                                                                                                          (Ty.pair tInt
                                                                                                            Ty.unit)))))))))))))))))
                                                                      n)
                                                                fun (q15 : den (Ty.pair tInt (Ty.pair tInt Ty.unit))) ↦
                                                                TreeS.ret
                                                                  (K.val (Ty.pair Ty.bool Ty.unit)
                                                                    (bif
                                                                          bif
                                                                              bif
                                                                                  decide
                                                                                    (Prod.fst (Prod.snd q15) = 0) then
                                                                                decide (Prod.fst q15 = 1)
                                                                              else false then
                                                                            decide (Prod.fst (Prod.snd q7) = 6)
                                                                          else false then
                                                                        decide (Prod.fst q7 = 0)
                                                                      else false,
                                                                      PUnit.unit)))))))))))))))))))))
theorem T_l20_TraceAdds_eq (l : den (Ty.slc tNote)) (n : den tInt) (d : den Ty.str) : treeS X_l20_TraceAdds M_l20_TraceAdds 5000 [] fx_l20_TraceAdds (bodyOf f_l20_TraceAdds) (Env.of
  (argEnv as_l20_TraceAdds (l, n, d, ()) 0) []) = T_l20_TraceAdds l n d := by kernel_rfl

end Go.Proofs.Ytainieginijaaaa

/- What one note more does. -/
namespace Go.Proofs.Ytainieginijaaaa
open Go Go.RowKit

/-! ### The plain law -/

theorem has_any (m : List (Int × Int)) (c : Int) : hasW m c = m.any fun q => decide (c = q.1) := by
  unfold hasW mpHas mpFind
  cases hf : m.find? (fun q : Int × Int => eqb tInt c q.1) with
  | none =>
    refine Eq.symm (Bool.eq_false_iff.2 fun h => ?_)
    obtain ⟨q, hq, hd⟩ := List.any_eq_true.1 h
    exact List.find?_eq_none.1 hf q hq hd
  | some q =>
    have h1 := List.mem_of_find?_eq_some hf
    have h2 := List.find?_some hf
    exact (List.any_eq_true.2 ⟨q, h1, h2⟩).symm

theorem has_set (m : List (Int × Int)) (a v c : Int) : hasW (mpSet (k := tInt) (v := tInt) m a v) c = (hasW m c || decide (c = a)) := by
  rw [has_any, has_any]
  induction m with
  | nil => show (decide (c = a) || false) = (false || decide (c = a)); rw [Bool.or_false, Bool.false_or]
  | cons q m ih =>
    rw [mpSet]
    by_cases h : eqb tInt a q.1 = true
    · have e : a = q.1 := of_decide_eq_true h
      rw [if_pos h, List.any_cons, List.any_cons]
      show (decide (c = a) || _) = _
      rw [e]
      cases decide (c = q.1) <;> cases m.any fun q => decide (c = q.1) <;> rfl
    · rw [if_neg h, List.any_cons, List.any_cons, ih, Bool.or_assoc]

theorem get_mem {m : List (Int × Lt)} {a : Int} (h : hasM m a = true) : ∃ e ∈ m, e.2 = getM m a := by
  unfold hasM mpHas at h
  unfold getM mpGet
  unfold mpFind at h ⊢
  cases hf : m.find? (fun q : Int × Lt => eqb tInt a q.1) with
  | none => rw [hf] at h; cases h
  | some q => exact ⟨q, List.mem_of_find?_eq_some hf, rfl⟩

structure Bo (b : Bk) : Prop where
  who : ∀ a, hasW b.2.2.1 a = true → hasM b.1 a = true
  fst : ∀ e ∈ b.1, hasM b.1 (firstL e.2) = true

theorem bo_nil : Bo bk0 := ⟨fun _ h => (by cases h), fun _ h => (by cases h)⟩

theorem bo_step {f : Bool} {b b' : Bk} {x : Nt} (h : stepB f b x = some b') (hb : Bo b) : Bo b' := by
  have old : ∀ (q : Int × Lt) (a : Int), hasM b.1 a = true → hasM (b.1 ++ [q]) a = true := fun q a h => (has_app' b.1 [q] h).1
  rcases (step_cases h).2 with ⟨_, _, h1, rfl⟩ | ⟨_, rfl⟩ | ⟨_, h1, _, h2, _, rfl⟩ | ⟨_, _, _, rfl⟩ | ⟨_, rfl⟩
  · refine ⟨fun a ha => ?_, fun e he => ?_⟩
    · have ha : hasW (mpSet (k := tInt) (v := tInt) b.2.2.1 (ltN x) (noN x)) a = true := ha
      rw [has_set] at ha
      show hasM (b.1 ++ _) a = true
      rw [has_app]
      rcases Bool.or_eq_true_iff.1 ha with ha | ha
      · rw [hb.who a ha]; rfl
      · rw [ha, Bool.or_true]
    · rcases List.mem_append.1 he with he | he
      · exact old _ _ (hb.fst e he)
      · rw [List.mem_singleton.1 he]
        show hasM (b.1 ++ _) (ltN x) = true
        rw [has_app, decide_eq_true rfl, Bool.or_true]
  · exact ⟨hb.who, hb.fst⟩
  · refine ⟨fun a ha => old _ _ (hb.who a ha), fun e he => ?_⟩
    rcases List.mem_append.1 he with he | he
    · exact old _ _ (hb.fst e he)
    · rw [List.mem_singleton.1 he]
      obtain ⟨e', h3, h4⟩ := get_mem h1
      have := hb.fst e' h3
      rw [h4] at this
      exact old _ _ this
  · exact ⟨hb.who, hb.fst⟩
  · exact ⟨hb.who, hb.fst⟩

theorem bo_run : ∀ {l : List Nt} {i : Nat} {b b' : Bk}, runB l i b = .inr b' → Bo b → Bo b'
  | [], i, b, b', h, hb => by cases h; exact hb
  | x :: l, i, b, b', h, hb => by
    rw [runB] at h
    cases hs : stepB (decide (i = 0)) b x with
    | none => rw [hs] at h; cases h
    | some b1 => rw [hs] at h; exact bo_run h (bo_step hs hb)

theorem run_more {L m : List Nt} {b : Bk} (h : runB L 0 bk0 = .inr b) : runB (L ++ m) 0 bk0 = runB m L.length b := by
  rw [runB_append, h]
  simp only [Nat.zero_add]

theorem step4 {b : Bk} {g : Nt} (hk : kdN g = 4) (h1 : hasM b.1 (wasN g) = true) (h2 : (getM b.1 (wasN g)).1 = dtN g) (ha : b.2.2.2 = atN g) : stepB false b g = some (b.1, b.2.1, b.2.2.1, atN g) := by
  unfold stepB
  have e : (bif hasL b (wasN g) then eqb .str (getL b (wasN g)).1 (dtN g) else false) = true := by
    rw [show hasL b (wasN g) = hasM b.1 (wasN g) from rfl, h1]
    exact (eqb_iff (t := .str) rfl _ _).2 h2
  rw [e, hk]
  have e2 : decide (atN g < (if false = true then atN g else b.2.2.2)) = false := by
    rw [if_neg (by decide), ha]
    exact decide_eq_false (by omega)
  rw [e2]
  rfl

theorem twice_run {L : List Nt} {b : Bk} (h : runB L 0 bk0 = .inr b) {g : Nt} (hk : kdN g = 4) :
    (∃ b1 b2, runB (L ++ [g]) 0 bk0 = .inr b1 ∧ runB (L ++ [g, g]) 0 bk0 = .inr b2) ∨ (runB (L ++ [g]) 0 bk0 = .inl L.length ∧ runB (L ++ [g, g]) 0 bk0 = .inl L.length) := by
  rw [run_more h, run_more h]
  cases hs : stepB (decide (L.length = 0)) b g with
  | none =>
    right
    constructor
    · rw [runB, hs]
    · rw [runB, hs]
  | some b1 =>
    left
    rcases (step_cases hs).2 with ⟨h0, _⟩ | ⟨h0, _⟩ | ⟨h0, _⟩ | ⟨_, h1, h2, e⟩ | ⟨h0, _⟩
    · rw [hk] at h0; exact absurd h0 (by decide)
    · rw [hk] at h0; exact absurd h0 (by decide)
    · rw [hk] at h0; exact absurd h0 (by decide)
    · subst e
      have hs2 := step4 (b := (b.1, b.2.1, b.2.2.1, atN g)) hk h1 h2 rfl
      have hd : decide (L.length + 1 = 0) = false := decide_eq_false (by omega)
      refine ⟨(b.1, b.2.1, b.2.2.1, atN g), (b.1, b.2.1, b.2.2.1, atN g), by rw [runB, hs]; rfl, ?_⟩
      rw [runB, hs]
      show runB [g] (L.length + 1) _ = _
      rw [runB, hd, hs2]
      rfl
    · rw [hk] at h0; exact absurd h0 (by decide)

theorem twice_ok {L : List Nt} (hL : L.length ≤ 40) {b : Bk} (h : runB L 0 bk0 = .inr b) {g : Nt} (hk : kdN g = 4) :
    (g_Check (L ++ [g]) = ((L.length : Int) + 1, 0, ()) ∧ g_Check (L ++ [g, g]) = ((L.length : Int) + 2, 0, ())) ∨ (g_Check (L ++ [g]) = ((L.length : Int), 11, ()) ∧ g_Check (L ++ [g, g]) = ((L.length : Int), 11, ())) := by
  have l1 : (L ++ [g]).length = L.length + 1 := by simp
  have l2 : (L ++ [g, g]).length = L.length + 2 := by simp
  rcases twice_run h hk with ⟨b1, b2, h1, h2⟩ | ⟨h1, h2⟩
  · left
    rw [check_ok (by omega) h1, check_ok (by omega) h2, l1, l2]
    exact ⟨rfl, rfl⟩
  · right
    exact ⟨check_bad (by omega) h1, check_bad (by omega) h2⟩

theorem sent_ok {L : List Nt} (hL : L.length ≤ 40) {b : Bk} (h : runB L 0 bk0 = .inr b) {s : Nt} (hk : kdN s = 1) :
    (∃ i : Int, g_Check (L ++ [s]) = (i, 11, ())) ∨ (g_Cost (L ++ [s]) (ltN s) = (1, 0, ()) ∧ g_Cost L (ltN s) = (0, 6, ())) := by
  have l1 : (L ++ [s]).length = L.length + 1 := by simp
  have hr : runB (L ++ [s]) 0 bk0 = runB [s] L.length b := run_more h
  cases hs : stepB (decide (L.length = 0)) b s with
  | none =>
    left
    rw [runB, hs] at hr
    exact ⟨_, check_bad (by omega) hr⟩
  | some b1 =>
    right
    rw [runB, hs] at hr
    have hr : runB (L ++ [s]) 0 bk0 = .inr b1 := hr
    have hb := bo_run h bo_nil
    rcases (step_cases hs).2 with ⟨_, _, h1, e⟩ | ⟨h0, _⟩ | ⟨h0, _⟩ | ⟨h0, _⟩ | ⟨h0, _⟩
    · subst e
      have hw : hasW b.2.2.1 (ltN s) = false := by
        cases hh : hasW b.2.2.1 (ltN s) with
        | false => rfl
        | true => rw [hb.who _ hh] at h1; cases h1
      have hc : cntF (ltN s) b.1 = 0 := by
        unfold cntF
        rw [List.filter_eq_nil_iff.2 fun e he hd => ?_]
        · rfl
        · have hd : firstL e.2 = ltN s := of_decide_eq_true hd
          have := hb.fst e he
          rw [hd, h1] at this
          cases this
      constructor
      · unfold g_Cost
        rw [if_neg (by omega), hr]
        unfold resCost
        have hw2 : hasW (mpSet (k := tInt) (v := tInt) b.2.2.1 (ltN s) (noN s)) (ltN s) = true := by rw [has_set, decide_eq_true rfl, Bool.or_true]
        show (if (!hasW (mpSet (k := tInt) (v := tInt) b.2.2.1 (ltN s) (noN s)) (ltN s)) = true then ((0 : Int), (6 : Int), ()) else (cntF (ltN s) (b.1 ++ [(ltN s, (dtN s, (0 : Int), zero tTrigger, ltN s, ()))]), (0 : Int), ())) = _
        rw [hw2, if_neg (by decide)]
        have e : cntF (ltN s) (b.1 ++ [(ltN s, (dtN s, (0 : Int), zero tTrigger, ltN s, ()))]) = cntF (ltN s) b.1 + 1 := by
          unfold cntF
          rw [List.filter_append, List.length_append, List.filter_cons_of_pos (p := fun e : Int × Lt => decide (firstL e.2 = ltN s)) (decide_eq_true rfl)]
          rfl
        rw [e, hc]; rfl
      · unfold g_Cost
        rw [if_neg (by omega), h]
        unfold resCost
        show (if (!hasW b.2.2.1 (ltN s)) = true then ((0 : Int), (6 : Int), ()) else _) = _
        rw [hw]
        rfl
    · rw [hk] at h0; exact absurd h0 (by decide)
    · rw [hk] at h0; exact absurd h0 (by decide)
    · rw [hk] at h0; exact absurd h0 (by decide)
    · rw [hk] at h0; exact absurd h0 (by decide)

end Go.Proofs.Ytainieginijaaaa

/- TraceAdds: its contract. -/
namespace Go.Proofs.Ytainieginijaaaa
open Go Go.RowKit

theorem few_len' (l : List Nt) : (g_few l).length ≤ 40 := few_len l

def gotN (at_ n : Int) (d : ByteArray) : Nt := (4, at_, 0, n, 0, zero tTrigger, d, 0, ())
def sentN (at_ n : Int) (d : ByteArray) : Nt := (1, at_, 0, 0, n, zero tTrigger, d, 0, ())

theorem same_twice {L : List Nt} (hL : L.length ≤ 40) {b : Bk} (h : runB L 0 bk0 = .inr b) {g : Nt} (hk : kdN g = 4) {q6 : Int × Int × Unit} {q9 q10 q12 q13 : Int} (h6 : q6 = ((L.length : Int), 0, ()))
    (h9 : q9 = (g_Check (L ++ [g])).1) (h10 : q10 = (g_Check (L ++ [g])).2.1) (h12 : q12 = (g_Check (L ++ [g, g])).1) (h13 : q13 = (g_Check (L ++ [g, g])).2.1) :
    (bif bif bif !eqO (decide (q10 = 0)) (decide (q13 = 0)) then true else bif decide (q10 = 0) then bif !decide (q9 = IntKind.wrap IntKind.i64 (Prod.fst q6 + 1)) then true else !decide (q12 = IntKind.wrap IntKind.i64 (Prod.fst q6 + 2)) else false then true else bif !decide (q10 = 0) then bif !decide (q9 = Prod.fst q6) then true else !decide (q12 = Prod.fst q6) else false then true else !true) = false := by
  subst h6
  show (bif bif bif !eqO (decide (q10 = 0)) (decide (q13 = 0)) then true else bif decide (q10 = 0) then bif !decide (q9 = IntKind.wrap IntKind.i64 ((L.length : Int) + 1)) then true else !decide (q12 = IntKind.wrap IntKind.i64 ((L.length : Int) + 2)) else false then true else bif !decide (q10 = 0) then bif !decide (q9 = (L.length : Int)) then true else !decide (q12 = (L.length : Int)) else false then true else !true) = false
  rw [small_i64 (n := (L.length : Int) + 1) (by omega), small_i64 (n := (L.length : Int) + 2) (by omega)]
  rcases twice_ok hL h hk with ⟨e1, e2⟩ | ⟨e1, e2⟩
  · rw [e1] at h9 h10
    rw [e2] at h12 h13
    subst h9; subst h10; subst h12; subst h13
    simp [eqO]
  · rw [e1] at h9 h10
    rw [e2] at h12 h13
    subst h9; subst h10; subst h12; subst h13
    simp [eqO]

theorem check_err {l : List Nt} {q : Int × Int × Unit} (hb : (!decide (q.2.1 = 0)) = true) (h : q = g_Check l) (hl : l.length ≤ 1000) : (decide (q.2.1 = 11), ()) = (true, ()) := by
  cases hr : runB l 0 bk0 with
  | inl i =>
    rw [check_bad hl hr] at h
    subst h
    rfl
  | inr b =>
    rw [check_ok hl hr] at h
    subst h
    have hb : (!decide ((0 : Int) = 0)) = true := hb
    exact absurd hb (by decide)

theorem k_l20_TraceAdds : FnOk prog [] n_l20_TraceAdds (lawS as_l20_TraceAdds) :=
  fnS_T (S := lawS as_l20_TraceAdds) (x_l20_TraceAdds k_l20_few k_trace_Check k_trace_Cost k_l20_alive) (fx := fx_l20_TraceAdds) at_l20_TraceAdds (by kernel_rfl) (fun _ _ => trivial) (T := fun x => T_l20_TraceAdds x.1 x.2.1 x.2.2.1) (fun x => T_l20_TraceAdds_eq x.1 x.2.1 x.2.2.1) fun O w0 x _ _ => by
    obtain ⟨l0, n, d, ⟨⟩⟩ := x
    refine ⟨trivial, cut_ok d (by decide), fun _ _ L hl d1 _ => ⟨trivial, fun q6 h6 => ?_⟩⟩
    have hlen : L.length ≤ 40 := by have hl : L = g_few l0 := hl; rw [hl]; exact few_len l0
    clear hl
    have h6 : q6 = g_Check L := h6
    cases hr : runB L 0 bk0 with
    | inl i =>
      have e := check_bad (by omega) hr
      rw [e] at h6
      subst h6
      refine ⟨fun _ => ⟨trivial, fun q7 h7 => ⟨_, rfl, ?_⟩⟩, fun h => ?_⟩
      · have h7 : q7 = true := h7
        subst h7
        rfl
      · have h : (!decide ((11 : Int) = 0)) = false := h
        exact absurd h (by decide)
    | inr b =>
      have e := check_ok (by omega) hr
      rw [e] at h6
      have m0 : (List.length (List.replicate 0 (zero tNote) ++ L)) ≤ most := by
        show L.length ≤ most
        unfold most; omega
      have m1 : ∀ x : Nt, (L ++ [x]).length ≤ most := fun x => by unfold most; rw [List.length_append]; show L.length + 1 ≤ _; omega
      have m2 : ∀ x y : Nt, (L ++ [x, y]).length ≤ most := fun x y => by unfold most; rw [List.length_append]; show L.length + 2 ≤ _; omega
      refine ⟨fun h => ?_, fun _ => ?_⟩
      · have h6 : q6 = ((L.length : Int), (0 : Int), ()) := h6
        subst h6
        have h : (!decide ((0 : Int) = 0)) = true := h
        exact absurd h (by decide)
      refine ⟨fun h0 => ⟨?_, ?_⟩, fun _ => ?_⟩
      · have h0 : 0 < (L.length : Int) := of_decide_eq_true h0
        show inB (IntKind.wrap .i64 ((L.length : Int) - 1)) (L.length : Int)
        rw [small_i64 (by omega)]
        exact ⟨by omega, by omega⟩
      · generalize Prod.fst (Prod.snd (el tNote L (IntKind.wrap IntKind.i64 (lnx tNote L - 1)))) = a
        refine ⟨trivial, fun q7 h7 => ⟨m0, m1 (gotN a n d1), trivial, fun q8 h8 q9 h9 q10 h10 => ⟨m0, m2 (gotN a n d1) (gotN a n d1), trivial, fun q11 h11 q12 h12 q13 h13 => ⟨fun _ => trivial, fun hc => ?_, fun _ => ⟨m0, m1 (sentN a n d1), trivial, fun q14 h14 => ?_⟩⟩⟩⟩⟩
        · exact absurd (hc.symm.trans (same_twice hlen hr (g := gotN a n d1) rfl h6 h9 h10 h12 h13)) (by decide)
        have h14 : q14 = g_Check (L ++ [sentN a n d1]) := h14
        have h7 : q7 = g_Cost L n := h7
        rcases sent_ok hlen hr (s := sentN a n d1) rfl with ⟨i, e1⟩ | ⟨e1, e2⟩
        · rw [e1] at h14
          subst h14
          refine ⟨fun hb => ⟨_, rfl, rfl⟩, fun hg => ?_⟩
          have hg : (!decide ((11 : Int) = 0)) = false := hg
          exact absurd hg (by decide)
        · refine ⟨fun hb => ⟨_, rfl, ?_⟩, fun hg => ⟨trivial, fun q15 h15 => ⟨_, rfl, ?_⟩⟩⟩
          · exact check_err hb h14 (by rw [List.length_append]; show L.length + 1 ≤ 1000; omega)
          · have h15 : q15 = g_Cost (L ++ [sentN a n d1]) n := h15
            have e1 : g_Cost (L ++ [sentN a n d1]) n = (1, 0, ()) := e1
            have e2 : g_Cost L n = (0, 6, ()) := e2
            rw [e1] at h15
            rw [e2] at h7
            subst h15; subst h7
            rfl
      · refine ⟨trivial, fun q7 h7 => ⟨m0, m1 (gotN 0 n d1), trivial, fun q8 h8 q9 h9 q10 h10 => ⟨m0, m2 (gotN 0 n d1) (gotN 0 n d1), trivial, fun q11 h11 q12 h12 q13 h13 => ⟨fun _ => trivial, fun hc => ?_, fun _ => ⟨m0, m1 (sentN 0 n d1), trivial, fun q14 h14 => ?_⟩⟩⟩⟩⟩
        · exact absurd (hc.symm.trans (same_twice hlen hr (g := gotN 0 n d1) rfl h6 h9 h10 h12 h13)) (by decide)
        have h14 : q14 = g_Check (L ++ [sentN 0 n d1]) := h14
        have h7 : q7 = g_Cost L n := h7
        rcases sent_ok hlen hr (s := sentN 0 n d1) rfl with ⟨i, e1⟩ | ⟨e1, e2⟩
        · rw [e1] at h14
          subst h14
          refine ⟨fun hb => ⟨_, rfl, rfl⟩, fun hg => ?_⟩
          have hg : (!decide ((11 : Int) = 0)) = false := hg
          exact absurd hg (by decide)
        · refine ⟨fun hb => ⟨_, rfl, ?_⟩, fun hg => ⟨trivial, fun q15 h15 => ⟨_, rfl, ?_⟩⟩⟩
          · exact check_err hb h14 (by rw [List.length_append]; show L.length + 1 ≤ 1000; omega)
          · have h15 : q15 = g_Cost (L ++ [sentN 0 n d1]) n := h15
            have e1 : g_Cost (L ++ [sentN 0 n d1]) n = (1, 0, ()) := e1
            have e2 : g_Cost L n = (0, 6, ()) := e2
            rw [e1] at h15
            rw [e2] at h7
            subst h15; subst h7
            rfl

end Go.Proofs.Ytainieginijaaaa
