/- Part 7 of 7 of what this claim's proof stands on: a theory of programs on data, and the contracts of the functions that the law reaches. It holds no condition of its own. -/
import Derived.Test.YtainieginijaaaaCb6

/- Notes that are justified are so without what is behind; what a chain has was admitted ahead of the note. -/
namespace Go.Proofs.Ytainieginijaaaa
open Go Go.RowKit

/-! ### The plain law -/

theorem run_bad : ∀ {l : List Nt} {j i : Nat} {b : Bk}, runB l j b = .inl i → j ≤ i ∧ i - j < l.length ∧ ∃ b', runB (l.take (i - j)) j b = .inr b'
  | [], j, i, b, h => by cases h
  | x :: l, j, i, b, h => by
    rw [runB] at h
    cases hs : stepB (decide (j = 0)) b x with
    | none =>
      rw [hs] at h
      cases h
      exact ⟨Nat.le_refl _, by simp, b, by rw [Nat.sub_self]; rfl⟩
    | some b1 =>
      rw [hs] at h
      obtain ⟨h1, h2, b', h3⟩ := run_bad h
      refine ⟨by omega, by rw [List.length_cons]; omega, b', ?_⟩
      rw [show i - j = (i - (j + 1)) + 1 by omega, List.take_succ_cons, runB, hs]
      exact h3

theorem run_take {l : List Nt} {b : Bk} (h : runB l 0 bk0 = .inr b) (k : Nat) : ∃ b', runB (l.take k) 0 bk0 = .inr b' ∧ runB (l.drop k) ((l.take k).length) b' = .inr b := by
  have := runB_append (l.take k) (l.drop k) 0 bk0
  rw [List.take_append_drop, h] at this
  cases hr : runB (l.take k) 0 bk0 with
  | inl j => rw [hr] at this; cases this
  | inr b' => rw [hr] at this; simp only [Nat.zero_add] at this; exact ⟨b', rfl, this.symm⟩

theorem check_ok {l : List Nt} (hl : l.length ≤ 1000) {b : Bk} (h : runB l 0 bk0 = .inr b) : g_Check l = ((l.length : Int), 0, ()) := by
  unfold g_Check; rw [if_neg (by omega), h]; rfl
theorem check_bad {l : List Nt} (hl : l.length ≤ 1000) {i : Nat} (h : runB l 0 bk0 = .inl i) : g_Check l = ((i : Int), 11, ()) := by
  unfold g_Check; rw [if_neg (by omega), h]; rfl

theorem has_app' (m e : List (Int × Lt)) {a : Int} (h : hasM m a = true) : hasM (m ++ e) a = true ∧ getM (m ++ e) a = getM m a := by
  unfold hasM mpHas at h ⊢
  unfold getM mpGet
  have : mpFind (k := tInt) (v := tTraceLetter) (m ++ e) a = mpFind (k := tInt) (v := tTraceLetter) m a := by
    unfold mpFind at h ⊢
    rw [List.find?_append]
    cases hf : m.find? (fun q : Int × Lt => eqb tInt a q.1) with
    | some q => rfl
    | none => rw [hf] at h; cases h
  rw [this]
  exact ⟨h, rfl⟩

theorem run_ext : ∀ {l : List Nt} {i : Nat} {b b' : Bk}, runB l i b = .inr b' → ∃ e, b'.1 = b.1 ++ e
  | [], i, b, b', h => by cases h; exact ⟨[], by simp⟩
  | x :: l, i, b, b', h => by
    rw [runB] at h
    cases hs : stepB (decide (i = 0)) b x with
    | none => rw [hs] at h; cases h
    | some b1 =>
      rw [hs] at h
      obtain ⟨e, he⟩ := run_ext h
      have : ∃ e1, b1.1 = b.1 ++ e1 := by
        rcases (step_cases hs).2 with ⟨_, _, _, rfl⟩ | ⟨_, rfl⟩ | ⟨_, _, _, _, _, rfl⟩ | ⟨_, _, _, rfl⟩ | ⟨_, rfl⟩
        · exact ⟨_, rfl⟩
        · exact ⟨[], by simp⟩
        · exact ⟨_, rfl⟩
        · exact ⟨[], by simp⟩
        · exact ⟨[], by simp⟩
      obtain ⟨e1, h1⟩ := this
      exact ⟨e1 ++ e, by rw [he, h1, List.append_assoc]⟩

/-- Was a trigger admitted? -/
def admIn (l : List Nt) (z : Tr) : Prop := ∃ y ∈ l, kdN y = 2 ∧ trN y = z

structure Ad (l : List Nt) (b : Bk) : Prop where
  adm : ∀ z ∈ b.2.1, admIn l z
  by_ : ∀ a, hasM b.1 a = true → byL (getM b.1 a) = zero tTrigger ∨ admIn l (byL (getM b.1 a))

theorem admIn_app {l m : List Nt} {z : Tr} (h : admIn l z) : admIn (l ++ m) z := by
  obtain ⟨y, hy, h1⟩ := h
  exact ⟨y, List.mem_append_left _ hy, h1⟩

theorem ad_step {l : List Nt} {b b' : Bk} {f : Bool} {x : Nt} (h : stepB f b x = some b') (ha : Ad l b) : Ad (l ++ [x]) b' := by
  have old : ∀ a, hasM b.1 a = true → byL (getM b.1 a) = zero tTrigger ∨ admIn (l ++ [x]) (byL (getM b.1 a)) := fun a h => (ha.by_ a h).imp id admIn_app
  have oldA : ∀ z ∈ b.2.1, admIn (l ++ [x]) z := fun z hz => admIn_app (ha.adm z hz)
  rcases (step_cases h).2 with ⟨_, _, h1, rfl⟩ | ⟨h1, rfl⟩ | ⟨_, _, _, h1, h2, rfl⟩ | ⟨_, _, _, rfl⟩ | ⟨_, rfl⟩
  · refine ⟨oldA, fun a hh => ?_⟩
    cases hb : hasM b.1 a with
    | true => rw [get_old hb]; exact old a hb
    | false =>
      have hh : hasM (b.1 ++ _) a = true := hh
      rw [has_app, hb, Bool.false_or] at hh
      have e := of_decide_eq_true hh
      subst e
      rw [get_new hb]
      exact .inl rfl
  · refine ⟨fun z hz => ?_, old⟩
    rcases List.mem_append.1 hz with hz | hz
    · exact oldA z hz
    · rw [List.mem_singleton.1 hz]
      exact ⟨x, by simp, h1, rfl⟩
  · refine ⟨oldA, fun a hh => ?_⟩
    cases hb : hasM b.1 a with
    | true => rw [get_old hb]; exact old a hb
    | false =>
      have hh : hasM (b.1 ++ _) a = true := hh
      rw [has_app, hb, Bool.false_or] at hh
      have e := of_decide_eq_true hh
      subst e
      rw [get_new hb]
      rcases h2 with ⟨h2, _⟩ | h2
      · exact .inr (oldA _ h2)
      · exact .inl h2
  · exact ⟨oldA, old⟩
  · exact ⟨oldA, old⟩

theorem ad_run : ∀ {l p : List Nt} {i : Nat} {b b' : Bk}, runB l i b = .inr b' → Ad p b → Ad (p ++ l) b'
  | [], p, i, b, b', h, ha => by cases h; simpa using ha
  | x :: l, p, i, b, b', h, ha => by
    rw [runB] at h
    cases hs : stepB (decide (i = 0)) b x with
    | none => rw [hs] at h; cases h
    | some b1 =>
      rw [hs] at h
      have := ad_run h (ad_step hs ha)
      rwa [List.append_assoc] at this

theorem ad_nil : Ad [] bk0 := ⟨fun _ h => (by cases h), fun a h => (by cases h)⟩

theorem walk_all (m m0 : List (Int × Lt)) (P : Tr → Prop) (h1 : ∀ a, hasM m0 a = true → getM m a = getM m0 a) (h2 : ∀ a, 0 < wasL (getM m0 a) → hasM m0 (wasL (getM m0 a)) = true)
    (h3 : ∀ a, hasM m0 a = true → byL (getM m0 a) = zero tTrigger ∨ P (byL (getM m0 a))) : ∀ (k : Nat) (no : Int) (out : List Tr), hasM m0 no = true → (∀ x ∈ out, P x) → ∀ x ∈ (walk m k no out).1, P x
  | 0, no, out, _, ho, x, hx => ho x hx
  | k + 1, no, out, hn, ho, x, hx => by
    rw [walk] at hx
    split at hx
    · rename_i hw
      rw [h1 no hn] at hw hx
      refine walk_all m m0 P h1 h2 h3 k _ _ (h2 no hw) (fun y hy => ?_) x hx
      split at hy
      · exact ho y hy
      · rename_i hz
        rcases List.mem_append.1 hy with hy | hy
        · exact ho y hy
        · rw [List.mem_singleton.1 hy]
          exact (h3 no hn).resolve_left hz
    · exact ho x hx

/-- What a chain has was admitted ahead of the note. -/
theorem chain_adm {l : List Nt} {b : Bk} (h : runB l 0 bk0 = .inr b) {k : Nat} (hk : k < l.length) (h4 : kdN l[k] = 4) : ∀ x ∈ (walk b.1 b.1.length (wasN l[k]) []).1, admIn (l.take k) x := by
  obtain ⟨b1, r1, r2⟩ := run_take h k
  rw [List.drop_eq_getElem_cons hk, runB] at r2
  cases hs : stepB (decide ((l.take k).length = 0)) b1 l[k] with
  | none => rw [hs] at r2; cases r2
  | some b2 =>
    rw [hs] at r2
    have r2 : runB (l.drop (k + 1)) ((l.take k).length + 1) b2 = .inr b := r2
    have hw : hasM b1.1 (wasN l[k]) = true ∧ b2.1 = b1.1 := by
      rcases (step_cases hs).2 with ⟨e, _⟩ | ⟨e, _⟩ | ⟨e, _⟩ | ⟨_, h1, _, rfl⟩ | ⟨e, _⟩
      · rw [h4] at e; exact absurd e (by decide)
      · rw [h4] at e; exact absurd e (by decide)
      · rw [h4] at e; exact absurd e (by decide)
      · exact ⟨h1, rfl⟩
      · rw [h4] at e; exact absurd e (by decide)
    obtain ⟨e, he⟩ := run_ext r2
    rw [hw.2] at he
    have had := ad_run r1 ad_nil
    rw [List.nil_append] at had
    obtain ⟨rk, _, hr⟩ := (run_fam r1 Fam.nil).rank
    exact walk_all b.1 b1.1 _ (fun a ha => by rw [he]; exact (has_app' b1.1 e ha).2) (fun a ha => (hr a ha).1) had.by_ _ _ [] hw.1 (fun _ h => by cases h)

/-! ### The contracts -/

theorem k_l20_alive : FnOk prog [] n_l20_alive S_l20_alive :=
  fnS_T (S := S_l20_alive) (x_l20_alive k_trace_Check k_trace_Chain) (fx := fx_l20_alive) at_l20_alive (by kernel_rfl) (fun _ _ => trivial) (T := fun _ => T_l20_alive) (fun _ => T_l20_alive_eq) fun O w0 _ _ _ => by
    refine ⟨trivial, fun q hq => ⟨trivial, fun q' hq' => ⟨_, rfl, ?_⟩⟩⟩
    have h1 : q = (2, 0, ()) := hq.trans (by kernel_rfl)
    have h2 : q' = ([], 3, 0, ()) := hq'.trans (by kernel_rfl)
    subst h1 h2
    rfl

/-- Which place. -/
def atK (m : Nat) (n : Int) : Nat := ((n.tmod (m + 1 : Nat) + m + 1).tmod (m + 1 : Nat)).toNat
theorem atK_spec {m : Nat} (hm : m ≤ 1000000) (n : Int) : Int.tmod (IntKind.wrap .i64 (IntKind.wrap .i64 (Int.tmod n (IntKind.wrap .i64 ((m : Int) + 1)) + m) + 1)) (IntKind.wrap .i64 ((m : Int) + 1)) = (atK m n : Nat) ∧ atK m n ≤ m ∧ IntKind.wrap .i64 ((m : Int) + 1) = ((m + 1 : Nat) : Int) := by
  have e : IntKind.wrap .i64 ((m : Int) + 1) = ((m + 1 : Nat) : Int) := by rw [small_i64 (by omega)]; omega
  have h1 : n.tmod (m + 1 : Nat) < (m + 1 : Nat) := Int.tmod_lt_of_pos n (by omega)
  have h2 : -((m + 1 : Nat) : Int) < n.tmod (m + 1 : Nat) := Int.lt_tmod_of_pos n (by omega)
  have h3 : 0 ≤ (n.tmod (m + 1 : Nat) + m + 1).tmod (m + 1 : Nat) := Int.tmod_nonneg _ (by omega)
  have h4 : (n.tmod (m + 1 : Nat) + m + 1).tmod (m + 1 : Nat) < (m + 1 : Nat) := Int.tmod_lt_of_pos _ (by omega)
  rw [e, small_i64 (n := n.tmod (m + 1 : Nat) + m) (by omega), small_i64 (n := n.tmod (m + 1 : Nat) + m + 1) (by omega)]
  unfold atK
  exact ⟨by omega, by omega, rfl⟩

def foundB (x : Tr) (y : Nt) : Bool := decide (kdN y = 2) && decide (trN y = x)

def gl_Begin_14 (O : Nat → Prop) (w0 : World) (l : List Nt) (k : Nat) (hk : k ≤ l.length) (hl : l.length ≤ 1000) (c : List Tr) (hc : c.length ≤ 1000000) (ha : ∀ x ∈ c, admIn (l.take k) x) :=
  PLift.up <| range_ind (σ := Unit) c.length (fun _ _ => True)
    (fun i _ => GoodS prog X_l20_TraceBeginnings (Cx.base O w0) (Ends prog O w0 rs_l20_TraceBeginnings fun y => y = (true, ())) [] fx_l20_TraceBeginnings (lp f_l20_TraceBeginnings 14) (E_l20_TraceBeginnings_14 l (k : Nat) c (lnx tTrigger c) (i : Nat)))
    (fun i u hi _ ih => goodS_of (x_l20_TraceBeginnings k_l20_few k_trace_Check k_trace_Chain k_l20_alive) (TL_l20_TraceBeginnings_14_eq l _ c _ _) (by
      have hcut : lCutx tNote l 0 (k : Nat) = l.take k := by show (l.take k).drop 0 = _; rw [List.drop_zero]
      have hlk : (l.take k).length = k := by rw [List.length_take]; omega
      refine ⟨fun _ => ⟨inB_of hi, ⟨Int.le_refl _, Int.natCast_nonneg _, Int.ofNat_le.2 hk⟩, ?_⟩, fun h => ?_⟩
      · rw [el_at hi]
        have inner := (PLift.up <| range_ind (σ := Bool) (l.take k).length (fun j s => s = ((l.take k).take j).any (foundB c[i]))
          (fun j s => GoodS prog X_l20_TraceBeginnings (Cx.base O w0) (Ends prog O w0 rs_l20_TraceBeginnings fun y => y = (true, ())) [] fx_l20_TraceBeginnings (lp f_l20_TraceBeginnings 18) (E_l20_TraceBeginnings_18 l (k : Nat) s c (lnx tTrigger c) (i : Nat) (l.take k) (lnx tNote (l.take k)) (j : Nat) c[i]))
          (fun j s hj hs ih2 => goodS_of (x_l20_TraceBeginnings k_l20_few k_trace_Check k_trace_Chain k_l20_alive) (TL_l20_TraceBeginnings_18_eq l _ s c _ _ (l.take k) _ _ c[i]) (by
            refine ⟨fun _ => ⟨inB_of hj, ?_⟩, fun h => ?_⟩
            · rw [el_at hj, wr_idx hj (by omega), eqb_tr]
              refine ih2 _ ?_
              rw [List.take_succ_eq_append_getElem hj, List.any_append, ← hs, List.any_cons, List.any_nil, Bool.or_false, foundB]
              cases s <;> cases decide (kdN (l.take k)[j] = 2) <;> rfl
            · rw [lnx_nat] at h
              exact absurd hj (of_decide_eq_false h)))
          (fun s hs => goodS_of (x_l20_TraceBeginnings k_l20_few k_trace_Check k_trace_Chain k_l20_alive) (TL_l20_TraceBeginnings_18_eq l _ s c _ _ (l.take k) _ _ c[i]) (by
            have hs : s = ((l.take k).take (l.take k).length).any (foundB c[i]) := hs
            rw [List.take_length] at hs
            have ht : s = true := by
              obtain ⟨y, hy, h1, h2⟩ := ha _ (List.getElem_mem hi)
              rw [hs, List.any_eq_true]
              exact ⟨y, hy, by unfold foundB; rw [decide_eq_true h1, decide_eq_true h2]; rfl⟩
            subst ht
            refine ⟨fun h => ?_, fun _ => ⟨fun h => (by cases h), fun _ => ?_⟩⟩
            · rw [lnx_nat] at h
              exact absurd (of_decide_eq_true h) (Nat.lt_irrefl _)
            · rw [wr_idx hi (by omega)]
              exact ih () trivial))).down 0 false (Nat.zero_le _) rfl
        rw [← hcut] at inner
        exact inner
      · rw [lnx_nat] at h
        exact absurd hi (of_decide_eq_false h)))
    (fun u _ => goodS_of (x_l20_TraceBeginnings k_l20_few k_trace_Check k_trace_Chain k_l20_alive) (TL_l20_TraceBeginnings_14_eq l _ c _ _) (by
      refine ⟨fun h => ?_, fun _ => ⟨_, rfl, rfl⟩⟩
      rw [lnx_nat] at h
      exact absurd (of_decide_eq_true h) (Nat.lt_irrefl _)))

theorem few_len (l : List Nt) : (g_few l).length ≤ 40 := by unfold g_few; rw [List.length_map, List.length_take]; omega

theorem walk_len (m : List (Int × Lt)) : ∀ (k : Nat) (no : Int) (out : List Tr), (walk m k no out).1.length ≤ out.length + k
  | 0, no, out => Nat.le_refl _
  | k + 1, no, out => by
    rw [walk]
    split
    · have := walk_len m k (wasL (getM m no)) (if byL (getM m no) = zero tTrigger then out else out ++ [byL (getM m no)])
      have hb : (if byL (getM m no) = zero tTrigger then out else out ++ [byL (getM m no)]).length ≤ out.length + 1 := by
        split
        · omega
        · rw [List.length_append]; exact Nat.le_refl _
      omega
    · show out.length ≤ out.length + (k + 1); omega

theorem k_l20_TraceBeginnings : FnOk prog [] n_l20_TraceBeginnings (lawS as_l20_TraceBeginnings) :=
  fnS_T (S := lawS as_l20_TraceBeginnings) (x_l20_TraceBeginnings k_l20_few k_trace_Check k_trace_Chain k_l20_alive) (fx := fx_l20_TraceBeginnings) at_l20_TraceBeginnings (by kernel_rfl) (fun _ _ => trivial) (T := fun x => T_l20_TraceBeginnings x.1 x.2.1) (fun x => T_l20_TraceBeginnings_eq x.1 x.2.1) fun O w0 x _ _ => by
    obtain ⟨l0, n, ⟨⟩⟩ := x
    refine ⟨trivial, fun l hl => ⟨trivial, fun q hq => ?_⟩⟩
    have hlen : l.length ≤ 40 := by have hl : l = g_few l0 := hl; rw [hl]; exact few_len l0
    clear hl
    cases hr : runB l 0 bk0 with
    | inl i =>
      have hq : q = ((i : Int), (11 : Int), ()) := hq.trans (check_bad (by omega) hr)
      subst hq
      obtain ⟨_, h2, b', h3⟩ := run_bad hr
      rw [Nat.sub_zero] at h2 h3
      have ecut : minI (maxI ((i : Nat) : Int) 0) (lnx tNote l) = (i : Nat) := by rw [lnx_eq]; unfold minI maxI; split <;> split <;> omega
      refine ⟨fun _ => ⟨?_, trivial, fun q' hq' => ⟨trivial, fun b hb => ⟨_, rfl, ?_⟩⟩⟩, fun h => absurd (show true = false from h) (by decide)⟩
      · show cutOk 0 (minI (maxI ((i : Nat) : Int) 0) (lnx tNote l)) (lnx tNote l)
        rw [ecut]
        exact ⟨Int.le_refl _, Int.natCast_nonneg _, Int.ofNat_le.2 (by omega)⟩
      · have hcut : lCutx tNote l 0 (minI (maxI ((i : Nat) : Int) 0) (lnx tNote l)) = l.take i := by rw [ecut]; show (l.take i).drop 0 = _; rw [List.drop_zero]
        have hli : (l.take i).length = i := by rw [List.length_take]; omega
        have hq' : q' = ((i : Int), (0 : Int), ()) := hq'.trans (by
          show g_Check (lCutx tNote l 0 (minI (maxI ((i : Nat) : Int) 0) (lnx tNote l))) = _
          rw [hcut, check_ok (by omega) h3, hli])
        have hb : b = true := hb
        subst hb hq'
        show ((bif bif bif true then decide ((11 : Int) = 11) else false then decide ((0 : Int) = 0) else false then decide (((i : Nat) : Int) = (i : Nat)) else false), PUnit.unit) = (true, ())
        rw [decide_eq_true (rfl : ((i : Nat) : Int) = (i : Nat))]; rfl
    | inr b =>
      have hq : q = ((l.length : Int), (0 : Int), ()) := hq.trans (check_ok (by omega) hr)
      subst hq
      obtain ⟨a1, a2, a3⟩ := atK_spec (m := l.length) (by omega) n
      generalize atK l.length n = k at a1 a2
      have hlx : lnx tNote l = (l.length : Int) := rfl
      rw [hlx, a1, a3]
      have hnz : nz ((l.length + 1 : Nat) : Int) := by show ((l.length + 1 : Nat) : Int) ≠ 0; omega
      have hcut : lCutx tNote l 0 (k : Nat) = l.take k := by show (l.take k).drop 0 = _; rw [List.drop_zero]
      have hlk : (l.take k).length = k := by rw [List.length_take]; omega
      obtain ⟨b1, r1, _⟩ := run_take hr k
      refine ⟨fun h => absurd (show false = true from h) (by decide), fun _ => ⟨hnz, hnz, ⟨Int.le_refl _, Int.natCast_nonneg _, Int.ofNat_le.2 a2⟩, trivial, fun q' hq' => ?_⟩⟩
      have hq' : q' = ((k : Int), (0 : Int), ()) := hq'.trans (by rw [hcut, check_ok (by omega) r1, hlk])
      subst hq'
      refine ⟨fun _ => trivial, fun h => ?_, fun _ => ⟨trivial, fun c hc => ?_⟩⟩
      · have h : (bif (bif !decide ((0 : Int) = 0) then true else !decide (((k : Nat) : Int) = (k : Nat))) then true else !true) = true := h
        rw [decide_eq_true (rfl : ((k : Nat) : Int) = (k : Nat))] at h
        cases h
      · have hc : c = g_Chain l (k : Nat) := hc
        have hc : c = resChain l (k : Nat) (.inr b) := by rw [hc]; unfold g_Chain; rw [if_neg (by omega), hr]
        cases hbad : badAt l (k : Nat) with
        | true =>
          have hc : c = ([], 0, 6, ()) := hc.trans (if_pos hbad)
          subst hc
          exact ⟨fun _ => ⟨_, rfl, rfl⟩, fun h => absurd h (by decide)⟩
        | false =>
          have hc : c = ((walk b.1 b.1.length (wasN (el tNote l (k : Nat))) []).1.reverse, mpGet (k := tInt) (v := tInt) b.2.2.1 (walk b.1 b.1.length (wasN (el tNote l (k : Nat))) []).2, 0, ()) := hc.trans (if_neg (neT hbad))
          obtain ⟨_, hin⟩ := badAt_in' hbad
          have hkl : k < l.length := by have hin : ((k : Nat) : Int) < (l.length : Int) := hin; omega
          rw [el_at hkl] at hc
          have h4 : kdN l[k] = 4 := by
            unfold badAt at hbad
            rw [el_at hkl] at hbad
            cases h4 : decide (kdN l[k] = 4) with
            | true => exact of_decide_eq_true h4
            | false =>
              rw [h4] at hbad
              cases h5 : (bif decide (((k : Nat) : Int) < 0) then true else decide (lnx tNote l ≤ ((k : Nat) : Int))) <;> (rw [h5] at hbad; cases hbad)
          have hadm := chain_adm hr hkl h4
          subst hc
          refine ⟨fun h => absurd (show false = true from h) (by decide), fun _ => ?_⟩
          exact (gl_Begin_14 O w0 l k a2 (by omega) _ (by
            have h1 := walk_len b.1 b.1.length (wasN l[k]) []
            have h2 := run_len hr
            simp [bk0] at h1 h2 ⊢
            omega) (fun x hx => hadm x (List.mem_reverse.1 hx))).down 0 () (Nat.zero_le _) trivial

end Go.Proofs.Ytainieginijaaaa
