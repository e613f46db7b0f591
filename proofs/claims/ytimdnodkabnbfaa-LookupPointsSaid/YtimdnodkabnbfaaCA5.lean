/- Part 5 of 10 of what this claim's proof stands on: a theory of programs on data, and the contracts of the functions that the law reaches. It holds no condition of its own. -/
import Derived.Test.YtimdnodkabnbfaaCA4
import Derived.KernelRfl
namespace Go.Proofs.Ytimdnodkabnbfaa
open Go Go.RowKit
section
variable {D : aK} {ops : Array Oper}
theorem Pr (d : Nat) (k : K) : gK (fF d k) = gK k := by
 cases k with
 | grd g w cs k' =>
  show gK (if g = d then .opt cs k' else .grd g w cs k') = _
  split
  ·cases k' with
   | val t x => cases t <;> rfl
   | _ => rfl
  ·rfl
 | _ => rfl
theorem KX {g : Option (Nat × Bool)} {d : Nat} (h : ∀ n c, g = some (n, c) → n ≠ d) (k : K) : oG g (fF d k) = oG g k := by
 cases k with
 | grd s w cs k' =>
  show oG g (if s = d then .opt cs k' else .grd s w cs k') = _
  split
  ·rename_i e
   subst e
   cases g with
   | none => rfl
   | some q =>
    obtain ⟨n, c⟩ := q
    show K.any = (if n = s then (if c = w then k' else .any) else .any)
    rw [if_neg (h n c rfl)]
  ·rfl
 | _ => rfl
theorem sF {looks : List Nat} {s : Nat → K} {d : Option Nat} {k : K} (hd : ∀ x, d = some x → x ∉ looks) {g : Option (Nat × Bool)} (hg : ∀ n c, g = some (n, c) → n ∈ looks) : rdl D looks (put s d k) g = rdl D looks s g := by
 cases d with
 | none => rfl
 | some d =>
  funext x
  cases x with
  | tmp t =>
   show (if looks.contains t then oG g (if t = d then k else fF d (s t)) else .any) = (if looks.contains t then oG g (s t) else .any)
   split
   ·rename_i hc
    have hm : t ∈ looks := List.contains_iff_mem.1 hc
    have hne : t ≠ d := fun e => hd d rfl (e ▸ hm)
    rw [if_neg hne]
    exact KX (fun n c e e' => by subst e'; exact hd n rfl (hg n c e)) _
   ·rfl
  | _ => rfl
theorem vk {o : Oper} {d : Nat} {w : Bool} (h : kT ops o = some (some (d, w))) : d ∈ o.looksAt ops := by
 unfold kT at h
 split at h
 ·cases h
 ·rename_i j c' hg
  split at h
  ·rename_i d' hd
   simp only [Option.some.injEq, Prod.mk.injEq] at h
   obtain ⟨rfl, rfl⟩ := h
   unfold Oper.looksAt
   rw [hg]
   simp [hd]
  ·cases h
theorem Df {o : Oper} {ct : Nat} {x y : Operand} (h : o.op = .pick (.tmp ct) x y) : ct ∈ o.looksAt ops := by
 unfold Oper.looksAt
 rw [h]
 simp [Op.operands]
theorem u6 {o : Oper} {s : Nat → K} {d : Option Nat} {k : K} {b : Nat → BS} {lim : Nat} (hd : ∀ x, d = some x → x ∉ o.looksAt ops) : db D ops o (put s d k) b lim = db D ops o s b lim := by
 have r0 : rdl D (o.looksAt ops) (put s d k) none = rdl D (o.looksAt ops) s none := sF hd (fun _ _ h => by cases h)
 unfold db
 split
 ·split
  ·rfl
  ·rename_i hg
   split
   ·rename_i ct x y ho
    have r1 : ∀ c, rdl D (o.looksAt ops) (put s d k) (some (ct, c)) = rdl D (o.looksAt ops) s (some (ct, c)) := fun c => sF hd (fun n c' h => by cases h; exact Df ho)
    rw [r0, r1, r1]
   ·rfl
   ·rw [r0]
  ·rename_i dd w hg
   have hl := vk hg
   have r1 : rdl D (o.looksAt ops) (put s d k) (some (dd, w)) = rdl D (o.looksAt ops) s (some (dd, w)) := sF hd (fun n c' h => by cases h; exact hl)
   have r2 : gK (put s d k dd) = gK (s dd) := by
    cases d with
    | none => rfl
    | some d0 =>
     show gK (if dd = d0 then k else fF d0 (s dd)) = _
     rw [if_neg (by rintro rfl; exact hd dd rfl hl), Pr]
   rw [r2]
   split
   ·rfl
   ·split
    ·rfl
    ·split
     ·rename_i ct x y ho
      have r3 : ∀ c, rdl D (o.looksAt ops) (put s d k) (some (ct, c)) = rdl D (o.looksAt ops) s (some (ct, c)) := fun c => sF hd (fun n c' h => by cases h; exact Df ho)
      rw [r1, r3, r3]
     ·rfl
     ·rw [r1]
 ·rfl
theorem uw {o : Oper} {s : Nat → K} {b : Nat → BS} {lim : Nat} {k : K} {ch : Chg} {ps : List Prop} (h : db D ops o s b lim = some (k, ch, ps)) (d : Nat) (hd : d ∉ o.looksAt ops) : fF d k = k := by
 unfold db at h
 split at h
 ·split at h
  ·cases h
  ·split at h
   ·split at h
    ·rename_i k1 hk1
     simp only [Option.some.injEq, Prod.mk.injEq] at h
     obtain ⟨rfl, _⟩ := h
     unfold A7 at hk1
     split at hk1
     ·split at hk1
      ·have e := (Option.some.inj hk1).symm; subst e; rfl
      ·cases hk1
     ·cases hk1
    ·cases h
   ·cases h
   ·split at h
    ·rename_i k1 _ _ _
     simp only [Option.some.injEq, Prod.mk.injEq] at h
     obtain ⟨rfl, _⟩ := h
     exact N5 (dJ k1) d
    ·cases h
  ·rename_i dd w hg
   have hl := vk hg
   have fin : ∀ cs k', fF d (.grd dd w cs k') = .grd dd w cs k' := fun cs k' => by
    show (if dd = d then K.opt cs k' else .grd dd w cs k') = _
    rw [if_neg (by rintro rfl; exact hd hl)]
   split at h
   ·cases h
   ·split at h
    ·cases h
    ·split at h
     ·split at h
      ·simp only [Option.some.injEq, Prod.mk.injEq] at h
       obtain ⟨rfl, _⟩ := h
       exact fin _ _
      ·cases h
     ·cases h
     ·split at h
      ·simp only [Option.some.injEq, Prod.mk.injEq] at h
       obtain ⟨rfl, _⟩ := h
       exact fin _ _
      ·cases h
 ·cases h
theorem Mn (d e : Nat) (k : K) : fF d (fF e k) = fF e (fF d k) := by
 cases k with
 | grd g w cs k' =>
  have hs : ∀ x, fF x (.grd g w cs k') = if g = x then .opt cs k' else .grd g w cs k' := fun _ => rfl
  have ho : ∀ x, fF x (.opt cs k') = .opt cs k' := fun _ => rfl
  rw [hs, hs]
  by_cases a : g = d
  ·by_cases b : g = e
   ·rw [if_pos a, if_pos b, ho, ho]
   ·rw [if_neg b, if_pos a, hs, if_pos a, ho]
  ·by_cases b : g = e
   ·rw [if_pos b, if_neg a, ho, hs, if_pos b]
   ·rw [if_neg b, if_neg a, hs, hs, if_neg a, if_neg b]
 | _ => rfl
theorem Ij {s : Nat → K} {d e : Option Nat} {k l : K} (hne : ∀ x, d = some x → e ≠ some x) (hk : ∀ x, e = some x → fF x k = k) (hl : ∀ x, d = some x → fF x l = l) : put (put s d k) e l = put (put s e l) d k := by
 cases d with
 | none => rfl
 | some d =>
  cases e with
  | none => rfl
  | some e =>
   have hne : d ≠ e := fun h => hne d rfl (by rw [h])
   funext n
   show (if n = e then l else fF e (if n = d then k else fF d (s n))) = (if n = d then k else fF d (if n = e then l else fF e (s n)))
   by_cases h1 : n = d
   ·by_cases h2 : n = e
    ·exact absurd (h1.symm.trans h2) hne
    ·rw [if_neg h2, if_pos h1, if_pos h1]; exact hk e rfl
   ·by_cases h2 : n = e
    ·rw [if_pos h2, if_neg h1, if_pos h2]; exact (hl d rfl).symm
    ·rw [if_neg h2, if_neg h1, if_neg h1, if_neg h2]; exact Mn e d (s n)
theorem JO {b : Nat → BS} {id : Nat} {x : BS} (hf : aX b id = true) {i : Nat} {y : Bx} (h : ao b i = some y) : ao (aG b [(id, x)]) i = some y := by
 have hne : i ≠ id := by
  rintro rfl
  have h1 := bP hf
  have h2 := aq h
  rw [h1] at h2
  cases h2
 show ao (fun n => if n = id then x else b n) i = some y
 unfold ao at h ⊢
 simp only [if_neg hne]
 exact h
set_option maxHeartbeats 2000000 in
theorem vF (o : Oper) (r : Operand → K) (hc : dq D o = 0) (b b' : Nat → BS) (id : Nat) (res : K × Chg × List Prop) (h : dp D o r b id = some res) : dp D o r b' id = some res ∧ res.2.1 = [] := by
  unfold dq at hc
  unfold dp at h ⊢
  cases ho : o.op <;> simp only [ho] at hc h ⊢ <;> first
    | (cases h; done)
    | (refine ⟨h, ?_⟩
       (repeat' (split at h)) <;> first | (cases h; done) | (have e := Option.some.inj h; subst e; rfl))
    | skip
  case alloc => split at hc <;> cases hc
  case box => split at hc <;> cases hc
  case load => cases hc
  case store => cases hc
  case indexAddr => cases hc
  case makeFunc fn first captured =>
    cases fn <;> simp only at h ⊢ <;> first
      | (cases h; done)
      | (refine ⟨h, ?_⟩
         (repeat' (split at h)) <;> first | (cases h; done) | (have e := Option.some.inj h; subst e; rfl))
  case buildSlice t n parts =>
    split at h
    · split at h
      · cases h
      · split at h
        · split at h
          · rename_i d hd
            simp only [hd] at hc
            split at h
            · rename_i hcon
              rw [if_pos hcon] at hc
              cases hc
            · rename_i hcon
              have e := Option.some.inj h
              subst e
              exact ⟨by simp_all, rfl⟩
          · cases h
        · cases h
    · cases h
  case call c =>
    cases hcal : c.callee with
    | builtin bi =>
      simp only [hcal] at hc h ⊢
      cases bi <;> simp only at hc h ⊢ <;> first
        | (cases hc; done)
        | (cases h; done)
        | (refine ⟨h, ?_⟩
           (repeat' (split at h)) <;> first | (cases h; done) | (have e := Option.some.inj h; subst e; rfl))
    | value q =>
      simp only [hcal] at h ⊢
      cases q <;> simp only at h ⊢ <;>
        (refine ⟨h, ?_⟩
         (repeat' (split at h)) <;> first | (cases h; done) | (have e := Option.some.inj h; subst e; rfl))
    | invoke q m => simp only [hcal] at h; cases h
theorem Jp {b b' : Nat → BS} (hb : ∀ i y, ao b i = some y → ao b' i = some y) {t : Ty} {k : K} {n : Int} (h : x9 b t k = some n) : x9 b' t k = some n := by
 unfold x9 at h ⊢
 split at h <;> first | exact h | skip
 split at h
 ·rename_i xs hl
  rw [hb _ _ hl]
  exact h
 ·cases h
set_option maxHeartbeats 2000000 in
theorem JN (o : Oper) (r : Operand → K) (hc : dq D o = 1) (b b' : Nat → BS) (hb : ∀ i y, ao b i = some y → ao b' i = some y) (id : Nat) (res : K × Chg × List Prop) (h : dp D o r b id = some res) : dp D o r b' id = some res ∧ res.2.1 = [] := by
 unfold dq at hc
 unfold dp at h ⊢
 cases ho : o.op <;> simp only [ho] at hc h ⊢ <;> first
  | (cases hc; done)
  | (split at hc <;> cases hc; done)
  | skip
 case buildSlice t n parts =>
  split at hc
  ·split at hc <;> cases hc
  ·cases hc
 case load t x =>
  split at h
  ·split at h
   ·split at h
    ·rename_i bx hl
     rw [hb _ _ hl]
     refine ⟨h, ?_⟩
     (repeat' (split at h)) <;> first | (cases h; done) | (have e := Option.some.inj h; subst e; rfl)
    ·cases h
   ·refine ⟨h, ?_⟩
    (repeat' (split at h)) <;> first | (cases h; done) | (have e := Option.some.inj h; subst e; rfl)
   ·cases h
  ·cases h
 case indexAddr t x i =>
  split at h
  ·split at h
   ·refine ⟨h, ?_⟩
    (repeat' (split at h)) <;> first | (cases h; done) | (have e := Option.some.inj h; subst e; rfl)
   ·refine ⟨h, ?_⟩
    (repeat' (split at h)) <;> first | (cases h; done) | (have e := Option.some.inj h; subst e; rfl)
   ·split at h
    ·rename_i he
     rw [if_pos he]
     split at h
     ·rename_i e'' xs hl
      rw [hb _ _ hl]
      refine ⟨h, ?_⟩
      (repeat' (split at h)) <;> first | (cases h; done) | (have e := Option.some.inj h; subst e; rfl)
     ·cases h
    ·cases h
   ·cases h
  ·refine ⟨h, ?_⟩
   (repeat' (split at h)) <;> first | (cases h; done) | (have e := Option.some.inj h; subst e; rfl)
  ·cases h
 case call c =>
  cases hcal : c.callee with
  | builtin bi =>
   simp only [hcal] at hc h ⊢
   cases bi <;> simp only at hc h ⊢ <;> first
    | (cases hc; done)
    | skip
   split at h
   ·split at h
    ·rename_i n hn
     rw [Jp hb hn]
     refine ⟨h, ?_⟩
     have e := Option.some.inj h; subst e; rfl
    ·cases h
   ·cases h
  | value q => simp only [hcal] at hc; cases hc
  | invoke q m => simp only [hcal] at hc; cases hc
set_option maxHeartbeats 2000000 in
theorem LD (o : Oper) (r : Operand → K) (hc : dq D o = 2) (b : Nat → BS) (id : Nat) (res : K × Chg × List Prop) (h : dp D o r b id = some res) : aX b id = true ∧ ∃ x, res.2.1 = [(id, x)] := by
 unfold dq at hc
 unfold dp at h
 cases ho : o.op <;> simp only [ho] at hc h <;> first
  | (cases hc; done)
  | skip
 case alloc e =>
  split at h
  ·split at h
   ·rename_i hf
    have e := Option.some.inj h
    subst e
    exact ⟨hf, _, rfl⟩
   ·cases h
  ·cases h
 case box e x =>
  split at h
  ·split at h
   ·split at h
    ·rename_i hf
     have e := Option.some.inj h
     subst e
     exact ⟨hf, _, rfl⟩
    ·cases h
   ·cases h
  ·cases h
 case buildSlice t n parts =>
  split at h
  ·split at h
   ·cases h
   ·split at h
    ·split at h
     ·rename_i d hd
      simp only [hd] at hc
      split at hc
      ·rename_i hcon
       rw [if_pos hcon] at h
       split at h
       ·rename_i hf
        have e := Option.some.inj h
        subst e
        exact ⟨hf, _, rfl⟩
       ·cases h
      ·cases hc
     ·cases h
    ·cases h
  ·cases h
 case call c =>
  cases hcal : c.callee with
  | builtin bi => simp only [hcal] at hc; cases bi <;> cases hc
  | value q => simp only [hcal] at hc; cases hc
  | invoke q m => simp only [hcal] at hc; cases hc
set_option maxHeartbeats 2000000 in
theorem Ja (o : Oper) (r : Operand → K) (hc : dq D o = 2) (b : Nat → BS) (id : Nat) (res : K × Chg × List Prop) (h : dp D o r b id = some res) (b' : Nat → BS) (hf' : aX b' id = true) : dp D o r b' id = some res := by
 unfold dq at hc
 unfold dp at h ⊢
 cases ho : o.op <;> simp only [ho] at hc h ⊢ <;> first
  | (cases hc; done)
  | skip
 case alloc e =>
  split at h
  ·split at h
   ·rw [if_pos hf']; exact h
   ·cases h
  ·cases h
 case box e x =>
  split at h
  ·split at h
   ·split at h
    ·rw [if_pos hf']; exact h
    ·cases h
   ·cases h
  ·cases h
 case buildSlice t n parts =>
  split at h
  ·split at h
   ·cases h
   ·rename_i hn
    rw [if_neg hn]
    split at h
    ·split at h
     ·rename_i d hd
      simp only [hd] at hc
      split at hc
      ·rename_i hcon
       rw [if_pos hcon] at h ⊢
       split at h
       ·rw [if_pos hf']; exact h
       ·cases h
      ·cases hc
     ·cases h
    ·cases h
  ·cases h
 case call c =>
  cases hcal : c.callee with
  | builtin bi => simp only [hcal] at hc; cases bi <;> cases hc
  | value q => simp only [hcal] at hc; cases hc
  | invoke q m => simp only [hcal] at hc; cases hc
theorem LV {b : Nat → BS} : ∀ {t : Ty} {ks : List K}, zM t = false → oJ b t ks = dE t ks := by
 intro t
 induction t with
 | pair p q _ ihq =>
  intro ks h
  cases ks with
  | nil => rfl
  | cons k ks =>
   have hq : zM q = false := by cases p <;> first | exact h | cases h
   show (match asB b p k, oJ b q ks with | some x, some y => some (x, y) | _, _ => none) = (match bt p k, dE q ks with | some x, some y => some (x, y) | _, _ => none)
   rw [ihq hq]
   have : asB b p k = bt p k := by
    cases p with
    | slc e => cases h
    | _ => cases k <;> rfl
   rw [this]
 | _ => intro ks _; cases ks <;> rfl
theorem L8 {b b' : Nat → BS} (hb : ∀ i y, ao b i = some y → ao b' i = some y) : ∀ {t : Ty} {ks : List K} {x : den t}, oJ b t ks = some x → oJ b' t ks = some x := by
 intro t
 induction t with
 | pair p q _ ihq =>
  intro ks x h
  cases ks with
  | nil => cases h
  | cons k ks =>
   have h : (match asB b p k, oJ b q ks with | some x, some y => some (x, y) | _, _ => none) = some x := h
   split at h
   ·rename_i x1 x2 h1 h2
    show (match asB b' p k, oJ b' q ks with | some x, some y => some (x, y) | _, _ => none) = some x
    rw [ihq h2]
    have : asB b' p k = some x1 := by
     unfold asB at h1 ⊢
     split at h1
     ·rename_i e id e0
      split at h1
      ·rename_i e' xs hl
       simp only [hb _ _ hl]
       exact h1
      ·cases h1
     ·exact h1
    rw [this]
    exact h
   ·cases h
 | _ => intro ks x h; cases ks <;> first | exact h | cases h
theorem xI {b b' : Nat → BS} (hb : ∀ i y, ao b i = some y → ao b' i = some y) {e : Ty} {id : Nat} {q : Nat × List (den e)} (h : it b e id = some q) : it b' e id = some q := by
 unfold it at h ⊢
 split at h
 ·rename_i e' xs hl
  simp only [hb _ _ hl]; exact h
 ·rename_i e' n zs hl
  simp only [hb _ _ hl]; exact h
 ·cases h
theorem Mr {b b' : Nat → BS} (hb : ∀ i y, ao b i = some y → ao b' i = some y) {e : Ty} {k : K} {v : Vw e} (h : dK b e k = some v) : dK b' e k = some v := by
 unfold dK at h ⊢
 split at h
 ·split at h
  ·rename_i n zs hr
   simp only [xI hb hr]; exact h
  ·cases h
 ·split at h
  ·rename_i ee
   simp only [if_pos ee]
   split at h
   ·rename_i n zs hr
    simp only [xI hb hr]; exact h
   ·cases h
  ·cases h
 ·cases h
theorem MP {b b' : Nat → BS} {e : Ty} {k : K} {xs : List (den e)} (h : bt (.slc e) k = some xs) : dK b e k = none ∧ dK b' e k = none := by
 cases k <;> first | exact ⟨rfl, rfl⟩ | cases h
theorem N8 {b b' : Nat → BS} (hb : ∀ i y, ao b i = some y → ao b' i = some y) {t : Ty} {k : K} {x : den t} (h : asB b t k = some x) : asB b' t k = some x := by
 unfold asB at h ⊢
 split at h
 ·split at h
  ·rename_i hl
   simp only [hb _ _ hl]
   exact h
  ·cases h
 ·exact h
theorem K8 {b b' : Nat → BS} (hb : ∀ i y, ao b i = some y → ao b' i = some y) : ∀ {t : Ty} {k : K} {x : den t}, qg b t k = some x → qg b' t k = some x := by
 intro t
 induction t with
 | pair p q _ ihq =>
  intro k x h
  cases k <;> first | (cases h; done) | skip
  rename_i k ks
  have h : (match Ap b p k, qg b q ks with | some x, some y => some (x, y) | _, _ => none) = some x := h
  split at h
  ·rename_i x1 x2 h1 h2
   show (match Ap b' p k, qg b' q ks with | some x, some y => some (x, y) | _, _ => none) = some x
   rw [ihq h2]
   have : Ap b' p k = some x1 := by
    unfold Ap at h1 ⊢
    split at h1
    ·split at h1
     ·rename_i hl
      simp only [hb _ _ hl]
      exact h1
     ·cases h1
    ·exact h1
   rw [this]
   exact h
  ·cases h
 | unit => intro k x h; cases k <;> first | exact h | cases h
 | _ => intro k x h; cases k <;> cases h
theorem yz {b b' : Nat → BS} (hb : ∀ i y, ao b i = some y → ao b' i = some y) {cap : K} : ∀ {ks : List K} {t : Ty} {x : den t}, ka b t ks cap = some x → ka b' t ks cap = some x
 | [], t, x, h => by
  have h : qg b t cap = some x := by cases t <;> exact h
  have := K8 hb h
  cases t <;> exact this
 | k :: ks, t, x, h => by
  cases t <;> first | (cases h; done) | skip
  rename_i t c
  have h' : (match asB b t k, ka b c ks cap with | some x, some y => some (x, y) | _, _ => none) = some x := h
  split at h'
  ·rename_i x1 x2 h1 h2
   show (match asB b' t k, ka b' c ks cap with | some x, some y => some (x, y) | _, _ => none) = some x
   rw [N8 hb h1, yz hb h2]
   exact h'
  ·cases h'
theorem sg {o : Oper} {r : Operand → K} {b : Nat → BS} {id : Nat} {q : K × Chg × List Prop} (h : dp D o r b id = some q) : c6 D o r b id = some q := by unfold c6; rw [h]
theorem nm {o : Oper} {r : Operand → K} {b : Nat → BS} {id : Nat} (h : cy o = false) : c6 D o r b id = dp D o r b id := by
 unfold c6
 cases dp D o r b id with
 | some q => rfl
 | none => simp [h]
theorem Gd (o : Oper) (r : Operand → K) (hc : dq D o = 0) (b b' : Nat → BS) (id : Nat) (h : dp D o r b id = none) : dp D o r b' id = none := by
 cases h' : dp D o r b' id with
 | none => rfl
 | some q => rw [(vF o r hc b' b id q h').1] at h; cases h
theorem Du (o : Oper) (r : Operand → K) (hc : dO D o = 0) (b b' : Nat → BS) (id : Nat) (res : K × Chg × List Prop) (h : c6 D o r b id = some res) : c6 D o r b' id = some res ∧ res.2.1 = [] := by
  have hc0 : dq D o = 0 := by
    unfold dO at hc
    split at hc
    · cases hc
    · rename_i c ho
      split at hc <;> first
        | (cases hc; done)
        | (unfold dq; rename_i f hcal; simp [ho, hcal]; done)
        | exact hc
    · exact hc
  cases hv : dp D o r b id with
  | some q =>
    have e : q = res := by rw [sg hv] at h; exact Option.some.inj h
    subst e
    obtain ⟨h1, h2⟩ := vF o r hc0 b b' id q hv
    exact ⟨sg h1, h2⟩
  | none =>
    have hv' := Gd o r hc0 b b' id hv
    unfold c6 at h ⊢
    rw [hv] at h
    rw [hv']
    simp only at h ⊢
    split at h
    · rename_i hdr
      rw [if_pos hdr]
      unfold cy at hdr
      split at hdr
      · rename_i x i ho
        unfold fO at h ⊢
        simp only [ho] at h ⊢
        refine ⟨h, ?_⟩
        (repeat' (split at h)) <;> first | (cases h; done) | (simp only [Option.some.injEq] at h; subst h; rename_i hq; (repeat' (split at hq)) <;> first | (cases hq; done) | (injection hq with hq; injection hq with _ h2 _; exact h2.symm))
      · rename_i ho
        unfold dO at hc
        rw [ho] at hc
        cases hc
      · rename_i c ho
        split at hdr
        · rename_i hcal; unfold dO at hc; simp [ho, hcal, dq] at hc
        · rename_i hcal; unfold dO at hc; simp [ho, hcal] at hc
        · rename_i hcal; unfold dO at hc; simp [ho, hcal] at hc
        · rename_i f hcal
          unfold dO at hc
          simp only [ho, hcal] at hc
          split at hc
          · split at hc <;> cases hc
          · rename_i hR
            split at hc
            · cases hc
            · rename_i hO
              unfold fO at h
              simp only [ho, hcal] at h
              rw [if_neg hO, hR] at h
              simp only at h
              split at hc
              · rename_i S hS
                split at hc
                · cases hc
                · rename_i hflat
                  rw [hS] at h
                  simp only at h
                  by_cases hf : eZ S.rs = true
                  · have hs : zM S.as = false := by
                      rw [hf, Bool.true_and] at hflat
                      simpa using hflat
                    rw [if_pos hf, LV hs] at h
                    unfold dp at hv
                    simp only [ho, hcal, hS] at hv
                    cases hx : dE S.as (List.map r c.args.toList) with
                    | none => rw [hx] at h; cases h
                    | some x => rw [hx] at hv; cases hv
                  · rw [if_neg hf] at h
                    cases h
              · rename_i hS
                unfold fO
                simp only [ho, hcal]
                rw [if_neg hO, hR]
                simp only
                rw [hS] at h ⊢
                simp only at h ⊢
                refine ⟨h, ?_⟩
                (repeat' (split at h)) <;> first | (cases h; done) | (simp only [Option.some.injEq] at h; subst h; rename_i hq; (repeat' (split at hq)) <;> first | (cases hq; done) | (injection hq with hq; injection hq with _ h2 _; exact h2.symm))
        · rename_i t hcal
          unfold dO at hc
          simp only [ho, hcal] at hc
          split at hc
          · cases hc
          · rename_i hno
            unfold fO at h
            simp only [ho, hcal] at h
            rw [if_neg hno] at h
            cases h
        · cases hdr
      · cases hdr
    · cases h
theorem K2 (o : Oper) (r : Operand → K) (hc : dO D o = 1) (b b' : Nat → BS) (hb : ∀ i y, ao b i = some y → ao b' i = some y) (id : Nat) (res : K × Chg × List Prop) (h : c6 D o r b id = some res) : c6 D o r b' id = some res ∧ res.2.1 = [] := by
  by_cases hdr : cy o = true
  · have hc0 : dq D o = 0 := by
      unfold cy at hdr
      split at hdr
      · rename_i ho; unfold dO at hc; simp [ho, dq] at hc
      · rename_i ho; unfold dq; simp [ho]
      · rename_i c ho
        split at hdr
        · rename_i hcal; unfold dO at hc; simp [ho, hcal, dq] at hc
        · rename_i hcal; unfold dO at hc; simp [ho, hcal] at hc
        · rename_i hcal; unfold dO at hc; simp [ho, hcal] at hc
        · rename_i f hcal; unfold dq; simp [ho, hcal]
        · rename_i f hcal; unfold dq; simp [ho, hcal]
        · cases hdr
      · cases hdr
    cases hv : dp D o r b id with
    | some q =>
      have e : q = res := by rw [sg hv] at h; exact Option.some.inj h
      subst e
      obtain ⟨h1, h2⟩ := vF o r hc0 b b' id q hv
      exact ⟨sg h1, h2⟩
    | none =>
      have hv' := Gd o r hc0 b b' id hv
      unfold c6 at h ⊢
      rw [hv] at h
      rw [hv']
      simp only [hdr, if_true] at h ⊢
      have key : ∀ k ch ps, fO D o r b id = some (.one k ch ps) → fO D o r b' id = some (.one k ch ps) ∧ ch = [] := by
        intro k ch ps hq
        unfold cy at hdr
        split at hdr
        · rename_i ho; unfold dO at hc; simp [ho, dq] at hc
        · rename_i tx x lo hi mx ho
          unfold fO at hq ⊢
          simp only [ho] at hq ⊢
          split at hq
          · rename_i e ht
            split at hq
            · rename_i v hvw
              simp only [Mr hb hvw]
              refine ⟨hq, ?_⟩
              (repeat' (split at hq)) <;> first | (cases hq; done) | (injection hq with hq; injection hq with _ h2 _; exact h2.symm)
            · split at hq
              · rename_i xs mo hxs
                rw [(MP (b := b) (b' := b') hxs).2]
                simp only [hxs]
                refine ⟨hq, ?_⟩
                (repeat' (split at hq)) <;> first | (cases hq; done) | (injection hq with hq; injection hq with _ h2 _; exact h2.symm)
              · cases hq
          · refine ⟨hq, ?_⟩
            (repeat' (split at hq)) <;> first | (cases hq; done) | (injection hq with hq; injection hq with _ h2 _; exact h2.symm)
          · cases hq
        · rename_i c ho
          split at hdr
          · rename_i hcal; unfold dO at hc; simp [ho, hcal, dq] at hc
          · rename_i hcal; unfold dO at hc; simp [ho, hcal] at hc
          · rename_i hcal; unfold dO at hc; simp [ho, hcal] at hc
          · rename_i f hcal
            unfold dO at hc
            simp only [ho, hcal] at hc
            unfold fO at hq ⊢
            simp only [ho, hcal] at hq ⊢
            split at hc
            · split at hc <;> cases hc
            · rename_i hR
              split at hq
              · rename_i hO
                simp only [hO, if_true]
                split at hq
                · split at hq
                  · split at hq
                    · rename_i hs
                      simp only [Bool.and_eq_true, decide_eq_true_eq] at hs
                      obtain ⟨q0, hkn⟩ := Option.isSome_iff_exists.1 hs.1.2
                      rw [if_pos (by simp only [Bool.and_eq_true, decide_eq_true_eq]; exact ⟨⟨hs.1.1, by rw [xI hb hkn]; rfl⟩, hs.2⟩)]
                      exact ⟨hq, by injection hq with hq; injection hq with _ h2 _; exact h2.symm⟩
                    · cases hq
                  · cases hq
                · cases hq
              · rename_i hO
                simp only [hO, if_false]
                rw [hR] at hq ⊢
                simp only at hq ⊢
                split at hq
                · rename_i S hS
                  split at hq
                  · rename_i hf
                    split at hq
                    · rename_i x hx
                      simp only [if_pos hf, L8 hb hx]
                      exact ⟨hq, by injection hq with hq; injection hq with _ h2 _; exact h2.symm⟩
                    · cases hq
                  · cases hq
                · rename_i hF
                  rw [if_neg hO, hF] at hc
                  cases hc
          · rename_i t hcal
            unfold fO at hq ⊢
            simp only [ho, hcal] at hq ⊢
            split at hq
            · rename_i hown
              rw [if_pos hown]
              split at hq
              · split at hq
                · split at hq
                  · rename_i hf
                    split at hq
                    · rename_i x hx
                      simp only [if_pos hf, yz hb hx]
                      exact ⟨hq, by injection hq with hq; injection hq with _ h2 _; exact h2.symm⟩
                    · cases hq
                  · cases hq
                · cases hq
              · cases hq
            · cases hq
          · cases hdr
        · cases hdr
      split at h
      · rename_i k ch ps hq
        obtain ⟨h1, h2⟩ := key k ch ps hq
        rw [h1]
        have e := Option.some.inj h
        subst e
        exact ⟨rfl, h2⟩
      · cases h
  · have hdr : cy o = false := by simpa using hdr
    have hc0 : dq D o = 1 := by
      unfold dO at hc
      split at hc
      · rename_i ho; unfold cy at hdr; rw [ho] at hdr; cases hdr
      · rename_i c ho
        split at hc
        · cases hc
        · cases hc
        · rename_i f hcal; unfold cy at hdr; simp [ho, hcal] at hdr
        · rename_i f hcal; unfold cy at hdr; simp [ho, hcal] at hdr
        · exact hc
      · exact hc
    rw [nm hdr] at h ⊢
    exact JN o r hc0 b b' hb id res h
theorem yf {o : Oper} (hc : dO D o = 2) : (cy o = false ∧ dq D o = 2) ∨ ∃ c f S, o.op = .call c ∧ c.callee = .value (.func f) ∧ D.R.lookup f = some S ∧ S.arg = false ∧ o.dst.isNone = false ∧ (D.F.lookup f).isSome = false ∧ D.ovl.contains f = false := by
  unfold dO at hc
  split at hc
  · cases hc
  · rename_i c ho
    split at hc
    · cases hc
    · cases hc
    · rename_i f hcal
      split at hc
      · rename_i S hS
        split at hc
        · cases hc
        · rename_i h
          simp only [Bool.or_eq_true, not_or, Bool.not_eq_true] at h
          exact .inr ⟨c, f, S, ho, hcal, hS, h.1.1.1, h.1.1.2, h.1.2, h.2⟩
      · split at hc
        · cases hc
        · split at hc
          · split at hc <;> cases hc
          · cases hc
    · split at hc <;> cases hc
    · have : ¬ dq D o = 2 := by
        unfold dq
        simp only [ho]
        split <;> simp
      exact absurd hc this
  · rename_i h1 h2
    refine .inl ⟨?_, hc⟩
    unfold cy
    split
    · rename_i x i ho; unfold dq at hc; simp [ho] at hc
    · rename_i ho; exact absurd ho (h1 _ _ _ _ _)
    · rename_i c ho; exact absurd ho (h2 c)
    · rfl
theorem Ho {o : Oper} {r : Operand → K} {b : Nat → BS} {id : Nat} {c : Call} {f : FuncId} {S : d6} (h1 : o.op = .call c) (h2 : c.callee = .value (.func f)) (h3 : D.R.lookup f = some S) (h4 : S.arg = false) (h5 : (D.F.lookup f).isSome = false) (h6 : D.ovl.contains f = false) {res : K × Chg × List Prop} (h : c6 D o r b id = some res) :
    (∀ b', aX b' id = true → c6 D o r b' id = some res) ∧ (∃ x, res.2.1 = [(id, x)]) ∧ aX b id = true := by
  have hF : D.F.lookup f = none := by
    cases hl : List.lookup f D.F with
    | none => rfl
    | some q => rw [hl] at h5; cases h5
  have hv : ∀ b', dp D o r b' id = none := fun b' => by unfold dp; simp only [h1, h2, hF]
  have hd : cy o = true := by unfold cy; simp only [h1, h2]
  have h2' : ∀ b', fO D o r b' id = match dE S.as (c.args.toList.map r) with
      | some y => if S.ret && aX b' id then some (.one (.sl id S.e) [(id, .live (.row S.e (S.g [] y)))] [S.pre [] y]) else none
      | none => none := fun b' => by
    unfold fO
    simp only [h1, h2]
    rw [if_neg (by rw [h6]; simp), h3]
    simp only [h4]
    cases dE S.as (List.map r c.args.toList) <;> rfl
  unfold c6 at h ⊢
  simp only [hv, hd, h2', if_true] at h ⊢
  cases ha : dE S.as (c.args.toList.map r) with
  | none => rw [ha] at h; cases h
  | some y =>
    rw [ha] at h
    simp only at h ⊢
    cases hr : (S.ret && aX b id) with
    | false => rw [hr] at h; cases h
    | true =>
      rw [hr] at h
      have e := Option.some.inj h
      subst e
      rw [Bool.and_eq_true] at hr
      refine ⟨fun b' hb' => ?_, ⟨_, rfl⟩, hr.2⟩
      rw [hr.1, hb']
      rfl
theorem Mp (o : Oper) (r : Operand → K) (hc : dO D o = 2) (b : Nat → BS) (id : Nat) (res : K × Chg × List Prop) (h : c6 D o r b id = some res) : aX b id = true ∧ ∃ x, res.2.1 = [(id, x)] := by
 rcases yf hc with ⟨h1, h2⟩ | ⟨c, f, S, h1, h2, h3, h4, _, h5, h6⟩
 ·rw [nm h1] at h
  exact LD o r h2 b id res h
 ·have := Ho h1 h2 h3 h4 h5 h6 h
  exact ⟨this.2.2, this.2.1⟩
theorem LW (o : Oper) (r : Operand → K) (hc : dO D o = 2) (b : Nat → BS) (id : Nat) (res : K × Chg × List Prop) (h : c6 D o r b id = some res) (b' : Nat → BS) (hf' : aX b' id = true) : c6 D o r b' id = some res := by
 rcases yf hc with ⟨h1, h2⟩ | ⟨c, f, S, h1, h2, h3, h4, _, h5, h6⟩
 ·rw [nm h1] at h ⊢
  exact Ja o r h2 b id res h b' hf'
 ·exact (Ho h1 h2 h3 h4 h5 h6 h).1 b' hf'
theorem oH {o : Oper} (h : eX D o = false) {r : Operand → K} {b : Nat → BS} {id : Nat} : gw D o r b id = match c6 D o r b id with | some q => some q | none => if dL o then Fr (dT D o r b id) else none := by
 unfold gw; rw [h]; rfl
theorem Pj {o : Oper} (h : eX D o = true) : cls D o = 3 := by unfold cls; rw [if_pos h]
theorem wV {o : Oper} (h : eX D o = false) : cls D o = match lR o with | some c => c | none => dO D o := by unfold cls; rw [if_neg (by rw [h]; simp)]; rfl
theorem zW {o : Oper} {c : Nat} (h : lR o = some c) (r : Operand → K) (b : Nat → BS) (id : Nat) : c6 D o r b id = none := by
 unfold lR at h
 split at h <;> first
  | (cases h; done)
  | (rename_i ho; unfold c6 dp cy; simp only [ho]; rfl)
theorem NA {o : Oper} {c : Nat} (h : lR o = some c) (hc : c = 1) : ∃ t x i ok, o.op = .lookup t x i ok := by
 unfold lR at h
 split at h
 ·rename_i ho; exact ⟨_, _, _, _, ho⟩
 all_goals (subst hc; first | (cases h; done) | (split at h <;> cases h))
theorem IB {o : Oper} {c : Nat} (h : lR o = some c) (hc : c = 2) : ∃ t q, o.op = .makeMap t q := by
 unfold lR at h
 split at h
 ·subst hc; cases h
 ·rename_i ho; exact ⟨_, _, ho⟩
 all_goals (subst hc; first | (cases h; done) | (split at h <;> cases h))
theorem M3 {o : Oper} {c : Nat} (h : lR o = some c) (hc : c = 0) : False := by
 unfold lR at h
 split at h
 all_goals (subst hc; first | (cases h; done) | (split at h <;> cases h))
theorem M8 {b b' : Nat → BS} (hb : ∀ i y, ao b i = some y → ao b' i = some y) {k v : Ty} {x : K} {l : List (den k × den v)} (h : pX b k v x = some l) : pX b' k v x = some l := by
 unfold pX at h ⊢
 split at h
 ·exact h
 ·split at h
  ·rename_i hl; rw [hb _ _ hl]; exact h
  ·cases h
 ·exact h
 ·cases h
theorem Ay {o : Oper} (h : dL o = true) : (∃ e x, o.op = .box e x) ∨ (∃ e p, o.op = .build e p) ∨ (∃ t x, o.op = .load t x) ∨ (∃ t x v, o.op = .store t x v) ∨ (∃ c, lR o = some c) := by
 unfold dL at h
 split at h
 ·rename_i ho; exact .inl ⟨_, _, ho⟩
 ·rename_i ho; exact .inr (.inl ⟨_, _, ho⟩)
 ·rename_i ho; exact .inr (.inr (.inl ⟨_, _, ho⟩))
 ·rename_i ho; exact .inr (.inr (.inr (.inl ⟨_, _, _, ho⟩)))
 ·rename_i ho; exact .inr (.inr (.inr (.inr (by unfold lR; rw [ho]; exact ⟨_, rfl⟩))))
 ·rename_i ho; exact .inr (.inr (.inr (.inr (by unfold lR; rw [ho]; exact ⟨_, rfl⟩))))
 ·rename_i ho; exact .inr (.inr (.inr (.inr (by unfold lR; rw [ho]; exact ⟨_, rfl⟩))))
 ·cases h
theorem Be (o : Oper) {c : Nat} (h : cls D o = c) (hc : c ≠ 3) : eX D o = false := by
 cases ho : eX D o with
 | false => rfl
 | true => rw [Pj ho] at h; exact absurd h.symm hc
theorem Lx {o : Oper} {e : TypeId} {p : Array (Nat × Operand)} (ho : o.op = .build e p) (h : eX D o = false) : oB D o = false := by
 unfold eX at h
 unfold oB
 cases hd : o.dst with
 | none => rfl
 | some d => rw [hd, ho] at h; exact h
theorem KW {o : Oper} {e : TypeId} {p : Array (Nat × Operand)} (ho : o.op = .build e p) (hown : eX D o = false) (r : Operand → K) (b b' : Nat → BS) (id : Nat) : dT D o r b id = dT D o r b' id ∧ ∀ k ch ps, dT D o r b id = some (.one k ch ps) → ch = [] := by
 have e : ∀ b'' : Nat → BS, dT D o r b'' id = match D.ty e with
  | some (.st bd) => (match nZ (fun _ => .no) r bd (kZ bd) p.toList with
   | some c => some (.one (.agg bd c) [] [])
   | none => none)
  | _ => none := fun b'' => by unfold dT; simp only [ho, Lx ho hown]; rfl
 refine ⟨by rw [e, e], fun k ch ps h => ?_⟩
 rw [e] at h
 split at h
 ·split at h
  ·cases h; rfl
  ·cases h
 ·cases h
theorem BI (o : Oper) (r : Operand → K) (hc : cls D o = 0) (b b' : Nat → BS) (id : Nat) (res : K × Chg × List Prop) (h : gw D o r b id = some res) : gw D o r b' id = some res ∧ res.2.1 = [] := by
 have hn := Be o hc (by decide)
 rw [oH hn] at h ⊢
 rw [wV hn] at hc
 split at hc
 ·rename_i c h3; exact (M3 h3 hc).elim
 ·rename_i h3
  cases hv : c6 D o r b id with
  | some q =>
   rw [hv] at h
   have e := Option.some.inj h
   subst e
   have := Du o r hc b b' id q hv
   rw [this.1]
   exact ⟨rfl, this.2⟩
  | none =>
   have hv' : c6 D o r b' id = none := by
    cases hq : c6 D o r b' id with
    | none => rfl
    | some q => rw [(Du o r hc b' b id q hq).1] at hv; cases hv
   rw [hv] at h
   rw [hv']
   simp only at h ⊢
   split at h
   ·rename_i hd
    rw [if_pos hd]
    rcases Ay hd with ⟨e, x, ho⟩ | ⟨e, p, ho⟩ | ⟨t, x, ho⟩ | ⟨t, x, v, ho⟩ | ⟨c, h4⟩
    ·unfold dO dq at hc; simp only [ho] at hc; split at hc <;> cases hc
    ·obtain ⟨e1, e2⟩ := KW (D := D) ho hn r b b' id
     rw [← e1]
     refine ⟨h, ?_⟩
     have := ma (k := res.1) (ch := res.2.1) (ps := res.2.2) h
     exact e2 _ _ _ this
    ·unfold dO dq at hc; simp only [ho] at hc; cases hc
    ·unfold dO dq at hc; simp only [ho] at hc; cases hc
    ·rw [h3] at h4; cases h4
   ·cases h
theorem NJ {o : Oper} {t : TypeId} {x : Operand} (ho : o.op = .load t x) {r : Operand → K} {b b' : Nat → BS} (hb : ∀ i y, ao b i = some y → ao b' i = some y) {id : Nat} {k : K} {ch : Chg} {ps : List Prop} (h : dT D o r b id = some (.one k ch ps)) :
    dp D o r b' id = none ∧ dT D o r b' id = some (.one k ch ps) ∧ ch = [] := by
  unfold dT at h ⊢
  unfold dp
  simp only [ho] at h ⊢
  split at h
  · rename_i u i base p ht hx
    split at h
    · rename_i t0 k0 hl
      rw [ht, hx]
      simp only [hb _ _ hl]
      refine ⟨rfl, h, ?_⟩
      (repeat' (split at h)) <;> first | (cases h; done) | (injection h with h; injection h with _ h2 _; exact h2.symm)
    · cases h
  · cases h
theorem BU (o : Oper) (r : Operand → K) (hc : cls D o = 1) (b b' : Nat → BS) (hb : ∀ i y, ao b i = some y → ao b' i = some y) (id : Nat) (res : K × Chg × List Prop) (h : gw D o r b id = some res) : gw D o r b' id = some res ∧ res.2.1 = [] := by
 have hn := Be o hc (by decide)
 rw [oH hn] at h ⊢
 rw [wV hn] at hc
 split at hc
 ·rename_i c h3
  rw [zW h3] at h ⊢
  obtain ⟨t, x, i, ok, ho⟩ := NA h3 hc
  have hd : dL o = true := by unfold dL; rw [ho]
  simp only [hd, if_true] at h ⊢
  have h1 := ma (k := res.1) (ch := res.2.1) (ps := res.2.2) h
  have key : dT D o r b' id = some (.one res.1 res.2.1 res.2.2) ∧ res.2.1 = [] := by
   unfold dT at h1 ⊢
   simp only [ho] at h1 ⊢
   split at h1
   ·split at h1
    ·rename_i hk
     rw [if_pos hk]
     split at h1
     ·rename_i l y hl hy
      rw [M8 hb hl, hy]
      exact ⟨h1, by injection h1 with h1; injection h1 with _ h2 _; exact h2.symm⟩
     ·cases h1
    ·cases h1
   ·cases h1
  rw [key.1]
  exact ⟨rfl, key.2⟩
 ·rename_i h3
  cases hv : c6 D o r b id with
  | some q =>
   rw [hv] at h
   have e := Option.some.inj h
   subst e
   have := K2 o r hc b b' hb id q hv
   rw [this.1]
   exact ⟨rfl, this.2⟩
  | none =>
   rw [hv] at h
   simp only at h
   split at h
   ·rename_i hd
    have h1 := ma (k := res.1) (ch := res.2.1) (ps := res.2.2) h
    rcases Ay hd with ⟨e, x, ho⟩ | ⟨e, p, ho⟩ | ⟨t, x, ho⟩ | ⟨t, x, v, ho⟩ | ⟨c, h4⟩
    ·unfold dO dq at hc; simp only [ho] at hc; split at hc <;> cases hc
    ·unfold dO dq at hc; simp only [ho] at hc; cases hc
    ·obtain ⟨e1, e2, e3⟩ := NJ ho hb h1
     have hdr : cy o = false := by unfold cy; rw [ho]
     rw [nm hdr, e1]
     simp only [hd, if_true, e2]
     exact ⟨rfl, e3⟩
    ·unfold dO dq at hc; simp only [ho] at hc; cases hc
    ·rw [h3] at h4; cases h4
   ·cases h
theorem Pa {o : Oper} {e : TypeId} {x : Operand} (ho : o.op = .box e x) (hno : eX D o = false) {r : Operand → K} {b : Nat → BS} {id : Nat} {k : K} {ch : Chg} {ps : List Prop} (h : dT D o r b id = some (.one k ch ps)) :
    (∀ b', dp D o r b' id = none) ∧ (∀ b', aX b' id = true → dT D o r b' id = some (.one k ch ps)) ∧ aX b id = true ∧ ∃ y, ch = [(id, y)] := by
  unfold dT at h ⊢
  unfold dp
  simp only [ho] at h ⊢
  split at h
  · rename_i bd bd' c ht hx
    split at h
    · rename_i eb
      split at h
      · rename_i hf
        rw [Bool.and_eq_true] at hf
        rw [ht, hx]
        simp only [eb, if_true]
        refine ⟨fun b' => rfl, fun b' hf' => ?_, hf.1, ?_⟩
        · rw [hf', hf.2]; exact h
        · injection h with h; injection h with _ h2 _; exact ⟨_, h2.symm⟩
      · cases h
    · cases h
  · split at h
    · rename_i hf
      exfalso
      simp only [Bool.and_eq_true] at hf
      have h1 := hf.1.1.1
      unfold oB at h1
      unfold eX at hno
      rw [ho] at hno
      cases hd : o.dst with
      | none => rw [hd] at h1; cases h1
      | some d =>
        rw [hd] at h1 hno
        have h2 : D.own.contains d = true := h1
        have h3 : D.own.contains d = false := hno
        rw [h2] at h3
        cases h3
    · cases h
  · cases h
theorem NE {o : Oper} {r : Operand → K} (hc : cls D o = 2) {b : Nat → BS} {id : Nat} {res : K × Chg × List Prop} (h : gw D o r b id = some res) :
    aX b id = true ∧ (∃ x, res.2.1 = [(id, x)]) ∧ ∀ b', aX b' id = true → gw D o r b' id = some res := by
  have hn := Be o hc (by decide)
  rw [oH hn] at h
  simp only [oH hn]
  rw [wV hn] at hc
  split at hc
  · rename_i c h3
    rw [zW h3] at h
    simp only [zW h3]
    obtain ⟨t, q, ho⟩ := IB h3 hc
    cases q with
    | some q => have hd : dL o = false := by unfold dL; rw [ho]
                simp only [hd] at h; cases h
    | none =>
      have hd : dL o = true := by unfold dL; rw [ho]
      simp only [hd, if_true] at h ⊢
      have h1 := ma (k := res.1) (ch := res.2.1) (ps := res.2.2) h
      unfold dT at h1
      simp only [ho] at h1
      split at h1
      · rename_i k v ht
        split at h1
        · rename_i hf
          refine ⟨hf, ?_, fun b' hf' => ?_⟩
          · injection h1 with h1; injection h1 with _ h2 _; exact ⟨_, h2.symm⟩
          · have : dT D o r b' id = some (.one res.1 res.2.1 res.2.2) := by
              unfold dT
              simp only [ho, ht, hf', if_true]
              exact h1
            rw [this]; rfl
        · cases h1
      · cases h1
  · rename_i h3
    cases hv : c6 D o r b id with
    | some q =>
      rw [hv] at h
      have e := Option.some.inj h
      subst e
      obtain ⟨a1, a2⟩ := Mp o r hc b id q hv
      exact ⟨a1, a2, fun b' hf' => by rw [LW o r hc b id q hv b' hf']⟩
    | none =>
      rw [hv] at h
      simp only at h
      split at h
      · rename_i hd
        have h1 := ma (k := res.1) (ch := res.2.1) (ps := res.2.2) h
        rcases Ay hd with ⟨e, x, ho⟩ | ⟨e, p, ho⟩ | ⟨t, x, ho⟩ | ⟨t, x, v, ho⟩ | ⟨c, h4⟩
        · obtain ⟨e1, e2, e3, e4⟩ := Pa ho hn h1
          have hdr : cy o = false := by unfold cy; rw [ho]
          refine ⟨e3, e4, fun b' hf' => ?_⟩
          rw [nm hdr, e1 b']
          simp only [hd, if_true, e2 b' hf']
          rfl
        · unfold dO dq at hc; simp only [ho] at hc; cases hc
        · unfold dO dq at hc; simp only [ho] at hc; cases hc
        · unfold dO dq at hc; simp only [ho] at hc; cases hc
        · rw [h3] at h4; cases h4
      · cases h
theorem Dl (o : Oper) (r : Operand → K) (hc : cls D o = 2) (b : Nat → BS) (id : Nat) (res : K × Chg × List Prop) (h : gw D o r b id = some res) : aX b id = true ∧ ∃ x, res.2.1 = [(id, x)] := ⟨(NE hc h).1, (NE hc h).2.1⟩
theorem Bz (o : Oper) (r : Operand → K) (hc : cls D o = 2) (b : Nat → BS) (id : Nat) (res : K × Chg × List Prop) (h : gw D o r b id = some res) (b' : Nat → BS) (hf' : aX b' id = true) : gw D o r b' id = some res := (NE hc h).2.2 b' hf'
theorem pM {o : Oper} {c x y : Operand} (h : o.op = .pick c x y) : cls D o = 0 := by
 have h1 : eX D o = false := by
  unfold eX
  rw [h]
  cases o.dst <;> rfl
 have h2 : lR o = none := by unfold lR; rw [h]
 rw [wV h1, h2]
 unfold dO
 simp only [h]
 unfold dq
 simp only [h]
theorem r9 {o : Oper} (hc : cls D o = 0) {s : Nat → K} {b b' : Nat → BS} {lim : Nat} {res : K × Chg × List Prop} (h : db D ops o s b lim = some res) : db D ops o s b' lim = some res ∧ res.2.1 = [] := by
 unfold db at h ⊢
 split at h
 ·rename_i hd
  rw [if_pos hd]
  split at h
  ·cases h
  ·split at h
   ·split at h
    ·have e := Option.some.inj h; subst e; exact ⟨rfl, rfl⟩
    ·cases h
   ·cases h
   ·split at h
    ·rename_i k ch ps hv
     have hv' := BI o _ hc b b' _ _ hv
     have e := Option.some.inj h
     subst e
     rw [hv'.1]
     exact ⟨rfl, hv'.2⟩
    ·cases h
  ·split at h
   ·cases h
   ·rename_i hne
    rw [if_neg hne]
    split at h
    ·cases h
    ·split at h
     ·refine ⟨h, ?_⟩
      split at h
      ·have e := Option.some.inj h; subst e; rfl
      ·cases h
     ·cases h
     ·split at h
      ·rename_i k ps hv
       have hv' := BI o _ hc b b' _ _ hv
       have e := Option.some.inj h
       subst e
       rw [hv'.1]
       exact ⟨rfl, rfl⟩
      ·cases h
 ·cases h
theorem yc {o : Oper} (hc : cls D o = 1) {s : Nat → K} {b b' : Nat → BS} (hb : ∀ i y, ao b i = some y → ao b' i = some y) {lim : Nat} {res : K × Chg × List Prop} (h : db D ops o s b lim = some res) : db D ops o s b' lim = some res ∧ res.2.1 = [] := by
 unfold db at h ⊢
 split at h
 ·rename_i hd
  rw [if_pos hd]
  split at h
  ·cases h
  ·split at h
   ·rename_i ho; rw [pM ho] at hc; cases hc
   ·cases h
   ·split at h
    ·rename_i k ch ps hv
     have hv' := BU o _ hc b b' hb _ _ hv
     have e := Option.some.inj h
     subst e
     rw [hv'.1]
     exact ⟨rfl, hv'.2⟩
    ·cases h
  ·split at h
   ·cases h
   ·rename_i hne
    rw [if_neg hne]
    split at h
    ·cases h
    ·split at h
     ·rename_i ho; rw [pM ho] at hc; cases hc
     ·cases h
     ·split at h
      ·rename_i k ps hv
       have hv' := BU o _ hc b b' hb _ _ hv
       have e := Option.some.inj h
       subst e
       rw [hv'.1]
       exact ⟨rfl, rfl⟩
      ·cases h
 ·cases h
theorem zi {o : Oper} (hc : cls D o = 2) {s : Nat → K} {b : Nat → BS} {lim : Nat} {res : K × Chg × List Prop} (h : db D ops o s b lim = some res) :
    aX b (lim + o.dst.getD 0) = true ∧ ∃ x, res.2.1 = [(lim + o.dst.getD 0, x)] := by
  unfold db at h
  split at h
  · split at h
    · cases h
    · split at h
      · rename_i ho; rw [pM ho] at hc; cases hc
      · cases h
      · split at h
        · rename_i k ch ps hv
          obtain ⟨h1, h2⟩ := Dl o _ hc b _ _ hv
          have e := Option.some.inj h
          subst e
          exact ⟨h1, h2⟩
        · cases h
    · split at h
      · cases h
      · split at h
        · cases h
        · split at h
          · rename_i ho; rw [pM ho] at hc; cases hc
          · cases h
          · split at h
            · rename_i k ps hv
              obtain ⟨h1, ⟨x, h2⟩⟩ := Dl o _ hc b _ _ hv
              cases h2
            · cases h
  · cases h
theorem Db {o : Oper} (hc : cls D o = 2) {s : Nat → K} {b b' : Nat → BS} {lim : Nat} {res : K × Chg × List Prop} (h : db D ops o s b lim = some res) (hf : aX b' (lim + o.dst.getD 0) = true) : db D ops o s b' lim = some res := by
 unfold db at h ⊢
 split at h
 ·rename_i hd
  rw [if_pos hd]
  split at h
  ·cases h
  ·split at h
   ·rename_i ho; rw [pM ho] at hc; cases hc
   ·cases h
   ·split at h
    ·rename_i k ch ps hv
     have hv' := Bz o _ hc b _ _ hv b' hf
     rw [hv']
     exact h
    ·cases h
  ·split at h
   ·cases h
   ·rename_i hne
    rw [if_neg hne]
    split at h
    ·cases h
    ·split at h
     ·rename_i ho; rw [pM ho] at hc; cases hc
     ·cases h
     ·split at h
      ·rename_i k ps hv
       have hv' := Bz o _ hc b _ _ hv b' hf
       rw [hv']
       exact h
      ·cases h
 ·cases h
theorem HK {o : Oper} (h : cls D o = 2) : ∃ d, o.dst = some d := by
 cases hd : o.dst with
 | some d => exact ⟨d, rfl⟩
 | none =>
  exfalso
  have hn := Be o h (by decide)
  rw [wV hn] at h
  split at h
  ·rename_i c h3
   obtain ⟨t, q, ho⟩ := IB h3 h
   unfold lR at h3
   rw [ho, hd] at h3
   cases h3
   cases h
  rcases yf h with ⟨_, h⟩ | ⟨_, _, _, _, _, _, _, h, _⟩
  case inr => rw [hd] at h; cases h
  unfold dq at h
  cases ho : o.op <;> simp [ho, hd] at h
  rename_i c
  cases hc : c.callee with
  | builtin b => cases b <;> simp [hc] at h
  | value q => simp [hc] at h
  | invoke q m => simp [hc] at h
theorem F3 {b : Nat → BS} {i j : Nat} {x : BS} (hne : j ≠ i) : aX (aG b [(i, x)]) j = aX b j := by
 show aX (fun n => if n = i then x else b n) j = _
 unfold aX
 simp [hne]
theorem I6 {oj oi : Oper} (hap : oj.apart ops oi = true) (hcp : qB D oj oi = true) {env e1 e2 : Env} {pj pi : List Prop} (hj : vop D ops oj env = some (e1, pj)) (hi : vop D ops oi e1 = some (e2, pi)) :
    ∃ e1', vop D ops oi env = some (e1', pi) ∧ vop D ops oj e1' = some (e2, pj) := by
  obtain ⟨a1, a2, a3⟩ := Oper.apart_spec hap
  unfold vop at hj
  split at hj
  · rename_i kj chj psj hcj
    have ej := Option.some.inj hj
    injection ej with ej1 ej2
    subst ej1; subst ej2
    unfold vop at hi
    split at hi
    · rename_i ki chi psi hci
      have ei := Option.some.inj hi
      injection ei with ei1 ei2
      subst ei1; subst ei2
      simp only at hci
      have hci' : db D ops oi env.s (aG env.b chj) env.lim = some (ki, chi, psi) := by rw [← hci]; exact (u6 (fun x hx => a1 x hx)).symm
      have hs := Ij (s := env.s) (d := oj.dst) (e := oi.dst) (k := kj) (l := ki) (fun x hx => a2 x hx) (fun x hx => uw hcj x (a3 x hx)) (fun x hx => uw hci' x (a1 x hx))
      have fin : ∀ (hi0 : db D ops oi env.s env.b env.lim = some (ki, chi, psi)) (hj0 : db D ops oj env.s (aG env.b chi) env.lim = some (kj, chj, psj)) (hb : aG (aG env.b chj) chi = aG (aG env.b chi) chj),
          ∃ e1', vop D ops oi env = some (e1', psi) ∧ vop D ops oj e1' = some ({ s := put (put env.s oj.dst kj) oi.dst ki, b := aG (aG env.b chj) chi, lim := env.lim }, psj) := by
        intro hi0 hj0 hb
        refine ⟨{ s := put env.s oi.dst ki, b := aG env.b chi, lim := env.lim }, by unfold vop; rw [hi0], ?_⟩
        have hj1 : db D ops oj (put env.s oi.dst ki) (aG env.b chi) env.lim = some (kj, chj, psj) := by rw [u6 (fun x hx => a3 x hx)]; exact hj0
        unfold vop
        simp only [hj1]
        rw [hs, hb]
      simp only [qB, Bool.or_eq_true, Bool.and_eq_true, beq_iff_eq] at hcp
      rcases hcp with ((h0 | h0) | ⟨h1, h2⟩) | ⟨h1, h2⟩
      · have e := (r9 h0 (b' := env.b) hcj).2
        have e : chj = [] := e
        subst e
        exact fin hci' (r9 h0 hcj).1 rfl
      · have e := (r9 h0 (b' := env.b) hci').2
        have e : chi = [] := e
        subst e
        exact fin (r9 h0 hci').1 hcj rfl
      · have e := (yc h1 (b' := env.b) (fun _ _ h => h) hcj).2
        have e : chj = [] := e
        subst e
        rcases h2 with h2 | h2
        · have e := (yc h2 (b' := env.b) (fun _ _ h => h) hci').2
          have e : chi = [] := e
          subst e
          exact fin hci' hcj rfl
        · obtain ⟨f1, ⟨x, f2⟩⟩ := zi h2 hci'
          have f2 : chi = [(env.lim + oi.dst.getD 0, x)] := f2
          subst f2
          exact fin hci' (yc h1 (fun i y hy => JO f1 hy) hcj).1 rfl
      · obtain ⟨f1, ⟨x, f2⟩⟩ := zi h1 hcj
        have f2 : chj = [(env.lim + oj.dst.getD 0, x)] := f2
        subst f2
        obtain ⟨g1, ⟨y, g2⟩⟩ := zi h2 hci'
        have g2 : chi = [(env.lim + oi.dst.getD 0, y)] := g2
        subst g2
        obtain ⟨dj, hdj⟩ := HK h1
        obtain ⟨di, hdi⟩ := HK h2
        have hne : env.lim + oi.dst.getD 0 ≠ env.lim + oj.dst.getD 0 := by
          have := a2 dj hdj
          rw [hdi] at this
          rw [hdi, hdj]
          simp only [Option.getD_some]
          intro h
          exact this (by rw [Nat.add_left_cancel h])
        rw [F3 hne] at g1
        have g4 := Db (b' := env.b) h2 hci' g1
        refine fin g4 (Db h1 hcj (by rw [F3 (Ne.symm hne)]; exact f1)) ?_
        funext n
        show (if n = _ then y else if n = _ then x else env.b n) = (if n = _ then x else if n = _ then y else env.b n)
        by_cases e1 : n = env.lim + oi.dst.getD 0
        · by_cases e2 : n = env.lim + oj.dst.getD 0
          · exact absurd (e1.symm.trans e2) hne
          · rw [if_pos e1, if_neg e2, if_pos e1]
        · by_cases e2 : n = env.lim + oj.dst.getD 0
          · rw [if_neg e1, if_pos e2, if_pos e2]
          · rw [if_neg e1, if_neg e2, if_neg e2, if_neg e1]
    · cases hi
  · cases hj
end
end Go.Proofs.Ytimdnodkabnbfaa
namespace Go.Proofs.Ytimdnodkabnbfaa
open Go Go.RowKit
section
variable {P : Program} {D : aK} {c0 : Cx} {ops : Array Oper}
theorem Al : ∀ (l : List Oper) (i : Nat) (env : Env), (∀ j, j < l.length → l[j]? = ops[i + j]?) → f7 D ops (List.range' i l.length) env = Fw D ops l env
 | [], i, env, _ => rfl
 | o :: l, i, env, hl => by
  have h0 : ops[i]? = some o := by have := hl 0 (by simp); simpa using this.symm
  rw [List.length_cons, List.range'_succ]
  simp only [f7, Fw, h0]
  cases vop D ops o env with
  | none => rfl
  | some q =>
   obtain ⟨env', ps⟩ := q
   simp only
   rw [Al l (i + 1) env' (fun j hj => by have := hl (j + 1) (by simpa using hj); simpa [Nat.add_assoc, Nat.add_comm 1 j] using this)]
theorem rY {i : Nat} {oi : Oper} (hi : ops[i]? = some oi) : ∀ (pre post : List Nat) (env envF : Env) (ps : List Prop), (∀ j ∈ pre, ∀ oj, ops[j]? = some oj → oj.apart ops oi = true ∧ qB D oj oi = true) → f7 D ops (pre ++ i :: post) env = some (envF, ps) →
    ∃ env1 p1 p2, vop D ops oi env = some (env1, p1) ∧ f7 D ops (pre ++ post) env1 = some (envF, p2) ∧ ∀ p, p ∈ p1 ++ p2 → p ∈ ps
  | [], post, env, envF, ps, _, h => by
    simp only [List.nil_append, f7, hi] at h
    split at h
    · cases h
    · rename_i env1 p1 h1
      split at h
      · cases h
      · rename_i env2 p2 h2
        have e := Option.some.inj h
        injection e with e1 e2
        subst e1; subst e2
        exact ⟨env1, p1, p2, h1, by simpa using h2, fun p hp => hp⟩
  | j :: pre, post, env, envF, ps, hall, h => by
    simp only [List.cons_append, f7] at h ⊢
    cases hj : ops[j]? with
    | none =>
      simp only [hj] at h ⊢
      exact rY hi pre post env envF ps (fun k hk => hall k (List.mem_cons_of_mem _ hk)) h
    | some oj =>
      simp only [hj] at h ⊢
      split at h
      · cases h
      · rename_i envj pj h1
        split at h
        · cases h
        · rename_i envk pk h2
          have e := Option.some.inj h
          injection e with e1 e2
          subst e1; subst e2
          obtain ⟨env1, p1, p2, g1, g2, g3⟩ := rY hi pre post envj envk pk (fun k hk => hall k (List.mem_cons_of_mem _ hk)) h2
          obtain ⟨hap, hcp⟩ := hall j (List.mem_cons_self ..) oj hj
          obtain ⟨env1', c1, c2⟩ := I6 hap hcp h1 g1
          refine ⟨env1', p1, pj ++ p2, c1, ?_, fun p hp => ?_⟩
          · simp only [c2, g2]
          · rw [List.mem_append] at hp ⊢
            rcases hp with hp | hp
            · exact .inr (g3 p (List.mem_append_left _ hp))
            · rcases List.mem_append.1 hp with hp | hp
              · exact .inl hp
              · exact .inr (g3 p (List.mem_append_right _ hp))
def aU (listed : Array Bool) (ord : List Nat) : List Nat := ord.filter fun i => !listed.getD i true
theorem mG : ∀ {l : List Nat}, fV l = true → l.Nodup
 | [], _ => List.nodup_nil
 | x :: l, h => by
  simp only [fV, Bool.and_eq_true, Bool.not_eq_true'] at h
  refine List.nodup_cons.2 ⟨fun hm => ?_, mG h.2⟩
  have : l.contains x = true := List.contains_iff_mem.2 hm
  rw [h.1] at this; cases this
theorem ua {listed : Array Bool} {ord a b : List Nat} {i : Nat} (ho : ord = a ++ i :: b) (hn : ord.Nodup) (hi : i < listed.size) (hu : listed.getD i true = false) :
    aU listed ord = aU listed a ++ i :: aU listed b ∧ aU (listed.setIfInBounds i true) ord = aU listed a ++ aU listed b := by
  subst ho
  have hna : i ∉ a := fun h => by
    have := (List.nodup_append.1 hn).2.2 i h i (List.mem_cons_self ..)
    exact this rfl
  have hnb : i ∉ b := (List.nodup_cons.1 (List.nodup_append.1 hn).2.1).1
  have hself : (listed.setIfInBounds i true).getD i true = true := by simp [Array.getD_eq_getD_getElem?, hi]
  refine ⟨?_, ?_⟩
  · unfold aU
    rw [List.filter_append, List.filter_cons, if_pos (by simp [hu])]
  · unfold aU
    rw [List.filter_append, List.filter_cons, if_neg (by simp [hself])]
    congr 1
    · apply List.filter_congr
      intro j hj
      have : j ≠ i := fun e => hna (e ▸ hj)
      rw [getD_set_ne true (Ne.symm this)]
    · apply List.filter_congr
      intro j hj
      have : j ≠ i := fun e => hnb (e ▸ hj)
      rw [getD_set_ne true (Ne.symm this)]
theorem oq {o : Oper} {d : Nat} : d ∈ kf o ↔ ∃ e ∈ o.after, Region.binds .any e = true ∧ e.on = d := by
 unfold kf
 simp [List.mem_map, List.mem_filter, and_assoc]
theorem xE : ∀ {l : List Nat} {x : Nat}, x ∈ tU l → x ∈ l
 | [], _, h => h
 | y :: l, x, h => by
  unfold tU at h
  split at h
  ·exact List.mem_cons_of_mem _ (xE h)
  ·rcases List.mem_cons.1 h with rfl | h
   ·exact List.mem_cons_self ..
   ·exact List.mem_cons_of_mem _ (xE h)
def LZ (ops : Array Oper) (anc : List (Nat × List Nat)) : Prop := ∀ i l, anc.lookup i = some l → ∀ j ∈ l, ∀ L : Nat → Prop, (∀ k o, ops[k]? = some o → L k → ∀ d ∈ kf o, L d) → (∀ o, ops[i]? = some o → ∀ d ∈ kf o, L d) → L j
theorem uB {ops : Array Oper} : ∀ (ord : List Nat) (acc : List (Nat × List Nat)), LZ ops acc → LZ ops (sM ops ord acc)
 | [], acc, h => h
 | i :: ord, acc, h => by
  refine uB ord _ fun k l hl j hj L hL hr => ?_
  rw [List.lookup_cons] at hl
  split at hl
  ·rename_i e
   have e : k = i := by simpa using e
   subst e
   have e' := Option.some.inj hl
   subst e'
   unfold L4 at hj
   cases ho : ops[k]? with
   | none => rw [ho] at hj; cases hj
   | some o =>
    rw [ho] at hj
    have hj := xE hj
    rcases List.mem_append.1 hj with hj | hj
    ·exact hr o ho j hj
    ·obtain ⟨d, hd, hj⟩ := List.mem_flatMap.1 hj
     cases hld : acc.lookup d with
     | none => rw [hld] at hj; cases hj
     | some l' =>
      rw [hld] at hj
      exact h d l' hld j hj L hL fun o' ho' d' hd' => hL d o' ho' (hr o ho d hd) d' hd'
  ·exact h k l hl j hj L hL hr
theorem iH {anc : List (Nat × List Nat)} : ∀ (a : List Nat) {pre b : List Nat} {i : Nat} {oi : Oper}, nO D ops anc pre (a ++ i :: b) = true → ops[i]? = some oi →
    (∀ d ∈ kf oi, d ∈ a ∨ d ∈ pre) ∧ ∀ j, j ∈ a ∨ j ∈ pre → (∃ l, anc.lookup i = some l ∧ j ∈ l) ∨ ∀ oj, ops[j]? = some oj → oj.apart ops oi = true ∧ qB D oj oi = true
  | [], pre, b, i, oi, h, hi => by
    simp only [List.nil_append, nO, hi, Bool.and_eq_true] at h
    obtain ⟨⟨h1, h2⟩, _⟩ := h
    refine ⟨fun d hd => .inr (List.contains_iff_mem.1 (List.all_eq_true.1 h1 d hd)), fun j hj => ?_⟩
    have hj := hj.resolve_left (by simp)
    have h3 := List.all_eq_true.1 h2 j hj
    rw [Bool.or_eq_true] at h3
    rcases h3 with h3 | h3
    · right
      intro oj hoj
      simp only [hoj, Bool.and_eq_true] at h3
      exact ⟨h3.2, h3.1⟩
    · left
      have h3 := List.contains_iff_mem.1 h3
      cases hl : anc.lookup i with
      | none => rw [hl] at h3; cases h3
      | some l => rw [hl] at h3; exact ⟨l, rfl, h3⟩
  | x :: a, pre, b, i, oi, h, hi => by
    simp only [List.cons_append, nO, Bool.and_eq_true] at h
    obtain ⟨g1, g2⟩ := iH a h.2 hi
    refine ⟨fun d hd => ?_, fun j hj => g2 j ?_⟩
    · rcases g1 d hd with h | h
      · exact .inl (List.mem_cons_of_mem _ h)
      · rcases List.mem_cons.1 h with rfl | h
        · exact .inl (List.mem_cons_self ..)
        · exact .inr h
    · rcases hj with h | h
      · rcases List.mem_cons.1 h with rfl | h
        · exact .inr (List.mem_cons_self ..)
        · exact .inl h
      · exact .inr (List.mem_cons_of_mem _ h)
def I0 (ops : Array Oper) (listed : Array Bool) : Prop := ∀ k o, ops[k]? = some o → listed.getD k true = true → ∀ d ∈ kf o, listed.getD d true = true
theorem Gg (hD : cQ P D) (hh : dX D = true) {ord : List Nat} (hR : so D ops ord = true) (Q : Exit → Act → World → Prop) : ∀ (fuel : Nat) (listed : Array Bool) (env envF : Env) (ps : List Prop) (a : Act) (w : World),
    listed.size = ops.size → I0 ops listed → (aU listed ord).length = fuel → f7 D ops (aU listed ord) env = some (envF, ps) → (∀ p ∈ ps, p) → Sim P D c0 env a w → (∀ a' w', Sim P D c0 envF a' w' → Q .normal a' w') → wpAny P .any ops Q fuel listed a w
  | fuel, listed, env, envF, ps, a, w, hs, hcl, hl, h, hp, hS, hQ => by
    have hR' := hR
    unfold so at hR'
    simp only [Bool.and_eq_true] at hR'
    obtain ⟨⟨⟨hR1, hR2⟩, hR3⟩, hR4⟩ := hR'
    have hnd := mG hR1
    have hall : ∀ i ∈ ord, i < ops.size := fun i hi => of_decide_eq_true (List.all_eq_true.1 hR2 i hi)
    have hin : ∀ i, i < ops.size → i ∈ ord := fun i hi => List.contains_iff_mem.1 (List.all_eq_true.1 hR3 i (List.mem_range.2 hi))
    have hanc := uB (ops := ops) ord [] (fun i l h => by cases h)
    have done : Region.ready .any ops listed = [] → aU listed ord = [] := by
      intro hr
      cases hu : aU listed ord with
      | nil => rfl
      | cons i l =>
        exfalso
        obtain ⟨l1, l2, e1, e2, e3, _⟩ := List.filter_eq_cons_iff.1 hu
        have hmem : i ∈ ord := by rw [e1]; simp
        have hlt := hall i hmem
        have hoi : ops[i]? = some ops[i] := Array.getElem?_eq_getElem hlt
        have hready : i ∈ Region.ready .any ops listed := by
          refine mem_ready.2 ⟨by simpa using e3, ops[i], hoi, fun e he hb => ?_⟩
          have hd := (iH l1 (e1 ▸ hR4) hoi).1 e.on (oq.2 ⟨e, he, hb, rfl⟩)
          have hd := hd.resolve_right (by simp)
          have := e2 e.on hd
          have hlt2 := hall e.on (by rw [e1]; exact List.mem_append_left _ hd)
          have : listed.getD e.on true = true := by simpa using this
          rw [Array.getD_eq_getD_getElem?] at this ⊢
          rw [Array.getElem?_eq_getElem (by omega)] at this ⊢
          simpa using this
        rw [hr] at hready
        cases hready
    have final : aU listed ord = [] → Q .normal a w := by
      intro hu
      rw [hu] at h
      have e := Option.some.inj h
      injection e with e1 e2
      subst e1
      exact hQ a w hS
    match fuel, hl with
    | 0, hl =>
      have hu : aU listed ord = [] := List.eq_nil_of_length_eq_zero hl
      refine ⟨?_, final hu⟩
      cases hr : Region.ready .any ops listed with
      | nil => rfl
      | cons i l =>
        exfalso
        have hi : i ∈ Region.ready .any ops listed := by rw [hr]; exact List.mem_cons_self ..
        obtain ⟨h1, oi, hoi, _⟩ := mem_ready.1 hi
        have hlt : i < ops.size := (Array.getElem?_eq_some_iff.1 hoi).1
        have : i ∈ aU listed ord := List.mem_filter.2 ⟨hin i hlt, by simp [h1]⟩
        rw [hu] at this
        cases this
    | fuel + 1, hl =>
      refine ⟨fun hr => final (done hr), fun i hi => ?_⟩
      obtain ⟨h1, oi, hoi, hdep⟩ := mem_ready.1 hi
      have hlt : i < ops.size := (Array.getElem?_eq_some_iff.1 hoi).1
      obtain ⟨pa, pb, ho⟩ := List.append_of_mem (hin i hlt)
      obtain ⟨e1, e2⟩ := ua ho hnd (by omega) h1
      have hdir : ∀ d ∈ kf oi, listed.getD d true = true := by
        intro d hd
        obtain ⟨e, he, hb, rfl⟩ := oq.1 hd
        have hlt2 := hall e.on (by
          rw [ho]
          rcases (iH pa (ho ▸ hR4) hoi).1 e.on hd with h | h
          · exact List.mem_append_left _ h
          · cases h)
        have := hdep e he hb
        rw [Array.getD_eq_getD_getElem?] at this ⊢
        rw [Array.getElem?_eq_getElem (by omega)] at this ⊢
        simpa using this
      rw [e1] at h
      have hfree : ∀ j ∈ aU listed pa, ∀ oj, ops[j]? = some oj → oj.apart ops oi = true ∧ qB D oj oi = true := by
        intro j hj oj hoj
        obtain ⟨hj1, hj2⟩ := List.mem_filter.1 hj
        rcases (iH pa (ho ▸ hR4) hoi).2 j (.inl hj1) with ⟨l, hl1, hl2⟩ | hh
        · exfalso
          have := hanc i l (by rw [ho]; exact hl1) j hl2 (fun k => listed.getD k true = true) (fun k o hk hLk d hd => hcl k o hk hLk d hd) (fun o ho' d hd => by
            rw [hoi] at ho'
            have := Option.some.inj ho'
            subst this
            exact hdir d hd)
          have this : listed.getD j true = true := this
          rw [this] at hj2
          cases hj2
        · exact hh oj hoj
      obtain ⟨env1, p1, p2, g1, g2, g3⟩ := rY hoi (aU listed pa) (aU listed pb) env envF ps hfree h
      refine wpOp_mono (fun a1 w1 hS1 => ?_) (qA hD hh g1 (fun p hp' => hp p (g3 p (List.mem_append_left _ hp'))) hS hoi Q)
      refine Gg hD hh hR Q fuel (listed.setIfInBounds i true) env1 envF p2 a1 w1 (by simp [hs]) (fun k o hk hLk d hd => ?_) ?_ (by rw [e2]; exact g2) (fun p hp' => hp p (g3 p (List.mem_append_right _ hp'))) hS1 hQ
      · have hset : ∀ d, listed.getD d true = true → (listed.setIfInBounds i true).getD d true = true := by
          intro d hd
          by_cases e : d = i
          · subst e; simp [Array.getD_eq_getD_getElem?, hs, hlt]
          · rw [getD_set_ne true (Ne.symm e)]; exact hd
        by_cases e : k = i
        · subst e
          rw [hoi] at hk
          have := Option.some.inj hk
          subst this
          exact hset d (hdir d hd)
        · rw [getD_set_ne true (Ne.symm e)] at hLk
          exact hset d (hcl k o hk hLk d hd)
      · rw [e2]
        rw [e1] at hl
        simp only [List.length_append, List.length_cons] at hl ⊢
        omega
theorem Ew (hD : cQ P D) (hh : dX D = true) {ord : List Nat} (hok : so D ops ord = true) {Q : Exit → Act → World → Prop} {env env' : Env} {ps : List Prop} (h : f7 D ops ord env = some (env', ps)) (hp : ∀ p ∈ ps, p) {a : Act} {w : World} (hS : Sim P D c0 env a w)
    (hQ : ∀ a' w', Sim P D c0 env' a' w' → Q .normal a' w') : wpAny P .any ops Q ops.size (Array.replicate ops.size false) a { w with drawn := w.drawn + 1 } := by
  have hall : ∀ i ∈ ord, i < ops.size := by
    unfold so at hok
    simp only [Bool.and_eq_true] at hok
    exact fun i hi => of_decide_eq_true (List.all_eq_true.1 hok.1.1.2 i hi)
  have hlen : ord.length = ops.size := by
    have h0 := hok
    unfold so at h0
    simp only [Bool.and_eq_true] at h0
    have hp := (List.perm_ext_iff_of_nodup (mG h0.1.1.1) (List.nodup_range (n := ops.size))).2 fun i => ⟨fun hi => List.mem_range.2 (hall i hi), fun hi => List.contains_iff_mem.1 (List.all_eq_true.1 h0.1.2 i hi)⟩
    rw [hp.length_eq, List.length_range]
  have hu : aU (Array.replicate ops.size false) ord = ord := by
    unfold aU
    rw [List.filter_eq_self.2 (fun i hi => ?_)]
    have := hall i hi
    simp [this]
  have hS' : Sim P D c0 env a { w with drawn := w.drawn + 1 } := by
    obtain ⟨⟨G, e1, e2, e4, e5, e6⟩, f1, f2, f3⟩ := hS
    obtain ⟨hM, hE⟩ := e4.kept_on (Kept.drew w)
    exact ⟨⟨G, e1, e2.ext hE, hM, e5.lat hE.lat, fun n => (e6 n).ext hE⟩, f1, f2, f3⟩
  refine Gg hD hh hok Q ops.size (Array.replicate ops.size false) env env' ps a _ (by simp) (fun k o hk hLk => ?_) (by rw [hu]; exact hlen) (by rw [hu]; exact h) hp hS' hQ
  have hlt : k < ops.size := (Array.getElem?_eq_some_iff.1 hk).1
  simp [hlt] at hLk
theorem Iy (hD : cQ P D) (hh : dX D = true) {id : Nat} {draw : Bool} {ord : List Nat} (hR : A0 D draw ops = some ord) {Q : Exit → Act → World → Prop} {env env' : Env} {ps : List Prop} (h : f7 D ops ord env = some (env', ps)) (hp : ∀ p ∈ ps, p) {a : Act} {w : World} (hS : Sim P D c0 env a w)
    (hQ : ∀ a' w', Sim P D c0 env' a' w' → Q .normal a' w') : (Code.region id ops draw).wp P Q a w := by
  cases draw with
  | false =>
    have hR : some (List.range ops.size) = some ord := hR
    have hR := Option.some.inj hR
    subst hR
    rw [← Array.length_toList, List.range_eq_range', Al ops.toList 0 env (fun j _ => by simp)] at h
    refine wp_region ?_
    rw [List.range_eq_range']
    have := Ez (c0 := c0) hD hh Q ops.toList 0 env env' ps a w (fun j => by simp) h hp hS hQ
    rwa [Array.length_toList] at this
  | true =>
    have hok : so D ops ord = true := by
      unfold A0 at hR
      rw [if_pos rfl] at hR
      split at hR
      · rename_i hk; have := Option.some.inj hR; subst this; exact hk
      · split at hR
        · rename_i hk; have := Option.some.inj hR; subst this; exact hk
        · cases hR
    exact wp_region_any hD.mixed (Ew hD hh hok h hp hS hQ)
end
end Go.Proofs.Ytimdnodkabnbfaa
namespace Go.Proofs.Ytimdnodkabnbfaa
open Go Go.RowKit
section
variable {P : Program} {D : aK} {O : Nat → Prop} {w0 : World} {c0 : Cx} {fn : Func} {rs : Ty}
def iA (P : Program) (D : aK) (O : Nat → Prop) (w0 : World) (fn : Func) (R : Ending → World → Prop) (todo : List Item) (env : Env) : Prop :=
 ∀ a w, Sim P D (Cx.base O w0) env a w → ∀ (b : Frame) (cs : List Frame), ∃ e a' w', bodyPost P fn R e a' w' ∧ Arrives P (lone (b.at a todo) cs w) b [] cs e a' w'
def cG (P : Program) (O : Nat → Prop) (w0 : World) (rs : Ty) (X : den rs → Prop) : Ending → World → Prop :=
 fun e w' => ∃ v x, e = .returned v ∧ Kept w0 w' ∧ Rep P rs .result O w' [v] x ∧ X x
def cj (P : Program) (D : aK) (O : Nat → Prop) (w0 : World) (fn : Func) (rs : Ty) (X : den rs → Prop) : a6 → Prop
 | .bad _ => False
 | .ret k => ∃ x, bt rs k = some x ∧ X x
 | .ite c t e => (c = true → cj P D O w0 fn rs X t) ∧ (c = false → cj P D O w0 fn rs X e)
 | .req p t => p ∧ cj P D O w0 fn rs X t
 | .loop todo s b => iA P D O w0 fn (cG P O w0 rs X) todo (Env.of s b)
variable {X : den rs → Prop} {R : Ending → World → Prop}
theorem xu {todo todo' : List Item} {env env' : Env} (h : ∀ a w, Sim P D (Cx.base O w0) env a w → ∀ (b : Frame) (cs : List Frame), ∃ a' w', Sim P D (Cx.base O w0) env' a' w' ∧ Steps P (lone (b.at a todo) cs w) (lone (b.at a' todo') cs w')) (hg : iA P D O w0 fn R todo' env') : iA P D O w0 fn R todo env := by
 intro a w hS b cs
 obtain ⟨a', w', hS', hst⟩ := h a w hS b cs
 obtain ⟨e, a'', w'', hq, harr⟩ := hg a' w' hS' b cs
 exact ⟨e, a'', w'', hq, .of_steps hst harr⟩
theorem HG : ∀ {c c' : K} {i : Nat} {k : K}, p9 c i k = some c' → Id c i = true := by
 intro c
 induction c with
 | kcons a b _ ihb =>
  intro c' i k h
  cases i with
  | zero => rfl
  | succ i =>
   have h : (match p9 b i k with | some b' => some (K.kcons a b') | none => none) = some c' := h
   split at h
   ·rename_i b' hb; exact ihb hb
   ·cases h
 | _ => intro c' i k h; cases i <;> cases h
theorem Iz : ∀ {c c' : K} {i : Nat} {q : K}, nog c = true → nog q = true → p9 c i q = some c' → nog c' = true := by
 intro c
 induction c with
 | kcons x y _ ihy =>
  intro c' i q hc hq h
  simp only [nog, Bool.and_eq_true] at hc
  cases i with
  | zero => cases h; simp only [nog, hq, hc.2, Bool.and_self]
  | succ i =>
   have h : (match p9 y i q with | some b' => some (.kcons x b') | none => none) = some c' := h
   split at h
   ·rename_i b' hb'
    cases h
    simp only [nog, hc.1, ihy hc.2 hq hb', Bool.and_self]
   ·cases h
 | _ => intro c' i q _ _ h; cases i <;> cases h
theorem Lk {O : Nat → Prop} {w : World} {t : Ty} {v : Value} {x : den t} (h : aB P t O w v x) (hs : v.cells.size = siz t) (h1 : isAgg t = false → v.oneCell' = true) : Rep P t .cells O w v.cells.toList x := by
 obtain ⟨cs, rfl, hr⟩ := h
 have hl := hr.length
 cases ha : isAgg t with
 | true =>
  have : az t cs = .agg cs.toArray := by unfold az; rw [if_pos ha]
  rw [this]
  show Rep P t .cells O w cs.toArray.toList x
  simpa using hr
 | false =>
  have e : az t cs = cs.headD undef := by unfold az; rw [ha]; rfl
  have h1 := h1 ha
  rw [e] at hs h1 ⊢
  have hc : (cs.headD undef).cells = #[cs.headD undef] := by
   cases hv : cs.headD undef <;> first | rfl | (rw [hv] at h1; simp [Value.oneCell'] at h1)
  rw [hc] at hs ⊢
  have hs : siz t = 1 := hs.symm
  rw [hs] at hl
  match cs, hl with
  | [c], _ => exact hr
theorem O0 {G : Gst} {w : World} {tm : Nat → Value} : ∀ {b : Ty} {c : K} {vs : List Value} {x : den b}, KV P G w tm c (.tuple vs.toArray) → t6 b vs → KT b c = some x → Rep P b .cells G.av w (vs.flatMap fun u => u.cells.toList) x := by
 intro b
 induction b with
 | unit =>
  intro c vs x hk hl h
  have hl : vs = [] := hl
  subst hl
  exact rfl
 | pair a b _ ih =>
  intro c vs x hk hl h
  cases c with
  | kcons p q =>
   have h : (match bt a p, KT b q with | some u, some v => some (u, v) | _, _ => none) = some x := h
   split at h
   ·rename_i u v hu hv
    have h := Option.some.inj h
    subst h
    obtain ⟨v1, rest, rfl, l1, l2, l3, l4, l5⟩ := hl
    obtain ⟨y, ys, e, k1, k2⟩ := hk
    have e := List.cons.inj (List.toArray_inj (Value.tuple.inj e))
    obtain ⟨rfl, rfl⟩ := e
    have hr := Lk (cu k1 hu) l1 l4
    have hlen : v1.cells.toList.length = siz a := by rw [Array.length_toList]; exact l1
    refine ⟨?_, ?_⟩
    ·rw [List.flatMap_cons, List.take_left' hlen]; exact hr
    ·rw [List.flatMap_cons, List.drop_left' hlen]; exact ih k2 l5 hv
   ·cases h
  | _ => cases h
 | _ => intro c vs x _ hl _; exact hl.elim
theorem E4 {env : Env} {n : Nat} {b : Nat → BS} (h : xq env.b env.s n = some b) {a : Act} {w : World} (hS : Sim P D c0 env a w) : Sim P D c0 { env with b } a w := by
 obtain ⟨⟨G, hb, hC, hM, hgl, hs⟩, hfl, hsz, hdf⟩ := hS
 unfold xq at h
 split at h
 ·rename_i id base hn
  split at h
  ·rename_i t bd c hl
   rw [← hb] at hl
   have hbl := aq hl
   obtain ⟨g, arr, eid, v, b1, b2, b3, b4, b5, b6, b7, b8, b9, b10, b11⟩ := hM.box id _ hbl
   split at h
   ·split at h
    rename_i hbt
    subst hbt
    split at h
    ·rename_i x hx
     have hh := (Option.some.inj h).symm
     subst hh
     have hm := hM.turnO (w' := w) hbl b1 (x := .cell (.st bd) x) rfl (.refl w) rfl (Nat.le_refl _) (fun _ _ => rfl) (fun G' hE e2 e3 => by
      obtain ⟨vs, hc, hlen, rfl⟩ := b5
      have hr := O0 (hc.ext hE) hlen hx
      refine ⟨g, arr, eid, e3, by unfold Gst.nb; rw [hE.w0, hE.own]; exact b2, b3, ?_, ?_⟩
      ·rw [← b6]; exact hr
      ·rw [e2]; exact b11)
     refine ⟨⟨_, ?_, hC.ext hm.2, hm.1, hgl.lat hm.2.lat, fun m => (hs m).ext hm.2⟩, hfl, hsz, hdf⟩
     funext m
     simp only [Gst.turn, aG]
     rw [← hb]
    ·cases h
    ·cases h
   ·split at h
    ·rename_i j e0 hk
     split at h
     ·rename_i e xs hlj
      split at h
      ·rename_i c' hset
       have hh := (Option.some.inj h).symm
       subst hh
       rw [← hb] at hlj
       have hblj := aq hlj
       have hne : id ≠ j := fun e => by rw [e, hblj] at hbl; cases hbl
       obtain ⟨hM1, hE1⟩ := hM.drop j
       have hv := mq hM hblj
       have hbl1 : (G.drop j).b id = .live (.obj (.st t) (.agg bd c)) := by simp [Gst.drop, hne, hbl]
       have hbk1 : (G.drop j).bk id = some g := b1
       have hm := hM1.turnO (w' := w) hbl1 hbk1 (x := .obj (.st t) (.agg bd c')) rfl (.refl w) rfl (Nat.le_refl _) (fun _ _ => rfl) (fun G' hE e2 e3 => by
        obtain ⟨vs, hc, hlen, rfl⟩ := b5
        cases hvi : vs[n / 1000 - 1]? with
        | none => exact absurd (HG hset) (by rw [zk hc hvi]; simp)
        | some vi =>
         have hki := (Bh hc).1 vi hvi
         rw [hk] at hki
         obtain ⟨_, hki⟩ := hki
         have hsl : KV P G' w (fun _ => undef) (.val (.slc e) xs) vi := by
          rw [hki]
          exact aB.lat hE.lat hv
         have hc' := A2 (hc.ext (hE1.trans hE)) hsl hset
         have hvs : vs.set (n / 1000 - 1) vi = vs := by
          obtain ⟨hi, rfl⟩ := List.getElem?_eq_some_iff.1 hvi
          exact List.set_getElem_self hi
         rw [hvs] at hc'
         have hn' : nog c' = true := Iz (c := c) (show nog c = true from b4) rfl hset
         refine ⟨g, arr, eid, _, e3, by unfold Gst.nb; rw [hE.w0, hE.own]; exact b2, b3, hn', ⟨vs, hc', hlen, rfl⟩, b6, b7, b8, b9, b10, ?_⟩
         rw [e2]
         exact b11)
       have hE := hE1.trans hm.2
       refine ⟨⟨_, ?_, hC.ext hE, hm.1, hgl.lat hE.lat, fun m => (hs m).ext hE⟩, hfl, hsz, hdf⟩
       funext m
       simp only [Gst.turn, Gst.drop, aG]
       rw [← hb]
      ·cases h
     ·cases h
    ·cases h
  ·cases h
 ·cases h
theorem uX {env : Env} {n : Nat} {s : Nat → K} {b : Nat → BS} (h : un env.b env.s n = some (s, b)) {a : Act} {w : World} (hS : Sim P D c0 env a w) : Sim P D c0 { env with s, b } a w := by
 unfold un at h
 split at h
 ·cases hf : xq env.b env.s n with
  | none => rw [hf] at h; cases h
  | some b' =>
   rw [hf] at h
   have hh := Option.some.inj h
   injection hh with h1 h2
   subst h1; subst h2
   exact E4 hf hS
 obtain ⟨⟨G, hb, hC, hM, hgl, hs⟩, hfl, hsz, hdf⟩ := hS
 split at h
 ·rename_i id e0 hn
  split at h
  ·rename_i e xs hl
   have hh := Option.some.inj h
   injection hh with h1 h2
   subst h1; subst h2
   rw [← hb] at hl
   have hbl := aq hl
   obtain ⟨hM', hE⟩ := hM.drop id
   have hv := mq hM hbl
   have hkn := hs n
   rw [hn] at hkn
   obtain ⟨_, hv'⟩ := hkn
   refine ⟨⟨G.drop id, ?_, hC.ext hE, hM', hgl.lat hE.lat, fun m => ?_⟩, gz (d := some n) (k := .val (.slc e) xs) hfl rfl, hsz, hdf⟩
   ·rw [← hb]; rfl
   ·show KV P (G.drop id) w (tmF a) (if m = n then .val (.slc e) xs else fF n (env.s m)) (tmF a m)
    by_cases e1 : m = n
    ·rw [if_pos e1, e1, hv']; exact hv
    ·rw [if_neg e1]
     exact ((hs m).ext hE).put_ne (fun _ _ => rfl) (hfl m)
  ·cases h
 ·rename_i id base hn
  split at h
  ·rename_i t x hl
   have hh := Option.some.inj h
   injection hh with h1 h2
   subst h1; subst h2
   rw [← hb] at hl
   have hbl := aq hl
   obtain ⟨hM', hE⟩ := hM.drop id
   have hkn := hs n
   rw [hn] at hkn
   obtain ⟨_, _, g, hg, hv'⟩ := hkn
   have hoff : aJ base [] = 0 := by cases base <;> rfl
   rw [hoff] at hv'
   obtain ⟨_, _, _, _, _, _, _, ho0⟩ := hM.box id _ hbl
   rw [ho0] at hv'
   have hv := Gf hM hbl hg
   refine ⟨⟨G.drop id, ?_, hC.ext hE, hM', hgl.lat hE.lat, fun m => ?_⟩, gz (d := some n) (k := .ref t x) hfl rfl, hsz, hdf⟩
   ·rw [← hb]; rfl
   ·show KV P (G.drop id) w (tmF a) (if m = n then .ref t x else fF n (env.s m)) (tmF a m)
    by_cases e1 : m = n
    ·rw [if_pos e1, e1, hv']; exact ⟨_, rfl, hv⟩
    ·rw [if_neg e1]
     exact ((hs m).ext hE).put_ne (fun _ _ => rfl) (hfl m)
  ·cases h
 ·cases h
theorem oY : ∀ {l : List Nat} {env env' : Env}, oo l env = some env' → ∀ {a : Act} {w : World}, Sim P D c0 env a w → Sim P D c0 env' a w
 | [], env, env', h, a, w, hS => by
  have e := Option.some.inj h
  subst e
  exact hS
 | n :: l, env, env', h, a, w, hS => by
  simp only [oo] at h
  split at h
  ·rename_i s b h1
   exact oY h (uX h1 hS)
  ·cases h
theorem I7 {env env' : Env} {n : Nat} {e : Ty} (h : IW n e env = some env') {a : Act} {w : World} (hS : Sim P D c0 env a w) : Sim P D c0 env' a w := by
 obtain ⟨⟨G, hb, hC, hM, hgl, hs⟩, hfl, hsz, hdf⟩ := hS
 unfold IW at h
 split at h
 ·rename_i hn
  split at h
  ·rename_i hf
   have hh := (Option.some.inj h).symm
   subst hh
   rw [← hb] at hf
   obtain ⟨hM', hE⟩ := hM.swap (w' := w) (j := none) (id := n) (h := .slice none 0 0) (g := none) (x := .row e []) (gj := none) (bP hf) (fun i hi => by cases hi) (fun _ => rfl) rfl (.refl w) rfl (Nat.le_refl _) (fun _ _ _ => rfl) (.inl rfl)
    (fun G' hl h1 h2 => .inl ⟨rfl, h2, none, h1⟩)
   have hkn := hs n
   rw [hn] at hkn
   have hkn : tmF a n = .slice none 0 0 := hkn
   refine ⟨⟨G.swap none n (.slice none 0 0) none (.row e []), ?_, hC.ext hE, hM', hgl.lat hE.lat, fun m => ?_⟩, gz (d := some n) (k := .sl n e) hfl rfl, hsz, hdf⟩
   ·show (G.swap none n (.slice none 0 0) none (.row e [])).b = aG env.b [(n, .live (.row e []))]
    rw [← hb]
    funext m
    simp [Gst.swap, aG]
   ·show KV P _ w (tmF a) (if m = n then .sl n e else fF n (env.s m)) (tmF a m)
    by_cases e1 : m = n
    ·rw [if_pos e1, e1, hkn]
     exact ⟨⟨.row e [], .inl (by simp [Gst.swap])⟩, by simp [Gst.swap]⟩
    ·rw [if_neg e1]
     exact ((hs m).ext hE).put_ne (fun _ _ => rfl) (hfl m)
  ·cases h
 ·rename_i id e' hn
  have hh := (Option.some.inj h).symm
  subst hh
  refine ⟨⟨G, hb, hC, hM, hgl, fun m => ?_⟩, gz (d := some n) (k := .sl id e') hfl rfl, hsz, hdf⟩
  show KV P G w (tmF a) (if m = n then .sl id e' else fF n (env.s m)) (tmF a m)
  by_cases e1 : m = n
  ·rw [if_pos e1, e1, ← hn]; exact hs n
  ·rw [if_neg e1]
   exact (hs m).put_ne (fun _ _ => rfl) (hfl m)
 ·cases h
theorem EB {env : Env} {n : Nat} {k : K} {a : Act} {w : World} (hS : Sim P D c0 env a w) (hk : ∀ {G : Gst} {v : Value}, KV P G w (tmF a) (env.s n) v → KV P G w (tmF a) k v) (hfl : Go.Proofs.Ytimdnodkabnbfaa.flat k = true) : Sim P D c0 { env with s := put env.s (some n) k } a w := by
 obtain ⟨⟨G, hb, hC, hM, hgl, hs⟩, hf, hsz, hdf⟩ := hS
 refine ⟨⟨G, hb, hC, hM, hgl, fun m => ?_⟩, gz (d := some n) (k := k) hf hfl, hsz, hdf⟩
 show KV P G w (tmF a) (if m = n then k else fF n (env.s m)) (tmF a m)
 by_cases e1 : m = n
 ·rw [if_pos e1, e1]; exact hk (hs n)
 ·rw [if_neg e1]
  exact (hs m).put_ne (fun _ _ => rfl) (hf m)
theorem Ih {env env' : Env} {n : Nat} {e : Ty} (h : Ii n e env = some env') {a : Act} {w : World} (hS : Sim P D c0 env a w) : Sim P D c0 env' a w := by
 unfold Ii at h
 split at h
 ·rename_i hn
  have hh := (Option.some.inj h).symm
  subst hh
  refine EB hS (fun {G v} hk => ?_) rfl
  rw [hn] at hk
  have hk : v = .slice none 0 0 := hk
  rw [hk]
  exact ⟨_, rfl, none, 0, [], rfl, Nat.le_refl _, by decide, by simp, rfl, fun h => absurd rfl h, fun _ => rfl⟩
 ·rename_i t x hn
  have hh := (Option.some.inj h).symm
  subst hh
  exact EB hS (fun {G v} hk => by rw [hn] at hk; exact hk) rfl
 ·rename_i e' xs hn
  have hh := (Option.some.inj h).symm
  subst hh
  exact EB hS (fun {G v} hk => by rw [hn] at hk; exact hk.1) rfl
 ·rename_i id e' hn
  split at h
  ·rename_i s b h1
   have hh := (Option.some.inj h).symm
   subst hh
   exact uX h1 hS
  ·cases h
 ·cases h
theorem HF {env env' : Env} {n i : Nat} {e : Ty} (h : I1 n i e env = some env') {a : Act} {w : World} (hS : Sim P D c0 env a w) : Sim P D c0 env' a w := by
 have hS0 := hS
 obtain ⟨⟨G, hb, hC, hM, hgl, hs⟩, hfl, hsz, hdf⟩ := hS
 unfold I1 at h
 split at h
 ·rename_i id base hn
  split at h
  ·rename_i t b c hl
   split at h
   ·rename_i hk
    split at h
    ·rename_i hf
     split at h
     ·rename_i c' hset
      have hh := (Option.some.inj h).symm
      subst hh
      rw [← hb] at hf hl
      have hbl := aq hl
      obtain ⟨g, arr, eid, v, b1, b2, b3, b4, b5, b6, b7, b8, b9, b10, b11⟩ := hM.box id _ hbl
      have hne : id ≠ 700 + n := fun e => by rw [e] at hbl; rw [bP hf] at hbl; cases hbl
      obtain ⟨hM1, hE1⟩ := hM.swap (w' := w) (j := none) (id := 700 + n) (h := .slice none 0 0) (g := none) (x := .row e []) (gj := none) (bP hf) (fun i hi => by cases hi) (fun _ => rfl) rfl (.refl w) rfl (Nat.le_refl _) (fun _ _ _ => rfl) (.inl rfl)
       (fun G' hl h1 h2 => .inl ⟨rfl, h2, none, h1⟩)
      have hbl1 : (G.swap none (700 + n) (.slice none 0 0) none (.row e [])).b id = .live (.obj t (.agg b c)) := by simp [Gst.swap, hne, hbl]
      have hbk1 : (G.swap none (700 + n) (.slice none 0 0) none (.row e [])).bk id = some g := by simp [Gst.swap, hne, b1]
      have hm := hM1.turnO (w' := w) hbl1 hbk1 (x := .obj t (.agg b c')) rfl (.refl w) rfl (Nat.le_refl _) (fun _ _ => rfl) (fun G' hE e2 e3 => by
       obtain ⟨vs, hc, hlen, rfl⟩ := b5
       cases hv : vs[i]? with
       | none => exact absurd (HG hset) (by rw [zk hc hv]; simp)
       | some vi =>
        have hvi := (Bh hc).1 vi hv
        rw [hk] at hvi
        have hvi : vi = .slice none 0 0 := hvi
        have hold := hE.hd (700 + n) (by simp [Gst.swap])
        have hsl : KV P G' w (fun _ => undef) (.sl (700 + n) e) vi := ⟨mD hold.2.2, by rw [hold.1, hvi]; simp [Gst.swap]⟩
        have hc' := A2 (hc.ext (hE1.trans hE)) hsl hset
        have hvs : vs.set i vi = vs := by
         obtain ⟨hi, rfl⟩ := List.getElem?_eq_some_iff.1 hv
         exact List.set_getElem_self hi
        rw [hvs] at hc'
        have hn' : nog c' = true := Iz (c := c) (show nog c = true from b4) rfl hset
        refine ⟨g, arr, eid, _, e3, by unfold Gst.nb; rw [hE.w0, hE.own]; exact b2, b3, hn', ⟨vs, hc', hlen, rfl⟩, b6, b7, b8, b9, b10, ?_⟩
        rw [e2]
        simpa [Gst.swap, hne] using b11)
      have hE := hE1.trans hm.2
      refine ⟨⟨_, ?_, hC.ext hE, hm.1, hgl.lat hE.lat, fun m => (hs m).ext hE⟩, hfl, hsz, hdf⟩
      funext m
      simp only [Gst.turn, Gst.swap, aG]
      rw [← hb]
      by_cases e1 : m = id
      ·simp [e1]
      ·by_cases e2 : m = 700 + n
       ·simp [e2]
       ·simp [e1, e2]
     ·cases h
    ·cases h
   ·cases h; exact hS0
   ·cases h
  ·cases h
 ·cases h
theorem EF {env env' : Env} {n : Nat} {e : Ty} (h : CM n e env = some env') {a : Act} {w : World} (hS : Sim P D c0 env a w) : Sim P D c0 env' a w := by
 unfold CM at h
 split at h
 ·exact Ih h hS
 ·exact HF h hS
 ·exact I7 h hS
theorem sX : ∀ {l : List (Nat × Ty)} {env env' : Env}, zR l env = some env' → ∀ {a : Act} {w : World}, Sim P D c0 env a w → Sim P D c0 env' a w
 | [], env, env', h, a, w, hS => by
  have e := Option.some.inj h
  subst e
  exact hS
 | (n, e) :: l, env, env', h, a, w, hS => by
  simp only [zR] at h
  split at h
  ·rename_i env1 h1
   exact sX h (EF h1 hS)
  ·cases h
def inv (σ : List (Nat × Nat)) (j : Nat) : Option Nat := (σ.map fun q => (q.2, q.1)).lookup j
theorem nx : ∀ {σ : List (Nat × Nat)} {i j : Nat}, fV (σ.map (·.2)) = true → σ.lookup i = some j → inv σ j = some i
  | [], i, j, _, h => by cases h
  | (i0, j0) :: σ, i, j, hn, h => by
    simp only [List.map_cons, fV, Bool.and_eq_true, Bool.not_eq_true'] at hn
    rw [List.lookup_cons] at h
    unfold inv
    rw [List.map_cons, List.lookup_cons]
    split at h
    · rename_i e
      have e : i = i0 := by simpa using e
      have e' : j0 = j := by simpa using h
      subst e; subst e'
      simp
    · have hj : j ∈ σ.map (·.2) := by
        have := iY h
        exact List.mem_map.2 ⟨(i, j), this, rfl⟩
      have hne : (j == j0) = false := by
        cases hq : j == j0 with
        | false => rfl
        | true =>
          have e : j = j0 := by simpa using hq
          subst e
          rw [List.contains_iff_mem.2 hj] at hn
          cases hn.1
      rw [hne]
      exact nx hn.2 h
theorem zA {b : Nat → BS} : ∀ {σ : List (Nat × Nat)} {bs : List (Nat × Bx)}, p7 b σ = some bs → ∀ {j : Nat} {x : Bx}, bs.lookup j = some x → ∃ i, inv σ j = some i ∧ b i = .live x ∧ Fg x = true
 | [], bs, h, j, x, hl => by
  have e := Option.some.inj h
  subst e
  cases hl
 | (i0, j0) :: σ, bs, h, j, x, hl => by
  simp only [p7] at h
  split at h
  ·rename_i y r hy hr
   split at h
   ·rename_i hp
    have e := (Option.some.inj h).symm
    subst e
    rw [List.lookup_cons] at hl
    unfold inv
    rw [List.map_cons, List.lookup_cons]
    split at hl
    ·rename_i e
     rw [e]
     have e' : y = x := by simpa using hl
     exact ⟨i0, rfl, by rw [aq hy, e'], by rw [← e']; exact hp⟩
    ·rename_i e
     have e : (j == j0) = false := by simpa using e
     rw [e]
     exact zA hr hl
   ·cases h
  ·cases h
theorem tp {b : Nat → BS} : ∀ {σ : List (Nat × Nat)} {bs : List (Nat × Bx)}, p7 b σ = some bs → ∀ {i j : Nat}, (i, j) ∈ σ → ∃ x, bs.lookup j = some x
 | [], bs, h, i, j, hm => by cases hm
 | (i0, j0) :: σ, bs, h, i, j, hm => by
  simp only [p7] at h
  split at h
  ·rename_i y r hy hr
   split at h
   ·have e := (Option.some.inj h).symm
    subst e
    rw [List.lookup_cons]
    split
    ·exact ⟨y, rfl⟩
    ·rename_i hne
     rcases List.mem_cons.1 hm with hm | hm
     ·injection hm with _ e2
      subst e2
      simp at hne
     ·exact tp hr hm
   ·cases h
  ·cases h
theorem AV {σ : List (Nat × Nat)} {i j : Nat} (h : inv σ j = some i) : (i, j) ∈ σ := by
 have := iY h
 obtain ⟨q, hq, e⟩ := List.mem_map.1 this
 injection e with e1 e2
 obtain ⟨x, y⟩ := q
 simp only at e1 e2
 rw [← e1, ← e2]
 exact hq
theorem AH : ∀ {σ : List (Nat × Nat)} {i j j' : Nat}, fV (σ.map (·.1)) = true → (i, j) ∈ σ → (i, j') ∈ σ → j = j'
 | (i0, j0) :: σ, i, j, j', hn, h1, h2 => by
  simp only [List.map_cons, fV, Bool.and_eq_true, Bool.not_eq_true'] at hn
  have key : ∀ k, (i0, k) ∈ σ → False := fun k hk => by
   have : i0 ∈ σ.map (·.1) := List.mem_map.2 ⟨_, hk, rfl⟩
   rw [List.contains_iff_mem.2 this] at hn
   cases hn.1
  rcases List.mem_cons.1 h1 with h1 | h1 <;> rcases List.mem_cons.1 h2 with h2 | h2
  ·injection h1 with _ e1; injection h2 with _ e2; rw [e1, e2]
  ·injection h1 with e1 _; rw [e1] at h2; exact (key _ h2).elim
  ·injection h2 with e2 _; rw [e2] at h1; exact (key _ h1).elim
  ·exact AH hn.2 h1 h2
theorem Kf {env : Env} {keep : List Nat} {σ : List (Nat × Nat)} {bs : List (Nat × Bx)} (hn1 : fV (σ.map (·.1)) = true) (hn2 : fV (σ.map (·.2)) = true) (hbs : p7 env.b σ = some bs) {a : Act} {w : World} (hS : Sim P D (Cx.base O w0) env a w) :
    Sim P D (Cx.base O w0) (Env.of (keep.map fun n => (n, Cr σ (env.s n))) bs) a w := by
  obtain ⟨⟨G, hb, hC, hM, hgl, hs⟩, hfl, hsz, hdf⟩ := hS
  let G' : Gst := { hd := fun j => match inv σ j with | some i => G.hd i | none => undef, bk := fun j => match inv σ j with | some i => G.bk i | none => none, b := ofB bs, O := G.O, w0 := G.w0, own := G.own }
  have hd' : ∀ j i, inv σ j = some i → G'.hd j = G.hd i ∧ G'.bk j = G.bk i := fun j i h => by
    show (match inv σ j with | some i => G.hd i | none => undef) = _ ∧ (match inv σ j with | some i => G.bk i | none => none) = _
    rw [h]
    exact ⟨rfl, rfl⟩
  have live : ∀ j x, G'.b j = .live x → ∃ i, inv σ j = some i ∧ G.b i = .live x ∧ Fg x = true := by
    intro j x h
    have h : ofB bs j = .live x := h
    unfold ofB at h
    split at h
    · rename_i y hy
      have e : y = x := by injection h
      subst e
      rw [hb]
      exact zA hbs hy
    · cases h
  have hav : ∀ g, G'.av g → G.av g := by
    rintro g (h | ⟨j, x, h1, h2⟩)
    · exact .inl h
    · obtain ⟨i, hi, hx, _⟩ := live j x h1
      rw [(hd' j i hi).2] at h2
      exact .inr ⟨i, x, hx, h2⟩
  have hl : Lat G.av w G'.av w := ⟨Nat.le_refl _, fun g _ hg => ⟨rfl, fun h => hg (hav g h)⟩⟩
  have hM' : MemOk P G' w := by
    refine ⟨hM.kept, hM.old, hM.dis, fun j x h => ?_, fun j j' x y g h h' k k' => ?_, fun j x g h k => ?_⟩
    rotate_right
    · obtain ⟨i, hi, hx, _⟩ := live j x h
      rw [(hd' j i hi).2] at k
      exact hM.boxO i x g hx k
    · obtain ⟨i, hi, hx, hpl⟩ := live j x h
      have hbx := hM.box i x hx
      obtain ⟨e1, e2⟩ := hd' j i hi
      cases x with
      | cell t y =>
        obtain ⟨g, arr, eid, q1, q2, q3, q4, q5⟩ := hbx
        exact ⟨g, arr, eid, by rw [e2]; exact q1, q2, q3, q4.lat hl, by rw [e1]; exact q5⟩
      | row e xs =>
        rcases hbx with ⟨q0, q1, a0, q2⟩ | ⟨g, arr, eid, off, sp, q1, q2, q3, q4, q5, q6, q8⟩
        · exact .inl ⟨q0, by rw [e2]; exact q1, a0, by rw [e1]; exact q2⟩
        · exact .inr ⟨g, arr, eid, off, sp, by rw [e2]; exact q1, by rw [e1]; exact q2, q3, q4, q5, q6, q8.imp fun _ _ r => r.lat hl⟩
      | _ => cases hpl
    · obtain ⟨i, hi, hx, _⟩ := live j x h
      obtain ⟨i', hi', hx', _⟩ := live j' y h'
      rw [(hd' j i hi).2] at k
      rw [(hd' j' i' hi').2] at k'
      have e := hM.sep i i' x y g hx hx' k k'
      subst e
      exact AH hn1 (AV hi) (AV hi')
  have kv : ∀ k v, KV P G w (tmF a) k v → KV P G' w (tmF a) (Cr σ k) v := by
    intro k v hk
    cases k with
    | any => trivial
    | nilsl => exact hk
    | val t x => exact aB.lat hl hk
    | clip e xs => exact ⟨aB.lat hl hk.1, hk.2⟩
    | grd s c cs k => trivial
    | opt cs k => trivial
    | tup t x => trivial
    | ref t x => obtain ⟨ad, e, hr⟩ := hk; exact ⟨ad, e, hr.lat hl⟩
    | ptr id base p =>
      show KV P G' w _ (match σ.lookup id with | some j => .ptr j base p | none => .any) v
      split
      · rename_i j hj
        obtain ⟨_, hp, g, hg, e⟩ := hk
        have hi := nx hn2 hj
        obtain ⟨x, hx⟩ := tp hbs (iY hj)
        refine ⟨⟨x, .inl ?_⟩, hp, g, by rw [(hd' j id hi).2]; exact hg, by rw [(hd' j id hi).1]; exact e⟩
        show ofB bs j = _
        unfold ofB
        rw [hx]
      · trivial
    | sl id e =>
      show KV P G' w _ (match σ.lookup id with | some j => .sl j e | none => .any) v
      split
      · rename_i j hj
        obtain ⟨_, e'⟩ := hk
        have hi := nx hn2 hj
        obtain ⟨x, hx⟩ := tp hbs (iY hj)
        refine ⟨⟨x, .inl ?_⟩, by rw [(hd' j id hi).1]; exact e'⟩
        show ofB bs j = _
        unfold ofB
        rw [hx]
      · trivial
    | fnc f => exact hk
    | _ => trivial
  have hlook : ∀ n, ofS (keep.map fun n => (n, Cr σ (env.s n))) n = Cr σ (env.s n) ∨ ofS (keep.map fun n => (n, Cr σ (env.s n))) n = .any := by
    intro n
    unfold ofS
    split
    · rename_i k hk
      obtain ⟨m, _, e⟩ := List.mem_map.1 (iY hk)
      injection e with e1 e2
      subst e1
      exact .inl e2.symm
    · exact .inr rfl
  have hflr : ∀ k, flat (Cr σ k) = true := by
    intro k
    cases k with
    | ptr id base p =>
      show flat (match σ.lookup id with | some j => .ptr j base p | none => .any) = true
      split <;> rfl
    | sl id e =>
      show flat (match σ.lookup id with | some j => .sl j e | none => .any) = true
      split <;> rfl
    | _ => rfl
  refine ⟨⟨G', rfl, ⟨hC.O, hC.w0, hC.own, trivial⟩, hM', hgl.lat hl, fun n => ?_⟩, fun n => ?_, hsz, hdf⟩
  · show KV P G' w _ (ofS _ n) _
    rcases hlook n with h | h <;> rw [h]
    · exact kv _ _ (hs n)
    · trivial
  · show flat (ofS _ n) = true
    rcases hlook n with h | h <;> rw [h]
    · exact hflr _
    · rfl
def l7 (a : Act) : ResultVar → Sem Value
 | .tmp t => pure (a.tmps.getD t undef)
 | .cell q t => do loadVar t (← asAddr (a.tmps.getD q undef))
theorem kg (fn : Func) (a : Act) : results fn a.tmps = (do
    let vs ← fn.results.mapM (l7 a)
    pure (if h : vs.size = 1 then vs[0] else .tuple vs)) := by
  unfold results
  congr 1
theorem If (hD : cQ P D) {env : Env} {a : Act} {w : World} (hS : Sim P D (Cx.base O w0) env a w) {r : ResultVar} {k : K} (h : DZ env r = some k) (ht : ∀ t ty, r = .cell t ty → ∃ u x, k = .val u x ∧ D.ty ty = some u) :
    ∃ v, (l7 a r).run P w = Result.ok v w ∧ ∀ t y, bt t k = some y → aB P t O w v y := by
  obtain ⟨⟨G, hb, hC, hM, hgl, hs⟩, _, _, _⟩ := hS
  have hO : ∀ g, O g → G.O g := hC.O.1
  have less : Lat G.av w O w := qt hO w
  cases r with
  | tmp t =>
    refine ⟨tmF a t, rfl, fun u y hy => ?_⟩
    have hk := hs t
    simp only [DZ] at h
    split at h
    · rename_i u' x e
      have e' := (Option.some.inj h).symm
      subst e'
      rw [e] at hk
      exact (cu hk hy).lat less
    · rename_i e' xs e
      have e'' := (Option.some.inj h).symm
      subst e''
      rw [e] at hk
      obtain ⟨ee, rfl⟩ := iV hy
      subst ee
      exact aB.lat less hk.1
    · rename_i e
      have e'' := (Option.some.inj h).symm
      subst e''
      rw [e] at hk
      exact (cu hk hy).lat less
    · rename_i b0 e
      have e'' := (Option.some.inj h).symm
      subst e''
      rw [e] at hk
      have hk' : KV P G w (tmF a) (.val .bool b0) (tmF a t) := bA.2 hk
      exact (cu hk' hy).lat less
    · rename_i f0 k0 e
      have e'' := (Option.some.inj h).symm
      subst e''
      rw [e] at hk
      exact (cu hk hy).lat less
    · rename_i id e0 e
      rw [e] at hk
      split at h
      · rename_i e' xs hl
        have e'' := (Option.some.inj h).symm
        subst e''
        obtain ⟨ee, rfl⟩ := iV hy
        subst ee
        rw [← hb] at hl
        have := mq hM (aq hl)
        rw [hk.2]
        exact aB.lat (qt (G := G.drop id) hO w) this
      · cases h
    · rename_i id e
      rw [e] at hk
      split at h
      · rename_i k' v' l hl
        have e'' := (Option.some.inj h).symm
        subst e''
        obtain ⟨ee, rfl⟩ := iV hy
        subst ee
        rw [← hb] at hl
        have := O7 hM (aq hl)
        obtain ⟨_, g, hg, ev⟩ := hk
        rw [ev]
        exact aB.lat (qt (G := G.drop id) hO w) (this g hg)
      · cases h
    · cases h
  | cell q ty =>
    have hk := hs q
    simp only [DZ] at h
    split at h
    · rename_i id base e
      rw [e] at hk
      split at h
      · rename_i u x hl
        have e'' := (Option.some.inj h).symm
        subst e''
        obtain ⟨u', x', ek, hty⟩ := ht q ty rfl
        injection ek with eu ex
        subst eu
        rw [← hb] at hl
        obtain ⟨_, _, g, hg, ev⟩ := hk
        obtain ⟨g', arr, eid, q1, q2, q3, q4, q5⟩ := hM.box id _ (aq hl)
        rw [hg] at q1
        cases q1
        have hoff : aJ base [] = 0 := by cases base <;> rfl
        have hload := qq (hD.fit hty) w ⟨g, 0, none⟩ arr.toList q4.length (fun j u hj => by
          rw [cS, Nat.zero_add, cell_of_row w g j arr eid (0, 0) q3]
          simpa using hj)
        refine ⟨az u arr.toList, ?_, fun t y hy => ?_⟩
        · have ev' : a.tmps.getD q undef = .pointer (some ⟨g, 0, none⟩) := by
            have ev : a.tmps.getD q undef = _ := ev
            rw [ev, q5, hoff]
          show (do loadVar ty (← asAddr (a.tmps.getD q undef)) : Sem Value).run P w = _
          simp only [ev', asAddr, Sem.run_bind, Sem.run_pure, Result.andThen_ok, hload]
        · obtain ⟨ee, rfl⟩ := iV hy
          subst ee
          exact ⟨arr.toList, rfl, q4.lat less⟩
      · cases h
    · cases h
theorem Ah (hD : cQ P D) {env : Env} {a : Act} {w : World} (hS : Sim P D (Cx.base O w0) env a w) : ∀ {l : List ResultVar} {ks : List K}, DK env l = some ks → Bc D l ks = true →
    ∃ vs : List Value, (l.mapM (l7 a)).run P w = Result.ok vs w ∧ vs.length = l.length ∧ ∀ (t : Ty) (x : den t), dE t ks = some x → Rep P t .chain O w vs x
  | [], ks, h, _ => by
    have e := (Option.some.inj h).symm
    subst e
    refine ⟨[], by simp, rfl, fun t x hx => ?_⟩
    cases t <;> first | rfl | cases hx
  | r :: l, ks, h, ht => by
    simp only [DK] at h
    split at h
    · rename_i k ks' h1 h2
      have e := (Option.some.inj h).symm
      subst e
      have ht1 : (∀ t ty, r = .cell t ty → ∃ u x, k = .val u x ∧ D.ty ty = some u) ∧ Bc D l ks' = true := by
        cases r with
        | tmp t => exact ⟨fun _ _ h => (by cases h), ht⟩
        | cell t ty =>
          cases k with
          | val u x =>
            simp only [Bc, Bool.and_eq_true, decide_eq_true_eq] at ht
            exact ⟨fun _ _ h => (by cases h; exact ⟨u, x, rfl, ht.1⟩), ht.2⟩
          | _ => cases ht
      obtain ⟨v, hv, hg⟩ := If hD hS h1 ht1.1
      obtain ⟨vs, hvs, hlen, hx⟩ := Ah hD hS h2 ht1.2
      refine ⟨v :: vs, ?_, by simp [hlen], fun t x hxx => ?_⟩
      · rw [List.mapM_cons]
        simp only [Sem.run_bind, hv, Result.andThen_ok, hvs, Sem.run_pure]
      · cases t with
        | pair p q =>
          have h' : (match bt p k, dE q ks' with | some x, some y => some (x, y) | _, _ => none) = some x := hxx
          split at h'
          · rename_i y1 y2 e1 e2
            have e := (Option.some.inj h').symm
            subst e
            obtain ⟨cs, ev, hr⟩ := hg p y1 e1
            exact ⟨vs, cs, by rw [ev], hr, hx q y2 e2⟩
          · cases h'
        | _ => cases hxx
    · cases h
theorem zZ (hD : cQ P D) {env : Env} (h : cj P D O w0 fn rs X (xV D rs fn env)) {a : Act} {w : World} (hS : Sim P D (Cx.base O w0) env a w) : a.defers = [] ∧ ∃ v, (results fn a.tmps).run P w = .ok v w ∧ cG P O w0 rs X (.returned v) w := by
  refine ⟨hS.defers, ?_⟩
  unfold xV at h
  split at h
  · rename_i ks hk
    split at h
    · rename_i hty
      split at h
      · rename_i x hx
        obtain ⟨y, hy, hX⟩ := h
        obtain ⟨ee, e2⟩ := iV hy
        have e2 : y = x := e2
        subst e2
        obtain ⟨vs, hvs, hlen, hch⟩ := Ah hD hS hk hty
        have hR := hch rs y hx
        obtain ⟨G, _, hC, hM, _⟩ := hS.ex
        have hw0 : G.w0 = w0 := hC.w0
        have hown : G.own = fun _ => False := hC.own
        have hm : (fn.results.mapM (l7 a)).run P w = Result.ok vs.toArray w := by
          rw [Array.mapM_eq_mapM_toList]
          simp only [Sem.run_map, hvs, Result.andThen_ok]
        have hkept : Kept w0 w := by
          rw [← hw0]
          have := hM.kept
          exact ⟨this.os, this.tape, this.output, this.size, fun b hb => this.block b hb (by rw [hown]; exact id)⟩
        cases rs with
        | unit =>
          have e : vs = [] := hR
          subst e
          refine ⟨.tuple #[], ?_, .tuple #[], y, rfl, hkept, rfl, hX⟩
          rw [kg]
          simp only [Sem.run_bind, hm, Result.andThen_ok]
          rfl
        | pair p q =>
          obtain ⟨rest, cs, e, h1, h2⟩ := hR
          subst e
          by_cases hq : q = .unit
          · subst hq
            have e : rest = [] := h2
            subst e
            refine ⟨az p cs, ?_, az p cs, y, rfl, hkept, ⟨[], cs, by simp, h1, h2⟩, hX⟩
            rw [kg]
            simp only [Sem.run_bind, hm, Result.andThen_ok]
            rfl
          · have hne : rest ≠ [] := by
              rintro rfl
              cases q <;> first | exact hq rfl | (obtain ⟨_, _, e, _⟩ := h2; cases e) | exact h2
            refine ⟨.tuple (az p cs :: rest).toArray, ?_, _, y, rfl, hkept, ⟨rest, cs, by rw [if_neg hq], h1, h2⟩, hX⟩
            rw [kg]
            have hs1 : ¬ (az p cs :: rest).toArray.size = 1 := by
              intro h
              simp at h
              exact hne h
            simp only [Sem.run_bind, hm, Result.andThen_ok, dif_neg hs1, Sem.run_pure]
        | _ => exact hR.elim
      · exact h.elim
    · exact h.elim
  · exact h.elim
theorem En {L : EC} {todo : List Item} {env : Env} (h : cj P D O w0 fn rs X (wA L todo env)) : iA P D O w0 fn (cG P O w0 rs X) todo env := by
 unfold wA at h
 split at h
 ·exact h.elim
 ·rename_i env1 h1
  simp only at h
  split at h
  ·rename_i hn
   simp only [Bool.and_eq_true] at hn
   split at h
   ·rename_i bs hbs
    intro a w hS b cs
    exact h a w (Kf hn.1 hn.2 hbs (sX h1 hS)) b cs
   ·exact h.elim
  ·exact h.elim
theorem FI : ∀ {ps : List Prop} {t : a6}, cj P D O w0 fn rs X (LN ps t) → (∀ p ∈ ps, p) ∧ cj P D O w0 fn rs X t
 | [], t, h => ⟨by simp, h⟩
 | p :: ps, t, h => by
  obtain ⟨h1, h2⟩ := h
  obtain ⟨h3, h4⟩ := FI h2
  refine ⟨fun q hq => ?_, h4⟩
  rcases List.mem_cons.1 hq with rfl | hq
  ·exact h1
  ·exact h3 q hq
end
end Go.Proofs.Ytimdnodkabnbfaa
namespace Go.Proofs.Ytimdnodkabnbfaa
open Go Go.RowKit
section
variable {P : Program} {D : aK} {O : Nat → Prop} {w0 : World} {fn : Func} {rs : Ty} {X : den rs → Prop} {R : Ending → World → Prop}
theorem lZ {todo todo' : List Item} {env : Env} (h : ∀ (a : Act) (w : World) (b : Frame) (cs : List Frame), step P (lone (b.at a todo) cs w) = .next (lone (b.at a todo') cs w)) (hg : iA P D O w0 fn R todo' env) : iA P D O w0 fn R todo env :=
 xu (fun a w hS b cs => ⟨a, w, hS, .one (h a w b cs)⟩) hg
theorem Nw (hD : cQ P D) {env : Env} (h : cj P D O w0 fn rs X (xV D rs fn env)) : iA P D O w0 fn (cG P O w0 rs X) [] env :=
 fun a w hS _ _ => ⟨.normal, a, w, zZ hD h hS, .refl _ _⟩
theorem N6 (hD : cQ P D) {env : Env} {k : List Item} (h : cj P D O w0 fn rs X (xV D rs fn env)) : iA P D O w0 fn (cG P O w0 rs X) (.code .ret :: k) env :=
 fun a w hS _ _ => ⟨.ret, a, w, zZ hD h hS, _, .one step_ret⟩
theorem Ko (hD : cQ P D) {env : Env} {x : Operand} {t : Bool} (h : uk (rd D env.s none x) = some t) {a : Act} {w : World} (hS : Sim P D (Cx.base O w0) env a w) : a.eval x = .bool t := by
 obtain ⟨⟨G, _, _, _, hgl, hs⟩, _⟩ := hS
 have := lw (a := a) (tm := tmF a) hD.toDOk hgl (g := none) (fun _ _ e => by cases e) hs (fun _ => rfl) x
 unfold uk at h
 split at h
 ·rename_i b e
  have e' := Option.some.inj h
  subst e'
  rw [e] at this
  obtain ⟨cs, e1, e2⟩ := this
  have e2 : cs = [.bool b] := e2
  rw [e1, e2]
  rfl
 ·cases h
theorem gW (hD : cQ P D) (hh : dX D = true) {A : Ann} : ∀ (n : Nat) (todo : List Item) (env : Env), cj P D O w0 fn rs X (gn D A rs fn n todo env) → iA P D O w0 fn (cG P O w0 rs X) todo env
 | 0, _, _, h => h.elim
 | n + 1, [], env, h => Nw hD h
 | n + 1, .code c :: k, env, h => by
  cases c with
  | skip => exact lZ (fun _ _ _ _ => step_skip) (gW hD hh n _ _ h)
  | region id ops draw =>
   have h : cj P D O w0 fn rs X (match A0 D draw ops with
    | none => .bad 12
    | some ord => match oo ((A.frz.lookup id).getD []) env with
     | none => .bad 6
     | some env => match f7 D ops ord env with
      | none => .bad (1000 + id)
      | some (env', ps) => LN ps (gn D A rs fn n k { env' with lim := env'.lim + 1000 })) := h
   split at h
   ·exact h.elim
   ·rename_i ord hR
    split at h
    ·exact h.elim
    ·rename_i env1 hf
     split at h
     ·exact h.elim
     ·rename_i env2 ps hv
      obtain ⟨hp, ht⟩ := FI h
      intro a w hS b cs
      obtain ⟨e, a', w', ⟨he, hS'⟩, harr⟩ := Iy (c0 := Cx.base O w0) (id := id) hD hh hR (Q := fun e a w => e = .normal ∧ Sim P D (Cx.base O w0) env2 a w) hv hp (oY hf hS) (fun _ _ h => ⟨rfl, h⟩) b k cs
      subst he
      obtain ⟨e, a'', w'', hq, h2⟩ := gW hD hh n _ _ ht a' w' ⟨hS'.ex, hS'.flat, hS'.size, hS'.defers⟩ b cs
      exact ⟨e, a'', w'', hq, .of_steps harr h2⟩
  | seq x y => exact lZ (fun _ _ _ _ => step_seq) (gW hD hh n _ _ h)
  | cond c x y =>
   have h : cj P D O w0 fn rs X (match uk (rd D env.s none c) with
    | some t => .ite t (gn D A rs fn n (.code x :: k) env) (gn D A rs fn n (.code y :: k) env)
    | none => .bad 7) := h
   split at h
   ·rename_i t ht
    cases t with
    | true => exact xu (fun a w hS b cs => ⟨a, w, hS, .one (step_cond (Ko hD ht hS))⟩) (gW hD hh n _ _ (h.1 rfl))
    | false => exact xu (fun a w hS b cs => ⟨a, w, hS, .one (step_cond (Ko hD ht hS))⟩) (gW hD hh n _ _ (h.2 rfl))
   ·exact h.elim
  | block id b => exact lZ (fun _ _ _ _ => step_block) (gW hD hh n _ _ h)
  | loop b =>
   have h : cj P D O w0 fn rs X (match (dc b).bind (fun i => List.lookup i A.loops) with
    | some L => wA L (.code b :: .inLoop b :: k) env
    | none => .bad 8) := h
   split at h
   ·exact lZ (fun _ _ _ _ => step_loop) (En h)
   ·exact h.elim
  | exit id =>
   have h : cj P D O w0 fn rs X (match exitTo id k with
    | some k' => gn D A rs fn n k' env
    | none => .bad 9) := h
   split at h
   ·rename_i k' hk
    exact lZ (fun _ _ _ _ => step_exit hk) (gW hD hh n _ _ h)
   ·exact h.elim
  | ret => exact N6 hD h
  | _ => exact h.elim
 | n + 1, .inBlock _ :: k, env, h => lZ (fun _ _ _ _ => step_inBlock) (gW hD hh n _ _ h)
 | n + 1, .inLoop b :: k, env, h => by
  have h : cj P D O w0 fn rs X (match (dc b).bind (fun i => List.lookup i A.loops) with
   | some L => wA L (.code b :: .inLoop b :: k) env
   | none => .bad 8) := h
  split at h
  ·exact lZ (fun _ _ _ _ => step_inLoop) (En h)
  ·exact h.elim
 | n + 1, .inScope _ :: _, _, h => h.elim
def asK : (t : Ty) → den t → K
 | .ref t, x => .ref t x
 | .clo f c, x => .clo f (kCh c x)
 | t, x => .val t x
theorem OV : ∀ (c : Ty) (x : den c), nog (kCh c x) = true := by
 intro c
 induction c with
 | pair a b _ ihb =>
  intro x
  show (nog (NP a x.1) && nog (kCh b x.2)) = true
  rw [ihb]
  cases a <;> rfl
 | _ => intro x; rfl
theorem N1 : ∀ (a : Ty) (x : den a), flat (asK a x) = true := by
 intro a x
 cases a with
 | clo f c => exact OV c x
 | _ => rfl
def aF : (t : Ty) → den t → Nat → List (Nat × K)
 | .pair a b, x, i => (i, asK a x.1) :: aF b x.2 (i + 1)
 | _, _, _ => []
theorem mm {w : World} : ∀ {t : Ty} {x : den t} {vs : List Value} (i : Nat), Rep P t .chain O w vs x → vs.length = lF t ∧ ∀ n k, (aF t x i).lookup n = some k → i ≤ n ∧ flat k = true ∧ ∃ t' y, k = asK t' y ∧ aB P t' O w (vs.getD (n - i) undef) y
 | .unit, x, vs, i, h => by
  have e : vs = [] := h
  subst e
  exact ⟨rfl, fun n k hl => by cases hl⟩
 | .pair a b, x, vs, i, h => by
  obtain ⟨rest, cs, e, h1, h2⟩ := h
  subst e
  obtain ⟨hl, hr⟩ := mm (i + 1) h2
  refine ⟨by simp [lF, hl], fun n k hk => ?_⟩
  have hk : List.lookup n ((i, asK a x.1) :: aF b x.2 (i + 1)) = some k := hk
  rw [List.lookup_cons] at hk
  split at hk
  ·rename_i hn
   have hn : n = i := by simpa using hn
   have e := (Option.some.inj hk).symm
   subst e; subst hn
   exact ⟨Nat.le_refl _, N1 a x.1, a, x.1, rfl, by simp only [Nat.sub_self]; exact ⟨cs, rfl, h1⟩⟩
  ·obtain ⟨q1, q2, t', y, q3, q4⟩ := hr n k hk
   refine ⟨by omega, q2, t', y, q3, ?_⟩
   rw [show n - i = (n - (i + 1)) + 1 by omega]
   exact q4
 | .int _, _, _, _, h => h.elim
 | .bool, _, _, _, h => h.elim
 | .str, _, _, _, h => h.elim
 | .st _, _, _, _, h => h.elim
 | .arr _ _, _, _, _, h => h.elim
 | .slc _, _, _, _, h => h.elim
 | .fn _ _, _, _, _, h => h.elim
 | .ref _, _, _, _, h => h.elim
 | .mp _ _, _, _, _, h => h.elim
 | .clo _ _, _, _, _, h => h.elim
def okT : (t : Ty) → den t → Prop
 | .int k, x => InK k x
 | .bool, _ => True
 | .str, x => x.size ≤ maxLen
 | .unit, _ => True
 | .pair a b, x => okT a x.1 ∧ okT b x.2
 | .st b, x => okT b x
 | .arr n e, xs => xs.length = n ∧ ∀ x ∈ xs, okT e x
 | .slc e, xs => xs.length ≤ maxLen ∧ ∀ x ∈ xs, okT e x
 | .fn _ _, _ => True
 | .ref t, x => okT t x
 | .mp k v, xs => ∀ x ∈ xs, okT k x.1 ∧ okT v x.2
 | .clo _ _, _ => True
theorem rN {α : Type} {R : List Value → α → Prop} {p : α → Prop} {n : Nat} (h : ∀ cs x, R cs x → p x) : ∀ {cs : List Value} {xs : List α}, RepAll R n cs xs → ∀ x ∈ xs, p x
 | _, [], _, x, hx => by cases hx
 | _, y :: xs, hr, x, hx => by
  rcases List.mem_cons.1 hx with e | e
  ·rw [e]; exact h _ _ hr.1
  ·exact rN h hr.2 x e
theorem Rep.okT {w : World} : ∀ {t : Ty} {cs : List Value} {x : den t}, Rep P t .cells O w cs x → okT t x := by
 intro t
 induction t with
 | int k => intro cs x h; exact h.2
 | bool => intro cs x h; trivial
 | str => intro cs x h; exact h.2
 | unit => intro cs x h; trivial
 | pair a b iha ihb => intro cs x h; exact ⟨iha h.1, ihb h.2⟩
 | st b ih => intro cs x h; exact ih h
 | arr n e ih => intro cs x h; exact ⟨h.1, rN (fun _ _ k => ih k) h.2⟩
 | slc e ih =>
  intro cs x h
  obtain ⟨a, c, L, _, h2, h3, _, h5, _⟩ := h
  exact ⟨Nat.le_trans h2 h3, rN (fun _ _ k => ih k) h5⟩
 | fn a r _ _ => intro cs x h; trivial
 | ref t ih =>
  intro cs x h
  obtain ⟨ad, L, _, _, _, _, hr⟩ := h
  exact ih hr
 | mp k v ihk ihv =>
  intro cs x h
  obtain ⟨r, _, h1, h2⟩ := h
  cases r with
  | none => rw [h1 rfl]; exact fun _ hx => by cases hx
  | some g =>
   obtain ⟨_, _, es, _, _, he⟩ := h2 g rfl
   have aux : ∀ (ms : List MapEntry) (xs : List (den k × den v)), fp (fun u z => ∃ cs, u = az k cs ∧ Rep P k .cells O w cs z) (fun u z => ∃ cs, u = az v cs ∧ Rep P v .cells O w cs z) ms xs → ∀ x ∈ xs, Go.Proofs.Ytimdnodkabnbfaa.okT k x.1 ∧ Go.Proofs.Ytimdnodkabnbfaa.okT v x.2 := by
    intro ms
    induction ms with
    | nil =>
     intro xs he x hx
     cases xs with
     | nil => cases hx
     | cons y ys => exact he.elim
    | cons m ms ih =>
     intro xs he x hx
     cases xs with
     | nil => exact he.elim
     | cons y ys =>
      obtain ⟨⟨_, _, r1⟩, ⟨_, _, r2⟩, h3⟩ := he
      rcases List.mem_cons.1 hx with e | e
      ·rw [e]; exact ⟨ihk r1, ihv r2⟩
      ·exact ih ys h3 x e
   exact aux es.toList x he.2
 | clo f c _ => intro cs x h; trivial
theorem ut {w : World} : ∀ {t : Ty} {vs : List Value} {x : den t}, Rep P t .chain O w vs x → Go.Proofs.Ytimdnodkabnbfaa.okT t x := by
 intro t
 induction t with
 | unit => intro vs x h; trivial
 | pair a b _ ihb =>
  intro vs x h
  obtain ⟨rest, cs, _, h1, h2⟩ := h
  exact ⟨h1.okT, ihb h2⟩
 | _ => intro vs x h; exact h.elim
theorem MC {G : Gst} {w : World} {tm : Nat → Value} {t : Ty} {x : den t} {v : Value} (h : aB P t G.av w v x) : KV P G w tm (asK t x) v := by
 cases t with
 | ref t =>
  obtain ⟨cs, e, ad, L, e1, h1⟩ := h
  subst e1
  exact ⟨ad, e, L, h1⟩
 | clo f c => exact Mv h
 | _ => exact h
theorem Ai {w : World} {t : Ty} {x : den t} {vs : List Value} (hO : ∀ g, O g → g < w.heap.size) (hg : GlobOk P D.G O w) (hx : Rep P t .chain O w vs x) (hn : lF t ≤ D.n) :
    Sim P D (Cx.base O w) (Env.of (aF t x 0) []) { tmps := vs.toArray ++ Array.replicate (D.n - vs.toArray.size) undef, defers := [] } w := by
  obtain ⟨hl, hr⟩ := mm 0 hx
  let G : Gst := { hd := fun _ => undef, bk := fun _ => none, b := ofB [], O, w0 := w, own := fun _ => False }
  have hlat : Lat O w G.av w := ⟨Nat.le_refl _, fun g _ hg => ⟨rfl, fun h => h.elim hg (fun ⟨_, _, h, _⟩ => by cases h)⟩⟩
  refine ⟨⟨G, rfl, ⟨⟨fun _ h => h, fun _ h => .inl h⟩, rfl, rfl, trivial⟩, ⟨(Kept.refl w).x _, hO, fun _ h => h.elim, fun _ _ h => (by cases h), fun _ _ _ _ _ h => (by cases h), fun _ _ _ h => (by cases h)⟩, hg.lat hlat, fun n => ?_⟩, fun n => ?_, ?_, rfl⟩
  · show KV P G w _ (ofS _ n) _
    unfold ofS
    split
    · rename_i k hk
      obtain ⟨_, _, t', y, e, hv⟩ := hr n k hk
      subst e
      refine MC (aB.lat hlat ?_)
      have e : tmF { tmps := vs.toArray ++ Array.replicate (D.n - vs.toArray.size) undef, defers := [] } n = vs.getD (n - 0) undef := by
        unfold tmF
        simp only [Nat.sub_zero]
        rw [Array.getD_eq_getD_getElem?, List.getD_eq_getElem?_getD, Array.getElem?_append]
        split
        · rw [List.getElem?_toArray]
        · rename_i hge
          rw [Array.getElem?_replicate]
          rw [List.getElem?_eq_none (by simpa using hge)]
          split <;> rfl
      rw [e]
      exact hv
    · trivial
  · show flat (ofS _ n) = true
    unfold ofS
    split
    · rename_i k hk
      exact (hr n k hk).2.1
    · rfl
  · simp
    omega
theorem Gq {f : FuncId} {args : Array Value} {w : World} {env : Env} (hf : P.funcs[f]? = some fn) (hb : fn.body.isSome = true)
    (hS : Sim P D (Cx.base O w0) env { tmps := args ++ Array.replicate (fn.ntmps - args.size) undef, defers := [] } w) (h : iA P D O w0 fn R (aA fn) env) : Calls P f args w R := by
  obtain ⟨c, hb⟩ := Option.isSome_iff_exists.1 hb
  have hbody : aA fn = [.code c] := by unfold aA; rw [hb]; rfl
  rw [hbody] at h
  intro cs
  let b : Frame := { (default : Frame) with fn := f, kind := .normal }
  have henter : Frame.enter P f args .normal = b.at { tmps := args ++ Array.replicate (fn.ntmps - args.size) undef, defers := [] } [.code c] := by
    simp [Frame.enter, Frame.at, hf, hb, b]
  obtain ⟨e, a', w', hq, harr⟩ := h _ w hS b cs
  rw [← henter] at harr
  cases e with
  | normal =>
    obtain ⟨hd, v, hr, hR⟩ := hq
    exact ⟨.returned v, w', _, hR, Steps.trans harr (.one step_end), rfl, rfl, hd, rfl, fn, hf, hr⟩
  | ret =>
    obtain ⟨hd, v, hr, hR⟩ := hq
    obtain ⟨todo, hs⟩ := harr
    exact ⟨.returned v, w', _, hR, hs, rfl, rfl, hd, rfl, fn, hf, hr⟩
  | panic chain =>
    obtain ⟨hd, hR⟩ := hq
    obtain ⟨todo, hs⟩ := harr
    exact ⟨.panicked chain, w', _, hR, hs, rfl, rfl, hd, fn, hf⟩
  | exit id => exact hq.elim
  | goto l => exact hq.elim
  | outgrown => exact ⟨.outgrown, w', b, hq, harr.resolve_left (by simp [b]), rfl, trivial⟩
theorem Lu {f : FuncId} {S : bq} (hc : gx P f) (hall : S.tot = true → ∀ x, S.pre x) (hf : P.funcs[f]? = some fn) (hb : fn.body.isSome = true) (hn : D.n = fn.ntmps) (ha : lF S.as ≤ fn.ntmps)
    (h : ∀ (O : Nat → Prop) (w0 : World) (x : den S.as), okT S.as x → S.pre x → iA P D O w0 fn (cG P O w0 S.rs fun y => y = S.g x) (aA fn) (Env.of (aF S.as x 0) [])) : ap P D.G f S := by
  refine ⟨hc, hall, fun O w vs x hO hg hx hp => ?_⟩
  have hS := Ai (D := D) hO hg hx (by rw [hn]; exact ha)
  rw [hn] at hS
  refine Calls.mono (Gq hf hb hS (h O w x (ut hx) hp)) fun e w' he => ?_
  obtain ⟨v, y, e1, e2, e3, e4⟩ := he
  exact ⟨v, e1, e2, by rw [← e4]; exact e3⟩
theorem kY {f : FuncId} (hf : P.funcs[f]? = some fn) (hb : fn.body.isSome = true) (hn : (fn.name == "runtime.NumGoroutine") = false) : gx P f := by
 intro args w
 obtain ⟨c, hc⟩ := Option.isSome_iff_exists.1 hb
 have hn' : ¬ fn.name = "runtime.NumGoroutine" := by simpa using hn
 simp [callFunc, hf, hn', hc]
theorem Lq (hD : cQ P D) (hh : dX D = true) {f : FuncId} {S : bq} (hc : gx P f) (hall : S.tot = true → ∀ x, S.pre x) (hf : P.funcs[f]? = some fn) (hb : fn.body.isSome = true) (hn : D.n = fn.ntmps) (ha : lF S.as ≤ fn.ntmps) (A : Ann)
    (h : ∀ (O : Nat → Prop) (w0 : World) (x : den S.as), okT S.as x → S.pre x → cj P D O w0 fn S.rs (fun y => y = S.g x) (gn D A S.rs fn 1000 (aA fn) (Env.of (aF S.as x 0) []))) : ap P D.G f S :=
  Lu hc hall hf hb hn ha fun O w0 x hk hp => gW hD hh 1000 _ _ (h O w0 x hk hp)
end
end Go.Proofs.Ytimdnodkabnbfaa
namespace Go.Proofs.Ytimdnodkabnbfaa
open Go Go.RowKit
abbrev lnx (e : Ty) (xs : List (den e)) : Int := ln (e := e) xs
abbrev dS (e : Ty) (xs : List (den e)) (l h : Int) : List (den e) := kb (e := e) xs l h
abbrev we (e : Ty) (xs : List (den e)) (n : Int) (y : den e) : List (den e) := se (e := e) xs n y
abbrev pc (a r : Ty) (g : den (.fn a r)) (x : den a) : den r := Hc (a := a) (r := r) g x
abbrev lE (a r : Ty) (g : den (.fn a r)) : Prop := Li (a := a) (r := r) g
theorem cj.mono {P : Program} {D : aK} {O : Nat → Prop} {w0 : World} {fn : Func} {rs : Ty} {X Y : den rs → Prop} (hXY : ∀ x, X x → Y x) : ∀ {t : a6}, cj P D O w0 fn rs X t → cj P D O w0 fn rs Y t
 | .bad _, h => h.elim
 | .loop _ _ _, h => fun a w hS b cs => by
  obtain ⟨e, a', w', hq, harr⟩ := h a w hS b cs
  refine ⟨e, a', w', ?_, harr⟩
  cases e with
  | normal => obtain ⟨hd, v, hv, v', x, e1, e2, e3, e4⟩ := hq; exact ⟨hd, v, hv, v', x, e1, e2, e3, hXY _ e4⟩
  | ret => obtain ⟨hd, v, hv, v', x, e1, e2, e3, e4⟩ := hq; exact ⟨hd, v, hv, v', x, e1, e2, e3, hXY _ e4⟩
  | panic c => obtain ⟨hd, v', x, e1, _⟩ := hq; cases e1
  | outgrown => obtain ⟨v', x, e1, _⟩ := hq; cases e1
  | exit _ => exact hq
  | goto _ => exact hq
 | .ret k, ⟨x, hx, h⟩ => ⟨x, hx, hXY x h⟩
 | .ite c t e, h => ⟨fun hc => cj.mono hXY (h.1 hc), fun hc => cj.mono hXY (h.2 hc)⟩
 | .req p t, h => ⟨h.1, cj.mono hXY h.2⟩
theorem aL {P : Program} {T : List (Nat × Ty)} {G : List (Nat × (t : Ty) × den t)} {own : List Nat} {n : Nat} (h : AE P T = true) (hm : P.follows .mixedOrders = true) : DOk P { T, F := [], G, own, n } :=
 ⟨h, fun _ _ h => (by cases h), hm⟩
theorem an {P : Program} {T : List (Nat × Ty)} {F : List (Nat × bq)} {G : List (Nat × (t : Ty) × den t)} {own : List Nat} {n : Nat} {f : Nat} {S : bq} (h : DOk P { T, F, G, own, n }) (hf : ap P G f S) : DOk P { T, F := (f, S) :: F, G, own, n } :=
 ⟨h.tab, fun g S' hl => by
  have hl : ((f, S) :: F).lookup g = some S' := hl
  rw [List.lookup_cons] at hl
  split at hl
  ·rename_i e
   have e : g = f := by simpa using e
   have e' := Option.some.inj hl
   subst e; subst e'
   exact hf
  ·exact h.fns g S' hl, h.mixed⟩
theorem zz {P : Program} {T : List (Nat × Ty)} {F : List (Nat × bq)} {G : List (Nat × (t : Ty) × den t)} {own : List Nat} {n : Nat} (h : DOk P { T, F, G, own, n }) : cQ P { T, F, G, own, n } :=
 ⟨h, fun _ _ h => (by cases h), fun _ h => (by simp at h), fun _ _ h => (by cases h)⟩
theorem zT {P : Program} {D : aK} {fn : Func} {f : FuncId} {S : bq} {A : Ann} (hD : cQ P D) (hh : dX D = true) (hf : P.funcs[f]? = some fn) (hb : (fn.body.isSome && !(fn.name == "runtime.NumGoroutine") && decide (lF S.as ≤ fn.ntmps) && D.n == fn.ntmps) = true)
    (hall : S.tot = true → ∀ x, S.pre x) {T : den S.as → a6} (heq : ∀ x, gn D A S.rs fn 1000 (aA fn) (Env.of (aF S.as x 0) []) = T x)
    (h : ∀ (O : Nat → Prop) (w0 : World) (x : den S.as), okT S.as x → S.pre x → cj P D O w0 fn S.rs (fun y => y = S.g x) (T x)) : ap P D.G f S := by
  simp only [Bool.and_eq_true, Bool.not_eq_true', decide_eq_true_eq, beq_iff_eq] at hb
  obtain ⟨⟨⟨h1, h2⟩, h3⟩, h4⟩ := hb
  exact Lq hD hh (kY hf h1 h2) hall hf h1 h4 h3 A fun O w0 x hk hp => by rw [heq]; exact h O w0 x hk hp
theorem D9 {P : Program} {D : aK} {fn : Func} {rs : Ty} {A : Ann} {O : Nat → Prop} {w0 : World} {X : den rs → Prop} (hD : cQ P D) (hh : dX D = true) {todo : List Item} {env : Env} {T : a6} (heq : gn D A rs fn 1000 todo env = T) (h : cj P D O w0 fn rs X T) : iA P D O w0 fn (cG P O w0 rs X) todo env :=
 gW hD hh 1000 todo env (by rw [heq]; exact h)
theorem Nk {n : Int} (h0 : -9223372036854775808 ≤ n) (h1 : n < 9223372036854775808) : IntKind.wrap .i64 n = n := by
 have := wrap_within .i64 n
 unfold IntKind.wrap
 simp only [IntKind.signed, IntKind.bits]
 simp
 omega
theorem cN {n m : Nat} (h : n < m) (hm : m ≤ 9223372036854775807) : IntKind.wrap .i64 ((n : Int) + 1) = ((n + 1 : Nat) : Int) := by
 rw [Nk (by omega) (by omega)]; omega
theorem bS {e : Ty} {xs : List (den e)} {i : Nat} (h : i < xs.length) : el e xs (i : Int) = xs[i] := by
 unfold el
 simp [List.getD_eq_getElem?_getD, List.getElem?_eq_getElem h]
theorem bf {i n : Nat} (h : i < n) : inB (i : Int) (n : Int) := ⟨by omega, by omega⟩
theorem Ls {P : Program} {D : aK} {fn : Func} {rs : Ty} {O : Nat → Prop} {w0 : World} {todo : List Item} {σ : Type} (n : Nat) (E : Int → σ → Env) (Inv : Nat → σ → Prop) (X : Nat → σ → den rs → Prop)
    (step : ∀ i s, i < n → Inv i s → (∀ s', Inv (i + 1) s' → iA P D O w0 fn (cG P O w0 rs (X (i + 1) s')) todo (E ((i + 1 : Nat) : Int) s')) → iA P D O w0 fn (cG P O w0 rs (X i s)) todo (E (i : Int) s))
    (last : ∀ s, Inv n s → iA P D O w0 fn (cG P O w0 rs (X n s)) todo (E (n : Int) s)) : ∀ (i : Nat) (s : σ), i ≤ n → Inv i s → iA P D O w0 fn (cG P O w0 rs (X i s)) todo (E (i : Int) s) := by
  intro i s hi
  obtain ⟨k, hk⟩ : ∃ k, k + i = n := ⟨n - i, by omega⟩
  induction k generalizing i s with
  | zero =>
    have e : i = n := by omega
    subst e
    exact last s
  | succ k ih =>
    intro hI
    exact step i s (by omega) hI fun s' h' => ih (i + 1) s' (by omega) (by omega) h'
theorem iA.mono {P : Program} {D : aK} {fn : Func} {rs : Ty} {O : Nat → Prop} {w0 : World} {todo : List Item} {env : Env} {X Y : den rs → Prop} (h : ∀ x, X x → Y x) (hg : iA P D O w0 fn (cG P O w0 rs X) todo env) : iA P D O w0 fn (cG P O w0 rs Y) todo env :=
 fun a w hS b cs => by
  obtain ⟨e, a', w', hq, harr⟩ := hg a w hS b cs
  refine ⟨e, a', w', ?_, harr⟩
  cases e with
  | normal => obtain ⟨hd, v, hv, v', x, e1, e2, e3, e4⟩ := hq; exact ⟨hd, v, hv, v', x, e1, e2, e3, h _ e4⟩
  | ret => obtain ⟨hd, v, hv, v', x, e1, e2, e3, e4⟩ := hq; exact ⟨hd, v, hv, v', x, e1, e2, e3, h _ e4⟩
  | panic c => obtain ⟨hd, v', x, e1, _⟩ := hq; cases e1
  | outgrown => obtain ⟨v', x, e1, _⟩ := hq; cases e1
  | exit _ => exact hq
  | goto _ => exact hq
end Go.Proofs.Ytimdnodkabnbfaa
namespace Go.Proofs.Ytimdnodkabnbfaa
open Go Go.RowKit
def de : K → List Nat
 | .ptr id _ _ => [id]
 | .sl id _ => [id]
 | .vw id _ _ _ => [id]
 | .pm id => [id]
 | .yld id => [id]
 | .asl id _ _ _ _ _ _ => [id]
 | .kcons a b => de a ++ de b
 | .agg _ c => de c
 | .clo _ c => de c
 | .sel _ a b => de a ++ de b
 | .ifc _ k => de k
 | .grd _ _ _ k => de k
 | .opt _ k => de k
 | _ => []
def jv (o : Oper) (r : Operand → K) (id : Nat) : List Nat := id :: o.op.operands.toList.flatMap fun x => de (r x)
section
variable {D : aK} {o : Oper} {r : Operand → K} {b b' : Nat → BS} {id : Nat}
theorem dN {i : Nat} (h : b i = b' i) : ao b i = ao b' i := by unfold ao; rw [h]
theorem xA {i : Nat} (h : b i = b' i) : aX b i = aX b' i := by unfold aX; rw [h]
theorem My {e : Ty} {k : K} (h : ∀ i ∈ de k, b i = b' i) : s6 b e k = s6 b' e k := by
 unfold s6
 cases k <;> first | rfl | (simp only [dN (h _ (List.mem_singleton.2 rfl))])
theorem Pd {t : Ty} {k : K} (h : ∀ i ∈ de k, b i = b' i) : x9 b t k = x9 b' t k := by
 unfold x9
 cases k with
 | sl id e =>
  cases t <;> try rfl
  simp only [dN (h id (List.mem_singleton.2 rfl))]
 | val t' x => cases t <;> cases t' <;> rfl
 | _ => cases t <;> rfl
theorem P4 {t : Ty} {k : K} (h : ∀ i ∈ de k, b i = b' i) : asB b t k = asB b' t k := by
 unfold asB
 cases t <;> cases k <;> first | rfl | (simp only [dN (h _ (List.mem_singleton.2 rfl))])
theorem Ky : ∀ {t : Ty} {ks : List K}, (∀ k ∈ ks, ∀ i ∈ de k, b i = b' i) → oJ b t ks = oJ b' t ks
 | .unit, [], _ => rfl
 | .pair a c, k :: ks, h => by
  unfold oJ
  rw [P4 (h k (List.mem_cons_self ..)), Ky fun k' hk' => h k' (List.mem_cons_of_mem _ hk')]
 | .unit, _ :: _, _ => rfl
 | .pair _ _, [], _ => rfl
 | .int _, ks, _ => by cases ks <;> rfl
 | .bool, ks, _ => by cases ks <;> rfl
 | .str, ks, _ => by cases ks <;> rfl
 | .st _, ks, _ => by cases ks <;> rfl
 | .arr _ _, ks, _ => by cases ks <;> rfl
 | .slc _, ks, _ => by cases ks <;> rfl
 | .fn _ _, ks, _ => by cases ks <;> rfl
 | .ref _, ks, _ => by cases ks <;> rfl
 | .mp _ _, ks, _ => by cases ks <;> rfl
 | .clo _ _, ks, _ => by cases ks <;> rfl
theorem IG {e : Ty} {i : Nat} (h : b i = b' i) : it b e i = it b' e i := by unfold it; rw [dN h]
theorem NL {e : Ty} {i : Nat} {zs : List (den e)} (h : b i = b' i) : iu b e i zs = iu b' e i zs := by unfold iu; rw [dN h]
theorem A8 {e : Ty} {k : K} (h : ∀ i ∈ de k, b i = b' i) : dK b e k = dK b' e k := by
 unfold dK
 cases k <;> first | rfl | (simp only [IG (h _ (List.mem_singleton.2 rfl))])
theorem Fu {e : Ty} {k : K} {v : Vw e} (h : dK b e k = some v) : v.id ∈ de k := by
 unfold dK at h
 split at h
 ·split at h
  ·cases h; exact List.mem_singleton.2 rfl
  ·cases h
 ·split at h
  ·split at h
   ·cases h; exact List.mem_singleton.2 rfl
   ·cases h
  ·cases h
 ·cases h
theorem N7 {e : Ty} {k : K} (h : ∀ i ∈ de k, b i = b' i) : uF b e k = uF b' e k := by
 unfold uF; rw [A8 h]
theorem Ct {t : Ty} {k : K} (h : ∀ i ∈ de k, b i = b' i) : e9 b t k = e9 b' t k := by
 unfold e9
 cases k with
 | sl id e => simp only [dN (h id (List.mem_singleton.2 rfl))]
 | val t' x => cases t <;> rfl
 | _ => rfl
theorem NN {v : K} (h : ∀ t, e9 b t v = e9 b' t v) : ∀ {p : List Sel} {t : Ty} {k : K}, mz b t k p v = mz b' t k p v := by
 intro p
 induction p with
 | nil => intro t k; cases t <;> cases k <;> (unfold mz; simp only [h])
 | cons s p ih =>
  intro t k
  cases t <;> cases k <;> cases s <;> first | rfl | (unfold mz; simp only [ih])
theorem Pg {ch : Chg} : ∀ {b b' : Nat → BS} {i : Nat}, b i = b' i → aG b ch i = aG b' ch i := by
 induction ch with
 | nil => intro b b' i h; exact h
 | cons x l ih =>
  intro b b' i h
  obtain ⟨j, y⟩ := x
  exact ih (by show (if i = j then y else b i) = (if i = j then y else b' i); rw [h])
theorem OL {b b' : Nat → BS} {id : Nat} (hid : b id = b' id) {k : K} (h : ∀ i ∈ de k, b i = b' i) : ti b id k = ti b' id k := by
 unfold ti
 cases k <;> first | rfl | simp only [dN (h _ (List.mem_singleton.2 rfl)), xA hid]
theorem Ot {b b0 : Nat → BS} {id : Nat} {k q : K} {ch : Chg} {ps : List Prop} (h : ti b id k = some (q, ch, ps)) : ∀ i ∈ de q, aG b0 ch i = aG b ch i := by
 unfold ti at h
 split at h
 ·split at h
  ·split at h
   ·split at h
    ·have h := Option.some.inj h
     injection h with h1 h2
     injection h2 with h2 h3
     subst h1; subst h2
     intro i hi
     have hi : i = id := List.mem_singleton.1 hi
     subst hi
     simp [aG]
    ·cases h
   ·cases h
  ·cases h
 ·cases h
theorem BZ {D : aK} {t : TypeId} {kx q : K} {b b' : Nat → BS} (Ha : ∀ i ∈ de kx, b i = b' i) (Hv : ∀ i ∈ de q, b i = b' i) : j7 D t kx q b = j7 D t kx q b' := by
 unfold j7
 cases D.ty t with
 | none => rfl
 | some u =>
  cases kx with
  | ptr i base p =>
   simp only [dN (Ha i (List.mem_singleton.2 rfl)), Ct Hv]
   have hu : ∀ k, mz b base k p q = mz b' base k p q := fun k => NN (fun t => Ct Hv)
   simp only [hu]
  | _ => rfl
theorem FE {c : Call} {x : Operand} (hx : x ∈ c.args.toList) : x ∈ (Op.call c).operands.toList := by
 show x ∈ (c.operands).toList
 unfold Call.operands
 rw [Array.toList_append]
 exact List.mem_append_right _ hx
def ld (o : Oper) : Bool :=
 match o.op with
 | .load _ _ => true
 | .indexAddr _ _ _ => true
 | .alloc _ => true
 | .box _ _ => true
 | .buildSlice _ _ _ => true
 | .store _ _ _ => true
 | .slice _ _ _ _ _ => true
 | .call c => match c.callee with
  | .builtin .len => true
  | .builtin .append => true
  | .value (.func _) => true
  | _ => false
 | _ => false
theorem Pv (hid : b id = b' id) (hfo : ld o = true) (H : ∀ x ∈ o.op.operands.toList, ∀ i ∈ de (r x), b i = b' i) : dp D o r b id = dp D o r b' id := by
  unfold dp
  have hf := xA hid
  cases ho : o.op with
  | alloc e => simp only [hf]
  | box e x => simp only [hf]
  | buildSlice t n parts => simp only [hf]
  | slice tx x lo hi mx => rfl
  | load t a =>
    rw [ho] at H
    have Ha := H a (by simp [Op.operands])
    simp only
    cases D.ty t with
    | none => rfl
    | some u =>
      cases hk : r a with
      | ptr i base p => rw [hk] at Ha; simp only [dN (Ha i (List.mem_singleton.2 rfl))]
      | _ => rfl
  | store t a v =>
    rw [ho] at H
    have Ha := H a (by simp [Op.operands])
    simp only
    cases D.ty t with
    | none => rfl
    | some u =>
      cases hk : r a with
      | ptr i base p => rw [hk] at Ha; simp only [dN (Ha i (List.mem_singleton.2 rfl))]
      | _ => rfl
  | indexAddr tx x i =>
    rw [ho] at H
    have Hx := H x (by simp [Op.operands])
    simp only
    cases D.ty tx with
    | none => rfl
    | some u =>
      cases hk : r x with
      | sl j e' => rw [hk] at Hx; simp only [dN (Hx j (List.mem_singleton.2 rfl))]
      | val t' y => cases u <;> cases t' <;> cases r i <;> try rfl
                    all_goals (rename_i ty n; cases ty <;> rfl)
      | _ => cases u <;> cases r i <;> try rfl
             all_goals (rename_i ty n; cases ty <;> rfl)
  | call c =>
    rw [ho] at H
    have Ha : ∀ x ∈ c.args.toList, ∀ i ∈ de (r x), b i = b' i := fun x hx => H x (FE hx)
    simp only
    cases hc : c.callee with
    | builtin bi =>
      cases bi <;> try rfl
      ·
        simp only
        rcases hargs : c.args.toList with _ | ⟨x, _ | ⟨y, _ | ⟨z, l⟩⟩⟩ <;> try rfl
        rw [hargs] at Ha
        have Hx := Ha x (by simp)
        have Hy := Ha y (by simp)
        rcases hat : c.argTypes.toList with _ | ⟨t, _ | ⟨t', _ | ⟨t'', l⟩⟩⟩ <;> try rfl
        simp only
        by_cases e : t' = t
        · rw [if_pos e, if_pos e]
          cases D.ty t with
          | none => rfl
          | some u =>
            cases u <;> try rfl
            simp only
            rename_i e0
            rw [My Hy, hf]
            cases s6 b' e0 (r y) with
            | none => rfl
            | some ys =>
              cases hk : r x with
              | sl j e' => rw [hk] at Hx; simp only [dN (Hx j (List.mem_singleton.2 rfl))]
              | _ => rfl
        · rw [if_neg e, if_neg e]
      ·
        simp only
        rcases hargs : c.args.toList with _ | ⟨x, _ | ⟨y, l⟩⟩ <;> try rfl
        rw [hargs] at Ha
        have Hx := Ha x (by simp)
        cases (c.argTypes[0]?).bind D.ty with
        | none => rfl
        | some t => simp only [Pd Hx]
    | value f => cases f <;> rfl
    | _ => rfl
  | _ => unfold ld at hfo; simp only [ho] at hfo; exact Bool.noConfusion hfo
theorem NK (hid : b id = b' id) (hd : cy o = true) (hf : ld o = true) (H : ∀ x ∈ o.op.operands.toList, ∀ i ∈ de (r x), b i = b' i) : fO D o r b id = fO D o r b' id := by
 have hfr := xA hid
 unfold cy at hd
 unfold ld at hf
 cases ho : o.op with
 | slice tx x lo hi mx =>
  rw [ho] at H
  have Hx := H x (by simp [Op.operands])
  unfold fO
  simp only [ho]
  cases D.ty tx with
  | none => rfl
  | some u =>
   cases u <;> try rfl
   simp only [A8 Hx]
 | call c =>
  rw [ho] at H
  have Ha : ∀ x ∈ c.args.toList, ∀ i ∈ de (r x), b i = b' i := fun x hx => H x (FE hx)
  simp only [ho] at hd hf
  unfold fO
  simp only [ho]
  cases hc : c.callee with
  | builtin bi =>
   simp only [hc] at hd hf
   cases bi <;> first | (exfalso; exact Bool.noConfusion hd) | (exfalso; exact Bool.noConfusion hf) | skip
   simp only
   rcases hargs : c.args.toList with _ | ⟨x, _ | ⟨y, _ | ⟨z, l⟩⟩⟩ <;> try rfl
   rw [hargs] at Ha
   have Hx := Ha x (by simp)
   have Hy := Ha y (by simp)
   rcases hat : c.argTypes.toList with _ | ⟨t, _ | ⟨t', _ | ⟨t'', l⟩⟩⟩ <;> try rfl
   simp only
   cases D.ty t with
   | none => rfl
   | some u =>
    cases u <;> try rfl
    rename_i e
    simp only
    rw [A8 Hx]
    cases hk : r x with
    | vw j e' lo n =>
     rw [hk] at Hx
     have hj := Hx j (List.mem_singleton.2 rfl)
     cases hv : dK b' e (K.vw j e' lo n) with
     | none => rfl
     | some v =>
      have hv' := Fu hv
      have hv2 : v.id = j := List.mem_singleton.1 hv'
      simp only [N7 Hy, dN hj, hfr, NL (hv2 ▸ hj : b v.id = b' v.id)]
    | _ => rfl
  | value f =>
   cases f with
   | func f =>
    simp only
    by_cases h1 : D.ovl.contains f = true
    ·rw [if_pos h1, if_pos h1]
     rcases hargs : c.args.toList with _ | ⟨x, _ | ⟨y, _ | ⟨z, l⟩⟩⟩ <;> try rfl
     rw [hargs] at Ha
     have Hy := Ha y (by simp)
     simp only
     cases hx : r x <;> try rfl
     rename_i t1 x1
     cases hy : r y with
     | vw j e2 lo n =>
      rw [hy] at Hy
      cases t1 <;> try rfl
      simp only [IG (Hy j (List.mem_singleton.2 rfl))]
     | _ => cases t1 <;> rfl
    ·rw [if_neg h1, if_neg h1]
     cases hR : D.R.lookup f with
     | none =>
      simp only
      cases hF : D.F.lookup f with
      | none => rfl
      | some S =>
       simp only
       rw [Ky (fun k hk => by
        obtain ⟨x, hx, rfl⟩ := List.mem_map.1 hk
        exact Ha x hx)]
     | some S =>
      simp only
      cases hS : S.arg with
      | false => simp only [hfr]
      | true =>
       rcases hargs : c.args.toList with _ | ⟨x, l⟩
       ·rfl
       rw [hargs] at Ha
       have Hx := Ha x (by simp)
       simp only
       have e : ∀ k, (∀ i ∈ de k, b i = b' i) → dK b S.e k = dK b' S.e k := fun k h => A8 h
       cases hk : r x
       case sl j e' =>
        rw [hk] at Hx
        simp only [e _ Hx, hfr, dN (Hx j (List.mem_singleton.2 rfl))]
       all_goals first | (rw [hk] at Hx; simp only [e _ Hx, hfr]; done) | (simp only [e K.any (fun i hi => by cases hi), hfr])
   | tmp t => simp only [hc] at hf; exact Bool.noConfusion hf
   | _ => rfl
  | _ => rfl
 | _ => simp only [ho] at hf hd; first | exact Bool.noConfusion hf | exact Bool.noConfusion hd
theorem N4 (hid : b id = b' id) (hf : ld o = true) (hd : dL o = true) (H : ∀ x ∈ o.op.operands.toList, ∀ i ∈ de (r x), b i = b' i) : dT D o r b id = dT D o r b' id := by
 have hfr := xA hid
 unfold ld at hf
 unfold dL at hd
 unfold dT
 cases ho : o.op with
 | box e x =>
  rw [ho] at H
  have e1 : ∀ el, e9 b (.slc el) (r x) = e9 b' (.slc el) (r x) := fun el => Ct (H x (by simp [Op.operands]))
  simp only [hfr]
  revert e1
  generalize r x = k
  intro e1
  cases D.ty e with
  | none => rfl
  | some t => cases t <;> first | rfl | (cases k <;> first | rfl | simp only [e1])
 | load t a =>
  rw [ho] at H
  have Ha := H a (by simp [Op.operands])
  simp only
  cases D.ty t with
  | none => rfl
  | some u =>
   cases hk : r a with
   | ptr i base p => rw [hk] at Ha; simp only [dN (Ha i (List.mem_singleton.2 rfl))]
   | _ => rfl
 | store t a v =>
  rw [ho] at H
  have Ha := H a (by simp [Op.operands])
  have Hv := H v (by simp [Op.operands])
  have hu := OL (b := b) (b' := b') (id := id) hid Hv
  simp only [hu]
  cases hq : ti b' id (r v) with
  | none => simp only [BZ Ha Hv]
  | some q =>
   obtain ⟨q, ch, ps⟩ := q
   simp only
   rw [BZ (b := aG b ch) (b' := aG b' ch) (fun i hi => Pg (Ha i hi)) (fun i hi => Ot hq i hi)]
 | _ => simp only [ho] at hf hd; first | exact Bool.noConfusion hf | exact Bool.noConfusion hd
theorem Hn (hid : b id = b' id) (hf : ld o = true) (hn : eX D o = false) (H : ∀ x ∈ o.op.operands.toList, ∀ i ∈ de (r x), b i = b' i) : gw D o r b id = gw D o r b' id := by
 have hn' : ¬ eX D o = true := by rw [hn]; exact Bool.noConfusion
 unfold gw
 rw [if_neg hn', if_neg hn']
 have hU : c6 D o r b id = c6 D o r b' id := by
  unfold c6
  rw [Pv hid hf H]
  cases dp D o r b' id with
  | some q => rfl
  | none =>
   simp only
   by_cases hd : cy o = true
   ·rw [if_pos hd, if_pos hd, NK hid hd hf H]
   ·rw [if_neg hd, if_neg hd]
 rw [hU]
 cases c6 D o r b' id with
 | some q => rfl
 | none =>
  simp only
  by_cases hd : dL o = true
  ·rw [if_pos hd, if_pos hd, N4 hid hf hd H]
  ·rw [if_neg hd, if_neg hd]
end
end Go.Proofs.Ytimdnodkabnbfaa
namespace Go.Proofs.Ytimdnodkabnbfaa
open Go Go.RowKit
section
variable {D : aK} {o : Oper} {r : Operand → K} {b b' : Nat → BS} {id : Nat}
theorem gZ : id ∈ jv o r id := List.mem_cons_self ..
theorem p5 {x : Operand} {j : Nat} (hx : x ∈ o.op.operands.toList) (hj : j ∈ de (r x)) : j ∈ jv o r id := List.mem_cons_of_mem _ (List.mem_flatMap.2 ⟨x, hx, hj⟩)
theorem u4 {c : Call} (ho : o.op = .call c) {x : Operand} {j : Nat} (hx : x ∈ c.args.toList) (hj : j ∈ de (r x)) : j ∈ jv o r id := p5 (by rw [ho]; exact FE hx) hj
def In (F : List Nat) (ch : Chg) : Prop := ∀ p ∈ ch, p.1 ∈ F
theorem kL {F : List Nat} : In F [] := fun _ h => by cases h
theorem kH {F : List Nat} {i : Nat} {x : BS} (h : i ∈ F) : In F [(i, x)] := fun p hp => by rw [List.mem_singleton] at hp; subst hp; exact h
theorem HY {F : List Nat} {i j : Nat} {x y : BS} (h : i ∈ F) (g : j ∈ F) : In F [(i, x), (j, y)] := fun p hp => by
 rcases List.mem_cons.1 hp with rfl | hp
 ·exact h
 ·exact kH g p hp
theorem Pf (hf : ld o = true) {k : K} {ch : Chg} {ps : List Prop} (h : dp D o r b id = some (k, ch, ps)) : In (jv o r id) ch := by
 unfold dp at h
 cases ho : o.op with
 | alloc e =>
  simp only [ho] at h
  repeat' split at h
  all_goals first | (cases h; done) | (cases h; exact kH gZ)
 | box e x =>
  simp only [ho] at h
  repeat' split at h
  all_goals first | (cases h; done) | (cases h; exact kH gZ)
 | buildSlice t n parts =>
  simp only [ho] at h
  repeat' split at h
  all_goals first | (cases h; done) | (cases h; exact kH gZ) | (cases h; exact kL)
 | slice tx x lo hi mx =>
  simp only [ho] at h
  repeat' split at h
  all_goals first | (cases h; done) | (cases h; exact kL)
 | load t a =>
  simp only [ho] at h
  repeat' split at h
  all_goals first | (cases h; done) | (cases h; exact kL)
 | store t a v =>
  have Ha : a ∈ o.op.operands.toList := by rw [ho]; simp [Op.operands]
  simp only [ho] at h
  cases hD : D.ty t with
  | none => simp only [hD] at h; cases h
  | some u =>
   simp only [hD] at h
   cases hk : r a with
   | ptr i base p =>
    simp only [hk] at h
    have hi : i ∈ jv o r id := p5 Ha (by rw [hk]; exact List.mem_singleton.2 rfl)
    repeat' split at h
    all_goals first | (cases h; done) | (cases h; exact kH hi)
   | _ => simp only [hk] at h; cases h
 | indexAddr tx x i =>
  simp only [ho] at h
  repeat' split at h
  all_goals first | (cases h; done) | (cases h; exact kL)
 | call c =>
  simp only [ho] at h
  cases hc : c.callee with
  | builtin bi =>
   simp only [hc] at h
   cases bi with
   | append =>
    simp only at h
    rcases hargs : c.args.toList with _ | ⟨x, _ | ⟨y, _ | ⟨z, l⟩⟩⟩ <;> simp only [hargs] at h <;> first | (cases h; done) | skip
    have Hx : x ∈ c.args.toList := by rw [hargs]; simp
    rcases hat : c.argTypes.toList with _ | ⟨t, _ | ⟨t', _ | ⟨t'', l⟩⟩⟩ <;> simp only [hat] at h <;> first | (cases h; done) | skip
    split at h
    ·split at h
     ·split at h
      ·cases hk : r x with
       | sl j e' =>
        simp only [hk] at h
        have hj : j ∈ jv o r id := u4 ho Hx (by rw [hk]; exact List.mem_singleton.2 rfl)
        repeat' split at h
        all_goals first | (cases h; done) | (cases h; exact HY hj gZ)
       | nilsl =>
        simp only [hk] at h
        repeat' split at h
        all_goals first | (cases h; done) | (cases h; exact kH gZ)
       | clip e' xs =>
        simp only [hk] at h
        repeat' split at h
        all_goals first | (cases h; done) | (cases h; exact kH gZ)
       | _ => simp only [hk] at h; cases h
      ·cases h
     ·cases h
    ·cases h
   | _ =>
    simp only at h
    repeat' split at h
    all_goals first | (cases h; done) | (cases h; exact kL)
  | value f =>
   cases f <;> simp only [hc] at h
   all_goals
    repeat' split at h
    all_goals first | (cases h; done) | (cases h; exact kL)
  | _ => simp only [hc] at h; cases h
 | _ => unfold ld at hf; simp only [ho] at hf; exact Bool.noConfusion hf
theorem NY (hd : cy o = true) (hf : ld o = true) {k : K} {ch : Chg} {ps : List Prop} (h : fO D o r b id = some (.one k ch ps)) : In (jv o r id) ch := by
 unfold cy at hd
 unfold ld at hf
 cases ho : o.op with
 | slice tx x lo hi mx =>
  unfold fO at h
  simp only [ho] at h
  repeat' split at h
  all_goals first | (cases h; done) | (cases h; exact kL)
 | call c =>
  simp only [ho] at hd hf
  unfold fO at h
  simp only [ho] at h
  cases hc : c.callee with
  | builtin bi =>
   simp only [hc] at hd hf
   cases bi <;> first | (exfalso; exact Bool.noConfusion hd) | (exfalso; exact Bool.noConfusion hf) | skip
   simp only [hc] at h
   rcases hargs : c.args.toList with _ | ⟨x, _ | ⟨y, _ | ⟨z, l⟩⟩⟩ <;> simp only [hargs] at h <;> first | (cases h; done) | skip
   have Hx : x ∈ c.args.toList := by rw [hargs]; simp
   rcases hat : c.argTypes.toList with _ | ⟨t, _ | ⟨t', _ | ⟨t'', l⟩⟩⟩ <;> simp only [hat] at h <;> first | (cases h; done) | skip
   split at h
   ·split at h
    ·rename_i v hk hv
     have hid : v.id ∈ jv o r id := u4 ho Hx (Fu hv)
     split at h
     ·split at h
      ·cases h; exact kH hid
      ·cases h
     ·split at h
      ·split at h
       ·cases h; exact kH gZ
       ·cases h
      ·cases h
    ·cases h
   ·cases h
  | value f =>
   cases f with
   | tmp t => simp only [hc] at hf; exact Bool.noConfusion hf
   | func f =>
    simp only [hc] at h
    split at h
    ·repeat' split at h
     all_goals first | (cases h; done) | (cases h; exact kL)
    ·split at h
     ·rename_i S hS
      split at h
      ·rename_i x l hsa hargs
       split at h
       ·rename_i v y hv hy
        have hid : v.id ∈ jv o r id := by
         refine u4 ho (x := x) (by rw [hargs]; exact List.mem_cons_self ..) ?_
         revert hv
         cases hk : r x <;> intro hv <;> first | exact Fu hv | cases hv
        repeat' split at h
        all_goals first | (cases h; done) | (cases h; exact HY hid gZ) | (cases h; refine kH (u4 ho (x := x) (by rw [hargs]; exact List.mem_cons_self ..) ?_); rw [show r x = K.sl _ _ by assumption]; exact List.mem_singleton.2 rfl)
       ·repeat' split at h
        all_goals first | (cases h; done) | (cases h; exact kL)
       ·cases h
      ·repeat' split at h
       all_goals first | (cases h; done) | (cases h; exact kH gZ)
      ·cases h
     ·repeat' split at h
      all_goals first | (cases h; done) | (cases h; exact kL)
   | _ => simp only [hc] at hf; exact Bool.noConfusion hf
  | _ => simp only [hc] at hf; exact Bool.noConfusion hf
 | _ => simp only [ho] at hf hd; first | exact Bool.noConfusion hf | exact Bool.noConfusion hd
theorem Nx (hf : ld o = true) (hd : dL o = true) {k : K} {ch : Chg} {ps : List Prop} (h : dT D o r b id = some (.one k ch ps)) : In (jv o r id) ch := by
 unfold ld at hf
 unfold dL at hd
 unfold dT at h
 cases ho : o.op with
 | box e x =>
  simp only [ho] at h
  repeat' split at h
  all_goals first | (cases h; done) | (cases h; exact kH gZ)
 | load t a =>
  simp only [ho] at h
  repeat' split at h
  all_goals first | (cases h; done) | (cases h; exact kL)
 | store t a v =>
  have Ha : a ∈ o.op.operands.toList := by rw [ho]; simp [Op.operands]
  have Hv : v ∈ o.op.operands.toList := by rw [ho]; simp [Op.operands]
  simp only [ho] at h
  have st : ∀ {q : K} {b1 : Nat → BS} {c : Nat × BS}, j7 D t (r a) q b1 = some c → c.1 ∈ jv o r id := by
   intro q b1 c hc
   unfold j7 at hc
   split at hc
   ·rename_i u i base p _ hk
    have hi : i ∈ jv o r id := p5 Ha (by rw [hk]; exact List.mem_singleton.2 rfl)
    repeat' split at hc
    all_goals first | (cases hc; done) | (cases hc; exact hi)
   ·cases hc
  cases hq : ti b id (r v) with
  | none =>
   rw [hq] at h
   simp only at h
   split at h
   ·rename_i c hc
    cases h
    intro p hp
    rw [List.mem_singleton] at hp
    subst hp
    exact st hc
   ·cases h
  | some q =>
   obtain ⟨q, ch1, ps1⟩ := q
   rw [hq] at h
   simp only at h
   split at h
   ·rename_i c hc
    cases h
    intro p hp
    rcases List.mem_append.1 hp with hp | hp
    ·unfold ti at hq
     split at hq
     ·rename_i j e lo n hk
      have hj : j ∈ jv o r id := p5 Hv (by rw [hk]; exact List.mem_singleton.2 rfl)
      repeat' split at hq
      all_goals first | (cases hq; done) | (cases hq; exact HY hj gZ p hp)
     ·cases hq
    ·rw [List.mem_singleton] at hp
     subst hp
     exact st hc
   ·cases h
 | _ => simp only [ho] at hf hd; first | exact Bool.noConfusion hf | exact Bool.noConfusion hd
theorem N3 (hf : ld o = true) (hn : eX D o = false) {k : K} {ch : Chg} {ps : List Prop} (h : gw D o r b id = some (k, ch, ps)) : In (jv o r id) ch := by
 have hn' : ¬ eX D o = true := by rw [hn]; exact Bool.noConfusion
 unfold gw at h
 rw [if_neg hn'] at h
 split at h
 ·rename_i q hq
  have e := Option.some.inj h
  subst e
  unfold c6 at hq
  split at hq
  ·rename_i q' hq'
   have e := Option.some.inj hq
   subst e
   exact Pf hf hq'
  ·split at hq
   ·rename_i hd
    split at hq
    ·rename_i k' ch' ps' h2
     have e := Option.some.inj hq
     injection e with e1 e2
     injection e2 with e2 e3
     subst e1; subst e2; subst e3
     exact NY hd hf h2
    ·cases hq
   ·cases hq
 ·split at h
  ·rename_i hd
   unfold Fr at h
   split at h
   ·rename_i k' ch' ps' h3
    have e := Option.some.inj h
    injection e with e1 e2
    injection e2 with e2 e3
    subst e1; subst e2; subst e3
    exact Nx hf hd h3
   ·cases h
  ·cases h
end
end Go.Proofs.Ytimdnodkabnbfaa
namespace Go.Proofs.Ytimdnodkabnbfaa
open Go Go.RowKit
def j4 (D : aK) (ops : Array Oper) (o : Oper) (s : Nat → K) (lim : Nat) : Option (List Nat) :=
 if ld o && !eX D o then
  match kT ops o with
  | some none => some (jv o (rdl D (o.looksAt ops) s none) (lim + o.dst.getD 0))
  | some (some (d, w)) => some (jv o (rdl D (o.looksAt ops) s (some (d, w))) (lim + o.dst.getD 0))
  | none => none
 else none
def G9 (F G : List Nat) : Bool := F.all fun i => !G.contains i
def sw (D : aK) (ops : Array Oper) : List Nat → Env → List (Nat × List Nat)
 | [], _ => []
 | i :: l, env => match ops[i]? with
  | none => sw D ops l env
  | some o => (match j4 D ops o env.s env.lim with | some G => [(i, G)] | none => []) ++
   (match vop D ops o env with | none => [] | some (env', _) => sw D ops l env')
def okF (D : aK) (ops : Array Oper) (F : List (Nat × List Nat)) (j i : Nat) (oj oi : Oper) : Bool :=
 (qB D oj oi || (match F.lookup j, F.lookup i with | some a, some b => G9 a b | _, _ => false)) && oj.apart ops oi
def qI (D : aK) (ops : Array Oper) (F : List (Nat × List Nat)) (anc : List (Nat × List Nat)) : List Nat → List Nat → Bool
 | _, [] => true
 | pre, i :: l => (match ops[i]? with
  | none => true
  | some oi => ((kf oi).all fun d => pre.contains d) &&
   pre.all fun j => ((anc.lookup i).getD []).contains j || (match ops[j]? with | some oj => okF D ops F j i oj oi | none => true)) && qI D ops F anc (i :: pre) l
def qJ (D : aK) (ops : Array Oper) (F : List (Nat × List Nat)) (ord : List Nat) : Bool :=
 fV ord && (ord.all fun i => decide (i < ops.size)) && ((List.range ops.size).all fun i => ord.contains i) && qI D ops F (sM ops ord []) [] ord
def Nn (D : aK) (ops : Array Oper) (env : Env) : Option (List Nat) :=
 if qJ D ops (sw D ops (List.range ops.size) env) (List.range ops.size) then some (List.range ops.size)
 else if qJ D ops (sw D ops (E1 D ops ops.size [] (List.range ops.size)) env) (E1 D ops ops.size [] (List.range ops.size)) then some (E1 D ops ops.size [] (List.range ops.size)) else none
def zP (D : aK) (ops : Array Oper) (env : Env) : Option (List Nat) :=
 match A0 D true ops with
 | some ord => some ord
 | none => Nn D ops env
section
variable {P : Program} {D : aK} {c0 : Cx} {ops : Array Oper}
theorem Ar {o : Oper} {s : Nat → K} {d : Option Nat} {k : K} {lim : Nat} (hd : ∀ x, d = some x → x ∉ o.looksAt ops) : j4 D ops o (put s d k) lim = j4 D ops o s lim := by
 unfold j4
 split
 ·split
  ·rw [sF hd (fun _ _ h => by cases h)]
  ·rename_i dd w hg
   have hl := vk hg
   rw [sF hd (fun n c' h => by cases h; exact hl)]
  ·rfl
 ·rfl
theorem IM {o : Oper} {s : Nat → K} {lim : Nat} {F : List Nat} (h : j4 D ops o s lim = some F) : ld o = true ∧ eX D o = false := by
 unfold j4 at h
 split at h
 ·rename_i hc
  rwa [Bool.and_eq_true, Bool.not_eq_true'] at hc
 ·cases h
theorem HE {o : Oper} {s : Nat → K} {b b' : Nat → BS} {lim : Nat} {F : List Nat} (h : j4 D ops o s lim = some F) (hb : ∀ i ∈ F, b i = b' i) : db D ops o s b lim = db D ops o s b' lim := by
 obtain ⟨hf, hn⟩ := IM h
 unfold j4 at h
 rw [if_pos (by rw [hf, hn]; rfl)] at h
 unfold db
 by_cases hdst : fm D.n o = true
 ·rw [if_pos hdst, if_pos hdst]
  cases hg : kT ops o with
  | none => rfl
  | some g =>
   cases g with
   | none =>
    simp only [hg] at h ⊢
    have e := Option.some.inj h
    subst e
    rw [Hn (b := b) (b' := b') (hb _ gZ) hf hn (fun x hx i hi => hb i (p5 hx hi))]
   | some g =>
    obtain ⟨d, w⟩ := g
    simp only [hg] at h ⊢
    have e := Option.some.inj h
    subst e
    rw [Hn (b := b) (b' := b') (hb _ gZ) hf hn (fun x hx i hi => hb i (p5 hx hi))]
 ·rw [if_neg hdst, if_neg hdst]
theorem FK {o : Oper} {c x y : Operand} (ho : o.op = .pick c x y) (hf : ld o = true) : False := by
 unfold ld at hf
 rw [ho] at hf
 exact Bool.noConfusion hf
theorem IY {o : Oper} {s : Nat → K} {b : Nat → BS} {lim : Nat} {F : List Nat} (h : j4 D ops o s lim = some F) {res : K × Chg × List Prop} (hv : db D ops o s b lim = some res) : In F res.2.1 := by
 obtain ⟨hf, hn⟩ := IM h
 unfold j4 at h
 rw [if_pos (by rw [hf, hn]; rfl)] at h
 unfold db at hv
 split at hv
 ·split at hv
  ·cases hv
  ·rename_i hg
   simp only [hg] at h
   have e := Option.some.inj h
   subst e
   split at hv
   ·rename_i ho; exact (FK ho hf).elim
   ·cases hv
   ·split at hv
    ·rename_i k ch ps hV
     have e := Option.some.inj hv
     subst e
     exact N3 hf hn hV
    ·cases hv
  ·split at hv
   ·cases hv
   ·split at hv
    ·cases hv
    ·split at hv
     ·rename_i ho; exact (FK ho hf).elim
     ·cases hv
     ·split at hv
      ·have e := Option.some.inj hv
       subst e
       exact kL
      ·cases hv
 ·cases hv
theorem Cb : ∀ {ch : Chg} {b b' : Nat → BS} {n : Nat}, b n = b' n → aG b ch n = aG b' ch n
 | [], _, _, _, h => h
 | (i, x) :: l, b, b', n, h => by
  show aG _ l n = aG _ l n
  refine Cb ?_
  simp only [h]
theorem nU : ∀ {ch : Chg} {F : List Nat} {b : Nat → BS} {n : Nat}, In F ch → n ∉ F → aG b ch n = b n
 | [], _, _, _, _, _ => rfl
 | (i, x) :: l, F, b, n, h, hn => by
  show aG _ l n = b n
  rw [nU (fun p hp => h p (List.mem_cons_of_mem _ hp)) hn]
  have hi : i ∈ F := h (i, x) (List.mem_cons_self ..)
  exact if_neg (fun (e : n = i) => hn (e ▸ hi))
theorem xR {F G : List Nat} (h : G9 F G = true) {i : Nat} (hF : i ∈ F) (hG : i ∈ G) : False := by
 have := List.all_eq_true.1 h i hF
 rw [List.contains_iff_mem.2 hG] at this
 cases this
theorem MT {F G : List Nat} {c c' : Chg} (h : G9 F G = true) (hc : In F c) (hc' : In G c') (b : Nat → BS) : aG (aG b c) c' = aG (aG b c') c := by
 funext n
 by_cases hn : n ∈ F
 ·have hg : n ∉ G := fun hg => xR h hn hg
  rw [nU hc' hg]
  exact (Cb (nU hc' hg)).symm
 ·rw [nU hc hn]
  exact Cb (nU hc hn)
theorem Mx {oj oi : Oper} (hap : oj.apart ops oi = true) {env e1 e2 : Env} {pj pi : List Prop} {Fj Fi : List Nat} (hd : G9 Fj Fi = true) (hFj : j4 D ops oj env.s env.lim = some Fj) (hFi : j4 D ops oi e1.s e1.lim = some Fi)
    (hj : vop D ops oj env = some (e1, pj)) (hi : vop D ops oi e1 = some (e2, pi)) :
    ∃ e1', vop D ops oi env = some (e1', pi) ∧ vop D ops oj e1' = some (e2, pj) := by
  obtain ⟨a1, a2, a3⟩ := Oper.apart_spec hap
  unfold vop at hj
  split at hj
  · rename_i kj chj psj hcj
    have ej := Option.some.inj hj
    injection ej with ej1 ej2
    subst ej1; subst ej2
    unfold vop at hi
    split at hi
    · rename_i ki chi psi hci
      have ei := Option.some.inj hi
      injection ei with ei1 ei2
      subst ei1; subst ei2
      simp only at hci hFi
      have hci' : db D ops oi env.s (aG env.b chj) env.lim = some (ki, chi, psi) := by rw [← hci]; exact (u6 (fun x hx => a1 x hx)).symm
      have hFi' : j4 D ops oi env.s env.lim = some Fi := by rw [← hFi]; exact (Ar (fun x hx => a1 x hx)).symm
      have hs := Ij (s := env.s) (d := oj.dst) (e := oi.dst) (k := kj) (l := ki) (fun x hx => a2 x hx) (fun x hx => uw hcj x (a3 x hx)) (fun x hx => uw hci' x (a1 x hx))
      have wj := IY hFj hcj
      have wi := IY hFi' hci'
      have hi0 : db D ops oi env.s env.b env.lim = some (ki, chi, psi) := by
        rw [← hci']
        exact HE hFi' fun i hi => (nU wj fun h => xR hd h hi).symm
      have hj0 : db D ops oj env.s (aG env.b chi) env.lim = some (kj, chj, psj) := by
        rw [← hcj]
        exact HE hFj fun i hi => nU wi fun h => xR hd hi h
      refine ⟨{ s := put env.s oi.dst ki, b := aG env.b chi, lim := env.lim }, by unfold vop; rw [hi0], ?_⟩
      have hj1 : db D ops oj (put env.s oi.dst ki) (aG env.b chi) env.lim = some (kj, chj, psj) := by rw [u6 (fun x hx => a3 x hx)]; exact hj0
      unfold vop
      simp only [hj1]
      rw [hs, MT hd wj wi]
    · cases hi
  · cases hj
theorem Oz {o : Oper} {env e1 : Env} {ps : List Prop} (h : vop D ops o env = some (e1, ps)) : ∃ k, e1.s = put env.s o.dst k ∧ e1.lim = env.lim := by
 unfold vop at h
 split at h
 ·have e := Option.some.inj h
  injection e with e1 e2
  subst e1
  exact ⟨_, rfl, rfl⟩
 ·cases h
def xo (D : aK) (ops : Array Oper) (F : List (Nat × List Nat)) : List Nat → Env → Prop
 | [], _ => True
 | i :: l, env => ∀ o, ops[i]? = some o → (∀ G, F.lookup i = some G → j4 D ops o env.s env.lim = some G) ∧ ∀ env' ps, vop D ops o env = some (env', ps) → xo D ops F l env'
theorem zx {j : Nat} {G : List Nat} : ∀ {l : List Nat} {env : Env}, (j, G) ∈ sw D ops l env → j ∈ l
 | [], _, h => by cases h
 | i :: l, env, h => by
  unfold sw at h
  split at h
  ·exact List.mem_cons_of_mem _ (zx h)
  ·rcases List.mem_append.1 h with h | h
   ·split at h
    ·rw [List.mem_singleton] at h
     injection h with h1 h2
     subst h1
     exact List.mem_cons_self ..
    ·cases h
   ·split at h
    ·cases h
    ·exact List.mem_cons_of_mem _ (zx h)
theorem Br {i : Nat} {G : List Nat} : ∀ {l : List (Nat × List Nat)}, l.lookup i = some G → (i, G) ∈ l
 | [], h => by cases h
 | (k, x) :: l, h => by
  rw [List.lookup_cons] at h
  split at h
  ·rename_i e
   have e : i = k := by simpa using e
   have e' := Option.some.inj h
   subst e; subst e'
   exact List.mem_cons_self ..
  ·exact List.mem_cons_of_mem _ (Br h)
theorem Kv {F : List (Nat × List Nat)} : ∀ (l : List Nat) (env : Env), l.Nodup → (∀ i, i < ops.size → True) → (∀ i ∈ l, ∃ o, ops[i]? = some o) → (∀ i ∈ l, F.lookup i = (sw D ops l env).lookup i) → xo D ops F l env
 | [], _, _, _, _, _ => trivial
 | i :: l, env, hn, ht, hall, hF => by
  intro o ho
  obtain ⟨hn1, hn2⟩ := List.nodup_cons.1 hn
  have hFi := hF i (List.mem_cons_self ..)
  have hne : ∀ j ∈ l, j ≠ i := fun j hj e => hn1 (e ▸ hj)
  unfold sw at hFi hF
  simp only [ho] at hFi hF
  refine ⟨fun G hG => ?_, fun env' ps hv => ?_⟩
  ·rw [hFi] at hG
   split at hG
   ·rename_i G' hG'
    rw [List.singleton_append, List.lookup_cons] at hG
    simp only [beq_self_eq_true] at hG
    rw [hG', hG]
   ·exfalso
    have := Br hG
    rw [List.nil_append] at this
    split at this
    ·cases this
    ·exact hn1 (zx this)
  ·refine Kv l env' hn2 ht (fun j hj => hall j (List.mem_cons_of_mem _ hj)) fun j hj => ?_
   have hj' := hF j (List.mem_cons_of_mem _ hj)
   rw [hj']
   simp only [hv]
   split
   ·rw [List.singleton_append, List.lookup_cons]
    have : (j == i) = false := by simpa using hne j hj
    simp only [this]
   ·rfl
theorem BO {F : List (Nat × List Nat)} {i : Nat} {oi : Oper} (hi : ops[i]? = some oi) : ∀ (pre post : List Nat) (env envF : Env) (ps : List Prop), (∀ j ∈ pre, ∀ oj, ops[j]? = some oj → okF D ops F j i oj oi = true) → (∀ j ∈ pre, ∃ oj, ops[j]? = some oj) → xo D ops F (pre ++ i :: post) env → f7 D ops (pre ++ i :: post) env = some (envF, ps) →
    ∃ env1 p1 p2, vop D ops oi env = some (env1, p1) ∧ f7 D ops (pre ++ post) env1 = some (envF, p2) ∧ (∀ p, p ∈ p1 ++ p2 → p ∈ ps) ∧ xo D ops F (pre ++ post) env1 ∧ ∀ G, F.lookup i = some G → j4 D ops oi env.s env.lim = some G
  | [], post, env, envF, ps, _, _, hft, h => by
    simp only [List.nil_append, f7, hi] at h
    split at h
    · cases h
    · rename_i env1 p1 h1
      split at h
      · cases h
      · rename_i env2 p2 h2
        have e := Option.some.inj h
        injection e with e1 e2
        subst e1; subst e2
        have hft := hft oi hi
        exact ⟨env1, p1, p2, h1, by simpa using h2, fun p hp => hp, hft.2 env1 p1 h1, hft.1⟩
  | j :: pre, post, env, envF, ps, hall, hsome, hft, h => by
    obtain ⟨oj, hj⟩ := hsome j (List.mem_cons_self ..)
    simp only [List.cons_append, f7] at h ⊢
    simp only [hj] at h ⊢
    split at h
    · cases h
    · rename_i envj pj h1
      split at h
      · cases h
      · rename_i envk pk h2
        have e := Option.some.inj h
        injection e with e1 e2
        subst e1; subst e2
        have hftj := hft oj hj
        obtain ⟨env1, p1, p2, g1, g2, g3, g4, g5⟩ := BO hi pre post envj envk pk (fun k hk => hall k (List.mem_cons_of_mem _ hk)) (fun k hk => hsome k (List.mem_cons_of_mem _ hk)) (hftj.2 envj pj h1) h2
        have hok := hall j (List.mem_cons_self ..) oj hj
        unfold okF at hok
        rw [Bool.and_eq_true, Bool.or_eq_true] at hok
        obtain ⟨hcp, hap⟩ := hok
        have hcomm : ∃ e1', vop D ops oi env = some (e1', p1) ∧ vop D ops oj e1' = some (env1, pj) := by
          rcases hcp with hcp | hcp
          · exact I6 hap hcp h1 g1
          · split at hcp
            · rename_i a b ha hb
              exact Mx hap hcp (hftj.1 a ha) (g5 b hb) h1 g1
            · cases hcp
        obtain ⟨env1', c1, c2⟩ := hcomm
        obtain ⟨a1, a2, a3⟩ := Oper.apart_spec hap
        obtain ⟨kj, s1, s2⟩ := Oz h1
        obtain ⟨ki, t1, t2⟩ := Oz c1
        refine ⟨env1', p1, pj ++ p2, c1, ?_, fun p hp => ?_, ?_, fun G hG => ?_⟩
        · simp only [c2, g2]
        · rw [List.mem_append] at hp ⊢
          rcases hp with hp | hp
          · exact .inr (g3 p (List.mem_append_left _ hp))
          · rcases List.mem_append.1 hp with hp | hp
            · exact .inl hp
            · exact .inr (g3 p (List.mem_append_right _ hp))
        · intro o ho
          rw [hj] at ho
          have ho := Option.some.inj ho
          subst ho
          refine ⟨fun G hG => ?_, fun env' qs hv => ?_⟩
          · rw [t1, t2, Ar (fun x hx => a3 x hx)]
            exact hftj.1 G hG
          · rw [c2] at hv
            have e := Option.some.inj hv
            injection e with e1 e2
            subst e1
            exact g4
        · have := g5 G hG
          rw [s1, s2, Ar (fun x hx => a1 x hx)] at this
          exact this
theorem mv {F anc : List (Nat × List Nat)} : ∀ (a : List Nat) {pre b : List Nat} {i : Nat} {oi : Oper}, qI D ops F anc pre (a ++ i :: b) = true → ops[i]? = some oi →
    (∀ d ∈ kf oi, d ∈ a ∨ d ∈ pre) ∧ ∀ j, j ∈ a ∨ j ∈ pre → (∃ l, anc.lookup i = some l ∧ j ∈ l) ∨ ∀ oj, ops[j]? = some oj → okF D ops F j i oj oi = true
  | [], pre, b, i, oi, h, hi => by
    simp only [List.nil_append, qI, hi, Bool.and_eq_true] at h
    obtain ⟨⟨h1, h2⟩, _⟩ := h
    refine ⟨fun d hd => .inr (List.contains_iff_mem.1 (List.all_eq_true.1 h1 d hd)), fun j hj => ?_⟩
    have hj := hj.resolve_left (by simp)
    have h3 := List.all_eq_true.1 h2 j hj
    rw [Bool.or_eq_true] at h3
    rcases h3 with h3 | h3
    · left
      have h3 := List.contains_iff_mem.1 h3
      cases hl : anc.lookup i with
      | none => rw [hl] at h3; cases h3
      | some l => rw [hl] at h3; exact ⟨l, rfl, h3⟩
    · right
      intro oj hoj
      simp only [hoj] at h3
      exact h3
  | x :: a, pre, b, i, oi, h, hi => by
    simp only [List.cons_append, qI, Bool.and_eq_true] at h
    obtain ⟨g1, g2⟩ := mv a h.2 hi
    refine ⟨fun d hd => ?_, fun j hj => g2 j ?_⟩
    · rcases g1 d hd with h | h
      · exact .inl (List.mem_cons_of_mem _ h)
      · rcases List.mem_cons.1 h with rfl | h
        · exact .inl (List.mem_cons_self ..)
        · exact .inr h
    · rcases hj with h | h
      · rcases List.mem_cons.1 h with rfl | h
        · exact .inr (List.mem_cons_self ..)
        · exact .inl h
      · exact .inr (List.mem_cons_of_mem _ h)
theorem Ei (hD : cQ P D) (hh : dX D = true) {F : List (Nat × List Nat)} {ord : List Nat} (hR : qJ D ops F ord = true) (Q : Exit → Act → World → Prop) : ∀ (fuel : Nat) (listed : Array Bool) (env envF : Env) (ps : List Prop) (a : Act) (w : World),
    listed.size = ops.size → I0 ops listed → (aU listed ord).length = fuel → xo D ops F (aU listed ord) env → f7 D ops (aU listed ord) env = some (envF, ps) → (∀ p ∈ ps, p) → Sim P D c0 env a w → (∀ a' w', Sim P D c0 envF a' w' → Q .normal a' w') → wpAny P .any ops Q fuel listed a w
  | fuel, listed, env, envF, ps, a, w, hs, hcl, hl, hft, h, hp, hS, hQ => by
    have hR' := hR
    unfold qJ at hR'
    simp only [Bool.and_eq_true] at hR'
    obtain ⟨⟨⟨hR1, hR2⟩, hR3⟩, hR4⟩ := hR'
    have hnd := mG hR1
    have hall : ∀ i ∈ ord, i < ops.size := fun i hi => of_decide_eq_true (List.all_eq_true.1 hR2 i hi)
    have hin : ∀ i, i < ops.size → i ∈ ord := fun i hi => List.contains_iff_mem.1 (List.all_eq_true.1 hR3 i (List.mem_range.2 hi))
    have hanc := uB (ops := ops) ord [] (fun i l h => by cases h)
    have done : Region.ready .any ops listed = [] → aU listed ord = [] := by
      intro hr
      cases hu : aU listed ord with
      | nil => rfl
      | cons i l =>
        exfalso
        obtain ⟨l1, l2, e1, e2, e3, _⟩ := List.filter_eq_cons_iff.1 hu
        have hmem : i ∈ ord := by rw [e1]; simp
        have hlt := hall i hmem
        have hoi : ops[i]? = some ops[i] := Array.getElem?_eq_getElem hlt
        have hready : i ∈ Region.ready .any ops listed := by
          refine mem_ready.2 ⟨by simpa using e3, ops[i], hoi, fun e he hb => ?_⟩
          have hd := (mv l1 (e1 ▸ hR4) hoi).1 e.on (oq.2 ⟨e, he, hb, rfl⟩)
          have hd := hd.resolve_right (by simp)
          have := e2 e.on hd
          have hlt2 := hall e.on (by rw [e1]; exact List.mem_append_left _ hd)
          have : listed.getD e.on true = true := by simpa using this
          rw [Array.getD_eq_getD_getElem?] at this ⊢
          rw [Array.getElem?_eq_getElem (by omega)] at this ⊢
          simpa using this
        rw [hr] at hready
        cases hready
    have final : aU listed ord = [] → Q .normal a w := by
      intro hu
      rw [hu] at h
      have e := Option.some.inj h
      injection e with e1 e2
      subst e1
      exact hQ a w hS
    match fuel, hl with
    | 0, hl =>
      have hu : aU listed ord = [] := List.eq_nil_of_length_eq_zero hl
      refine ⟨?_, final hu⟩
      cases hr : Region.ready .any ops listed with
      | nil => rfl
      | cons i l =>
        exfalso
        have hi : i ∈ Region.ready .any ops listed := by rw [hr]; exact List.mem_cons_self ..
        obtain ⟨h1, oi, hoi, _⟩ := mem_ready.1 hi
        have hlt : i < ops.size := (Array.getElem?_eq_some_iff.1 hoi).1
        have : i ∈ aU listed ord := List.mem_filter.2 ⟨hin i hlt, by simp [h1]⟩
        rw [hu] at this
        cases this
    | fuel + 1, hl =>
      refine ⟨fun hr => final (done hr), fun i hi => ?_⟩
      obtain ⟨h1, oi, hoi, hdep⟩ := mem_ready.1 hi
      have hlt : i < ops.size := (Array.getElem?_eq_some_iff.1 hoi).1
      obtain ⟨pa, pb, ho⟩ := List.append_of_mem (hin i hlt)
      obtain ⟨e1, e2⟩ := ua ho hnd (by omega) h1
      have hdir : ∀ d ∈ kf oi, listed.getD d true = true := by
        intro d hd
        obtain ⟨e, he, hb, rfl⟩ := oq.1 hd
        have hlt2 := hall e.on (by
          rw [ho]
          rcases (mv pa (ho ▸ hR4) hoi).1 e.on hd with h | h
          · exact List.mem_append_left _ h
          · cases h)
        have := hdep e he hb
        rw [Array.getD_eq_getD_getElem?] at this ⊢
        rw [Array.getElem?_eq_getElem (by omega)] at this ⊢
        simpa using this
      rw [e1] at h hft
      have hsm : ∀ j ∈ aU listed pa, ∃ oj, ops[j]? = some oj := fun j hj => by
        have hjo : j ∈ ord := by rw [ho]; exact List.mem_append_left _ (List.mem_filter.1 hj).1
        exact ⟨ops[j]'(hall j hjo), Array.getElem?_eq_getElem (hall j hjo)⟩
      have hfree : ∀ j ∈ aU listed pa, ∀ oj, ops[j]? = some oj → okF D ops F j i oj oi = true := by
        intro j hj oj hoj
        obtain ⟨hj1, hj2⟩ := List.mem_filter.1 hj
        rcases (mv pa (ho ▸ hR4) hoi).2 j (.inl hj1) with ⟨l, hl1, hl2⟩ | hh
        · exfalso
          have := hanc i l (by rw [ho]; exact hl1) j hl2 (fun k => listed.getD k true = true) (fun k o hk hLk d hd => hcl k o hk hLk d hd) (fun o ho' d hd => by
            rw [hoi] at ho'
            have := Option.some.inj ho'
            subst this
            exact hdir d hd)
          have this : listed.getD j true = true := this
          rw [this] at hj2
          cases hj2
        · exact hh oj hoj
      obtain ⟨env1, p1, p2, g1, g2, g3, g4, _⟩ := BO hoi (aU listed pa) (aU listed pb) env envF ps hfree hsm hft h
      refine wpOp_mono (fun a1 w1 hS1 => ?_) (qA hD hh g1 (fun p hp' => hp p (g3 p (List.mem_append_left _ hp'))) hS hoi Q)
      refine Ei hD hh hR Q fuel (listed.setIfInBounds i true) env1 envF p2 a1 w1 (by simp [hs]) (fun k o hk hLk d hd => ?_) ?_ (by rw [e2]; exact g4) (by rw [e2]; exact g2) (fun p hp' => hp p (g3 p (List.mem_append_right _ hp'))) hS1 hQ
      · have hset : ∀ d, listed.getD d true = true → (listed.setIfInBounds i true).getD d true = true := by
          intro d hd
          by_cases e : d = i
          · subst e; simp [Array.getD_eq_getD_getElem?, hs, hlt]
          · rw [getD_set_ne true (Ne.symm e)]; exact hd
        by_cases e : k = i
        · subst e
          rw [hoi] at hk
          have := Option.some.inj hk
          subst this
          exact hset d (hdir d hd)
        · rw [getD_set_ne true (Ne.symm e)] at hLk
          exact hset d (hcl k o hk hLk d hd)
      · rw [e2]
        rw [e1] at hl
        simp only [List.length_append, List.length_cons] at hl ⊢
        omega
theorem BG (hD : cQ P D) (hh : dX D = true) {F : List (Nat × List Nat)} {ord : List Nat} {Q : Exit → Act → World → Prop} {env env' : Env} (hok : qJ D ops F ord = true) (hF : F = sw D ops ord env) {ps : List Prop} (h : f7 D ops ord env = some (env', ps)) (hp : ∀ p ∈ ps, p) {a : Act} {w : World} (hS : Sim P D c0 env a w)
    (hQ : ∀ a' w', Sim P D c0 env' a' w' → Q .normal a' w') : wpAny P .any ops Q ops.size (Array.replicate ops.size false) a { w with drawn := w.drawn + 1 } := by
  have hall : ∀ i ∈ ord, i < ops.size := by
    have h0 := hok
    unfold qJ at h0
    simp only [Bool.and_eq_true] at h0
    exact fun i hi => of_decide_eq_true (List.all_eq_true.1 h0.1.1.2 i hi)
  have hnd : ord.Nodup := by
    have h0 := hok
    unfold qJ at h0
    simp only [Bool.and_eq_true] at h0
    exact mG h0.1.1.1
  have hlen : ord.length = ops.size := by
    have h0 := hok
    unfold qJ at h0
    simp only [Bool.and_eq_true] at h0
    have hp := (List.perm_ext_iff_of_nodup hnd (List.nodup_range (n := ops.size))).2 fun i => ⟨fun hi => List.mem_range.2 (hall i hi), fun hi => List.contains_iff_mem.1 (List.all_eq_true.1 h0.1.2 i hi)⟩
    rw [hp.length_eq, List.length_range]
  have hu : aU (Array.replicate ops.size false) ord = ord := by
    unfold aU
    rw [List.filter_eq_self.2 (fun i hi => ?_)]
    have := hall i hi
    simp [this]
  have hS' : Sim P D c0 env a { w with drawn := w.drawn + 1 } := by
    obtain ⟨⟨G, e1, e2, e4, e5, e6⟩, f1, f2, f3⟩ := hS
    obtain ⟨hM, hE⟩ := e4.kept_on (Kept.drew w)
    exact ⟨⟨G, e1, e2.ext hE, hM, e5.lat hE.lat, fun n => (e6 n).ext hE⟩, f1, f2, f3⟩
  have hft : xo D ops F ord env := Kv ord env hnd (fun _ _ => trivial) (fun i hi => ⟨ops[i]'(hall i hi), Array.getElem?_eq_getElem (hall i hi)⟩) (fun i _ => by rw [hF])
  refine Ei hD hh hok Q ops.size (Array.replicate ops.size false) env env' ps a _ (by simp) (fun k o hk hLk => ?_) (by rw [hu]; exact hlen) (by rw [hu]; exact hft) (by rw [hu]; exact h) hp hS' hQ
  have hlt : k < ops.size := (Array.getElem?_eq_some_iff.1 hk).1
  simp [hlt] at hLk
theorem Jq (hD : cQ P D) (hh : dX D = true) {ord : List Nat} {Q : Exit → Act → World → Prop} {env env' : Env} (hR : zP D ops env = some ord) {ps : List Prop} (h : f7 D ops ord env = some (env', ps)) (hp : ∀ p ∈ ps, p) {a : Act} {w : World} (hS : Sim P D c0 env a w)
    (hQ : ∀ a' w', Sim P D c0 env' a' w' → Q .normal a' w') : wpAny P .any ops Q ops.size (Array.replicate ops.size false) a { w with drawn := w.drawn + 1 } := by
  unfold zP at hR
  split at hR
  · rename_i o ho
    have e := Option.some.inj hR
    subst e
    have hok : so D ops o = true := by
      unfold A0 at ho
      rw [if_pos rfl] at ho
      split at ho
      · rename_i hk; have := Option.some.inj ho; subst this; exact hk
      · split at ho
        · rename_i hk; have := Option.some.inj ho; subst this; exact hk
        · cases ho
    exact Ew hD hh hok h hp hS hQ
  · unfold Nn at hR
    split at hR
    · rename_i hk
      have e := Option.some.inj hR
      subst e
      exact BG hD hh hk rfl h hp hS hQ
    · split at hR
      · rename_i hk
        have e := Option.some.inj hR
        subst e
        exact BG hD hh hk rfl h hp hS hQ
      · cases hR
end
end Go.Proofs.Ytimdnodkabnbfaa
namespace Go.Proofs.Ytimdnodkabnbfaa
open Go Go.RowKit
structure Fx where
 fn : Func
 ann : Ann := {}
 own : List Nat := []
 share : Bool := false
 shareD : Bool := false
 ro : Option Nat := none
def Fx.rd (fx : Fx) (id : Nat) : Fx := { fx with ro := some id }
structure a8 where
 D : aK
 inl : List (Nat × Fx) := []
def a8.at (X : a8) (fx : Fx) : aK := { X.D with n := fx.fn.ntmps, own := fx.own }
structure cr where
 fx : Fx
 todo : List Item
 dst : Option Nat
 s : Nat → K
 rng : Option Nat := none
inductive af : Type 1 where
 | bad (why : Nat)
 | ret (k : K)
 | ite (c : Bool) (t e : af)
 | req (p : Prop) (t : af)
 | all (α : Type) (p : α → Prop) (t : α → af)
 | loop (stk : List cr) (fx : Fx) (todo : List Item) (s : List (Nat × K)) (b : List (Nat × Bx))
def uO : List Prop → af → af
 | [], t => t
 | p :: ps, t => .req p (uO ps t)
inductive bu where
 | data (rs : Ty)
 | row (e : Ty)
 | clp
def toS : a6 → af
 | .ret k => .ret k
 | .bad n => .bad n
 | _ => .bad 30
def Is (e : Ty) (fn : Func) (env : Env) : af :=
 match fn.results.toList with
 | [.tmp t] => match env.s t with
  | .nilsl => .ret (.val (.slc e) [])
  | k => match dK env.b e k with
   | some v => .req v.ok (.ret (.val (.slc e) v.part))
   | none => .bad 31
 | _ => .bad 32
def EV (fn : Func) (env : Env) : af :=
 match fn.results.toList with
 | [.tmp t] => match env.s t with
  | .clip e xs => .ret (.clip e xs)
  | _ => .bad 33
 | _ => .bad 34
def vU : Ty → Bool
 | .pair a b => (isAgg a || decide (siz a = 1)) && vU b
 | .unit => true
 | _ => false
def sf : (b : Ty) → den b → K
 | .pair a b, x => .kcons (.val a x.1) (sf b x.2)
 | _, _ => .knil
def EI (env : Env) (n : Nat) : Option Env :=
 match env.s n with
 | .ptr id _ [] => match ao env.b id with
  | some (.cell (.st bd) x) => if vU bd then some { env with b := aG env.b [(id, .live (.obj (.st bd) (.agg bd (sf bd x))))] } else none
  | some (.obj (.st bd) (.val t x)) => if vU bd then (match d5 (.st bd) t x with
   | some y => some { env with b := aG env.b [(id, .live (.obj (.st bd) (.agg bd (sf bd y))))] }
   | none => none) else none
  | some (.obj _ _) => some env
  | _ => none
 | _ => none
def zn (env : Env) (n : Nat) : Option Env :=
 match env.s n with
 | .ptr id _ [] => match ao env.b id with
  | some (.obj (.slc e) (.sl j _)) => match ao env.b j with
   | some (.row e' xs) => (match d5 (.slc e) (.slc e') xs with
    | some ys => some { env with b := aG env.b [(j, .dead), (id, .live (.cell (.slc e) ys))] }
    | none => none)
   | _ => none
  | some (.obj (.slc e) .nilsl) => some { env with b := aG env.b [(id, .live (.cell (.slc e) []))] }
  | some (.cell _ _) => some env
  | _ => none
 | _ => none
def DA : List ResultVar → Env → Env
 | [], env => env
 | .cell t _ :: l, env => DA l ((zn env t).getD env)
 | .tmp _ :: l, env => DA l env
def xj (X : a8) (m : bu) (fx : Fx) (env : Env) : af :=
 match m with
 | .data rs => toS (xV (X.at fx) rs fx.fn (DA fx.fn.results.toList env))
 | .row e => Is e fx.fn env
 | .clp => EV fx.fn env
def KS (D : aK) (env : Env) : ResultVar → Option K
 | .tmp t => some (strip (env.s t))
 | .cell t ty => match env.s t with
  | .ptr id _ [] => match ao env.b id with
   | some (.cell u x) => if D.ty ty = some u then some (.val u x) else none
   | some (.obj u k) => if D.ty ty = some u then some k else none
   | _ => none
  | _ => none
def Hk (D : aK) (env : Env) : List ResultVar → Option (List K)
 | [] => some []
 | r :: l => match KS D env r, Hk D env l with
  | some k, some ks => some (k :: ks)
  | _, _ => none
def LR (D : aK) (env : Env) (l : List ResultVar) : Option K :=
 match Hk D env l with
 | some [k] => some k
 | some ks => some (ql ks)
 | none => none
def dU (l : List K) (n : Nat) : K := l.getD n .any
def nf : K → List K
 | .kcons a b => a :: nf b
 | _ => []
def Lw : K → Bool
 | .kcons _ b => Lw b
 | .knil => true
 | _ => false
def AK (X : a8) (D : aK) (o : Oper) (env : Env) : Option (Fx × List K) :=
 if o.guard.isSome || !fm D.n o then none else
 match o.op with
 | .call c => match c.callee with
  | .value q => match rd D env.s none q with
   | .fnc f => match X.inl.lookup f with
    | some fx => if decide (c.args.size ≤ fx.fn.ntmps) then some (fx, c.args.toList.map fun x => strip (rd D env.s none x)) else none
    | none => none
   | .clo f cap => match X.inl.lookup f with
    | some fx => if decide (c.args.size + (nf cap).length ≤ fx.fn.ntmps) && nog cap && Lw cap then some (fx, c.args.toList.map (fun x => strip (rd D env.s none x)) ++ nf cap) else none
    | none => none
   | _ => none
  | _ => none
 | _ => none
inductive Stp where
 | one (env : Env) (ps : List Prop)
 | ex (α : Type) (p : α → Prop) (env : α → Env)
def HP (X : a8) (D : aK) (ops : Array Oper) (o : Oper) (env : Env) : Option Stp :=
 match vop D ops o env with
 | some (env', ps) => some (.one env' ps)
 | none => if o.guard.isSome || !fm D.n o then none else
  match fO D o (rd D env.s none) env.b (env.lim + o.dst.getD 0) with
  | some (.one k ch ps) => some (.one { s := put env.s o.dst (strip k), b := aG env.b ch, lim := env.lim } ps)
  | some (.ex α p k ch) => some (.ex α p fun x => { s := put env.s o.dst (strip (k x)), b := aG env.b (ch x), lim := env.lim })
  | none => match dT D o (rd D env.s none) env.b (env.lim + o.dst.getD 0) with
   | some (.one k ch ps) => some (.one { s := put env.s o.dst (strip k), b := aG env.b ch, lim := env.lim } ps)
   | some (.ex α p k ch) => some (.ex α p fun x => { s := put env.s o.dst (strip (k x)), b := aG env.b (ch x), lim := env.lim })
   | none => match L2 D o (rd D env.s none) env.b with
    | some (k, ch, ps) => some (.one { s := put env.s o.dst (strip k), b := aG env.b ch, lim := env.lim } ps)
    | none => none
def sU (b : Nat → BS) : K → List Nat → List Nat
 | .ptr id _ _, acc => addId b id acc
 | .sl id _, acc => addId b id acc
 | .vw id _ _ _, acc => addId b id acc
 | .pm id, acc => addId b id acc
 | .yld id, acc => addId b id acc
 | .asl id _ _ _ _ _ _, acc => addId b id acc
 | .kcons x y, acc => sU b y (sU b x acc)
 | .agg _ c, acc => sU b c acc
 | .clo _ c, acc => sU b c acc
 | .sel _ x y, acc => sU b y (sU b x acc)
 | .ifc _ k, acc => sU b k acc
 | _, acc => acc
where addId (b : Nat → BS) (id : Nat) (acc : List Nat) : List Nat := if (ao b id).isSome && !acc.contains id then acc ++ [id] else acc
def LU (b : Nat → BS) : List (Nat × K) → List Nat → List Nat
 | [], acc => acc
 | (_, k) :: l, acc => LU b l (sU b k acc)
def Qk (b : Nat → BS) : Bx → List Nat → List Nat
 | .obj _ k, acc => sU b k acc
 | .mpk _ k, acc => sU b k acc
 | .lop _ _ s _ _ _ _, acc => LU b s acc
 | _, acc => acc
def Cv (b : Nat → BS) : Nat → Nat → List Nat → List Nat
 | 0, _, acc => acc
 | f + 1, j, acc => match acc[j]? with
  | none => acc
  | some id => match ao b id with
   | some x => Cv b f (j + 1) (Qk b x acc)
   | none => Cv b f (j + 1) acc
def L9 : List Nat → Nat → List (Nat × Nat)
 | [], _ => []
 | i :: l, n => (i, n) :: L9 l (n + 1)
def eM (σ : List (Nat × Nat)) : K → K
 | .ptr id t p => match σ.lookup id with | some j => .ptr j t p | none => .any
 | .sl id e => match σ.lookup id with | some j => .sl j e | none => .any
 | .vw id e lo n => match σ.lookup id with | some j => .vw j e lo n | none => .any
 | .pm id => match σ.lookup id with | some j => .pm j | none => .any
 | .yld id => match σ.lookup id with | some j => .yld j | none => .any
 | .asl id base p m e lo n => match σ.lookup id with | some j => .asl j base p m e lo n | none => .any
 | .kcons x y => .kcons (eM σ x) (eM σ y)
 | .agg b c => .agg b (eM σ c)
 | .clo f c => .clo f (eM σ c)
 | .sel c x y => .sel c (eM σ x) (eM σ y)
 | .ifc t k => .ifc t (eM σ k)
 | .tup _ _ => .any
 | .grd _ _ _ _ => .any
 | .opt _ _ => .any
 | k => k
def pU (σ : List (Nat × Nat)) : List (Nat × K) → List (Nat × K)
 | [] => []
 | (n, k) :: l => (n, eM σ k) :: pU σ l
def De (σ : List (Nat × Nat)) : Bx → Bx
 | .obj t k => .obj t (eM σ k)
 | .mpk t k => .mpk t (eM σ k)
 | .lop st p s f ps a b => .lop st p (pU σ s) f ps a b
 | x => x
def tj (b : Nat → BS) (σ : List (Nat × Nat)) : List (Nat × Nat) → Option (List (Nat × Bx))
 | [] => some []
 | (i, j) :: l => match ao b i, tj b σ l with
  | some x, some r => some ((j, De σ x) :: r)
  | _, _ => none
def unlit : K → K
 | .lit b => .val .bool b
 | k => k
def A3 (s : Nat → K) : Operand → Option Bool
 | .tmp t => match s t with | .lit b => some b | _ => none
 | _ => none
def wT (env : Env) (x : Operand) (b : Bool) : Env :=
 match x with
 | .tmp t => { env with s := fun n => if n = t then .lit b else env.s n }
 | _ => env
def j5 (s : Nat → K) : List Nat → List (Nat × K)
 | [] => []
 | n :: l => match strip (unlit (s n)) with
  | .any => j5 s l
  | k => (n, k) :: j5 s l
def mH : List cr → List (List Nat) → List (cr × List (Nat × K))
 | [], _ => []
 | ct :: stk, [] => (ct, []) :: mH stk []
 | ct :: stk, l :: ls => (ct, j5 ct.s l) :: mH stk ls
def Ob (b : Nat → BS) : Option Nat → List Nat → List Nat
 | none, acc => acc
 | some id, acc => sU.addId b id acc
def Md (b : Nat → BS) : List (cr × List (Nat × K)) → List Nat → List Nat
 | [], acc => acc
 | (ct, l) :: r, acc => Md b r (Ob b ct.rng (Ob b ct.fx.ro (LU b l acc)))
def zS (σ : List (Nat × Nat)) : Option Nat → Option Nat
 | none => none
 | some id => some ((σ.lookup id).getD 0)
def Af (σ : List (Nat × Nat)) : Option Nat → Bool
 | none => true
 | some id => (σ.lookup id).isSome
def KR (σ : List (Nat × Nat)) (fx : Fx) : Fx := { fx with ro := zS σ fx.ro }
def KY (σ : List (Nat × Nat)) : List (cr × List (Nat × K)) → List cr
 | [] => []
 | (ct, l) :: r => { fx := KR σ ct.fx, todo := ct.todo, dst := ct.dst, s := ofS (pU σ l), rng := zS σ ct.rng } :: KY σ r
def A5 (σ : List (Nat × Nat)) : List (cr × List (Nat × K)) → Bool
 | [] => true
 | (ct, _) :: r => Af σ ct.fx.ro && Af σ ct.rng && A5 σ r
def xy (key : Nat) : Code → List Item → Option (Array Oper × List Item)
 | .region id ops _, k => if id = key then some (ops, k) else none
 | .seq a b, k => match xy key a (.code b :: k) with | some r => some r | none => xy key b k
 | .cond _ a b, k => match xy key a k with | some r => some r | none => xy key b k
 | .block id b, k => xy key b (.inBlock id :: k)
 | .loop b, k => xy key b (.inLoop b :: k)
 | .rangeFunc _ _ a c, _ => match xy key a [.beginRound, .code c] with | some r => some r | none => xy key c []
 | _, _ => none
def bw (fn : Func) (key i : Nat) : List Item := match xy key (fn.body.getD .skip) [] with
 | some (ops, k) => .inRegion ops ((List.range ops.size).drop (i + 1)) :: k
 | none => []
def Ak (key : Nat) : Code → List Item → Option (List Item)
 | .seq a b, k => match Ak key a (.code b :: k) with | some r => some r | none => Ak key b k
 | .cond _ a b, k => match Ak key a k with | some r => some r | none => Ak key b k
 | .block id b, k => Ak key b (.inBlock id :: k)
 | .loop b, k => Ak key b (.inLoop b :: k)
 | .rangeFunc _ _ _ c, k => if dc c = some key then some k else Ak key c []
 | _, _ => none
def cF (fn : Func) (key : Nat) : List Item := (Ak key (fn.body.getD .skip) []).getD []
def vO (key : Nat) : Code → Option (Array Nat × Code × Code)
 | .seq a b => match vO key a with | some r => some r | none => vO key b
 | .cond _ a b => match vO key a with | some r => some r | none => vO key b
 | .block _ b => vO key b
 | .loop b => vO key b
 | .rangeFunc _ ps a c => if dc c = some key then some (ps, a, c) else vO key c
 | _ => none
def k9 (fn : Func) (key : Nat) : Array Nat := match vO key (fn.body.getD .skip) with | some r => r.1 | none => #[]
def dC (fn : Func) (key : Nat) : Code := match vO key (fn.body.getD .skip) with | some r => r.2.1 | none => .skip
def fR (fn : Func) (key : Nat) : Code := match vO key (fn.body.getD .skip) with | some r => r.2.2 | none => .skip
def sB (keep : List Nat) (own : List (Nat × Ty)) (stkKeep : List (List Nat)) (stk : List cr) (fx : Fx) (todo : List Item) (env : Env) : af :=
 match zR own env with
 | none => .bad 1
 | some env =>
  let top := j5 env.s keep
  let st := mH stk stkKeep
  let ids := Cv env.b 60 0 (Md env.b st (Ob env.b fx.ro (LU env.b top [])))
  let σ := L9 ids 0
  if fV (σ.map (·.1)) && fV (σ.map (·.2)) && Af σ fx.ro && A5 σ st then
   match tj env.b σ σ with
   | some bs => .loop (KY σ st) (KR σ fx) todo (pU σ top) bs
   | none => .bad 2
  else .bad 13
def xJ (fx : Fx) (key : Nat) : List (List Nat) := [(fx.ann.frz.lookup (1000000 + key)).getD [], (fx.ann.frz.lookup (2000000 + key)).getD [], (fx.ann.frz.lookup (3000000 + key)).getD []]
def kr : List Nat → Env → (Env → af) → af
 | [], env, k => k env
 | d :: l, env, k => match env.s d with
  | .val t x => .all (den t) (fun y => y = x) fun y => kr l { env with s := fun n => if n = d then .val t y else env.s n } k
  | .tup t x => .all (den t) (fun y => y = x) fun y => kr l { env with s := fun n => if n = d then .tup t y else env.s n } k
  | _ => kr l env k
def KC (fx : Fx) (o : Oper) : List Nat :=
 if fx.share then (match o.op, o.dst with
  | .call c, some d => match c.callee with
   | .value _ => [d]
   | _ => []
  | _, _ => []) else []
def Hz (fx : Fx) (o : Oper) : List Nat :=
 if fx.share then (match o.op, o.dst with
  | .call c, some d => match c.callee with
   | .value _ => [d]
   | _ => []
  | .assign _, some d => if fx.shareD then [d] else []
  | _, _ => []) else []
def Of : Operand → List Nat
 | .tmp t => [t]
 | _ => []
def Px (o : Oper) : List Nat := o.op.operands.toList.flatMap Of
def kC : Code → List Nat
 | .region _ ops _ => ops.toList.flatMap Px
 | .seq a b => kC a ++ kC b
 | .cond c a b => Of c ++ kC a ++ kC b
 | .block _ b => kC b
 | .loop b => kC b
 | .rangeFunc q _ a c => Of q ++ kC a ++ kC c
 | _ => []
def sP (X : a8) (D : aK) (q : Operand) (env : Env) : Option (Fx × List K) :=
 match rd D env.s none q with
 | .fnc f => match X.inl.lookup f with
  | some fx => some (fx, [])
  | none => none
 | .clo f cap => match X.inl.lookup f with
  | some fx => if nog cap && Lw cap then some (fx, nf cap) else none
  | none => none
 | _ => none
def Ag (D : aK) (o : Oper) (env : Env) : Option (Nat × List K) :=
 if o.guard.isSome || !fm D.n o then none else
 match o.op with
 | .call c => match c.callee with
  | .value q => match rd D env.s none q with
   | .yld id => some (id, c.args.toList.map fun x => strip (rd D env.s none x))
   | _ => none
  | _ => none
 | _ => none
def NO (id : Nat) : List cr → Option Fx
 | [] => none
 | ct :: stk => if ct.rng = some id then some ct.fx else NO id stk
def uN (s : Nat → K) : List Nat → List K → Nat → K
 | p :: ps, k :: ks => uN (fun n => if n = p then k else s n) ps ks
 | _, _ => s
def dx (o : Oper) : Bool := match o.op with | .defer _ => true | _ => false
def wa (env : Env) : Option Nat → Bool
 | none => true
 | some id => match ao env.b id with | some (.lop _ _ _ _ _ _ _) => true | _ => false
def Fs (s : Nat → K) : Operand → Option Bool
 | .tmp t => match s t with | .lit b => some b | _ => none
 | .const (.bool b) => some b
 | _ => none
def PM (o : Oper) (s : Nat → K) : Option Bool :=
 match o.op with
 | .move (.tmp t) => Fs s (.tmp t)
 | .assign (.tmp t) => Fs s (.tmp t)
 | .unOp .not _ (.tmp t) => (Fs s (.tmp t)).map fun b => !b
 | .pick (.tmp c) x y => match s c with | .lit b => Fs s (if b then x else y) | _ => none
 | _ => none
def OG (D : aK) (o : Oper) (s : Nat → K) : Option K :=
 match o.op with
 | .pick (.tmp c) x y => match s c with | .lit b => some (strip (rd D s none (if b then x else y))) | _ => none
 | _ => none
def vgy (D : aK) (o : Oper) (s : Nat → K) : Option K :=
 match PM o s with
 | some b => some (.lit b)
 | none => OG D o s
def Dc (s : Nat → K) : Nat → Nat → Bool
 | 0, _ => false
 | f + 1, d => match s d with
  | .grd g w _ _ => (match s g with | .lit b => b != w | _ => Dc s f g)
  | _ => false
def AY (s : Nat → K) : Nat → Nat → Option (Nat × Bool)
 | 0, _ => none
 | f + 1, d => match s d with
  | .val .bool c => some (d, c)
  | .grd g _ _ _ => AY s f g
  | _ => none
def CV (d : Nat) (b : Bool) : K → K
 | .grd g w cs k => if g = d then (if w = b then k else .grd g w cs k) else .grd g w cs k
 | k => k
def Iq (env : Env) (d : Nat) (b : Bool) : Env := { env with s := fun n => if n = d then .lit b else CV d b (env.s n) }
def O6 (X : a8) (D : aK) (o : Oper) (s : Nat → K) (d : Nat) (w : Bool) : Bool :=
 match o.op with
 | .call c => match c.callee with
  | .value q => match rd D s (some (d, w)) q with
   | .yld _ => true
   | .fnc f => (X.inl.lookup f).isSome || (D.R.lookup f).isSome
   | .clo f _ => (X.inl.lookup f).isSome
   | _ => false
  | _ => false
 | _ => false
inductive Gy where
 | go (ops : Array Oper) (o : Oper)
 | skip (d : Nat) (w : Bool)
 | val (k : K)
 | split (d : Nat) (c : Bool)
def jz (o : Oper) : Oper := { o with guard := none }
def I2 (X : a8) (D : aK) (ops : Array Oper) (o : Oper) (s : Nat → K) : Gy :=
 match o.guard with
 | none => match vgy D o s with | some k => .val k | none => .go ops o
 | some (j, w) => match (ops[j]?).bind (·.dst) with
  | none => .go ops o
  | some d => match A3 s (.tmp d) with
   | some b => if b = w then (match vgy D o s with | some k => .val k | none => .go #[jz o] (jz o)) else .skip d w
   | none => if Dc s 9 d then .skip d w else if O6 X D o s d w then (match AY s 9 d with | some (d', c) => .split d' c | none => .go ops o) else .go ops o
def DI (ops : Array Oper) : Nat → Array Bool → Option (List Nat)
 | 0, _ => some []
 | n + 1, listed => match Region.ready .any ops listed with
  | [] => some []
  | [i] => (DI ops n (listed.setIfInBounds i true)).map fun l => i :: l
  | _ => none
def nT (ops : Array Oper) (l : List Nat) : Array Bool := l.foldl (fun a i => a.setIfInBounds i true) (Array.replicate ops.size false)
def OC (ops : Array Oper) (i : Nat) : List Nat := ((sM ops (List.range ops.size) []).lookup i).getD []
def Bg (D : aK) (ops : Array Oper) (p : Nat) : Option (List Nat × List Nat) :=
 let ordA := (List.range ops.size).filter fun i => (OC ops p).contains i
 if fV ordA && nO D ops (sM ops (List.range ops.size) []) [] ordA && (List.range ops.size).all (fun i => ordA.contains i || ordA.all fun j => (OC ops i).contains j) then
  (DI ops (ops.size - ordA.length) (nT ops ordA)).map fun l => (ordA, l)
 else none
def Ft (X : a8) (m : bu) (rec : List cr → Fx → List Item → Env → af) (stk : List cr) (fx : Fx) (env : Env) : af :=
 match stk with
 | [] => xj X m fx env
 | ct :: stk => match LR (X.at fx) env fx.fn.results.toList with
  | some k => (match ct.rng with
   | none => rec stk ct.fx ct.todo { s := put ct.s ct.dst k, b := env.b, lim := env.lim }
   | some id => match ao env.b id with
    | some (.lop st pend _ _ _ _ _) => if decide (st = .busy) then .bad 48 else rec stk ct.fx ((pend.map Item.code).toList ++ ct.todo) { s := ct.s, b := aG env.b [(id, .dead)], lim := env.lim }
    | _ => .bad 49)
  | none => .bad 33
def qH (rec : List cr → Fx → List Item → Env → af) (stk : List cr) (env : Env) (id : Nat) (jump : Option Code) : af :=
 match stk with
 | [] => .bad 47
 | ct :: stk => if ct.rng.isSome then .bad 50 else match ao env.b id with
  | some (.lop _ _ s n ps a c) => rec stk ct.fx ct.todo { s := put ct.s ct.dst (if ct.fx.ann.gy then .lit jump.isNone else .val .bool jump.isNone), b := aG env.b [(id, .live (.lop (if jump.isNone then .ready else .done) jump s n ps a c))], lim := env.lim }
  | _ => .bad 46
def ox (X : a8) (m : bu) (rec : List cr → Fx → List Item → Env → af) (stk : List cr) (fx : Fx) (env : Env) (jump : Option Code) : af :=
 match fx.ro with
 | none => Ft X m rec stk fx env
 | some id => qH rec stk env id jump
def Qo : K → Bool
 | .nilsl => true
 | _ => false
def Qb (fx : Fx) (id : Nat) (env : Env) : List Nat := ((fx.ann.frz.lookup id).getD []).filter fun n => decide (n < 200000) && !Qo (env.s n)
def P8 (fx : Fx) (id : Nat) : List Nat := (((fx.ann.frz.lookup id).getD []).filter fun n => decide (200000 ≤ n)).map fun n => n - 200000
def Dg : List Nat → Env → Option Env
 | [], env => some env
 | n :: l, env => match (if 100000 ≤ n then EI env (n - 100000) else zn env n) with | some env => Dg l env | none => none
def DY (fx : Fx) (id : Nat) (env : Env) : Option Env :=
 match Dg (P8 fx id) env with
 | some env => oo (Qb fx id env) env
 | none => none
def aj (X : a8) (m : bu) : Nat → List cr → Fx → List Item → Env → af
  | 0, _, _, _, _ => .bad 5
  | n + 1, stk, fx, todo, env =>
    match todo with
    | [] => ox X m (aj X m n) stk fx env none
    | .code c :: k =>
      match c with
      | .skip => aj X m n stk fx k env
      | .region id ops draw =>
        match DY fx id env with
        | none => .bad 6
        | some env =>
          if ops.toList.any dx then .bad 21 else
          if draw then
            (match fx.ann.piv.lookup id with
            | some p => (match Bg (X.at fx) ops p with
              | none => .bad 52
              | some (ordA, l) => match f7 (X.at fx) ops ordA env with
                | none => .bad (2000 + id)
                | some (env', ps) => uO ps (aj X m n stk fx (.inRegion ops l :: k) { env' with lim := env'.lim + 1000 }))
            | none => match zP (X.at fx) ops env with
            | none => .bad 12
            | some ord => (match f7 (X.at fx) ops ord env with
              | none => .bad (1000 + id)
              | some (env', ps) => uO ps (kr (ops.toList.flatMap (Hz fx)) { env' with lim := env'.lim + 1000 } fun env => aj X m n stk fx k env)))
          else aj X m n stk fx (.inRegion ops (List.range ops.size) :: k) { env with lim := env.lim + 1000 }
      | .seq a b => aj X m n stk fx (.code a :: .code b :: k) env
      | .cond x a b => match A3 env.s x with
        | some true => aj X m n stk fx (.code a :: k) env
        | some false => aj X m n stk fx (.code b :: k) env
        | none => match uk (rd (X.at fx) env.s none x) with
          | some t => .ite t (aj X m n stk fx (.code a :: k) (wT env x true)) (aj X m n stk fx (.code b :: k) (wT env x false))
          | none => .bad 7
      | .block id b => aj X m n stk fx (.code b :: .inBlock id :: k) env
      | .loop b => match (dc b).bind (fun i => (List.lookup i fx.ann.loops).map fun L => (i, L)) with
        | some (i, L) => sB L.keep L.own (xJ fx i) stk fx (.code b :: .inLoop b :: k) env
        | none => .bad 8
      | .exit id => match exitTo id k with
        | some k' => aj X m n stk fx k' env
        | none => match fx.ro with
          | none => .bad 9
          | some rid => qH (aj X m n) stk env rid (some (.exit id))
      | .ret => ox X m (aj X m n) stk fx env (some .ret)
      | .rangeFunc q ps assign body => match sP X (X.at fx) q env with
        | none => .bad 40
        | some (fx', ks) =>
          if aX env.b (env.lim + 999) && wa env fx.ro && decide (1 + ks.length ≤ fx'.fn.ntmps) then
            aj X m n (⟨fx, k, none, env.s, some (env.lim + 999)⟩ :: stk) fx' (aA fx'.fn)
              { s := dU (.yld (env.lim + 999) :: ks), b := aG env.b [(env.lim + 999, .live (.lop .ready none (j5 env.s (tU (kC assign ++ kC body))) fx.fn.ntmps ps assign body))], lim := env.lim + 1000 }
          else .bad 41
      | _ => .bad 10
    | .inBlock _ :: k => aj X m n stk fx k env
    | .inLoop b :: k => match (dc b).bind (fun i => (List.lookup i fx.ann.loops).map fun L => (i, L)) with
      | some (i, L) => sB L.keep L.own (xJ fx i) stk fx (.code b :: .inLoop b :: k) env
      | none => .bad 8
    | .inRegion _ [] :: k => aj X m n stk fx k env
    | .beginRound :: k => match fx.ro with
      | none => .bad 45
      | some id => match ao env.b id with
        | some (.lop .ready pend s nn ps a c) => aj X m n stk fx k { env with b := aG env.b [(id, .live (.lop .busy pend s nn ps a c))] }
        | _ => .bad 44
    | .inRegion ops (i :: l) :: k => match ops[i]? with
      | none => .bad 20
      | some o => if dx o then .bad 21 else
       match (if fx.ann.gy then I2 X (X.at fx) ops o env.s else .go ops o) with
       | .skip d w => if fm (X.at fx).n o then aj X m n stk fx (.inRegion ops l :: k) { env with s := put env.s o.dst (.grd d w [] .any) } else .bad 51
       | .val k' => if fm (X.at fx).n o then aj X m n stk fx (.inRegion ops l :: k) { env with s := put env.s o.dst k' } else .bad 51
       | .split d c => .ite c (aj X m n stk fx (.inRegion ops (i :: l) :: k) (Iq env d true)) (aj X m n stk fx (.inRegion ops (i :: l) :: k) (Iq env d false))
       | .go ops' o' => match Ag (X.at fx) o' env with
       | some (id, ks) => (match ao env.b id, NO id stk with
         | some (.lop .ready _ s nn ps a c), some fx' =>
           if decide (ks.length = ps.size) && decide (nn = fx'.fn.ntmps) && ps.toList.all (fun p => decide (p < nn)) then
             aj X m n (⟨fx, .inRegion ops l :: k, o.dst, env.s, none⟩ :: stk) (fx'.rd id) [.code a, .beginRound, .code c] { s := uN (ofS s) ps.toList ks, b := env.b, lim := env.lim + 1000 }
           else .bad 43
         | _, _ => .bad 42)
       | none => match AK X (X.at fx) o' env with
        | some (fx', ks) => aj X m n (⟨fx, .inRegion ops l :: k, o.dst, env.s, none⟩ :: stk) fx' (aA fx'.fn) { s := dU ks, b := env.b, lim := env.lim + 1000 }
        | none => match HP X (X.at fx) ops' o' env with
          | none => .bad (100000 + 1000 * (dc (.region 0 ops false)).getD 0 + i)
          | some (.one env' ps) => uO ps (kr (KC fx o) env' fun env => aj X m n stk fx (.inRegion ops l :: k) env)
          | some (.ex α p f) => .all α p fun x => aj X m n stk fx (.inRegion ops l :: k) (f x)
    | _ => .bad 11
end Go.Proofs.Ytimdnodkabnbfaa
