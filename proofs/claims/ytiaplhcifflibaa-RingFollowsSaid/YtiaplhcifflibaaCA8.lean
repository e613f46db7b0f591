/- Part 8 of 8 of what this claim's proof stands on: a theory of programs on data, and the contracts of the functions that the law reaches. It holds no condition of its own. -/
import Derived.Test.YtiaplhcifflibaaCA7
namespace Go.Proofs.Ytiaplhcifflibaa
open Go Go.RowKit
theorem jB : aA prog [] cz cB :=
 ci (S := cB) (jA gp) (fx := fb) jv (by kernel_rfl) (fun h => by cases h) (T := fun x => fm x.1 x.2.1) (fun x => i4 x.1 x.2.1) fun O w0 x _ hp =>
  ⟨hp, _, rfl, by show (decide (0 ≤ ixP (prM x.2.1) x.1 0), ()) = (x.1.any (prM x.2.1), ()); rw [Ec]⟩
theorem oo : aA prog [] de dh :=
 ci (S := dh) n5 (fx := il) mW (by kernel_rfl) (fun h => by cases h) (T := fun x => it x.1) (fun x => lq x.1) fun O w0 x _ _ => ⟨_, rfl, rfl⟩
theorem sB : aA prog [] f7 gh :=
 ci (S := gh) (zW w5) (fx := qD) xS (by kernel_rfl) (fun _ _ => trivial) (T := fun x => sS x.1) (fun x => wk x.1) fun O w0 x _ _ => ⟨fun _ => trivial, _, rfl, rfl⟩
theorem qM : aA prog [] m9 m4 :=
 ci (S := m4) (Cm wV B4 sv) (fx := uI) Bh (by kernel_rfl) (fun _ _ => trivial) (T := fun x => wM x.1 x.2.1) (fun x => yH x.1 x.2.1) fun O w0 x hk _ => by
  obtain ⟨a, b, ⟨⟩⟩ := x
  obtain ⟨la, ba⟩ := eI hk.1
  obtain ⟨lb, bb⟩ := eI hk.2.1
  refine ⟨trivial, trivial, rfl, trivial, _, rfl, ?_⟩
  show (fg (fg b (dg a)) pw0, ()) = (aX a b, ())
  have h1 := (CE ba).2
  rw [la] at h1
  have ra := m6 ⟨la, ba⟩
  have rb := m6 ⟨lb, bb⟩
  have e1 : vB (fg b (dg a)) = (vB b + (br - 1 - vB a)) % br := by
   unfold fg
   rw [h1]
   exact (pt 32 (Int.emod_nonneg _ (by decide)) (Int.emod_lt_of_pos _ (by decide))).2
  unfold fg aX
  have e2 : vB (toB 32 ((vB b + vB (dg a)) % br)) = (vB b + (br - 1 - vB a)) % br := e1
  rw [e2, CA]
  have e3 : ((vB b + (br - 1 - vB a)) % br + 1) % br = (vB b - vB a) % br := by
   rw [Int.emod_add_emod, show vB b + (br - 1 - vB a) + 1 = vB b - vB a + br by omega, Int.add_emod_right]
  rw [e3]
abbrev GRi (O : Nat → Prop) (w0 : World) (y : Bool) := bt prog gL (Cx.base O w0) (bZ prog O w0 k6 fun z => z = (y, ()))
theorem kV : XOk prog gL := yN jB vO
theorem qQ (pre : List Mem) (m : Mem) (l : List Mem) : mh pre (m :: l) = ((!(pre.any fun x => dC x m)) && decide (0 ≤ m.1) && decide (m.1 < 16) && mh (pre ++ [m]) l) := rfl
theorem yO {e : Ty} (xs : List (den e)) (i : Nat) : gn e xs 0 (i : Nat) = xs.take i := by
 unfold gn fu
 rw [Int.toNat_natCast]
 exact List.drop_zero
def wZ (O : Nat → Prop) (w0 : World) (l : List Mem) (hm : l.length ≤ maxLen) :=
 PLift.up <| cM (σ := Unit) l.length (fun i _ => mh (l.take i) (l.drop i) = mh [] l)
  (fun i _ => GRi O w0 (ax l) [] eB (lp dR 2) (oQ l l (lnx ab l) (i : Nat)))
  (fun i _ hi hs ih => aM kV (kC l l _ _) (by
   rw [List.drop_eq_getElem_cons hi, qQ, ← List.take_succ_eq_append_getElem hi] at hs
   have hi' : i ≤ l.length := Nat.le_of_lt hi
   refine ⟨fun _ => ⟨bK hi, ⟨Int.le_refl _, Int.natCast_nonneg _, Int.ofNat_le.2 hi'⟩, fun _ => trivial, ⟨_, rfl⟩, ?_⟩, fun hc => absurd hi (by rw [fZ] at hc; exact of_decide_eq_false hc)⟩
   rw [cC hi, d4 hi hm, yO]
   have e1 : ∀ xs : List Mem, (xs.any (prM (some fun y => (dC y.1 l[i], PUnit.unit)))) = xs.any fun x => dC x l[i] := fun xs => rfl
   refine ⟨fun hc => ⟨_, rfl, ?_⟩, fun hc => ih () ?_⟩
   ·rw [e1] at hc
    show (false, ()) = (ax l, ())
    have : mh [] l = false := by
     rw [← hs]
     cases h1 : (l.take i).any (fun x => dC x l[i]) with
     | true => rfl
     | false =>
      rw [h1] at hc
      by_cases h2 : (l[i].1 : Int) < 0
      ·rw [decide_eq_false (show ¬ (0 : Int) ≤ l[i].1 from fun h => absurd h2 (Int.not_lt.2 h))]; rfl
      ·rw [decide_eq_false h2] at hc
       have h3 : (16 : Int) ≤ l[i].1 := of_decide_eq_true hc
       rw [decide_eq_false (show ¬ (l[i].1 : Int) < 16 from Int.not_lt.2 h3)]
       cases decide (0 ≤ l[i].1) <;> rfl
    unfold ax
    rw [this]
    rfl
   ·rw [e1] at hc
    rw [← hs]
    cases h1 : (l.take i).any (fun x => dC x l[i]) with
    | true => rw [h1] at hc; cases hc
    | false =>
     rw [h1] at hc
     by_cases h2 : (l[i].1 : Int) < 0
     ·rw [decide_eq_true h2] at hc; cases hc
     ·rw [decide_eq_false h2] at hc
      have h3 : ¬ (16 : Int) ≤ l[i].1 := of_decide_eq_false hc
      rw [decide_eq_true (show (0 : Int) ≤ l[i].1 from Int.not_lt.1 h2), decide_eq_true (show (l[i].1 : Int) < 16 from Int.not_le.1 h3)]
      rfl))
  (fun _ hs => aM kV (kC l l _ _) (by
   refine ⟨fun hc => absurd (of_decide_eq_true hc) (Int.lt_irrefl _), fun _ => ⟨_, rfl, ?_⟩⟩
   rw [List.drop_length] at hs
   show (decide ((l.length : Int) ≤ 16), ()) = (ax l, ())
   unfold ax
   rw [← hs]
   have : decide ((l.length : Int) ≤ 16) = decide (l.length ≤ 16) := decide_eq_decide.2 (by omega)
   rw [this]
   rfl))
theorem l7 : aA prog [] dp dv :=
 ci (S := dv) kV (fx := eB) xe (by kernel_rfl) (fun _ _ => trivial) (T := fun x => rh x.1) (fun x => tM x.1) fun O w0 x hk _ =>
  (wZ O w0 x.1 hk.1.1).down 0 () (Nat.zero_le _) rfl
abbrev GR7 (O : Nat → Prop) (w0 : World) (y : Bool) := bt prog iA (Cx.base O w0) (bZ prog O w0 mB fun z => z = (y, ()))
def xn (O : Nat → Prop) (w0 : World) (l : List Mem) (hm : l.length ≤ maxLen) (i : Nat) (hi : i < l.length) (hfalse : ((l.take i).any fun x => dC x l[i]) = true → ax l = false)
    (hnext : ((l.take i).any fun x => dC x l[i]) = false → GR7 O w0 (ax l) [] cq (lp cu 2) (kW l l (lnx ab l) ((i + 1 : Nat) : Int))) :=
  PLift.up <| cM (σ := Unit) (l.take i).length (fun j _ => ((l.take i).take j).any (fun x => dC x l[i]) = false)
    (fun j _ => GR7 O w0 (ax l) [] cq (lp cu 7) (pP l l (lnx ab l) (i : Nat) (l.take i) (lnx ab (l.take i)) (j : Nat) l[i]))
    (fun j _ hj hs ih => aM iv (ld l l _ _ (l.take i) _ _ l[i]) (by
      have hmj : (l.take i).length ≤ maxLen := Nat.le_trans (by rw [List.length_take]; omega) hm
      refine ⟨fun _ => ⟨bK hj, ?_⟩, fun hc => absurd hj (by rw [fZ] at hc; exact of_decide_eq_false hc)⟩
      rw [cC hj, d4 hj hmj]
      refine ⟨fun hc => ⟨_, rfl, ?_⟩, fun hc => ih () ?_⟩
      · have hc : dC (l.take i)[j] l[i] = true := hc
        rw [hfalse (List.any_eq_true.2 ⟨_, List.getElem_mem hj, hc⟩)]
      · have hc : dC (l.take i)[j] l[i] = false := hc
        rw [List.take_succ_eq_append_getElem hj, List.any_append, hs, Bool.false_or, List.any_cons, hc]
        rfl))
    (fun _ hs => aM iv (ld l l _ _ (l.take i) _ _ l[i]) (by
      rw [List.take_length] at hs
      refine ⟨fun hc => absurd (of_decide_eq_true hc) (Int.lt_irrefl _), fun _ => ?_⟩
      rw [d4 hi hm]
      exact hnext hs))
def ye (O : Nat → Prop) (w0 : World) (l : List Mem) (hm : l.length ≤ maxLen) :=
  PLift.up <| cM (σ := Unit) l.length (fun i _ => mh (l.take i) (l.drop i) = mh [] l)
    (fun i _ => GR7 O w0 (ax l) [] cq (lp cu 2) (kW l l (lnx ab l) (i : Nat)))
    (fun i _ hi hs ih => aM iv (lj l l _ _) (by
      rw [List.drop_eq_getElem_cons hi, qQ, ← List.take_succ_eq_append_getElem hi] at hs
      have hi' : i ≤ l.length := Nat.le_of_lt hi
      refine ⟨fun _ => ⟨bK hi, ?_⟩, fun hc => absurd hi (by rw [fZ] at hc; exact of_decide_eq_false hc)⟩
      rw [cC hi, yO]
      refine ⟨fun hc => ⟨_, rfl, ?_⟩, fun hc => ⟨⟨Int.le_refl _, Int.natCast_nonneg _, Int.ofNat_le.2 hi'⟩, ?_⟩⟩
      · show (false, ()) = (ax l, ())
        have : mh [] l = false := by
          rw [← hs]
          by_cases h2 : (l[i].1 : Int) < 0
          · rw [decide_eq_false (show ¬ (0 : Int) ≤ l[i].1 from fun h => absurd h2 (Int.not_lt.2 h))]
            cases (l.take i).any (fun x => dC x l[i]) <;> rfl
          · rw [decide_eq_false h2] at hc
            have h3 : (15 : Int) < l[i].1 := of_decide_eq_true hc
            rw [decide_eq_false (show ¬ (l[i].1 : Int) < 16 from Int.not_lt.2 h3)]
            cases (l.take i).any (fun x => dC x l[i]) <;> cases decide (0 ≤ l[i].1) <;> rfl
        unfold ax
        rw [this]
        rfl
      · have hok : decide (0 ≤ l[i].1) = true ∧ decide (l[i].1 < 16) = true := by
          by_cases h2 : (l[i].1 : Int) < 0
          · rw [decide_eq_true h2] at hc; cases hc
          · rw [decide_eq_false h2] at hc
            have h3 : ¬ (15 : Int) < l[i].1 := of_decide_eq_false hc
            exact ⟨decide_eq_true (show (0 : Int) ≤ l[i].1 from Int.not_lt.1 h2), decide_eq_true (show (l[i].1 : Int) < 16 from Int.lt_of_not_ge h3)⟩
        rw [hok.1, hok.2] at hs
        refine (xn O w0 l hm i hi (fun h => ?_) (fun h => ih () ?_)).down 0 () (Nat.zero_le _) rfl
        · rw [h] at hs
          unfold ax
          rw [← hs]
          rfl
        · rw [h] at hs
          exact hs))
    (fun _ hs => aM iv (lj l l _ _) (by
      refine ⟨fun hc => absurd (of_decide_eq_true hc) (Int.lt_irrefl _), fun _ => ⟨_, rfl, ?_⟩⟩
      rw [List.drop_length] at hs
      show (decide ((l.length : Int) ≤ 16), ()) = (ax l, ())
      unfold ax
      rw [← hs]
      have : decide ((l.length : Int) ≤ 16) = decide (l.length ≤ 16) := decide_eq_decide.2 (by omega)
      rw [this]
      rfl))
theorem Ae : aA prog [] jT j2 :=
 ci (S := j2) iv (fx := cq) xO (by kernel_rfl) (fun _ _ => trivial) (T := fun x => sU x.1) (fun x => vN x.1) fun O w0 x hk _ =>
  (ye O w0 x.1 hk.1.1).down 0 () (Nat.zero_le _) rfl
theorem s9 (b : List Mem) (x : Mem) : b ++ List.set (List.replicate 1 (zero ab)) 0 x = b ++ [x] := rfl
abbrev GSo (O : Nat → Prop) (w0 : World) (y : List Mem) := bt prog bv (Cx.base O w0) (bZ prog O w0 du fun z => z = (y, ()))
theorem iL : XOk prog bv := kP kM
def xk (O : Nat → Prop) (w0 : World) (xs : List Mem) (f : den (ne ab)) (hp : ft ab f xs) :=
 PLift.up <| cM (σ := List Mem) xs.length (fun i b => b = xs.take i)
  (fun i b => GSo O w0 (dl ab f xs) (bR f xs (lnx ab xs) (i : Nat) b) bm (lp a6 1) (bQ f xs (lnx ab xs) (i : Nat) b))
  (fun i b hi hb ih => aM iL (bE f xs _ _ b) (by
   have hlen := hp.len
   refine ⟨fun _ => ⟨bK hi, ?_⟩, fun hc => absurd hi (by rw [fZ] at hc; exact of_decide_eq_false hc)⟩
   rw [cC hi, d4 hi (by omega), s9, hb, ← List.take_succ_eq_append_getElem hi]
   have hl : (xs.take (i + 1)).length ≤ 1000000 := by rw [List.length_take]; omega
   refine ⟨Nat.le_trans hl (by decide), (fun hc => by cases hc), fun _ => ih _ rfl⟩))
  (fun b hb => aM iL (bE f xs _ _ b) (by
   rw [List.take_length] at hb
   subst hb
   exact ⟨fun hc => absurd (of_decide_eq_true hc) (Int.lt_irrefl _), fun _ => ⟨hp, _, rfl, rfl⟩⟩))
theorem kG : aA prog [] cE cG :=
 ci (S := cG) iL (fx := aY) kA (by kernel_rfl) (fun h => by cases h) (T := fun x => fS x.1 x.2.1) (fun x => ju x.1 x.2.1) fun O w0 x _ hp => by
  obtain ⟨⟨xs, ⟨⟩⟩, f, ⟨⟩⟩ := x
  have hp : ft ab f xs := hp
  have hlen := hp.len
  refine aM iL (db f xs (lnx ab xs) 0) ?_
  refine ⟨fun hc => ?_, fun hc => ?_⟩
  ·have h0 : 0 < xs.length := Int.ofNat_lt.1 (of_decide_eq_true hc)
   refine ⟨bK (i := 0) h0, ?_⟩
   rw [show (0 : Int) = ((0 : Nat) : Int) from rfl, cC h0, d4 h0 (by omega)]
   refine ⟨show 1 ≤ cQ by decide, (fun hc => by cases hc), fun _ => ?_⟩
   refine (xk O w0 xs f hp).down 1 _ h0 ?_
   rw [List.take_succ_eq_append_getElem h0]
   rfl
  ·have h0 : xs = [] := List.eq_nil_of_length_eq_zero (by have := of_decide_eq_false hc; have h2 : ¬ (0 : Int) < (xs.length : Int) := this; omega)
   subst h0
   refine ⟨hp, _, rfl, ?_⟩
   show (([] : List Mem), ()) = (List.mergeSort [] _, ())
   rw [List.mergeSort_nil]
end Go.Proofs.Ytiaplhcifflibaa
namespace Go.Proofs.Ytiaplhcifflibaa
open Go Go.RowKit
abbrev od (m : Mem) : Int := vB m.2.1
abbrev OkM (l : List Mem) : Prop := ∀ m ∈ l, okT ab m
theorem eN {m : Mem} (h : okT ab m) : oq m.2.1 := D6 h.2.1
theorem wQ : ∀ (l pre : List Mem), mh pre l = true → (∀ m ∈ l, 0 ≤ (m.1 : Int) ∧ (m.1 : Int) < 16) ∧ (∀ m ∈ l, ∀ x ∈ pre, dC x m = false) ∧ l.Pairwise fun x m => dC x m = false
 | [], _, _ => ⟨fun _ h => (by cases h), fun _ h => (by cases h), List.Pairwise.nil⟩
 | m :: l, pre, h => by
  rw [qQ] at h
  simp only [Bool.and_eq_true, Bool.not_eq_true', decide_eq_true_eq] at h
  obtain ⟨⟨⟨h1, h2⟩, h3⟩, h4⟩ := h
  obtain ⟨i1, i2, i3⟩ := wQ l (pre ++ [m]) h4
  have h1 : ∀ x ∈ pre, dC x m = false := fun x hx => by
   have := List.any_eq_false.1 h1 x hx
   simpa using this
  refine ⟨fun z hz => ?_, fun z hz x hx => ?_, List.pairwise_cons.2 ⟨fun z hz => i2 z hz m (List.mem_append.2 (.inr List.mem_cons_self)), i3⟩⟩
  ·rcases List.mem_cons.1 hz with rfl | hz
   ·exact ⟨h2, h3⟩
   ·exact i1 z hz
  ·rcases List.mem_cons.1 hz with rfl | hz
   ·exact h1 x hx
   ·exact i2 z hz x (List.mem_append.2 (.inl hx))
theorem vp {x m : Mem} (h : x.1 = m.1) : dC x m = true := by unfold dC; rw [decide_eq_true h]; rfl
theorem An {x m : Mem} (h : x.2.1 = m.2.1) : dC x m = true := by
 unfold dC
 have : eqb tId x.2.1 m.2.1 = true := (oN (t := tId) rfl _ _).2 h
 rw [this]
 cases decide (x.1 = m.1) <;> rfl
structure RR (l : List Mem) : Prop where
 len : l.length ≤ 16
 no : ∀ m ∈ l, 0 ≤ (m.1 : Int) ∧ (m.1 : Int) < 16
 pw : l.Pairwise fun x m => dC x m = false
theorem jk {l : List Mem} (h : ax l = true) : RR l := by
 unfold ax at h
 simp only [Bool.and_eq_true, decide_eq_true_eq] at h
 obtain ⟨h1, h2⟩ := h
 obtain ⟨i1, _, i3⟩ := wQ l [] h1
 exact ⟨h2, i1, i3⟩
theorem RR.at {l : List Mem} (h : RR l) {i j : Nat} (hij : i < j) (hj : j < l.length) : dC l[i] l[j] = false := List.pairwise_iff_getElem.1 h.pw i j (by omega) hj hij
theorem RR.inj {l : List Mem} (h : RR l) {x y : Mem} (hx : x ∈ l) (hy : y ∈ l) (e : x.1 = y.1 ∨ x.2.1 = y.2.1) : x = y := by
 obtain ⟨i, hi, rfl⟩ := List.getElem_of_mem hx
 obtain ⟨j, hj, rfl⟩ := List.getElem_of_mem hy
 rcases Nat.lt_trichotomy i j with h1 | h1 | h1
 ·have := h.at h1 hj
  rcases e with e | e
  ·rw [vp e] at this; cases this
  ·rw [An e] at this; cases this
 ·subst h1; rfl
 ·have := h.at h1 hi
  rcases e with e | e
  ·rw [vp e.symm] at this; cases this
  ·rw [An e.symm] at this; cases this
theorem RR.nodup {l : List Mem} (h : RR l) : l.Nodup := List.Pairwise.imp (fun {x m} hf e => by rw [e, vp rfl] at hf; cases hf) h.pw
theorem RR.rng {l : List Mem} (h : RR l) (hk : OkM l) : Bj od br l :=
 ⟨fun m hm => m6 (eN (hk m hm)), fun x hx y hy e => h.inj hx hy (.inr (Eu (by rw [(eN (hk x hx)).1, (eN (hk y hy)).1]) (eN (hk x hx)).2 (eN (hk y hy)).2 e))⟩
theorem lP {a b : List Int} (ha : oq a) (hb : oq b) : vB (aX a b) = rky br (vB a) (vB b) := EK ha hb
theorem DO (id : List Int) (x y : Mem) : cfD ab (cD id) x y = d8 (aX id x.2.1) (aX id y.2.1) := rfl
theorem oC (id : List Int) (x y : Mem) : ltD ab (cD id) x y = decide (vB (aX id x.2.1) < vB (aX id y.2.1)) := by
 unfold ltD
 rw [DO]
 exact decide_eq_decide.2 yg
theorem Dl {l : List Mem} (h : RR l) (hk : OkM l) {id : List Int} (hid : oq id) : ft ab (cD id) l := by
 refine ⟨⟨_, rfl⟩, ⟨fun x => ?_, fun x y z h1 h2 => ?_, fun x y z h1 h2 => ?_⟩, fun x hx y hy h1 h2 => ?_, Nat.le_trans h.len (by decide)⟩
 ·rw [oC]; exact decide_eq_false (Int.lt_irrefl _)
 ·rw [oC] at *; exact decide_eq_true (Int.lt_trans (of_decide_eq_true h1) (of_decide_eq_true h2))
 ·rw [oC] at *
  have h1 := of_decide_eq_false h1
  have h2 := of_decide_eq_false h2
  exact decide_eq_false (by omega)
 ·rw [oC] at *
  have h1 := of_decide_eq_false h1
  have h2 := of_decide_eq_false h2
  have e : vB (aX id x.2.1) = vB (aX id y.2.1) := by omega
  rw [lP hid (eN (hk x hx)), lP hid (eN (hk y hy))] at e
  exact (h.rng hk).inj x hx y hy (xK (m6 hid) ((h.rng hk).in' x hx) ((h.rng hk).in' y hy) e)
theorem Dn {l : List Mem} (h : RR l) (hk : OkM l) {id : List Int} (hid : oq id) : iP od br (vB id) l (dl ab (cD id) l) ∧ (dl ab (cD id) l).length = l.length := by
 have hl : (dl ab (cD id) l).length = l.length := List.length_mergeSort ..
 have hmem : ∀ x, x ∈ dl ab (cD id) l ↔ x ∈ l := fun x => List.mem_mergeSort
 refine ⟨⟨hmem, ?_⟩, hl⟩
 have hle : ∀ x y : Mem, (!ltD ab (cD id) y x) = true ↔ vB (aX id x.2.1) ≤ vB (aX id y.2.1) := fun x y => by
  rw [oC, Bool.not_eq_true', decide_eq_false_iff_not]
  omega
 have hs := List.pairwise_mergeSort (le := fun x y => !ltD ab (cD id) y x) (fun a b c h1 h2 => (hle a c).2 (Int.le_trans ((hle a b).1 h1) ((hle b c).1 h2))) (fun a b => by
  rw [Bool.or_eq_true, hle, hle]
  exact Int.le_total _ _) l
 have hnd : (dl ab (cD id) l).Nodup := (List.mergeSort_perm l _).nodup_iff.2 h.nodup
 refine List.pairwise_iff_getElem.2 fun i j hi hj hij => ?_
 have h1 := (hle _ _).1 (List.pairwise_iff_getElem.1 hs i j hi hj hij)
 have mi := (hmem _).1 (List.getElem_mem hi)
 have mj := (hmem _).1 (List.getElem_mem hj)
 have k1 := lP hid (eN (hk _ mi))
 have k2 := lP hid (eN (hk _ mj))
 show rky br (vB id) (vB (dl ab (cD id) l)[i].2.1) < rky br (vB id) (vB (dl ab (cD id) l)[j].2.1)
 rw [← k1, ← k2]
 refine Int.lt_iff_le_and_ne.2 ⟨h1, fun e => ?_⟩
 rw [k1, k2] at e
 have := (h.rng hk).inj _ mi _ mj (xK (m6 hid) ((h.rng hk).in' _ mi) ((h.rng hk).in' _ mj) e)
 exact List.pairwise_iff_getElem.1 hnd i j hi hj hij this
theorem yQ : aA prog [] js gD :=
 ci (S := gD) (zg l7 sB mX) (fx := p4) xg (by kernel_rfl) (fun _ _ => trivial) (T := fun x => qJ x.1 x.2.1) (fun x => uo x.1 x.2.1) fun O w0 x _ _ => by
  obtain ⟨l, id, ⟨⟩⟩ := x
  have leaf : ∀ {p : Mem × Int}, dz l id = p → ∃ z, aO k3 (K.val (Ty.pair ab (Ty.pair ae Ty.unit)) (p.1, p.2, ())) = some z ∧ z = gD.g (l, id, ()) := fun {p} e =>
   ⟨_, rfl, by show (p.1, p.2, ()) = ((dz l id).1, (dz l id).2, ()); rw [e]⟩
  refine ⟨trivial, fun h => leaf (p := (_, _)) ?_, fun h => ⟨fun h2 => leaf (p := (_, _)) ?_, fun h2 => ⟨trivial, ⟨⟨_, rfl⟩, ?_⟩, leaf (p := (_, _)) ?_⟩⟩⟩
  ·unfold dz; rw [h]; rfl
  ·unfold dz; rw [h, h2]; rfl
  ·have h2 : ¬ ((List.length l : Nat) : Int) = 0 := of_decide_eq_false h2
   exact Nat.pos_of_ne_zero fun e => h2 (by rw [e]; rfl)
  ·unfold dz; rw [h, h2]; rfl
theorem tI {l : List Mem} {no : Int} (h : ¬ gk l no < 0) : ∃ k : Nat, ∃ hk : k < l.length, gk l no = (k : Int) ∧ l[k].1 = no := by
 have ha : l.any (fun m => decide (m.1 = no)) = true := by
  cases e : l.any (fun m => decide (m.1 = no)) with
  | true => rfl
  | false => exact absurd (by unfold gk; rw [(kg _ l 0 (Int.le_refl _)).2 e]; decide) h
 obtain ⟨k, hk, e1, e2⟩ := Cy _ l 0 ha
 exact ⟨k, hk, by unfold gk; rw [e1]; omega, of_decide_eq_true e2⟩
theorem iI : aA prog [] ew dE :=
 ci (S := dE) (xb l7 gp uf oo sB kG) (fx := oG) vW (by kernel_rfl) (fun _ _ => trivial) (T := fun x => pV x.1 x.2.1) (fun x => tj x.1 x.2.1) fun O w0 x hk _ => by
  obtain ⟨l, no, ⟨⟩⟩ := x
  have leaf : ∀ {p : List Mem × Int}, aC l no = p → ∃ z, aO jR (K.val (Ty.pair (Ty.slc ab) (Ty.pair ae Ty.unit)) (p.1, p.2, ())) = some z ∧ z = dE.g (l, no, ()) := fun {p} e =>
   ⟨_, rfl, by show (p.1, p.2, ()) = ((aC l no).1, (aC l no).2, ()); rw [e]⟩
  refine ⟨trivial, fun h => leaf (p := (_, _)) ?_, fun h => ⟨fun _ => trivial, ⟨_, rfl⟩, fun h2 => leaf (p := (_, _)) ?_, fun h2 => ?_⟩⟩
  ·unfold aC; rw [h]; rfl
  ·have h2 : decide (gk l no < 0) = true := h2
   unfold aC; rw [h, h2]; rfl
  ·have h2 : decide (gk l no < 0) = false := h2
   obtain ⟨k, hkl, e1, e2⟩ := tI (of_decide_eq_false h2)
   have hin : inB (gk l no) (lnx ab l) := by rw [e1]; exact bK hkl
   have hel : el ab l (gk l no) = l[k] := by rw [e1]; exact cC hkl
   refine ⟨trivial, hin, trivial, ?_, leaf (p := (_, _)) ?_⟩
   ·show ft ab (cD (el ab l (gk l no)).2.1) l
    rw [hel]
    exact Dl (jk (by simpa using h)) hk.1.2 (eN (hk.1.2 _ (List.getElem_mem hkl)))
   ·unfold aC; rw [h, h2]; rfl
theorem uO {l : List Mem} {no : Int} (h : (aC l no).2 = 0) : (aC l no).1.length = l.length ∧ 0 < l.length ∧ ax l = true ∧ ¬ gk l no < 0 := by
 unfold aC at h ⊢
 cases hr : ax l with
 | false => rw [hr] at h; cases h
 | true =>
  rw [hr] at h
  by_cases h2 : gk l no < 0
  ·rw [decide_eq_true h2] at h; cases h
  ·rw [decide_eq_false h2]
   obtain ⟨k, hk, _⟩ := tI h2
   exact ⟨List.length_mergeSort .., by omega, rfl, h2⟩
abbrev GAf (O : Nat → Prop) (w0 : World) (y : List Mem) := bt prog jm (Cx.base O w0) (bZ prog O w0 fT fun z => z = (y, 0, ()))
def w6 (O : Nat → Prop) (w0 : World) (all : List Mem) (n : Nat) (h0 : 0 < all.length) (hl : all.length ≤ 1000000) (hn : n ≤ 16) :=
 PLift.up <| cM (σ := List Mem) n (fun i b => b = nV all i ∧ b.length = i)
  (fun i b => GAf O w0 (nV all n) [] ep (lp dY 8) (oP all (n : Int) (i : Nat) b))
  (fun i b hi hb ih => aM (l8 iI) (kz all _ _ b) (by
   obtain ⟨h1, h2⟩ := hb
   have hlen : lnx ab all = (all.length : Int) := rfl
   have e1 : IntKind.wrap .i64 ((i : Int) + 1) = (i : Int) + 1 := bn (by omega)
   have hm : 0 ≤ Int.tmod ((i : Int) + 1) all.length ∧ Int.tmod ((i : Int) + 1) all.length < all.length := ⟨Int.tmod_nonneg _ (by omega), Int.tmod_lt_of_pos _ (by omega)⟩
   refine ⟨fun _ => ?_, fun hc => absurd (Int.ofNat_lt.2 hi) (of_decide_eq_false hc)⟩
   rw [e1, hlen, s9]
   refine ⟨(show (all.length : Int) ≠ 0 by omega), hm, ?_, ?_⟩
   ·rw [List.length_append, h2]
    exact show i + 1 ≤ 1073741824 by omega
   ·rw [show (i : Int) + 1 = ((i + 1 : Nat) : Int) by omega]
    refine ih _ ⟨?_, by rw [List.length_append, h2]; rfl⟩
    rw [h1]
    rfl))
  (fun b hb => aM (l8 iI) (kz all _ _ b) ⟨fun hc => absurd (of_decide_eq_true hc) (Int.lt_irrefl _), fun _ => ⟨_, rfl, by rw [hb.1]⟩⟩)
theorem yo : aA prog [] jo gT :=
 ci (S := gT) (l8 iI) (fx := ep) xf (by kernel_rfl) (fun _ _ => trivial) (T := fun x => qw x.1 x.2.1 x.2.2.1) (fun x => uR x.1 x.2.1 x.2.2.1) fun O w0 x hk _ => by
  obtain ⟨l, no, many, ⟨⟩⟩ := x
  have leaf : ∀ {p : List Mem × Int}, bf l no many = p → ∃ z, aO fT (K.val (Ty.pair (Ty.slc ab) (Ty.pair ae Ty.unit)) (p.1, p.2, ())) = some z ∧ z = gT.g (l, no, many, ()) := fun {p} e =>
   ⟨_, rfl, by show (p.1, p.2, ()) = ((bf l no many).1, (bf l no many).2, ()); rw [e]⟩
  refine ⟨fun h => leaf (p := (_, _)) ?_, fun h => ⟨trivial, i8 ⟨fun h2 => leaf (p := (_, _)) ?_, fun h2 => ?_⟩⟩⟩
  ·unfold bf; rw [h]; rfl
  ·have h2 : (!decide ((aC l no).2 = 0)) = true := h2
   unfold bf; rw [h, h2]; rfl
  ·have h2 : (!decide ((aC l no).2 = 0)) = false := h2
   have h3 : (aC l no).2 = 0 := by simpa using h2
   obtain ⟨t1, t2, t3, _⟩ := uO h3
   have hln := (jk t3).len
   have hmany : 0 ≤ (many : Int) ∧ (many : Int) ≤ 16 := by
    by_cases h4 : many < (0 : Int)
    ·rw [decide_eq_true h4] at h; cases h
    ·rw [decide_eq_false h4] at h
     have h5 : ¬ (16 : Int) < many := of_decide_eq_false h
     exact ⟨Int.not_lt.1 h4, Int.not_lt.1 h5⟩
   obtain ⟨n, hn⟩ : ∃ n : Nat, (n : Int) = many := ⟨Int.toNat many, Int.toNat_of_nonneg hmany.1⟩
   subst hn
   have e : bf l no (n : Int) = (nV (aC l no).1 n, 0) := by unfold bf; rw [h, h2]; rfl
   show bt _ _ _ (bZ prog O w0 fT fun z => z = ((bf l no (n : Int)).1, (bf l no (n : Int)).2, ())) _ _ _ _
   rw [e]
   exact (w6 O w0 (aC l no).1 n (by omega) (by omega) (Int.ofNat_le.1 hmany.2)).down 0 [] (Nat.zero_le _) ⟨rfl, rfl⟩
theorem w4 : aA prog [] iE fX :=
 ci (S := fX) (xl iI) (fx := ou) vU (by kernel_rfl) (fun _ _ => trivial) (T := fun x => pT x.1 x.2.1) (fun x => tG x.1 x.2.1) fun O w0 x hk _ => by
  obtain ⟨l, no, ⟨⟩⟩ := x
  have leaf : ∀ {p : Mem × Int}, bA l no = p → ∃ z, aO jO (K.val (Ty.pair ab (Ty.pair ae Ty.unit)) (p.1, p.2, ())) = some z ∧ z = fX.g (l, no, ()) := fun {p} e =>
   ⟨_, rfl, by show (p.1, p.2, ()) = ((bA l no).1, (bA l no).2, ()); rw [e]⟩
  refine ⟨trivial, i8 ⟨fun h2 => leaf (p := (_, _)) ?_, fun h2 => ?_⟩⟩
  ·have h2 : (!decide ((aC l no).2 = 0)) = true := h2
   unfold bA; rw [h2]; rfl
  ·have h2 : (!decide ((aC l no).2 = 0)) = false := h2
   have h3 : (aC l no).2 = 0 := by simpa using h2
   obtain ⟨t1, t2, t3, _⟩ := uO h3
   have hln := (jk t3).len
   have e1 : lnx ab (aC l no).1 = ((aC l no).1.length : Int) := rfl
   have e2 : IntKind.wrap .i64 (lnx ab (aC l no).1 - 1) = ((aC l no).1.length : Int) - 1 := by rw [e1]; exact bn (by omega)
   rw [e2]
   refine ⟨⟨by omega, by rw [e1]; omega⟩, leaf (p := (_, _)) ?_⟩
   unfold bA; rw [h2]; rfl
abbrev GOw (O : Nat → Prop) (w0 : World) (y : Mem) := bt prog jS (Cx.base O w0) (bZ prog O w0 mG fun z => z = (y, ()))
def yv (O : Nat → Prop) (w0 : World) (l : List Mem) (id : List Int) (z : Mem) (hm : l.length ≤ maxLen) :=
 PLift.up <| cM (σ := Mem) l.length (fun i b => b = (l.take i).foldl (jq id) noM)
  (fun i b => GOw O w0 (oB l id) [] dW (lp dK 3) (pZ l (lnx ab l) (i : Nat) id z b))
  (fun i b hi hb ih => aM (nR qM kF) (lf l _ _ id z b) (by
   have hst : (l.take (i + 1)).foldl (jq id) noM = jq id b l[i] := by rw [List.take_succ_eq_append_getElem hi, List.foldl_append, ← hb]; rfl
   refine ⟨fun _ => ⟨bK hi, fun _ => trivial, fun _ => trivial, fun _ => trivial, ?_⟩, fun hc => absurd hi (by rw [fZ] at hc; exact of_decide_eq_false hc)⟩
   rw [cC hi, d4 hi hm]
   refine ⟨fun hc => ih _ ?_, fun hc => ih _ ?_⟩ <;> rw [hst] <;> unfold jq
   ·have hc : (bif decide (b.1 < 0) then true else decide (d8 (aX id l[i].2.1) (aX id b.2.1) < 0)) = true := hc
    rw [hc]; rfl
   ·have hc : (bif decide (b.1 < 0) then true else decide (d8 (aX id l[i].2.1) (aX id b.2.1) < 0)) = false := hc
    rw [hc]; rfl))
  (fun b hb => aM (nR qM kF) (lf l _ _ id z b) ⟨fun hc => absurd (of_decide_eq_true hc) (Int.lt_irrefl _), fun _ => ⟨_, rfl, by rw [hb, List.take_length]; rfl⟩⟩)
theorem zS : aA prog [] jX j9 :=
 ci (S := j9) (nR qM kF) (fx := dW) zi (by kernel_rfl) (fun _ _ => trivial) (T := fun x => sG x.1 x.2.1) (fun x => vo x.1 x.2.1) fun O w0 x hk _ =>
  (yv O w0 x.1 x.2.1 (zero ab) hk.1.1).down 0 _ (Nat.zero_le _) rfl
theorem fJ : aA prog [] ia hP :=
 ci (S := hP) (A8 zS wV sv) (fx := sx) zL (by kernel_rfl) (fun _ _ => trivial) (T := fun x => uV x.1 x.2.1) (fun x => w3 x.1 x.2.1) fun O w0 x _ _ => ⟨rfl, trivial, trivial, _, rfl, rfl⟩
abbrev GA7 (O : Nat → Prop) (w0 : World) (y : List Mem) := bt prog jW (Cx.base O w0) (bZ prog O w0 je fun z => z = (y, ()))
def yl (O : Nat → Prop) (w0 : World) (l : List Mem) (m : Mem) (n : Nat) (hn : n ≤ 1000) :=
 PLift.up <| cM (σ := Mem × List Mem) n (fun i s => s = ((gM l m i).2, (gM l m i).1) ∧ s.2.length = i)
  (fun i s => GA7 O w0 (gM l m n).1 [] fk (lp eZ 3) (p0 l (n : Int) (i : Nat) s.1 s.2))
  (fun i s hi hs ih => aM (jZ fJ) (iq l _ _ s.1 s.2) (by
   obtain ⟨h1, h2⟩ := hs
   refine ⟨fun _ => ⟨trivial, ?_⟩, fun hc => absurd (Int.ofNat_lt.2 hi) (of_decide_eq_false hc)⟩
   rw [d4 hi (by omega), s9]
   refine ⟨by rw [List.length_append, h2]; exact show i + 1 ≤ 1073741824 by omega, ih (_, _) ⟨?_, by show (s.2 ++ [_]).length = _; rw [List.length_append, h2]; rfl⟩⟩
   rw [h1]
   rfl))
  (fun s hs => aM (jZ fJ) (iq l _ _ s.1 s.2) ⟨fun hc => absurd (of_decide_eq_true hc) (Int.lt_irrefl _), fun _ => ⟨_, rfl, by rw [hs.1]⟩⟩)
theorem zT : aA prog [] kd jV :=
 ci (S := jV) (jZ fJ) (fx := fk) yI (by kernel_rfl) (fun h => by cases h) (T := fun x => sA x.1 x.2.1 x.2.2.1) (fun x => wl x.1 x.2.1 x.2.2.1) fun O w0 x _ hp => by
  obtain ⟨l, m, many, ⟨⟩⟩ := x
  have hp : (many : Int) ≤ 1000 := hp
  by_cases h0 : (0 : Int) ≤ many
  ·obtain ⟨n, hn⟩ : ∃ n : Nat, (n : Int) = many := ⟨Int.toNat many, Int.toNat_of_nonneg h0⟩
   subst hn
   exact (yl O w0 l m n (Int.ofNat_le.1 hp)).down 0 (m, []) (Nat.zero_le _) ⟨rfl, rfl⟩
  ·have e : Int.toNat many = 0 := Int.toNat_eq_zero.2 (Int.le_of_lt (Int.not_le.1 h0))
   show bt _ _ _ (bZ prog O w0 je fun z => z = ((gM l m (Int.toNat many)).1, ())) _ _ _ _
   rw [e]
   exact aM (jZ fJ) (iq l _ _ m []) ⟨fun hc => absurd (Int.le_of_lt (of_decide_eq_true hc)) h0, fun _ => ⟨_, rfl, rfl⟩⟩
abbrev GB7 (O : Nat → Prop) (w0 : World) (y : Mem) := bt prog jn (Cx.base O w0) (bZ prog O w0 kH fun z => z = (y, ()))
def w7 (O : Nat → Prop) (w0 : World) (l : List Mem) (m z y : Mem) (hm : l.length ≤ maxLen) :=
 PLift.up <| cM (σ := Unit) l.length (fun i _ => ((l.drop i).find? fun x => decide (cg l x = m)).getD m = y)
  (fun i _ => GB7 O w0 y [] er (lp d5 2) (oU l l (lnx ab l) (i : Nat) m z))
  (fun i _ hi hs ih => aM (mn fJ) (kh l l _ _ m z) (by
   rw [List.drop_eq_getElem_cons hi, List.find?_cons] at hs
   refine ⟨fun _ => ⟨bK hi, trivial, ?_⟩, fun hc => absurd hi (by rw [fZ] at hc; exact of_decide_eq_false hc)⟩
   rw [cC hi, d4 hi hm, oy]
   refine ⟨fun hc => ⟨_, rfl, ?_⟩, fun hc => ih () ?_⟩
   ·have hc : decide (cg l l[i] = m) = true := hc
    rw [hc] at hs
    rw [← hs]
    rfl
   ·have hc : decide (cg l l[i] = m) = false := hc
    rw [hc] at hs
    exact hs))
  (fun _ hs => aM (mn fJ) (kh l l _ _ m z) (by
   refine ⟨fun hc => absurd (of_decide_eq_true hc) (Int.lt_irrefl _), fun _ => ⟨_, rfl, ?_⟩⟩
   rw [List.drop_length] at hs
   rw [← hs]
   rfl))
theorem yi : aA prog [] jf ja :=
 ci (S := ja) (mn fJ) (fx := er) xc (by kernel_rfl) (fun _ _ => trivial) (T := fun x => rC x.1 x.2.1) (fun x => tU x.1 x.2.1) fun O w0 x hk _ =>
  (w7 O w0 x.1 x.2.1 (zero ab) _ hk.1.1).down 0 () (Nat.zero_le _) rfl
end Go.Proofs.Ytiaplhcifflibaa
namespace Go.Proofs.Ytiaplhcifflibaa
open Go Go.RowKit
noncomputable abbrev rp : Fx := { fn := oa, ann := { }, share := true }
noncomputable abbrev so : a8 := { D := { T := be, F := [(js, gD), (dp, dv)], R := [], ovl := [] }, inl := [] }
noncomputable abbrev zk : bG := .data qo
theorem Ac (h_ring_Owner : aA prog [] js gD) (h_ring_Right : aA prog [] dp dv) : XOk prog so := xok (aE (aE (aP aS aG) h_ring_Right) h_ring_Owner) (by kernel_rfl) aV bh bg
noncomputable def sM : af := af.req True (af.all (den (Ty.pair ab (Ty.pair ae Ty.unit))) (fun (q0 : den (Ty.pair ab (Ty.pair ae Ty.unit))) ↦ q0 = (Prod.fst (dz (List.set (List.set (List.replicate 2 (zero ab)) 0 (3, List.set (List.replicate 32 (zero (Ty.int IntKind.u8))) 31 20, zero Ty.unit)) 1 (5, List.set (List.replicate 32 (zero (Ty.int IntKind.u8))) 31 10, zero Ty.unit)) (List.set (List.replicate 32 (zero (Ty.int IntKind.u8))) 31 21)), Prod.snd (dz (List.set (List.set (List.replicate 2 (zero ab)) 0 (3, List.set (List.replicate 32 (zero (Ty.int IntKind.u8))) 31 20, zero Ty.unit)) 1 (5, List.set (List.replicate 32 (zero (Ty.int IntKind.u8))) 31 10, zero Ty.unit)) (List.set (List.replicate 32 (zero (Ty.int IntKind.u8))) 31 21)), PUnit.unit)) fun (q0 : den (Ty.pair ab (Ty.pair ae Ty.unit))) ↦ af.req (n8 [(bif decide (Prod.fst (Prod.snd q0) = 0) then decide (Prod.fst (Prod.fst q0) = 5) else false, true)] True) (af.ret (K.val (Ty.pair Ty.bool Ty.unit) (bif bif decide (Prod.fst (Prod.snd q0) = 0) then decide (Prod.fst (Prod.fst q0) = 5) else false then ax (List.set (List.set (List.replicate 2 (zero ab)) 0 (3, List.set (List.replicate 32 (zero (Ty.int IntKind.u8))) 31 20, zero Ty.unit)) 1 (5, List.set (List.replicate 32 (zero (Ty.int IntKind.u8))) 31 10, zero Ty.unit)) else false, PUnit.unit))))
theorem vg : ap so zk 5000 [] rp (aB oa) (Env.of (aL rJ () 0) []) = sM := by kernel_rfl
noncomputable abbrev ko : Fx := { fn := ip, ann := { }, share := true }
noncomputable abbrev li : a8 := { D := { T := be, F := [(nF, nH), (jo, gT), (iE, fX), (j4, j3), (jT, j2), (ly, lx), (jf, ja), (kd, jV), (lH, lK)], R := [], ovl := [] }, inl := [] }
noncomputable abbrev sd : bG := .data qE
theorem sb (h_l07_few : aA prog [] nF nH) (h_ring_After : aA prog [] jo gT) (h_ring_Before : aA prog [] iE fX) (h_l07_alive : aA prog [] j4 j3) (h_r07_Right : aA prog [] jT j2) (h_r07_Find : aA prog [] ly lx) (h_r07_Before : aA prog [] jf ja) (h_r07_After : aA prog [] kd jV) (h_r07_Same : aA prog [] lH lK) : XOk prog li := xok (aE (aE (aE (aE (aE (aE (aE (aE (aE (aP aS aG) h_r07_Same) h_r07_After) h_r07_Before) h_r07_Find) h_r07_Right) h_l07_alive) h_ring_Before) h_ring_After) h_l07_few) (by kernel_rfl) aV bh bg
noncomputable def lc (l : den (Ty.slc ab)) (no : den ae) (many : den ae) : af := af.req True (af.all (den (Ty.slc ab)) (fun (q3 : den (Ty.slc ab)) ↦ q3 = List.take 18 l) fun (q3 : den (Ty.slc ab)) ↦ af.req True (af.all (den (Ty.pair (Ty.slc ab) (Ty.pair ae Ty.unit))) (fun (q4 : den (Ty.pair (Ty.slc ab) (Ty.pair ae Ty.unit))) ↦ q4 = (Prod.fst (bf q3 no many), Prod.snd (bf q3 no many), PUnit.unit)) fun (q4 : den (Ty.pair (Ty.slc ab) (Ty.pair ae Ty.unit))) ↦ af.req True (af.all (den (Ty.pair ab (Ty.pair ae Ty.unit))) (fun (q5 : den (Ty.pair ab (Ty.pair ae Ty.unit))) ↦ q5 = (Prod.fst (bA q3 no), Prod.snd (bA q3 no), PUnit.unit)) fun (q5 : den (Ty.pair ab (Ty.pair ae Ty.unit))) ↦ af.req True (af.all (den Ty.bool) (fun (q6 : den Ty.bool) ↦ q6 = true) fun (q6 : den Ty.bool) ↦ af.ite (!q6) (af.ret (K.val (Ty.pair Ty.bool Ty.unit) (false, PUnit.unit))) (af.req True (af.all (den Ty.bool) (fun (q7 : den Ty.bool) ↦ q7 = ax q3) fun (q7 : den Ty.bool) ↦ af.ite (!q7) (af.ret (K.val (Ty.pair Ty.bool Ty.unit) (bif bif bif decide (Prod.fst (Prod.snd q4) = 1) then decide (Prod.fst (Prod.snd q5) = 1) else false then decide (lnx ab (Prod.fst q4) = 0) else false then eqb ab (Prod.fst q5) (zero (Ty.pair ae (Ty.pair tId Ty.unit))) else false, PUnit.unit))) (af.req True (af.all (den ab) (fun (q8 : den ab) ↦ q8 = rf q3 no) fun (q8 : den ab) ↦ af.ite (decide (Prod.fst q8 < 0)) (af.ret (K.val (Ty.pair Ty.bool Ty.unit) (bif bif bif decide (Prod.fst (Prod.snd q5) = 6) then eqb ab (Prod.fst q5) (zero (Ty.pair ae (Ty.pair tId Ty.unit))) else false then decide (lnx ab (Prod.fst q4) = 0) else false then bif decide (Prod.fst (Prod.snd q4) = 6) then true else bif decide (Prod.fst (Prod.snd q4) = 1) then bif decide (many < 0) then true else decide (16 < many) else false else false, PUnit.unit))) (af.req (n8 [(!decide (Prod.fst (Prod.snd q5) = 0), false)] True) (af.ite (bif !decide (Prod.fst (Prod.snd q5) = 0) then true else !eqb ab (Prod.fst q5) (gG q3 q8)) (af.ret (K.val (Ty.pair Ty.bool Ty.unit) (false, PUnit.unit))) (af.ite (bif decide (many < 0) then true else decide (16 < many)) (af.ret (K.val (Ty.pair Ty.bool Ty.unit) (bif decide (Prod.fst (Prod.snd q4) = 1) then decide (lnx ab (Prod.fst q4) = 0) else false, PUnit.unit))) (af.req (n8 [(decide (Prod.fst (Prod.snd q4) = 0), true)] (many ≤ 1000)) (af.req (n8 [(decide (Prod.fst (Prod.snd q4) = 0), true)] True) (af.ret (K.val (Ty.pair Ty.bool Ty.unit) (bif decide (Prod.fst (Prod.snd q4) = 0) then decide (Prod.fst q4 = Prod.fst (gM q3 q8 (Int.toNat many))) else false, PUnit.unit))))))))))))))))
theorem o6 (l : den (Ty.slc ab)) (no : den ae) (many : den ae) : ap li sd 5000 [] ko (aB ip) (Env.of (aL cJ (l, no, many, ()) 0) []) = lc l no many := by kernel_rfl
end Go.Proofs.Ytiaplhcifflibaa
namespace Go.Proofs.Ytiaplhcifflibaa
open Go Go.RowKit
section
variable {l : List Mem}
theorem ED (hk : OkM l) {id : List Int} (hid : oq id) {x : Mem} (hx : x ∈ l) (h : ∀ y ∈ l, vB (aX id x.2.1) ≤ vB (aX id y.2.1)) : iS od br (vB id) l x :=
 ⟨hx, fun y hy => by
  have := h y hy
  rw [lP hid (eN (hk x hx)), lP hid (eN (hk y hy))] at this
  exact this⟩
theorem yh {k : Mem → Int} {b : Mem} {t : List Mem} : jr k b t ∈ b :: t ∧ ∀ y ∈ b :: t, k (jr k b t) ≤ k y := by
 obtain ⟨h1, h2, h3⟩ := o3 k t b
 refine ⟨h1, fun y hy => ?_⟩
 rcases List.mem_cons.1 hy with rfl | hy
 ·exact h2
 ·exact h3 y hy
theorem wD (id : List Int) : ∀ (t : List Mem) (b : Mem), 0 ≤ (b.1 : Int) → (∀ x ∈ t, 0 ≤ (x.1 : Int)) → t.foldl (jq id) b = jr (fun m => vB (aX id m.2.1)) b t
 | [], _, _, _ => rfl
 | x :: t, b, hb, ht => by
  have hx := ht x List.mem_cons_self
  have e : jq id b x = if vB (aX id x.2.1) < vB (aX id b.2.1) then x else b := by
   unfold jq
   rw [decide_eq_false (Int.not_lt.2 hb), cond_false]
   by_cases h : vB (aX id x.2.1) < vB (aX id b.2.1)
   ·rw [decide_eq_true (yg.2 h), if_pos h]; rfl
   ·rw [decide_eq_false (fun h' => h (yg.1 h')), if_neg h]; rfl
  show t.foldl (jq id) (jq id b x) = jr (fun m => vB (aX id m.2.1)) (if vB (aX id x.2.1) < vB (aX id b.2.1) then x else b) t
  rw [e]
  refine wD id t _ ?_ fun y hy => ht y (List.mem_cons_of_mem _ hy)
  split
  ·exact hx
  ·exact hb
theorem CD (hr : ax l = true) (hk : OkM l) (h0 : 0 < l.length) {id : List Int} (hid : oq id) : iS od br (vB id) l (oB l id) := by
 have hno := (jk hr).no
 cases l with
 | nil => cases h0
 | cons b t =>
  have e : oB (b :: t) id = jr (fun m => vB (aX id m.2.1)) b t := by
   show t.foldl (jq id) (jq id noM b) = _
   have : jq id noM b = b := by unfold jq; rfl
   rw [this]
   exact wD id t b (hno b List.mem_cons_self).1 fun x hx => (hno x (List.mem_cons_of_mem _ hx)).1
  rw [e]
  exact ED hk hid yh.1 yh.2
theorem Ea {a : List Int} (ha : oq a) : oq (fg a pw0) ∧ vB (fg a pw0) = rup br (vB a) := by
 have hr := m6 ha
 have hs := pt 32 (v := (vB a + vB pw0) % br) (Int.emod_nonneg _ (by decide)) (Int.emod_lt_of_pos _ (by decide))
 refine ⟨⟨pz _ _, hs.1⟩, ?_⟩
 unfold fg
 rw [hs.2, CA]
 unfold rup
 split
 ·rename_i h; rw [h, Int.emod_self]
 ·exact Int.emod_eq_of_lt (by omega) (by omega)
theorem AC (hr : ax l = true) (hk : OkM l) {m : Mem} (hm : m ∈ l) : iS od br (rup br (od m)) l (cg l m) := by
 have h0 : 0 < l.length := List.length_pos_of_mem hm
 obtain ⟨a1, a2⟩ := Ea (eN (hk m hm))
 have := CD hr hk h0 a1
 rw [a2] at this
 exact this
theorem EF (hr : ax l = true) {m : Mem} (hm : m ∈ l) : ¬ gk l m.1 < 0 ∧ ∃ k : Nat, ∃ hk : k < l.length, gk l m.1 = (k : Int) ∧ l[k] = m := by
 have ha : l.any (fun x => decide (x.1 = m.1)) = true := List.any_eq_true.2 ⟨m, hm, decide_eq_true rfl⟩
 have h0 := (kg (fun x => decide (x.1 = m.1)) l 0 (Int.le_refl _)).1 ha
 have hn : ¬ gk l m.1 < 0 := Int.not_lt.2 h0.1
 obtain ⟨k, hk, e1, e2⟩ := tI hn
 exact ⟨hn, k, hk, e1, (jk hr).inj (List.getElem_mem hk) hm (.inl e2)⟩
def srt (l : List Mem) (m : Mem) : List Mem := dl ab (cD m.2.1) l
theorem ss (hr : ax l = true) {m : Mem} (hm : m ∈ l) : aC l m.1 = (srt l m, 0) := by
 obtain ⟨h1, k, hk, e1, e2⟩ := EF hr hm
 unfold aC
 rw [hr, decide_eq_false h1, e1, cC hk, e2]
 rfl
theorem pH (hr : ax l = true) (hk : OkM l) {m : Mem} (hm : m ∈ l) : iP od br (od m) l (srt l m) ∧ (srt l m).length = l.length := Dn (jk hr) hk (eN (hk m hm))
theorem xW (hr : ax l = true) (hk : OkM l) {m : Mem} (hm : m ∈ l) (h : 0 < (srt l m).length) : (srt l m)[0] = m := iP.self ((jk hr).rng hk) hm (pH hr hk hm).1 h
theorem zA (hr : ax l = true) (hk : OkM l) {m : Mem} (hm : m ∈ l) : ∃ h : (srt l m).length - 1 < (srt l m).length, bA l m.1 = ((srt l m)[(srt l m).length - 1], 0) := by
 have hl := (pH hr hk hm).2
 have h0 : 0 < l.length := List.length_pos_of_mem hm
 have hlt : (srt l m).length - 1 < (srt l m).length := by omega
 refine ⟨hlt, ?_⟩
 unfold bA
 rw [ss hr hm]
 show (el ab (srt l m) (((srt l m).length : Int) - 1), (0 : Int)) = _
 rw [show ((srt l m).length : Int) - 1 = (((srt l m).length - 1 : Nat) : Int) by omega, cC hlt]
theorem AN (hr : ax l = true) {m : Mem} (hm : m ∈ l) {n : Nat} (hn : n ≤ 16) : bf l m.1 (n : Int) = (nV (srt l m) n, 0) := by
 unfold bf
 rw [ss hr hm, decide_eq_false (show ¬ ((n : Nat) : Int) < 0 by omega), decide_eq_false (show ¬ (16 : Int) < ((n : Nat) : Int) by omega)]
 rfl
theorem Et {s : List Mem} (h0 : 0 < s.length) (i : Nat) : el ab s (Int.tmod ((i : Int) + 1) s.length) = s[(i + 1) % s.length]'(Nat.mod_lt _ h0) := by
 have e : Int.tmod ((i : Int) + 1) s.length = (((i + 1) % s.length : Nat) : Int) := by
  rw [show (i : Int) + 1 = ((i + 1 : Nat) : Int) by omega]
  exact (Int.ofNat_tmod _ _).symm
 rw [e, cC (Nat.mod_lt _ h0)]
theorem we (hr : ax l = true) (hk : OkM l) {a : Int} (ha : 0 ≤ a ∧ a < br) {s : List Mem} (hs : iP od br a l s) {i : Nat} (hi : i < s.length) : cg l s[i] = s[(i + 1) % s.length]'(Nat.mod_lt _ (by omega)) := by
 have hm : s[i] ∈ l := (hs.mem _).1 (List.getElem_mem hi)
 have hrng := (jk hr).rng hk
 exact iS.uniq hrng (CF (hrng.in' _ hm)) (AC hr hk hm) (hs.next hrng ha hi)
theorem uH (hr : ax l = true) (hk : OkM l) {a : Int} (ha : 0 ≤ a ∧ a < br) {s : List Mem} (hs : iP od br a l s) (h0 : 0 < s.length) : ∀ i : Nat, gM l s[0] i = (nV s i, s[i % s.length]'(Nat.mod_lt _ h0))
 | 0 => by
  show ([], s[0]) = ([], s[0 % s.length]'(Nat.mod_lt _ h0))
  simp only [Nat.zero_mod]
 | i + 1 => by
  have ih := uH hr hk ha hs h0 i
  have hn := we hr hk ha hs (Nat.mod_lt i h0)
  have e : (i % s.length + 1) % s.length = (i + 1) % s.length := by rw [Nat.mod_add_mod]
  simp only [e] at hn
  show ((gM l s[0] i).1 ++ [cg l (gM l s[0] i).2], cg l (gM l s[0] i).2) = (nV s i ++ [el ab s (Int.tmod ((i : Int) + 1) s.length)], _)
  rw [ih]
  show (nV s i ++ [cg l (s[i % s.length]'(Nat.mod_lt _ h0))], cg l (s[i % s.length]'(Nat.mod_lt _ h0))) = _
  rw [hn, Et h0]
theorem CH (hr : ax l = true) (hk : OkM l) {m : Mem} (hm : m ∈ l) (n : Nat) : (gM l m n).1 = nV (srt l m) n := by
 obtain ⟨h1, h2⟩ := pH hr hk hm
 have h0 : 0 < (srt l m).length := by rw [h2]; exact List.length_pos_of_mem hm
 have := uH hr hk (((jk hr).rng hk).in' m hm) h1 h0 n
 rw [xW hr hk hm h0] at this
 rw [this]
theorem A1 (hr : ax l = true) (hk : OkM l) {m : Mem} (hm : m ∈ l) : ∃ h : (srt l m).length - 1 < (srt l m).length, gG l m = (srt l m)[(srt l m).length - 1] := by
 obtain ⟨h1, h2⟩ := pH hr hk hm
 have h0 : 0 < (srt l m).length := by rw [h2]; exact List.length_pos_of_mem hm
 have hlt : (srt l m).length - 1 < (srt l m).length := by omega
 have ha := ((jk hr).rng hk).in' m hm
 refine ⟨hlt, ?_⟩
 have hself := xW hr hk hm h0
 have hnx := we hr hk ha h1 hlt
 have e : ((srt l m).length - 1 + 1) % (srt l m).length = 0 := by rw [Nat.sub_add_cancel h0, Nat.mod_self]
 simp only [e] at hnx
 unfold gG
 cases hf : l.find? (fun x => decide (cg l x = m)) with
 | none =>
  exfalso
  have := List.find?_eq_none.1 hf _ ((h1.mem _).1 (List.getElem_mem hlt))
  exact this (decide_eq_true (by rw [hnx, hself]))
 | some x =>
  show x = _
  have hx : cg l x = m := of_decide_eq_true (List.find?_some (p := fun x => decide (cg l x = m)) hf)
  have hxl : x ∈ l := List.mem_of_find?_eq_some hf
  obtain ⟨j, hj, rfl⟩ := List.getElem_of_mem ((h1.mem x).2 hxl)
  have hj2 := we hr hk ha h1 hj
  rw [hx] at hj2
  have hz : (j + 1) % (srt l m).length = 0 := h1.nodup (Nat.mod_lt _ h0) h0 (by rw [← hj2, hself])
  have : j = (srt l m).length - 1 := by
   rcases Nat.lt_or_ge (j + 1) (srt l m).length with h | h
   ·rw [Nat.mod_eq_of_lt h] at hz; omega
   ·omega
  simp only [this]
end
def m3 : Mem := (3, List.set (List.replicate 32 0) 31 20, ())
def m5 : Mem := (5, List.set (List.replicate 32 0) 31 10, ())
def i21 : List Int := List.set (List.replicate 32 0) 31 21
theorem Ez : (dz [m3, m5] i21).1.1 = (5 : Int) ∧ (dz [m3, m5] i21).2 = 0 ∧ ax [m3, m5] = true := by
 refine ⟨by kernel_rfl, by kernel_rfl, by kernel_rfl⟩
theorem zH : aA prog [] j4 j3 :=
 ci (S := j3) (Ac yQ l7) (fx := rp) xX (by kernel_rfl) (fun _ _ => trivial) (T := fun _ => sM) (fun _ => vg) fun O v0 x _ _ => by
  refine ⟨trivial, i8 ⟨fun _ => trivial, _, rfl, Prod.ext ?_ rfl⟩⟩
  obtain ⟨h1, h2, h3⟩ := Ez
  show (bif bif decide ((dz [m3, m5] i21).2 = 0) then decide ((dz [m3, m5] i21).1.1 = (5 : Int)) else false then ax [m3, m5] else false) = true
  rw [h1, h2, h3]
  rfl
end Go.Proofs.Ytiaplhcifflibaa
namespace Go.Proofs.Ytiaplhcifflibaa
open Go Go.RowKit
section
variable {l : List Mem}
theorem RR.sub {l l' : List Mem} (h : RR l) (hs : l'.Sublist l) : RR l' := ⟨Nat.le_trans hs.length_le h.len, fun m hm => h.no m (hs.subset hm), h.pw.sublist hs⟩
end
theorem D9 {q : List Mem} {no : Int} : (rf q no = (-1, zero (Ty.pair tId Ty.unit)) ∧ gk q no < 0) ∨ ∃ m ∈ q, m.1 = no ∧ rf q no = m := by
 unfold rf
 cases hf : q.find? (fun m => decide (m.1 = no)) with
 | none =>
  refine .inl ⟨rfl, ?_⟩
  have : q.any (fun m => decide (m.1 = no)) = false := List.any_eq_false.2 fun x hx => List.find?_eq_none.1 hf x hx
  unfold gk
  rw [(kg _ q 0 (Int.le_refl _)).2 this]
  decide
 | some m => exact .inr ⟨m, List.mem_of_find?_eq_some hf, of_decide_eq_true (List.find?_some (p := fun m : Mem => decide (m.1 = no)) hf), rfl⟩
theorem Do {many : Int} (h : (bif decide (many < 0) then true else decide (16 < many)) = false) : ∃ n : Nat, n ≤ 16 ∧ many = (n : Int) := by
 by_cases h1 : many < 0
 ·rw [decide_eq_true h1] at h; cases h
 ·rw [decide_eq_false h1] at h
  have h2 : ¬ 16 < many := of_decide_eq_false h
  exact ⟨many.toNat, by omega, by omega⟩
theorem r7 : aA prog [] lg (C9 cJ) :=
 ci (S := C9 cJ) (sb Ct yo w4 zH Ae Bd yi zT A0) (fx := ko) qf (by kernel_rfl) (fun _ _ => trivial) (T := fun x => lc x.1 x.2.1 x.2.2.1) (fun x => o6 x.1 x.2.1 x.2.2.1) fun O w0 x hk _ => by
  obtain ⟨l, no, many, ⟨⟩⟩ := x
  have hq : OkM (List.take 18 l) := fun m hm => hk.1.2 m (List.mem_of_mem_take hm)
  refine ⟨trivial, i8 ?_⟩
  generalize (List.take 18 l : List Mem) = q at hq ⊢
  refine ⟨trivial, i8 ⟨trivial, i8 ⟨trivial, i8 ⟨fun h => (by cases h), fun _ => ⟨trivial, i8 ⟨fun h => ⟨_, rfl, Prod.ext ?_ rfl⟩, fun h => ?_⟩⟩⟩⟩⟩⟩
  ·have h : (!ax q) = true := h
   have hr : ax q = false := by simpa using h
   have ht : aC q no = ([], 1) := by unfold aC; rw [hr]; rfl
   show (bif bif bif decide ((bf q no many).2 = 1) then decide ((bA q no).2 = 1) else false then decide (lnx ab (bf q no many).1 = 0) else false then eqb ab (bA q no).1 (zero (Ty.pair ae (Ty.pair tId Ty.unit))) else false) = true
   have ha : bf q no many = ([], 1) := by
    unfold bf
    rw [ht]
    cases (bif decide (many < 0) then true else decide (16 < many)) <;> rfl
   rw [ha, show bA q no = (zero ab, 1) by unfold bA; rw [ht]; rfl, oy, decide_eq_true (show (zero ab : Mem) = zero (Ty.pair ae (Ty.pair tId Ty.unit)) from rfl)]
   rfl
  ·have h : (!ax q) = false := h
   have hr : ax q = true := by simpa using h
   refine ⟨trivial, i8 ?_⟩
   rcases D9 (q := q) (no := no) with ⟨e, hat⟩ | ⟨m, hm, rfl, e⟩
   ·have ht : aC q no = ([], 6) := by unfold aC; rw [hr, decide_eq_true hat]; rfl
    have hb : bA q no = (zero ab, 6) := by unfold bA; rw [ht]; rfl
    rw [e]
    refine ⟨fun _ => ⟨_, rfl, Prod.ext ?_ rfl⟩, fun h2 => (by cases h2)⟩
    show (bif bif bif decide ((bA q no).2 = 6) then eqb ab (bA q no).1 (zero (Ty.pair ae (Ty.pair tId Ty.unit))) else false then decide (lnx ab (bf q no many).1 = 0) else false then bif decide ((bf q no many).2 = 6) then true else bif decide ((bf q no many).2 = 1) then bif decide (many < 0) then true else decide (16 < many) else false else false) = true
    rw [hb, oy, decide_eq_true (show (zero ab : Mem) = zero (Ty.pair ae (Ty.pair tId Ty.unit)) from rfl)]
    unfold bf
    rw [ht]
    cases (bif decide (many < 0) then true else decide (16 < many)) <;> rfl
   ·rw [e]
    obtain ⟨hlt, hb⟩ := zA hr hq hm
    obtain ⟨_, hb3⟩ := A1 hr hq hm
    rw [← hb3] at hb
    have hno := ((jk hr).no m hm).1
    refine ⟨fun h2 => absurd (of_decide_eq_true h2) (Int.not_lt.2 hno), fun _ => ⟨fun _ => trivial, fun h2 => ?_, fun _ => ⟨fun h3 => ⟨_, rfl, Prod.ext ?_ rfl⟩, fun h3 => ?_⟩⟩⟩
    ·have h2 : (bif !decide ((bA q m.1).2 = 0) then true else !eqb ab (bA q m.1).1 (gG q m)) = true := h2
     rw [hb, oy, decide_eq_true (show gG q m = gG q m from rfl)] at h2
     cases h2
    ·have h3 : (bif decide (many < 0) then true else decide (16 < many)) = true := h3
     show (bif decide ((bf q m.1 many).2 = 1) then decide (lnx ab (bf q m.1 many).1 = 0) else false) = true
     unfold bf
     rw [h3]
     rfl
    ·obtain ⟨n, hn, rfl⟩ := Do h3
     have ha := AN hr hm hn
     rw [← CH hr hq hm n] at ha
     refine ⟨fun _ => (show ((n : Nat) : Int) ≤ 1000 by omega), fun _ => trivial, ⟨_, rfl, Prod.ext ?_ rfl⟩⟩
     show (bif decide ((bf q m.1 (n : Int)).2 = 0) then decide ((bf q m.1 (n : Int)).1 = (gM q m (Int.toNat (n : Int))).1) else false) = true
     rw [ha, Int.toNat_natCast, decide_eq_true (show (gM q m n).1 = (gM q m n).1 from rfl)]
     rfl
end Go.Proofs.Ytiaplhcifflibaa
namespace Go.Proofs.Ytiaplhcifflibaa
open Go Go.RowKit
end Go.Proofs.Ytiaplhcifflibaa
