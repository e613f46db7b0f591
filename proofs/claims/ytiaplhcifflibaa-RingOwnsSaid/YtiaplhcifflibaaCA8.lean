/- Part 8 of 8 of what this claim's proof stands on: a theory of programs on data, and the contracts of the functions that the law reaches. It holds no condition of its own. -/
import Derived.Test.YtiaplhcifflibaaCA7
namespace Go.Proofs.Ytiaplhcifflibaa
open Go Go.RowKit
theorem jt : aC prog [] cv cq :=
 cL (S := cq) (jj kT) (fx := eU) i8 (by kernel_rfl) (fun h => by cases h) (T := fun x => fk x.1 x.2.1) (fun x => iJ x.1 x.2.1) fun O w0 x _ hp =>
  ⟨hp, _, rfl, by show (decide (0 ≤ ixP (prM x.2.1) x.1 0), ()) = (x.1.any (prM x.2.1), ()); rw [C5]⟩
theorem nr : aC prog [] db de :=
 cL (S := de) na (fx := gZ) mg (by kernel_rfl) (fun h => by cases h) (T := fun x => hP x.1) (fun x => kN x.1) fun O w0 x _ _ => ⟨_, rfl, rfl⟩
theorem rz : aC prog [] fW fX :=
 cL (S := fX) (yP wc) (fx := pH) x8 (by kernel_rfl) (fun _ _ => trivial) (T := fun x => rx x.1) (fun x => u4 x.1) fun O w0 x _ _ => ⟨fun _ => trivial, _, rfl, rfl⟩
theorem qv : aC prog [] mR mv :=
 cL (S := mv) (Ay vc Bi rh) (fx := tp) zN (by kernel_rfl) (fun _ _ => trivial) (T := fun x => vL x.1 x.2.1) (fun x => xh x.1 x.2.1) fun O w0 x hk _ => by
  obtain ⟨a, b, ⟨⟩⟩ := x
  obtain ⟨la, ba⟩ := ep hk.1
  obtain ⟨lb, bb⟩ := ep hk.2.1
  refine ⟨trivial, trivial, rfl, trivial, _, rfl, ?_⟩
  show (fb (fb b (dc a)) pw0, ()) = (aH a b, ())
  have h1 := (AR ba).2
  rw [la] at h1
  have ra := jw ⟨la, ba⟩
  have rb := jw ⟨lb, bb⟩
  have e1 : vB (fb b (dc a)) = (vB b + (bf - 1 - vB a)) % bf := by
   unfold fb
   rw [h1]
   exact (ob 32 (Int.emod_nonneg _ (by decide)) (Int.emod_lt_of_pos _ (by decide))).2
  unfold fb aH
  have e2 : vB (toB 32 ((vB b + vB (dc a)) % bf)) = (vB b + (bf - 1 - vB a)) % bf := e1
  rw [e2, AT]
  have e3 : ((vB b + (bf - 1 - vB a)) % bf + 1) % bf = (vB b - vB a) % bf := by
   rw [Int.emod_add_emod, show vB b + (bf - 1 - vB a) + 1 = vB b - vB a + bf by omega, Int.add_emod_right]
  rw [e3]
abbrev GRi (O : Nat → Prop) (w0 : World) (y : Bool) := bE prog gB (Cx.base O w0) (cw prog O w0 j2 fun z => z = (y, ()))
theorem j4 : XOk prog gB := xW jt uv
theorem pI (pre : List Mem) (m : Mem) (l : List Mem) : l7 pre (m :: l) = ((!(pre.any fun x => dB x m)) && decide (0 ≤ m.1) && decide (m.1 < 16) && l7 (pre ++ [m]) l) := rfl
theorem xb {e : Ty} (xs : List (den e)) (i : Nat) : gg e xs 0 (i : Nat) = xs.take i := by
 unfold gg fl
 rw [Int.toNat_natCast]
 exact List.drop_zero
def vY (O : Nat → Prop) (w0 : World) (l : List Mem) (hm : l.length ≤ maxLen) :=
 PLift.up <| dM (σ := Unit) l.length (fun i _ => l7 (l.take i) (l.drop i) = l7 [] l)
  (fun i _ => GRi O w0 (az l) [] ef (lp dS 2) (n9 l l (lnx ab l) (i : Nat)))
  (fun i _ hi hs ih => aU j4 (jY l l _ _) (by
   rw [List.drop_eq_getElem_cons hi, pI, ← List.take_succ_eq_append_getElem hi] at hs
   have hi' : i ≤ l.length := Nat.le_of_lt hi
   refine ⟨fun _ => ⟨ci hi, ⟨Int.le_refl _, Int.natCast_nonneg _, Int.ofNat_le.2 hi'⟩, fun _ => trivial, ⟨_, rfl⟩, ?_⟩, fun hc => absurd hi (by rw [iB] at hc; exact of_decide_eq_false hc)⟩
   rw [dg hi, fg hi hm, xb]
   have e1 : ∀ xs : List Mem, (xs.any (prM (some fun y => (dB y.1 l[i], PUnit.unit)))) = xs.any fun x => dB x l[i] := fun xs => rfl
   refine ⟨fun hc => ⟨_, rfl, ?_⟩, fun hc => ih () ?_⟩
   ·rw [e1] at hc
    show (false, ()) = (az l, ())
    have : l7 [] l = false := by
     rw [← hs]
     cases h1 : (l.take i).any (fun x => dB x l[i]) with
     | true => rfl
     | false =>
      rw [h1] at hc
      by_cases h2 : (l[i].1 : Int) < 0
      ·rw [decide_eq_false (show ¬ (0 : Int) ≤ l[i].1 from fun h => absurd h2 (Int.not_lt.2 h))]; rfl
      ·rw [decide_eq_false h2] at hc
       have h3 : (16 : Int) ≤ l[i].1 := of_decide_eq_true hc
       rw [decide_eq_false (show ¬ (l[i].1 : Int) < 16 from Int.not_lt.2 h3)]
       cases decide (0 ≤ l[i].1) <;> rfl
    unfold az
    rw [this]
    rfl
   ·rw [e1] at hc
    rw [← hs]
    cases h1 : (l.take i).any (fun x => dB x l[i]) with
    | true => rw [h1] at hc; cases hc
    | false =>
     rw [h1] at hc
     by_cases h2 : (l[i].1 : Int) < 0
     ·rw [decide_eq_true h2] at hc; cases hc
     ·rw [decide_eq_false h2] at hc
      have h3 : ¬ (16 : Int) ≤ l[i].1 := of_decide_eq_false hc
      rw [decide_eq_true (show (0 : Int) ≤ l[i].1 from Int.not_lt.1 h2), decide_eq_true (show (l[i].1 : Int) < 16 from Int.not_le.1 h3)]
      rfl))
  (fun _ hs => aU j4 (jY l l _ _) (by
   refine ⟨fun hc => absurd (of_decide_eq_true hc) (Int.lt_irrefl _), fun _ => ⟨_, rfl, ?_⟩⟩
   rw [List.drop_length] at hs
   show (decide ((l.length : Int) ≤ 16), ()) = (az l, ())
   unfold az
   rw [← hs]
   have : decide ((l.length : Int) ≤ 16) = decide (l.length ≤ 16) := decide_eq_decide.2 (by omega)
   rw [this]
   rfl))
theorem iU : aC prog [] cx cy :=
 cL (S := cy) j4 (fx := ef) vU (by kernel_rfl) (fun _ _ => trivial) (T := fun x => qw x.1) (fun x => tM x.1) fun O w0 x hk _ =>
  (vY O w0 x.1 hk.1.1).down 0 () (Nat.zero_le _) rfl
abbrev GR7 (O : Nat → Prop) (w0 : World) (y : Bool) := bE prog ie (Cx.base O w0) (cw prog O w0 lN fun z => z = (y, ()))
def vT (O : Nat → Prop) (w0 : World) (l : List Mem) (hm : l.length ≤ maxLen) (i : Nat) (hi : i < l.length) (hfalse : ((l.take i).any fun x => dB x l[i]) = true → az l = false)
    (hnext : ((l.take i).any fun x => dB x l[i]) = false → GR7 O w0 (az l) [] bY (lp cm 2) (j8 l l (lnx ab l) ((i + 1 : Nat) : Int))) :=
  PLift.up <| dM (σ := Unit) (l.take i).length (fun j _ => ((l.take i).take j).any (fun x => dB x l[i]) = false)
    (fun j _ => GR7 O w0 (az l) [] bY (lp cm 7) (pd l l (lnx ab l) (i : Nat) (l.take i) (lnx ab (l.take i)) (j : Nat) l[i]))
    (fun j _ hj hs ih => aU ii (kB l l _ _ (l.take i) _ _ l[i]) (by
      have hmj : (l.take i).length ≤ maxLen := Nat.le_trans (by rw [List.length_take]; omega) hm
      refine ⟨fun _ => ⟨ci hj, ?_⟩, fun hc => absurd hj (by rw [iB] at hc; exact of_decide_eq_false hc)⟩
      rw [dg hj, fg hj hmj]
      refine ⟨fun hc => ⟨_, rfl, ?_⟩, fun hc => ih () ?_⟩
      · have hc : dB (l.take i)[j] l[i] = true := hc
        rw [hfalse (List.any_eq_true.2 ⟨_, List.getElem_mem hj, hc⟩)]
      · have hc : dB (l.take i)[j] l[i] = false := hc
        rw [List.take_succ_eq_append_getElem hj, List.any_append, hs, Bool.false_or, List.any_cons, hc]
        rfl))
    (fun _ hs => aU ii (kB l l _ _ (l.take i) _ _ l[i]) (by
      rw [List.take_length] at hs
      refine ⟨fun hc => absurd (of_decide_eq_true hc) (Int.lt_irrefl _), fun _ => ?_⟩
      rw [fg hi hm]
      exact hnext hs))
def w8 (O : Nat → Prop) (w0 : World) (l : List Mem) (hm : l.length ≤ maxLen) :=
  PLift.up <| dM (σ := Unit) l.length (fun i _ => l7 (l.take i) (l.drop i) = l7 [] l)
    (fun i _ => GR7 O w0 (az l) [] bY (lp cm 2) (j8 l l (lnx ab l) (i : Nat)))
    (fun i _ hi hs ih => aU ii (kD l l _ _) (by
      rw [List.drop_eq_getElem_cons hi, pI, ← List.take_succ_eq_append_getElem hi] at hs
      have hi' : i ≤ l.length := Nat.le_of_lt hi
      refine ⟨fun _ => ⟨ci hi, ?_⟩, fun hc => absurd hi (by rw [iB] at hc; exact of_decide_eq_false hc)⟩
      rw [dg hi, xb]
      refine ⟨fun hc => ⟨_, rfl, ?_⟩, fun hc => ⟨⟨Int.le_refl _, Int.natCast_nonneg _, Int.ofNat_le.2 hi'⟩, ?_⟩⟩
      · show (false, ()) = (az l, ())
        have : l7 [] l = false := by
          rw [← hs]
          by_cases h2 : (l[i].1 : Int) < 0
          · rw [decide_eq_false (show ¬ (0 : Int) ≤ l[i].1 from fun h => absurd h2 (Int.not_lt.2 h))]
            cases (l.take i).any (fun x => dB x l[i]) <;> rfl
          · rw [decide_eq_false h2] at hc
            have h3 : (15 : Int) < l[i].1 := of_decide_eq_true hc
            rw [decide_eq_false (show ¬ (l[i].1 : Int) < 16 from Int.not_lt.2 h3)]
            cases (l.take i).any (fun x => dB x l[i]) <;> cases decide (0 ≤ l[i].1) <;> rfl
        unfold az
        rw [this]
        rfl
      · have hok : decide (0 ≤ l[i].1) = true ∧ decide (l[i].1 < 16) = true := by
          by_cases h2 : (l[i].1 : Int) < 0
          · rw [decide_eq_true h2] at hc; cases hc
          · rw [decide_eq_false h2] at hc
            have h3 : ¬ (15 : Int) < l[i].1 := of_decide_eq_false hc
            exact ⟨decide_eq_true (show (0 : Int) ≤ l[i].1 from Int.not_lt.1 h2), decide_eq_true (show (l[i].1 : Int) < 16 from Int.lt_of_not_ge h3)⟩
        rw [hok.1, hok.2] at hs
        refine (vT O w0 l hm i hi (fun h => ?_) (fun h => ih () ?_)).down 0 () (Nat.zero_le _) rfl
        · rw [h] at hs
          unfold az
          rw [← hs]
          rfl
        · rw [h] at hs
          exact hs))
    (fun _ hs => aU ii (kD l l _ _) (by
      refine ⟨fun hc => absurd (of_decide_eq_true hc) (Int.lt_irrefl _), fun _ => ⟨_, rfl, ?_⟩⟩
      rw [List.drop_length] at hs
      show (decide ((l.length : Int) ≤ 16), ()) = (az l, ())
      unfold az
      rw [← hs]
      have : decide ((l.length : Int) ≤ 16) = decide (l.length ≤ 16) := decide_eq_decide.2 (by omega)
      rw [this]
      rfl))
theorem yG : aC prog [] jI jK :=
 cL (S := jK) ii (fx := bY) xc (by kernel_rfl) (fun _ _ => trivial) (T := fun x => rH x.1) (fun x => ui x.1) fun O w0 x hk _ =>
  (w8 O w0 x.1 hk.1.1).down 0 () (Nat.zero_le _) rfl
theorem xA (b : List Mem) (x : Mem) : b ++ List.set (List.replicate 1 (zero ab)) 0 x = b ++ [x] := rfl
abbrev GSo (O : Nat → Prop) (w0 : World) (y : List Mem) := bE prog bt (Cx.base O w0) (cw prog O w0 dl fun z => z = (y, ()))
theorem it : XOk prog bt := kz ke
def wa (O : Nat → Prop) (w0 : World) (xs : List Mem) (f : den (mw ab)) (hp : fT ab f xs) :=
 PLift.up <| dM (σ := List Mem) xs.length (fun i b => b = xs.take i)
  (fun i b => GSo O w0 (cX ab f xs) (bM f xs (lnx ab xs) (i : Nat) b) be (lp aV 1) (bL f xs (lnx ab xs) (i : Nat) b))
  (fun i b hi hb ih => aU it (bz f xs _ _ b) (by
   have hlen := hp.len
   refine ⟨fun _ => ⟨ci hi, ?_⟩, fun hc => absurd hi (by rw [iB] at hc; exact of_decide_eq_false hc)⟩
   rw [dg hi, fg hi (by omega), xA, hb, ← List.take_succ_eq_append_getElem hi]
   have hl : (xs.take (i + 1)).length ≤ 1000000 := by rw [List.length_take]; omega
   refine ⟨Nat.le_trans hl (by decide), (fun hc => by cases hc), fun _ => ih _ rfl⟩))
  (fun b hb => aU it (bz f xs _ _ b) (by
   rw [List.take_length] at hb
   subst hb
   exact ⟨fun hc => absurd (of_decide_eq_true hc) (Int.lt_irrefl _), fun _ => ⟨hp, _, rfl, rfl⟩⟩))
theorem kg : aC prog [] cC cz :=
 cL (S := cz) it (fx := aX) jP (by kernel_rfl) (fun h => by cases h) (T := fun x => fP x.1 x.2.1) (fun x => i7 x.1 x.2.1) fun O w0 x _ hp => by
  obtain ⟨⟨xs, ⟨⟩⟩, f, ⟨⟩⟩ := x
  have hp : fT ab f xs := hp
  have hlen := hp.len
  refine aU it (da f xs (lnx ab xs) 0) ?_
  refine ⟨fun hc => ?_, fun hc => ?_⟩
  ·have h0 : 0 < xs.length := Int.ofNat_lt.1 (of_decide_eq_true hc)
   refine ⟨ci (i := 0) h0, ?_⟩
   rw [show (0 : Int) = ((0 : Nat) : Int) from rfl, dg h0, fg h0 (by omega)]
   refine ⟨show 1 ≤ cO by decide, (fun hc => by cases hc), fun _ => ?_⟩
   refine (wa O w0 xs f hp).down 1 _ h0 ?_
   rw [List.take_succ_eq_append_getElem h0]
   rfl
  ·have h0 : xs = [] := List.eq_nil_of_length_eq_zero (by have := of_decide_eq_false hc; have h2 : ¬ (0 : Int) < (xs.length : Int) := this; omega)
   subst h0
   refine ⟨hp, _, rfl, ?_⟩
   show (([] : List Mem), ()) = (List.mergeSort [] _, ())
   rw [List.mergeSort_nil]
end Go.Proofs.Ytiaplhcifflibaa
namespace Go.Proofs.Ytiaplhcifflibaa
open Go Go.RowKit
abbrev ng (m : Mem) : Int := vB m.2.1
abbrev OkM (l : List Mem) : Prop := ∀ m ∈ l, okT ab m
theorem fK {m : Mem} (h : okT ab m) : iR m.2.1 := zi h.2.1
theorem vf : ∀ (l pre : List Mem), l7 pre l = true → (∀ m ∈ l, 0 ≤ (m.1 : Int) ∧ (m.1 : Int) < 16) ∧ (∀ m ∈ l, ∀ x ∈ pre, dB x m = false) ∧ l.Pairwise fun x m => dB x m = false
 | [], _, _ => ⟨fun _ h => (by cases h), fun _ h => (by cases h), List.Pairwise.nil⟩
 | m :: l, pre, h => by
  rw [pI] at h
  simp only [Bool.and_eq_true, Bool.not_eq_true', decide_eq_true_eq] at h
  obtain ⟨⟨⟨h1, h2⟩, h3⟩, h4⟩ := h
  obtain ⟨i1, i2, i3⟩ := vf l (pre ++ [m]) h4
  have h1 : ∀ x ∈ pre, dB x m = false := fun x hx => by
   have := List.any_eq_false.1 h1 x hx
   simpa using this
  refine ⟨fun z hz => ?_, fun z hz x hx => ?_, List.pairwise_cons.2 ⟨fun z hz => i2 z hz m (List.mem_append.2 (.inr List.mem_cons_self)), i3⟩⟩
  ·rcases List.mem_cons.1 hz with rfl | hz
   ·exact ⟨h2, h3⟩
   ·exact i1 z hz
  ·rcases List.mem_cons.1 hz with rfl | hz
   ·exact h1 x hx
   ·exact i2 z hz x (List.mem_append.2 (.inl hx))
theorem uJ {x m : Mem} (h : x.1 = m.1) : dB x m = true := by unfold dB; rw [decide_eq_true h]; rfl
theorem zd {x m : Mem} (h : x.2.1 = m.2.1) : dB x m = true := by
 unfold dB
 have : eqb tId x.2.1 m.2.1 = true := (nO (t := tId) rfl _ _).2 h
 rw [this]
 cases decide (x.1 = m.1) <;> rfl
structure RR (l : List Mem) : Prop where
 len : l.length ≤ 16
 no : ∀ m ∈ l, 0 ≤ (m.1 : Int) ∧ (m.1 : Int) < 16
 pw : l.Pairwise fun x m => dB x m = false
theorem oE {l : List Mem} (h : az l = true) : RR l := by
 unfold az at h
 simp only [Bool.and_eq_true, decide_eq_true_eq] at h
 obtain ⟨h1, h2⟩ := h
 obtain ⟨i1, _, i3⟩ := vf l [] h1
 exact ⟨h2, i1, i3⟩
theorem RR.at {l : List Mem} (h : RR l) {i j : Nat} (hij : i < j) (hj : j < l.length) : dB l[i] l[j] = false := List.pairwise_iff_getElem.1 h.pw i j (by omega) hj hij
theorem RR.inj {l : List Mem} (h : RR l) {x y : Mem} (hx : x ∈ l) (hy : y ∈ l) (e : x.1 = y.1 ∨ x.2.1 = y.2.1) : x = y := by
 obtain ⟨i, hi, rfl⟩ := List.getElem_of_mem hx
 obtain ⟨j, hj, rfl⟩ := List.getElem_of_mem hy
 rcases Nat.lt_trichotomy i j with h1 | h1 | h1
 ·have := h.at h1 hj
  rcases e with e | e
  ·rw [uJ e] at this; cases this
  ·rw [zd e] at this; cases this
 ·subst h1; rfl
 ·have := h.at h1 hi
  rcases e with e | e
  ·rw [uJ e.symm] at this; cases this
  ·rw [zd e.symm] at this; cases this
theorem RR.nodup {l : List Mem} (h : RR l) : l.Nodup := List.Pairwise.imp (fun {x m} hf e => by rw [e, uJ rfl] at hf; cases hf) h.pw
theorem RR.rng {l : List Mem} (h : RR l) (hk : OkM l) : BA ng bf l :=
 ⟨fun m hm => jw (fK (hk m hm)), fun x hx y hy e => h.inj hx hy (.inr (Dt (by rw [(fK (hk x hx)).1, (fK (hk y hy)).1]) (fK (hk x hx)).2 (fK (hk y hy)).2 e))⟩
theorem k8 {a b : List Int} (ha : iR a) (hb : iR b) : vB (aH a b) = rky bf (vB a) (vB b) := Dk ha hb
theorem CO (id : List Int) (x y : Mem) : cfD ab (bD id) x y = d6 (aH id x.2.1) (aH id y.2.1) := rfl
theorem nP (id : List Int) (x y : Mem) : ltD ab (bD id) x y = decide (vB (aH id x.2.1) < vB (aH id y.2.1)) := by
 unfold ltD
 rw [CO]
 exact decide_eq_decide.2 sJ
theorem B4 {l : List Mem} (h : RR l) (hk : OkM l) {id : List Int} (hid : iR id) : fT ab (bD id) l := by
 refine ⟨⟨_, rfl⟩, ⟨fun x => ?_, fun x y z h1 h2 => ?_, fun x y z h1 h2 => ?_⟩, fun x hx y hy h1 h2 => ?_, Nat.le_trans h.len (by decide)⟩
 ·rw [nP]; exact decide_eq_false (Int.lt_irrefl _)
 ·rw [nP] at *; exact decide_eq_true (Int.lt_trans (of_decide_eq_true h1) (of_decide_eq_true h2))
 ·rw [nP] at *
  have h1 := of_decide_eq_false h1
  have h2 := of_decide_eq_false h2
  exact decide_eq_false (by omega)
 ·rw [nP] at *
  have h1 := of_decide_eq_false h1
  have h2 := of_decide_eq_false h2
  have e : vB (aH id x.2.1) = vB (aH id y.2.1) := by omega
  rw [k8 hid (fK (hk x hx)), k8 hid (fK (hk y hy))] at e
  exact (h.rng hk).inj x hx y hy (wQ (jw hid) ((h.rng hk).in' x hx) ((h.rng hk).in' y hy) e)
theorem Ci {l : List Mem} (h : RR l) (hk : OkM l) {id : List Int} (hid : iR id) : lE ng bf (vB id) l (cX ab (bD id) l) ∧ (cX ab (bD id) l).length = l.length := by
 have hl : (cX ab (bD id) l).length = l.length := List.length_mergeSort ..
 have hmem : ∀ x, x ∈ cX ab (bD id) l ↔ x ∈ l := fun x => List.mem_mergeSort
 refine ⟨⟨hmem, ?_⟩, hl⟩
 have hle : ∀ x y : Mem, (!ltD ab (bD id) y x) = true ↔ vB (aH id x.2.1) ≤ vB (aH id y.2.1) := fun x y => by
  rw [nP, Bool.not_eq_true', decide_eq_false_iff_not]
  omega
 have hs := List.pairwise_mergeSort (le := fun x y => !ltD ab (bD id) y x) (fun a b c h1 h2 => (hle a c).2 (Int.le_trans ((hle a b).1 h1) ((hle b c).1 h2))) (fun a b => by
  rw [Bool.or_eq_true, hle, hle]
  exact Int.le_total _ _) l
 have hnd : (cX ab (bD id) l).Nodup := (List.mergeSort_perm l _).nodup_iff.2 h.nodup
 refine List.pairwise_iff_getElem.2 fun i j hi hj hij => ?_
 have h1 := (hle _ _).1 (List.pairwise_iff_getElem.1 hs i j hi hj hij)
 have mi := (hmem _).1 (List.getElem_mem hi)
 have mj := (hmem _).1 (List.getElem_mem hj)
 have k1 := k8 hid (fK (hk _ mi))
 have k2 := k8 hid (fK (hk _ mj))
 show rky bf (vB id) (vB (cX ab (bD id) l)[i].2.1) < rky bf (vB id) (vB (cX ab (bD id) l)[j].2.1)
 rw [← k1, ← k2]
 refine Int.lt_iff_le_and_ne.2 ⟨h1, fun e => ?_⟩
 rw [k1, k2] at e
 have := (h.rng hk).inj _ mi _ mj (wQ (jw hid) ((h.rng hk).in' _ mi) ((h.rng hk).in' _ mj) e)
 exact List.pairwise_iff_getElem.1 hnd i j hi hj hij this
theorem qW : iR (zero tId : List Int) := ⟨List.length_replicate .., fun x hx => by rw [List.eq_of_mem_replicate hx]; decide⟩
theorem qk : aC prog [] fm d2 :=
 cL (S := d2) (xU iU rz mh) (fx := oX) vZ (by kernel_rfl) (fun _ _ => trivial) (T := fun x => qq x.1 x.2.1) (fun x => tV x.1 x.2.1) fun O w0 x _ _ => by
  obtain ⟨l, id, ⟨⟩⟩ := x
  have leaf : ∀ {p : Mem × Int}, aZ l id = p → ∃ z, aM kA (K.val (Ty.pair ab (Ty.pair ae Ty.unit)) (p.1, p.2, ())) = some z ∧ z = d2.g (l, id, ()) := fun {p} e =>
   ⟨_, rfl, by show (p.1, p.2, ()) = ((aZ l id).1, (aZ l id).2, ()); rw [e]⟩
  refine ⟨trivial, fun h => leaf (p := (_, _)) ?_, fun h => ⟨fun h2 => leaf (p := (_, _)) ?_, fun h2 => ⟨trivial, ⟨⟨_, rfl⟩, ?_⟩, leaf (p := (_, _)) ?_⟩⟩⟩
  ·unfold aZ; rw [h]; rfl
  ·unfold aZ; rw [h, h2]; rfl
  ·have h2 : ¬ ((List.length l : Nat) : Int) = 0 := of_decide_eq_false h2
   exact Nat.pos_of_ne_zero fun e => h2 (by rw [e]; rfl)
  ·unfold aZ; rw [h, h2]; rfl
theorem vW : aC prog [] ik fJ :=
 cL (S := fJ) (vS iU nr rz kg) (fx := nS) uj (by kernel_rfl) (fun _ _ => trivial) (T := fun x => o0 x.1) (fun x => sr x.1) fun O w0 x hk _ => by
  obtain ⟨l, ⟨⟩⟩ := x
  have leaf : ∀ {p : List Mem × Int}, bT l = p → ∃ z, aM jd (K.val (Ty.pair (Ty.slc ab) (Ty.pair ae Ty.unit)) (p.1, p.2, ())) = some z ∧ z = fJ.g (l, ()) := fun {p} e =>
   ⟨_, rfl, by show (p.1, p.2, ()) = ((bT l).1, (bT l).2, ()); rw [e]⟩
  refine ⟨trivial, fun h => leaf (p := (_, _)) ?_, fun h => ⟨trivial, trivial, ?_, leaf (p := (_, _)) ?_⟩⟩
  ·unfold bT; rw [h]; rfl
  ·exact B4 (oE (by simpa using h)) hk.1.2 qW
  ·unfold bT; rw [h]; rfl
abbrev GOw (O : Nat → Prop) (w0 : World) (y : Mem) := bE prog ju (Cx.base O w0) (cw prog O w0 l6 fun z => z = (y, ()))
def xZ (O : Nat → Prop) (w0 : World) (l : List Mem) (id : List Int) (z : Mem) (hm : l.length ≤ maxLen) :=
 PLift.up <| dM (σ := Mem) l.length (fun i b => b = (l.take i).foldl (i4 id) noM)
  (fun i b => GOw O w0 (cH l id) [] dT (lp dL 3) (pg l (lnx ab l) (i : Nat) id z b))
  (fun i b hi hb ih => aU (ns qv kf) (kF l _ _ id z b) (by
   have hst : (l.take (i + 1)).foldl (i4 id) noM = i4 id b l[i] := by rw [List.take_succ_eq_append_getElem hi, List.foldl_append, ← hb]; rfl
   refine ⟨fun _ => ⟨ci hi, fun _ => trivial, fun _ => trivial, fun _ => trivial, ?_⟩, fun hc => absurd hi (by rw [iB] at hc; exact of_decide_eq_false hc)⟩
   rw [dg hi, fg hi hm]
   refine ⟨fun hc => ih _ ?_, fun hc => ih _ ?_⟩ <;> rw [hst] <;> unfold i4
   ·have hc : (bif decide (b.1 < 0) then true else decide (d6 (aH id l[i].2.1) (aH id b.2.1) < 0)) = true := hc
    rw [hc]; rfl
   ·have hc : (bif decide (b.1 < 0) then true else decide (d6 (aH id l[i].2.1) (aH id b.2.1) < 0)) = false := hc
    rw [hc]; rfl))
  (fun b hb => aU (ns qv kf) (kF l _ _ id z b) ⟨fun hc => absurd (of_decide_eq_true hc) (Int.lt_irrefl _), fun _ => ⟨_, rfl, by rw [hb, List.take_length]; rfl⟩⟩)
theorem nu : aC prog [] dI dH :=
 cL (S := dH) (ns qv kf) (fx := dT) xn (by kernel_rfl) (fun _ _ => trivial) (T := fun x => rl x.1 x.2.1) (fun x => uF x.1 x.2.1) fun O w0 x hk _ =>
  (xZ O w0 x.1 x.2.1 (zero ab) hk.1.1).down 0 _ (Nat.zero_le _) rfl
theorem kK : aC prog [] kR k5 :=
 cL (S := k5) (Aj nu vc rh) (fx := ru) yA (by kernel_rfl) (fun _ _ => trivial) (T := fun x => tv x.1 x.2.1) (fun x => vP x.1 x.2.1) fun O w0 x _ _ => ⟨rfl, trivial, trivial, _, rfl, rfl⟩
abbrev GA7 (O : Nat → Prop) (w0 : World) (y : List Mem) := bE prog jF (Cx.base O w0) (cw prog O w0 i6 fun z => z = (y, ()))
def xG (O : Nat → Prop) (w0 : World) (l : List Mem) (m : Mem) (n : Nat) (hn : n ≤ 1000) :=
 PLift.up <| dM (σ := Mem × List Mem) n (fun i s => s = ((gd l m i).2, (gd l m i).1) ∧ s.2.length = i)
  (fun i s => GA7 O w0 (gd l m n).1 [] fj (lp eT 3) (pe l (n : Int) (i : Nat) s.1 s.2))
  (fun i s hi hs ih => aU (jE kK) (hK l _ _ s.1 s.2) (by
   obtain ⟨h1, h2⟩ := hs
   refine ⟨fun _ => ⟨trivial, ?_⟩, fun hc => absurd (Int.ofNat_lt.2 hi) (of_decide_eq_false hc)⟩
   rw [fg hi (by omega), xA]
   refine ⟨by rw [List.length_append, h2]; exact show i + 1 ≤ 1073741824 by omega, ih (_, _) ⟨?_, by show (s.2 ++ [_]).length = _; rw [List.length_append, h2]; rfl⟩⟩
   rw [h1]
   rfl))
  (fun s hs => aU (jE kK) (hK l _ _ s.1 s.2) ⟨fun hc => absurd (of_decide_eq_true hc) (Int.lt_irrefl _), fun _ => ⟨_, rfl, by rw [hs.1]⟩⟩)
theorem yk : aC prog [] jH jL :=
 cL (S := jL) (jE kK) (fx := fj) xK (by kernel_rfl) (fun h => by cases h) (T := fun x => rB x.1 x.2.1 x.2.2.1) (fun x => uP x.1 x.2.1 x.2.2.1) fun O w0 x _ hp => by
  obtain ⟨l, m, many, ⟨⟩⟩ := x
  have hp : (many : Int) ≤ 1000 := hp
  by_cases h0 : (0 : Int) ≤ many
  ·obtain ⟨n, hn⟩ : ∃ n : Nat, (n : Int) = many := ⟨Int.toNat many, Int.toNat_of_nonneg h0⟩
   subst hn
   exact (xG O w0 l m n (Int.ofNat_le.1 hp)).down 0 (m, []) (Nat.zero_le _) ⟨rfl, rfl⟩
  ·have e : Int.toNat many = 0 := Int.toNat_eq_zero.2 (Int.le_of_lt (Int.not_le.1 h0))
   show bE _ _ _ (cw prog O w0 i6 fun z => z = ((gd l m (Int.toNat many)).1, ())) _ _ _ _
   rw [e]
   exact aU (jE kK) (hK l _ _ m []) ⟨fun hc => absurd (Int.le_of_lt (of_decide_eq_true hc)) h0, fun _ => ⟨_, rfl, rfl⟩⟩
theorem xy : aC prog [] iV iZ :=
 cL (S := iZ) (wJ nu yk) (fx := o3) vQ (by kernel_rfl) (fun h => by cases h) (T := fun x => qA x.1) (fun x => s9 x.1) fun O w0 x _ hp => by
  obtain ⟨l, ⟨⟩⟩ := x
  have hp : List.length l ≤ 1000 := hp
  have aft_len : ∀ (m : Mem) (n : Nat), (gd l m n).1.length = n := fun m n => by
   induction n with
   | zero => rfl
   | succ n ih => show ((gd l m n).1 ++ [_]).length = _; rw [List.length_append, ih]; rfl
  refine ⟨fun h => ⟨_, rfl, ?_⟩, fun h => ?_⟩
  ·have h : (l.length : Int) = 0 := of_decide_eq_true h
   show (([] : List Mem), ()) = (dp l, ())
   unfold dp
   rw [if_pos (by omega)]
  ·have h : ¬ (l.length : Int) = 0 := of_decide_eq_false h
   have e : IntKind.wrap .i64 (lnx ab l - 1) = ((l.length - 1 : Nat) : Int) := by
    show IntKind.wrap .i64 ((l.length : Int) - 1) = _
    rw [bm (by omega)]; omega
   rw [e, Int.toNat_natCast]
   refine ⟨trivial, (show ((l.length - 1 : Nat) : Int) ≤ 1000 by omega), ?_, _, rfl, ?_⟩
   ·rw [List.length_append, aft_len]
    exact show 1 + (l.length - 1) ≤ 1073741824 by omega
   ·show ([cH l (zero tId)] ++ (gd l (cH l (zero tId)) (l.length - 1)).1, ()) = (dp l, ())
    unfold dp
    rw [if_neg (by omega)]
    rfl
end Go.Proofs.Ytiaplhcifflibaa
namespace Go.Proofs.Ytiaplhcifflibaa
open Go Go.RowKit
noncomputable abbrev pX : Fx := { fn := ne, ann := { }, share := true }
noncomputable abbrev rO : bj := { D := { T := bn, F := [(fm, d2), (cx, cy)], R := [], ovl := [] }, inl := [] }
noncomputable abbrev yU : bU := .data p9
theorem yI (h_ring_Owner : aC prog [] fm d2) (h_ring_Right : aC prog [] cx cy) : XOk prog rO := xok (aG (aG (aT a6 aL) h_ring_Right) h_ring_Owner) (by kernel_rfl) bc bv bw
noncomputable def rA : af := af.req True (af.all (den (Ty.pair ab (Ty.pair ae Ty.unit))) (fun (q0 : den (Ty.pair ab (Ty.pair ae Ty.unit))) ↦ q0 = (Prod.fst (aZ (List.set (List.set (List.replicate 2 (zero ab)) 0 (3, List.set (List.replicate 32 (zero (Ty.int IntKind.u8))) 31 20, zero Ty.unit)) 1 (5, List.set (List.replicate 32 (zero (Ty.int IntKind.u8))) 31 10, zero Ty.unit)) (List.set (List.replicate 32 (zero (Ty.int IntKind.u8))) 31 21)), Prod.snd (aZ (List.set (List.set (List.replicate 2 (zero ab)) 0 (3, List.set (List.replicate 32 (zero (Ty.int IntKind.u8))) 31 20, zero Ty.unit)) 1 (5, List.set (List.replicate 32 (zero (Ty.int IntKind.u8))) 31 10, zero Ty.unit)) (List.set (List.replicate 32 (zero (Ty.int IntKind.u8))) 31 21)), PUnit.unit)) fun (q0 : den (Ty.pair ab (Ty.pair ae Ty.unit))) ↦ af.req (lx [(bif decide (Prod.fst (Prod.snd q0) = 0) then decide (Prod.fst (Prod.fst q0) = 5) else false, true)] True) (af.ret (K.val (Ty.pair Ty.bool Ty.unit) (bif bif decide (Prod.fst (Prod.snd q0) = 0) then decide (Prod.fst (Prod.fst q0) = 5) else false then az (List.set (List.set (List.replicate 2 (zero ab)) 0 (3, List.set (List.replicate 32 (zero (Ty.int IntKind.u8))) 31 20, zero Ty.unit)) 1 (5, List.set (List.replicate 32 (zero (Ty.int IntKind.u8))) 31 10, zero Ty.unit)) else false, PUnit.unit))))
theorem um : au rO yU 5000 [] pX (aB ne) (Env.of (aO qC () 0) []) = rA := by kernel_rfl
noncomputable abbrev my : Fx := { fn := jh, ann := { }, share := true }
noncomputable abbrev nW : bj := { D := { T := bn, F := [(mn, mL), (ik, fJ), (fm, d2), (cx, cy), (jI, jK), (jJ, jG), (kW, kO), (iV, iZ), (dI, dH)], R := [], ovl := [] }, inl := [] }
noncomputable abbrev uB : bU := .data sX
theorem u2 (h_l07_few : aC prog [] mn mL) (h_ring_Sorted : aC prog [] ik fJ) (h_ring_Owner : aC prog [] fm d2) (h_ring_Right : aC prog [] cx cy) (h_r07_Right : aC prog [] jI jK) (h_l07_alive : aC prog [] jJ jG) (h_r07_Same : aC prog [] kW kO) (h_r07_Sorted : aC prog [] iV iZ) (h_r07_Owner : aC prog [] dI dH) : XOk prog nW := xok (aG (aG (aG (aG (aG (aG (aG (aG (aG (aT a6 aL) h_r07_Owner) h_r07_Sorted) h_r07_Same) h_l07_alive) h_r07_Right) h_ring_Right) h_ring_Owner) h_ring_Sorted) h_l07_few) (by kernel_rfl) bc bv bw
noncomputable def nG (l : den (Ty.slc ab)) (id : den tId) : af := af.req True (af.all (den (Ty.slc ab)) (fun (q2 : den (Ty.slc ab)) ↦ q2 = List.take 18 l) fun (q2 : den (Ty.slc ab)) ↦ af.req True (af.all (den (Ty.pair (Ty.slc ab) (Ty.pair ae Ty.unit))) (fun (q3 : den (Ty.pair (Ty.slc ab) (Ty.pair ae Ty.unit))) ↦ q3 = (Prod.fst (bT q2), Prod.snd (bT q2), PUnit.unit)) fun (q3 : den (Ty.pair (Ty.slc ab) (Ty.pair ae Ty.unit))) ↦ af.req True (af.all (den (Ty.pair ab (Ty.pair ae Ty.unit))) (fun (q4 : den (Ty.pair ab (Ty.pair ae Ty.unit))) ↦ q4 = (Prod.fst (aZ q2 id), Prod.snd (aZ q2 id), PUnit.unit)) fun (q4 : den (Ty.pair ab (Ty.pair ae Ty.unit))) ↦ af.req True (af.all (den Ty.bool) (fun (q5 : den Ty.bool) ↦ q5 = az q2) fun (q5 : den Ty.bool) ↦ af.req True (af.all (den Ty.bool) (fun (q6 : den Ty.bool) ↦ q6 = az q2) fun (q6 : den Ty.bool) ↦ af.req (lx [(!eqO q5 q6, false)] True) (af.ite (bif !eqO q5 q6 then true else !true) (af.ret (K.val (Ty.pair Ty.bool Ty.unit) (false, PUnit.unit))) (af.req True (af.all (den Ty.bool) (fun (q7 : den Ty.bool) ↦ q7 = az q2) fun (q7 : den Ty.bool) ↦ af.ite (!q7) (af.ret (K.val (Ty.pair Ty.bool Ty.unit) (bif bif bif decide (Prod.fst (Prod.snd q3) = 1) then decide (Prod.fst (Prod.snd q4) = 1) else false then decide (lnx ab (Prod.fst q3) = 0) else false then eqb ab (Prod.fst q4) (zero (Ty.pair ae (Ty.pair tId Ty.unit))) else false, PUnit.unit))) (af.req (lx [(!decide (Prod.fst (Prod.snd q3) = 0), false)] (List.length q2 ≤ 1000)) (af.req (lx [(!decide (Prod.fst (Prod.snd q3) = 0), false)] True) (af.ite (bif !decide (Prod.fst (Prod.snd q3) = 0) then true else !decide (Prod.fst q3 = dp q2)) (af.ret (K.val (Ty.pair Ty.bool Ty.unit) (false, PUnit.unit))) (af.ite (decide (lnx ab q2 = 0)) (af.ret (K.val (Ty.pair Ty.bool Ty.unit) (bif decide (Prod.fst (Prod.snd q4) = 6) then eqb ab (Prod.fst q4) (zero (Ty.pair ae (Ty.pair tId Ty.unit))) else false, PUnit.unit))) (af.req (lx [(decide (Prod.fst (Prod.snd q4) = 0), true)] True) (af.ret (K.val (Ty.pair Ty.bool Ty.unit) (bif decide (Prod.fst (Prod.snd q4) = 0) then eqb ab (Prod.fst q4) (cH q2 id) else false, PUnit.unit))))))))))))))))
theorem qY (l : den (Ty.slc ab)) (id : den tId) : au nW uB 5000 [] my (aB jh) (Env.of (aO du (l, id, ()) 0) []) = nG l id := by kernel_rfl
end Go.Proofs.Ytiaplhcifflibaa
namespace Go.Proofs.Ytiaplhcifflibaa
open Go Go.RowKit
section
variable {l : List Mem}
theorem A2 (hk : OkM l) {id : List Int} (hid : iR id) {x : Mem} (hx : x ∈ l) (h : ∀ y ∈ l, vB (aH id x.2.1) ≤ vB (aH id y.2.1)) : gb ng bf (vB id) l x :=
 ⟨hx, fun y hy => by
  have := h y hy
  rw [k8 hid (fK (hk x hx)), k8 hid (fK (hk y hy))] at this
  exact this⟩
theorem wN (id : List Int) : ∀ (t : List Mem) (b : Mem), oq (cmM (bD id)) b t = gV (fun m => vB (aH id m.2.1)) b t
 | [], _ => rfl
 | x :: t, b => by
  have e : (cmM (bD id) x b < 0) = (vB (aH id x.2.1) < vB (aH id b.2.1)) := propext (sJ (a := aH id x.2.1) (b := aH id b.2.1))
  show oq (cmM (bD id)) (if cmM (bD id) x b < 0 then x else b) t = gV (fun m => vB (aH id m.2.1)) (if vB (aH id x.2.1) < vB (aH id b.2.1) then x else b) t
  simp only [e]
  exact wN id t _
theorem oN {k : Mem → Int} {b : Mem} {t : List Mem} : gV k b t ∈ b :: t ∧ ∀ y ∈ b :: t, k (gV k b t) ≤ k y := by
 obtain ⟨h1, h2, h3⟩ := oH k t b
 refine ⟨h1, fun y hy => ?_⟩
 rcases List.mem_cons.1 hy with rfl | hy
 ·exact h2
 ·exact h3 y hy
theorem zM (hr : az l = true) (hk : OkM l) (h0 : 0 < l.length) {id : List Int} (hid : iR id) : ∃ o, aZ l id = (o, 0) ∧ gb ng bf (vB id) l o := by
 refine ⟨w9 (cmM (bD id)) l, ?_, ?_⟩
 ·unfold aZ
  rw [hr, decide_eq_false (show ¬ (lnx ab l = 0) from fun h => by have h : (l.length : Int) = 0 := h; omega)]
  rfl
 ·cases l with
  | nil => cases h0
  | cons b t =>
   show gb ng bf (vB id) (b :: t) (oq (cmM (bD id)) b t)
   rw [wN]
   exact A2 hk hid oN.1 oN.2
theorem ve (id : List Int) : ∀ (t : List Mem) (b : Mem), 0 ≤ (b.1 : Int) → (∀ x ∈ t, 0 ≤ (x.1 : Int)) → t.foldl (i4 id) b = gV (fun m => vB (aH id m.2.1)) b t
 | [], _, _, _ => rfl
 | x :: t, b, hb, ht => by
  have hx := ht x List.mem_cons_self
  have e : i4 id b x = if vB (aH id x.2.1) < vB (aH id b.2.1) then x else b := by
   unfold i4
   rw [decide_eq_false (Int.not_lt.2 hb), cond_false]
   by_cases h : vB (aH id x.2.1) < vB (aH id b.2.1)
   ·rw [decide_eq_true (sJ.2 h), if_pos h]; rfl
   ·rw [decide_eq_false (fun h' => h (sJ.1 h')), if_neg h]; rfl
  show t.foldl (i4 id) (i4 id b x) = gV (fun m => vB (aH id m.2.1)) (if vB (aH id x.2.1) < vB (aH id b.2.1) then x else b) t
  rw [e]
  refine ve id t _ ?_ fun y hy => ht y (List.mem_cons_of_mem _ hy)
  split
  ·exact hx
  ·exact hb
theorem pC (hr : az l = true) (hk : OkM l) (h0 : 0 < l.length) {id : List Int} (hid : iR id) : gb ng bf (vB id) l (cH l id) := by
 have hno := (oE hr).no
 cases l with
 | nil => cases h0
 | cons b t =>
  have e : cH (b :: t) id = gV (fun m => vB (aH id m.2.1)) b t := by
   show t.foldl (i4 id) (i4 id noM b) = _
   have : i4 id noM b = b := by unfold i4; rfl
   rw [this]
   exact ve id t b (hno b List.mem_cons_self).1 fun x hx => (hno x (List.mem_cons_of_mem _ hx)).1
  rw [e]
  exact A2 hk hid oN.1 oN.2
theorem Dc {a : List Int} (ha : iR a) : iR (fb a pw0) ∧ vB (fb a pw0) = rup bf (vB a) := by
 have hr := jw ha
 have hs := ob 32 (v := (vB a + vB pw0) % bf) (Int.emod_nonneg _ (by decide)) (Int.emod_lt_of_pos _ (by decide))
 refine ⟨⟨oG _ _, hs.1⟩, ?_⟩
 unfold fb
 rw [hs.2, AT]
 unfold rup
 split
 ·rename_i h; rw [h, Int.emod_self]
 ·exact Int.emod_eq_of_lt (by omega) (by omega)
theorem zu (hr : az l = true) (hk : OkM l) {m : Mem} (hm : m ∈ l) : gb ng bf (rup bf (ng m)) l (ed l m) := by
 have h0 : 0 < l.length := List.length_pos_of_mem hm
 obtain ⟨a1, a2⟩ := Dc (fK (hk m hm))
 have := pC hr hk h0 a1
 rw [a2] at this
 exact this
theorem A8 {s : List Mem} (h0 : 0 < s.length) (i : Nat) : el ab s (Int.tmod ((i : Int) + 1) s.length) = s[(i + 1) % s.length]'(Nat.mod_lt _ h0) := by
 have e : Int.tmod ((i : Int) + 1) s.length = (((i + 1) % s.length : Nat) : Int) := by
  rw [show (i : Int) + 1 = ((i + 1 : Nat) : Int) by omega]
  exact (Int.ofNat_tmod _ _).symm
 rw [e, dg (Nat.mod_lt _ h0)]
theorem CQ (hr : az l = true) (hk : OkM l) {a : Int} (ha : 0 ≤ a ∧ a < bf) {s : List Mem} (hs : lE ng bf a l s) {i : Nat} (hi : i < s.length) : ed l s[i] = s[(i + 1) % s.length]'(Nat.mod_lt _ (by omega)) := by
 have hm : s[i] ∈ l := (hs.mem _).1 (List.getElem_mem hi)
 have hrng := (oE hr).rng hk
 exact gb.uniq hrng (AH (hrng.in' _ hm)) (zu hr hk hm) (hs.next hrng ha hi)
theorem td (hr : az l = true) (hk : OkM l) {a : Int} (ha : 0 ≤ a ∧ a < bf) {s : List Mem} (hs : lE ng bf a l s) (h0 : 0 < s.length) : ∀ i : Nat, gd l s[0] i = (sq s i, s[i % s.length]'(Nat.mod_lt _ h0))
 | 0 => by
  show ([], s[0]) = ([], s[0 % s.length]'(Nat.mod_lt _ h0))
  simp only [Nat.zero_mod]
 | i + 1 => by
  have ih := td hr hk ha hs h0 i
  have hn := CQ hr hk ha hs (Nat.mod_lt i h0)
  have e : (i % s.length + 1) % s.length = (i + 1) % s.length := by rw [Nat.mod_add_mod]
  simp only [e] at hn
  show ((gd l s[0] i).1 ++ [ed l (gd l s[0] i).2], ed l (gd l s[0] i).2) = (sq s i ++ [el ab s (Int.tmod ((i : Int) + 1) s.length)], _)
  rw [ih]
  show (sq s i ++ [ed l (s[i % s.length]'(Nat.mod_lt _ h0))], ed l (s[i % s.length]'(Nat.mod_lt _ h0))) = _
  rw [hn, A8 h0]
theorem vk {s : List Mem} : ∀ {i : Nat}, i + 1 ≤ s.length → sq s i = (s.drop 1).take i
 | 0, _ => rfl
 | i + 1, h => by
  show sq s i ++ [el ab s (Int.tmod ((i : Int) + 1) s.length)] = _
  rw [vk (by omega), A8 (by omega), List.take_succ_eq_append_getElem (by rw [List.length_drop]; omega)]
  congr 1
  have e : (i + 1) % s.length = i + 1 := Nat.mod_eq_of_lt (by omega)
  simp only [e, List.getElem_drop, Nat.add_comm 1 i]
theorem zy (hr : az l = true) (hk : OkM l) : bT l = (dp l, 0) := by
 obtain ⟨h1, h2⟩ := Ci (oE hr) hk qW
 have e : bT l = (cX ab (bD (zero tId)) l, 0) := by unfold bT; rw [hr]; rfl
 rw [e]
 generalize cX ab (bD (zero tId)) l = s at h1 h2
 unfold dp
 by_cases h0 : l.length = 0
 ·rw [if_pos h0, List.eq_nil_of_length_eq_zero (show s.length = 0 by omega)]
 ·rw [if_neg h0]
  have hs0 : 0 < s.length := by omega
  have hz := jw qW
  have ho : cH l (zero tId) = s[0] := gb.uniq ((oE hr).rng hk) hz (pC hr hk (by omega) qW) (h1.first hs0)
  rw [ho, td hr hk hz h1 hs0]
  show (s, (0 : Int)) = (s[0] :: sq s (l.length - 1), 0)
  rw [vk (by omega), List.take_of_length_le (by rw [List.length_drop]; omega)]
  have : s = s[0] :: s.drop 1 := by
   cases s with
   | nil => cases hs0
   | cons x t => rfl
  rw [← this]
theorem Av (hr : az l = true) (hk : OkM l) (h0 : 0 < l.length) {id : List Int} (hid : iR id) : aZ l id = (cH l id, 0) := by
 obtain ⟨o, e, h⟩ := zM hr hk h0 hid
 rw [e, gb.uniq ((oE hr).rng hk) (jw hid) h (pC hr hk h0 hid)]
end
def m3 : Mem := (3, List.set (List.replicate 32 0) 31 20, ())
def m5 : Mem := (5, List.set (List.replicate 32 0) 31 10, ())
def i21 : List Int := List.set (List.replicate 32 0) 31 21
theorem Do : (aZ [m3, m5] i21).1.1 = (5 : Int) ∧ (aZ [m3, m5] i21).2 = 0 ∧ az [m3, m5] = true := by
 refine ⟨by kernel_rfl, by kernel_rfl, by kernel_rfl⟩
theorem yo : aC prog [] jJ jG :=
 cL (S := jG) (yI qk iU) (fx := pX) wU (by kernel_rfl) (fun _ _ => trivial) (T := fun _ => rA) (fun _ => um) fun O v0 x _ _ => by
  refine ⟨trivial, lH ⟨fun _ => trivial, _, rfl, Prod.ext ?_ rfl⟩⟩
  obtain ⟨h1, h2, h3⟩ := Do
  show (bif bif decide ((aZ [m3, m5] i21).2 = 0) then decide ((aZ [m3, m5] i21).1.1 = (5 : Int)) else false then az [m3, m5] else false) = true
  rw [h1, h2, h3]
  rfl
end Go.Proofs.Ytiaplhcifflibaa
namespace Go.Proofs.Ytiaplhcifflibaa
open Go Go.RowKit
section
variable {l : List Mem}
theorem RR.sub {l l' : List Mem} (h : RR l) (hs : l'.Sublist l) : RR l' := ⟨Nat.le_trans hs.length_le h.len, fun m hm => h.no m (hs.subset hm), h.pw.sublist hs⟩
end
theorem uT : aC prog [] nD (BO du) :=
 cL (S := BO du) (u2 Bs vW qk iU yG yo zY xy nu) (fx := my) ti (by kernel_rfl) (fun _ _ => trivial) (T := fun x => nG x.1 x.2.1) (fun x => qY x.1 x.2.1) fun O w0 x hk _ => by
  obtain ⟨l, id, ⟨⟩⟩ := x
  have hq : OkM (List.take 18 l) := fun m hm => hk.1.2 m (List.mem_of_mem_take hm)
  have hid : iR id := zi hk.2.1
  refine ⟨trivial, lH ?_⟩
  generalize (List.take 18 l : List Mem) = q at hq ⊢
  refine ⟨trivial, lH ⟨trivial, lH ⟨trivial, lH ⟨trivial, lH ⟨fun _ => trivial, fun h => ?_, fun _ => ⟨trivial, lH ⟨fun h => ⟨_, rfl, Prod.ext ?_ rfl⟩, fun h => ?_⟩⟩⟩⟩⟩⟩⟩
  ·have h : (bif !eqO (az q) (az q) then true else !true) = true := h
   cases hr : az q <;> rw [hr] at h <;> cases h
  ·have h : (!az q) = true := h
   have hr : az q = false := by simpa using h
   show (bif bif bif decide ((bT q).2 = 1) then decide ((aZ q id).2 = 1) else false then decide (lnx ab (bT q).1 = 0) else false then eqb ab (aZ q id).1 (zero (Ty.pair ae (Ty.pair tId Ty.unit))) else false) = true
   rw [show bT q = ([], 1) by unfold bT; rw [hr]; rfl, show aZ q id = (zero ab, 1) by unfold aZ; rw [hr]; rfl, qQ, decide_eq_true (show (zero ab : Mem) = zero (Ty.pair ae (Ty.pair tId Ty.unit)) from rfl)]
   rfl
  ·have h : (!az q) = false := h
   have hr : az q = true := by simpa using h
   have hs := zy hr hq
   have hln := (oE hr).len
   refine ⟨fun _ => Nat.le_trans hln (by decide), fun _ => trivial, fun h2 => ?_, fun _ => ⟨fun h3 => ⟨_, rfl, Prod.ext ?_ rfl⟩, fun h3 => ⟨fun _ => trivial, ⟨_, rfl, Prod.ext ?_ rfl⟩⟩⟩⟩
   ·have h2 : (bif !decide ((bT q).2 = 0) then true else !decide ((bT q).1 = dp q)) = true := h2
    rw [hs, decide_eq_true (show ((dp q, (0 : Int)).1 = dp q) from rfl)] at h2
    cases h2
   ·have h3 : decide (lnx ab q = 0) = true := h3
    show (bif decide ((aZ q id).2 = 6) then eqb ab (aZ q id).1 (zero (Ty.pair ae (Ty.pair tId Ty.unit))) else false) = true
    rw [show aZ q id = (zero ab, 6) by unfold aZ; rw [hr, h3]; rfl, qQ, decide_eq_true (show (zero ab : Mem) = zero (Ty.pair ae (Ty.pair tId Ty.unit)) from rfl)]
    rfl
   ·have h3 : decide (lnx ab q = 0) = false := h3
    have h0 : 0 < q.length := Nat.pos_of_ne_zero fun e => of_decide_eq_false h3 (show ((q.length : Nat) : Int) = 0 by omega)
    show (bif decide ((aZ q id).2 = 0) then eqb ab (aZ q id).1 (cH q id) else false) = true
    rw [Av hr hq h0 hid, qQ, decide_eq_true (show cH q id = cH q id from rfl)]
    rfl
end Go.Proofs.Ytiaplhcifflibaa
namespace Go.Proofs.Ytiaplhcifflibaa
open Go Go.RowKit
end Go.Proofs.Ytiaplhcifflibaa
