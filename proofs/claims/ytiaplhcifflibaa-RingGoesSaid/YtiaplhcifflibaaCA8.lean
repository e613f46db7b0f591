/- Part 8 of 8 of what this claim's proof stands on: a theory of programs on data, and the contracts of the functions that the law reaches. It holds no condition of its own. -/
import Derived.Test.YtiaplhcifflibaaCA7
namespace Go.Proofs.Ytiaplhcifflibaa
open Go Go.RowKit
theorem iO : aP prog [] bX cg :=
 eO (S := cg) (iI f7) (fx := eK) iE (by kernel_rfl) (fun h => by cases h) (T := fun x => e9 x.1 x.2.1) (fun x => ic x.1 x.2.1) fun O w0 x _ hp =>
  ⟨hp, _, rfl, by show (decide (0 ≤ ixP (prM x.2.1) x.1 0), ()) = (x.1.any (prM x.2.1), ()); rw [Ad]⟩
theorem mb : aP prog [] c4 c9 :=
 eO (S := c9) lY (fx := gI) lk (by kernel_rfl) (fun h => by cases h) (T := fun x => gN x.1) (fun x => jW x.1) fun O w0 x _ _ => ⟨_, rfl, rfl⟩
theorem pN : aP prog [] fG fJ :=
 eO (S := fJ) (vS tp) (fx := oX) uv (by kernel_rfl) (fun _ _ => trivial) (T := fun x => pC x.1) (fun x => r7 x.1) fun O w0 x _ _ => ⟨fun _ => trivial, _, rfl, rfl⟩
abbrev GRi (O : Nat → Prop) (w0 : World) (y : Bool) := bP prog gb (Cx.base O w0) (cV prog O w0 jz fun z => z = (y, ()))
theorem jD : XOk prog gb := uO iO sD
theorem oU (pre : List Mem) (m : Mem) (l : List Mem) : m7 pre (m :: l) = ((!(pre.any fun x => eT x m)) && decide (0 ≤ m.1) && decide (m.1 < 16) && m7 (pre ++ [m]) l) := rfl
theorem qr {e : Ty} (xs : List (den e)) (i : Nat) : cP e xs 0 (i : Nat) = xs.take i := by
 unfold cP eY
 rw [Int.toNat_natCast]
 exact List.drop_zero
def tr (O : Nat → Prop) (w0 : World) (l : List Mem) (hm : l.length ≤ maxLen) :=
 PLift.up <| hP (σ := Unit) l.length (fun i _ => m7 (l.take i) (l.drop i) = m7 [] l)
  (fun i _ => GRi O w0 (aE l) [] dY (lp dO 2) (mG l l (lnx ab l) (i : Nat)))
  (fun i _ hi hs ih => cE jD (jm l l _ _) (by
   rw [List.drop_eq_getElem_cons hi, oU, ← List.take_succ_eq_append_getElem hi] at hs
   have hi' : i ≤ l.length := Nat.le_of_lt hi
   refine ⟨fun _ => ⟨cT hi, ⟨Int.le_refl _, Int.natCast_nonneg _, Int.ofNat_le.2 hi'⟩, fun _ => trivial, ⟨_, rfl⟩, ?_⟩, fun hc => absurd hi (by rw [mD] at hc; exact of_decide_eq_false hc)⟩
   rw [ed hi, kJ hi hm, qr]
   have e1 : ∀ xs : List Mem, (xs.any (prM (some fun y => (eT y.1 l[i], PUnit.unit)))) = xs.any fun x => eT x l[i] := fun xs => rfl
   refine ⟨fun hc => ⟨_, rfl, ?_⟩, fun hc => ih () ?_⟩
   ·rw [e1] at hc
    show (false, ()) = (aE l, ())
    have : m7 [] l = false := by
     rw [← hs]
     cases h1 : (l.take i).any (fun x => eT x l[i]) with
     | true => rfl
     | false =>
      rw [h1] at hc
      by_cases h2 : (l[i].1 : Int) < 0
      ·rw [decide_eq_false (show ¬ (0 : Int) ≤ l[i].1 from fun h => absurd h2 (Int.not_lt.2 h))]; rfl
      ·rw [decide_eq_false h2] at hc
       have h3 : (16 : Int) ≤ l[i].1 := of_decide_eq_true hc
       rw [decide_eq_false (show ¬ (l[i].1 : Int) < 16 from Int.not_lt.2 h3)]
       cases decide (0 ≤ l[i].1) <;> rfl
    unfold aE
    rw [this]
    rfl
   ·rw [e1] at hc
    rw [← hs]
    cases h1 : (l.take i).any (fun x => eT x l[i]) with
    | true => rw [h1] at hc; cases hc
    | false =>
     rw [h1] at hc
     by_cases h2 : (l[i].1 : Int) < 0
     ·rw [decide_eq_true h2] at hc; cases hc
     ·rw [decide_eq_false h2] at hc
      have h3 : ¬ (16 : Int) ≤ l[i].1 := of_decide_eq_false hc
      rw [decide_eq_true (show (0 : Int) ≤ l[i].1 from Int.not_lt.1 h2), decide_eq_true (show (l[i].1 : Int) < 16 from Int.not_le.1 h3)]
      rfl))
  (fun _ hs => cE jD (jm l l _ _) (by
   refine ⟨fun hc => absurd (of_decide_eq_true hc) (Int.lt_irrefl _), fun _ => ⟨_, rfl, ?_⟩⟩
   rw [List.drop_length] at hs
   show (decide ((l.length : Int) ≤ 16), ()) = (aE l, ())
   unfold aE
   rw [← hs]
   have : decide ((l.length : Int) ≤ 16) = decide (l.length ≤ 16) := decide_eq_decide.2 (by omega)
   rw [this]
   rfl))
theorem il : aP prog [] cn cm :=
 eO (S := cm) jD (fx := dY) ti (by kernel_rfl) (fun _ _ => trivial) (T := fun x => oM x.1) (fun x => qY x.1) fun O w0 x hk _ =>
  (tr O w0 x.1 hk.1.1).down 0 () (Nat.zero_le _) rfl
theorem uY (b : List Mem) (x : Mem) : b ++ List.set (List.replicate 1 (zero ab)) 0 x = b ++ [x] := rfl
abbrev GSo (O : Nat → Prop) (w0 : World) (y : List Mem) := bP prog be (Cx.base O w0) (cV prog O w0 dc fun z => z = (y, ()))
theorem gT : XOk prog be := jH jr
def tn (O : Nat → Prop) (w0 : World) (xs : List Mem) (f : den (lE ab)) (hp : eU ab f xs) :=
 PLift.up <| hP (σ := List Mem) xs.length (fun i b => b = xs.take i)
  (fun i b => GSo O w0 (c6 ab f xs) (bC f xs (lnx ab xs) (i : Nat) b) aV (lp aR 1) (bD f xs (lnx ab xs) (i : Nat) b))
  (fun i b hi hb ih => cE gT (bn f xs _ _ b) (by
   have hlen := hp.len
   refine ⟨fun _ => ⟨cT hi, ?_⟩, fun hc => absurd hi (by rw [mD] at hc; exact of_decide_eq_false hc)⟩
   rw [ed hi, kJ hi (by omega), uY, hb, ← List.take_succ_eq_append_getElem hi]
   have hl : (xs.take (i + 1)).length ≤ 1000000 := by rw [List.length_take]; omega
   refine ⟨Nat.le_trans hl (by decide), (fun hc => by cases hc), fun _ => ih _ rfl⟩))
  (fun b hb => cE gT (bn f xs _ _ b) (by
   rw [List.take_length] at hb
   subst hb
   exact ⟨fun hc => absurd (of_decide_eq_true hc) (Int.lt_irrefl _), fun _ => ⟨hp, _, rfl, rfl⟩⟩))
theorem jG : aP prog [] cp co :=
 eO (S := co) gT (fx := aQ) jl (by kernel_rfl) (fun h => by cases h) (T := fun x => fA x.1 x.2.1) (fun x => iD x.1 x.2.1) fun O w0 x _ hp => by
  obtain ⟨⟨xs, ⟨⟩⟩, f, ⟨⟩⟩ := x
  have hp : eU ab f xs := hp
  have hlen := hp.len
  refine cE gT (c8 f xs (lnx ab xs) 0) ?_
  refine ⟨fun hc => ?_, fun hc => ?_⟩
  ·have h0 : 0 < xs.length := Int.ofNat_lt.1 (of_decide_eq_true hc)
   refine ⟨cT (i := 0) h0, ?_⟩
   rw [show (0 : Int) = ((0 : Nat) : Int) from rfl, ed h0, kJ h0 (by omega)]
   refine ⟨show 1 ≤ cv by decide, (fun hc => by cases hc), fun _ => ?_⟩
   refine (tn O w0 xs f hp).down 1 _ h0 ?_
   rw [List.take_succ_eq_append_getElem h0]
   rfl
  ·have h0 : xs = [] := List.eq_nil_of_length_eq_zero (by have := of_decide_eq_false hc; have h2 : ¬ (0 : Int) < (xs.length : Int) := this; omega)
   subst h0
   refine ⟨hp, _, rfl, ?_⟩
   show (([] : List Mem), ()) = (List.mergeSort [] _, ())
   rw [List.mergeSort_nil]
end Go.Proofs.Ytiaplhcifflibaa
namespace Go.Proofs.Ytiaplhcifflibaa
open Go Go.RowKit
abbrev kR (m : Mem) : Int := vB m.2.1
abbrev OkM (l : List Mem) : Prop := ∀ m ∈ l, okT ab m
theorem d9 {m : Mem} (h : okT ab m) : jJ m.2.1 := wx h.2.1
theorem sY : ∀ (l pre : List Mem), m7 pre l = true → (∀ m ∈ l, 0 ≤ (m.1 : Int) ∧ (m.1 : Int) < 16) ∧ (∀ m ∈ l, ∀ x ∈ pre, eT x m = false) ∧ l.Pairwise fun x m => eT x m = false
 | [], _, _ => ⟨fun _ h => (by cases h), fun _ h => (by cases h), List.Pairwise.nil⟩
 | m :: l, pre, h => by
  rw [oU] at h
  simp only [Bool.and_eq_true, Bool.not_eq_true', decide_eq_true_eq] at h
  obtain ⟨⟨⟨h1, h2⟩, h3⟩, h4⟩ := h
  obtain ⟨i1, i2, i3⟩ := sY l (pre ++ [m]) h4
  have h1 : ∀ x ∈ pre, eT x m = false := fun x hx => by
   have := List.any_eq_false.1 h1 x hx
   simpa using this
  refine ⟨fun z hz => ?_, fun z hz x hx => ?_, List.pairwise_cons.2 ⟨fun z hz => i2 z hz m (List.mem_append.2 (.inr List.mem_cons_self)), i3⟩⟩
  ·rcases List.mem_cons.1 hz with rfl | hz
   ·exact ⟨h2, h3⟩
   ·exact i1 z hz
  ·rcases List.mem_cons.1 hz with rfl | hz
   ·exact h1 x hx
   ·exact i2 z hz x (List.mem_append.2 (.inl hx))
theorem sv {x m : Mem} (h : x.1 = m.1) : eT x m = true := by unfold eT; rw [decide_eq_true h]; rfl
theorem wu {x m : Mem} (h : x.2.1 = m.2.1) : eT x m = true := by
 unfold eT
 have : eqb tId x.2.1 m.2.1 = true := (mA (t := tId) rfl _ _).2 h
 rw [this]
 cases decide (x.1 = m.1) <;> rfl
structure RR (l : List Mem) : Prop where
 len : l.length ≤ 16
 no : ∀ m ∈ l, 0 ≤ (m.1 : Int) ∧ (m.1 : Int) < 16
 pw : l.Pairwise fun x m => eT x m = false
theorem gC {l : List Mem} (h : aE l = true) : RR l := by
 unfold aE at h
 simp only [Bool.and_eq_true, decide_eq_true_eq] at h
 obtain ⟨h1, h2⟩ := h
 obtain ⟨i1, _, i3⟩ := sY l [] h1
 exact ⟨h2, i1, i3⟩
theorem RR.at {l : List Mem} (h : RR l) {i j : Nat} (hij : i < j) (hj : j < l.length) : eT l[i] l[j] = false := List.pairwise_iff_getElem.1 h.pw i j (by omega) hj hij
theorem RR.inj {l : List Mem} (h : RR l) {x y : Mem} (hx : x ∈ l) (hy : y ∈ l) (e : x.1 = y.1 ∨ x.2.1 = y.2.1) : x = y := by
 obtain ⟨i, hi, rfl⟩ := List.getElem_of_mem hx
 obtain ⟨j, hj, rfl⟩ := List.getElem_of_mem hy
 rcases Nat.lt_trichotomy i j with h1 | h1 | h1
 ·have := h.at h1 hj
  rcases e with e | e
  ·rw [sv e] at this; cases this
  ·rw [wu e] at this; cases this
 ·subst h1; rfl
 ·have := h.at h1 hi
  rcases e with e | e
  ·rw [sv e.symm] at this; cases this
  ·rw [wu e.symm] at this; cases this
theorem RR.nodup {l : List Mem} (h : RR l) : l.Nodup := List.Pairwise.imp (fun {x m} hf e => by rw [e, sv rfl] at hf; cases hf) h.pw
theorem RR.rng {l : List Mem} (h : RR l) (hk : OkM l) : uu kR cF l :=
 ⟨fun m hm => lI (d9 (hk m hm)), fun x hx y hy e => h.inj hx hy (.inr (AM (by rw [(d9 (hk x hx)).1, (d9 (hk y hy)).1]) (d9 (hk x hx)).2 (d9 (hk y hy)).2 e))⟩
theorem ke {a b : List Int} (ha : jJ a) (hb : jJ b) : vB (aO a b) = rky cF (vB a) (vB b) := AS ha hb
theorem Ab (id : List Int) (x y : Mem) : cfD ab (bp id) x y = jc (aO id x.2.1) (aO id y.2.1) := rfl
theorem mN (id : List Int) (x y : Mem) : ltD ab (bp id) x y = decide (vB (aO id x.2.1) < vB (aO id y.2.1)) := by
 unfold ltD
 rw [Ab]
 exact decide_eq_decide.2 rc
theorem y4 {l : List Mem} (h : RR l) (hk : OkM l) {id : List Int} (hid : jJ id) : eU ab (bp id) l := by
 refine ⟨⟨_, rfl⟩, ⟨fun x => ?_, fun x y z h1 h2 => ?_, fun x y z h1 h2 => ?_⟩, fun x hx y hy h1 h2 => ?_, Nat.le_trans h.len (by decide)⟩
 ·rw [mN]; exact decide_eq_false (Int.lt_irrefl _)
 ·rw [mN] at *; exact decide_eq_true (Int.lt_trans (of_decide_eq_true h1) (of_decide_eq_true h2))
 ·rw [mN] at *
  have h1 := of_decide_eq_false h1
  have h2 := of_decide_eq_false h2
  exact decide_eq_false (by omega)
 ·rw [mN] at *
  have h1 := of_decide_eq_false h1
  have h2 := of_decide_eq_false h2
  have e : vB (aO id x.2.1) = vB (aO id y.2.1) := by omega
  rw [ke hid (d9 (hk x hx)), ke hid (d9 (hk y hy))] at e
  exact (h.rng hk).inj x hx y hy (uM (lI hid) ((h.rng hk).in' x hx) ((h.rng hk).in' y hy) e)
theorem yQ {l : List Mem} (h : RR l) (hk : OkM l) {id : List Int} (hid : jJ id) : iB kR cF (vB id) l (c6 ab (bp id) l) ∧ (c6 ab (bp id) l).length = l.length := by
 have hl : (c6 ab (bp id) l).length = l.length := List.length_mergeSort ..
 have hmem : ∀ x, x ∈ c6 ab (bp id) l ↔ x ∈ l := fun x => List.mem_mergeSort
 refine ⟨⟨hmem, ?_⟩, hl⟩
 have hle : ∀ x y : Mem, (!ltD ab (bp id) y x) = true ↔ vB (aO id x.2.1) ≤ vB (aO id y.2.1) := fun x y => by
  rw [mN, Bool.not_eq_true', decide_eq_false_iff_not]
  omega
 have hs := List.pairwise_mergeSort (le := fun x y => !ltD ab (bp id) y x) (fun a b c h1 h2 => (hle a c).2 (Int.le_trans ((hle a b).1 h1) ((hle b c).1 h2))) (fun a b => by
  rw [Bool.or_eq_true, hle, hle]
  exact Int.le_total _ _) l
 have hnd : (c6 ab (bp id) l).Nodup := (List.mergeSort_perm l _).nodup_iff.2 h.nodup
 refine List.pairwise_iff_getElem.2 fun i j hi hj hij => ?_
 have h1 := (hle _ _).1 (List.pairwise_iff_getElem.1 hs i j hi hj hij)
 have mi := (hmem _).1 (List.getElem_mem hi)
 have mj := (hmem _).1 (List.getElem_mem hj)
 have k1 := ke hid (d9 (hk _ mi))
 have k2 := ke hid (d9 (hk _ mj))
 show rky cF (vB id) (vB (c6 ab (bp id) l)[i].2.1) < rky cF (vB id) (vB (c6 ab (bp id) l)[j].2.1)
 rw [← k1, ← k2]
 refine Int.lt_iff_le_and_ne.2 ⟨h1, fun e => ?_⟩
 rw [k1, k2] at e
 have := (h.rng hk).inj _ mi _ mj (uM (lI hid) ((h.rng hk).in' _ mi) ((h.rng hk).in' _ mj) e)
 exact List.pairwise_iff_getElem.1 hnd i j hi hj hij this
theorem oK : aP prog [] fa dI :=
 eO (S := dI) (tX il pN lj) (fx := nM) tv (by kernel_rfl) (fun _ _ => trivial) (T := fun x => o0 x.1 x.2.1) (fun x => rK x.1 x.2.1) fun O w0 x _ _ => by
  obtain ⟨l, id, ⟨⟩⟩ := x
  have leaf : ∀ {p : Mem × Int}, bO l id = p → ∃ z, aH jw (K.val (Ty.pair ab (Ty.pair af Ty.unit)) (p.1, p.2, ())) = some z ∧ z = dI.g (l, id, ()) := fun {p} e =>
   ⟨_, rfl, by show (p.1, p.2, ()) = ((bO l id).1, (bO l id).2, ()); rw [e]⟩
  refine ⟨trivial, fun h => leaf (p := (_, _)) ?_, fun h => ⟨fun h2 => leaf (p := (_, _)) ?_, fun h2 => ⟨trivial, ⟨⟨_, rfl⟩, ?_⟩, leaf (p := (_, _)) ?_⟩⟩⟩
  ·unfold bO; rw [h]; rfl
  ·unfold bO; rw [h, h2]; rfl
  ·have h2 : ¬ ((List.length l : Nat) : Int) = 0 := of_decide_eq_false h2
   exact Nat.pos_of_ne_zero fun e => h2 (by rw [e]; rfl)
  ·unfold bO; rw [h, h2]; rfl
theorem qa {l : List Mem} {no : Int} (h : ¬ gL l no < 0) : ∃ k : Nat, ∃ hk : k < l.length, gL l no = (k : Int) ∧ l[k].1 = no := by
 have ha : l.any (fun m => decide (m.1 = no)) = true := by
  cases e : l.any (fun m => decide (m.1 = no)) with
  | true => rfl
  | false => exact absurd (by unfold gL; rw [(lL _ l 0 (Int.le_refl _)).2 e]; decide) h
 obtain ⟨k, hk, e1, e2⟩ := xW _ l 0 ha
 exact ⟨k, hk, by unfold gL; rw [e1]; omega, of_decide_eq_true e2⟩
theorem jB : aP prog [] gW fw :=
 eO (S := fw) (tl il f7 qX mb pN jG) (fx := mr) rZ (by kernel_rfl) (fun _ _ => trivial) (T := fun x => nI x.1 x.2.1) (fun x => pZ x.1 x.2.1) fun O w0 x hk _ => by
  obtain ⟨l, no, ⟨⟩⟩ := x
  have leaf : ∀ {p : List Mem × Int}, aZ l no = p → ∃ z, aH iH (K.val (Ty.pair (Ty.slc ab) (Ty.pair af Ty.unit)) (p.1, p.2, ())) = some z ∧ z = fw.g (l, no, ()) := fun {p} e =>
   ⟨_, rfl, by show (p.1, p.2, ()) = ((aZ l no).1, (aZ l no).2, ()); rw [e]⟩
  refine ⟨trivial, fun h => leaf (p := (_, _)) ?_, fun h => ⟨fun _ => trivial, ⟨_, rfl⟩, fun h2 => leaf (p := (_, _)) ?_, fun h2 => ?_⟩⟩
  ·unfold aZ; rw [h]; rfl
  ·have h2 : decide (gL l no < 0) = true := h2
   unfold aZ; rw [h, h2]; rfl
  ·have h2 : decide (gL l no < 0) = false := h2
   obtain ⟨k, hkl, e1, e2⟩ := qa (of_decide_eq_false h2)
   have hin : inB (gL l no) (lnx ab l) := by rw [e1]; exact cT hkl
   have hel : el ab l (gL l no) = l[k] := by rw [e1]; exact ed hkl
   refine ⟨trivial, hin, trivial, ?_, leaf (p := (_, _)) ?_⟩
   ·show eU ab (bp (el ab l (gL l no)).2.1) l
    rw [hel]
    exact y4 (gC (by simpa using h)) hk.1.2 (d9 (hk.1.2 _ (List.getElem_mem hkl)))
   ·unfold aZ; rw [h, h2]; rfl
theorem xn {l : List Mem} {no : Int} (h : (aZ l no).2 = 0) : (aZ l no).1.length = l.length ∧ 0 < l.length ∧ aE l = true ∧ ¬ gL l no < 0 := by
 unfold aZ at h ⊢
 cases hr : aE l with
 | false => rw [hr] at h; cases h
 | true =>
  rw [hr] at h
  by_cases h2 : gL l no < 0
  ·rw [decide_eq_true h2] at h; cases h
  ·rw [decide_eq_false h2]
   obtain ⟨k, hk, _⟩ := qa h2
   exact ⟨List.length_mergeSort .., by omega, rfl, h2⟩
abbrev GAf (O : Nat → Prop) (w0 : World) (y : List Mem) := bP prog ir (Cx.base O w0) (cV prog O w0 fy fun z => z = (y, 0, ()))
def tB (O : Nat → Prop) (w0 : World) (all : List Mem) (n : Nat) (h0 : 0 < all.length) (hl : all.length ≤ 1000000) (hn : n ≤ 16) :=
 PLift.up <| hP (σ := List Mem) n (fun i b => b = da all i ∧ b.length = i)
  (fun i b => GAf O w0 (da all n) [] dX (lp dK 8) (mJ all (n : Int) (i : Nat) b))
  (fun i b hi hb ih => cE (kT jB) (ji all _ _ b) (by
   obtain ⟨h1, h2⟩ := hb
   have hlen : lnx ab all = (all.length : Int) := rfl
   have e1 : IntKind.wrap .i64 ((i : Int) + 1) = (i : Int) + 1 := de (by omega)
   have hm : 0 ≤ Int.tmod ((i : Int) + 1) all.length ∧ Int.tmod ((i : Int) + 1) all.length < all.length := ⟨Int.tmod_nonneg _ (by omega), Int.tmod_lt_of_pos _ (by omega)⟩
   refine ⟨fun _ => ?_, fun hc => absurd (Int.ofNat_lt.2 hi) (of_decide_eq_false hc)⟩
   rw [e1, hlen, uY]
   refine ⟨(show (all.length : Int) ≠ 0 by omega), hm, ?_, ?_⟩
   ·rw [List.length_append, h2]
    exact show i + 1 ≤ 1073741824 by omega
   ·rw [show (i : Int) + 1 = ((i + 1 : Nat) : Int) by omega]
    refine ih _ ⟨?_, by rw [List.length_append, h2]; rfl⟩
    rw [h1]
    rfl))
  (fun b hb => cE (kT jB) (ji all _ _ b) ⟨fun hc => absurd (of_decide_eq_true hc) (Int.lt_irrefl _), fun _ => ⟨_, rfl, by rw [hb.1]⟩⟩)
theorem uj : aP prog [] iz gd :=
 eO (S := gd) (kT jB) (fx := dX) tk (by kernel_rfl) (fun _ _ => trivial) (T := fun x => oH x.1 x.2.1 x.2.2.1) (fun x => rI x.1 x.2.1 x.2.2.1) fun O w0 x hk _ => by
  obtain ⟨l, no, many, ⟨⟩⟩ := x
  have leaf : ∀ {p : List Mem × Int}, cW l no many = p → ∃ z, aH fy (K.val (Ty.pair (Ty.slc ab) (Ty.pair af Ty.unit)) (p.1, p.2, ())) = some z ∧ z = gd.g (l, no, many, ()) := fun {p} e =>
   ⟨_, rfl, by show (p.1, p.2, ()) = ((cW l no many).1, (cW l no many).2, ()); rw [e]⟩
  refine ⟨fun h => leaf (p := (_, _)) ?_, fun h => ⟨trivial, je ⟨fun h2 => leaf (p := (_, _)) ?_, fun h2 => ?_⟩⟩⟩
  ·unfold cW; rw [h]; rfl
  ·have h2 : (!decide ((aZ l no).2 = 0)) = true := h2
   unfold cW; rw [h, h2]; rfl
  ·have h2 : (!decide ((aZ l no).2 = 0)) = false := h2
   have h3 : (aZ l no).2 = 0 := by simpa using h2
   obtain ⟨t1, t2, t3, _⟩ := xn h3
   have hln := (gC t3).len
   have hmany : 0 ≤ (many : Int) ∧ (many : Int) ≤ 16 := by
    by_cases h4 : many < (0 : Int)
    ·rw [decide_eq_true h4] at h; cases h
    ·rw [decide_eq_false h4] at h
     have h5 : ¬ (16 : Int) < many := of_decide_eq_false h
     exact ⟨Int.not_lt.1 h4, Int.not_lt.1 h5⟩
   obtain ⟨n, hn⟩ : ∃ n : Nat, (n : Int) = many := ⟨Int.toNat many, Int.toNat_of_nonneg hmany.1⟩
   subst hn
   have e : cW l no (n : Int) = (da (aZ l no).1 n, 0) := by unfold cW; rw [h, h2]; rfl
   show bP _ _ _ (cV prog O w0 fy fun z => z = ((cW l no (n : Int)).1, (cW l no (n : Int)).2, ())) _ _ _ _
   rw [e]
   exact (tB O w0 (aZ l no).1 n (by omega) (by omega) (Int.ofNat_le.1 hmany.2)).down 0 [] (Nat.zero_le _) ⟨rfl, rfl⟩
end Go.Proofs.Ytiaplhcifflibaa
namespace Go.Proofs.Ytiaplhcifflibaa
open Go Go.RowKit
noncomputable abbrev ol : Fx := { fn := mm, ann := { }, share := true }
noncomputable abbrev pT : bv := { D := { T := cj, F := [(fa, dI), (cn, cm)], R := [], ovl := [] }, inl := [] }
noncomputable abbrev wa : c7 := .data oJ
theorem vW (h_ring_Owner : aP prog [] fa dI) (h_ring_Right : aP prog [] cn cm) : XOk prog pT := xok (a7 (a7 (bI bK bh) h_ring_Right) h_ring_Owner) (by kernel_rfl) ci cJ cK
noncomputable def pJ : ae := ae.req True (ae.all (den (Ty.pair ab (Ty.pair af Ty.unit))) (fun (q0 : den (Ty.pair ab (Ty.pair af Ty.unit))) ↦ q0 = (Prod.fst (bO (List.set (List.set (List.replicate 2 (zero ab)) 0 (3, List.set (List.replicate 32 (zero (Ty.int IntKind.u8))) 31 20, zero Ty.unit)) 1 (5, List.set (List.replicate 32 (zero (Ty.int IntKind.u8))) 31 10, zero Ty.unit)) (List.set (List.replicate 32 (zero (Ty.int IntKind.u8))) 31 21)), Prod.snd (bO (List.set (List.set (List.replicate 2 (zero ab)) 0 (3, List.set (List.replicate 32 (zero (Ty.int IntKind.u8))) 31 20, zero Ty.unit)) 1 (5, List.set (List.replicate 32 (zero (Ty.int IntKind.u8))) 31 10, zero Ty.unit)) (List.set (List.replicate 32 (zero (Ty.int IntKind.u8))) 31 21)), PUnit.unit)) fun (q0 : den (Ty.pair ab (Ty.pair af Ty.unit))) ↦ ae.req (sq [(bif decide (Prod.fst (Prod.snd q0) = 0) then decide (Prod.fst (Prod.fst q0) = 5) else false, true)] True) (ae.ret (K.val (Ty.pair Ty.bool Ty.unit) (bif bif decide (Prod.fst (Prod.snd q0) = 0) then decide (Prod.fst (Prod.fst q0) = 5) else false then aE (List.set (List.set (List.replicate 2 (zero ab)) 0 (3, List.set (List.replicate 32 (zero (Ty.int IntKind.u8))) 31 20, zero Ty.unit)) 1 (5, List.set (List.replicate 32 (zero (Ty.int IntKind.u8))) 31 10, zero Ty.unit)) else false, PUnit.unit))))
theorem sI : ax pT wa 5000 [] ol (aG mm) (Env.of (a8 oV () 0) []) = pJ := by kernel_rfl
noncomputable abbrev dm : Fx := { fn := cX, ann := { loops := [(14, { keep := [7, 8, 11, 13, 15, 106, 107, 108] })] }, own := [52], share := true }
noncomputable abbrev gB : bv := { D := { T := cj, F := [(lA, lm), (cn, cm), (i6, jd), (fa, dI), (iz, gd)], R := [], ovl := [] }, inl := [] }
noncomputable abbrev mt : c7 := .data lF
theorem sr (h_l07_few : aP prog [] lA lm) (h_ring_Right : aP prog [] cn cm) (h_l07_alive : aP prog [] i6 jd) (h_ring_Owner : aP prog [] fa dI) (h_ring_After : aP prog [] iz gd) : XOk prog gB := xok (a7 (a7 (a7 (a7 (a7 (bI bK bh) h_ring_After) h_ring_Owner) h_l07_alive) h_ring_Right) h_l07_few) (by kernel_rfl) ci cJ cK
noncomputable def mU (l : den (Ty.slc ab)) (k : den af) (id : den tId) : ae := ae.req True (ae.all (den (Ty.slc ab)) (fun (q3 : den (Ty.slc ab)) ↦ q3 = List.take 18 l) fun (q3 : den (Ty.slc ab)) ↦ ae.req True (ae.all (den Ty.bool) (fun (q4 : den Ty.bool) ↦ q4 = aE q3) fun (q4 : den Ty.bool) ↦ ae.ite (bif !q4 then true else decide (lnx ab q3 < 2)) (ae.req True (ae.all (den Ty.bool) (fun (q5 : den Ty.bool) ↦ q5 = true) fun (q5 : den Ty.bool) ↦ ae.ret (K.val (Ty.pair Ty.bool Ty.unit) (q5, PUnit.unit)))) (ae.req (nz (lnx ab q3)) (ae.req (nz (lnx ab q3)) (ae.req (inB (Int.tmod (IntKind.wrap IntKind.i64 (Int.tmod k (lnx ab q3) + lnx ab q3)) (lnx ab q3)) (lnx ab q3)) (ae.req True (ae.all (den (Ty.pair (Ty.slc ab) (Ty.pair af Ty.unit))) (fun (q5 : den (Ty.pair (Ty.slc ab) (Ty.pair af Ty.unit))) ↦ q5 = (Prod.fst (cW q3 (Prod.fst (el ab q3 (Int.tmod (IntKind.wrap IntKind.i64 (Int.tmod k (lnx ab q3) + lnx ab q3)) (lnx ab q3)))) (lnx ab q3)), Prod.snd (cW q3 (Prod.fst (el ab q3 (Int.tmod (IntKind.wrap IntKind.i64 (Int.tmod k (lnx ab q3) + lnx ab q3)) (lnx ab q3)))) (lnx ab q3)), PUnit.unit)) fun (q5 : den (Ty.pair (Ty.slc ab) (Ty.pair af Ty.unit))) ↦ ae.req (bu 0 (Int.tmod (IntKind.wrap IntKind.i64 (Int.tmod k (lnx ab q3) + lnx ab q3)) (lnx ab q3)) (lnx ab q3)) (ae.req (List.length (List.replicate 0 (zero ab) ++ cP ab q3 0 (Int.tmod (IntKind.wrap IntKind.i64 (Int.tmod k (lnx ab q3) + lnx ab q3)) (lnx ab q3))) ≤ cv) (ae.req (bu (IntKind.wrap IntKind.i64 (Int.tmod (IntKind.wrap IntKind.i64 (Int.tmod k (lnx ab q3) + lnx ab q3)) (lnx ab q3) + 1)) (lnx ab q3) (lnx ab q3)) (ae.req (List.length (List.replicate 0 (zero ab) ++ cP ab q3 0 (Int.tmod (IntKind.wrap IntKind.i64 (Int.tmod k (lnx ab q3) + lnx ab q3)) (lnx ab q3)) ++ cP ab q3 (IntKind.wrap IntKind.i64 (Int.tmod (IntKind.wrap IntKind.i64 (Int.tmod k (lnx ab q3) + lnx ab q3)) (lnx ab q3) + 1)) (lnx ab q3)) ≤ cv) (ae.req True (ae.all (den (Ty.pair ab (Ty.pair af Ty.unit))) (fun (q6 : den (Ty.pair ab (Ty.pair af Ty.unit))) ↦ q6 = (Prod.fst (bO q3 id), Prod.snd (bO q3 id), PUnit.unit)) fun (q6 : den (Ty.pair ab (Ty.pair af Ty.unit))) ↦ ae.req True (ae.all (den (Ty.pair ab (Ty.pair af Ty.unit))) (fun (q7 : den (Ty.pair ab (Ty.pair af Ty.unit))) ↦ q7 = (Prod.fst (bO (List.replicate 0 (zero ab) ++ cP ab q3 0 (Int.tmod (IntKind.wrap IntKind.i64 (Int.tmod k (lnx ab q3) + lnx ab q3)) (lnx ab q3)) ++ cP ab q3 (IntKind.wrap IntKind.i64 (Int.tmod (IntKind.wrap IntKind.i64 (Int.tmod k (lnx ab q3) + lnx ab q3)) (lnx ab q3) + 1)) (lnx ab q3)) id), Prod.snd (bO (List.replicate 0 (zero ab) ++ cP ab q3 0 (Int.tmod (IntKind.wrap IntKind.i64 (Int.tmod k (lnx ab q3) + lnx ab q3)) (lnx ab q3)) ++ cP ab q3 (IntKind.wrap IntKind.i64 (Int.tmod (IntKind.wrap IntKind.i64 (Int.tmod k (lnx ab q3) + lnx ab q3)) (lnx ab q3) + 1)) (lnx ab q3)) id), PUnit.unit)) fun (q7 : den (Ty.pair ab (Ty.pair af Ty.unit))) ↦ ae.req (sq [(bif bif bif !decide (Prod.fst (Prod.snd q5) = 0) then true else !decide (Prod.fst (Prod.snd q6) = 0) then true else !decide (Prod.fst (Prod.snd q7) = 0) then true else !decide (lnx ab (Prod.fst q5) = lnx ab q3), false)] (inB (IntKind.wrap IntKind.i64 (lnx ab q3 - 1)) (lnx ab (Prod.fst q5)))) (ae.req (sq [(bif bif bif bif !decide (Prod.fst (Prod.snd q5) = 0) then true else !decide (Prod.fst (Prod.snd q6) = 0) then true else !decide (Prod.fst (Prod.snd q7) = 0) then true else !decide (lnx ab (Prod.fst q5) = lnx ab q3) then true else !eqb ab (el ab (Prod.fst q5) (IntKind.wrap IntKind.i64 (lnx ab q3 - 1))) (el ab q3 (Int.tmod (IntKind.wrap IntKind.i64 (Int.tmod k (lnx ab q3) + lnx ab q3)) (lnx ab q3))), false)] True) (ae.ite (bif bif bif bif bif !decide (Prod.fst (Prod.snd q5) = 0) then true else !decide (Prod.fst (Prod.snd q6) = 0) then true else !decide (Prod.fst (Prod.snd q7) = 0) then true else !decide (lnx ab (Prod.fst q5) = lnx ab q3) then true else !eqb ab (el ab (Prod.fst q5) (IntKind.wrap IntKind.i64 (lnx ab q3 - 1))) (el ab q3 (Int.tmod (IntKind.wrap IntKind.i64 (Int.tmod k (lnx ab q3) + lnx ab q3)) (lnx ab q3))) then true else !true) (ae.ret (K.val (Ty.pair Ty.bool Ty.unit) (false, PUnit.unit))) (ae.loop [] dm (lp cX 14) [(7, K.ptr 0 ab []), (8, K.val (Ty.slc ab) (Prod.fst q5)), (11, K.ptr (0 + 1) ab []), (13, K.ptr (0 + 1 + 1) ab []), (15, K.pm (0 + 1 + 1 + 1)), (106, K.val (Ty.slc ab) (Prod.fst q5)), (107, K.val af (lnx ab (Prod.fst q5))), (108, K.val af 0)] [(0, Bx.cell ab (el ab q3 (Int.tmod (IntKind.wrap IntKind.i64 (Int.tmod k (lnx ab q3) + lnx ab q3)) (lnx ab q3)))), (0 + 1, Bx.cell ab (Prod.fst q6)), (0 + 1 + 1, Bx.cell ab (Prod.fst q7)), (0 + 1 + 1 + 1, Bx.mpd af Ty.bool [])]))))))))))))))))
theorem pv (l : den (Ty.slc ab)) (k : den af) (id : den tId) : ax gB mt 5000 [] dm (aG cX) (Env.of (a8 dn (l, k, id, ()) 0) []) = mU l k id := by kernel_rfl
noncomputable def jN (v8 : den (Ty.slc ab)) (v106 : den (Ty.slc ab)) (v107 : den af) (v108 : den af) (b0 : den ab) (b1 : den ab) (b2 : den ab) (b3 : List (den af × den Ty.bool)) : Env := Env.of [(7, K.ptr 0 ab []), (8, K.val (Ty.slc ab) v8), (11, K.ptr (0 + 1) ab []), (13, K.ptr (0 + 1 + 1) ab []), (15, K.pm (0 + 1 + 1 + 1)), (106, K.val (Ty.slc ab) v106), (107, K.val af v107), (108, K.val af v108)] [(0, Bx.cell ab b0), (1, Bx.cell ab b1), (2, Bx.cell ab b2), (3, Bx.mpd af Ty.bool b3)]
noncomputable def n5 (v8 : den (Ty.slc ab)) (v106 : den (Ty.slc ab)) (v107 : den af) (v108 : den af) (b0 : den ab) (b1 : den ab) (b2 : den ab) (b3 : List (den af × den Ty.bool)) : ae := ae.ite (decide (v108 < v107)) (ae.req (inB v108 (lnx ab v106)) (ae.ite (ie b3 (Prod.fst (el ab v106 v108))) (ae.ret (K.val (Ty.pair Ty.bool Ty.unit) (false, PUnit.unit))) (ae.loop [] dm (lp cX 14) [(7, K.ptr 0 ab []), (8, K.val (Ty.slc ab) v8), (11, K.ptr (0 + 1) ab []), (13, K.ptr (0 + 1 + 1) ab []), (15, K.pm (0 + 1 + 1 + 1)), (106, K.val (Ty.slc ab) v106), (107, K.val af v107), (108, K.val af (IntKind.wrap IntKind.i64 (v108 + 1)))] [(0, Bx.cell ab b0), (0 + 1, Bx.cell ab b1), (0 + 1 + 1, Bx.cell ab b2), (0 + 1 + 1 + 1, Bx.mpd af Ty.bool (eN b3 (Prod.fst (el ab v106 v108)) true))]))) (ae.ite (eqb ab b1 b0) (ae.req (inB 0 (lnx ab v8)) (ae.ret (K.val (Ty.pair Ty.bool Ty.unit) (eqb ab b2 (el ab v8 0), PUnit.unit)))) (ae.ret (K.val (Ty.pair Ty.bool Ty.unit) (eqb ab b1 b2, PUnit.unit))))
theorem hK (v8 : den (Ty.slc ab)) (v106 : den (Ty.slc ab)) (v107 : den af) (v108 : den af) (b0 : den ab) (b1 : den ab) (b2 : den ab) (b3 : List (den af × den Ty.bool)) : ax gB mt 5000 [] dm (lp cX 14) (jN v8 v106 v107 v108 b0 b1 b2 b3) = n5 v8 v106 v107 v108 b0 b1 b2 b3 := by kernel_rfl
end Go.Proofs.Ytiaplhcifflibaa
namespace Go.Proofs.Ytiaplhcifflibaa
open Go Go.RowKit
section
variable {l : List Mem}
theorem xV (hk : OkM l) {id : List Int} (hid : jJ id) {x : Mem} (hx : x ∈ l) (h : ∀ y ∈ l, vB (aO id x.2.1) ≤ vB (aO id y.2.1)) : dV kR cF (vB id) l x :=
 ⟨hx, fun y hy => by
  have := h y hy
  rw [ke hid (d9 (hk x hx)), ke hid (d9 (hk y hy))] at this
  exact this⟩
theorem uo (id : List Int) : ∀ (t : List Mem) (b : Mem), mZ (cmM (bp id)) b t = gx (fun m => vB (aO id m.2.1)) b t
 | [], _ => rfl
 | x :: t, b => by
  have e : (cmM (bp id) x b < 0) = (vB (aO id x.2.1) < vB (aO id b.2.1)) := propext (rc (a := aO id x.2.1) (b := aO id b.2.1))
  show mZ (cmM (bp id)) (if cmM (bp id) x b < 0 then x else b) t = gx (fun m => vB (aO id m.2.1)) (if vB (aO id x.2.1) < vB (aO id b.2.1) then x else b) t
  simp only [e]
  exact uo id t _
theorem m0 {k : Mem → Int} {b : Mem} {t : List Mem} : gx k b t ∈ b :: t ∧ ∀ y ∈ b :: t, k (gx k b t) ≤ k y := by
 obtain ⟨h1, h2, h3⟩ := np k t b
 refine ⟨h1, fun y hy => ?_⟩
 rcases List.mem_cons.1 hy with rfl | hy
 ·exact h2
 ·exact h3 y hy
theorem qM (hr : aE l = true) (hk : OkM l) (h0 : 0 < l.length) {id : List Int} (hid : jJ id) : ∃ o, bO l id = (o, 0) ∧ dV kR cF (vB id) l o := by
 refine ⟨vj (cmM (bp id)) l, ?_, ?_⟩
 ·unfold bO
  rw [hr, decide_eq_false (show ¬ (lnx ab l = 0) from fun h => by have h : (l.length : Int) = 0 := h; omega)]
  rfl
 ·cases l with
  | nil => cases h0
  | cons b t =>
   show dV kR cF (vB id) (b :: t) (mZ (cmM (bp id)) b t)
   rw [uo]
   exact xV hk hid m0.1 m0.2
theorem sR (id : List Int) : ∀ (t : List Mem) (b : Mem), 0 ≤ (b.1 : Int) → (∀ x ∈ t, 0 ≤ (x.1 : Int)) → t.foldl (lW id) b = gx (fun m => vB (aO id m.2.1)) b t
 | [], _, _, _ => rfl
 | x :: t, b, hb, ht => by
  have hx := ht x List.mem_cons_self
  have e : lW id b x = if vB (aO id x.2.1) < vB (aO id b.2.1) then x else b := by
   unfold lW
   rw [decide_eq_false (Int.not_lt.2 hb), cond_false]
   by_cases h : vB (aO id x.2.1) < vB (aO id b.2.1)
   ·rw [decide_eq_true (rc.2 h), if_pos h]; rfl
   ·rw [decide_eq_false (fun h' => h (rc.1 h')), if_neg h]; rfl
  show t.foldl (lW id) (lW id b x) = gx (fun m => vB (aO id m.2.1)) (if vB (aO id x.2.1) < vB (aO id b.2.1) then x else b) t
  rw [e]
  refine sR id t _ ?_ fun y hy => ht y (List.mem_cons_of_mem _ hy)
  split
  ·exact hx
  ·exact hb
theorem ya (hr : aE l = true) (hk : OkM l) (h0 : 0 < l.length) {id : List Int} (hid : jJ id) : dV kR cF (vB id) l (uw l id) := by
 have hno := (gC hr).no
 cases l with
 | nil => cases h0
 | cons b t =>
  have e : uw (b :: t) id = gx (fun m => vB (aO id m.2.1)) b t := by
   show t.foldl (lW id) (lW id noM b) = _
   have : lW id noM b = b := by unfold lW; rfl
   rw [this]
   exact sR id t b (hno b List.mem_cons_self).1 fun x hx => (hno x (List.mem_cons_of_mem _ hx)).1
  rw [e]
  exact xV hk hid m0.1 m0.2
theorem z8 {a : List Int} (ha : jJ a) : jJ (tC a pw0) ∧ vB (tC a pw0) = rup cF (vB a) := by
 have hr := lI ha
 have hs := qb 32 (v := (vB a + vB pw0) % cF) (Int.emod_nonneg _ (by decide)) (Int.emod_lt_of_pos _ (by decide))
 refine ⟨⟨nr _ _, hs.1⟩, ?_⟩
 unfold tC
 rw [hs.2, AF]
 unfold rup
 split
 ·rename_i h; rw [h, Int.emod_self]
 ·exact Int.emod_eq_of_lt (by omega) (by omega)
theorem rl (hr : aE l = true) (hk : OkM l) {m : Mem} (hm : m ∈ l) : dV kR cF (rup cF (kR m)) l (sn l m) := by
 have h0 : 0 < l.length := List.length_pos_of_mem hm
 obtain ⟨a1, a2⟩ := z8 (d9 (hk m hm))
 have := ya hr hk h0 a1
 rw [a2] at this
 exact this
theorem AJ (hr : aE l = true) {m : Mem} (hm : m ∈ l) : ¬ gL l m.1 < 0 ∧ ∃ k : Nat, ∃ hk : k < l.length, gL l m.1 = (k : Int) ∧ l[k] = m := by
 have ha : l.any (fun x => decide (x.1 = m.1)) = true := List.any_eq_true.2 ⟨m, hm, decide_eq_true rfl⟩
 have h0 := (lL (fun x => decide (x.1 = m.1)) l 0 (Int.le_refl _)).1 ha
 have hn : ¬ gL l m.1 < 0 := Int.not_lt.2 h0.1
 obtain ⟨k, hk, e1, e2⟩ := qa hn
 exact ⟨hn, k, hk, e1, (gC hr).inj (List.getElem_mem hk) hm (.inl e2)⟩
def srt (l : List Mem) (m : Mem) : List Mem := c6 ab (bp m.2.1) l
theorem vM (hr : aE l = true) {m : Mem} (hm : m ∈ l) : aZ l m.1 = (srt l m, 0) := by
 obtain ⟨h1, k, hk, e1, e2⟩ := AJ hr hm
 unfold aZ
 rw [hr, decide_eq_false h1, e1, ed hk, e2]
 rfl
theorem vd (hr : aE l = true) (hk : OkM l) {m : Mem} (hm : m ∈ l) : iB kR cF (kR m) l (srt l m) ∧ (srt l m).length = l.length := yQ (gC hr) hk (d9 (hk m hm))
theorem y3 (hr : aE l = true) (hk : OkM l) {m : Mem} (hm : m ∈ l) (h : 0 < (srt l m).length) : (srt l m)[0] = m := iB.self ((gC hr).rng hk) hm (vd hr hk hm).1 h
theorem xe (hr : aE l = true) {m : Mem} (hm : m ∈ l) {n : Nat} (hn : n ≤ 16) : cW l m.1 (n : Int) = (da (srt l m) n, 0) := by
 unfold cW
 rw [vM hr hm, decide_eq_false (show ¬ ((n : Nat) : Int) < 0 by omega), decide_eq_false (show ¬ (16 : Int) < ((n : Nat) : Int) by omega)]
 rfl
theorem AR {s : List Mem} (h0 : 0 < s.length) (i : Nat) : el ab s (Int.tmod ((i : Int) + 1) s.length) = s[(i + 1) % s.length]'(Nat.mod_lt _ h0) := by
 have e : Int.tmod ((i : Int) + 1) s.length = (((i + 1) % s.length : Nat) : Int) := by
  rw [show (i : Int) + 1 = ((i + 1 : Nat) : Int) by omega]
  exact (Int.ofNat_tmod _ _).symm
 rw [e, ed (Nat.mod_lt _ h0)]
theorem Ar (hr : aE l = true) (hk : OkM l) {a : Int} (ha : 0 ≤ a ∧ a < cF) {s : List Mem} (hs : iB kR cF a l s) {i : Nat} (hi : i < s.length) : sn l s[i] = s[(i + 1) % s.length]'(Nat.mod_lt _ (by omega)) := by
 have hm : s[i] ∈ l := (hs.mem _).1 (List.getElem_mem hi)
 have hrng := (gC hr).rng hk
 exact dV.uniq hrng (sZ (hrng.in' _ hm)) (rl hr hk hm) (hs.next hrng ha hi)
end
def m3 : Mem := (3, List.set (List.replicate 32 0) 31 20, ())
def m5 : Mem := (5, List.set (List.replicate 32 0) 31 10, ())
def i21 : List Int := List.set (List.replicate 32 0) 31 21
theorem AK : (bO [m3, m5] i21).1.1 = (5 : Int) ∧ (bO [m3, m5] i21).2 = 0 ∧ aE [m3, m5] = true := by
 refine ⟨by kernel_rfl, by kernel_rfl, by kernel_rfl⟩
theorem vO : aP prog [] i6 jd :=
 eO (S := jd) (vW oK il) (fx := ol) ug (by kernel_rfl) (fun _ _ => trivial) (T := fun _ => pJ) (fun _ => sI) fun O v0 x _ _ => by
  refine ⟨trivial, je ⟨fun _ => trivial, _, rfl, Prod.ext ?_ rfl⟩⟩
  obtain ⟨h1, h2, h3⟩ := AK
  show (bif bif decide ((bO [m3, m5] i21).2 = 0) then decide ((bO [m3, m5] i21).1.1 = (5 : Int)) else false then aE [m3, m5] else false) = true
  rw [h1, h2, h3]
  rfl
end Go.Proofs.Ytiaplhcifflibaa
namespace Go.Proofs.Ytiaplhcifflibaa
open Go Go.RowKit
section
variable {l : List Mem}
theorem wz : ∀ (l pre : List Mem), (∀ m ∈ l, 0 ≤ (m.1 : Int) ∧ (m.1 : Int) < 16) → (∀ m ∈ l, ∀ x ∈ pre, eT x m = false) → l.Pairwise (fun x m => eT x m = false) → m7 pre l = true
 | [], _, _, _, _ => rfl
 | m :: l, pre, h1, h2, h3 => by
  obtain ⟨p1, p2⟩ := List.pairwise_cons.1 h3
  rw [oU]
  simp only [Bool.and_eq_true, Bool.not_eq_true', decide_eq_true_eq]
  obtain ⟨a1, a2⟩ := h1 m List.mem_cons_self
  refine ⟨⟨⟨List.any_eq_false.2 fun x hx => by simp [h2 m List.mem_cons_self x hx], a1⟩, a2⟩, wz l (pre ++ [m]) (fun z hz => h1 z (List.mem_cons_of_mem _ hz)) (fun z hz x hx => ?_) p2⟩
  rcases List.mem_append.1 hx with hx | hx
  ·exact h2 z (List.mem_cons_of_mem _ hz) x hx
  ·rw [List.mem_singleton.1 hx]; exact p1 z hz
theorem A5 (h : RR l) : aE l = true := by
 unfold aE
 rw [wz l [] h.no (fun _ _ _ hx => by cases hx) h.pw, decide_eq_true h.len]
 rfl
theorem RR.sub {l l' : List Mem} (h : RR l) (hs : l'.Sublist l) : RR l' := ⟨Nat.le_trans hs.length_le h.len, fun m hm => h.no m (hs.subset hm), h.pw.sublist hs⟩
theorem nj (s : List Mem) : ∀ n, (da s n).length = n
 | 0 => rfl
 | n + 1 => by show (da s n ++ [_]).length = _; rw [List.length_append, nj s n]; rfl
theorem ko {s : List Mem} (h0 : 0 < s.length) : ∀ (n j : Nat) (hj : j < (da s n).length), (da s n)[j] = s[(j + 1) % s.length]'(Nat.mod_lt _ h0)
 | 0, j, hj => by cases hj
 | n + 1, j, hj => by
  have hl := nj s n
  have hj' : j < n + 1 := by rw [nj] at hj; exact hj
  have h2 : j < (da s n ++ [el ab s (Int.tmod ((n : Int) + 1) s.length)]).length := hj
  show (da s n ++ [el ab s (Int.tmod ((n : Int) + 1) s.length)])[j]'h2 = _
  rw [List.getElem_append]
  split
  ·rename_i h; exact ko h0 n j h
  ·rename_i h
   have : j = n := by omega
   subst this
   simp only [hl, Nat.sub_self, List.getElem_singleton]
   exact AR h0 j
end
end Go.Proofs.Ytiaplhcifflibaa
namespace Go.Proofs.Ytiaplhcifflibaa
open Go Go.RowKit
abbrev wX (m : List (Int × Bool)) (k : Int) : Bool := ie (k := af) (v := Ty.bool) m k
theorem sm (a b : Int) : eqb af a b = decide (a = b) := rfl
theorem zB : ∀ (m : List (Int × Bool)) (a c : Int), wX (eN (k := af) (v := Ty.bool) m a true) c = if c = a then true else wX m c := by
 intro m a c
 unfold wX ie jh
 induction m with
 | nil =>
  rw [eN]
  by_cases h : c = a
  ·rw [if_pos h, List.find?_cons_of_pos (by rw [sm]; exact decide_eq_true h)]
   rfl
  ·rw [if_neg h, List.find?_cons_of_neg (by rw [sm, decide_eq_false h]; simp)]
 | cons p m ih =>
  rw [eN]
  by_cases hq : eqb af a p.1 = true
  ·have hq' : a = p.1 := by rw [sm] at hq; exact of_decide_eq_true hq
   rw [if_pos hq]
   by_cases h : c = a
   ·rw [if_pos h, List.find?_cons_of_pos (by rw [sm]; exact decide_eq_true h)]
    rfl
   ·rw [if_neg h, List.find?_cons_of_neg (by rw [sm, decide_eq_false h]; simp), List.find?_cons_of_neg (by rw [sm, decide_eq_false (fun e => h (by rw [e, hq']))]; simp)]
  ·rw [if_neg hq]
   by_cases hc : eqb af c p.1 = true
   ·rw [List.find?_cons_of_pos (p := fun q : Int × Bool => eqb af c q.1) hc, List.find?_cons_of_pos (p := fun q : Int × Bool => eqb af c q.1) hc]
    have : ¬ c = a := fun e => hq (by rw [← e]; exact hc)
    rw [if_neg this]
   ·rw [List.find?_cons_of_neg (p := fun q : Int × Bool => eqb af c q.1) hc, List.find?_cons_of_neg (p := fun q : Int × Bool => eqb af c q.1) hc]
    exact ih
abbrev io := sr xG il vO oK uj
abbrev GGo (O : Nat → Prop) (w0 : World) := bP prog gB (Cx.base O w0) (cV prog O w0 lF fun z => z = (true, ()))
def qH (O : Nat → Prop) (w0 : World) (all : List Mem) (m a b : Mem) (hln : all.length ≤ 1000) (h0 : 0 < all.length) (hd : ∀ (i j : Nat) (hi : i < all.length) (hj : j < all.length), all[i].1 = all[j].1 → i = j) (law : (a = m → b = all[0]) ∧ (¬ a = m → a = b)) :=
 PLift.up <| hP (σ := List (Int × Bool)) all.length (fun i s => ∀ c, wX s c = true → ∃ j, ∃ h : j < all.length, j < i ∧ all[j].1 = c)
  (fun i s => GGo O w0 [] dm (lp cX 14) (jN all all (lnx ab all) (i : Nat) m a b s))
  (fun i s hi hs ih => cE io (hK all all _ _ m a b s) (by
   refine ⟨fun _ => ⟨cT hi, ?_⟩, fun hc => absurd hi (by rw [mD] at hc; exact of_decide_eq_false hc)⟩
   rw [ed hi, kJ hi (by omega)]
   refine ⟨fun h => ?_, fun _ => ih _ fun c hc => ?_⟩
   ·obtain ⟨j, h1, h2, h3⟩ := hs _ h
    have := hd j i h1 hi h3
    omega
   ·rw [zB] at hc
    by_cases e : c = all[i].1
    ·exact ⟨i, hi, Nat.lt_succ_self _, e.symm⟩
    ·rw [if_neg e] at hc
     obtain ⟨j, h1, h2, h3⟩ := hs c hc
     exact ⟨j, h1, by omega, h3⟩))
  (fun s _ => cE io (hK all all _ _ m a b s) (by
   refine ⟨fun hc => absurd (of_decide_eq_true hc) (Int.lt_irrefl _), fun _ => ⟨fun h => ⟨cT h0, ⟨_, rfl, Prod.ext ?_ rfl⟩⟩, fun h => ⟨_, rfl, Prod.ext ?_ rfl⟩⟩⟩
   ·have h : eqb ab a m = true := h
    rw [mw] at h
    show eqb ab b (el ab all ((0 : Nat) : Int)) = true
    rw [mw, ed h0]
    exact decide_eq_true (law.1 (of_decide_eq_true h))
   ·have h : eqb ab a m = false := h
    rw [mw] at h
    show eqb ab a b = true
    rw [mw]
    exact decide_eq_true (law.2 (of_decide_eq_false h))))
theorem zm {q : List Mem} {i : Nat} (hi : i < q.length) : List.replicate 0 (zero ab) ++ cP ab q 0 (i : Int) ++ cP ab q ((i : Int) + 1) (lnx ab q) = q.eraseIdx i := by
 rw [qr, List.eraseIdx_eq_take_drop_succ]
 show [] ++ q.take i ++ (q.take (Int.toNat ((q.length : Nat) : Int))).drop (Int.toNat ((i : Int) + 1)) = _
 rw [List.nil_append, Int.toNat_natCast, List.take_length, show (i : Int) + 1 = ((i + 1 : Nat) : Int) by omega, Int.toNat_natCast]
theorem Au {k : Int} {n : Nat} (h : 2 ≤ n) (hn : n ≤ 16) : ∃ i : Nat, i < n ∧ Int.tmod (IntKind.wrap .i64 (Int.tmod k (n : Int) + (n : Int))) (n : Int) = (i : Int) := by
 have h1 : (0 : Int) < n := by omega
 have h2 := Int.tmod_lt_of_pos k h1
 have h3 : -(n : Int) < Int.tmod k n := by
  have := Int.tmod_lt_of_pos (-k) h1
  rw [Int.neg_tmod] at this
  omega
 rw [de (by omega)]
 have h4 := Int.tmod_nonneg (n : Int) (show 0 ≤ Int.tmod k n + n by omega)
 have h5 := Int.tmod_lt_of_pos (Int.tmod k n + n) h1
 exact ⟨(Int.tmod (Int.tmod k n + n) n).toNat, by omega, by omega⟩
theorem si : aP prog [] mP (zy dn) :=
 eO (S := zy dn) io (fx := dm) rQ (by kernel_rfl) (fun _ _ => trivial) (T := fun x => mU x.1 x.2.1 x.2.2.1) (fun x => pv x.1 x.2.1 x.2.2.1) fun O w0 x hk _ => by
  obtain ⟨l, k, id, ⟨⟩⟩ := x
  have hq : OkM (List.take 18 l) := fun m hm => hk.1.2 m (List.mem_of_mem_take hm)
  have hid : jJ id := wx hk.2.2.1
  refine ⟨trivial, je ?_⟩
  generalize (List.take 18 l : List Mem) = q at hq ⊢
  refine ⟨trivial, je ⟨fun _ => ⟨trivial, je ⟨_, rfl, rfl⟩⟩, fun h => ?_⟩⟩
  have h : (bif !aE q then true else decide (lnx ab q < 2)) = false := h
  cases hr : aE q with
  | false => rw [hr] at h; cases h
  | true =>
   rw [hr] at h
   have h : decide (((q.length : Nat) : Int) < 2) = false := h
   have h2 : 2 ≤ q.length := by have := of_decide_eq_false h; omega
   have hln := (gC hr).len
   have hlnx : lnx ab q = (q.length : Int) := rfl
   obtain ⟨i, hi, ei⟩ := Au (k := k) h2 hln
   rw [hlnx, ei]
   have ei1 : IntKind.wrap .i64 ((i : Int) + 1) = (i : Int) + 1 := de (by omega)
   have en1 : IntKind.wrap .i64 ((q.length : Int) - 1) = ((q.length - 1 : Nat) : Int) := by rw [de (by omega)]; omega
   have hm : q[i] ∈ q := List.getElem_mem hi
   have hcut := zm hi
   rw [hlnx] at hcut
   have hsub : (q.eraseIdx i).Sublist q := List.eraseIdx_sublist ..
   have hrl : aE (q.eraseIdx i) = true := A5 ((gC hr).sub hsub)
   have hql : OkM (q.eraseIdx i) := fun x hx => hq x (hsub.subset hx)
   have hll : (q.eraseIdx i).length = q.length - 1 := List.length_eraseIdx_of_lt hi
   have hnd := (gC hr).nodup
   obtain ⟨a, ea, ha⟩ := qM hr hq (by omega) hid
   obtain ⟨b, eb, hb⟩ := qM hrl hql (by omega) hid
   have hrng := (gC hr).rng hq
   obtain ⟨s1, s2⟩ := vd hr hq hm
   have s0 : 0 < (srt q q[i]).length := by omega
   have hself := y3 hr hq hm s0
   have eaft := xe hr hm (n := q.length) hln
   have hal : (da (srt q q[i]) q.length).length = q.length := nj _ _
   have hmem : ∀ x, x ∈ q.eraseIdx i ↔ (x ∈ q ∧ ¬ x = q[i]) := fun x => by
    rw [List.mem_eraseIdx_iff_getElem]
    constructor
    ·rintro ⟨j, hj, hne, rfl⟩
     exact ⟨List.getElem_mem hj, fun e => hne ((List.getElem_inj hnd).1 e)⟩
    ·rintro ⟨hx, hne⟩
     obtain ⟨j, hj, rfl⟩ := List.getElem_of_mem hx
     exact ⟨j, hj, fun e => hne (by subst e; rfl), rfl⟩
   have hfirst : (da (srt q q[i]) q.length)[0]'(by omega) = sn q q[i] := by
    rw [ko s0]
    have := Ar hr hq (hrng.in' _ hm) s1 s0
    rw [hself] at this
    exact this.symm
   have hlast : (da (srt q q[i]) q.length)[q.length - 1]'(by omega) = q[i] := by
    rw [ko s0]
    have e : (q.length - 1 + 1) % (srt q q[i]).length = 0 := by rw [s2, show q.length - 1 + 1 = q.length by omega, Nat.mod_self]
    simp only [e]
    exact hself
   have law : (a = q[i] → b = (da (srt q q[i]) q.length)[0]'(by omega)) ∧ (¬ a = q[i] → a = b) := by
    refine ⟨fun e => ?_, fun e => ?_⟩
    ·rw [hfirst]
     subst e
     exact dV.uniq hrng (sZ (hrng.in' _ hm)) (yv hrng (lI hid) ha hmem hb) (rl hr hq hm)
    ·exact dV.uniq ((gC hrl).rng hql) (lI hid) (ha.sub (fun x hx => hsub.subset hx) ((hmem a).2 ⟨ha.1, e⟩)) hb
   have hd : ∀ (x y : Nat) (hx : x < (da (srt q q[i]) q.length).length) (hy : y < (da (srt q q[i]) q.length).length), (da (srt q q[i]) q.length)[x].1 = (da (srt q q[i]) q.length)[y].1 → x = y := fun x y hx hy e => by
    rw [ko s0, ko s0] at e
    have hin : ∀ z (hz : z < (srt q q[i]).length), (srt q q[i])[z] ∈ q := fun z hz => (s1.mem _).1 (List.getElem_mem hz)
    have e := s1.nodup _ _ ((gC hr).inj (hin _ (Nat.mod_lt _ s0)) (hin _ (Nat.mod_lt _ s0)) (.inl e))
    rw [s2] at e
    have hx : x < q.length := by omega
    have hy : y < q.length := by omega
    rcases Nat.lt_or_ge (x + 1) q.length with a1 | a1 <;> rcases Nat.lt_or_ge (y + 1) q.length with a2 | a2
    ·rw [Nat.mod_eq_of_lt a1, Nat.mod_eq_of_lt a2] at e; omega
    ·rw [Nat.mod_eq_of_lt a1, show y + 1 = q.length by omega, Nat.mod_self] at e; omega
    ·rw [Nat.mod_eq_of_lt a2, show x + 1 = q.length by omega, Nat.mod_self] at e; omega
    ·omega
   have eel : el ab q (i : Int) = q[i] := ed hi
   have ell : el ab (da (srt q q[i]) q.length) ((q.length - 1 : Nat) : Int) = q[i] := by rw [ed (by omega)]; exact hlast
   rw [ei1, en1, hcut, eel, eaft, ea, eb]
   have hcl : cP ab q 0 (i : Int) = q.take i := qr q i
   refine ⟨(show (q.length : Int) ≠ 0 by omega), (show (q.length : Int) ≠ 0 by omega), cT hi, trivial, je ⟨⟨Int.le_refl _, Int.natCast_nonneg _, Int.ofNat_le.2 (Nat.le_of_lt hi)⟩, ?_, ⟨by omega, by omega, Int.le_refl _⟩, ?_, trivial, je ⟨trivial, je ⟨fun _ => ?_, fun _ => trivial, fun h => ?_, fun _ => ?_⟩⟩⟩⟩
   ·rw [hcl]
    exact show ([] ++ q.take i).length ≤ 1073741824 by rw [List.nil_append, List.length_take]; omega
   ·exact show (q.eraseIdx i).length ≤ 1073741824 by omega
   ·rw [show lnx ab (da (srt q q[i]) q.length) = (q.length : Int) from congrArg Nat.cast hal]
    exact cT (by omega)
   ·have h : (bif bif (bif bif bif !decide ((0 : Int) = 0) then true else !decide ((0 : Int) = 0) then true else !decide ((0 : Int) = 0) then true else !decide (lnx ab (da (srt q q[i]) q.length) = (q.length : Int))) then true else !eqb ab (el ab (da (srt q q[i]) q.length) ((q.length - 1 : Nat) : Int)) q[i] then true else !true) = true := h
    rw [ell, mw, decide_eq_true (show q[i] = q[i] from rfl), show lnx ab (da (srt q q[i]) q.length) = (q.length : Int) from congrArg Nat.cast hal, decide_eq_true (show (q.length : Int) = q.length from rfl)] at h
    cases h
   ·exact (qH O w0 (da (srt q q[i]) q.length) q[i] a b (by omega) (by omega) hd law).down 0 [] (Nat.zero_le _) (fun c hc => by cases hc)
end Go.Proofs.Ytiaplhcifflibaa
