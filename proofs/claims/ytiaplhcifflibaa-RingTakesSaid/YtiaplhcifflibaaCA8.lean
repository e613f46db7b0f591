/- Part 8 of 8 of what this claim's proof stands on: a theory of programs on data, and the contracts of the functions that the law reaches. It holds no condition of its own. -/
import Derived.Test.YtiaplhcifflibaaCA7
namespace Go.Proofs.Ytiaplhcifflibaa
open Go Go.RowKit
theorem iX : aM prog [] ci cj :=
 eC (S := cj) (iV fW) (fx := eP) iR (by kernel_rfl) (fun h => by cases h) (T := fun x => fc x.1 x.2.1) (fun x => iw x.1 x.2.1) fun O w0 x _ hp =>
  ⟨hp, _, rfl, by show (decide (0 ≤ ixP (prM x.2.1) x.1 0), ()) = (x.1.any (prM x.2.1), ()); rw [AS]⟩
theorem mF : aM prog [] c8 c9 :=
 eC (S := c9) mB (fx := gP) lG (by kernel_rfl) (fun h => by cases h) (T := fun x => gY x.1) (fun x => ku x.1) fun O w0 x _ _ => ⟨_, rfl, rfl⟩
theorem qc : aM prog [] fM fK :=
 eC (S := fK) (wg um) (fx := oS) vS (by kernel_rfl) (fun _ _ => trivial) (T := fun x => p8 x.1) (fun x => sD x.1) fun O w0 x _ _ => ⟨fun _ => trivial, _, rfl, rfl⟩
abbrev GRi (O : Nat → Prop) (w0 : World) (y : Bool) := bS prog gq (Cx.base O w0) (c6 prog O w0 jY fun z => z = (y, ()))
theorem jS : XOk prog gq := vI iX sJ
theorem tD (pre : List Mem) (m : Mem) (l : List Mem) : oK pre (m :: l) = ((!(pre.any fun x => fU x m)) && decide (0 ≤ m.1) && decide (m.1 < 16) && oK (pre ++ [m]) l) := rfl
theorem zV {e : Ty} (xs : List (den e)) (i : Nat) : g6 e xs 0 (i : Nat) = xs.take i := by
 unfold g6 eX
 rw [Int.toNat_natCast]
 exact List.drop_zero
def tW (O : Nat → Prop) (w0 : World) (l : List Mem) (hm : l.length ≤ maxLen) :=
 PLift.up <| iu (σ := Unit) l.length (fun i _ => oK (l.take i) (l.drop i) = oK [] l)
  (fun i _ => GRi O w0 (aA l) [] d2 (lp dO 2) (nh l l (lnx ab l) (i : Nat)))
  (fun i _ hi hs ih => cL jS (ju l l _ _) (by
   rw [List.drop_eq_getElem_cons hi, tD, ← List.take_succ_eq_append_getElem hi] at hs
   have hi' : i ≤ l.length := Nat.le_of_lt hi
   refine ⟨fun _ => ⟨dK hi, ⟨Int.le_refl _, Int.natCast_nonneg _, Int.ofNat_le.2 hi'⟩, fun _ => trivial, ⟨_, rfl⟩, ?_⟩, fun hc => absurd hi (by rw [m8] at hc; exact of_decide_eq_false hc)⟩
   rw [fm hi, lz hi hm, zV]
   have e1 : ∀ xs : List Mem, (xs.any (prM (some fun y => (fU y.1 l[i], PUnit.unit)))) = xs.any fun x => fU x l[i] := fun xs => rfl
   refine ⟨fun hc => ⟨_, rfl, ?_⟩, fun hc => ih () ?_⟩
   ·rw [e1] at hc
    show (false, ()) = (aA l, ())
    have : oK [] l = false := by
     rw [← hs]
     cases h1 : (l.take i).any (fun x => fU x l[i]) with
     | true => rfl
     | false =>
      rw [h1] at hc
      by_cases h2 : (l[i].1 : Int) < 0
      ·rw [decide_eq_false (show ¬ (0 : Int) ≤ l[i].1 from fun h => absurd h2 (Int.not_lt.2 h))]; rfl
      ·rw [decide_eq_false h2] at hc
       have h3 : (16 : Int) ≤ l[i].1 := of_decide_eq_true hc
       rw [decide_eq_false (show ¬ (l[i].1 : Int) < 16 from Int.not_lt.2 h3)]
       cases decide (0 ≤ l[i].1) <;> rfl
    unfold aA
    rw [this]
    rfl
   ·rw [e1] at hc
    rw [← hs]
    cases h1 : (l.take i).any (fun x => fU x l[i]) with
    | true => rw [h1] at hc; cases hc
    | false =>
     rw [h1] at hc
     by_cases h2 : (l[i].1 : Int) < 0
     ·rw [decide_eq_true h2] at hc; cases hc
     ·rw [decide_eq_false h2] at hc
      have h3 : ¬ (16 : Int) ≤ l[i].1 := of_decide_eq_false hc
      rw [decide_eq_true (show (0 : Int) ≤ l[i].1 from Int.not_lt.1 h2), decide_eq_true (show (l[i].1 : Int) < 16 from Int.not_le.1 h3)]
      rfl))
  (fun _ hs => cL jS (ju l l _ _) (by
   refine ⟨fun hc => absurd (of_decide_eq_true hc) (Int.lt_irrefl _), fun _ => ⟨_, rfl, ?_⟩⟩
   rw [List.drop_length] at hs
   show (decide ((l.length : Int) ≤ 16), ()) = (aA l, ())
   unfold aA
   rw [← hs]
   have : decide ((l.length : Int) ≤ 16) = decide (l.length ≤ 16) := decide_eq_decide.2 (by omega)
   rw [this]
   rfl))
theorem iG : aM prog [] cq cr :=
 eC (S := cr) jS (fx := d2) uh (by kernel_rfl) (fun _ _ => trivial) (T := fun x => pl x.1) (fun x => se x.1) fun O w0 x hk _ =>
  (tW O w0 x.1 hk.1.1).down 0 () (Nat.zero_le _) rfl
theorem u6 (b : List Mem) (x : Mem) : b ++ List.set (List.replicate 1 (zero ab)) 0 x = b ++ [x] := rfl
abbrev GSo (O : Nat → Prop) (w0 : World) (y : List Mem) := bS prog bg (Cx.base O w0) (c6 prog O w0 dh fun z => z = (y, ()))
theorem hP : XOk prog bg := jV jH
def tZ (O : Nat → Prop) (w0 : World) (xs : List Mem) (f : den (lO ab)) (hp : eY ab f xs) :=
 PLift.up <| iu (σ := List Mem) xs.length (fun i b => b = xs.take i)
  (fun i b => GSo O w0 (dc ab f xs) (bG f xs (lnx ab xs) (i : Nat) b) aY (lp aV 1) (bF f xs (lnx ab xs) (i : Nat) b))
  (fun i b hi hb ih => cL hP (bo f xs _ _ b) (by
   have hlen := hp.len
   refine ⟨fun _ => ⟨dK hi, ?_⟩, fun hc => absurd hi (by rw [m8] at hc; exact of_decide_eq_false hc)⟩
   rw [fm hi, lz hi (by omega), u6, hb, ← List.take_succ_eq_append_getElem hi]
   have hl : (xs.take (i + 1)).length ≤ 1000000 := by rw [List.length_take]; omega
   refine ⟨Nat.le_trans hl (by decide), (fun hc => by cases hc), fun _ => ih _ rfl⟩))
  (fun b hb => cL hP (bo f xs _ _ b) (by
   rw [List.take_length] at hb
   subst hb
   exact ⟨fun hc => absurd (of_decide_eq_true hc) (Int.lt_irrefl _), fun _ => ⟨hp, _, rfl, rfl⟩⟩))
theorem jQ : aM prog [] cv cw :=
 eC (S := cw) hP (fx := aU) jC (by kernel_rfl) (fun h => by cases h) (T := fun x => fH x.1 x.2.1) (fun x => iS x.1 x.2.1) fun O w0 x _ hp => by
  obtain ⟨⟨xs, ⟨⟩⟩, f, ⟨⟩⟩ := x
  have hp : eY ab f xs := hp
  have hlen := hp.len
  refine cL hP (db f xs (lnx ab xs) 0) ?_
  refine ⟨fun hc => ?_, fun hc => ?_⟩
  ·have h0 : 0 < xs.length := Int.ofNat_lt.1 (of_decide_eq_true hc)
   refine ⟨dK (i := 0) h0, ?_⟩
   rw [show (0 : Int) = ((0 : Nat) : Int) from rfl, fm h0, lz h0 (by omega)]
   refine ⟨show 1 ≤ cM by decide, (fun hc => by cases hc), fun _ => ?_⟩
   refine (tZ O w0 xs f hp).down 1 _ h0 ?_
   rw [List.take_succ_eq_append_getElem h0]
   rfl
  ·have h0 : xs = [] := List.eq_nil_of_length_eq_zero (by have := of_decide_eq_false hc; have h2 : ¬ (0 : Int) < (xs.length : Int) := this; omega)
   subst h0
   refine ⟨hp, _, rfl, ?_⟩
   show (([] : List Mem), ()) = (List.mergeSort [] _, ())
   rw [List.mergeSort_nil]
end Go.Proofs.Ytiaplhcifflibaa
namespace Go.Proofs.Ytiaplhcifflibaa
open Go Go.RowKit
abbrev iH (m : Mem) : Int := vB m.2.1
abbrev OkM (l : List Mem) : Prop := ∀ m ∈ l, okT ab m
theorem dy {m : Mem} (h : okT ab m) : iB m.2.1 := w8 h.2.1
theorem tw : ∀ (l pre : List Mem), oK pre l = true → (∀ m ∈ l, 0 ≤ (m.1 : Int) ∧ (m.1 : Int) < 16) ∧ (∀ m ∈ l, ∀ x ∈ pre, fU x m = false) ∧ l.Pairwise fun x m => fU x m = false
 | [], _, _ => ⟨fun _ h => (by cases h), fun _ h => (by cases h), List.Pairwise.nil⟩
 | m :: l, pre, h => by
  rw [tD] at h
  simp only [Bool.and_eq_true, Bool.not_eq_true', decide_eq_true_eq] at h
  obtain ⟨⟨⟨h1, h2⟩, h3⟩, h4⟩ := h
  obtain ⟨i1, i2, i3⟩ := tw l (pre ++ [m]) h4
  have h1 : ∀ x ∈ pre, fU x m = false := fun x hx => by
   have := List.any_eq_false.1 h1 x hx
   simpa using this
  refine ⟨fun z hz => ?_, fun z hz x hx => ?_, List.pairwise_cons.2 ⟨fun z hz => i2 z hz m (List.mem_append.2 (.inr List.mem_cons_self)), i3⟩⟩
  ·rcases List.mem_cons.1 hz with rfl | hz
   ·exact ⟨h2, h3⟩
   ·exact i1 z hz
  ·rcases List.mem_cons.1 hz with rfl | hz
   ·exact h1 x hx
   ·exact i2 z hz x (List.mem_append.2 (.inl hx))
theorem sT {x m : Mem} (h : x.1 = m.1) : fU x m = true := by unfold fU; rw [decide_eq_true h]; rfl
theorem xq {x m : Mem} (h : x.2.1 = m.2.1) : fU x m = true := by
 unfold fU
 have : eqb tId x.2.1 m.2.1 = true := (kF (t := tId) rfl _ _).2 h
 rw [this]
 cases decide (x.1 = m.1) <;> rfl
structure RR (l : List Mem) : Prop where
 len : l.length ≤ 16
 no : ∀ m ∈ l, 0 ≤ (m.1 : Int) ∧ (m.1 : Int) < 16
 pw : l.Pairwise fun x m => fU x m = false
theorem ft {l : List Mem} (h : aA l = true) : RR l := by
 unfold aA at h
 simp only [Bool.and_eq_true, decide_eq_true_eq] at h
 obtain ⟨h1, h2⟩ := h
 obtain ⟨i1, _, i3⟩ := tw l [] h1
 exact ⟨h2, i1, i3⟩
theorem RR.at {l : List Mem} (h : RR l) {i j : Nat} (hij : i < j) (hj : j < l.length) : fU l[i] l[j] = false := List.pairwise_iff_getElem.1 h.pw i j (by omega) hj hij
theorem RR.inj {l : List Mem} (h : RR l) {x y : Mem} (hx : x ∈ l) (hy : y ∈ l) (e : x.1 = y.1 ∨ x.2.1 = y.2.1) : x = y := by
 obtain ⟨i, hi, rfl⟩ := List.getElem_of_mem hx
 obtain ⟨j, hj, rfl⟩ := List.getElem_of_mem hy
 rcases Nat.lt_trichotomy i j with h1 | h1 | h1
 ·have := h.at h1 hj
  rcases e with e | e
  ·rw [sT e] at this; cases this
  ·rw [xq e] at this; cases this
 ·subst h1; rfl
 ·have := h.at h1 hi
  rcases e with e | e
  ·rw [sT e.symm] at this; cases this
  ·rw [xq e.symm] at this; cases this
theorem RR.nodup {l : List Mem} (h : RR l) : l.Nodup := List.Pairwise.imp (fun {x m} hf e => by rw [e, sT rfl] at hf; cases hf) h.pw
theorem RR.rng {l : List Mem} (h : RR l) (hk : OkM l) : uS iH bq l :=
 ⟨fun m hm => gf (dy (hk m hm)), fun x hx y hy e => h.inj hx hy (.inr (uV (by rw [(dy (hk x hx)).1, (dy (hk y hy)).1]) (dy (hk x hx)).2 (dy (hk y hy)).2 e))⟩
theorem it {a b : List Int} (ha : iB a) (hb : iB b) : vB (aD a b) = rky bq (vB a) (vB b) := rz ha hb
theorem Bl (id : List Int) (x y : Mem) : cfD ab (br id) x y = fY (aD id x.2.1) (aD id y.2.1) := rfl
theorem m4 (id : List Int) (x y : Mem) : ltD ab (br id) x y = decide (vB (aD id x.2.1) < vB (aD id y.2.1)) := by
 unfold ltD
 rw [Bl]
 exact decide_eq_decide.2 rN
theorem zR {l : List Mem} (h : RR l) (hk : OkM l) {id : List Int} (hid : iB id) : eY ab (br id) l := by
 refine ⟨⟨_, rfl⟩, ⟨fun x => ?_, fun x y z h1 h2 => ?_, fun x y z h1 h2 => ?_⟩, fun x hx y hy h1 h2 => ?_, Nat.le_trans h.len (by decide)⟩
 ·rw [m4]; exact decide_eq_false (Int.lt_irrefl _)
 ·rw [m4] at *; exact decide_eq_true (Int.lt_trans (of_decide_eq_true h1) (of_decide_eq_true h2))
 ·rw [m4] at *
  have h1 := of_decide_eq_false h1
  have h2 := of_decide_eq_false h2
  exact decide_eq_false (by omega)
 ·rw [m4] at *
  have h1 := of_decide_eq_false h1
  have h2 := of_decide_eq_false h2
  have e : vB (aD id x.2.1) = vB (aD id y.2.1) := by omega
  rw [it hid (dy (hk x hx)), it hid (dy (hk y hy))] at e
  exact (h.rng hk).inj x hx y hy (vA (gf hid) ((h.rng hk).in' x hx) ((h.rng hk).in' y hy) e)
theorem An {l : List Mem} (h : RR l) (hk : OkM l) {id : List Int} (hid : iB id) : ii iH bq (vB id) l (dc ab (br id) l) ∧ (dc ab (br id) l).length = l.length := by
 have hl : (dc ab (br id) l).length = l.length := List.length_mergeSort ..
 have hmem : ∀ x, x ∈ dc ab (br id) l ↔ x ∈ l := fun x => List.mem_mergeSort
 refine ⟨⟨hmem, ?_⟩, hl⟩
 have hle : ∀ x y : Mem, (!ltD ab (br id) y x) = true ↔ vB (aD id x.2.1) ≤ vB (aD id y.2.1) := fun x y => by
  rw [m4, Bool.not_eq_true', decide_eq_false_iff_not]
  omega
 have hs := List.pairwise_mergeSort (le := fun x y => !ltD ab (br id) y x) (fun a b c h1 h2 => (hle a c).2 (Int.le_trans ((hle a b).1 h1) ((hle b c).1 h2))) (fun a b => by
  rw [Bool.or_eq_true, hle, hle]
  exact Int.le_total _ _) l
 have hnd : (dc ab (br id) l).Nodup := (List.mergeSort_perm l _).nodup_iff.2 h.nodup
 refine List.pairwise_iff_getElem.2 fun i j hi hj hij => ?_
 have h1 := (hle _ _).1 (List.pairwise_iff_getElem.1 hs i j hi hj hij)
 have mi := (hmem _).1 (List.getElem_mem hi)
 have mj := (hmem _).1 (List.getElem_mem hj)
 have k1 := it hid (dy (hk _ mi))
 have k2 := it hid (dy (hk _ mj))
 show rky bq (vB id) (vB (dc ab (br id) l)[i].2.1) < rky bq (vB id) (vB (dc ab (br id) l)[j].2.1)
 rw [← k1, ← k2]
 refine Int.lt_iff_le_and_ne.2 ⟨h1, fun e => ?_⟩
 rw [k1, k2] at e
 have := (h.rng hk).inj _ mi _ mj (vA (gf hid) ((h.rng hk).in' _ mi) ((h.rng hk).in' _ mj) e)
 exact List.pairwise_iff_getElem.1 hnd i j hi hj hij this
theorem o9 : aM prog [] fd dL :=
 eC (S := dL) (uF iG qc lH) (fx := oc) ul (by kernel_rfl) (fun _ _ => trivial) (T := fun x => o3 x.1 x.2.1) (fun x => rQ x.1 x.2.1) fun O w0 x _ _ => by
  obtain ⟨l, id, ⟨⟩⟩ := x
  have leaf : ∀ {p : Mem × Int}, cp l id = p → ∃ z, aL jL (K.val (Ty.pair ab (Ty.pair ae Ty.unit)) (p.1, p.2, ())) = some z ∧ z = dL.g (l, id, ()) := fun {p} e =>
   ⟨_, rfl, by show (p.1, p.2, ()) = ((cp l id).1, (cp l id).2, ()); rw [e]⟩
  refine ⟨trivial, fun h => leaf (p := (_, _)) ?_, fun h => ⟨fun h2 => leaf (p := (_, _)) ?_, fun h2 => ⟨trivial, ⟨⟨_, rfl⟩, ?_⟩, leaf (p := (_, _)) ?_⟩⟩⟩
  ·unfold cp; rw [h]; rfl
  ·unfold cp; rw [h, h2]; rfl
  ·have h2 : ¬ ((List.length l : Nat) : Int) = 0 := of_decide_eq_false h2
   exact Nat.pos_of_ne_zero fun e => h2 (by rw [e]; rfl)
  ·unfold cp; rw [h, h2]; rfl
theorem qy {l : List Mem} {no : Int} (h : ¬ gR l no < 0) : ∃ k : Nat, ∃ hk : k < l.length, gR l no = (k : Int) ∧ l[k].1 = no := by
 have ha : l.any (fun m => decide (m.1 = no)) = true := by
  cases e : l.any (fun m => decide (m.1 = no)) with
  | true => rfl
  | false => exact absurd (by unfold gR; rw [(l7 _ l 0 (Int.le_refl _)).2 e]; decide) h
 obtain ⟨k, hk, e1, e2⟩ := y5 _ l 0 ha
 exact ⟨k, hk, by unfold gR; rw [e1]; omega, of_decide_eq_true e2⟩
theorem g9 : aM prog [] d4 dv :=
 eC (S := dv) (ud iG fW rH mF qc jQ) (fx := np) sF (by kernel_rfl) (fun _ _ => trivial) (T := fun x => og x.1 x.2.1) (fun x => qo x.1 x.2.1) fun O w0 x hk _ => by
  obtain ⟨l, no, ⟨⟩⟩ := x
  have leaf : ∀ {p : List Mem × Int}, aC l no = p → ∃ z, aL iW (K.val (Ty.pair (Ty.slc ab) (Ty.pair ae Ty.unit)) (p.1, p.2, ())) = some z ∧ z = dv.g (l, no, ()) := fun {p} e =>
   ⟨_, rfl, by show (p.1, p.2, ()) = ((aC l no).1, (aC l no).2, ()); rw [e]⟩
  refine ⟨trivial, fun h => leaf (p := (_, _)) ?_, fun h => ⟨fun _ => trivial, ⟨_, rfl⟩, fun h2 => leaf (p := (_, _)) ?_, fun h2 => ?_⟩⟩
  ·unfold aC; rw [h]; rfl
  ·have h2 : decide (gR l no < 0) = true := h2
   unfold aC; rw [h, h2]; rfl
  ·have h2 : decide (gR l no < 0) = false := h2
   obtain ⟨k, hkl, e1, e2⟩ := qy (of_decide_eq_false h2)
   have hin : inB (gR l no) (lnx ab l) := by rw [e1]; exact dK hkl
   have hel : el ab l (gR l no) = l[k] := by rw [e1]; exact fm hkl
   refine ⟨trivial, hin, trivial, ?_, leaf (p := (_, _)) ?_⟩
   ·show eY ab (br (el ab l (gR l no)).2.1) l
    rw [hel]
    exact zR (ft (by simpa using h)) hk.1.2 (dy (hk.1.2 _ (List.getElem_mem hkl)))
   ·unfold aC; rw [h, h2]; rfl
theorem rq {l : List Mem} {no : Int} (h : (aC l no).2 = 0) : (aC l no).1.length = l.length ∧ 0 < l.length ∧ aA l = true ∧ ¬ gR l no < 0 := by
 unfold aC at h ⊢
 cases hr : aA l with
 | false => rw [hr] at h; cases h
 | true =>
  rw [hr] at h
  by_cases h2 : gR l no < 0
  ·rw [decide_eq_true h2] at h; cases h
  ·rw [decide_eq_false h2]
   obtain ⟨k, hk, _⟩ := qy h2
   exact ⟨List.length_mergeSort .., by omega, rfl, h2⟩
abbrev GAf (O : Nat → Prop) (w0 : World) (y : List Mem) := bS prog iQ (Cx.base O w0) (c6 prog O w0 fA fun z => z = (y, 0, ()))
def ui (O : Nat → Prop) (w0 : World) (all : List Mem) (n : Nat) (h0 : 0 < all.length) (hl : all.length ≤ 1000000) (hn : n ≤ 16) :=
 PLift.up <| iu (σ := List Mem) n (fun i b => b = mM all i ∧ b.length = i)
  (fun i b => GAf O w0 (mM all n) [] d3 (lp dI 8) (mQ all (n : Int) (i : Nat) b))
  (fun i b hi hb ih => cL (lr g9) (jE all _ _ b) (by
   obtain ⟨h1, h2⟩ := hb
   have hlen : lnx ab all = (all.length : Int) := rfl
   have e1 : IntKind.wrap .i64 ((i : Int) + 1) = (i : Int) + 1 := d8 (by omega)
   have hm : 0 ≤ Int.tmod ((i : Int) + 1) all.length ∧ Int.tmod ((i : Int) + 1) all.length < all.length := ⟨Int.tmod_nonneg _ (by omega), Int.tmod_lt_of_pos _ (by omega)⟩
   refine ⟨fun _ => ?_, fun hc => absurd (Int.ofNat_lt.2 hi) (of_decide_eq_false hc)⟩
   rw [e1, hlen, u6]
   refine ⟨(show (all.length : Int) ≠ 0 by omega), hm, ?_, ?_⟩
   ·rw [List.length_append, h2]
    exact show i + 1 ≤ 1073741824 by omega
   ·rw [show (i : Int) + 1 = ((i + 1 : Nat) : Int) by omega]
    refine ih _ ⟨?_, by rw [List.length_append, h2]; rfl⟩
    rw [h1]
    rfl))
  (fun b hb => cL (lr g9) (jE all _ _ b) ⟨fun hc => absurd (of_decide_eq_true hc) (Int.lt_irrefl _), fun _ => ⟨_, rfl, by rw [hb.1]⟩⟩)
theorem vK : aM prog [] iP gn :=
 eC (S := gn) (lr g9) (fx := d3) t7 (by kernel_rfl) (fun _ _ => trivial) (T := fun x => o6 x.1 x.2.1 x.2.2.1) (fun x => sk x.1 x.2.1 x.2.2.1) fun O w0 x hk _ => by
  obtain ⟨l, no, many, ⟨⟩⟩ := x
  have leaf : ∀ {p : List Mem × Int}, cQ l no many = p → ∃ z, aL fA (K.val (Ty.pair (Ty.slc ab) (Ty.pair ae Ty.unit)) (p.1, p.2, ())) = some z ∧ z = gn.g (l, no, many, ()) := fun {p} e =>
   ⟨_, rfl, by show (p.1, p.2, ()) = ((cQ l no many).1, (cQ l no many).2, ()); rw [e]⟩
  refine ⟨fun h => leaf (p := (_, _)) ?_, fun h => ⟨trivial, fB ⟨fun h2 => leaf (p := (_, _)) ?_, fun h2 => ?_⟩⟩⟩
  ·unfold cQ; rw [h]; rfl
  ·have h2 : (!decide ((aC l no).2 = 0)) = true := h2
   unfold cQ; rw [h, h2]; rfl
  ·have h2 : (!decide ((aC l no).2 = 0)) = false := h2
   have h3 : (aC l no).2 = 0 := by simpa using h2
   obtain ⟨t1, t2, t3, _⟩ := rq h3
   have hln := (ft t3).len
   have hmany : 0 ≤ (many : Int) ∧ (many : Int) ≤ 16 := by
    by_cases h4 : many < (0 : Int)
    ·rw [decide_eq_true h4] at h; cases h
    ·rw [decide_eq_false h4] at h
     have h5 : ¬ (16 : Int) < many := of_decide_eq_false h
     exact ⟨Int.not_lt.1 h4, Int.not_lt.1 h5⟩
   obtain ⟨n, hn⟩ : ∃ n : Nat, (n : Int) = many := ⟨Int.toNat many, Int.toNat_of_nonneg hmany.1⟩
   subst hn
   have e : cQ l no (n : Int) = (mM (aC l no).1 n, 0) := by unfold cQ; rw [h, h2]; rfl
   show bS _ _ _ (c6 prog O w0 fA fun z => z = ((cQ l no (n : Int)).1, (cQ l no (n : Int)).2, ())) _ _ _ _
   rw [e]
   exact (ui O w0 (aC l no).1 n (by omega) (by omega) (Int.ofNat_le.1 hmany.2)).down 0 [] (Nat.zero_le _) ⟨rfl, rfl⟩
theorem tX : aM prog [] g7 fE :=
 eC (S := fE) (uj g9) (fx := mU) sC (by kernel_rfl) (fun _ _ => trivial) (T := fun x => n1 x.1 x.2.1) (fun x => qR x.1 x.2.1) fun O w0 x hk _ => by
  obtain ⟨l, no, ⟨⟩⟩ := x
  have leaf : ∀ {p : Mem × Int}, cn l no = p → ∃ z, aL ji (K.val (Ty.pair ab (Ty.pair ae Ty.unit)) (p.1, p.2, ())) = some z ∧ z = fE.g (l, no, ()) := fun {p} e =>
   ⟨_, rfl, by show (p.1, p.2, ()) = ((cn l no).1, (cn l no).2, ()); rw [e]⟩
  refine ⟨trivial, fB ⟨fun h2 => leaf (p := (_, _)) ?_, fun h2 => ?_⟩⟩
  ·have h2 : (!decide ((aC l no).2 = 0)) = true := h2
   unfold cn; rw [h2]; rfl
  ·have h2 : (!decide ((aC l no).2 = 0)) = false := h2
   have h3 : (aC l no).2 = 0 := by simpa using h2
   obtain ⟨t1, t2, t3, _⟩ := rq h3
   have hln := (ft t3).len
   have e1 : lnx ab (aC l no).1 = ((aC l no).1.length : Int) := rfl
   have e2 : IntKind.wrap .i64 (lnx ab (aC l no).1 - 1) = ((aC l no).1.length : Int) - 1 := by rw [e1]; exact d8 (by omega)
   rw [e2]
   refine ⟨⟨by omega, by rw [e1]; omega⟩, leaf (p := (_, _)) ?_⟩
   unfold cn; rw [h2]; rfl
end Go.Proofs.Ytiaplhcifflibaa
namespace Go.Proofs.Ytiaplhcifflibaa
open Go Go.RowKit
noncomputable abbrev oN : Fx := { fn := mv, ann := { }, share := true }
noncomputable abbrev p6 : bz := { D := { T := bR, F := [(fd, dL), (cq, cr)], R := [], ovl := [] }, inl := [] }
noncomputable abbrev wK : cV := .data oD
theorem wk (h_ring_Owner : aM prog [] fd dL) (h_ring_Right : aM prog [] cq cr) : XOk prog p6 := xok (aS (aS (bt bA bc) h_ring_Right) h_ring_Owner) (by kernel_rfl) bX cC cD
noncomputable def qb : af := af.req True (af.all (den (Ty.pair ab (Ty.pair ae Ty.unit))) (fun (q0 : den (Ty.pair ab (Ty.pair ae Ty.unit))) ↦ q0 = (Prod.fst (cp (List.set (List.set (List.replicate 2 (zero ab)) 0 (3, List.set (List.replicate 32 (zero (Ty.int IntKind.u8))) 31 20, zero Ty.unit)) 1 (5, List.set (List.replicate 32 (zero (Ty.int IntKind.u8))) 31 10, zero Ty.unit)) (List.set (List.replicate 32 (zero (Ty.int IntKind.u8))) 31 21)), Prod.snd (cp (List.set (List.set (List.replicate 2 (zero ab)) 0 (3, List.set (List.replicate 32 (zero (Ty.int IntKind.u8))) 31 20, zero Ty.unit)) 1 (5, List.set (List.replicate 32 (zero (Ty.int IntKind.u8))) 31 10, zero Ty.unit)) (List.set (List.replicate 32 (zero (Ty.int IntKind.u8))) 31 21)), PUnit.unit)) fun (q0 : den (Ty.pair ab (Ty.pair ae Ty.unit))) ↦ af.req (s7 [(bif decide (Prod.fst (Prod.snd q0) = 0) then decide (Prod.fst (Prod.fst q0) = 5) else false, true)] True) (af.ret (K.val (Ty.pair Ty.bool Ty.unit) (bif bif decide (Prod.fst (Prod.snd q0) = 0) then decide (Prod.fst (Prod.fst q0) = 5) else false then aA (List.set (List.set (List.replicate 2 (zero ab)) 0 (3, List.set (List.replicate 32 (zero (Ty.int IntKind.u8))) 31 20, zero Ty.unit)) 1 (5, List.set (List.replicate 32 (zero (Ty.int IntKind.u8))) 31 10, zero Ty.unit)) else false, PUnit.unit))))
theorem tf : ay p6 wK 5000 [] oN (aI mv) (Env.of (a6 pe () 0) []) = qb := by kernel_rfl
noncomputable abbrev cz : Fx := { fn := co, ann := { loops := [(7, { keep := [0, 3, 5, 6, 7, 33, 34, 35] })] }, share := true }
noncomputable abbrev fZ : bz := { D := { T := bR, F := [(lW, lI), (cq, cr), (jr, jq), (fd, dL), (g7, fE), (iP, gn), (kw, nE)], R := [], ovl := [] }, inl := [] }
noncomputable abbrev mf : cV := .data lm
theorem rF (h_l07_few : aM prog [] lW lI) (h_ring_Right : aM prog [] cq cr) (h_l07_alive : aM prog [] jr jq) (h_ring_Owner : aM prog [] fd dL) (h_ring_Before : aM prog [] g7 fE) (h_ring_After : aM prog [] iP gn) (h_ident_In : aM prog [] kw nE) : XOk prog fZ := xok (aS (aS (aS (aS (aS (aS (aS (bt bA bc) h_ident_In) h_ring_After) h_ring_Before) h_ring_Owner) h_l07_alive) h_ring_Right) h_l07_few) (by kernel_rfl) bX cC cD
noncomputable def lM (l : den (Ty.slc ab)) (id : den tId) : af := af.req True (af.all (den (Ty.slc ab)) (fun (q2 : den (Ty.slc ab)) ↦ q2 = List.take 18 l) fun (q2 : den (Ty.slc ab)) ↦ af.req True (af.all (den Ty.bool) (fun (q3 : den Ty.bool) ↦ q3 = aA q2) fun (q3 : den Ty.bool) ↦ af.ite (bif !q3 then true else decide (lnx ab q2 = 0)) (af.req True (af.all (den Ty.bool) (fun (q4 : den Ty.bool) ↦ q4 = true) fun (q4 : den Ty.bool) ↦ af.ret (K.val (Ty.pair Ty.bool Ty.unit) (q4, PUnit.unit)))) (af.req True (af.all (den (Ty.pair ab (Ty.pair ae Ty.unit))) (fun (q4 : den (Ty.pair ab (Ty.pair ae Ty.unit))) ↦ q4 = (Prod.fst (cp q2 id), Prod.snd (cp q2 id), PUnit.unit)) fun (q4 : den (Ty.pair ab (Ty.pair ae Ty.unit))) ↦ af.loop [] cz (lp co 7) [(0, K.val (Ty.slc ab) q2), (3, K.ptr 0 tId []), (5, K.ptr (0 + 1) ab []), (6, K.val ae (Prod.fst (Prod.snd q4))), (7, K.val ae 0), (33, K.val (Ty.slc ab) q2), (34, K.val ae (lnx ab q2)), (35, K.val ae 0)] [(0, Bx.cell tId id), (0 + 1, Bx.cell ab (Prod.fst q4))]))))
theorem oZ (l : den (Ty.slc ab)) (id : den tId) : ay fZ mf 5000 [] cz (aI co) (Env.of (a6 c7 (l, id, ()) 0) []) = lM l id := by kernel_rfl
noncomputable def j2 (v0 : den (Ty.slc ab)) (v6 : den ae) (v7 : den ae) (v33 : den (Ty.slc ab)) (v34 : den ae) (v35 : den ae) (b0 : den tId) (b1 : den ab) : Env := Env.of [(0, K.val (Ty.slc ab) v0), (3, K.ptr 0 tId []), (5, K.ptr (0 + 1) ab []), (6, K.val ae v6), (7, K.val ae v7), (33, K.val (Ty.slc ab) v33), (34, K.val ae v34), (35, K.val ae v35)] [(0, Bx.cell tId b0), (1, Bx.cell ab b1)]
noncomputable def pt (v0 : den (Ty.slc ab)) (v6 : den ae) (v7 : den ae) (v33 : den (Ty.slc ab)) (v34 : den ae) (v35 : den ae) (b0 : den tId) (b1 : den ab) : af := af.ite (decide (v35 < v34)) (af.req (inB v35 (lnx ab v33)) (af.req True (af.all (den (Ty.pair ab (Ty.pair ae Ty.unit))) (fun (q8 : den (Ty.pair ab (Ty.pair ae Ty.unit))) ↦ q8 = (Prod.fst (cn v0 (Prod.fst (el ab v33 v35))), Prod.snd (cn v0 (Prod.fst (el ab v33 v35))), PUnit.unit)) fun (q8 : den (Ty.pair ab (Ty.pair ae Ty.unit))) ↦ af.req True (af.all (den (Ty.pair (Ty.slc ab) (Ty.pair ae Ty.unit))) (fun (q9 : den (Ty.pair (Ty.slc ab) (Ty.pair ae Ty.unit))) ↦ q9 = (Prod.fst (cQ v0 (Prod.fst (el ab v33 v35)) 1), Prod.snd (cQ v0 (Prod.fst (el ab v33 v35)) 1), PUnit.unit)) fun (q9 : den (Ty.pair (Ty.slc ab) (Ty.pair ae Ty.unit))) ↦ af.ite (bif bif !decide (Prod.fst (Prod.snd q8) = 0) then true else !decide (Prod.fst (Prod.snd q9) = 0) then true else !decide (lnx ab (Prod.fst q9) = 1)) (af.ret (K.val (Ty.pair Ty.bool Ty.unit) (false, PUnit.unit))) (af.req (inB 0 (lnx ab (Prod.fst q9))) (af.req True (af.all (den (Ty.pair ab (Ty.pair ae Ty.unit))) (fun (q10 : den (Ty.pair ab (Ty.pair ae Ty.unit))) ↦ q10 = (Prod.fst (cn v0 (Prod.fst (el ab (Prod.fst q9) 0))), Prod.snd (cn v0 (Prod.fst (el ab (Prod.fst q9) 0))), PUnit.unit)) fun (q10 : den (Ty.pair ab (Ty.pair ae Ty.unit))) ↦ af.ite (bif !decide (Prod.fst (Prod.snd q10) = 0) then true else !eqb ab (Prod.fst q10) (el ab v33 v35)) (af.ret (K.val (Ty.pair Ty.bool Ty.unit) (false, PUnit.unit))) (af.req True (af.all (den Ty.bool) (fun (q11 : den Ty.bool) ↦ q11 = jW b0 (Prod.fst (Prod.snd (Prod.fst q8))) (Prod.fst (Prod.snd (el ab v33 v35)))) fun (q11 : den Ty.bool) ↦ af.ite q11 (af.ite (!eqb ab (el ab v33 v35) b1) (af.ret (K.val (Ty.pair Ty.bool Ty.unit) (false, PUnit.unit))) (af.loop [] cz (lp co 7) [(0, K.val (Ty.slc ab) v0), (3, K.ptr 0 tId []), (5, K.ptr (0 + 1) ab []), (6, K.val ae v6), (7, K.val ae (IntKind.wrap IntKind.i64 (v7 + 1))), (33, K.val (Ty.slc ab) v33), (34, K.val ae v34), (35, K.val ae (IntKind.wrap IntKind.i64 (v35 + 1)))] [(0, Bx.cell tId b0), (0 + 1, Bx.cell ab b1)])) (af.loop [] cz (lp co 7) [(0, K.val (Ty.slc ab) v0), (3, K.ptr 0 tId []), (5, K.ptr (0 + 1) ab []), (6, K.val ae v6), (7, K.val ae v7), (33, K.val (Ty.slc ab) v33), (34, K.val ae v34), (35, K.val ae (IntKind.wrap IntKind.i64 (v35 + 1)))] [(0, Bx.cell tId b0), (0 + 1, Bx.cell ab b1)])))))))))) (af.req True (af.all (den Ty.bool) (fun (q8 : den Ty.bool) ↦ q8 = true) fun (q8 : den Ty.bool) ↦ af.ret (K.val (Ty.pair Ty.bool Ty.unit) (bif bif q8 then decide (v6 = 0) else false then decide (v7 = 1) else false, PUnit.unit))))
theorem ip (v0 : den (Ty.slc ab)) (v6 : den ae) (v7 : den ae) (v33 : den (Ty.slc ab)) (v34 : den ae) (v35 : den ae) (b0 : den tId) (b1 : den ab) : ay fZ mf 5000 [] cz (lp co 7) (j2 v0 v6 v7 v33 v34 v35 b0 b1) = pt v0 v6 v7 v33 v34 v35 b0 b1 := by kernel_rfl
end Go.Proofs.Ytiaplhcifflibaa
namespace Go.Proofs.Ytiaplhcifflibaa
open Go Go.RowKit
section
variable {l : List Mem}
theorem yB (hk : OkM l) {id : List Int} (hid : iB id) {x : Mem} (hx : x ∈ l) (h : ∀ y ∈ l, vB (aD id x.2.1) ≤ vB (aD id y.2.1)) : dY iH bq (vB id) l x :=
 ⟨hx, fun y hy => by
  have := h y hy
  rw [it hid (dy (hk x hx)), it hid (dy (hk y hy))] at this
  exact this⟩
theorem wd (id : List Int) : ∀ (t : List Mem) (b : Mem), ny (cmM (br id)) b t = gF (fun m => vB (aD id m.2.1)) b t
 | [], _ => rfl
 | x :: t, b => by
  have e : (cmM (br id) x b < 0) = (vB (aD id x.2.1) < vB (aD id b.2.1)) := propext (rN (a := aD id x.2.1) (b := aD id b.2.1))
  show ny (cmM (br id)) (if cmM (br id) x b < 0 then x else b) t = gF (fun m => vB (aD id m.2.1)) (if vB (aD id x.2.1) < vB (aD id b.2.1) then x else b) t
  simp only [e]
  exact wd id t _
theorem nI {k : Mem → Int} {b : Mem} {t : List Mem} : gF k b t ∈ b :: t ∧ ∀ y ∈ b :: t, k (gF k b t) ≤ k y := by
 obtain ⟨h1, h2, h3⟩ := nP k t b
 refine ⟨h1, fun y hy => ?_⟩
 rcases List.mem_cons.1 hy with rfl | hy
 ·exact h2
 ·exact h3 y hy
theorem yj (hr : aA l = true) (hk : OkM l) (h0 : 0 < l.length) {id : List Int} (hid : iB id) : ∃ o, cp l id = (o, 0) ∧ dY iH bq (vB id) l o := by
 refine ⟨uz (cmM (br id)) l, ?_, ?_⟩
 ·unfold cp
  rw [hr, decide_eq_false (show ¬ (lnx ab l = 0) from fun h => by have h : (l.length : Int) = 0 := h; omega)]
  rfl
 ·cases l with
  | nil => cases h0
  | cons b t =>
   show dY iH bq (vB id) (b :: t) (ny (cmM (br id)) b t)
   rw [wd]
   exact yB hk hid nI.1 nI.2
theorem tJ (id : List Int) : ∀ (t : List Mem) (b : Mem), 0 ≤ (b.1 : Int) → (∀ x ∈ t, 0 ≤ (x.1 : Int)) → t.foldl (mG id) b = gF (fun m => vB (aD id m.2.1)) b t
 | [], _, _, _ => rfl
 | x :: t, b, hb, ht => by
  have hx := ht x List.mem_cons_self
  have e : mG id b x = if vB (aD id x.2.1) < vB (aD id b.2.1) then x else b := by
   unfold mG
   rw [decide_eq_false (Int.not_lt.2 hb), cond_false]
   by_cases h : vB (aD id x.2.1) < vB (aD id b.2.1)
   ·rw [decide_eq_true (rN.2 h), if_pos h]; rfl
   ·rw [decide_eq_false (fun h' => h (rN.1 h')), if_neg h]; rfl
  show t.foldl (mG id) (mG id b x) = gF (fun m => vB (aD id m.2.1)) (if vB (aD id x.2.1) < vB (aD id b.2.1) then x else b) t
  rw [e]
  refine tJ id t _ ?_ fun y hy => ht y (List.mem_cons_of_mem _ hy)
  split
  ·exact hx
  ·exact hb
theorem yX (hr : aA l = true) (hk : OkM l) (h0 : 0 < l.length) {id : List Int} (hid : iB id) : dY iH bq (vB id) l (vD l id) := by
 have hno := (ft hr).no
 cases l with
 | nil => cases h0
 | cons b t =>
  have e : vD (b :: t) id = gF (fun m => vB (aD id m.2.1)) b t := by
   show t.foldl (mG id) (mG id noM b) = _
   have : mG id noM b = b := by unfold mG; rfl
   rw [this]
   exact tJ id t b (hno b List.mem_cons_self).1 fun x hx => (hno x (List.mem_cons_of_mem _ hx)).1
  rw [e]
  exact yB hk hid nI.1 nI.2
theorem A5 {a : List Int} (ha : iB a) : iB (un a pw0) ∧ vB (un a pw0) = rup bq (vB a) := by
 have hr := gf ha
 have hs := nq 32 (v := (vB a + vB pw0) % bq) (Int.emod_nonneg _ (by decide)) (Int.emod_lt_of_pos _ (by decide))
 refine ⟨⟨kb _ _, hs.1⟩, ?_⟩
 unfold un
 rw [hs.2, Bz]
 unfold rup
 split
 ·rename_i h; rw [h, Int.emod_self]
 ·exact Int.emod_eq_of_lt (by omega) (by omega)
theorem nK (hr : aA l = true) (hk : OkM l) {m : Mem} (hm : m ∈ l) : dY iH bq (rup bq (iH m)) l (cP l m) := by
 have h0 : 0 < l.length := List.length_pos_of_mem hm
 obtain ⟨a1, a2⟩ := A5 (dy (hk m hm))
 have := yX hr hk h0 a1
 rw [a2] at this
 exact this
theorem Bu (hr : aA l = true) {m : Mem} (hm : m ∈ l) : ¬ gR l m.1 < 0 ∧ ∃ k : Nat, ∃ hk : k < l.length, gR l m.1 = (k : Int) ∧ l[k] = m := by
 have ha : l.any (fun x => decide (x.1 = m.1)) = true := List.any_eq_true.2 ⟨m, hm, decide_eq_true rfl⟩
 have h0 := (l7 (fun x => decide (x.1 = m.1)) l 0 (Int.le_refl _)).1 ha
 have hn : ¬ gR l m.1 < 0 := Int.not_lt.2 h0.1
 obtain ⟨k, hk, e1, e2⟩ := qy hn
 exact ⟨hn, k, hk, e1, (ft hr).inj (List.getElem_mem hk) hm (.inl e2)⟩
def srt (l : List Mem) (m : Mem) : List Mem := dc ab (br m.2.1) l
theorem qd (hr : aA l = true) {m : Mem} (hm : m ∈ l) : aC l m.1 = (srt l m, 0) := by
 obtain ⟨h1, k, hk, e1, e2⟩ := Bu hr hm
 unfold aC
 rw [hr, decide_eq_false h1, e1, fm hk, e2]
 rfl
theorem lD (hr : aA l = true) (hk : OkM l) {m : Mem} (hm : m ∈ l) : ii iH bq (iH m) l (srt l m) ∧ (srt l m).length = l.length := An (ft hr) hk (dy (hk m hm))
theorem qC (hr : aA l = true) (hk : OkM l) {m : Mem} (hm : m ∈ l) (h : 0 < (srt l m).length) : (srt l m)[0] = m := ii.self ((ft hr).rng hk) hm (lD hr hk hm).1 h
theorem wq (hr : aA l = true) (hk : OkM l) {m : Mem} (hm : m ∈ l) : ∃ h : (srt l m).length - 1 < (srt l m).length, cn l m.1 = ((srt l m)[(srt l m).length - 1], 0) := by
 have hl := (lD hr hk hm).2
 have h0 : 0 < l.length := List.length_pos_of_mem hm
 have hlt : (srt l m).length - 1 < (srt l m).length := by omega
 refine ⟨hlt, ?_⟩
 unfold cn
 rw [qd hr hm]
 show (el ab (srt l m) (((srt l m).length : Int) - 1), (0 : Int)) = _
 rw [show ((srt l m).length : Int) - 1 = (((srt l m).length - 1 : Nat) : Int) by omega, fm hlt]
theorem yf (hr : aA l = true) {m : Mem} (hm : m ∈ l) {n : Nat} (hn : n ≤ 16) : cQ l m.1 (n : Int) = (mM (srt l m) n, 0) := by
 unfold cQ
 rw [qd hr hm, decide_eq_false (show ¬ ((n : Nat) : Int) < 0 by omega), decide_eq_false (show ¬ (16 : Int) < ((n : Nat) : Int) by omega)]
 rfl
theorem BC {s : List Mem} (h0 : 0 < s.length) (i : Nat) : el ab s (Int.tmod ((i : Int) + 1) s.length) = s[(i + 1) % s.length]'(Nat.mod_lt _ h0) := by
 have e : Int.tmod ((i : Int) + 1) s.length = (((i + 1) % s.length : Nat) : Int) := by
  rw [show (i : Int) + 1 = ((i + 1 : Nat) : Int) by omega]
  exact (Int.ofNat_tmod _ _).symm
 rw [e, fm (Nat.mod_lt _ h0)]
theorem pF (hr : aA l = true) (hk : OkM l) {a : Int} (ha : 0 ≤ a ∧ a < bq) {s : List Mem} (hs : ii iH bq a l s) {i : Nat} (hi : i < s.length) : cP l s[i] = s[(i + 1) % s.length]'(Nat.mod_lt _ (by omega)) := by
 have hm : s[i] ∈ l := (hs.mem _).1 (List.getElem_mem hi)
 have hrng := (ft hr).rng hk
 exact dY.uniq hrng (zo (hrng.in' _ hm)) (nK hr hk hm) (hs.next hrng ha hi)
theorem rA (hr : aA l = true) (hk : OkM l) {a : Int} (ha : 0 ≤ a ∧ a < bq) {s : List Mem} (hs : ii iH bq a l s) (h0 : 0 < s.length) : ∀ i : Nat, o7 l s[0] i = (mM s i, s[i % s.length]'(Nat.mod_lt _ h0))
 | 0 => by
  show ([], s[0]) = ([], s[0 % s.length]'(Nat.mod_lt _ h0))
  simp only [Nat.zero_mod]
 | i + 1 => by
  have ih := rA hr hk ha hs h0 i
  have hn := pF hr hk ha hs (Nat.mod_lt i h0)
  have e : (i % s.length + 1) % s.length = (i + 1) % s.length := by rw [Nat.mod_add_mod]
  simp only [e] at hn
  show ((o7 l s[0] i).1 ++ [cP l (o7 l s[0] i).2], cP l (o7 l s[0] i).2) = (mM s i ++ [el ab s (Int.tmod ((i : Int) + 1) s.length)], _)
  rw [ih]
  show (mM s i ++ [cP l (s[i % s.length]'(Nat.mod_lt _ h0))], cP l (s[i % s.length]'(Nat.mod_lt _ h0))) = _
  rw [hn, BC h0]
theorem zk (hr : aA l = true) (hk : OkM l) {m : Mem} (hm : m ∈ l) (n : Nat) : (o7 l m n).1 = mM (srt l m) n := by
 obtain ⟨h1, h2⟩ := lD hr hk hm
 have h0 : 0 < (srt l m).length := by rw [h2]; exact List.length_pos_of_mem hm
 have := rA hr hk (((ft hr).rng hk).in' m hm) h1 h0 n
 rw [qC hr hk hm h0] at this
 rw [this]
end
def m3 : Mem := (3, List.set (List.replicate 32 0) 31 20, ())
def m5 : Mem := (5, List.set (List.replicate 32 0) 31 10, ())
def i21 : List Int := List.set (List.replicate 32 0) 31 21
theorem Bq : (cp [m3, m5] i21).1.1 = (5 : Int) ∧ (cp [m3, m5] i21).2 = 0 ∧ aA [m3, m5] = true := by
 refine ⟨by kernel_rfl, by kernel_rfl, by kernel_rfl⟩
theorem wL : aM prog [] jr jq :=
 eC (S := jq) (wk o9 iG) (fx := oN) vq (by kernel_rfl) (fun _ _ => trivial) (T := fun _ => qb) (fun _ => tf) fun O v0 x _ _ => by
  refine ⟨trivial, fB ⟨fun _ => trivial, _, rfl, Prod.ext ?_ rfl⟩⟩
  obtain ⟨h1, h2, h3⟩ := Bq
  show (bif bif decide ((cp [m3, m5] i21).2 = 0) then decide ((cp [m3, m5] i21).1.1 = (5 : Int)) else false then aA [m3, m5] else false) = true
  rw [h1, h2, h3]
  rfl
end Go.Proofs.Ytiaplhcifflibaa
namespace Go.Proofs.Ytiaplhcifflibaa
open Go Go.RowKit
section
variable {l : List Mem}
theorem RR.sub {l l' : List Mem} (h : RR l) (hs : l'.Sublist l) : RR l' := ⟨Nat.le_trans hs.length_le h.len, fun m hm => h.no m (hs.subset hm), h.pw.sublist hs⟩
theorem Av (hr : aA l = true) (hk : OkM l) {m : Mem} (hm : m ∈ l) : cP l m ∈ l := (nK hr hk hm).1
theorem Bo (hr : aA l = true) (hk : OkM l) {m : Mem} (hm : m ∈ l) : cQ l m.1 1 = ([cP l m], 0) := by
 have := yf hr hm (n := 1) (by decide)
 rw [← zk hr hk hm 1] at this
 exact this
theorem Ab (hr : aA l = true) (hk : OkM l) {x y : Mem} (hx : x ∈ l) (hy : y ∈ l) (e : cP l x = cP l y) : x = y := by
 obtain ⟨h1, h2⟩ := lD hr hk hx
 have h0 : 0 < (srt l x).length := by rw [h2]; exact List.length_pos_of_mem hx
 have ha := ((ft hr).rng hk).in' x hx
 have hs := qC hr hk hx h0
 obtain ⟨j, hj, rfl⟩ := List.getElem_of_mem ((h1.mem y).2 hy)
 have n0 := pF hr hk ha h1 h0
 rw [hs] at n0
 have nj := pF hr hk ha h1 hj
 rw [n0, nj] at e
 have e := h1.nodup (Nat.mod_lt _ h0) (Nat.mod_lt _ h0) e
 have : j = 0 := by
  rcases Nat.lt_or_ge (j + 1) (srt l x).length with h | h
  ·rw [Nat.mod_eq_of_lt h, Nat.mod_eq_of_lt (by omega)] at e; omega
  ·have hj1 : j + 1 = (srt l x).length := by omega
   rw [hj1, Nat.mod_self] at e
   rcases Nat.eq_zero_or_pos j with hz | hz
   ·exact hz
   ·rw [Nat.mod_eq_of_lt (by omega)] at e; omega
 subst this
 exact hs.symm
theorem tQ (hr : aA l = true) (hk : OkM l) {m : Mem} (hm : m ∈ l) : ∃ b, cn l m.1 = (b, 0) ∧ b ∈ l ∧ cP l b = m := by
 obtain ⟨h1, h2⟩ := lD hr hk hm
 have h0 : 0 < (srt l m).length := by rw [h2]; exact List.length_pos_of_mem hm
 obtain ⟨hlt, e⟩ := wq hr hk hm
 refine ⟨_, e, (h1.mem _).1 (List.getElem_mem hlt), ?_⟩
 rw [pF hr hk (((ft hr).rng hk).in' m hm) h1 hlt]
 have e : ((srt l m).length - 1 + 1) % (srt l m).length = 0 := by rw [Nat.sub_add_cancel h0, Nat.mod_self]
 simp only [e]
 exact qC hr hk hm h0
theorem zH (hr : aA l = true) (hk : OkM l) {id : List Int} (hid : iB id) {o b m : Mem} (ho : dY iH bq (vB id) l o) (hb : b ∈ l) (hm : m ∈ l) (hn : cP l b = m) : jW id b.2.1 m.2.1 = decide (m = o) := by
 have hrng := (ft hr).rng hk
 have hnx := nK hr hk hb
 rw [hn] at hnx
 have ha := gf hid
 by_cases e : b = m
 ·subst e
  have h1 : jW id b.2.1 b.2.1 = true := by simp [jW]
  rw [h1]
  refine (decide_eq_true ?_).symm
  refine hrng.inj b hb o ho.1 ?_
  refine Decidable.byContradiction fun hne => ?_
  have h2 := hnx.2 o ho.1
  have rb := hrng.in' b hb
  have ro := hrng.in' o ho.1
  rw [qZ rb rb, qZ rb ro, if_pos rfl, if_neg (fun h => hne h.symm)] at h2
  have := i5 rb ro
  omega
 ·have ib := dy (hk b hb)
  have im := dy (hk m hm)
  have hne : ¬ b.2.1 = m.2.1 := fun h => e ((ft hr).inj hb hm (.inr h))
  rw [← yw hid ib im hne]
  have k1 : (0 < rky bq (vB b.2.1) (vB id) ∧ rky bq (vB b.2.1) (vB id) ≤ rky bq (vB b.2.1) (vB m.2.1)) ↔ m = o :=
   (Aq hrng ha hb hnx e).trans ⟨fun h => dY.uniq hrng ha h ho, fun h => by rw [h]; exact ho⟩
  have hfar := it ib hid
  have hfm := it ib im
  have hz : (aD b.2.1 id = List.replicate 32 (0 : Int)) ↔ rky bq (vB b.2.1) (vB id) = 0 := by
   rw [vZ ib hid]
   have rb := gf ib
   constructor
   ·intro h; rw [h]; exact sG
   ·intro h; exact (sS rb ha h).symm
  have hnn := (i5 (W := bq) (gf ib) ha).1
  by_cases h0 : aD b.2.1 id = List.replicate 32 (0 : Int)
  ·rw [decide_eq_true h0]
   symm
   refine decide_eq_false fun h => ?_
   have := (k1.2 h).1
   rw [hz.1 h0] at this
   omega
  ·rw [decide_eq_false h0]
   refine decide_eq_decide.2 ?_
   rw [yE, hfar, hfm, ← k1]
   have : ¬ rky bq (vB b.2.1) (vB id) = 0 := fun h => h0 (hz.2 h)
   constructor
   ·intro h; exact ⟨by omega, h⟩
   ·intro h; exact h.2
end
end Go.Proofs.Ytiaplhcifflibaa
namespace Go.Proofs.Ytiaplhcifflibaa
open Go Go.RowKit
def tk (k i : Nat) : Int := if k < i then 1 else 0
abbrev ig := rF zD iG wL o9 tX vK yo
abbrev GTk (O : Nat → Prop) (w0 : World) := bS prog fZ (Cx.base O w0) (c6 prog O w0 lm fun z => z = (true, ()))
def qw (O : Nat → Prop) (w0 : World) (q : List Mem) (id : List Int) (k : Nat) (hk' : k < q.length) (hr : aA q = true) (hq : OkM q) (hid : iB id) (ho : dY iH bq (vB id) q q[k]) :=
 PLift.up <| iu (σ := Int) q.length (fun i c => c = tk k i)
  (fun i c => GTk O w0 [] cz (lp co 7) (j2 q 0 c q (lnx ab q) (i : Nat) id q[k]))
  (fun i c hi hc ih => cL ig (ip q _ c q _ _ id q[k]) (by
   have hm : q[i] ∈ q := List.getElem_mem hi
   have hln := (ft hr).len
   obtain ⟨b, hb, hbq, hbn⟩ := tQ hr hq hm
   have ha := Bo hr hq hm
   have hnx := Av hr hq hm
   obtain ⟨c', hc', hcq, hcn⟩ := tQ hr hq hnx
   have e2 : c' = q[i] := Ab hr hq hcq hm hcn
   subst e2
   have hnd : ∀ {i j : Nat} (hi : i < q.length) (hj : j < q.length), q[i] = q[j] → i = j := fun hi hj e => (List.getElem_inj (ft hr).nodup).1 e
   have hin := zH hr hq hid ho hbq hm hbn
   refine ⟨fun _ => ⟨dK hi, ?_⟩, fun hc => absurd hi (by rw [m8] at hc; exact of_decide_eq_false hc)⟩
   rw [fm hi, lz hi (by omega), hb, ha]
   refine ⟨trivial, fB ⟨trivial, fB ⟨fun h => (by cases h), fun _ => ⟨⟨Int.le_refl _, Int.zero_lt_one⟩, trivial, fB ?_⟩⟩⟩⟩
   refine ⟨fun h => ?_, fun _ => ⟨trivial, fB ⟨fun h => ⟨fun h2 => ?_, fun _ => ?_⟩, fun h => ih c ?_⟩⟩⟩
   ·have h : (bif !decide ((cn q (cP q q[i]).1).2 = 0) then true else !eqb ab (cn q (cP q q[i]).1).1 q[i]) = true := h
    rw [hc', xm, decide_eq_true (show q[i] = q[i] from rfl)] at h
    cases h
   ·have h : jW id b.2.1 (q[i]).2.1 = true := h
    rw [hin] at h
    have h2 : (!eqb ab q[i] q[k]) = true := h2
    rw [xm, h] at h2
    cases h2
   ·have h : jW id b.2.1 (q[i]).2.1 = true := h
    rw [hin] at h
    have e := hnd hi hk' (of_decide_eq_true h)
    subst e
    have e1 : c = 0 := by rw [hc]; unfold tk; rw [if_neg (Nat.lt_irrefl _)]
    rw [e1, show IntKind.wrap .i64 ((0 : Int) + 1) = 1 from rfl]
    exact ih 1 (by unfold tk; rw [if_pos (Nat.lt_succ_self _)])
   ·have h : jW id b.2.1 (q[i]).2.1 = false := h
    rw [hin] at h
    have e : ¬ k = i := fun e => of_decide_eq_false h (by subst e; rfl)
    rw [hc]
    unfold tk
    by_cases h1 : k < i
    ·rw [if_pos h1, if_pos (by omega)]
    ·rw [if_neg h1, if_neg (by omega)]))
  (fun c hc => cL ig (ip q _ c q _ _ id q[k]) ⟨fun hc => absurd (of_decide_eq_true hc) (Int.lt_irrefl _), fun _ => ⟨trivial, fB ⟨_, rfl, Prod.ext (by
   have : c = 1 := by rw [hc]; unfold tk; rw [if_pos hk']
   rw [this]; rfl) rfl⟩⟩⟩)
theorem rK : aM prog [] lR (Ad c7) :=
 eC (S := Ad c7) ig (fx := cz) qp (by kernel_rfl) (fun _ _ => trivial) (T := fun x => lM x.1 x.2.1) (fun x => oZ x.1 x.2.1) fun O w0 x hk _ => by
  obtain ⟨l, id, ⟨⟩⟩ := x
  have hq : OkM (List.take 18 l) := fun m hm => hk.1.2 m (List.mem_of_mem_take hm)
  have hid : iB id := w8 hk.2.1
  refine ⟨trivial, fB ?_⟩
  generalize (List.take 18 l : List Mem) = q at hq ⊢
  refine ⟨trivial, fB ⟨fun _ => ⟨trivial, fB ⟨_, rfl, rfl⟩⟩, fun h => ⟨trivial, fB ?_⟩⟩⟩
  have h : (bif !aA q then true else decide (lnx ab q = 0)) = false := h
  cases hr : aA q with
  | false => rw [hr] at h; cases h
  | true =>
   rw [hr] at h
   have h : decide (((q.length : Nat) : Int) = 0) = false := h
   have h0 : 0 < q.length := Nat.pos_of_ne_zero fun e => of_decide_eq_false h (by omega)
   obtain ⟨o, e, ho⟩ := yj hr hq h0 hid
   obtain ⟨k, hk, rfl⟩ := List.getElem_of_mem ho.1
   rw [e]
   exact (qw O w0 q id k hk hr hq hid ho).down 0 0 (Nat.zero_le _) rfl
end Go.Proofs.Ytiaplhcifflibaa
