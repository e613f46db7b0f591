/- Part 8 of 8 of what this claim's proof stands on: a theory of programs on data, and the contracts of the functions that the law reaches. It holds no condition of its own. -/
import Derived.Test.YtiaplhcifflibaaCA7
namespace Go.Proofs.Ytiaplhcifflibaa
open Go Go.RowKit
theorem iM : aP prog [] bZ bW :=
 eH (S := bW) (iI fU) (fx := eD) iz (by kernel_rfl) (fun h => by cases h) (T := fun x => eV x.1 x.2.1) (fun x => hP x.1 x.2.1) fun O w0 x _ hp =>
  ⟨hp, _, rfl, by show (decide (0 ≤ ixP (prM x.2.1) x.1 0), ()) = (x.1.any (prM x.2.1), ()); rw [zL]⟩
theorem mh : aP prog [] cW cZ :=
 eH (S := cZ) lV (fx := gB) lc (by kernel_rfl) (fun h => by cases h) (T := fun x => gG x.1) (fun x => jW x.1) fun O w0 x _ _ => ⟨_, rfl, rfl⟩
theorem px : aP prog [] fG fF :=
 eH (S := fF) (vh tq) (fx := ox) uZ (by kernel_rfl) (fun _ _ => trivial) (T := fun x => pK x.1) (fun x => sC x.1) fun O w0 x _ _ => ⟨fun _ => trivial, _, rfl, rfl⟩
abbrev GRi (O : Nat → Prop) (w0 : World) (y : Bool) := bY prog fY (Cx.base O w0) (db prog O w0 ju fun z => z = (y, ()))
theorem jp : XOk prog fY := uH iM ss
theorem oN (pre : List Mem) (m : Mem) (l : List Mem) : nr pre (m :: l) = ((!(pre.any fun x => eY x m)) && decide (0 ≤ m.1) && decide (m.1 < 16) && nr (pre ++ [m]) l) := rfl
theorem za {e : Ty} (xs : List (den e)) (i : Nat) : gR e xs 0 (i : Nat) = xs.take i := by
 unfold gR eR
 rw [Int.toNat_natCast]
 exact List.drop_zero
def s8 (O : Nat → Prop) (w0 : World) (l : List Mem) (hm : l.length ≤ maxLen) :=
 PLift.up <| i9 (σ := Unit) l.length (fun i _ => nr (l.take i) (l.drop i) = nr [] l)
  (fun i _ => GRi O w0 (aA l) [] dS (lp dE 2) (mF l l (lnx ab l) (i : Nat)))
  (fun i _ hi hs ih => dn jp (ja l l _ _) (by
   rw [List.drop_eq_getElem_cons hi, oN, ← List.take_succ_eq_append_getElem hi] at hs
   have hi' : i ≤ l.length := Nat.le_of_lt hi
   refine ⟨fun _ => ⟨dW hi, ⟨Int.le_refl _, Int.natCast_nonneg _, Int.ofNat_le.2 hi'⟩, fun _ => trivial, ⟨_, rfl⟩, ?_⟩, fun hc => absurd hi (by rw [oX] at hc; exact of_decide_eq_false hc)⟩
   rw [gt hi, mA hi hm, za]
   have e1 : ∀ xs : List Mem, (xs.any (prM (some fun y => (eY y.1 l[i], PUnit.unit)))) = xs.any fun x => eY x l[i] := fun xs => rfl
   refine ⟨fun hc => ⟨_, rfl, ?_⟩, fun hc => ih () ?_⟩
   ·rw [e1] at hc
    show (false, ()) = (aA l, ())
    have : nr [] l = false := by
     rw [← hs]
     cases h1 : (l.take i).any (fun x => eY x l[i]) with
     | true => rfl
     | false =>
      rw [h1] at hc
      by_cases h2 : (l[i].1 : Int) < 0
      ·rw [decide_eq_false (show ¬ (0 : Int) ≤ l[i].1 from fun h => absurd h2 (Int.not_lt.2 h))]; rfl
      ·rw [decide_eq_false h2] at hc
       have h3 : (16 : Int) ≤ l[i].1 := of_decide_eq_true hc
       rw [decide_eq_false (show ¬ (l[i].1 : Int) < 16 from Int.not_lt.2 h3)]
       cases decide (0 ≤ l[i].1) <;> rfl
    unfold aA
    rw [this]
    rfl
   ·rw [e1] at hc
    rw [← hs]
    cases h1 : (l.take i).any (fun x => eY x l[i]) with
    | true => rw [h1] at hc; cases hc
    | false =>
     rw [h1] at hc
     by_cases h2 : (l[i].1 : Int) < 0
     ·rw [decide_eq_true h2] at hc; cases hc
     ·rw [decide_eq_false h2] at hc
      have h3 : ¬ (16 : Int) ≤ l[i].1 := of_decide_eq_false hc
      rw [decide_eq_true (show (0 : Int) ≤ l[i].1 from Int.not_lt.1 h2), decide_eq_true (show (l[i].1 : Int) < 16 from Int.not_le.1 h3)]
      rfl))
  (fun _ hs => dn jp (ja l l _ _) (by
   refine ⟨fun hc => absurd (of_decide_eq_true hc) (Int.lt_irrefl _), fun _ => ⟨_, rfl, ?_⟩⟩
   rw [List.drop_length] at hs
   show (decide ((l.length : Int) ≤ 16), ()) = (aA l, ())
   unfold aA
   rw [← hs]
   have : decide ((l.length : Int) ≤ 16) = decide (l.length ≤ 16) := decide_eq_decide.2 (by omega)
   rw [this]
   rfl))
theorem iv : aP prog [] cn co :=
 eH (S := co) jp (fx := dS) tl (by kernel_rfl) (fun _ _ => trivial) (T := fun x => oT x.1) (fun x => qE x.1) fun O w0 x hk _ =>
  (s8 O w0 x.1 hk.1.1).down 0 () (Nat.zero_le _) rfl
theorem ul (b : List Mem) (x : Mem) : b ++ List.set (List.replicate 1 (zero ab)) 0 x = b ++ [x] := rfl
abbrev GSo (O : Nat → Prop) (w0 : World) (y : List Mem) := bY prog bf (Cx.base O w0) (db prog O w0 c6 fun z => z = (y, ()))
theorem gP : XOk prog bf := jC jq
def td (O : Nat → Prop) (w0 : World) (xs : List Mem) (f : den (lH ab)) (hp : eQ ab f xs) :=
 PLift.up <| i9 (σ := List Mem) xs.length (fun i b => b = xs.take i)
  (fun i b => GSo O w0 (cX ab f xs) (bC f xs (lnx ab xs) (i : Nat) b) aW (lp aQ 1) (bD f xs (lnx ab xs) (i : Nat) b))
  (fun i b hi hb ih => dn gP (bo f xs _ _ b) (by
   have hlen := hp.len
   refine ⟨fun _ => ⟨dW hi, ?_⟩, fun hc => absurd hi (by rw [oX] at hc; exact of_decide_eq_false hc)⟩
   rw [gt hi, mA hi (by omega), ul, hb, ← List.take_succ_eq_append_getElem hi]
   have hl : (xs.take (i + 1)).length ≤ 1000000 := by rw [List.length_take]; omega
   refine ⟨Nat.le_trans hl (by decide), (fun hc => by cases hc), fun _ => ih _ rfl⟩))
  (fun b hb => dn gP (bo f xs _ _ b) (by
   rw [List.take_length] at hb
   subst hb
   exact ⟨fun hc => absurd (of_decide_eq_true hc) (Int.lt_irrefl _), fun _ => ⟨hp, _, rfl, rfl⟩⟩))
theorem jr : aP prog [] cp cu :=
 eH (S := cu) gP (fx := aR) ji (by kernel_rfl) (fun h => by cases h) (T := fun x => fo x.1 x.2.1) (fun x => iw x.1 x.2.1) fun O w0 x _ hp => by
  obtain ⟨⟨xs, ⟨⟩⟩, f, ⟨⟩⟩ := x
  have hp : eQ ab f xs := hp
  have hlen := hp.len
  refine dn gP (c5 f xs (lnx ab xs) 0) ?_
  refine ⟨fun hc => ?_, fun hc => ?_⟩
  ·have h0 : 0 < xs.length := Int.ofNat_lt.1 (of_decide_eq_true hc)
   refine ⟨dW (i := 0) h0, ?_⟩
   rw [show (0 : Int) = ((0 : Nat) : Int) from rfl, gt h0, mA h0 (by omega)]
   refine ⟨show 1 ≤ cv by decide, (fun hc => by cases hc), fun _ => ?_⟩
   refine (td O w0 xs f hp).down 1 _ h0 ?_
   rw [List.take_succ_eq_append_getElem h0]
   rfl
  ·have h0 : xs = [] := List.eq_nil_of_length_eq_zero (by have := of_decide_eq_false hc; have h2 : ¬ (0 : Int) < (xs.length : Int) := this; omega)
   subst h0
   refine ⟨hp, _, rfl, ?_⟩
   show (([] : List Mem), ()) = (List.mergeSort [] _, ())
   rw [List.mergeSort_nil]
end Go.Proofs.Ytiaplhcifflibaa
namespace Go.Proofs.Ytiaplhcifflibaa
open Go Go.RowKit
abbrev jv (m : Mem) : Int := vB m.2.1
abbrev OkM (l : List Mem) : Prop := ∀ m ∈ l, okT ab m
theorem d5 {m : Mem} (h : okT ab m) : jl m.2.1 := wx h.2.1
theorem sJ : ∀ (l pre : List Mem), nr pre l = true → (∀ m ∈ l, 0 ≤ (m.1 : Int) ∧ (m.1 : Int) < 16) ∧ (∀ m ∈ l, ∀ x ∈ pre, eY x m = false) ∧ l.Pairwise fun x m => eY x m = false
 | [], _, _ => ⟨fun _ h => (by cases h), fun _ h => (by cases h), List.Pairwise.nil⟩
 | m :: l, pre, h => by
  rw [oN] at h
  simp only [Bool.and_eq_true, Bool.not_eq_true', decide_eq_true_eq] at h
  obtain ⟨⟨⟨h1, h2⟩, h3⟩, h4⟩ := h
  obtain ⟨i1, i2, i3⟩ := sJ l (pre ++ [m]) h4
  have h1 : ∀ x ∈ pre, eY x m = false := fun x hx => by
   have := List.any_eq_false.1 h1 x hx
   simpa using this
  refine ⟨fun z hz => ?_, fun z hz x hx => ?_, List.pairwise_cons.2 ⟨fun z hz => i2 z hz m (List.mem_append.2 (.inr List.mem_cons_self)), i3⟩⟩
  ·rcases List.mem_cons.1 hz with rfl | hz
   ·exact ⟨h2, h3⟩
   ·exact i1 z hz
  ·rcases List.mem_cons.1 hz with rfl | hz
   ·exact h1 x hx
   ·exact i2 z hz x (List.mem_append.2 (.inl hx))
theorem sw {x m : Mem} (h : x.1 = m.1) : eY x m = true := by unfold eY; rw [decide_eq_true h]; rfl
theorem wb {x m : Mem} (h : x.2.1 = m.2.1) : eY x m = true := by
 unfold eY
 have : eqb tId x.2.1 m.2.1 = true := (mq (t := tId) rfl _ _).2 h
 rw [this]
 cases decide (x.1 = m.1) <;> rfl
structure RR (l : List Mem) : Prop where
 len : l.length ≤ 16
 no : ∀ m ∈ l, 0 ≤ (m.1 : Int) ∧ (m.1 : Int) < 16
 pw : l.Pairwise fun x m => eY x m = false
theorem gV {l : List Mem} (h : aA l = true) : RR l := by
 unfold aA at h
 simp only [Bool.and_eq_true, decide_eq_true_eq] at h
 obtain ⟨h1, h2⟩ := h
 obtain ⟨i1, _, i3⟩ := sJ l [] h1
 exact ⟨h2, i1, i3⟩
theorem RR.at {l : List Mem} (h : RR l) {i j : Nat} (hij : i < j) (hj : j < l.length) : eY l[i] l[j] = false := List.pairwise_iff_getElem.1 h.pw i j (by omega) hj hij
theorem RR.inj {l : List Mem} (h : RR l) {x y : Mem} (hx : x ∈ l) (hy : y ∈ l) (e : x.1 = y.1 ∨ x.2.1 = y.2.1) : x = y := by
 obtain ⟨i, hi, rfl⟩ := List.getElem_of_mem hx
 obtain ⟨j, hj, rfl⟩ := List.getElem_of_mem hy
 rcases Nat.lt_trichotomy i j with h1 | h1 | h1
 ·have := h.at h1 hj
  rcases e with e | e
  ·rw [sw e] at this; cases this
  ·rw [wb e] at this; cases this
 ·subst h1; rfl
 ·have := h.at h1 hi
  rcases e with e | e
  ·rw [sw e.symm] at this; cases this
  ·rw [wb e.symm] at this; cases this
theorem RR.nodup {l : List Mem} (h : RR l) : l.Nodup := List.Pairwise.imp (fun {x m} hf e => by rw [e, sw rfl] at hf; cases hf) h.pw
theorem RR.rng {l : List Mem} (h : RR l) (hk : OkM l) : uK jv cq l :=
 ⟨fun m hm => lG (d5 (hk m hm)), fun x hx y hy e => h.inj hx hy (.inr (AH (by rw [(d5 (hk x hx)).1, (d5 (hk y hy)).1]) (d5 (hk x hx)).2 (d5 (hk y hy)).2 e))⟩
theorem j5 {a b : List Int} (ha : jl a) (hb : jl b) : vB (aO a b) = rky cq (vB a) (vB b) := AG ha hb
theorem zQ (id : List Int) (x y : Mem) : cfD ab (br id) x y = i5 (aO id x.2.1) (aO id y.2.1) := rfl
theorem mL (id : List Int) (x y : Mem) : ltD ab (br id) x y = decide (vB (aO id x.2.1) < vB (aO id y.2.1)) := by
 unfold ltD
 rw [zQ]
 exact decide_eq_decide.2 qD
theorem zj {l : List Mem} (h : RR l) (hk : OkM l) {id : List Int} (hid : jl id) : eQ ab (br id) l := by
 refine ⟨⟨_, rfl⟩, ⟨fun x => ?_, fun x y z h1 h2 => ?_, fun x y z h1 h2 => ?_⟩, fun x hx y hy h1 h2 => ?_, Nat.le_trans h.len (by decide)⟩
 ·rw [mL]; exact decide_eq_false (Int.lt_irrefl _)
 ·rw [mL] at *; exact decide_eq_true (Int.lt_trans (of_decide_eq_true h1) (of_decide_eq_true h2))
 ·rw [mL] at *
  have h1 := of_decide_eq_false h1
  have h2 := of_decide_eq_false h2
  exact decide_eq_false (by omega)
 ·rw [mL] at *
  have h1 := of_decide_eq_false h1
  have h2 := of_decide_eq_false h2
  have e : vB (aO id x.2.1) = vB (aO id y.2.1) := by omega
  rw [j5 hid (d5 (hk x hx)), j5 hid (d5 (hk y hy))] at e
  exact (h.rng hk).inj x hx y hy (tL (lG hid) ((h.rng hk).in' x hx) ((h.rng hk).in' y hy) e)
theorem yM {l : List Mem} (h : RR l) (hk : OkM l) {id : List Int} (hid : jl id) : gY jv cq (vB id) l (cX ab (br id) l) ∧ (cX ab (br id) l).length = l.length := by
 have hl : (cX ab (br id) l).length = l.length := List.length_mergeSort ..
 have hmem : ∀ x, x ∈ cX ab (br id) l ↔ x ∈ l := fun x => List.mem_mergeSort
 refine ⟨⟨hmem, ?_⟩, hl⟩
 have hle : ∀ x y : Mem, (!ltD ab (br id) y x) = true ↔ vB (aO id x.2.1) ≤ vB (aO id y.2.1) := fun x y => by
  rw [mL, Bool.not_eq_true', decide_eq_false_iff_not]
  omega
 have hs := List.pairwise_mergeSort (le := fun x y => !ltD ab (br id) y x) (fun a b c h1 h2 => (hle a c).2 (Int.le_trans ((hle a b).1 h1) ((hle b c).1 h2))) (fun a b => by
  rw [Bool.or_eq_true, hle, hle]
  exact Int.le_total _ _) l
 have hnd : (cX ab (br id) l).Nodup := (List.mergeSort_perm l _).nodup_iff.2 h.nodup
 refine List.pairwise_iff_getElem.2 fun i j hi hj hij => ?_
 have h1 := (hle _ _).1 (List.pairwise_iff_getElem.1 hs i j hi hj hij)
 have mi := (hmem _).1 (List.getElem_mem hi)
 have mj := (hmem _).1 (List.getElem_mem hj)
 have k1 := j5 hid (d5 (hk _ mi))
 have k2 := j5 hid (d5 (hk _ mj))
 show rky cq (vB id) (vB (cX ab (br id) l)[i].2.1) < rky cq (vB id) (vB (cX ab (br id) l)[j].2.1)
 rw [← k1, ← k2]
 refine Int.lt_iff_le_and_ne.2 ⟨h1, fun e => ?_⟩
 rw [k1, k2] at e
 have := (h.rng hk).inj _ mi _ mj (tL (lG hid) ((h.rng hk).in' _ mi) ((h.rng hk).in' _ mj) e)
 exact List.pairwise_iff_getElem.1 hnd i j hi hj hij this
theorem oB : aP prog [] eW dy :=
 eH (S := dy) (u4 iv px k9) (fx := nx) tb (by kernel_rfl) (fun _ _ => trivial) (T := fun x => nX x.1 x.2.1) (fun x => qX x.1 x.2.1) fun O w0 x _ _ => by
  obtain ⟨l, id, ⟨⟩⟩ := x
  have leaf : ∀ {p : Mem × Int}, a7 l id = p → ∃ z, aH js (K.val (Ty.pair ab (Ty.pair af Ty.unit)) (p.1, p.2, ())) = some z ∧ z = dy.g (l, id, ()) := fun {p} e =>
   ⟨_, rfl, by show (p.1, p.2, ()) = ((a7 l id).1, (a7 l id).2, ()); rw [e]⟩
  refine ⟨trivial, fun h => leaf (p := (_, _)) ?_, fun h => ⟨fun h2 => leaf (p := (_, _)) ?_, fun h2 => ⟨trivial, ⟨⟨_, rfl⟩, ?_⟩, leaf (p := (_, _)) ?_⟩⟩⟩
  ·unfold a7; rw [h]; rfl
  ·unfold a7; rw [h, h2]; rfl
  ·have h2 : ¬ ((List.length l : Nat) : Int) = 0 := of_decide_eq_false h2
   exact Nat.pos_of_ne_zero fun e => h2 (by rw [e]; rfl)
  ·unfold a7; rw [h, h2]; rfl
theorem qh {l : List Mem} {no : Int} (h : ¬ gE l no < 0) : ∃ k : Nat, ∃ hk : k < l.length, gE l no = (k : Int) ∧ l[k].1 = no := by
 have ha : l.any (fun m => decide (m.1 = no)) = true := by
  cases e : l.any (fun m => decide (m.1 = no)) with
  | true => rfl
  | false => exact absurd (by unfold gE; rw [(lI _ l 0 (Int.le_refl _)).2 e]; decide) h
 obtain ⟨k, hk, e1, e2⟩ := xV _ l 0 ha
 exact ⟨k, hk, by unfold gE; rw [e1]; omega, of_decide_eq_true e2⟩
theorem jB : aP prog [] gQ fq :=
 eH (S := fq) (ta iv fU rh mh px jr) (fx := mn) sG (by kernel_rfl) (fun _ _ => trivial) (T := fun x => nC x.1 x.2.1) (fun x => ql x.1 x.2.1) fun O w0 x hk _ => by
  obtain ⟨l, no, ⟨⟩⟩ := x
  have leaf : ∀ {p : List Mem × Int}, aZ l no = p → ∃ z, aH iH (K.val (Ty.pair (Ty.slc ab) (Ty.pair af Ty.unit)) (p.1, p.2, ())) = some z ∧ z = fq.g (l, no, ()) := fun {p} e =>
   ⟨_, rfl, by show (p.1, p.2, ()) = ((aZ l no).1, (aZ l no).2, ()); rw [e]⟩
  refine ⟨trivial, fun h => leaf (p := (_, _)) ?_, fun h => ⟨fun _ => trivial, ⟨_, rfl⟩, fun h2 => leaf (p := (_, _)) ?_, fun h2 => ?_⟩⟩
  ·unfold aZ; rw [h]; rfl
  ·have h2 : decide (gE l no < 0) = true := h2
   unfold aZ; rw [h, h2]; rfl
  ·have h2 : decide (gE l no < 0) = false := h2
   obtain ⟨k, hkl, e1, e2⟩ := qh (of_decide_eq_false h2)
   have hin : inB (gE l no) (lnx ab l) := by rw [e1]; exact dW hkl
   have hel : el ab l (gE l no) = l[k] := by rw [e1]; exact gt hkl
   refine ⟨trivial, hin, trivial, ?_, leaf (p := (_, _)) ?_⟩
   ·show eQ ab (br (el ab l (gE l no)).2.1) l
    rw [hel]
    exact zj (gV (by simpa using h)) hk.1.2 (d5 (hk.1.2 _ (List.getElem_mem hkl)))
   ·unfold aZ; rw [h, h2]; rfl
theorem wT {l : List Mem} {no : Int} (h : (aZ l no).2 = 0) : (aZ l no).1.length = l.length ∧ 0 < l.length ∧ aA l = true ∧ ¬ gE l no < 0 := by
 unfold aZ at h ⊢
 cases hr : aA l with
 | false => rw [hr] at h; cases h
 | true =>
  rw [hr] at h
  by_cases h2 : gE l no < 0
  ·rw [decide_eq_true h2] at h; cases h
  ·rw [decide_eq_false h2]
   obtain ⟨k, hk, _⟩ := qh h2
   exact ⟨List.length_mergeSort .., by omega, rfl, h2⟩
abbrev GAf (O : Nat → Prop) (w0 : World) (y : List Mem) := bY prog io (Cx.base O w0) (db prog O w0 fA fun z => z = (y, 0, ()))
def tp (O : Nat → Prop) (w0 : World) (all : List Mem) (n : Nat) (h0 : 0 < all.length) (hl : all.length ≤ 1000000) (hn : n ≤ 16) :=
 PLift.up <| i9 (σ := List Mem) n (fun i b => b = l9 all i ∧ b.length = i)
  (fun i b => GAf O w0 (l9 all n) [] dR (lp dF 8) (mz all (n : Int) (i : Nat) b))
  (fun i b hi hb ih => dn (kQ jB) (jh all _ _ b) (by
   obtain ⟨h1, h2⟩ := hb
   have hlen : lnx ab all = (all.length : Int) := rfl
   have e1 : IntKind.wrap .i64 ((i : Int) + 1) = (i : Int) + 1 := e9 (by omega)
   have hm : 0 ≤ Int.tmod ((i : Int) + 1) all.length ∧ Int.tmod ((i : Int) + 1) all.length < all.length := ⟨Int.tmod_nonneg _ (by omega), Int.tmod_lt_of_pos _ (by omega)⟩
   refine ⟨fun _ => ?_, fun hc => absurd (Int.ofNat_lt.2 hi) (of_decide_eq_false hc)⟩
   rw [e1, hlen, ul]
   refine ⟨(show (all.length : Int) ≠ 0 by omega), hm, ?_, ?_⟩
   ·rw [List.length_append, h2]
    exact show i + 1 ≤ 1073741824 by omega
   ·rw [show (i : Int) + 1 = ((i + 1 : Nat) : Int) by omega]
    refine ih _ ⟨?_, by rw [List.length_append, h2]; rfl⟩
    rw [h1]
    rfl))
  (fun b hb => dn (kQ jB) (jh all _ _ b) ⟨fun hc => absurd (of_decide_eq_true hc) (Int.lt_irrefl _), fun _ => ⟨_, rfl, by rw [hb.1]⟩⟩)
theorem vc : aP prog [] ie gc :=
 eH (S := gc) (kQ jB) (fx := dR) th (by kernel_rfl) (fun _ _ => trivial) (T := fun x => nO x.1 x.2.1 x.2.2.1) (fun x => rq x.1 x.2.1 x.2.2.1) fun O w0 x hk _ => by
  obtain ⟨l, no, many, ⟨⟩⟩ := x
  have leaf : ∀ {p : List Mem × Int}, ce l no many = p → ∃ z, aH fA (K.val (Ty.pair (Ty.slc ab) (Ty.pair af Ty.unit)) (p.1, p.2, ())) = some z ∧ z = gc.g (l, no, many, ()) := fun {p} e =>
   ⟨_, rfl, by show (p.1, p.2, ()) = ((ce l no many).1, (ce l no many).2, ()); rw [e]⟩
  refine ⟨fun h => leaf (p := (_, _)) ?_, fun h => ⟨trivial, iq ⟨fun h2 => leaf (p := (_, _)) ?_, fun h2 => ?_⟩⟩⟩
  ·unfold ce; rw [h]; rfl
  ·have h2 : (!decide ((aZ l no).2 = 0)) = true := h2
   unfold ce; rw [h, h2]; rfl
  ·have h2 : (!decide ((aZ l no).2 = 0)) = false := h2
   have h3 : (aZ l no).2 = 0 := by simpa using h2
   obtain ⟨t1, t2, t3, _⟩ := wT h3
   have hln := (gV t3).len
   have hmany : 0 ≤ (many : Int) ∧ (many : Int) ≤ 16 := by
    by_cases h4 : many < (0 : Int)
    ·rw [decide_eq_true h4] at h; cases h
    ·rw [decide_eq_false h4] at h
     have h5 : ¬ (16 : Int) < many := of_decide_eq_false h
     exact ⟨Int.not_lt.1 h4, Int.not_lt.1 h5⟩
   obtain ⟨n, hn⟩ : ∃ n : Nat, (n : Int) = many := ⟨Int.toNat many, Int.toNat_of_nonneg hmany.1⟩
   subst hn
   have e : ce l no (n : Int) = (l9 (aZ l no).1 n, 0) := by unfold ce; rw [h, h2]; rfl
   show bY _ _ _ (db prog O w0 fA fun z => z = ((ce l no (n : Int)).1, (ce l no (n : Int)).2, ())) _ _ _ _
   rw [e]
   exact (tp O w0 (aZ l no).1 n (by omega) (by omega) (Int.ofNat_le.1 hmany.2)).down 0 [] (Nat.zero_le _) ⟨rfl, rfl⟩
end Go.Proofs.Ytiaplhcifflibaa
namespace Go.Proofs.Ytiaplhcifflibaa
open Go Go.RowKit
noncomputable abbrev oA : Fx := { fn := lY, ann := { }, share := true }
noncomputable abbrev pG : bz := { D := { T := cm, F := [(eW, dy), (cn, co)], R := [], ovl := [] }, inl := [] }
noncomputable abbrev vZ : cY := .data oq
theorem vg (h_ring_Owner : aP prog [] eW dy) (h_ring_Right : aP prog [] cn co) : XOk prog pG := xok (a8 (a8 (bI bL bj) h_ring_Right) h_ring_Owner) (by kernel_rfl) cj cI cJ
noncomputable def pp : ae := ae.req True (ae.all (den (Ty.pair ab (Ty.pair af Ty.unit))) (fun (q0 : den (Ty.pair ab (Ty.pair af Ty.unit))) ↦ q0 = (Prod.fst (a7 (List.set (List.set (List.replicate 2 (zero ab)) 0 (3, List.set (List.replicate 32 (zero (Ty.int IntKind.u8))) 31 20, zero Ty.unit)) 1 (5, List.set (List.replicate 32 (zero (Ty.int IntKind.u8))) 31 10, zero Ty.unit)) (List.set (List.replicate 32 (zero (Ty.int IntKind.u8))) 31 21)), Prod.snd (a7 (List.set (List.set (List.replicate 2 (zero ab)) 0 (3, List.set (List.replicate 32 (zero (Ty.int IntKind.u8))) 31 20, zero Ty.unit)) 1 (5, List.set (List.replicate 32 (zero (Ty.int IntKind.u8))) 31 10, zero Ty.unit)) (List.set (List.replicate 32 (zero (Ty.int IntKind.u8))) 31 21)), PUnit.unit)) fun (q0 : den (Ty.pair ab (Ty.pair af Ty.unit))) ↦ ae.req (u7 [(bif decide (Prod.fst (Prod.snd q0) = 0) then decide (Prod.fst (Prod.fst q0) = 5) else false, true)] True) (ae.ret (K.val (Ty.pair Ty.bool Ty.unit) (bif bif decide (Prod.fst (Prod.snd q0) = 0) then decide (Prod.fst (Prod.fst q0) = 5) else false then aA (List.set (List.set (List.replicate 2 (zero ab)) 0 (3, List.set (List.replicate 32 (zero (Ty.int IntKind.u8))) 31 20, zero Ty.unit)) 1 (5, List.set (List.replicate 32 (zero (Ty.int IntKind.u8))) 31 10, zero Ty.unit)) else false, PUnit.unit))))
theorem rZ : ay pG vZ 5000 [] oA (aG lY) (Env.of (bc oa () 0) []) = pp := by kernel_rfl
noncomputable abbrev kL : Fx := { fn := ia, ann := { frz := [(2, [4]), (3, [7])] }, own := [16], share := true }
noncomputable abbrev lA : bz := { D := { T := cm, F := [(lu, lK), (cn, co), (i8, iZ), (eW, dy), (ie, gc)], R := [], ovl := [] }, inl := [] }
noncomputable abbrev rv : cY := .data p6
theorem qT (h_l07_few : aP prog [] lu lK) (h_ring_Right : aP prog [] cn co) (h_l07_alive : aP prog [] i8 iZ) (h_ring_Owner : aP prog [] eW dy) (h_ring_After : aP prog [] ie gc) : XOk prog lA := xok (a8 (a8 (a8 (a8 (a8 (bI bL bj) h_ring_After) h_ring_Owner) h_l07_alive) h_ring_Right) h_l07_few) (by kernel_rfl) cj cI cJ
noncomputable def ly (l : den (Ty.slc ab)) (m : den ab) (id : den tId) : ae := ae.req True (ae.all (den (Ty.slc ab)) (fun (q3 : den (Ty.slc ab)) ↦ q3 = List.take 18 l) fun (q3 : den (Ty.slc ab)) ↦ ae.req (List.length (List.replicate 0 (zero ab) ++ q3) ≤ cv) (ae.req (List.length (List.replicate 0 (zero ab) ++ q3 ++ List.set (List.replicate 1 (zero ab)) 0 m) ≤ cv) (ae.req True (ae.all (den Ty.bool) (fun (q4 : den Ty.bool) ↦ q4 = aA (List.replicate 0 (zero ab) ++ q3 ++ List.set (List.replicate 1 (zero ab)) 0 m)) fun (q4 : den Ty.bool) ↦ ae.ite (bif !q4 then true else decide (lnx ab q3 = 0)) (ae.req True (ae.all (den Ty.bool) (fun (q5 : den Ty.bool) ↦ q5 = true) fun (q5 : den Ty.bool) ↦ ae.ret (K.val (Ty.pair Ty.bool Ty.unit) (q5, PUnit.unit)))) (ae.req True (ae.all (den (Ty.pair ab (Ty.pair af Ty.unit))) (fun (q5 : den (Ty.pair ab (Ty.pair af Ty.unit))) ↦ q5 = (Prod.fst (a7 q3 id), Prod.snd (a7 q3 id), PUnit.unit)) fun (q5 : den (Ty.pair ab (Ty.pair af Ty.unit))) ↦ ae.req True (ae.all (den (Ty.pair ab (Ty.pair af Ty.unit))) (fun (q6 : den (Ty.pair ab (Ty.pair af Ty.unit))) ↦ q6 = (Prod.fst (a7 (List.replicate 0 (zero ab) ++ q3 ++ List.set (List.replicate 1 (zero ab)) 0 m) id), Prod.snd (a7 (List.replicate 0 (zero ab) ++ q3 ++ List.set (List.replicate 1 (zero ab)) 0 m) id), PUnit.unit)) fun (q6 : den (Ty.pair ab (Ty.pair af Ty.unit))) ↦ ae.req True (ae.all (den (Ty.pair (Ty.slc ab) (Ty.pair af Ty.unit))) (fun (q7 : den (Ty.pair (Ty.slc ab) (Ty.pair af Ty.unit))) ↦ q7 = (Prod.fst (ce (List.replicate 0 (zero ab) ++ q3 ++ List.set (List.replicate 1 (zero ab)) 0 m) (Prod.fst m) 1), Prod.snd (ce (List.replicate 0 (zero ab) ++ q3 ++ List.set (List.replicate 1 (zero ab)) 0 m) (Prod.fst m) 1), PUnit.unit)) fun (q7 : den (Ty.pair (Ty.slc ab) (Ty.pair af Ty.unit))) ↦ ae.req True (ae.req (u7 [(bif bif bif bif true then decide (Prod.fst (Prod.snd q5) = 0) else false then decide (Prod.fst (Prod.snd q6) = 0) else false then decide (Prod.fst (Prod.snd q7) = 0) else false then decide (lnx ab (Prod.fst q7) = 1) else false, true), (eqb ab (Prod.fst q6) (Prod.fst q5), false), (eqb ab (Prod.fst q6) m, true)] (inB 0 (lnx ab (Prod.fst q7)))) (ae.all (den Ty.bool) (fun (q8 : den Ty.bool) ↦ q8 = true) fun (q8 : den Ty.bool) ↦ ae.ret (K.val (Ty.pair Ty.bool Ty.unit) (bif bif bif bif bif true then decide (Prod.fst (Prod.snd q5) = 0) else false then decide (Prod.fst (Prod.snd q6) = 0) else false then decide (Prod.fst (Prod.snd q7) = 0) else false then decide (lnx ab (Prod.fst q7) = 1) else false then bif eqb ab (Prod.fst q6) (Prod.fst q5) then true else bif eqb ab (Prod.fst q6) m then eqb ab (Prod.fst q5) (el ab (Prod.fst q7) 0) else false else false, PUnit.unit))))))))))))
theorem oQ (l : den (Ty.slc ab)) (m : den ab) (id : den tId) : ay lA rv 5000 [] kL (aG ia) (Env.of (bc cS (l, m, id, ()) 0) []) = ly l m id := by kernel_rfl
end Go.Proofs.Ytiaplhcifflibaa
namespace Go.Proofs.Ytiaplhcifflibaa
open Go Go.RowKit
section
variable {l : List Mem}
theorem xP (hk : OkM l) {id : List Int} (hid : jl id) {x : Mem} (hx : x ∈ l) (h : ∀ y ∈ l, vB (aO id x.2.1) ≤ vB (aO id y.2.1)) : dQ jv cq (vB id) l x :=
 ⟨hx, fun y hy => by
  have := h y hy
  rw [j5 hid (d5 (hk x hx)), j5 hid (d5 (hk y hy))] at this
  exact this⟩
theorem u2 (id : List Int) : ∀ (t : List Mem) (b : Mem), mX (cmM (br id)) b t = gw (fun m => vB (aO id m.2.1)) b t
 | [], _ => rfl
 | x :: t, b => by
  have e : (cmM (br id) x b < 0) = (vB (aO id x.2.1) < vB (aO id b.2.1)) := propext (qD (a := aO id x.2.1) (b := aO id b.2.1))
  show mX (cmM (br id)) (if cmM (br id) x b < 0 then x else b) t = gw (fun m => vB (aO id m.2.1)) (if vB (aO id x.2.1) < vB (aO id b.2.1) then x else b) t
  simp only [e]
  exact u2 id t _
theorem mV {k : Mem → Int} {b : Mem} {t : List Mem} : gw k b t ∈ b :: t ∧ ∀ y ∈ b :: t, k (gw k b t) ≤ k y := by
 obtain ⟨h1, h2, h3⟩ := ni k t b
 refine ⟨h1, fun y hy => ?_⟩
 rcases List.mem_cons.1 hy with rfl | hy
 ·exact h2
 ·exact h3 y hy
theorem ru (hr : aA l = true) (hk : OkM l) (h0 : 0 < l.length) {id : List Int} (hid : jl id) : ∃ o, a7 l id = (o, 0) ∧ dQ jv cq (vB id) l o := by
 refine ⟨tG (cmM (br id)) l, ?_, ?_⟩
 ·unfold a7
  rw [hr, decide_eq_false (show ¬ (lnx ab l = 0) from fun h => by have h : (l.length : Int) = 0 := h; omega)]
  rfl
 ·cases l with
  | nil => cases h0
  | cons b t =>
   show dQ jv cq (vB id) (b :: t) (mX (cmM (br id)) b t)
   rw [u2]
   exact xP hk hid mV.1 mV.2
theorem sR (id : List Int) : ∀ (t : List Mem) (b : Mem), 0 ≤ (b.1 : Int) → (∀ x ∈ t, 0 ≤ (x.1 : Int)) → t.foldl (mf id) b = gw (fun m => vB (aO id m.2.1)) b t
 | [], _, _, _ => rfl
 | x :: t, b, hb, ht => by
  have hx := ht x List.mem_cons_self
  have e : mf id b x = if vB (aO id x.2.1) < vB (aO id b.2.1) then x else b := by
   unfold mf
   rw [decide_eq_false (Int.not_lt.2 hb), cond_false]
   by_cases h : vB (aO id x.2.1) < vB (aO id b.2.1)
   ·rw [decide_eq_true (qD.2 h), if_pos h]; rfl
   ·rw [decide_eq_false (fun h' => h (qD.1 h')), if_neg h]; rfl
  show t.foldl (mf id) (mf id b x) = gw (fun m => vB (aO id m.2.1)) (if vB (aO id x.2.1) < vB (aO id b.2.1) then x else b) t
  rw [e]
  refine sR id t _ ?_ fun y hy => ht y (List.mem_cons_of_mem _ hy)
  split
  ·exact hx
  ·exact hb
theorem yC (hr : aA l = true) (hk : OkM l) (h0 : 0 < l.length) {id : List Int} (hid : jl id) : dQ jv cq (vB id) l (uj l id) := by
 have hno := (gV hr).no
 cases l with
 | nil => cases h0
 | cons b t =>
  have e : uj (b :: t) id = gw (fun m => vB (aO id m.2.1)) b t := by
   show t.foldl (mf id) (mf id noM b) = _
   have : mf id noM b = b := by unfold mf; rfl
   rw [this]
   exact sR id t b (hno b List.mem_cons_self).1 fun x hx => (hno x (List.mem_cons_of_mem _ hx)).1
  rw [e]
  exact xP hk hid mV.1 mV.2
theorem zT {a : List Int} (ha : jl a) : jl (tv a pw0) ∧ vB (tv a pw0) = rup cq (vB a) := by
 have hr := lG ha
 have hs := pS 32 (v := (vB a + vB pw0) % cq) (Int.emod_nonneg _ (by decide)) (Int.emod_lt_of_pos _ (by decide))
 refine ⟨⟨mU _ _, hs.1⟩, ?_⟩
 unfold tv
 rw [hs.2, Az]
 unfold rup
 split
 ·rename_i h; rw [h, Int.emod_self]
 ·exact Int.emod_eq_of_lt (by omega) (by omega)
theorem qu (hr : aA l = true) (hk : OkM l) {m : Mem} (hm : m ∈ l) : dQ jv cq (rup cq (jv m)) l (eN l m) := by
 have h0 : 0 < l.length := List.length_pos_of_mem hm
 obtain ⟨a1, a2⟩ := zT (d5 (hk m hm))
 have := yC hr hk h0 a1
 rw [a2] at this
 exact this
theorem AQ (hr : aA l = true) {m : Mem} (hm : m ∈ l) : ¬ gE l m.1 < 0 ∧ ∃ k : Nat, ∃ hk : k < l.length, gE l m.1 = (k : Int) ∧ l[k] = m := by
 have ha : l.any (fun x => decide (x.1 = m.1)) = true := List.any_eq_true.2 ⟨m, hm, decide_eq_true rfl⟩
 have h0 := (lI (fun x => decide (x.1 = m.1)) l 0 (Int.le_refl _)).1 ha
 have hn : ¬ gE l m.1 < 0 := Int.not_lt.2 h0.1
 obtain ⟨k, hk, e1, e2⟩ := qh hn
 exact ⟨hn, k, hk, e1, (gV hr).inj (List.getElem_mem hk) hm (.inl e2)⟩
def srt (l : List Mem) (m : Mem) : List Mem := cX ab (br m.2.1) l
theorem vK (hr : aA l = true) {m : Mem} (hm : m ∈ l) : aZ l m.1 = (srt l m, 0) := by
 obtain ⟨h1, k, hk, e1, e2⟩ := AQ hr hm
 unfold aZ
 rw [hr, decide_eq_false h1, e1, gt hk, e2]
 rfl
theorem uw (hr : aA l = true) (hk : OkM l) {m : Mem} (hm : m ∈ l) : gY jv cq (jv m) l (srt l m) ∧ (srt l m).length = l.length := yM (gV hr) hk (d5 (hk m hm))
theorem y5 (hr : aA l = true) (hk : OkM l) {m : Mem} (hm : m ∈ l) (h : 0 < (srt l m).length) : (srt l m)[0] = m := gY.self ((gV hr).rng hk) hm (uw hr hk hm).1 h
theorem wC (hr : aA l = true) {m : Mem} (hm : m ∈ l) {n : Nat} (hn : n ≤ 16) : ce l m.1 (n : Int) = (l9 (srt l m) n, 0) := by
 unfold ce
 rw [vK hr hm, decide_eq_false (show ¬ ((n : Nat) : Int) < 0 by omega), decide_eq_false (show ¬ (16 : Int) < ((n : Nat) : Int) by omega)]
 rfl
theorem AC {s : List Mem} (h0 : 0 < s.length) (i : Nat) : el ab s (Int.tmod ((i : Int) + 1) s.length) = s[(i + 1) % s.length]'(Nat.mod_lt _ h0) := by
 have e : Int.tmod ((i : Int) + 1) s.length = (((i + 1) % s.length : Nat) : Int) := by
  rw [show (i : Int) + 1 = ((i + 1 : Nat) : Int) by omega]
  exact (Int.ofNat_tmod _ _).symm
 rw [e, gt (Nat.mod_lt _ h0)]
theorem zM (hr : aA l = true) (hk : OkM l) {a : Int} (ha : 0 ≤ a ∧ a < cq) {s : List Mem} (hs : gY jv cq a l s) {i : Nat} (hi : i < s.length) : eN l s[i] = s[(i + 1) % s.length]'(Nat.mod_lt _ (by omega)) := by
 have hm : s[i] ∈ l := (hs.mem _).1 (List.getElem_mem hi)
 have hrng := (gV hr).rng hk
 exact dQ.uniq hrng (s5 (hrng.in' _ hm)) (qu hr hk hm) (hs.next hrng ha hi)
theorem qM (hr : aA l = true) (hk : OkM l) {a : Int} (ha : 0 ≤ a ∧ a < cq) {s : List Mem} (hs : gY jv cq a l s) (h0 : 0 < s.length) : ∀ i : Nat, oK l s[0] i = (l9 s i, s[i % s.length]'(Nat.mod_lt _ h0))
 | 0 => by
  show ([], s[0]) = ([], s[0 % s.length]'(Nat.mod_lt _ h0))
  simp only [Nat.zero_mod]
 | i + 1 => by
  have ih := qM hr hk ha hs h0 i
  have hn := zM hr hk ha hs (Nat.mod_lt i h0)
  have e : (i % s.length + 1) % s.length = (i + 1) % s.length := by rw [Nat.mod_add_mod]
  simp only [e] at hn
  show ((oK l s[0] i).1 ++ [eN l (oK l s[0] i).2], eN l (oK l s[0] i).2) = (l9 s i ++ [el ab s (Int.tmod ((i : Int) + 1) s.length)], _)
  rw [ih]
  show (l9 s i ++ [eN l (s[i % s.length]'(Nat.mod_lt _ h0))], eN l (s[i % s.length]'(Nat.mod_lt _ h0))) = _
  rw [hn, AC h0]
theorem xy (hr : aA l = true) (hk : OkM l) {m : Mem} (hm : m ∈ l) (n : Nat) : (oK l m n).1 = l9 (srt l m) n := by
 obtain ⟨h1, h2⟩ := uw hr hk hm
 have h0 : 0 < (srt l m).length := by rw [h2]; exact List.length_pos_of_mem hm
 have := qM hr hk (((gV hr).rng hk).in' m hm) h1 h0 n
 rw [y5 hr hk hm h0] at this
 rw [this]
end
def m3 : Mem := (3, List.set (List.replicate 32 0) 31 20, ())
def m5 : Mem := (5, List.set (List.replicate 32 0) 31 10, ())
def i21 : List Int := List.set (List.replicate 32 0) 31 21
theorem AI : (a7 [m3, m5] i21).1.1 = (5 : Int) ∧ (a7 [m3, m5] i21).2 = 0 ∧ aA [m3, m5] = true := by
 refine ⟨by kernel_rfl, by kernel_rfl, by kernel_rfl⟩
theorem vv : aP prog [] i8 iZ :=
 eH (S := iZ) (vg oB iv) (fx := oA) ut (by kernel_rfl) (fun _ _ => trivial) (T := fun _ => pp) (fun _ => rZ) fun O v0 x _ _ => by
  refine ⟨trivial, iq ⟨fun _ => trivial, _, rfl, Prod.ext ?_ rfl⟩⟩
  obtain ⟨h1, h2, h3⟩ := AI
  show (bif bif decide ((a7 [m3, m5] i21).2 = 0) then decide ((a7 [m3, m5] i21).1.1 = (5 : Int)) else false then aA [m3, m5] else false) = true
  rw [h1, h2, h3]
  rfl
end Go.Proofs.Ytiaplhcifflibaa
namespace Go.Proofs.Ytiaplhcifflibaa
open Go Go.RowKit
section
variable {l : List Mem}
theorem wA : ∀ (l pre : List Mem), (∀ m ∈ l, 0 ≤ (m.1 : Int) ∧ (m.1 : Int) < 16) → (∀ m ∈ l, ∀ x ∈ pre, eY x m = false) → l.Pairwise (fun x m => eY x m = false) → nr pre l = true
 | [], _, _, _, _ => rfl
 | m :: l, pre, h1, h2, h3 => by
  obtain ⟨p1, p2⟩ := List.pairwise_cons.1 h3
  rw [oN]
  simp only [Bool.and_eq_true, Bool.not_eq_true', decide_eq_true_eq]
  obtain ⟨a1, a2⟩ := h1 m List.mem_cons_self
  refine ⟨⟨⟨List.any_eq_false.2 fun x hx => by simp [h2 m List.mem_cons_self x hx], a1⟩, a2⟩, wA l (pre ++ [m]) (fun z hz => h1 z (List.mem_cons_of_mem _ hz)) (fun z hz x hx => ?_) p2⟩
  rcases List.mem_append.1 hx with hx | hx
  ·exact h2 z (List.mem_cons_of_mem _ hz) x hx
  ·rw [List.mem_singleton.1 hx]; exact p1 z hz
theorem AX (h : RR l) : aA l = true := by
 unfold aA
 rw [wA l [] h.no (fun _ _ _ hx => by cases hx) h.pw, decide_eq_true h.len]
 rfl
theorem RR.sub {l l' : List Mem} (h : RR l) (hs : l'.Sublist l) : RR l' := ⟨Nat.le_trans hs.length_le h.len, fun m hm => h.no m (hs.subset hm), h.pw.sublist hs⟩
theorem AR (hr : aA l = true) (hk : OkM l) {m : Mem} (hm : m ∈ l) : ce l m.1 1 = ([eN l m], 0) := by
 have := wC hr hm (n := 1) (by decide)
 rw [← xy hr hk hm 1] at this
 exact this
end
end Go.Proofs.Ytiaplhcifflibaa
namespace Go.Proofs.Ytiaplhcifflibaa
open Go Go.RowKit
theorem rz : aP prog [] lg (yO cS) :=
 eH (S := yO cS) (qT xx iv vv oB vc) (fx := kL) qj (by kernel_rfl) (fun _ _ => trivial) (T := fun x => ly x.1 x.2.1 x.2.2.1) (fun x => oQ x.1 x.2.1 x.2.2.1) fun O w0 x hk _ => by
  obtain ⟨l, m, id, ⟨⟩⟩ := x
  have hq : OkM (List.take 18 l) := fun m hm => hk.1.2 m (List.mem_of_mem_take hm)
  have hqm : OkM (List.take 18 l ++ [m]) := fun x hx => by
   rcases List.mem_append.1 hx with hx | hx
   ·exact hq x hx
   ·rw [List.mem_singleton.1 hx]; exact hk.2.1
  have hid : jl id := wx hk.2.2.1
  have hlen : (List.take 18 l : List Mem).length ≤ 18 := by rw [List.length_take]; omega
  refine ⟨trivial, iq ?_⟩
  generalize (List.take 18 l : List Mem) = q at hq hqm hlen ⊢
  have e0 : List.replicate 0 (zero ab) ++ q ++ List.set (List.replicate 1 (zero ab)) 0 m = q ++ [m] := rfl
  rw [e0]
  refine ⟨(show ([] ++ q).length ≤ 1073741824 by rw [List.nil_append]; omega), (show (q ++ [m]).length ≤ 1073741824 by rw [List.length_append]; have : [m].length = 1 := rfl; omega), trivial, iq ⟨fun _ => ⟨trivial, iq ⟨_, rfl, rfl⟩⟩, fun h => ?_⟩⟩
  have h : (bif !aA (q ++ [m]) then true else decide (lnx ab q = 0)) = false := h
  cases hr : aA (q ++ [m]) with
  | false => rw [hr] at h; cases h
  | true =>
   rw [hr] at h
   have h : decide (((q.length : Nat) : Int) = 0) = false := h
   have h0 : 0 < q.length := Nat.pos_of_ne_zero fun e => of_decide_eq_false h (by omega)
   have hrq : aA q = true := AX ((gV hr).sub (List.sublist_append_left ..))
   have hmm : m ∈ q ++ [m] := List.mem_append.2 (.inr List.mem_cons_self)
   have hnm : ¬ m ∈ q := fun hx => (List.nodup_append.1 (gV hr).nodup).2.2 m hx m List.mem_cons_self rfl
   obtain ⟨a, ea, ha⟩ := ru hrq hq h0 hid
   obtain ⟨b, eb, hb⟩ := ru hr hqm (by rw [List.length_append]; omega) hid
   have en := AR hr hqm hmm
   have hrng := (gV hr).rng hqm
   have law : b = a ∨ b = m ∧ a = eN (q ++ [m]) m := by
    rcases List.mem_append.1 hb.1 with hbq | hbm
    ·exact .inl (dQ.uniq ((gV hrq).rng hq) (lG hid) (hb.sub (fun x hx => List.mem_append.2 (.inl hx)) hbq) ha)
    ·have := List.mem_singleton.1 hbm
     subst this
     refine .inr ⟨rfl, dQ.uniq hrng (s5 (hrng.in' _ hmm)) (xR hrng (lG hid) hb (fun x => ⟨fun hx => ⟨List.mem_append.2 (.inl hx), fun e => hnm (e ▸ hx)⟩, fun hx => ?_⟩) ha) (qu hr hqm hmm)⟩
     rcases List.mem_append.1 hx.1 with h1 | h1
     ·exact h1
     ·exact absurd (List.mem_singleton.1 h1) hx.2
   refine ⟨trivial, iq ⟨trivial, iq ⟨trivial, iq ⟨trivial, ?_, iq ⟨_, rfl, Prod.ext ?_ rfl⟩⟩⟩⟩⟩
   ·rw [en]
    exact fun _ _ _ => ⟨Int.le_refl _, Int.zero_lt_one⟩
   ·show (bif bif bif bif bif true then decide ((a7 q id).2 = 0) else false then decide ((a7 (q ++ [m]) id).2 = 0) else false then decide ((ce (q ++ [m]) m.1 1).2 = 0) else false then decide (lnx ab (ce (q ++ [m]) m.1 1).1 = 1) else false then bif eqb ab (a7 (q ++ [m]) id).1 (a7 q id).1 then true else bif eqb ab (a7 (q ++ [m]) id).1 m then eqb ab (a7 q id).1 (el ab (ce (q ++ [m]) m.1 1).1 0) else false else false) = true
    rw [ea, eb, en]
    show (bif eqb ab b a then true else bif eqb ab b m then eqb ab a (eN (q ++ [m]) m) else false) = true
    rw [r6, r6, r6]
    rcases law with e | ⟨e1, e2⟩
    ·rw [decide_eq_true e]; rfl
    ·rw [decide_eq_true e1, decide_eq_true e2]
     cases decide (b = a) <;> rfl
end Go.Proofs.Ytiaplhcifflibaa
