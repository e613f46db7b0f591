/- Part 10 of 10 of what this claim's proof stands on: a theory of programs on data, and the contracts of the functions that the law reaches. It holds no condition of its own. -/
import Derived.Test.YtimdnodkabnbfaaCA9
namespace Go.Proofs.Ytimdnodkabnbfaa
open Go Go.RowKit
end Go.Proofs.Ytimdnodkabnbfaa
namespace Go.Proofs.Ytimdnodkabnbfaa
open Go Go.RowKit
end Go.Proofs.Ytimdnodkabnbfaa
namespace Go.Proofs.Ytimdnodkabnbfaa
open Go Go.RowKit
theorem ji {a : List Int} (h : f9 a) : 0 ≤ vB a ∧ vB a < aT := by
 have := nY h.2
 rw [h.1] at this
 exact this
theorem MZ {x a b : List Int} (hx : f9 x) (ha : f9 a) (hb : f9 b) (hab : a ≠ b) : gD x a b = true ↔ 0 < rky aT (vB a) (vB x) ∧ rky aT (vB a) (vB x) ≤ rky aT (vB a) (vB b) := by
 have rx := ji hx
 have ra := ji ha
 have rb := ji hb
 have hne : vB a ≠ vB b := fun e => hab (AB (ha.1.trans hb.1.symm) ha.2 hb.2 e)
 unfold gD rky
 rw [if_neg hab]
 generalize aT = W at *
 by_cases h : vB a < vB b
 ·rw [if_pos h]
  by_cases h1 : vB a ≤ vB x <;> by_cases h2 : vB a ≤ vB b <;> simp [h1, h2] <;> omega
 ·rw [if_neg h]
  by_cases h1 : vB a ≤ vB x <;> by_cases h2 : vB a ≤ vB b <;> simp [h1, h2] <;> omega
theorem FY {self id x : List Int} (hs : f9 self) (hi : f9 id) (hx : f9 x) (hne : self ≠ id) : OA self id x = true ↔ 0 < rky aT (vB self) (vB x) ∧ rky aT (vB self) (vB x) < rky aT (vB self) (vB id) := by
 have ik := MZ hx hs hi hne
 unfold OA
 by_cases h1 : x = self
 ·rw [decide_eq_true h1, h1, sA]; simp
 rw [decide_eq_false h1]
 by_cases h2 : x = id
 ·rw [decide_eq_true h2, h2]; simp
 rw [decide_eq_false h2]
 show gD x self id = true ↔ _
 rw [ik]
 have hn : rky aT (vB self) (vB x) ≠ rky aT (vB self) (vB id) := fun e => h2 (AB (hx.1.trans hi.1.symm) hx.2 hi.2 (Do (ji hs) (ji hx) (ji hi) e))
 omega
abbrev OkN (n : Nd) : Prop := okT ag n
theorem ET {n : Nd} (h : OkN n) : okT ab n.1 ∧ okT ab n.2.1 ∧ OkM n.2.2.1 ∧ OkM n.2.2.2.1 := ⟨h.1, h.2.1, h.2.2.1.2, h.2.2.2.1.2⟩
theorem P5 {m : Mem} (h : dY m = true) : 0 ≤ (m.1 : Int) ∧ (m.1 : Int) < 16 := by
 unfold dY at h
 by_cases h1 : (0 : Int) ≤ m.1
 ·rw [decide_eq_true h1] at h
  exact ⟨h1, of_decide_eq_true h⟩
 ·rw [decide_eq_false h1] at h; cases h
theorem uz (l : List Nd) (no : Int) : ((bR l no).2 = true ∧ C3 (ai l) no = (bR l no).1 ∧ (bR l no).1.1 = no ∧ ∃ n ∈ l, n.1 = (bR l no).1) ∨ ((bR l no).2 = false ∧ C3 (ai l) no = noM) := by
 unfold bR C3 ai
 rw [List.find?_map]
 cases h : l.find? ((fun m : Mem => decide (m.1 = no)) ∘ sfN) with
 | none =>
  have h' : l.find? (fun n => decide (n.1.1 = no)) = none := h
  rw [h']; exact .inr ⟨rfl, rfl⟩
 | some n =>
  have h' : l.find? (fun n => decide (n.1.1 = no)) = some n := h
  rw [h']
  exact .inl ⟨rfl, rfl, of_decide_eq_true (List.find?_some (p := fun n : Nd => decide (n.1.1 = no)) h'), n, List.mem_of_find?_eq_some h', rfl⟩
theorem LQ {l : List Nd} (h : bo l = true) : ∀ n ∈ l, aZ n = true := fun _ hn => mu h hn
theorem Oe {l : List Nd} (hr : ∀ n ∈ l, aZ n = true) (no : Int) : A1 l no = fN l no := by
 unfold A1
 rcases uz l no with ⟨h1, h2, h3, n, hn, hnm⟩ | ⟨h1, h2⟩
 ·have hno := (P5 ((sE n).1 (hr n hn)).self).1
  rw [hnm, h3] at hno
  rw [h2, decide_eq_true h3, decide_eq_true hno]
  have : fN l no = true := List.any_eq_true.2 ⟨n, hn, decide_eq_true (by rw [hnm]; exact h3)⟩
  rw [this]; rfl
 ·rw [h2]
  have : fN l no = false := List.any_eq_false.2 fun n hn hd => by
   have hno : n.1.1 = no := of_decide_eq_true hd
   unfold bR at h1
   cases hf : l.find? (fun n => decide (n.1.1 = no)) with
   | none => exact absurd hd (List.find?_eq_none.1 hf n hn)
   | some x => rw [hf] at h1; cases h1
  rw [this]
  by_cases hn : noM.1 = no
  ·rw [decide_eq_true hn, ← hn]; rfl
  ·rw [decide_eq_false hn]; rfl
theorem MY {l : List Nd} {no : Int} (h : fN l no = true) : ∃ n, l.find? (fun n => decide (n.1.1 = no)) = some n ∧ Lj l no = n ∧ n ∈ l ∧ n.1.1 = no := by
 cases hf : l.find? (fun n => decide (n.1.1 = no)) with
 | none =>
  obtain ⟨n, hn, hd⟩ := List.any_eq_true.1 h
  exact absurd hd (List.find?_eq_none.1 hf n hn)
 | some n => exact ⟨n, rfl, by unfold Lj; rw [hf]; rfl, List.mem_of_find?_eq_some hf, of_decide_eq_true (List.find?_some (p := fun n : Nd => decide (n.1.1 = no)) hf)⟩
theorem N0 {l : List Nd} {no : Int} (id : List Int) (h : fN l no = true) : aI l no id = (tL l (Lj l no) id, true) := by
 obtain ⟨n, h1, h2, _⟩ := MY h
 rw [F6 id h1, h2]
end Go.Proofs.Ytimdnodkabnbfaa
namespace Go.Proofs.Ytimdnodkabnbfaa
open Go Go.RowKit
def stP (M : List Mem) (m : Mem) : Mem := bif decide (lnx ab M = 1) then noM else (fe M m.1).1
def stS (M : List Mem) (m : Mem) : List Mem := (eQ M m.1 (s4 (cO ((M.length : Int) - 1) 4) 1)).1
def stN (M : List Mem) (n : Nd) : Bool := bif decide (n.2.1 = stP M n.1) then decide (n.2.2.1 = stS M n.1) else false
def gh (l : List Nd) : Bool := bif !bo l then false else l.all (stN (ai l))
noncomputable abbrev mL : bq := ⟨uq, lK, fun x => (gh x.1.1, ()), fun x => List.length x.1.1 ≤ 1000000, false⟩
end Go.Proofs.Ytimdnodkabnbfaa
namespace Go.Proofs.Ytimdnodkabnbfaa
open Go Go.RowKit
noncomputable abbrev fu : Fx := { fn := eV, ann := { loops := [(5, { keep := [3, 16, 17, 18] })] }, share := true }
noncomputable abbrev jE : a8 := { D := { T := bg, F := [(fC, fB), (d8, dZ), (nE, kE), (o6, md), (dG, dH)], R := [], ovl := [] }, inl := [] }
noncomputable abbrev wo : bu := .data lK
theorem Fd (h_chord_Right : ap prog [] fC fB) (h_chord_Members : ap prog [] d8 dZ) (h_ring_Before : ap prog [] nE kE) (h_ring_After : ap prog [] o6 md) (h_slices_Equal_Member : ap prog [] dG dH) : XOk prog jE := xok (an (an (an (an (an (aL aS aE) h_slices_Equal_Member) h_ring_After) h_ring_Before) h_chord_Members) h_chord_Right) (by kernel_rfl) aN aW aV
noncomputable def wW (o : den ah) : af := af.req (List.length (Prod.fst o) ≤ 1000000) (af.all (den Ty.bool) (fun (q1 : den Ty.bool) ↦ q1 = bo (Prod.fst o)) fun (q1 : den Ty.bool) ↦ af.ite (!q1) (af.ret (K.val (Ty.pair Ty.bool Ty.unit) (false, PUnit.unit))) (af.req (List.length (Prod.fst o) ≤ 1000000) (af.all (den (Ty.slc ab)) (fun (q2 : den (Ty.slc ab)) ↦ q2 = ai (Prod.fst o)) fun (q2 : den (Ty.slc ab)) ↦ af.loop [] fu (lp eV 5) [(3, K.val (Ty.slc ab) q2), (16, K.val (Ty.slc ag) (Prod.fst o)), (17, K.val ae (lnx ag (Prod.fst o))), (18, K.val ae 0)] [])))
theorem Bo (o : den ah) : aj jE wo 5000 [] fu (aA eV) (Env.of (aF uq (o, ()) 0) []) = wW o := by kernel_rfl
noncomputable def tK (v3 : den (Ty.slc ab)) (v16 : den (Ty.slc ag)) (v17 : den ae) (v18 : den ae) : Env := Env.of [(3, K.val (Ty.slc ab) v3), (16, K.val (Ty.slc ag) v16), (17, K.val ae v17), (18, K.val ae v18)] []
noncomputable def Bp (v3 : den (Ty.slc ab)) (v16 : den (Ty.slc ag)) (v17 : den ae) (v18 : den ae) : af := af.ite (decide (v18 < v17)) (af.req (inB v18 (lnx ag v16)) (af.req True (af.all (den (Ty.pair ab (Ty.pair ae Ty.unit))) (fun (q4 : den (Ty.pair ab (Ty.pair ae Ty.unit))) ↦ q4 = (Prod.fst (fe v3 (Prod.fst (Prod.fst (el ag v16 v18)))), Prod.snd (fe v3 (Prod.fst (Prod.fst (el ag v16 v18)))), PUnit.unit)) fun (q4 : den (Ty.pair ab (Ty.pair ae Ty.unit))) ↦ af.req True (af.all (den (Ty.pair (Ty.slc ab) (Ty.pair ae Ty.unit))) (fun (q5 : den (Ty.pair (Ty.slc ab) (Ty.pair ae Ty.unit))) ↦ q5 = (Prod.fst (eQ v3 (Prod.fst (Prod.fst (el ag v16 v18))) (s4 (cO (IntKind.wrap IntKind.i64 (lnx ab v3 - 1)) 4) 1)), Prod.snd (eQ v3 (Prod.fst (Prod.fst (el ag v16 v18))) (s4 (cO (IntKind.wrap IntKind.i64 (lnx ab v3 - 1)) 4) 1)), PUnit.unit)) fun (q5 : den (Ty.pair (Ty.slc ab) (Ty.pair ae Ty.unit))) ↦ af.ite (decide (lnx ab v3 = 1)) (af.req (dV [(!eqb ab (Prod.fst (Prod.snd (el ag v16 v18))) (-1, zero (Ty.pair tId Ty.unit)), false)] True) (af.ite (bif !eqb ab (Prod.fst (Prod.snd (el ag v16 v18))) (-1, zero (Ty.pair tId Ty.unit)) then true else !decide (Prod.fst (Prod.snd (Prod.snd (el ag v16 v18))) = Prod.fst q5)) (af.ret (K.val (Ty.pair Ty.bool Ty.unit) (false, PUnit.unit))) (af.loop [] fu (lp eV 5) [(3, K.val (Ty.slc ab) v3), (16, K.val (Ty.slc ag) v16), (17, K.val ae v17), (18, K.val ae (IntKind.wrap IntKind.i64 (v18 + 1)))] []))) (af.req (dV [(!eqb ab (Prod.fst (Prod.snd (el ag v16 v18))) (Prod.fst q4), false)] True) (af.ite (bif !eqb ab (Prod.fst (Prod.snd (el ag v16 v18))) (Prod.fst q4) then true else !decide (Prod.fst (Prod.snd (Prod.snd (el ag v16 v18))) = Prod.fst q5)) (af.ret (K.val (Ty.pair Ty.bool Ty.unit) (false, PUnit.unit))) (af.loop [] fu (lp eV 5) [(3, K.val (Ty.slc ab) v3), (16, K.val (Ty.slc ag) v16), (17, K.val ae v17), (18, K.val ae (IntKind.wrap IntKind.i64 (v18 + 1)))] []))))))) (af.ret (K.val (Ty.pair Ty.bool Ty.unit) (true, PUnit.unit)))
theorem oU (v3 : den (Ty.slc ab)) (v16 : den (Ty.slc ag)) (v17 : den ae) (v18 : den ae) : aj jE wo 5000 [] fu (lp eV 5) (tK v3 v16 v17 v18) = Bp v3 v16 v17 v18 := by kernel_rfl
end Go.Proofs.Ytimdnodkabnbfaa
namespace Go.Proofs.Ytimdnodkabnbfaa
open Go Go.RowKit
theorem Po (l : List Nd) : (ai l).length = l.length := by unfold ai; rw [List.length_map]
abbrev GSt (O : Nat → Prop) (w0 : World) (y : Bool) := bG prog jE (Cx.base O w0) (cG prog O w0 lK fun z => z = (y, ()))
theorem pn : XOk prog jE := Fd rH oR GI IV oa
def MI (O : Nat → Prop) (w0 : World) (M : List Mem) (l : List Nd) (hm : l.length ≤ 1000000) (hM : M.length ≤ 1000000) :=
 PLift.up <| bN (σ := Unit) l.length (fun i _ => ((l.take i).all (stN M)) = true)
  (fun i _ => GSt O w0 (l.all (stN M)) [] fu (lp eV 5) (tK M l (lnx ag l) (i : Nat)))
  (fun i _ hi hs ih => aM pn (oU M l _ _) (by
   have hw : IntKind.wrap .i64 (lnx ab M - 1) = ((M.length : Nat) : Int) - 1 := cP (n := ((M.length : Nat) : Int) - 1) (by omega)
   refine ⟨fun _ => ⟨bf hi, trivial, bn ⟨trivial, bn ?_⟩⟩, fun hc => absurd hi (by rw [cL (e := ag)] at hc; exact of_decide_eq_false hc)⟩
   rw [bS (e := ag) hi, cN hi (Nat.le_trans hm (by decide)), hw]
   have fin : ∀ P : Mem, stP M l[i].1 = P → ∀ c : Bool, (bif !eqb ab l[i].2.1 P then true else !decide (l[i].2.2.1 = (eQ M l[i].1.1 (s4 (cO (((M.length : Nat) : Int) - 1) 4) 1)).1) ) = c → stN M l[i] = !c := fun P hP c hc => by
    rw [kW] at hc
    unfold stN stS
    rw [hP, ← hc]
    cases decide (l[i].2.1 = P) with
    | false => rfl
    | true => simp
   have bad : stN M l[i] = false → l.all (stN M) = false := fun h => List.all_eq_false.2 ⟨l[i], List.getElem_mem hi, by rw [h]; decide⟩
   have good : stN M l[i] = true → (l.take (i + 1)).all (stN M) = true := fun h => by
    rw [List.take_succ_eq_append_getElem hi, List.all_append, hs]
    simp [h]
   refine ⟨fun h1 => ⟨fun _ => trivial, fun h2 => ⟨_, rfl, ?_⟩, fun h2 => ih () ?_⟩, fun h1 => ⟨fun _ => trivial, fun h2 => ⟨_, rfl, ?_⟩, fun h2 => ih () ?_⟩⟩
   ·rw [bad (fin noM (by unfold stP; rw [h1]; rfl) true h2)]
   ·exact good (fin noM (by unfold stP; rw [h1]; rfl) false h2)
   ·rw [bad (fin _ (by unfold stP; rw [h1]; rfl) true h2)]
   ·exact good (fin _ (by unfold stP; rw [h1]; rfl) false h2)))
  (fun _ hs => aM pn (oU M l _ _) ⟨fun hc => absurd (of_decide_eq_true hc) (Int.lt_irrefl _), fun _ => ⟨_, rfl, by
   rw [List.take_length] at hs
   rw [hs]⟩⟩)
theorem Fh : ap prog [] mK mL :=
 bL (S := mL) pn (fx := fu) Em (by kernel_rfl) (fun h => by cases h) (T := fun x => wW x.1) (fun x => Bo x.1) fun O w0 x _ hp => by
  obtain ⟨o, ⟨⟩⟩ := x
  have hp : o.1.length ≤ 1000000 := hp
  have e : ∀ c : Bool, (!bo o.1) = c → gh o.1 = bif c then false else o.1.all (stN (ai o.1)) := fun c h => by unfold gh; rw [h]
  refine ⟨hp, bn ⟨fun h => ⟨_, rfl, ?_⟩, fun h => ⟨hp, bn ?_⟩⟩⟩
  ·show _ = (gh o.1, ())
   rw [e true h]; rfl
  ·show bG _ _ _ (cG prog O w0 lK fun z => z = (gh o.1, ())) _ _ _ _
   rw [e false h]
   exact (MI O w0 (ai o.1) o.1 hp (by rw [Po]; exact hp)).down 0 () (Nat.zero_le _) rfl
theorem Ji {l : List Nd} (h : bo l = true) : bv (ai l) = true := by
 unfold bo at h
 rw [Bool.and_eq_true] at h
 exact h.2
abbrev OkO (l : List Nd) : Prop := ∀ n ∈ l, OkN n
theorem JM {l : List Nd} (h : OkO l) : OkM (ai l) := fun m hm => by
 obtain ⟨n, hn, rfl⟩ := List.mem_map.1 hm
 exact (ET (h n hn)).1
theorem Qa {l : List Nd} (h : OkO l) : OkO (xl l) := fun n hn => by
 obtain ⟨x, hx, rfl⟩ := List.mem_map.1 hn
 have hx := List.mem_of_mem_take hx
 obtain ⟨k1, k2, k3, k4⟩ := ET (h x hx)
 refine ⟨k1, k2, ⟨?_, fun m hm => k3 m (List.mem_of_mem_take hm)⟩, ⟨?_, fun m hm => k4 m (List.mem_of_mem_take hm)⟩, trivial⟩
 ·exact Nat.le_trans (show (x.2.2.1.take 6).length ≤ 6 by rw [List.length_take]; omega) (by decide)
 ·exact Nat.le_trans (show (x.2.2.2.1.take 18).length ≤ 18 by rw [List.length_take]; omega) (by decide)
end Go.Proofs.Ytimdnodkabnbfaa
namespace Go.Proofs.Ytimdnodkabnbfaa
open Go Go.RowKit
theorem EE {α : Type} {p q : α → Bool} (h : ∀ y, p y = true → q y = true) : ∀ {l : List α} {x : α}, x ∈ l → q x = true → p x = false → (l.filter p).length < (l.filter q).length
 | y :: l, x, hx, hq, hp => by
  have sub : (l.filter p).length ≤ (l.filter q).length := by
   have : ∀ l : List α, (l.filter p).length ≤ (l.filter q).length := fun l => by
    induction l with
    | nil => exact Nat.le_refl _
    | cons z l ih =>
     cases hz : p z with
     | true => rw [List.filter_cons_of_pos hz, List.filter_cons_of_pos (h z hz)]; exact Nat.succ_le_succ ih
     | false =>
      rw [List.filter_cons_of_neg (by rw [hz]; decide)]
      exact Nat.le_trans ih (by
       cases hqz : q z with
       | true => rw [List.filter_cons_of_pos hqz]; exact Nat.le_succ _
       | false => rw [List.filter_cons_of_neg (by rw [hqz]; decide)]; exact Nat.le_refl _)
   exact this l
  rcases List.mem_cons.1 hx with rfl | hx
  ·rw [List.filter_cons_of_neg (by rw [hp]; decide), List.filter_cons_of_pos hq]
   exact Nat.lt_succ_of_le sub
  ·have ih := EE h hx hq hp
   cases hz : p y with
   | true => rw [List.filter_cons_of_pos hz, List.filter_cons_of_pos (h y hz)]; exact Nat.succ_lt_succ ih
   | false =>
    rw [List.filter_cons_of_neg (by rw [hz]; decide)]
    refine Nat.lt_of_lt_of_le ih ?_
    cases hqz : q y with
    | true => rw [List.filter_cons_of_pos hqz]; exact Nat.le_succ _
    | false => rw [List.filter_cons_of_neg (by rw [hqz]; decide)]; exact Nat.le_refl _
theorem IT {α : Type} {p : α → Bool} {l : List α} {x : α} (hx : x ∈ l) (hp : p x = false) : (l.filter p).length + 1 ≤ l.length := by
 have := EE (p := p) (q := fun _ => true) (fun _ _ => rfl) hx rfl hp
 rw [show l.filter (fun _ => true) = l from List.filter_eq_self.2 fun _ _ => rfl] at this
 exact this
theorem HL {α : Type} {p : α → Bool} : ∀ {l : List α} {x o : α}, x ∈ l → o ∈ l → x ≠ o → p x = false → p o = false → (l.filter p).length + 2 ≤ l.length
 | y :: l, x, o, hx, ho, hne, hpx, hpo => by
  rcases List.mem_cons.1 hx with rfl | hx'
  ·rcases List.mem_cons.1 ho with e | ho'
   ·exact absurd e.symm hne
   ·rw [List.filter_cons_of_neg (by rw [hpx]; decide)]
    have := IT ho' hpo
    rw [List.length_cons]; omega
  ·rcases List.mem_cons.1 ho with e | ho'
   ·subst e
    rw [List.filter_cons_of_neg (by rw [hpo]; decide)]
    have := IT hx' hpx
    rw [List.length_cons]; omega
   ·have ih := HL hx' ho' hne hpx hpo
    rw [List.length_cons]
    cases hz : p y with
    | true => rw [List.filter_cons_of_pos hz, List.length_cons]; omega
    | false => rw [List.filter_cons_of_neg (by rw [hz]; decide)]; omega
theorem JP {self id : List Int} {l : List Mem} {x : Mem} (hx : x ∈ l) (hb : ku self id x = true) : (cC id self l).2 = 0 ∧ (cC id self l).1 ∈ l ∧ ku self id (cC id self l).1 = true := by
 have hne : x ∈ l.filter (ku self id) := List.mem_filter.2 ⟨hx, hb⟩
 unfold cC
 cases hq : l.filter (ku self id) with
 | nil => rw [hq] at hne; cases hne
 | cons y t =>
  rw [List.foldl_cons]
  have h0 : gJ self (zero ab, 6) y = (y, 0) := rfl
  rw [h0]
  have mem : ∀ z ∈ y :: t, z ∈ l ∧ ku self id z = true := fun z hz => by rw [← hq] at hz; exact List.mem_filter.1 hz
  rcases HR self t (y, 0) with h | ⟨h1, h2⟩
  ·rw [h]; exact ⟨rfl, mem y List.mem_cons_self⟩
  ·exact ⟨h1, mem _ (List.mem_cons_of_mem _ h2)⟩
theorem Nt {l : List Nd} (hr : bo l = true) {n : Nd} (hn : n ∈ l) {c : Mem} (hc : c ∈ cg n) (hl : fN l c.1 = true) : c ∈ ai l := by
 obtain ⟨i, hi, rfl⟩ := List.getElem_of_mem hn
 have hok := qm hr hi
 unfold ij at hok
 rw [bS (e := ag) hi] at hok
 cases hb : xD l (i : Nat) with
 | true => rw [hb] at hok; cases hok
 | false =>
  rw [hb] at hok
  have hk := List.all_eq_true.1 (show ((cg l[i]).all fun m => !gM l m) = true from hok) c hc
  have hk : gM l c = false := by simpa using hk
  unfold gM at hk
  rcases uz l c.1 with ⟨h1, h2, h3, n', hn', hnm⟩ | ⟨h1, h2⟩
  ·rw [h1] at hk
   have hk : (!decide ((bR l c.1).1 = c)) = false := hk
   have hk : (bR l c.1).1 = c := by simpa using hk
   rw [← hk, ← hnm]
   exact List.mem_map.2 ⟨n', hn', rfl⟩
  ·have h3 : A1 l c.1 = true := by rw [Oe (LQ hr)]; exact hl
   unfold A1 at h3
   rw [h2] at h3
   by_cases hn0 : noM.1 = c.1
   ·rw [← hn0] at h3
    have : (bif decide (noM.1 = noM.1) then decide ((0 : Int) ≤ noM.1) else false) = false := by decide
    rw [this] at h3; cases h3
   ·rw [decide_eq_false hn0] at h3; cases h3
theorem yb {l : List Nd} {m : Mem} (h : m ∈ ai l) : fN l m.1 = true := by
 obtain ⟨n, hn, rfl⟩ := List.mem_map.1 h
 exact HU hn
theorem HO {l : List Nd} {self : Int} {n : Nd} {m : Mem} (h : fN l m.1 = true) : bF self (jw l n) m = false := by
 unfold bF
 have : ((jw l n).any fun x => decide (x = m.1)) = false := List.any_eq_false.2 fun x hx hd => by
  obtain ⟨y, hy, rfl⟩ := List.mem_map.1 hx
  obtain ⟨_, hy2⟩ := List.mem_filter.1 hy
  rw [of_decide_eq_true hd, h] at hy2
  cases hy2
 rw [this]
 cases decide (m.1 = self) <;> rfl
theorem NC {l : List Nd} {self : Int} {n : Nd} {s : List Mem} (h : ∀ m ∈ s, fN l m.1 = true) : (s.filter fun m => !bF self (jw l n) m) = s :=
 List.filter_eq_self.2 fun m hm => by rw [HO (h m hm)]; rfl
theorem xU (l : List Mem) (m : Mem) : ∀ n, (k6 l m (n + 1)).1 = bX l m :: (k6 l (bX l m) n).1 ∧ (k6 l m (n + 1)).2 = (k6 l (bX l m) n).2
 | 0 => ⟨rfl, rfl⟩
 | n + 1 => by
  obtain ⟨h1, h2⟩ := xU l m n
  have e : k6 l m (n + 1 + 1) = ((k6 l m (n + 1)).1 ++ [bX l (k6 l m (n + 1)).2], bX l (k6 l m (n + 1)).2) := rfl
  rw [e, h1, h2]
  exact ⟨rfl, rfl⟩
theorem KA {l : List Mem} (hr : bv l = true) (hk : OkM l) : ∀ (n : Nat) {m : Mem}, m ∈ l → ∀ x ∈ (k6 l m n).1, x ∈ l
 | 0, _, _, x, hx => by cases hx
 | n + 1, m, hm, x, hx => by
  rw [(xU l m n).1] at hx
  rcases List.mem_cons.1 hx with rfl | hx
  ·exact nQ hr hk hm
  ·exact KA hr hk n (nQ hr hk hm) x hx
structure Stb (l : List Nd) : Prop where
 right : bo l = true
 ok : OkO l
 st : ∀ n ∈ l, n.2.1 = stP (ai l) n.1 ∧ n.2.2.1 = stS (ai l) n.1
theorem PT {l : List Nd} (h : gh l = true) (hk : OkO l) : Stb l := by
 unfold gh at h
 cases hr : bo l with
 | false => rw [hr] at h; cases h
 | true =>
  rw [hr] at h
  refine ⟨hr, hk, fun n hn => ?_⟩
  have := List.all_eq_true.1 (show l.all (stN (ai l)) = true from h) n hn
  unfold stN at this
  by_cases h1 : n.2.1 = stP (ai l) n.1
  ·rw [decide_eq_true h1] at this
   exact ⟨h1, of_decide_eq_true this⟩
  ·rw [decide_eq_false h1] at this; cases this
section
variable {l : List Nd}
theorem Stb.ring (h : Stb l) : bv (ai l) = true := Ji h.right
theorem Stb.okm (h : Stb l) : OkM (ai l) := JM h.ok
theorem Stb.small (h : Stb l) : (ai l).length ≤ 16 := (fJ h.ring).len
theorem Stb.succs (h : Stb l) {n : Nd} (hn : n ∈ l) : ∃ c : Nat, n.2.2.1 = bX (ai l) n.1 :: (k6 (ai l) (bX (ai l) n.1) c).1 := by
 have hm : n.1 ∈ ai l := List.mem_map.2 ⟨n, hn, rfl⟩
 have hs := h.small
 obtain ⟨c, hc, hc16⟩ : ∃ c : Nat, s4 (cO (((ai l).length : Int) - 1) 4) 1 = ((c + 1 : Nat) : Int) ∧ c + 1 ≤ 16 := by
  refine ⟨(s4 (cO (((ai l).length : Int) - 1) 4) 1 - 1).toNat, ?_, ?_⟩ <;> unfold s4 cO <;> split <;> split <;> omega
 refine ⟨c, ?_⟩
 rw [(h.st n hn).2]
 unfold stS
 rw [hc, K3 h.ring hm hc16, ← (xU (ai l) n.1 c).1, ML h.ring h.okm hm]
theorem Stb.succ_in (h : Stb l) {n : Nd} (hn : n ∈ l) : ∀ m ∈ n.2.2.1, m ∈ ai l := fun m hm => by
 have hm0 : n.1 ∈ ai l := List.mem_map.2 ⟨n, hn, rfl⟩
 obtain ⟨c, hc⟩ := h.succs hn
 rw [hc] at hm
 rcases List.mem_cons.1 hm with rfl | hm
 ·exact nQ h.ring h.okm hm0
 ·exact KA h.ring h.okm c (nQ h.ring h.okm hm0) m hm
theorem Stb.drop (h : Stb l) {n : Nd} (hn : n ∈ l) : ∃ F : List Mem, oK l n = (n.1, n.2.1, n.2.2.1, F, ()) ∧ (∀ m ∈ F, m ∈ ai l) ∧ NOk (oK l n) := by
  have hr := mu h.right hn
  have hok := (sE n).1 hr
  have ha := Pu (l := l) hr
  have hd := OW hok (jw l n)
  refine ⟨n.2.2.2.1.filter fun m => !bF n.1.1 (jw l n) m, ?_, fun m hm => ?_, by rw [ha]; exact hd⟩
  · rw [ha]
    unfold nN
    have e1 : (n.2.2.1.filter fun m => !bF n.1.1 (jw l n) m) = n.2.2.1 := NC fun m hm => yb (h.succ_in hn m hm)
    have e2 : u5 n n.2.2.1 = n.2.2.1 := by
      obtain ⟨c, hc⟩ := h.succs hn
      rw [hc, C4]
    have e3 : (bif (bif !decide (n.2.1 = noM) then bF n.1.1 (jw l n) n.2.1 else false) then noM else n.2.1) = n.2.1 := by
      by_cases hp : n.2.1 = noM
      · rw [decide_eq_true hp]; rfl
      · have hlv : fN l n.2.1.1 = true := by
          rw [(h.st n hn).1] at hp ⊢
          unfold stP at hp ⊢
          by_cases h1 : lnx ab (ai l) = 1
          · rw [decide_eq_true h1] at hp; exact absurd rfl hp
          · rw [decide_eq_false h1]
            obtain ⟨b, hb1, hb2, _⟩ := F5 h.ring h.okm (show n.1 ∈ ai l from List.mem_map.2 ⟨n, hn, rfl⟩)
            show fN l (fe (ai l) n.1.1).1.1 = true
            rw [hb1]; exact yb hb2
        rw [HO hlv]
        cases (!decide (n.2.1 = noM)) <;> rfl
    rw [e1, e2, e3]
  · have hm' := Me hn (show m ∈ (nN n (jw l n)).2.2.2.1 from hm)
    exact Nt h.right hn (List.mem_append_right _ (List.mem_filter.1 hm).1) hm'
abbrev rp (id : List Int) (m : Mem) : Int := rky aT (ce m) (vB id)
theorem FJ (h : Stb l) {m : Mem} (hm : m ∈ ai l) (hk : (ai l).length ≠ 1) : bX (ai l) m ≠ m := fun e => by
 have hn := sv h.ring h.okm hm
 rw [e] at hn
 have hrng := (fJ h.ring).rng h.okm
 have h0 : 0 < (ai l).length := List.length_pos_of_mem hm
 obtain ⟨y, hy, hne⟩ : ∃ y ∈ ai l, y ≠ m := by
  refine Classical.byContradiction fun hno => hk ?_
  have hall : ∀ y ∈ ai l, y = m := fun y hy => Classical.byContradiction fun hne => hno ⟨y, hy, hne⟩
  have hnd := (fJ h.ring).nodup
  match hq : ai l, h0 with
  | [z], _ => rfl
  | z :: w :: t, _ =>
   exfalso
   rw [hq] at hall hnd
   have e1 := hall z List.mem_cons_self
   have e2 := hall w (List.mem_cons_of_mem _ List.mem_cons_self)
   rw [e1, e2] at hnd
   exact (List.nodup_cons.1 hnd).1 List.mem_cons_self
 have hle := hn.2 y hy
 have rm := hrng.in' m hm
 have ry := hrng.in' y hy
 rw [xG rm rm, xG rm ry, if_pos rfl] at hle
 have hpne : ¬ ce y = ce m := fun e => hne (hrng.inj y hy m hm e)
 rw [if_neg hpne] at hle
 have := (jg rm ry).2
 omega
theorem Stb.asks (h : Stb l) {n : Nd} (hn : n ∈ l) {id : List Int} (hid : f9 id) {o : Mem} (ho : fG ce aT (vB id) (ai l) o) :
    (n.1 = o ∧ tL l n id = (o, true, ())) ∨ (n.1 ≠ o ∧ tL l n id = (o, true, ())) ∨ (n.1 ≠ o ∧ ∃ c ∈ ai l, tL l n id = (c, false, ()) ∧ c ≠ o ∧ c ≠ n.1 ∧ rp id c < rp id n.1) := by
  obtain ⟨F, hF, hFin, hNok⟩ := h.drop hn
  have hm : n.1 ∈ ai l := List.mem_map.2 ⟨n, hn, rfl⟩
  obtain ⟨cc, hcs⟩ := h.succs hn
  have hrD := (sE _).2 hNok
  have hf0 : el ab n.2.2.1 0 = bX (ai l) n.1 := by rw [hcs]; rfl
  have hrng := (fJ h.ring).rng h.okm
  unfold tL
  by_cases hk : (ai l).length = 1
  · left
    have hl1 : lnx ab (ai l) = 1 := by
      show (((ai l).length : Nat) : Int) = 1
      rw [hk]; rfl
    have hall : ∀ x ∈ ai l, x = n.1 := fun x hx => by
      match hq : ai l, hk with
      | [z], _ =>
        rw [hq] at hx hm
        rw [List.mem_singleton.1 hx, List.mem_singleton.1 hm]
    have hon : o = n.1 := hall o ho.1
    have hno : mC (oK l n) id = false := by
      unfold mC
      rw [hrD, hF, (h.st n hn).1]
      unfold stP
      rw [decide_eq_true hl1]
      rfl
    have hnx : c7 (oK l n) id = (n.1, true, 0) := by
      unfold c7
      rw [hrD, hF]
      have e1 : bX (ai l) n.1 = n.1 := hall _ (nQ h.ring h.okm hm)
      show (bif gD id n.1.2.1 (el ab n.2.2.1 0).2.1 then (el ab n.2.2.1 0, true, (0 : Int)) else _) = _
      rw [hf0, e1]
      have : gD id n.1.2.1 n.1.2.1 = true := by unfold gD; rw [if_pos rfl]
      rw [this]; rfl
    rw [hno, hnx, hon]
    exact ⟨rfl, rfl⟩
  · have hl1 : ¬ lnx ab (ai l) = 1 := fun e => hk (by
      have e : (((ai l).length : Nat) : Int) = 1 := e
      omega)
    obtain ⟨b, hb1, hb2, hb3⟩ := F5 h.ring h.okm hm
    have hp : n.2.1 = b := by
      rw [(h.st n hn).1]
      unfold stP
      rw [decide_eq_false hl1, hb1]; rfl
    have hpn : n.2.1 ≠ noM := fun e => by
      have := ((fJ h.ring).no b hb2).1
      rw [← hp, e] at this
      exact absurd this (by decide)
    have hown : mC (oK l n) id = decide (n.1 = o) := by
      unfold mC
      rw [hrD, hF]
      show (bif (bif true then !decide (n.2.1 = noM) else false) then gD id n.2.1.2.1 n.1.2.1 else false) = _
      rw [decide_eq_false hpn, hp]
      exact IN h.ring h.okm hid ho hb2 hm hb3
    by_cases hno : n.1 = o
    · left
      rw [hown, decide_eq_true hno, hF]
      exact ⟨hno, by rw [← hno]; rfl⟩
    · right
      rw [hown, decide_eq_false hno]
      have hfin := IN h.ring h.okm hid ho hm (nQ h.ring h.okm hm) rfl
      by_cases hfo : bX (ai l) n.1 = o
      · left
        refine ⟨hno, ?_⟩
        have hnx : c7 (oK l n) id = (o, true, 0) := by
          unfold c7
          rw [hrD, hF]
          show (bif gD id n.1.2.1 (el ab n.2.2.1 0).2.1 then (el ab n.2.2.1 0, true, (0 : Int)) else _) = _
          rw [hf0, hfin, decide_eq_true hfo, hfo]; rfl
        rw [hnx]; rfl
      · right
        refine ⟨hno, ?_⟩
        have hfin0 : gD id n.1.2.1 (bX (ai l) n.1).2.1 = false := by rw [hfin, decide_eq_false hfo]
        have hfm := nQ h.ring h.okm hm
        have hx := ff (h.okm _ hm)
        have hf := ff (h.okm _ hfm)
        have hnf : n.1.2.1 ≠ (bX (ai l) n.1).2.1 := fun e => FJ h hm hk ((fJ h.ring).inj hfm hm (.inr e.symm))
        have rx := ji hx
        have rf := ji hf
        have ri := ji hid
        have hik : ¬ (0 < rky aT (ce n.1) (vB id) ∧ rky aT (ce n.1) (vB id) ≤ rky aT (ce n.1) (ce (bX (ai l) n.1))) := fun hh => by
          rw [(MZ hid hx hf hnf).2 hh] at hfin0
          cases hfin0
        have hidx : vB id ≠ ce n.1 := fun e => hno (by
          have hz : rky aT (vB id) (ce n.1) = 0 := by rw [← e, sA]
          have hmo := ho.2 n.1 hm
          rw [hz] at hmo
          have ro := hrng.in' o ho.1
          have := (jg ri ro).1
          have e0 : rky aT (vB id) (ce o) = 0 := by omega
          exact hrng.inj _ hm _ ho.1 (by rw [sy ri ro e0, e]))
        have hk0 : 0 < rky aT (ce n.1) (vB id) := by
          have h1 : 0 ≤ rky aT (ce n.1) (vB id) ∧ rky aT (ce n.1) (vB id) < aT := jg rx ri
          have : rky aT (ce n.1) (vB id) ≠ 0 := fun e => hidx (sy rx ri e)
          omega
        have hkf0 : 0 < rky aT (ce n.1) (ce (bX (ai l) n.1)) := by
          have h1 : 0 ≤ rky aT (ce n.1) (ce (bX (ai l) n.1)) ∧ rky aT (ce n.1) (ce (bX (ai l) n.1)) < aT := jg rx rf
          have : rky aT (ce n.1) (ce (bX (ai l) n.1)) ≠ 0 := fun e => FJ h hm hk (hrng.inj _ hfm _ hm (sy rx rf e))
          omega
        have hne : n.1.2.1 ≠ id := fun e => hidx (by rw [← e])
        have hbf : ku n.1.2.1 id (bX (ai l) n.1) = true := (FY hx hid hf hne).2 ⟨hkf0, by
          have : rky aT (ce n.1) (ce (bX (ai l) n.1)) < rky aT (ce n.1) (vB id) := by omega
          exact this⟩
        have hfl : bX (ai l) n.1 ∈ F ++ n.2.2.1 := List.mem_append_right _ (by rw [hcs]; exact List.mem_cons_self)
        obtain ⟨c1, c2, c3⟩ := JP hfl hbf
        have hcm : (cC id n.1.2.1 (F ++ n.2.2.1)).1 ∈ ai l := (List.mem_append.1 c2).elim (hFin _) (h.succ_in hn _)
        refine ⟨(cC id n.1.2.1 (F ++ n.2.2.1)).1, hcm, ?_, ?_, ?_, ?_⟩
        · have hnx : c7 (oK l n) id = ((cC id n.1.2.1 (F ++ n.2.2.1)).1, false, 0) := by
            unfold c7
            rw [hrD, hF]
            show (bif gD id n.1.2.1 (el ab n.2.2.1 0).2.1 then (el ab n.2.2.1 0, true, (0 : Int)) else bif !decide ((cC id n.1.2.1 (F ++ n.2.2.1)).2 = 0) then _ else ((cC id n.1.2.1 (F ++ n.2.2.1)).1, false, (0 : Int))) = _
            rw [hf0, hfin0, c1]; rfl
          rw [hnx]; rfl
        all_goals
          generalize (cC id n.1.2.1 (F ++ n.2.2.1)).1 = c at c3 hcm ⊢
          have hc := ff (h.okm _ hcm)
          have rc := ji hc
          obtain ⟨k1, k2⟩ := (FY hx hid hc hne).1 c3
          have k1 : 0 < rky aT (ce n.1) (ce c) := k1
          have k2 : rky aT (ce n.1) (ce c) < rky aT (ce n.1) (vB id) := k2
          have rx' : 0 ≤ ce n.1 ∧ ce n.1 < aT := rx
          have rc' : 0 ≤ ce c ∧ ce c < aT := rc
        · intro e
          have hmo := ho.2 n.1 hm
          rw [← e] at hmo
          generalize hW : aT = W at *
          unfold rky at *
          clear hW
          split at hmo <;> split at hmo <;> split at k1 <;> split at k2 <;> omega
        · intro e
          rw [e, sA] at k1
          exact absurd k1 (Int.lt_irrefl _)
        · show rky aT (ce c) (vB id) < rky aT (ce n.1) (vB id)
          rw [CJ rx' rc' ri, if_pos (Int.le_of_lt k2)]
          omega
end
end Go.Proofs.Ytimdnodkabnbfaa
namespace Go.Proofs.Ytimdnodkabnbfaa
open Go Go.RowKit
def rkc (id : List Int) (o : Mem) (l : List Mem) (x : Mem) : Nat := (l.filter fun y => decide (rp id y < rp id x) && !decide (y = o)).length
theorem PZ {id : List Int} {o : Mem} {l : List Mem} {c x : Mem} (hc : c ∈ l) (hco : c ≠ o) (h : rp id c < rp id x) : rkc id o l c < rkc id o l x := by
 refine EE (fun y hy => ?_) hc ?_ ?_
 ·obtain ⟨h1, h2⟩ := (Bool.and_eq_true _ _).mp hy
  rw [h2, decide_eq_true (Int.lt_trans (of_decide_eq_true h1) h)]; rfl
 ·rw [decide_eq_true h, decide_eq_false hco]; rfl
 ·rw [decide_eq_false (Int.lt_irrefl _)]; rfl
theorem KB {id : List Int} {o : Mem} {l : List Mem} {x : Mem} (hx : x ∈ l) (ho : o ∈ l) (h : x ≠ o) : rkc id o l x + 2 ≤ l.length := by
 refine HL hx ho h ?_ ?_
 ·rw [decide_eq_false (Int.lt_irrefl _)]; rfl
 ·rw [decide_eq_true (show o = o from rfl)]
  cases decide (rp id o < rp id x) <;> rfl
structure Trk (l : List Mem) (id : List Int) (o x : Mem) (s : List Mem) : Prop where
 head : ∃ t, s = x :: t
 last : s.getLast? = some o
 mem : ∀ y ∈ s, y ∈ l
 dec : ∀ i (h : i + 2 < s.length), rp id (s[i + 1]'(by omega)) < rp id (s[i]'(by omega))
 len : s.length ≤ l.length
theorem EL {l : List Nd} (h : Stb l) {id : List Int} (hid : f9 id) {o : Mem} (ho : fG ce aT (vB id) (ai l) o) : ∀ (n : Nat) (path : List Int) {x : Mem}, x ∈ ai l → (x = o → 1 ≤ n) → (x ≠ o → rkc id o (ai l) x + 1 ≤ n) →
    ∃ t, dD l id n path x.1 = (path ++ (x :: t).map (·.1), o, 0) ∧ (x :: t).getLast? = some o ∧ (∀ y ∈ x :: t, y ∈ ai l) ∧ (∀ i (h : i + 2 < (x :: t).length), rp id ((x :: t)[i + 1]'(by omega)) < rp id ((x :: t)[i]'(by omega))) ∧ (x = o → t = []) ∧ (x ≠ o → t.length ≤ rkc id o (ai l) x + 1)
  | 0, path, x, hx, h1, h2 => by
    by_cases e : x = o
    · exact absurd (h1 e) (by decide)
    · exact absurd (h2 e) (Nat.not_succ_le_zero _)
  | n + 1, path, x, hx, h1, h2 => by
    obtain ⟨nd, g1, g2, g3, g4⟩ := MY (yb hx)
    have hnx : nd.1 = x := (fJ h.ring).inj (List.mem_map.2 ⟨nd, g3, rfl⟩) hx (.inl g4)
    have ha : aI l x.1 id = (tL l nd id, true) := by rw [N0 id (yb hx), g2]
    rw [CA, ha]
    rcases h.asks g3 hid ho with ⟨e1, e2⟩ | ⟨e1, e2⟩ | ⟨e1, c, hc, e2, e3, e4, e5⟩ <;> rw [e2]
    · have hxo : x = o := hnx.symm.trans e1
      subst hxo
      refine ⟨[], ?_, rfl, fun y hy => by rw [List.mem_singleton.1 hy]; exact hx, fun i hi => absurd hi (by rw [List.length_singleton]; omega), fun _ => rfl, fun hh => absurd rfl hh⟩
      show (bif decide (x.1 = x.1) then (path ++ [x.1], x, (0 : Int)) else _) = _
      rw [decide_eq_true rfl]; rfl
    · have hxo : x ≠ o := fun e => e1 (hnx.trans e)
      have hne : ¬ o.1 = x.1 := fun e => hxo ((fJ h.ring).inj ho.1 hx (.inl e)).symm
      refine ⟨[o], ?_, rfl, fun y hy => ?_, fun i hi => absurd hi (by rw [List.length_cons, List.length_singleton]; omega), fun hh => absurd hh hxo, fun _ => by rw [List.length_singleton]; omega⟩
      · show (bif decide (o.1 = x.1) then _ else (path ++ [x.1] ++ [o.1], o, (0 : Int))) = _
        rw [decide_eq_false hne, List.append_assoc]; rfl
      · rcases List.mem_cons.1 hy with rfl | hy
        · exact hx
        · rw [List.mem_singleton.1 hy]; exact ho.1
    · rw [hnx] at e1 e4 e5
      have hne : ¬ c.1 = x.1 := fun e => e4 ((fJ h.ring).inj hc hx (.inl e))
      have hlt := PZ (l := ai l) (o := o) hc e3 e5
      obtain ⟨t, w1, w2, w3, w4, w5, w6⟩ := EL h hid ho n (path ++ [x.1]) hc (fun e => absurd e e3) (fun _ => by have := h2 e1; omega)
      refine ⟨c :: t, ?_, ?_, fun y hy => ?_, fun i hi => ?_, fun hh => absurd hh e1, fun _ => by have := w6 e3; rw [List.length_cons]; omega⟩
      · show (bif decide (c.1 = x.1) then _ else dD l id n (path ++ [x.1]) c.1) = _
        rw [decide_eq_false hne]
        show dD l id n (path ++ [x.1]) c.1 = _
        rw [w1, List.append_assoc]; rfl
      · rw [List.getLast?_cons_cons]; exact w2
      · rcases List.mem_cons.1 hy with rfl | hy
        · exact hx
        · exact w3 y hy
      · cases i with
        | zero => exact e5
        | succ i => exact w4 i (by rw [List.length_cons] at hi; omega)
theorem Ll {l : List Nd} (h : Stb l) {id : List Int} (hid : f9 id) {o : Mem} (ho : fG ce aT (vB id) (ai l) o) {n : Nd} (hn : n ∈ l) :
    ∃ s, cp l n.1.1 id 16 = (s.map (·.1), o, 0) ∧ Trk (ai l) id o n.1 s := by
  have hx : n.1 ∈ ai l := List.mem_map.2 ⟨n, hn, rfl⟩
  have hs := h.small
  obtain ⟨t, w1, w2, w3, w4, w5, w6⟩ := EL h hid ho 17 [] hx (fun _ => by decide) (fun e => by have := KB (id := id) hx ho.1 e; omega)
  refine ⟨n.1 :: t, ?_, ⟨t, rfl⟩, w2, w3, w4, ?_⟩
  · rw [show (16 : Int) = ((16 : Nat) : Int) from rfl, Hj h.right n.1.1 id (h := 16) (by decide)]
    exact w1
  · rw [List.length_cons]
    by_cases e : n.1 = o
    · rw [w5 e]; exact List.length_pos_of_mem hx
    · have := KB (id := id) hx ho.1 e
      have := w6 e
      omega
end Go.Proofs.Ytimdnodkabnbfaa
namespace Go.Proofs.Ytimdnodkabnbfaa
open Go Go.RowKit
@[reducible] def lf : d6 := ⟨ag, false, .pair (.slc ag) .unit, true, fun _ y => y.1.length ≤ bV, fun _ y => y.1⟩
noncomputable abbrev oX : bq := ⟨rO, yu, fun x => (fg (sfN x.1).1 x.2.1, ()), fun _ => True, true⟩
def Fl (c : Nat → Int) : Nat → Nat → Nat → Nat
 | 0, i, _ => i
 | k + 1, i, j => if i < j then (if c ((i + j) / 2) < 0 then Fl c k ((i + j) / 2 + 1) j else Fl c k i ((i + j) / 2)) else i
def atC (l : List Nd) (no : Int) (k : Nat) : Int := fg (sfN (el ag l (k : Nat))).1 no
def atI (l : List Nd) (no : Int) : Nat := Fl (atC l no) l.length 0 l.length
def p0 (l : List Nd) (no : Int) : Int × Bool := ((atI l no : Nat), bif decide (((atI l no : Nat) : Int) < lnx ag l) then decide (atC l no (atI l no) = 0) else false)
noncomputable abbrev sb : bq := ⟨BH, vJ, fun x => ((p0 x.1.1 x.2.1).1, (p0 x.1.1 x.2.1).2, ()), fun x => List.length x.1.1 ≤ 1000000, false⟩
def bE (l : List Nd) (no : Int) : Int × Int := bif !bo l then (0, 1) else bif !(p0 l no).2 then (0, 10) else ((p0 l no).1, 0)
noncomputable abbrev nF : bq := ⟨wh, wL, fun x => ((bE x.1.1 x.2.1).1, (bE x.1.1 x.2.1).2, ()), fun x => List.length x.1.1 ≤ 1000000, false⟩
def cY (l : List Nd) (no to : Int) : List Nd × Int :=
 bif !decide ((bE l no).2 = 0) then ([], (bE l no).2) else bif !(bR l to).2 then ([], 10) else
 bif !decide ((bW (el ag l (bE l no).1) (bR l to).1).2 = 0) then ([], (bW (el ag l (bE l no).1) (bR l to).1).2) else
 (l.set (bE l no).1.toNat (bW (el ag l (bE l no).1) (bR l to).1).1, 0)
noncomputable abbrev nC : bq := ⟨xi, wI, fun x => (((cY x.1.1 x.2.1 x.2.2.1).1, ()), (cY x.1.1 x.2.1 x.2.2.1).2, ()), fun x => List.length x.1.1 ≤ 1000000, false⟩
end Go.Proofs.Ytimdnodkabnbfaa
namespace Go.Proofs.Ytimdnodkabnbfaa
open Go Go.RowKit
noncomputable abbrev oh : Fx := { fn := kp, ann := { } }
noncomputable abbrev pd : a8 := { D := { T := bg, F := [], R := [], ovl := [] }, inl := [] }
noncomputable abbrev xw : bu := .clp
theorem ya : XOk prog pd := xok ((aL aS aE)) (by kernel_rfl) aN aW aV
noncomputable def o8 (s : den (Ty.slc ab)) : af := af.req (AW 0 0) (af.req (AW (lnx ab s) (lnx ab s)) (af.req (bQ 0 (lnx ab s) (lnx ab s)) (af.ret (K.clip ab (dS ab s 0 (lnx ab s))))))
theorem ub (s : den (Ty.slc ab)) : aj pd xw 5000 [] oh (aA kp) (Env.of (aF ww (s, ()) 0) []) = o8 s := by kernel_rfl
noncomputable abbrev oM : Fx := { fn := k8, ann := { }, own := [5] }
noncomputable abbrev pu : a8 := { D := { T := bg, F := [], R := [], ovl := [] }, inl := [] }
noncomputable abbrev y4 : bu := .row (ag)
theorem y6 : XOk prog pu := xok ((aL aS aE)) (by kernel_rfl) aN aW aV
noncomputable def pz (s : den (Ty.slc ag)) : af := af.all Bool (fun (c : Bool) ↦ c = true → s = []) fun (q1 : Bool) ↦ af.ite q1 (af.ret (K.val (Ty.slc ag) [])) (af.req (List.length (List.replicate 0 (zero ag) ++ s) ≤ bV) (af.req (vok 0 (List.length (List.replicate 0 (zero ag) ++ s)) (List.length (List.replicate 0 (zero ag) ++ s))) (af.ret (K.val (Ty.slc ag) (nv ag (List.replicate 0 (zero ag) ++ s) 0 (List.length (List.replicate 0 (zero ag) ++ s)))))))
theorem vR (s : den (Ty.slc ag)) : aj pu y4 5000 [] oM (aA k8) (Env.of (aF (Ty.pair (Ty.slc ag) Ty.unit) (s, ()) 0) []) = pz s := by kernel_rfl
noncomputable abbrev yJ : Fx := { fn := tF, ann := { } }
noncomputable abbrev AP : a8 := { D := { T := bg, F := [(jt, m3)], R := [], ovl := [] }, inl := [] }
noncomputable abbrev Ib : bu := .data yu
theorem IP (h_cmp_Compare_int : ap prog [] jt m3) : XOk prog AP := xok (an (aL aS aE) h_cmp_Compare_int) (by kernel_rfl) aN aW aV
noncomputable def AA (n : den ag) (no : den ae) : af := af.req True (af.ret (K.val (Ty.pair ae Ty.unit) (fg (Prod.fst (Prod.fst n)) no, PUnit.unit)))
theorem Ef (n : den ag) (no : den ae) : aj AP Ib 5000 [] yJ (aA tF) (Env.of (aF rO (n, no, ()) 0) []) = AA n no := by kernel_rfl
noncomputable abbrev bM : Fx := { fn := bC, ann := { loops := [(3, { keep := [0, 1, 2, 8, 9, 10] })] }, share := true }
noncomputable abbrev kR : Fx := { fn := j3, ann := { }, share := true }
noncomputable abbrev r7 : a8 := { D := { T := bg, F := [(oE, oX)], R := [], ovl := [] }, inl := [(gH, bM)] }
noncomputable abbrev DD : bu := .data vJ
theorem xL (h_chord_at_1 : ap prog [] oE oX) : XOk prog r7 := xok (an (aL aS aE) h_chord_at_1) (by kernel_rfl) aN (gX my (by kernel_rfl) aW) aV
noncomputable def C5 (o : den ah) (no : den ae) : af := af.loop [{ fx := kR, todo := bw j3 1 3, dst := some 9, s := ofS [] }] bM (lp bC 3) [(0, K.val (Ty.slc ag) (Prod.fst o)), (1, K.val ae no), (2, K.val (Ty.fn (Ty.pair ag (Ty.pair ae Ty.unit)) (Ty.pair ae Ty.unit)) (some fun (x : den rO) ↦ (fg (Prod.fst (Prod.fst (Prod.fst x))) (Prod.fst (Prod.snd x)), PUnit.unit))), (8, K.val ae (lnx ag (Prod.fst o))), (9, K.val ae 0), (10, K.val ae (lnx ag (Prod.fst o)))] []
theorem GS (o : den ah) (no : den ae) : aj r7 DD 5000 [] kR (aA j3) (Env.of (aF BH (o, no, ()) 0) []) = C5 o no := by kernel_rfl
noncomputable def ef (v0 : den (Ty.slc ag)) (v1 : den ae) (v2 : den (Ty.fn (Ty.pair ag (Ty.pair ae Ty.unit)) (Ty.pair ae Ty.unit))) (v8 : den ae) (v9 : den ae) (v10 : den ae) : List cr := [{ fx := kR, todo := bw j3 1 3, dst := some 9, s := ofS [] }]
noncomputable def d9 (v0 : den (Ty.slc ag)) (v1 : den ae) (v2 : den (Ty.fn (Ty.pair ag (Ty.pair ae Ty.unit)) (Ty.pair ae Ty.unit))) (v8 : den ae) (v9 : den ae) (v10 : den ae) : Env := Env.of [(0, K.val (Ty.slc ag) v0), (1, K.val ae v1), (2, K.val (Ty.fn (Ty.pair ag (Ty.pair ae Ty.unit)) (Ty.pair ae Ty.unit)) v2), (8, K.val ae v8), (9, K.val ae v9), (10, K.val ae v10)] []
noncomputable def iC (v0 : den (Ty.slc ag)) (v1 : den ae) (v2 : den (Ty.fn (Ty.pair ag (Ty.pair ae Ty.unit)) (Ty.pair ae Ty.unit))) (v8 : den ae) (v9 : den ae) (v10 : den ae) : af := af.ite (decide (v9 < v10)) (af.req (ge0 1) (af.req (inB (IntKind.wrap IntKind.i64 (Int.fdiv (IntKind.wrap IntKind.u64 (IntKind.wrap IntKind.i64 (v9 + v10))) (2 ^ min (Int.toNat 1) (IntKind.bits IntKind.u64)))) (lnx ag v0)) (af.req (lE (Ty.pair ag (Ty.pair ae Ty.unit)) (Ty.pair ae Ty.unit) v2) (af.all (den ae) (fun (q6 : den ae) ↦ q6 = Prod.fst (pc (Ty.pair ag (Ty.pair ae Ty.unit)) (Ty.pair ae Ty.unit) v2 (el ag v0 (IntKind.wrap IntKind.i64 (Int.fdiv (IntKind.wrap IntKind.u64 (IntKind.wrap IntKind.i64 (v9 + v10))) (2 ^ min (Int.toNat 1) (IntKind.bits IntKind.u64)))), v1, PUnit.unit))) fun (q6 : den ae) ↦ af.ite (decide (q6 < 0)) (af.loop [{ fx := kR, todo := bw j3 1 3, dst := some 9, s := ofS [] }] bM (lp bC 3) [(0, K.val (Ty.slc ag) v0), (1, K.val ae v1), (2, K.val (Ty.fn (Ty.pair ag (Ty.pair ae Ty.unit)) (Ty.pair ae Ty.unit)) v2), (8, K.val ae v8), (9, K.val ae (IntKind.wrap IntKind.i64 (IntKind.wrap IntKind.i64 (Int.fdiv (IntKind.wrap IntKind.u64 (IntKind.wrap IntKind.i64 (v9 + v10))) (2 ^ min (Int.toNat 1) (IntKind.bits IntKind.u64))) + 1))), (10, K.val ae v10)] []) (af.loop [{ fx := kR, todo := bw j3 1 3, dst := some 9, s := ofS [] }] bM (lp bC 3) [(0, K.val (Ty.slc ag) v0), (1, K.val ae v1), (2, K.val (Ty.fn (Ty.pair ag (Ty.pair ae Ty.unit)) (Ty.pair ae Ty.unit)) v2), (8, K.val ae v8), (9, K.val ae v9), (10, K.val ae (IntKind.wrap IntKind.i64 (Int.fdiv (IntKind.wrap IntKind.u64 (IntKind.wrap IntKind.i64 (v9 + v10))) (2 ^ min (Int.toNat 1) (IntKind.bits IntKind.u64)))))] []))))) (af.req (dV [(decide (v9 < v8), true)] (inB v9 (lnx ag v0))) (af.req (dV [(decide (v9 < v8), true)] (lE (Ty.pair ag (Ty.pair ae Ty.unit)) (Ty.pair ae Ty.unit) v2)) (af.ret (K.val (Ty.pair ae (Ty.pair Ty.bool Ty.unit)) (v9, bif decide (v9 < v8) then decide (Prod.fst (pc (Ty.pair ag (Ty.pair ae Ty.unit)) (Ty.pair ae Ty.unit) v2 (el ag v0 v9, v1, PUnit.unit)) = 0) else false, PUnit.unit)))))
theorem dI (v0 : den (Ty.slc ag)) (v1 : den ae) (v2 : den (Ty.fn (Ty.pair ag (Ty.pair ae Ty.unit)) (Ty.pair ae Ty.unit))) (v8 : den ae) (v9 : den ae) (v10 : den ae) : aj r7 DD 5000 (ef v0 v1 v2 v8 v9 v10) bM (lp bC 3) (d9 v0 v1 v2 v8 v9 v10) = iC v0 v1 v2 v8 v9 v10 := by kernel_rfl
noncomputable abbrev wE : Fx := { fn := rL, ann := { } }
noncomputable abbrev yO : a8 := { D := { T := bg, F := [(fC, fB), (si, sb)], R := [], ovl := [] }, inl := [] }
noncomputable abbrev Gk : bu := .data wL
theorem GX (h_chord_Right : ap prog [] fC fB) (h_chord_at : ap prog [] si sb) : XOk prog yO := xok (an (an (aL aS aE) h_chord_at) h_chord_Right) (by kernel_rfl) aN aW aV
noncomputable def yp (o : den ah) (no : den ae) : af := af.req (List.length (Prod.fst o) ≤ 1000000) (af.ite (!bo (Prod.fst o)) (af.ret (K.val (Ty.pair ae (Ty.pair ae Ty.unit)) (0, 1, PUnit.unit))) (af.req (List.length (Prod.fst o) ≤ 1000000) (af.ite (!Prod.snd (p0 (Prod.fst o) no)) (af.ret (K.val (Ty.pair ae (Ty.pair ae Ty.unit)) (0, 10, PUnit.unit))) (af.ret (K.val (Ty.pair ae (Ty.pair ae Ty.unit)) (Prod.fst (p0 (Prod.fst o) no), 0, PUnit.unit))))))
theorem Cd (o : den ah) (no : den ae) : aj yO Gk 5000 [] wE (aA rL) (Env.of (aF wh (o, no, ()) 0) []) = yp o no := by kernel_rfl
noncomputable abbrev yU : Fx := { fn := tT, ann := { frz := [(7, [300002]), (8, [4002, 100002])] }, share := true }
noncomputable abbrev Aw : a8 := { D := { T := bg, F := [(dn, du), (jb, iR), (ot, ov), (bH, bI)], R := [], ovl := [], clp := [(gN, ab)] }, inl := [] }
noncomputable abbrev HZ : bu := .data yC
theorem H6 (h_node_Right : ap prog [] dn du) (h_node_may : ap prog [] jb iR) (h_node_of : ap prog [] ot ov) (h_slices_ContainsFunc_Member : ap prog [] bH bI) (ko : uU prog gN ab) : XOk prog Aw := Qp (an (an (an (an (aL aS aE) h_slices_ContainsFunc_Member) h_node_of) h_node_may) h_node_Right) (by kernel_rfl) aN aW aV (O9 ko)
noncomputable def AR (n : den ag) (m : den ab) : af := af.req True (af.all (den Ty.bool) (fun (q2 : den Ty.bool) ↦ q2 = aZ n) fun (q2 : den Ty.bool) ↦ af.req (dV [(!q2, false)] True) (af.ite (bif bif !q2 then true else !dY m then true else decide (Prod.fst m = Prod.fst (Prod.fst n))) (af.ret (K.val (Ty.pair ag (Ty.pair ae Ty.unit)) (zero (Ty.pair ab (Ty.pair ab (Ty.pair (Ty.slc ab) (Ty.pair (Ty.slc ab) Ty.unit)))), 1, PUnit.unit))) (af.req True (af.req (∃ (h : den (Ty.pair ab Ty.unit) → den (Ty.pair Ty.bool Ty.unit)), Cw (Prod.fst m) = some h) (af.all (den (Ty.fn (Ty.pair ab Ty.unit) (Ty.pair Ty.bool Ty.unit))) (fun (q3 : den (Ty.fn (Ty.pair ab Ty.unit) (Ty.pair Ty.bool Ty.unit))) ↦ q3 = Cw (Prod.fst m)) fun (q3 : den (Ty.fn (Ty.pair ab Ty.unit) (Ty.pair Ty.bool Ty.unit))) ↦ af.all (den Ty.bool) (fun (q4 : den Ty.bool) ↦ q4 = List.any (Prod.fst (Prod.snd (Prod.snd (Prod.snd n)))) (prM (Cw (Prod.fst m)))) fun (q4 : den Ty.bool) ↦ af.ite (List.any (Prod.fst (Prod.snd (Prod.snd (Prod.snd n)))) (prM (Cw (Prod.fst m)))) (af.ret (K.val (Ty.pair ag (Ty.pair ae Ty.unit)) (n, 0, PUnit.unit))) (af.ite (decide (lnx ab (Prod.fst (Prod.snd (Prod.snd (Prod.snd n)))) = 16)) (af.ret (K.val (Ty.pair ag (Ty.pair ae Ty.unit)) (zero (Ty.pair ab (Ty.pair ab (Ty.pair (Ty.slc ab) (Ty.pair (Ty.slc ab) Ty.unit)))), 8, PUnit.unit))) (af.req (List.length (Prod.fst (Prod.snd (Prod.snd (Prod.snd n))) ++ List.set (List.replicate 1 (zero ab)) 0 m) ≤ bV) (af.req (Prod.fst (Prod.snd (Prod.snd (Prod.snd n))) = [] ∨ List.set (List.replicate 1 (zero ab)) 0 m ≠ []) (af.ret (K.val (Ty.pair ag (Ty.pair ae Ty.unit)) ((Prod.fst n, Prod.fst (Prod.snd n), Prod.fst (Prod.snd (Prod.snd n)), Prod.fst (Prod.snd (Prod.snd (Prod.snd n))) ++ List.set (List.replicate 1 (zero ab)) 0 m, PUnit.unit), 0, PUnit.unit)))))))))))
theorem Ea (n : den ag) (m : den ab) : aj Aw HZ 5000 [] yU (aA tT) (Env.of (aF yr (n, m, ()) 0) []) = AR n m := by kernel_rfl
noncomputable abbrev Dt : Fx := { fn := wX, ann := { }, own := [6, 2], share := true }
noncomputable abbrev wu : Fx := { fn := rJ, ann := { frz := [(10, [300003]), (12, [1003, 100003])] }, share := true }
noncomputable abbrev yj : a8 := { D := { T := bg, F := [(nG, nF), (jK, jI), (oD, oZ)], R := [(iv, lf)], ovl := [] }, inl := [(w8, Dt)] }
noncomputable abbrev G5 : bu := .data wI
theorem G3 (h_chord_place : ap prog [] nG nF) (h_chord_self : ap prog [] jK jI) (h_node_Point : ap prog [] oD oZ) (h_slices_Clone_Node : mB prog [] iv lf) : XOk prog yj := xok (an (an (an (aL aS aE) h_node_Point) h_chord_self) h_chord_place) (by kernel_rfl) (Ht h_slices_Clone_Node aN) (gX Di (by kernel_rfl) aW) aV
noncomputable def yK (o : den ah) (no : den ae) (to : den ae) : af := af.req (List.length (Prod.fst o) ≤ 1000000) (af.all (den (Ty.pair ae (Ty.pair ae Ty.unit))) (fun (q3 : den (Ty.pair ae (Ty.pair ae Ty.unit))) ↦ q3 = (Prod.fst (bE (Prod.fst o) no), Prod.snd (bE (Prod.fst o) no), PUnit.unit)) fun (q3 : den (Ty.pair ae (Ty.pair ae Ty.unit))) ↦ af.ite (!decide (Prod.fst (Prod.snd q3) = 0)) (af.ret (K.val (Ty.pair ah (Ty.pair ae Ty.unit)) (zero (Ty.pair (Ty.slc ag) Ty.unit), Prod.fst (Prod.snd q3), PUnit.unit))) (af.req True (af.all (den (Ty.pair ab (Ty.pair Ty.bool Ty.unit))) (fun (q4 : den (Ty.pair ab (Ty.pair Ty.bool Ty.unit))) ↦ q4 = (Prod.fst (bR (Prod.fst o) to), Prod.snd (bR (Prod.fst o) to), PUnit.unit)) fun (q4 : den (Ty.pair ab (Ty.pair Ty.bool Ty.unit))) ↦ af.ite (!Prod.fst (Prod.snd q4)) (af.ret (K.val (Ty.pair ah (Ty.pair ae Ty.unit)) (zero (Ty.pair (Ty.slc ag) Ty.unit), 10, PUnit.unit))) (af.req (inB (Prod.fst q3) (lnx ag (Prod.fst o))) (af.req (List.length (Prod.fst (Prod.snd (Prod.snd (Prod.snd (el ag (Prod.fst o) (Prod.fst q3)))))) ≤ 1000000) (af.all (den (Ty.pair ag (Ty.pair ae Ty.unit))) (fun (q5 : den (Ty.pair ag (Ty.pair ae Ty.unit))) ↦ q5 = (Prod.fst (bW (el ag (Prod.fst o) (Prod.fst q3)) (Prod.fst q4)), Prod.snd (bW (el ag (Prod.fst o) (Prod.fst q3)) (Prod.fst q4)), PUnit.unit)) fun (q5 : den (Ty.pair ag (Ty.pair ae Ty.unit))) ↦ af.ite (!decide (Prod.snd (bW (el ag (Prod.fst o) (Prod.fst q3)) (Prod.fst q4)) = 0)) (af.ret (K.val (Ty.pair ah (Ty.pair ae Ty.unit)) (zero (Ty.pair (Ty.slc ag) Ty.unit), Prod.snd (bW (el ag (Prod.fst o) (Prod.fst q3)) (Prod.fst q4)), PUnit.unit))) (af.req (List.length (Prod.fst o) ≤ bV) (af.req (inB (Prod.fst q3) (lnx ag (Prod.fst o))) (af.req (inB (Prod.fst q3) (lnx ag (Prod.fst o))) (af.ret (K.val (Ty.pair ah (Ty.pair ae Ty.unit)) ((we ag (Prod.fst o) (Prod.fst q3) (Prod.fst (bW (el ag (Prod.fst o) (Prod.fst q3)) (Prod.fst q4))), PUnit.unit), 0, PUnit.unit))))))))))))
theorem C1 (o : den ah) (no : den ae) (to : den ae) : aj yj G5 5000 [] wu (aA rJ) (Env.of (aF xi (o, no, to, ()) 0) []) = yK o no to := by kernel_rfl
noncomputable abbrev bZ : Fx := { fn := bT, ann := { loops := [(8, { keep := [3, 4, 7, 8, 9, 10, 50, 51, 52] }), (18, { keep := [4, 8, 10, 103, 104, 105] })] }, share := true }
noncomputable abbrev eR : a8 := { D := { T := bg, F := [(uj, uZ), (mK, mL), (qi, qc), (d8, dZ), (o5, lY), (nK, nC), (iL, iK)], R := [], ovl := [] }, inl := [] }
noncomputable abbrev mc : bu := .data pB
theorem zf (h_l11_few : ap prog [] uj uZ) (h_chord_Stable : ap prog [] mK mL) (h_l11_alive : ap prog [] qi qc) (h_chord_Members : ap prog [] d8 dZ) (h_ring_Owner : ap prog [] o5 lY) (h_chord_Point : ap prog [] nK nC) (h_lookup_Walk : ap prog [] iL iK) : XOk prog eR := xok (an (an (an (an (an (an (an (aL aS aE) h_lookup_Walk) h_chord_Point) h_ring_Owner) h_chord_Members) h_l11_alive) h_chord_Stable) h_l11_few) (by kernel_rfl) aN aW aV
noncomputable def qO (o : den ah) (id : den tId) (pairs : den (Ty.slc ae)) : af := af.req True (af.all (den ah) (fun (q3 : den ah) ↦ q3 = (xl (Prod.fst o), PUnit.unit)) fun (q3 : den ah) ↦ af.req (List.length (Prod.fst q3) ≤ 1000000) (af.all (den Ty.bool) (fun (q4 : den Ty.bool) ↦ q4 = gh (Prod.fst q3)) fun (q4 : den Ty.bool) ↦ af.ite (bif !q4 then true else decide (lnx ag (Prod.fst q3) = 0)) (af.req True (af.all (den Ty.bool) (fun (q5 : den Ty.bool) ↦ q5 = true) fun (q5 : den Ty.bool) ↦ af.ret (K.val (Ty.pair Ty.bool Ty.unit) (q5, PUnit.unit)))) (af.req (List.length (Prod.fst q3) ≤ 1000000) (af.req True (af.all (den (Ty.slc ab)) (fun (q5 : den (Ty.slc ab)) ↦ q5 = ai (Prod.fst q3)) fun (q5 : den (Ty.slc ab)) ↦ af.all (den (Ty.pair ab (Ty.pair ae Ty.unit))) (fun (q6 : den (Ty.pair ab (Ty.pair ae Ty.unit))) ↦ q6 = (Prod.fst (gq (ai (Prod.fst q3)) id), Prod.snd (gq (ai (Prod.fst q3)) id), PUnit.unit)) fun (q6 : den (Ty.pair ab (Ty.pair ae Ty.unit))) ↦ af.req (bQ 0 (cO (lnx ae pairs) 20) (lnx ae pairs)) (af.loop [] bZ (lp bT 8) [(3, K.ptr 0 ah []), (4, K.ptr (0 + 1) tId []), (7, K.val ae (lnx ag (Prod.fst q3))), (8, K.ptr (0 + 1 + 1) ab []), (9, K.val ae (Prod.snd (gq (ai (Prod.fst q3)) id))), (10, K.ptr (0 + 1 + 1 + 1) ah []), (50, K.val (Ty.slc ae) (dS ae pairs 0 (cO (lnx ae pairs) 20))), (51, K.val ae (lnx ae (dS ae pairs 0 (cO (lnx ae pairs) 20)))), (52, K.val ae 0)] [(0, Bx.cell ah q3), (0 + 1, Bx.cell tId id), (0 + 1 + 1, Bx.cell ab (Prod.fst (gq (ai (Prod.fst q3)) id))), (0 + 1 + 1 + 1, Bx.cell ah q3)]))))))
theorem wF (o : den ah) (id : den tId) (pairs : den (Ty.slc ae)) : aj eR mc 5000 [] bZ (aA bT) (Env.of (aF ew (o, id, pairs, ()) 0) []) = qO o id pairs := by kernel_rfl
noncomputable def oT (v7 : den ae) (v9 : den ae) (v50 : den (Ty.slc ae)) (v51 : den ae) (v52 : den ae) (b0 : den ah) (b1 : den tId) (b2 : den ab) (b3 : den ah) : Env := Env.of [(3, K.ptr 0 ah []), (4, K.ptr (0 + 1) tId []), (7, K.val ae v7), (8, K.ptr (0 + 1 + 1) ab []), (9, K.val ae v9), (10, K.ptr (0 + 1 + 1 + 1) ah []), (50, K.val (Ty.slc ae) v50), (51, K.val ae v51), (52, K.val ae v52)] [(0, Bx.cell ah b0), (1, Bx.cell tId b1), (2, Bx.cell ab b2), (3, Bx.cell ah b3)]
noncomputable def xg (v7 : den ae) (v9 : den ae) (v50 : den (Ty.slc ae)) (v51 : den ae) (v52 : den ae) (b0 : den ah) (b1 : den tId) (b2 : den ab) (b3 : den ah) : af := af.ite (decide (v52 < v51)) (af.req (inB v52 (lnx ae v50)) (af.req (nz (IntKind.wrap IntKind.i64 (v7 * v7))) (af.req (nz (IntKind.wrap IntKind.i64 (v7 * v7))) (af.req (nz v7) (af.req (inB (Int.tmod (Int.tmod (IntKind.wrap IntKind.i64 (Int.tmod (el ae v50 v52) (IntKind.wrap IntKind.i64 (v7 * v7)) + IntKind.wrap IntKind.i64 (v7 * v7))) (IntKind.wrap IntKind.i64 (v7 * v7))) v7) (lnx ag (Prod.fst b0))) (af.req (nz v7) (af.req (inB (IntKind.wrap IntKind.i64 (Int.tdiv (Int.tmod (IntKind.wrap IntKind.i64 (Int.tmod (el ae v50 v52) (IntKind.wrap IntKind.i64 (v7 * v7)) + IntKind.wrap IntKind.i64 (v7 * v7))) (IntKind.wrap IntKind.i64 (v7 * v7))) v7)) (lnx ag (Prod.fst b0))) (af.req (List.length (Prod.fst b3) ≤ 1000000) (af.all (den (Ty.pair ah (Ty.pair ae Ty.unit))) (fun (q9 : den (Ty.pair ah (Ty.pair ae Ty.unit))) ↦ q9 = ((Prod.fst (cY (Prod.fst b3) (Prod.fst (Prod.fst (el ag (Prod.fst b0) (Int.tmod (Int.tmod (IntKind.wrap IntKind.i64 (Int.tmod (el ae v50 v52) (IntKind.wrap IntKind.i64 (v7 * v7)) + IntKind.wrap IntKind.i64 (v7 * v7))) (IntKind.wrap IntKind.i64 (v7 * v7))) v7)))) (Prod.fst (Prod.fst (el ag (Prod.fst b0) (IntKind.wrap IntKind.i64 (Int.tdiv (Int.tmod (IntKind.wrap IntKind.i64 (Int.tmod (el ae v50 v52) (IntKind.wrap IntKind.i64 (v7 * v7)) + IntKind.wrap IntKind.i64 (v7 * v7))) (IntKind.wrap IntKind.i64 (v7 * v7))) v7)))))), PUnit.unit), Prod.snd (cY (Prod.fst b3) (Prod.fst (Prod.fst (el ag (Prod.fst b0) (Int.tmod (Int.tmod (IntKind.wrap IntKind.i64 (Int.tmod (el ae v50 v52) (IntKind.wrap IntKind.i64 (v7 * v7)) + IntKind.wrap IntKind.i64 (v7 * v7))) (IntKind.wrap IntKind.i64 (v7 * v7))) v7)))) (Prod.fst (Prod.fst (el ag (Prod.fst b0) (IntKind.wrap IntKind.i64 (Int.tdiv (Int.tmod (IntKind.wrap IntKind.i64 (Int.tmod (el ae v50 v52) (IntKind.wrap IntKind.i64 (v7 * v7)) + IntKind.wrap IntKind.i64 (v7 * v7))) (IntKind.wrap IntKind.i64 (v7 * v7))) v7)))))), PUnit.unit)) fun (q9 : den (Ty.pair ah (Ty.pair ae Ty.unit))) ↦ af.ite (decide (Prod.snd (cY (Prod.fst b3) (Prod.fst (Prod.fst (el ag (Prod.fst b0) (Int.tmod (Int.tmod (IntKind.wrap IntKind.i64 (Int.tmod (el ae v50 v52) (IntKind.wrap IntKind.i64 (v7 * v7)) + IntKind.wrap IntKind.i64 (v7 * v7))) (IntKind.wrap IntKind.i64 (v7 * v7))) v7)))) (Prod.fst (Prod.fst (el ag (Prod.fst b0) (IntKind.wrap IntKind.i64 (Int.tdiv (Int.tmod (IntKind.wrap IntKind.i64 (Int.tmod (el ae v50 v52) (IntKind.wrap IntKind.i64 (v7 * v7)) + IntKind.wrap IntKind.i64 (v7 * v7))) (IntKind.wrap IntKind.i64 (v7 * v7))) v7)))))) = 0)) (af.loop [] bZ (lp bT 8) [(3, K.ptr 0 ah []), (4, K.ptr (0 + 1) tId []), (7, K.val ae v7), (8, K.ptr (0 + 1 + 1) ab []), (9, K.val ae v9), (10, K.ptr (0 + 1 + 1 + 1) ah []), (50, K.val (Ty.slc ae) v50), (51, K.val ae v51), (52, K.val ae (IntKind.wrap IntKind.i64 (v52 + 1)))] [(0, Bx.cell ah b0), (0 + 1, Bx.cell tId b1), (0 + 1 + 1, Bx.cell ab b2), (0 + 1 + 1 + 1, Bx.cell ah (Prod.fst (cY (Prod.fst b3) (Prod.fst (Prod.fst (el ag (Prod.fst b0) (Int.tmod (Int.tmod (IntKind.wrap IntKind.i64 (Int.tmod (el ae v50 v52) (IntKind.wrap IntKind.i64 (v7 * v7)) + IntKind.wrap IntKind.i64 (v7 * v7))) (IntKind.wrap IntKind.i64 (v7 * v7))) v7)))) (Prod.fst (Prod.fst (el ag (Prod.fst b0) (IntKind.wrap IntKind.i64 (Int.tdiv (Int.tmod (IntKind.wrap IntKind.i64 (Int.tmod (el ae v50 v52) (IntKind.wrap IntKind.i64 (v7 * v7)) + IntKind.wrap IntKind.i64 (v7 * v7))) (IntKind.wrap IntKind.i64 (v7 * v7))) v7)))))), PUnit.unit))]) (af.loop [] bZ (lp bT 8) [(3, K.ptr 0 ah []), (4, K.ptr (0 + 1) tId []), (7, K.val ae v7), (8, K.ptr (0 + 1 + 1) ab []), (9, K.val ae v9), (10, K.ptr (0 + 1 + 1 + 1) ah []), (50, K.val (Ty.slc ae) v50), (51, K.val ae v51), (52, K.val ae (IntKind.wrap IntKind.i64 (v52 + 1)))] [(0, Bx.cell ah b0), (0 + 1, Bx.cell tId b1), (0 + 1 + 1, Bx.cell ab b2), (0 + 1 + 1 + 1, Bx.cell ah b3)])))))))))) (af.req (dV [(!decide (v9 = 0), false)] True) (af.ite (bif !decide (v9 = 0) then true else !true) (af.ret (K.val (Ty.pair Ty.bool Ty.unit) (false, PUnit.unit))) (af.loop [] bZ (lp bT 18) [(4, K.ptr 0 tId []), (8, K.ptr (0 + 1) ab []), (10, K.ptr (0 + 1 + 1) ah []), (103, K.val (Ty.slc ag) (Prod.fst b0)), (104, K.val ae (lnx ag (Prod.fst b0))), (105, K.val ae 0)] [(0, Bx.cell tId b1), (0 + 1, Bx.cell ab b2), (0 + 1 + 1, Bx.cell ah b3)])))
theorem lX (v7 : den ae) (v9 : den ae) (v50 : den (Ty.slc ae)) (v51 : den ae) (v52 : den ae) (b0 : den ah) (b1 : den tId) (b2 : den ab) (b3 : den ah) : aj eR mc 5000 [] bZ (lp bT 8) (oT v7 v9 v50 v51 v52 b0 b1 b2 b3) = xg v7 v9 v50 v51 v52 b0 b1 b2 b3 := by kernel_rfl
noncomputable def n1 (v103 : den (Ty.slc ag)) (v104 : den ae) (v105 : den ae) (b0 : den tId) (b1 : den ab) (b2 : den ah) : Env := Env.of [(4, K.ptr 0 tId []), (8, K.ptr (0 + 1) ab []), (10, K.ptr (0 + 1 + 1) ah []), (103, K.val (Ty.slc ag) v103), (104, K.val ae v104), (105, K.val ae v105)] [(0, Bx.cell tId b0), (1, Bx.cell ab b1), (2, Bx.cell ah b2)]
noncomputable def vQ (v103 : den (Ty.slc ag)) (v104 : den ae) (v105 : den ae) (b0 : den tId) (b1 : den ab) (b2 : den ah) : af := af.ite (decide (v105 < v104)) (af.req (inB v105 (lnx ag v103)) (af.req (List.length (Prod.fst b2) ≤ 1000000) (af.all (den (Ty.pair (Ty.slc ae) (Ty.pair ab (Ty.pair ae Ty.unit)))) (fun (q6 : den (Ty.pair (Ty.slc ae) (Ty.pair ab (Ty.pair ae Ty.unit)))) ↦ q6 = (Prod.fst (cp (Prod.fst b2) (Prod.fst (Prod.fst (el ag v103 v105))) b0 16), Prod.fst (Prod.snd (cp (Prod.fst b2) (Prod.fst (Prod.fst (el ag v103 v105))) b0 16)), Prod.snd (Prod.snd (cp (Prod.fst b2) (Prod.fst (Prod.fst (el ag v103 v105))) b0 16)), PUnit.unit)) fun (q6 : den (Ty.pair (Ty.slc ae) (Ty.pair ab (Ty.pair ae Ty.unit)))) ↦ af.ite (bif !decide (Prod.fst (Prod.snd (Prod.snd q6)) = 0) then true else !eqb ab (Prod.fst (Prod.snd q6)) b1) (af.ret (K.val (Ty.pair Ty.bool Ty.unit) (false, PUnit.unit))) (af.loop [] bZ (lp bT 18) [(4, K.ptr 0 tId []), (8, K.ptr (0 + 1) ab []), (10, K.ptr (0 + 1 + 1) ah []), (103, K.val (Ty.slc ag) v103), (104, K.val ae v104), (105, K.val ae (IntKind.wrap IntKind.i64 (v105 + 1)))] [(0, Bx.cell tId b0), (0 + 1, Bx.cell ab b1), (0 + 1 + 1, Bx.cell ah b2)])))) (af.req (List.length (Prod.fst b2) ≤ 1000000) (af.all (den (Ty.pair (Ty.slc ae) (Ty.pair ab (Ty.pair ae Ty.unit)))) (fun (q6 : den (Ty.pair (Ty.slc ae) (Ty.pair ab (Ty.pair ae Ty.unit)))) ↦ q6 = (Prod.fst (cp (Prod.fst b2) (Prod.fst b1) b0 0), Prod.fst (Prod.snd (cp (Prod.fst b2) (Prod.fst b1) b0 0)), Prod.snd (Prod.snd (cp (Prod.fst b2) (Prod.fst b1) b0 0)), PUnit.unit)) fun (q6 : den (Ty.pair (Ty.slc ae) (Ty.pair ab (Ty.pair ae Ty.unit)))) ↦ af.ret (K.val (Ty.pair Ty.bool Ty.unit) (bif bif decide (Prod.fst (Prod.snd (Prod.snd q6)) = 0) then eqb ab (Prod.fst (Prod.snd q6)) b1 else false then decide (lnx ae (Prod.fst q6) = 1) else false, PUnit.unit))))
theorem lD (v103 : den (Ty.slc ag)) (v104 : den ae) (v105 : den ae) (b0 : den tId) (b1 : den ab) (b2 : den ah) : aj eR mc 5000 [] bZ (lp bT 18) (n1 v103 v104 v105 b0 b1 b2) = vQ v103 v104 v105 b0 b1 b2 := by kernel_rfl
end Go.Proofs.Ytimdnodkabnbfaa
namespace Go.Proofs.Ytimdnodkabnbfaa
open Go Go.RowKit
theorem ko : uU prog gN ab :=
 Qg ya rfl (fx := oh) wS (by kernel_rfl) (T := o8) ub fun O w0 xs _ => by
  refine ⟨rfl, rfl, ⟨by decide, Int.natCast_nonneg _, Int.le_refl _⟩, ?_⟩
  have e : dS ab xs 0 (lnx ab xs) = xs := by
   show (List.drop (0 : Int).toNat xs).take (((xs.length : Nat) : Int) - 0).toNat = xs
   simp
  show K.clip ab (dS ab xs 0 (lnx ab xs)) = .clip ab xs
  rw [e]
theorem xZ : mB prog [] iv lf :=
 Fv y6 (fx := oM) rfl yi (by kernel_rfl) (T := fun _ y => pz y.1) (fun xs y _ => vR y.1) fun O w0 bk xs y hxl hy hp => by
  obtain ⟨s, ⟨⟩⟩ := y
  refine fun c hc => ⟨fun hx => ?_, fun hx => ?_⟩
  ·show K.val _ _ = K.val _ s
   rw [show s = [] from hc hx]
  ·refine ⟨?_, ?_, ?_⟩
   ·simpa using hp
   ·simp [vok]
   ·show K.val (.slc ag) (nv ag (List.replicate 0 (zero ag) ++ s) 0 (List.length (List.replicate 0 (zero ag) ++ s))) = K.val _ s
    rw [zX _ rfl]; rfl
theorem tD : ap prog [] oE oX :=
 bL (S := oX) (IP Bn) (fx := yJ) GA (by kernel_rfl) (fun _ _ => trivial) (T := fun x => AA x.1 x.2.1) (fun x => Ef x.1 x.2.1) fun O w0 x _ _ => ⟨trivial, _, rfl, rfl⟩
theorem OJ {i j : Nat} (h : i + j ≤ 4000000) : IntKind.wrap .i64 (Int.fdiv (IntKind.wrap .u64 (IntKind.wrap .i64 ((i : Int) + (j : Int)))) (2 ^ min (Int.toNat 1) (IntKind.bits .u64))) = (((i + j) / 2 : Nat) : Int) := by
 have e0 : (2 : Int) ^ min (Int.toNat 1) (IntKind.bits .u64) = 2 := by decide
 rw [e0, cP (n := (i : Int) + (j : Int)) (by omega)]
 have e1 : IntKind.wrap .u64 ((i : Int) + (j : Int)) = (i : Int) + (j : Int) := by
  unfold IntKind.wrap
  simp only [IntKind.signed, IntKind.bits]
  simp
  omega
 have e2 : Int.fdiv ((i : Int) + (j : Int)) 2 = (((i + j) / 2 : Nat) : Int) := by
  rw [Int.fdiv_eq_ediv_of_nonneg _ (by decide)]; omega
 rw [e1, e2, cP (by omega)]
abbrev fAt : den (.fn (.pair ag (.pair ae .unit)) (.pair ae .unit)) := some fun x => (fg (sfN x.1).1 x.2.1, ())
def OH (l : List Nd) (no : Int) (k : Nat) : Int × Bool := ((k : Nat), bif decide (((k : Nat) : Int) < lnx ag l) then decide (atC l no k = 0) else false)
abbrev GAt (O : Nat → Prop) (w0 : World) (l : List Nd) (no : Int) (k i j : Nat) := bG prog r7 (Cx.base O w0) (cG prog O w0 vJ fun z => z = ((OH l no k).1, (OH l no k).2, ())) (ef l no fAt (lnx ag l) (i : Nat) (j : Nat)) bM (lp bC 3) (d9 l no fAt (lnx ag l) (i : Nat) (j : Nat))
theorem Qd (O : Nat → Prop) (w0 : World) (l : List Nd) (no : Int) (hl : l.length ≤ 1000000) : ∀ (k i j : Nat), i ≤ j → j ≤ l.length → j - i ≤ k → GAt O w0 l no (Fl (atC l no) k i j) i j := by
 intro k
 have done : ∀ i j : Nat, j ≤ i → i ≤ l.length → GAt O w0 l no i i j := fun i j hj hi => by
  refine aM (xL tD) (dI l no fAt _ _ _) ⟨fun h => ?_, fun h => ⟨fun h => ?_, fun _ => ⟨_, rfl⟩, _, rfl, rfl⟩⟩
  ·have h : (i : Int) < (j : Int) := of_decide_eq_true h
   omega
  ·have h : (i : Int) < (l.length : Int) := of_decide_eq_true h
   exact bf (by omega)
 induction k with
 | zero =>
  intro i j h1 h2 h3
  exact done i j (by omega) (by omega)
 | succ k ih =>
  intro i j h1 h2 h3
  by_cases hlt : i < j
  ·have hm := OJ (i := i) (j := j) (by omega)
   have hmt : (i + j) / 2 < l.length := by omega
   unfold Fl
   rw [if_pos hlt]
   refine aM (xL tD) (dI l no fAt _ _ _) ⟨fun _ => ⟨show (0 : Int) ≤ 1 by decide, ?_, ⟨_, rfl⟩, ?_⟩, fun h => ?_⟩
   ·rw [hm]; exact bf hmt
   ·rw [hm]
    refine bn ⟨fun h => ?_, fun h => ?_⟩
    ·have h : atC l no ((i + j) / 2) < 0 := of_decide_eq_true h
     rw [if_pos h, cP (by omega)]
     exact ih ((i + j) / 2 + 1) j (by omega) h2 (by omega)
    ·have h : ¬ atC l no ((i + j) / 2) < 0 := of_decide_eq_false h
     rw [if_neg h]
     exact ih i ((i + j) / 2) (by omega) (by omega) (by omega)
   ·have h : ¬ (i : Int) < (j : Int) := of_decide_eq_false h
    omega
  ·unfold Fl
   rw [if_neg hlt]
   exact done i j (by omega) (by omega)
theorem Ly : ap prog [] si sb :=
 bL (S := sb) (xL tD) (fx := kR) JK (by kernel_rfl) (fun h => by cases h) (T := fun x => C5 x.1 x.2.1) (fun x => GS x.1 x.2.1) fun O w0 x _ hp =>
  Qd O w0 x.1.1 x.2.1 hp x.1.1.length 0 x.1.1.length (Nat.zero_le _) (Nat.le_refl _) (Nat.le_refl _)
theorem Gn : ap prog [] nG nF :=
 bL (S := nF) (GX rH Ly) (fx := wE) EA (by kernel_rfl) (fun h => by cases h) (T := fun x => yp x.1 x.2.1) (fun x => Cd x.1 x.2.1) fun O w0 x _ hp => by
  obtain ⟨o, no, ⟨⟩⟩ := x
  have e : ∀ c d : Bool, (!bo o.1) = c → (!(p0 o.1 no).2) = d → bE o.1 no = bif c then (0, 1) else bif d then (0, 10) else ((p0 o.1 no).1, 0) := fun c d h1 h2 => by rw [← h1, ← h2]; rfl
  refine ⟨hp, fun h1 => ⟨_, rfl, ?_⟩, fun h1 => ⟨hp, fun h2 => ⟨_, rfl, ?_⟩, fun h2 => ⟨_, rfl, ?_⟩⟩⟩
  ·show _ = ((bE o.1 no).1, (bE o.1 no).2, ())
   rw [e _ _ h1 rfl]; rfl
  ·show _ = ((bE o.1 no).1, (bE o.1 no).2, ())
   rw [e _ _ h1 h2]; rfl
  ·show _ = ((bE o.1 no).1, (bE o.1 no).2, ())
   rw [e _ _ h1 h2]; rfl
theorem HW : ap prog [] oD oZ :=
 bL (S := oZ) (H6 lM xP FL f5 ko) (fx := yU) GZ (by kernel_rfl) (fun h => by cases h) (T := fun x => AR x.1 x.2.1) (fun x => Ea x.1 x.2.1) fun O w0 x _ hp => by
  obtain ⟨n, m, ⟨⟩⟩ := x
  have hp : n.2.2.2.1.length ≤ 1000000 := hp
  have e : ∀ c d f : Bool, (bif (bif !aZ n then true else !dY m) then true else decide (m.1 = n.1.1)) = c → n.2.2.2.1.any (fun x => decide (x.1 = m.1)) = d → decide (lnx ab n.2.2.2.1 = 16) = f → bW n m = bif c then (zero ag, 1) else bif d then (n, 0) else bif f then (zero ag, 8) else ((n.1, n.2.1, n.2.2.1, n.2.2.2.1 ++ [m], ()), 0) := fun c d f h1 h2 h3 => by
   unfold bW
   rw [h1, h2, h3]
  refine ⟨trivial, bn ⟨fun _ => trivial, fun h1 => ⟨_, rfl, ?_⟩, fun h1 => ⟨trivial, ⟨_, rfl⟩, bn (bn ⟨fun h2 => ⟨_, rfl, ?_⟩, fun h2 => ⟨fun h3 => ⟨_, rfl, ?_⟩, fun h3 => ⟨?_, .inr ?_, _, rfl, ?_⟩⟩⟩)⟩⟩⟩
  ·show _ = ((bW n m).1, (bW n m).2, ())
   rw [e _ _ _ h1 rfl rfl]; rfl
  ·show _ = ((bW n m).1, (bW n m).2, ())
   rw [e _ _ _ h1 h2 rfl]; rfl
  ·show _ = ((bW n m).1, (bW n m).2, ())
   rw [e _ _ _ h1 h2 h3]; rfl
  ·show (n.2.2.2.1 ++ [m]).length ≤ bV
   rw [List.length_append, List.length_singleton]
   exact Nat.le_trans (Nat.succ_le_succ hp) (by decide)
  ·show [m] ≠ []
   exact List.cons_ne_nil _ _
  ·show _ = ((bW n m).1, (bW n m).2, ())
   rw [e _ _ _ h1 h2 h3]; rfl
theorem Om {l : List Nd} {no : Int} (h : (bE l no).2 = 0) : bo l = true ∧ ∃ k : Nat, k < l.length ∧ (bE l no).1 = (k : Int) := by
 unfold bE at h ⊢
 cases hr : bo l with
 | false => rw [hr] at h; exact absurd (show (1 : Int) = 0 from h) (by decide)
 | true =>
  rw [hr] at h
  cases hf : (p0 l no).2 with
  | false => rw [hf] at h; exact absurd (show (10 : Int) = 0 from h) (by decide)
  | true =>
   refine ⟨rfl, atI l no, ?_, rfl⟩
   cases hd : decide (((atI l no : Nat) : Int) < lnx ag l) with
   | true =>
    have hd : ((atI l no : Nat) : Int) < ((l.length : Nat) : Int) := of_decide_eq_true hd
    omega
   | false =>
    have hq : (bif decide (((atI l no : Nat) : Int) < lnx ag l) then decide (atC l no (atI l no) = 0) else false) = true := hf
    rw [hd] at hq; cases hq
theorem GR : ap prog [] nK nC :=
  bL (S := nC) (G3 Gn zr HW xZ) (fx := wu) FH (by kernel_rfl) (fun h => by cases h) (T := fun x => yK x.1 x.2.1 x.2.2.1) (fun x => C1 x.1 x.2.1 x.2.2.1) fun O w0 x _ hp => by
    obtain ⟨o, no, to, ⟨⟩⟩ := x
    have hp : o.1.length ≤ 1000000 := hp
    have e : ∀ c d f : Bool, (!decide ((bE o.1 no).2 = 0)) = c → (!(bR o.1 to).2) = d → (!decide ((bW (el ag o.1 (bE o.1 no).1) (bR o.1 to).1).2 = 0)) = f → cY o.1 no to = bif c then ([], (bE o.1 no).2) else bif d then ([], 10) else bif f then ([], (bW (el ag o.1 (bE o.1 no).1) (bR o.1 to).1).2) else (o.1.set (bE o.1 no).1.toNat (bW (el ag o.1 (bE o.1 no).1) (bR o.1 to).1).1, 0) := fun c d f h1 h2 h3 => by
      unfold cY
      rw [h1, h2, h3]
    refine ⟨hp, bn ⟨fun h1 => ⟨_, rfl, ?_⟩, fun h1 => ?_⟩⟩
    · show _ = (((cY o.1 no to).1, ()), (cY o.1 no to).2, ())
      rw [e _ _ _ h1 rfl rfl]; rfl
    · have hz : (bE o.1 no).2 = 0 := by
        have h1 : (!decide ((bE o.1 no).2 = 0)) = false := h1
        simpa using h1
      obtain ⟨hr, k, hk, hk2⟩ := Om hz
      have hin : inB (bE o.1 no).1 (lnx ag o.1) := by rw [hk2]; exact bf hk
      have hlen : (el ag o.1 (bE o.1 no).1).2.2.2.1.length ≤ 1000000 := by
        rw [hk2, bS (e := ag) hk]
        exact Nat.le_trans ((sE _).1 (mu hr (List.getElem_mem hk))).many (by decide)
      refine ⟨trivial, bn ⟨fun h2 => ⟨_, rfl, ?_⟩, fun h2 => ⟨hin, hlen, bn ⟨fun h3 => ⟨_, rfl, ?_⟩, fun h3 => ⟨Nat.le_trans hp (by decide), hin, hin, _, rfl, ?_⟩⟩⟩⟩⟩
      · show _ = (((cY o.1 no to).1, ()), (cY o.1 no to).2, ())
        rw [e _ _ _ h1 h2 rfl]; rfl
      · show _ = (((cY o.1 no to).1, ()), (cY o.1 no to).2, ())
        rw [e _ _ _ h1 h2 h3]; rfl
      · show _ = (((cY o.1 no to).1, ()), (cY o.1 no to).2, ())
        rw [e _ _ _ h1 h2 h3]; rfl
end Go.Proofs.Ytimdnodkabnbfaa
namespace Go.Proofs.Ytimdnodkabnbfaa
open Go Go.RowKit
theorem Kb {l : List Nd} {k : Nat} (hk : k < l.length) {n : Nd} (h : n.1 = l[k].1) : ai (l.set k n) = ai l := by
 have e : sfN n = (l.map sfN)[k]'(by rw [List.length_map]; exact hk) := by rw [List.getElem_map]; exact h
 show (l.set k n).map sfN = l.map sfN
 rw [List.map_set, e, List.set_getElem_self]
theorem DL (l : List Nd) (no : Int) : bR l no = match (ai l).find? (fun m => decide (m.1 = no)) with | some m => (m, true) | none => (zero ab, false) := by
 show _ = match (l.map sfN).find? (fun m => decide (m.1 = no)) with | some m => (m, true) | none => (zero ab, false)
 unfold bR
 rw [List.find?_map]
 cases h : l.find? ((fun m : Mem => decide (m.1 = no)) ∘ sfN) with
 | none =>
  have h' : l.find? (fun n => decide (n.1.1 = no)) = none := h
  rw [h']; rfl
 | some n =>
  have h' : l.find? (fun n => decide (n.1.1 = no)) = some n := h
  rw [h']; rfl
theorem LP {l l' : List Nd} (h : ai l' = ai l) (no : Int) : bR l' no = bR l no := by rw [DL, DL, h]
theorem KQ {l l' : List Nd} (h : ai l' = ai l) (m : Mem) : gM l' m = gM l m := by unfold gM; rw [LP h]
theorem L6 {l : List Nd} (hr : RR (ai l)) {m : Mem} (hm : m ∈ ai l) : gM l m = false := by
 unfold gM
 rcases uz l m.1 with ⟨h1, _, h3, n, hn, hnm⟩ | ⟨h1, _⟩
 ·have : (bR l m.1).1 = m := hr.inj (by rw [← hnm]; exact List.mem_map.2 ⟨n, hn, rfl⟩) hm (.inl h3)
  rw [h1, this, decide_eq_true rfl]; rfl
 ·rw [h1]; rfl
structure PI (n : Nd) (m : Mem) (p : Nd) : Prop where
 self : p.1 = n.1
 pred : p.2.1 = n.2.1
 succs : p.2.2.1 = n.2.2.1
 right : aZ p = true
 fing : ∀ x ∈ p.2.2.2.1, x ∈ n.2.2.2.1 ∨ x = m
 ok : OkN n → okT ab m → OkN p
theorem Mc {n : Nd} {m : Mem} (h : (bW n m).2 = 0) : PI n m (bW n m).1 := by
 unfold bW at h ⊢
 cases hb : (bif (bif !aZ n then true else !dY m) then true else decide (m.1 = n.1.1)) with
 | true => rw [hb] at h; exact absurd (show (1 : Int) = 0 from h) (by decide)
 | false =>
  rw [hb] at h
  have hr : aZ n = true := by
   cases hq : aZ n with
   | true => rfl
   | false => rw [hq] at hb; cases hb
  rw [hr] at hb
  have hm : dY m = true := by
   cases hq : dY m with
   | true => rfl
   | false => rw [hq] at hb; cases hb
  rw [hm] at hb
  have hne : m.1 ≠ n.1.1 := of_decide_eq_false hb
  have ok := (sE n).1 hr
  cases ha : n.2.2.2.1.any (fun x => decide (x.1 = m.1)) with
  | true => exact ⟨rfl, rfl, rfl, hr, fun x hx => .inl hx, fun h _ => h⟩
  | false =>
   rw [ha] at h
   cases hl : decide (lnx ab n.2.2.2.1 = 16) with
   | true => rw [hl] at h; exact absurd (show (8 : Int) = 0 from h) (by decide)
   | false =>
    have hl : ¬ ((n.2.2.2.1.length : Nat) : Int) = 16 := of_decide_eq_false hl
    have hmany := ok.many
    have hlen : (n.2.2.2.1 ++ [m]).length ≤ 16 := by rw [List.length_append, List.length_singleton]; omega
    obtain ⟨u1, u2⟩ := (xT _ _).1 ok.fing
    refine ⟨rfl, rfl, rfl, (sE _).2 ⟨ok.self, ok.pred, ok.one, ok.four, ok.succs, hlen, (xT _ _).2 ⟨fun x hx => ?_, ?_⟩⟩, fun x hx => ?_, fun k1 k2 => ⟨k1.1, k1.2.1, k1.2.2.1, ⟨Nat.le_trans hlen (by decide), fun x hx => ?_⟩, trivial⟩⟩
    ·rcases List.mem_append.1 (show x ∈ n.2.2.2.1 ++ [m] from hx) with hx | hx
     ·exact u1 x hx
     ·rw [List.mem_singleton.1 hx]; exact ⟨hm, hne⟩
    ·show ((n.2.2.2.1 ++ [m]).map fun m => m.1).Nodup
     rw [List.map_append, List.nodup_append]
     refine ⟨u2, List.nodup_cons.2 ⟨List.not_mem_nil, List.nodup_nil⟩, fun a ha' b hb' => ?_⟩
     obtain ⟨x, hx, rfl⟩ := List.mem_map.1 ha'
     rw [List.mem_singleton.1 hb']
     have := List.any_eq_false.1 ha x hx
     simpa using this
    ·rcases List.mem_append.1 (show x ∈ n.2.2.2.1 ++ [m] from hx) with hx | hx
     ·exact .inl hx
     ·exact .inr (List.mem_singleton.1 hx)
    ·rcases List.mem_append.1 (show x ∈ n.2.2.2.1 ++ [m] from hx) with hx | hx
     ·exact (ET k1).2.2.2 x hx
     ·rw [List.mem_singleton.1 hx]; exact k2
theorem Mb {l : List Nd} {k : Nat} (hk : k < l.length) {p : Nd} (h : p.1 = l[k].1) (i : Int) : (el ag (l.set k p) i).1 = (el ag l i).1 := by
 unfold el
 rw [List.getD_eq_getElem?_getD, List.getD_eq_getElem?_getD, List.getElem?_set]
 by_cases e : k = i.toNat
 ·rw [if_pos e]
  rw [if_pos hk, ← e, List.getElem?_eq_getElem hk]
  exact h
 ·rw [if_neg e]
theorem PA {l : List Nd} (h : Stb l) {k : Nat} (hk : k < l.length) {m : Mem} (hm : m ∈ ai l) {p : Nd} (hp : PI l[k] m p) : Stb (l.set k p) ∧ ai (l.set k p) = ai l := by
  have hmem := Kb hk hp.self
  refine ⟨⟨?_, fun n hn => ?_, fun n hn => ?_⟩, hmem⟩
  · unfold bo
    rw [hmem, h.ring, Bool.and_true]
    refine List.all_eq_true.2 fun i hi => ?_
    have hi : i < l.length := by rw [List.length_set] at hi; exact List.mem_range.1 hi
    have hi' : i < (l.set k p).length := by rw [List.length_set]; exact hi
    have hok := qm h.right hi
    unfold ij at hok ⊢
    have hb : xD (l.set k p) (i : Nat) = false := by
      cases hq : xD l (i : Nat) with
      | true => rw [hq] at hok; cases hok
      | false =>
        unfold xD at hq ⊢
        rw [Mb hk hp.self, Mb hk hp.self]
        have hg : aZ (el ag (l.set k p) (i : Nat)) = true := by
          rw [bS (e := ag) hi', List.getElem_set]
          split
          · exact hp.right
          · exact mu h.right (List.getElem_mem hi)
        have hg2 : aZ (el ag l (i : Nat)) = true := by
          rw [bS (e := ag) hi]; exact mu h.right (List.getElem_mem hi)
        rw [hg2] at hq
        rw [hg]
        exact hq
    rw [hb]
    show ((cg (el ag (l.set k p) (i : Nat))).all fun m => !gM (l.set k p) m) = true
    refine List.all_eq_true.2 fun x hx => ?_
    rw [KQ hmem]
    have known : ∀ {j : Nat} (hj : j < l.length), ∀ x ∈ cg l[j], gM l x = false := fun {j} hj x hx => by
      have hok := qm h.right hj
      unfold ij at hok
      rw [bS (e := ag) hj] at hok
      cases hq : xD l (j : Nat) with
      | true => rw [hq] at hok; cases hok
      | false =>
        rw [hq] at hok
        have hk := List.all_eq_true.1 (show ((cg l[j]).all fun m => !gM l m) = true from hok) x hx
        simpa using hk
    rw [bS (e := ag) hi', List.getElem_set] at hx
    split at hx
    · have : x ∈ cg l[k] ∨ x = m := by
        unfold cg at hx ⊢
        rw [hp.pred, hp.succs] at hx
        rcases List.mem_append.1 hx with hx | hx
        · exact .inl (List.mem_append_left _ hx)
        · exact (hp.fing x hx).imp (fun h => List.mem_append_right _ h) id
      rcases this with hx | rfl
      · rw [known hk x hx]; rfl
      · rw [L6 (fJ h.ring) hm]; rfl
    · rw [known hi x hx]; rfl
  · rcases List.mem_or_eq_of_mem_set hn with hn | rfl
    · exact h.ok n hn
    · exact hp.ok (h.ok _ (List.getElem_mem hk)) (h.okm m hm)
  · rw [hmem]
    rcases List.mem_or_eq_of_mem_set hn with hn | rfl
    · exact h.st n hn
    · rw [hp.pred, hp.succs, hp.self]; exact h.st _ (List.getElem_mem hk)
theorem Lh {l : List Nd} (h : Stb l) {a b : Int} (he : (cY l a b).2 = 0) : Stb (cY l a b).1 ∧ ai (cY l a b).1 = ai l := by
 unfold cY at he ⊢
 cases h1 : decide ((bE l a).2 = 0) with
 | false => rw [h1] at he; exact absurd (show (bE l a).2 = 0 from he) (of_decide_eq_false h1)
 | true =>
  rw [h1] at he
  cases h2 : (bR l b).2 with
  | false => rw [h2] at he; exact absurd (show (10 : Int) = 0 from he) (by decide)
  | true =>
   rw [h2] at he
   cases h3 : decide ((bW (el ag l (bE l a).1) (bR l b).1).2 = 0) with
   | false => rw [h3] at he; exact absurd (show (bW (el ag l (bE l a).1) (bR l b).1).2 = 0 from he) (of_decide_eq_false h3)
   | true =>
    have h3 := of_decide_eq_true h3
    have hpl : (p0 l a).2 = true ∧ (bE l a).1 = (p0 l a).1 := by
     have h1 := of_decide_eq_true h1
     unfold bE at h1 ⊢
     rw [h.right] at h1 ⊢
     cases hf : (p0 l a).2 with
     | false => rw [hf] at h1; exact absurd (show (10 : Int) = 0 from h1) (by decide)
     | true => exact ⟨rfl, rfl⟩
    have hk : atI l a < l.length := by
     have hq := hpl.1
     unfold p0 at hq
     cases hd : decide (((atI l a : Nat) : Int) < lnx ag l) with
     | true =>
      have hd : ((atI l a : Nat) : Int) < ((l.length : Nat) : Int) := of_decide_eq_true hd
      omega
     | false =>
      have hq : (bif decide (((atI l a : Nat) : Int) < lnx ag l) then decide (atC l a (atI l a) = 0) else false) = true := hq
      rw [hd] at hq; cases hq
    have hi : (bE l a).1 = ((atI l a : Nat) : Int) := hpl.2
    rw [hi, bS (e := ag) hk] at h3
    have hm : (bR l b).1 ∈ ai l := by
     rcases uz l b with ⟨_, _, _, n, hn, hnm⟩ | ⟨k1, _⟩
     ·rw [← hnm]; exact List.mem_map.2 ⟨n, hn, rfl⟩
     ·rw [k1] at h2; cases h2
    have := PA h hk hm (Mc h3)
    rw [hi, bS (e := ag) hk]
    exact this
end Go.Proofs.Ytimdnodkabnbfaa
namespace Go.Proofs.Ytimdnodkabnbfaa
open Go Go.RowKit
theorem J2 {l : List Nd} (h : Stb l) {id : List Int} (hid : f9 id) {o : Mem} (ho : fG ce aT (vB id) (ai l) o) {x : Mem} (hx : x ∈ ai l) : ∃ p, cp l x.1 id 16 = (p, o, 0) := by
 obtain ⟨n, hn, rfl⟩ := List.mem_map.1 hx
 obtain ⟨s, h1, _⟩ := Ll h hid ho hn
 exact ⟨_, h1⟩
theorem LE {l : List Nd} (h : Stb l) {id : List Int} (hid : f9 id) {o : Mem} (ho : fG ce aT (vB id) (ai l) o) : cp l o.1 id 0 = ([o.1], o, 0) := by
 obtain ⟨t, w1, _, _, _, w5, _⟩ := EL h hid ho 1 [] ho.1 (fun _ => Nat.le_refl _) (fun e => absurd rfl e)
 rw [w5 rfl] at w1
 rw [show (0 : Int) = ((0 : Nat) : Int) from rfl, Hj h.right o.1 id (h := 0) (by decide)]
 exact w1
theorem PS {n : Nat} (h1 : 1 ≤ n) (h2 : n ≤ 100) (x : Int) : nz (IntKind.wrap .i64 ((n : Int) * (n : Int))) ∧ nz ((n : Nat) : Int) ∧ ∃ i j : Nat, i < n ∧ j < n ∧
    Int.tmod (Int.tmod (IntKind.wrap .i64 (Int.tmod x (IntKind.wrap .i64 ((n : Int) * (n : Int))) + IntKind.wrap .i64 ((n : Int) * (n : Int)))) (IntKind.wrap .i64 ((n : Int) * (n : Int)))) (n : Int) = (i : Int) ∧
    IntKind.wrap .i64 (Int.tdiv (Int.tmod (IntKind.wrap .i64 (Int.tmod x (IntKind.wrap .i64 ((n : Int) * (n : Int))) + IntKind.wrap .i64 ((n : Int) * (n : Int)))) (IntKind.wrap .i64 ((n : Int) * (n : Int)))) (n : Int)) = (j : Int) := by
  have hb : n * n ≤ 10000 := Nat.le_trans (Nat.mul_le_mul h2 h2) (by decide)
  have h0 : 0 < n * n := Nat.mul_pos h1 h1
  have e0 : (n : Int) * (n : Int) = ((n * n : Nat) : Int) := (Int.natCast_mul n n).symm
  rw [e0, cP (n := ((n * n : Nat) : Int)) (by omega)]
  have hlt := Int.tmod_lt_of_pos x (show (0 : Int) < ((n * n : Nat) : Int) by omega)
  have hgt : -((n * n : Nat) : Int) < Int.tmod x ((n * n : Nat) : Int) := by
    have := Int.tmod_lt_of_pos (-x) (show (0 : Int) < ((n * n : Nat) : Int) by omega)
    rw [Int.neg_tmod] at this
    omega
  rw [cP (n := Int.tmod x ((n * n : Nat) : Int) + ((n * n : Nat) : Int)) (by omega)]
  obtain ⟨k, hk⟩ : ∃ k : Nat, Int.tmod x ((n * n : Nat) : Int) + ((n * n : Nat) : Int) = (k : Int) := ⟨(Int.tmod x ((n * n : Nat) : Int) + ((n * n : Nat) : Int)).toNat, by omega⟩
  rw [hk]
  have e1 : Int.tmod (k : Int) ((n * n : Nat) : Int) = ((k % (n * n) : Nat) : Int) := rfl
  rw [e1]
  have hkm : k % (n * n) < n * n := Nat.mod_lt _ h0
  refine ⟨fun e => by omega, fun e => by omega, k % (n * n) % n, k % (n * n) / n, Nat.mod_lt _ h1, (Nat.div_lt_iff_lt_mul h1).2 hkm, rfl, ?_⟩
  have e2 : Int.tdiv ((k % (n * n) : Nat) : Int) (n : Int) = ((k % (n * n) / n : Nat) : Int) := rfl
  have hj := Nat.div_le_self (k % (n * n)) n
  rw [e2]
  generalize k % (n * n) / n = j at hj
  exact cP (by omega)
abbrev GLp (O : Nat → Prop) (w0 : World) := bG prog eR (Cx.base O w0) (cG prog O w0 pB fun z => z = (true, ()))
theorem fQ : XOk prog eR := zf M4 Fh Jb oR Il GR yT
theorem H3 {l l' : List Nd} (h : ai l' = ai l) : l'.length = l.length := by
 have := congrArg List.length h
 unfold ai at this
 rw [List.length_map, List.length_map] at this
 exact this
def Lo (O : Nat → Prop) (w0 : World) (ns : List Nd) (q : List Nd) (h : Stb q) (hm : ai q = ai ns) (hl : ns.length ≤ 1000) {id : List Int} (hid : f9 id) {o : Mem} (ho : fG ce aT (vB id) (ai q) o) :=
 PLift.up <| bN (σ := Unit) ns.length (fun _ _ => True)
  (fun i _ => GLp O w0 [] bZ (lp bT 18) (n1 ns (lnx ag ns) (i : Nat) id o (q, ())))
  (fun i _ hi _ ih => aM fQ (lD ns _ _ id o (q, ())) (by
   have hql : q.length ≤ 1000000 := by rw [H3 hm]; exact Nat.le_trans hl (by decide)
   refine ⟨fun _ => ⟨bf hi, hql, ?_⟩, fun hc => absurd hi (by rw [cL (e := ag)] at hc; exact of_decide_eq_false hc)⟩
   rw [bS (e := ag) hi]
   obtain ⟨p, hp⟩ := J2 h hid ho (x := ns[i].1) (by rw [hm]; exact List.mem_map.2 ⟨_, List.getElem_mem hi, rfl⟩)
   rw [hp, cN hi (Nat.le_trans hl (by decide))]
   refine bn ⟨fun hc => ?_, fun _ => ih () trivial⟩
   have hc : (bif !decide ((0 : Int) = 0) then true else !eqb ab o o) = true := hc
   rw [kW, decide_eq_true (show o = o from rfl)] at hc
   cases hc))
  (fun _ _ => aM fQ (lD ns _ _ id o (q, ())) (by
   have hql : q.length ≤ 1000000 := by rw [H3 hm]; exact Nat.le_trans hl (by decide)
   refine ⟨fun hc => absurd (of_decide_eq_true hc) (Int.lt_irrefl _), fun _ => ⟨hql, ?_⟩⟩
   rw [LE h hid ho]
   refine bn ⟨_, rfl, Prod.ext ?_ rfl⟩
   show (bif bif decide ((0 : Int) = 0) then eqb ab o o else false then decide (lnx ae [o.1] = 1) else false) = true
   rw [kW, decide_eq_true (show o = o from rfl)]
   rfl))
def K7 (O : Nat → Prop) (w0 : World) (ns : List Nd) (h0 : 1 ≤ ns.length) (hl : ns.length ≤ 100) (ps : List Int) (hps : ps.length ≤ 1000) {id : List Int} (hid : f9 id) {o : Mem} (ho : fG ce aT (vB id) (ai ns) o) :=
 PLift.up <| bN (σ := List Nd) ps.length (fun _ b => Stb b ∧ ai b = ai ns)
  (fun i b => GLp O w0 [] bZ (lp bT 8) (oT (lnx ag ns) 0 ps (lnx ae ps) (i : Nat) (ns, ()) id o (b, ())))
  (fun i b hi hs ih => aM fQ (lX _ _ ps _ _ (ns, ()) id o (b, ())) (by
   refine ⟨fun _ => ⟨bf hi, ?_⟩, fun hc => absurd hi (by rw [cL (e := ae)] at hc; exact of_decide_eq_false hc)⟩
   rw [bS (e := ae) hi, cN hi (Nat.le_trans hps (by decide))]
   obtain ⟨z1, z2, x, y, hx, hy, ex, ey⟩ := PS h0 hl ps[i]
   rw [show lnx ag ns = ((ns.length : Nat) : Int) from rfl, ex, ey]
   have hb : b.length ≤ 1000000 := by rw [H3 hs.2]; exact Nat.le_trans hl (by decide)
   refine ⟨z1, z1, z2, bf hx, z2, bf hy, hb, bn ⟨fun hc => ?_, fun _ => ih b hs⟩⟩
   have hc := of_decide_eq_true hc
   obtain ⟨k1, k2⟩ := Lh hs.1 hc
   exact ih _ ⟨k1, k2.trans hs.2⟩))
  (fun b hs => aM fQ (lX _ _ ps _ _ (ns, ()) id o (b, ())) ⟨fun hc => absurd (of_decide_eq_true hc) (Int.lt_irrefl _), fun _ => ⟨fun _ => trivial, fun hc => (by cases hc), fun _ =>
   (Lo O w0 ns b hs.1 hs.2 (Nat.le_trans hl (by decide)) hid (by rw [hs.2]; exact ho)).down 0 () (Nat.zero_le _) trivial⟩⟩)
theorem zJ : ap prog [] qv (Oj ew) :=
 bL (S := Oj ew) fQ (fx := bZ) y3 (by kernel_rfl) (fun _ _ => trivial) (T := fun x => qO x.1 x.2.1 x.2.2.1) (fun x => wF x.1 x.2.1 x.2.2.1) fun O w0 x hk _ => by
  obtain ⟨o, id, ps, ⟨⟩⟩ := x
  refine ⟨trivial, bn ?_⟩
  have hql := Oi o.1
  have hko := Qa (l := o.1) hk.1.1.2
  have hid : f9 id := Km hk.2.1
  generalize (xl o.1 : List Nd) = q at hql hko ⊢
  have hq : q.length ≤ 1000000 := Nat.le_trans hql (by decide)
  refine ⟨hq, bn ⟨fun _ => ⟨trivial, bn ⟨_, rfl, rfl⟩⟩, fun hc => ⟨hq, trivial, bn (bn ⟨?_, ?_⟩)⟩⟩⟩
  ·have hl : lnx ae ps = ((ps.length : Nat) : Int) := rfl
   rw [hl]
   unfold cO
   split
   ·exact ⟨by decide, by omega, by omega⟩
   ·exact ⟨by decide, by omega, by omega⟩
  ·have hc : (bif !gh q then true else decide (lnx ag q = 0)) = false := hc
   have hs : gh q = true := by
    cases hq : gh q <;> rw [hq] at hc
    cases hc
   rw [hs] at hc
   have h0 : ¬ ((q.length : Nat) : Int) = 0 := of_decide_eq_false hc
   have st := PT hs hko
   have hml : (ai q).length = q.length := by unfold ai; rw [List.length_map]
   obtain ⟨w, ow, ho⟩ := LC st.ring st.okm (by omega) hid
   rw [ow]
   have hps : (dS ae ps 0 (cO (lnx ae ps) 20)).length ≤ 1000 := by
    show (List.drop (0 : Int).toNat (List.take (cO (lnx ae ps) 20).toNat ps)).length ≤ 1000
    rw [List.length_drop, List.length_take]
    have : cO (lnx ae ps) 20 ≤ 20 := by unfold cO; split <;> omega
    omega
   exact (K7 O w0 q (by omega) (by omega) (dS ae ps 0 (cO (lnx ae ps) 20)) hps hid ho).down 0 q (Nat.zero_le _) ⟨st, rfl⟩
end Go.Proofs.Ytimdnodkabnbfaa
