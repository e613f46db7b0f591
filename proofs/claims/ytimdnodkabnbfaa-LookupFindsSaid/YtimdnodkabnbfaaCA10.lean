/- Part 10 of 10 of what this claim's proof stands on: a theory of programs on data, and the contracts of the functions that the law reaches. It holds no condition of its own. -/
import Derived.Test.YtimdnodkabnbfaaCA9
namespace Go.Proofs.Ytimdnodkabnbfaa
open Go Go.RowKit
end Go.Proofs.Ytimdnodkabnbfaa
namespace Go.Proofs.Ytimdnodkabnbfaa
open Go Go.RowKit
end Go.Proofs.Ytimdnodkabnbfaa
namespace Go.Proofs.Ytimdnodkabnbfaa
open Go Go.RowKit
theorem iZ {a : List Int} (h : gx a) : 0 ≤ vB a ∧ vB a < aT := by
 have := nr h.2
 rw [h.1] at this
 exact this
theorem J1 {x a b : List Int} (hx : gx x) (ha : gx a) (hb : gx b) (hab : a ≠ b) : gk x a b = true ↔ 0 < rky aT (vB a) (vB x) ∧ rky aT (vB a) (vB x) ≤ rky aT (vB a) (vB b) := by
 have rx := iZ hx
 have ra := iZ ha
 have rb := iZ hb
 have hne : vB a ≠ vB b := fun e => hab (xo (ha.1.trans hb.1.symm) ha.2 hb.2 e)
 unfold gk rky
 rw [if_neg hab]
 generalize aT = W at *
 by_cases h : vB a < vB b
 ·rw [if_pos h]
  by_cases h1 : vB a ≤ vB x <;> by_cases h2 : vB a ≤ vB b <;> simp [h1, h2] <;> omega
 ·rw [if_neg h]
  by_cases h1 : vB a ≤ vB x <;> by_cases h2 : vB a ≤ vB b <;> simp [h1, h2] <;> omega
theorem DZ {self id x : List Int} (hs : gx self) (hi : gx id) (hx : gx x) (hne : self ≠ id) : Mb self id x = true ↔ 0 < rky aT (vB self) (vB x) ∧ rky aT (vB self) (vB x) < rky aT (vB self) (vB id) := by
 have ik := J1 hx hs hi hne
 unfold Mb
 by_cases h1 : x = self
 ·rw [decide_eq_true h1, h1, rq]; simp
 rw [decide_eq_false h1]
 by_cases h2 : x = id
 ·rw [decide_eq_true h2, h2]; simp
 rw [decide_eq_false h2]
 show gk x self id = true ↔ _
 rw [ik]
 have hn : rky aT (vB self) (vB x) ≠ rky aT (vB self) (vB id) := fun e => h2 (xo (hx.1.trans hi.1.symm) hx.2 hi.2 (Cl (iZ hs) (iZ hx) (iZ hi) e))
 omega
abbrev OkN (n : Nd) : Prop := okT ag n
theorem H4 {n : Nd} (h : OkN n) : okT ab n.1 ∧ okT ab n.2.1 ∧ OkM n.2.2.1 ∧ OkM n.2.2.2.1 := ⟨h.1, h.2.1, h.2.2.1.2, h.2.2.2.1.2⟩
theorem Nh {m : Mem} (h : fM m = true) : 0 ≤ (m.1 : Int) ∧ (m.1 : Int) < 16 := by
 unfold fM at h
 by_cases h1 : (0 : Int) ≤ m.1
 ·rw [decide_eq_true h1] at h
  exact ⟨h1, of_decide_eq_true h⟩
 ·rw [decide_eq_false h1] at h; cases h
theorem DP (l : List Nd) (no : Int) : ((dP l no).2 = true ∧ BA (ai l) no = (dP l no).1 ∧ (dP l no).1.1 = no ∧ ∃ n ∈ l, n.1 = (dP l no).1) ∨ ((dP l no).2 = false ∧ BA (ai l) no = noM) := by
 unfold dP BA ai
 rw [List.find?_map]
 cases h : l.find? ((fun m : Mem => decide (m.1 = no)) ∘ sfN) with
 | none =>
  have h' : l.find? (fun n => decide (n.1.1 = no)) = none := h
  rw [h']; exact .inr ⟨rfl, rfl⟩
 | some n =>
  have h' : l.find? (fun n => decide (n.1.1 = no)) = some n := h
  rw [h']
  exact .inl ⟨rfl, rfl, of_decide_eq_true (List.find?_some (p := fun n : Nd => decide (n.1.1 = no)) h'), n, List.mem_of_find?_eq_some h', rfl⟩
theorem IY {l : List Nd} (h : bE l = true) : ∀ n ∈ l, bt n = true := fun _ hn => we h hn
theorem LA {l : List Nd} (hr : ∀ n ∈ l, bt n = true) (no : Int) : zj l no = ft l no := by
 unfold zj
 rcases DP l no with ⟨h1, h2, h3, n, hn, hnm⟩ | ⟨h1, h2⟩
 ·have hno := (Nh ((Dg n).1 (hr n hn)).self).1
  rw [hnm, h3] at hno
  rw [h2, decide_eq_true h3, decide_eq_true hno]
  have : ft l no = true := List.any_eq_true.2 ⟨n, hn, decide_eq_true (by rw [hnm]; exact h3)⟩
  rw [this]; rfl
 ·rw [h2]
  have : ft l no = false := List.any_eq_false.2 fun n hn hd => by
   have hno : n.1.1 = no := of_decide_eq_true hd
   unfold dP at h1
   cases hf : l.find? (fun n => decide (n.1.1 = no)) with
   | none => exact absurd hd (List.find?_eq_none.1 hf n hn)
   | some x => rw [hf] at h1; cases h1
  rw [this]
  by_cases hn : noM.1 = no
  ·rw [decide_eq_true hn, ← hn]; rfl
  ·rw [decide_eq_false hn]; rfl
theorem KK {l : List Nd} {no : Int} (h : ft l no = true) : ∃ n, l.find? (fun n => decide (n.1.1 = no)) = some n ∧ IC l no = n ∧ n ∈ l ∧ n.1.1 = no := by
 cases hf : l.find? (fun n => decide (n.1.1 = no)) with
 | none =>
  obtain ⟨n, hn, hd⟩ := List.any_eq_true.1 h
  exact absurd hd (List.find?_eq_none.1 hf n hn)
 | some n => exact ⟨n, rfl, by unfold IC; rw [hf]; rfl, List.mem_of_find?_eq_some hf, of_decide_eq_true (List.find?_some (p := fun n : Nd => decide (n.1.1 = no)) hf)⟩
theorem LJ {l : List Nd} {no : Int} (id : List Int) (h : ft l no = true) : aG l no id = (sc l (IC l no) id, true) := by
 obtain ⟨n, h1, h2, _⟩ := KK h
 rw [D8 id h1, h2]
end Go.Proofs.Ytimdnodkabnbfaa
namespace Go.Proofs.Ytimdnodkabnbfaa
open Go Go.RowKit
def stP (M : List Mem) (m : Mem) : Mem := bif decide (lnx ab M = 1) then noM else (fh M m.1).1
def stS (M : List Mem) (m : Mem) : List Mem := (eJ M m.1 (rU (dH ((M.length : Int) - 1) 4) 1)).1
def stN (M : List Mem) (n : Nd) : Bool := bif decide (n.2.1 = stP M n.1) then decide (n.2.2.1 = stS M n.1) else false
def f5 (l : List Nd) : Bool := bif !bE l then false else l.all (stN (ai l))
noncomputable abbrev ma : bA := ⟨s7, kU, fun x => (f5 x.1.1, ()), fun x => List.length x.1.1 ≤ 1000000, false⟩
end Go.Proofs.Ytimdnodkabnbfaa
namespace Go.Proofs.Ytimdnodkabnbfaa
open Go Go.RowKit
noncomputable abbrev eZ : Fx := { fn := eD, ann := { loops := [(5, { keep := [3, 16, 17, 18] })] }, share := true }
noncomputable abbrev jj : bg := { D := { T := br, F := [(ie, ir), (dT, dV), (m6, j6), (oh, lF), (dA, dB)], R := [], ovl := [] }, inl := [] }
noncomputable abbrev uL : bF := .data kU
theorem C7 (h_chord_Right : ay prog [] ie ir) (h_chord_Members : ay prog [] dT dV) (h_ring_Before : ay prog [] m6 j6) (h_ring_After : ay prog [] oh lF) (h_slices_Equal_Member : ay prog [] dA dB) : XOk prog jj := xok (ax (ax (ax (ax (ax (aU aY aM) h_slices_Equal_Member) h_ring_After) h_ring_Before) h_chord_Members) h_chord_Right) (by kernel_rfl) aS a6 aZ
noncomputable def uR (o : den ah) : af := af.req (List.length (Prod.fst o) ≤ 1000000) (af.all (den Ty.bool) (fun (q1 : den Ty.bool) ↦ q1 = bE (Prod.fst o)) fun (q1 : den Ty.bool) ↦ af.ite (!q1) (af.ret (K.val (Ty.pair Ty.bool Ty.unit) (false, PUnit.unit))) (af.req (List.length (Prod.fst o) ≤ 1000000) (af.all (den (Ty.slc ab)) (fun (q2 : den (Ty.slc ab)) ↦ q2 = ai (Prod.fst o)) fun (q2 : den (Ty.slc ab)) ↦ af.loop [] eZ (lp eD 5) [(3, K.val (Ty.slc ab) q2), (16, K.val (Ty.slc ag) (Prod.fst o)), (17, K.val ae (lnx ag (Prod.fst o))), (18, K.val ae 0)] [])))
theorem zu (o : den ah) : ak jj uL 5000 [] eZ (aF eD) (Env.of (aK s7 (o, ()) 0) []) = uR o := by kernel_rfl
noncomputable def sG (v3 : den (Ty.slc ab)) (v16 : den (Ty.slc ag)) (v17 : den ae) (v18 : den ae) : Env := Env.of [(3, K.val (Ty.slc ab) v3), (16, K.val (Ty.slc ag) v16), (17, K.val ae v17), (18, K.val ae v18)] []
noncomputable def zo (v3 : den (Ty.slc ab)) (v16 : den (Ty.slc ag)) (v17 : den ae) (v18 : den ae) : af := af.ite (decide (v18 < v17)) (af.req (inB v18 (lnx ag v16)) (af.req True (af.all (den (Ty.pair ab (Ty.pair ae Ty.unit))) (fun (q4 : den (Ty.pair ab (Ty.pair ae Ty.unit))) ↦ q4 = (Prod.fst (fh v3 (Prod.fst (Prod.fst (el ag v16 v18)))), Prod.snd (fh v3 (Prod.fst (Prod.fst (el ag v16 v18)))), PUnit.unit)) fun (q4 : den (Ty.pair ab (Ty.pair ae Ty.unit))) ↦ af.req True (af.all (den (Ty.pair (Ty.slc ab) (Ty.pair ae Ty.unit))) (fun (q5 : den (Ty.pair (Ty.slc ab) (Ty.pair ae Ty.unit))) ↦ q5 = (Prod.fst (eJ v3 (Prod.fst (Prod.fst (el ag v16 v18))) (rU (dH (IntKind.wrap IntKind.i64 (lnx ab v3 - 1)) 4) 1)), Prod.snd (eJ v3 (Prod.fst (Prod.fst (el ag v16 v18))) (rU (dH (IntKind.wrap IntKind.i64 (lnx ab v3 - 1)) 4) 1)), PUnit.unit)) fun (q5 : den (Ty.pair (Ty.slc ab) (Ty.pair ae Ty.unit))) ↦ af.ite (decide (lnx ab v3 = 1)) (af.req (dy [(!eqb ab (Prod.fst (Prod.snd (el ag v16 v18))) (-1, zero (Ty.pair tId Ty.unit)), false)] True) (af.ite (bif !eqb ab (Prod.fst (Prod.snd (el ag v16 v18))) (-1, zero (Ty.pair tId Ty.unit)) then true else !decide (Prod.fst (Prod.snd (Prod.snd (el ag v16 v18))) = Prod.fst q5)) (af.ret (K.val (Ty.pair Ty.bool Ty.unit) (false, PUnit.unit))) (af.loop [] eZ (lp eD 5) [(3, K.val (Ty.slc ab) v3), (16, K.val (Ty.slc ag) v16), (17, K.val ae v17), (18, K.val ae (IntKind.wrap IntKind.i64 (v18 + 1)))] []))) (af.req (dy [(!eqb ab (Prod.fst (Prod.snd (el ag v16 v18))) (Prod.fst q4), false)] True) (af.ite (bif !eqb ab (Prod.fst (Prod.snd (el ag v16 v18))) (Prod.fst q4) then true else !decide (Prod.fst (Prod.snd (Prod.snd (el ag v16 v18))) = Prod.fst q5)) (af.ret (K.val (Ty.pair Ty.bool Ty.unit) (false, PUnit.unit))) (af.loop [] eZ (lp eD 5) [(3, K.val (Ty.slc ab) v3), (16, K.val (Ty.slc ag) v16), (17, K.val ae v17), (18, K.val ae (IntKind.wrap IntKind.i64 (v18 + 1)))] []))))))) (af.ret (K.val (Ty.pair Ty.bool Ty.unit) (true, PUnit.unit)))
theorem ol (v3 : den (Ty.slc ab)) (v16 : den (Ty.slc ag)) (v17 : den ae) (v18 : den ae) : ak jj uL 5000 [] eZ (lp eD 5) (sG v3 v16 v17 v18) = zo v3 v16 v17 v18 := by kernel_rfl
noncomputable abbrev bh : Fx := { fn := bj, ann := { loops := [(10, { keep := [2, 3, 5, 6, 8, 40, 41, 42] }), (15, { keep := [2, 3, 5, 6, 8, 53, 54, 55] }), (21, { keep := [2, 3, 5, 6, 8, 13, 16, 53, 54, 55] })] }, share := true }
noncomputable abbrev dR : bg := { D := { T := br, F := [(tf, s4), (mc, ma), (pr, pp), (dT, dV), (nZ, lH), (ii, iu), (eV, fS), (cV, dx)], R := [], ovl := [] }, inl := [] }
noncomputable abbrev je : bF := .data pP
theorem zt (h_l11_few : ay prog [] tf s4) (h_chord_Stable : ay prog [] mc ma) (h_l11_alive : ay prog [] pr pp) (h_chord_Members : ay prog [] dT dV) (h_ring_Owner : ay prog [] nZ lH) (h_lookup_Walk : ay prog [] ii iu) (h_ident_Far : ay prog [] eV fS) (h_ident_Compare : ay prog [] cV dx) : XOk prog dR := xok (ax (ax (ax (ax (ax (ax (ax (ax (aU aY aM) h_ident_Compare) h_ident_Far) h_lookup_Walk) h_ring_Owner) h_chord_Members) h_l11_alive) h_chord_Stable) h_l11_few) (by kernel_rfl) aS a6 aZ
noncomputable def qD (o : den ah) (id : den tId) : af := af.req True (af.all (den ah) (fun (q2 : den ah) ↦ q2 = (vz (Prod.fst o), PUnit.unit)) fun (q2 : den ah) ↦ af.req (List.length (Prod.fst q2) ≤ 1000000) (af.all (den Ty.bool) (fun (q3 : den Ty.bool) ↦ q3 = f5 (Prod.fst q2)) fun (q3 : den Ty.bool) ↦ af.ite (bif !q3 then true else decide (lnx ag (Prod.fst q2) = 0)) (af.req True (af.all (den Ty.bool) (fun (q4 : den Ty.bool) ↦ q4 = true) fun (q4 : den Ty.bool) ↦ af.ret (K.val (Ty.pair Ty.bool Ty.unit) (q4, PUnit.unit)))) (af.req (List.length (Prod.fst q2) ≤ 1000000) (af.all (den (Ty.slc ab)) (fun (q4 : den (Ty.slc ab)) ↦ q4 = ai (Prod.fst q2)) fun (q4 : den (Ty.slc ab)) ↦ af.req True (af.all (den (Ty.pair ab (Ty.pair ae Ty.unit))) (fun (q5 : den (Ty.pair ab (Ty.pair ae Ty.unit))) ↦ q5 = (Prod.fst (io q4 id), Prod.snd (io q4 id), PUnit.unit)) fun (q5 : den (Ty.pair ab (Ty.pair ae Ty.unit))) ↦ af.ite (!decide (Prod.fst (Prod.snd q5) = 0)) (af.ret (K.val (Ty.pair Ty.bool Ty.unit) (false, PUnit.unit))) (af.loop [] bh (lp bj 10) [(2, K.ptr 0 ah []), (3, K.ptr (0 + 1) tId []), (5, K.val (Ty.slc ab) q4), (6, K.ptr (0 + 1 + 1) ab []), (8, K.pm (0 + 1 + 1 + 1)), (40, K.val (Ty.slc ab) q4), (41, K.val ae (lnx ab q4)), (42, K.val ae 0)] [(0, Bx.cell ah q2), (0 + 1, Bx.cell tId id), (0 + 1 + 1, Bx.cell ab (Prod.fst q5)), (0 + 1 + 1 + 1, Bx.mpd ae tId [])]))))))
theorem wl (o : den ah) (id : den tId) : ak dR je 5000 [] bh (aF bj) (Env.of (aK eE (o, id, ()) 0) []) = qD o id := by kernel_rfl
noncomputable def nR (v5 : den (Ty.slc ab)) (v40 : den (Ty.slc ab)) (v41 : den ae) (v42 : den ae) (b0 : den ah) (b1 : den tId) (b2 : den ab) (b3 : List (den ae × den tId)) : Env := Env.of [(2, K.ptr 0 ah []), (3, K.ptr (0 + 1) tId []), (5, K.val (Ty.slc ab) v5), (6, K.ptr (0 + 1 + 1) ab []), (8, K.pm (0 + 1 + 1 + 1)), (40, K.val (Ty.slc ab) v40), (41, K.val ae v41), (42, K.val ae v42)] [(0, Bx.cell ah b0), (1, Bx.cell tId b1), (2, Bx.cell ab b2), (3, Bx.mpd ae tId b3)]
noncomputable def uW (v5 : den (Ty.slc ab)) (v40 : den (Ty.slc ab)) (v41 : den ae) (v42 : den ae) (b0 : den ah) (b1 : den tId) (b2 : den ab) (b3 : List (den ae × den tId)) : af := af.ite (decide (v42 < v41)) (af.req (inB v42 (lnx ab v40)) (af.loop [] bh (lp bj 10) [(2, K.ptr 0 ah []), (3, K.ptr (0 + 1) tId []), (5, K.val (Ty.slc ab) v5), (6, K.ptr (0 + 1 + 1) ab []), (8, K.pm (0 + 1 + 1 + 1)), (40, K.val (Ty.slc ab) v40), (41, K.val ae v41), (42, K.val ae (IntKind.wrap IntKind.i64 (v42 + 1)))] [(0, Bx.cell ah b0), (0 + 1, Bx.cell tId b1), (0 + 1 + 1, Bx.cell ab b2), (0 + 1 + 1 + 1, Bx.mpd ae tId (jU b3 (Prod.fst (el ab v40 v42)) (Prod.fst (Prod.snd (el ab v40 v42)))))])) (af.loop [] bh (lp bj 15) [(2, K.ptr 0 ah []), (3, K.ptr (0 + 1) tId []), (5, K.val (Ty.slc ab) v5), (6, K.ptr (0 + 1 + 1) ab []), (8, K.pm (0 + 1 + 1 + 1)), (53, K.val (Ty.slc ag) (Prod.fst b0)), (54, K.val ae (lnx ag (Prod.fst b0))), (55, K.val ae 0)] [(0, Bx.cell ah b0), (0 + 1, Bx.cell tId b1), (0 + 1 + 1, Bx.cell ab b2), (0 + 1 + 1 + 1, Bx.mpd ae tId b3)])
theorem lM (v5 : den (Ty.slc ab)) (v40 : den (Ty.slc ab)) (v41 : den ae) (v42 : den ae) (b0 : den ah) (b1 : den tId) (b2 : den ab) (b3 : List (den ae × den tId)) : ak dR je 5000 [] bh (lp bj 10) (nR v5 v40 v41 v42 b0 b1 b2 b3) = uW v5 v40 v41 v42 b0 b1 b2 b3 := by kernel_rfl
noncomputable def gw (v5 : den (Ty.slc ab)) (v53 : den (Ty.slc ag)) (v54 : den ae) (v55 : den ae) (b0 : den ah) (b1 : den tId) (b2 : den ab) (b3 : List (den ae × den tId)) : Env := Env.of [(2, K.ptr 0 ah []), (3, K.ptr (0 + 1) tId []), (5, K.val (Ty.slc ab) v5), (6, K.ptr (0 + 1 + 1) ab []), (8, K.pm (0 + 1 + 1 + 1)), (53, K.val (Ty.slc ag) v53), (54, K.val ae v54), (55, K.val ae v55)] [(0, Bx.cell ah b0), (1, Bx.cell tId b1), (2, Bx.cell ab b2), (3, Bx.mpd ae tId b3)]
noncomputable def vD (v5 : den (Ty.slc ab)) (v53 : den (Ty.slc ag)) (v54 : den ae) (v55 : den ae) (b0 : den ah) (b1 : den tId) (b2 : den ab) (b3 : List (den ae × den tId)) : af := af.ite (decide (v55 < v54)) (af.req (inB v55 (lnx ag v53)) (af.req (List.length (Prod.fst b0) ≤ 1000000) (af.all (den (Ty.pair (Ty.slc ae) (Ty.pair ab (Ty.pair ae Ty.unit)))) (fun (q8 : den (Ty.pair (Ty.slc ae) (Ty.pair ab (Ty.pair ae Ty.unit)))) ↦ q8 = (Prod.fst (cI (Prod.fst b0) (Prod.fst (Prod.fst (el ag v53 v55))) b1 16), Prod.fst (Prod.snd (cI (Prod.fst b0) (Prod.fst (Prod.fst (el ag v53 v55))) b1 16)), Prod.snd (Prod.snd (cI (Prod.fst b0) (Prod.fst (Prod.fst (el ag v53 v55))) b1 16)), PUnit.unit)) fun (q8 : den (Ty.pair (Ty.slc ae) (Ty.pair ab (Ty.pair ae Ty.unit)))) ↦ af.req (dy [(bif bif !decide (Prod.fst (Prod.snd (Prod.snd q8)) = 0) then true else !eqb ab (Prod.fst (Prod.snd q8)) b2 then true else decide (lnx ae (Prod.fst q8) = 0), false)] (inB 0 (lnx ae (Prod.fst q8)))) (af.req (dy [(bif bif bif !decide (Prod.fst (Prod.snd (Prod.snd q8)) = 0) then true else !eqb ab (Prod.fst (Prod.snd q8)) b2 then true else decide (lnx ae (Prod.fst q8) = 0) then true else !decide (el ae (Prod.fst q8) 0 = Prod.fst (Prod.fst (el ag v53 v55))), false)] (inB (IntKind.wrap IntKind.i64 (lnx ae (Prod.fst q8) - 1)) (lnx ae (Prod.fst q8)))) (af.ite (bif bif bif bif bif !decide (Prod.fst (Prod.snd (Prod.snd q8)) = 0) then true else !eqb ab (Prod.fst (Prod.snd q8)) b2 then true else decide (lnx ae (Prod.fst q8) = 0) then true else !decide (el ae (Prod.fst q8) 0 = Prod.fst (Prod.fst (el ag v53 v55))) then true else !decide (el ae (Prod.fst q8) (IntKind.wrap IntKind.i64 (lnx ae (Prod.fst q8) - 1)) = Prod.fst b2) then true else decide (lnx ab v5 < lnx ae (Prod.fst q8))) (af.ret (K.val (Ty.pair Ty.bool Ty.unit) (false, PUnit.unit))) (af.loop [] bh (lp bj 21) [(2, K.ptr 0 ah []), (3, K.ptr (0 + 1) tId []), (5, K.val (Ty.slc ab) v5), (6, K.ptr (0 + 1 + 1) ab []), (8, K.pm (0 + 1 + 1 + 1)), (13, K.val (Ty.slc ae) (Prod.fst q8)), (16, K.val ae 1), (53, K.val (Ty.slc ag) v53), (54, K.val ae v54), (55, K.val ae v55)] [(0, Bx.cell ah b0), (0 + 1, Bx.cell tId b1), (0 + 1 + 1, Bx.cell ab b2), (0 + 1 + 1 + 1, Bx.mpd ae tId b3)])))))) (af.req True (af.all (den Ty.bool) (fun (q8 : den Ty.bool) ↦ q8 = true) fun (q8 : den Ty.bool) ↦ af.ret (K.val (Ty.pair Ty.bool Ty.unit) (q8, PUnit.unit))))
theorem lC (v5 : den (Ty.slc ab)) (v53 : den (Ty.slc ag)) (v54 : den ae) (v55 : den ae) (b0 : den ah) (b1 : den tId) (b2 : den ab) (b3 : List (den ae × den tId)) : ak dR je 5000 [] bh (lp bj 15) (gw v5 v53 v54 v55 b0 b1 b2 b3) = vD v5 v53 v54 v55 b0 b1 b2 b3 := by kernel_rfl
noncomputable def nO (v5 : den (Ty.slc ab)) (v13 : den (Ty.slc ae)) (v16 : den ae) (v53 : den (Ty.slc ag)) (v54 : den ae) (v55 : den ae) (b0 : den ah) (b1 : den tId) (b2 : den ab) (b3 : List (den ae × den tId)) : Env := Env.of [(2, K.ptr 0 ah []), (3, K.ptr (0 + 1) tId []), (5, K.val (Ty.slc ab) v5), (6, K.ptr (0 + 1 + 1) ab []), (8, K.pm (0 + 1 + 1 + 1)), (13, K.val (Ty.slc ae) v13), (16, K.val ae v16), (53, K.val (Ty.slc ag) v53), (54, K.val ae v54), (55, K.val ae v55)] [(0, Bx.cell ah b0), (1, Bx.cell tId b1), (2, Bx.cell ab b2), (3, Bx.mpd ae tId b3)]
noncomputable def jA (v5 : den (Ty.slc ab)) (v13 : den (Ty.slc ae)) (v16 : den ae) (v53 : den (Ty.slc ag)) (v54 : den ae) (v55 : den ae) (b0 : den ah) (b1 : den tId) (b2 : den ab) (b3 : List (den ae × den tId)) : af := af.ite (decide (IntKind.wrap IntKind.i64 (v16 + 1) < lnx ae v13)) (af.req (inB (IntKind.wrap IntKind.i64 (v16 - 1)) (lnx ae v13)) (af.req (dy [(!eqb tId (eW b3 (el ae v13 (IntKind.wrap IntKind.i64 (v16 - 1)))) b1, true)] (inB v16 (lnx ae v13))) (af.req (dy [(!eqb tId (eW b3 (el ae v13 (IntKind.wrap IntKind.i64 (v16 - 1)))) b1, true)] True) (af.req (dy [(!eqb tId (eW b3 (el ae v13 (IntKind.wrap IntKind.i64 (v16 - 1)))) b1, true)] (inB (IntKind.wrap IntKind.i64 (v16 - 1)) (lnx ae v13))) (af.req (dy [(!eqb tId (eW b3 (el ae v13 (IntKind.wrap IntKind.i64 (v16 - 1)))) b1, true)] True) (af.req (dy [(!eqb tId (eW b3 (el ae v13 (IntKind.wrap IntKind.i64 (v16 - 1)))) b1, true)] True) (af.ite (bif !eqb tId (eW b3 (el ae v13 (IntKind.wrap IntKind.i64 (v16 - 1)))) b1 then decide (0 ≤ fQ (aW (eW b3 (el ae v13 v16)) b1) (aW (eW b3 (el ae v13 (IntKind.wrap IntKind.i64 (v16 - 1)))) b1)) else false) (af.ret (K.val (Ty.pair Ty.bool Ty.unit) (false, PUnit.unit))) (af.loop [] bh (lp bj 21) [(2, K.ptr 0 ah []), (3, K.ptr (0 + 1) tId []), (5, K.val (Ty.slc ab) v5), (6, K.ptr (0 + 1 + 1) ab []), (8, K.pm (0 + 1 + 1 + 1)), (13, K.val (Ty.slc ae) v13), (16, K.val ae (IntKind.wrap IntKind.i64 (v16 + 1))), (53, K.val (Ty.slc ag) v53), (54, K.val ae v54), (55, K.val ae v55)] [(0, Bx.cell ah b0), (0 + 1, Bx.cell tId b1), (0 + 1 + 1, Bx.cell ab b2), (0 + 1 + 1 + 1, Bx.mpd ae tId b3)])))))))) (af.loop [] bh (lp bj 15) [(2, K.ptr 0 ah []), (3, K.ptr (0 + 1) tId []), (5, K.val (Ty.slc ab) v5), (6, K.ptr (0 + 1 + 1) ab []), (8, K.pm (0 + 1 + 1 + 1)), (53, K.val (Ty.slc ag) v53), (54, K.val ae v54), (55, K.val ae (IntKind.wrap IntKind.i64 (v55 + 1)))] [(0, Bx.cell ah b0), (0 + 1, Bx.cell tId b1), (0 + 1 + 1, Bx.cell ab b2), (0 + 1 + 1 + 1, Bx.mpd ae tId b3)])
theorem lP (v5 : den (Ty.slc ab)) (v13 : den (Ty.slc ae)) (v16 : den ae) (v53 : den (Ty.slc ag)) (v54 : den ae) (v55 : den ae) (b0 : den ah) (b1 : den tId) (b2 : den ab) (b3 : List (den ae × den tId)) : ak dR je 5000 [] bh (lp bj 21) (nO v5 v13 v16 v53 v54 v55 b0 b1 b2 b3) = jA v5 v13 v16 v53 v54 v55 b0 b1 b2 b3 := by kernel_rfl
end Go.Proofs.Ytimdnodkabnbfaa
namespace Go.Proofs.Ytimdnodkabnbfaa
open Go Go.RowKit
theorem Mp (l : List Nd) : (ai l).length = l.length := by unfold ai; rw [List.length_map]
abbrev GSt (O : Nat → Prop) (w0 : World) (y : Bool) := bI prog jj (Cx.base O w0) (cC prog O w0 kU fun z => z = (y, ()))
theorem oq : XOk prog jj := C7 xd nX Ew FF nD
def JN (O : Nat → Prop) (w0 : World) (M : List Mem) (l : List Nd) (hm : l.length ≤ 1000000) (hM : M.length ≤ 1000000) :=
 PLift.up <| bG (σ := Unit) l.length (fun i _ => ((l.take i).all (stN M)) = true)
  (fun i _ => GSt O w0 (l.all (stN M)) [] eZ (lp eD 5) (sG M l (lnx ag l) (i : Nat)))
  (fun i _ hi hs ih => aI oq (ol M l _ _) (by
   have hw : IntKind.wrap .i64 (lnx ab M - 1) = ((M.length : Nat) : Int) - 1 := dr (n := ((M.length : Nat) : Int) - 1) (by omega)
   refine ⟨fun _ => ⟨a8 hi, trivial, bD ⟨trivial, bD ?_⟩⟩, fun hc => absurd hi (by rw [cF (e := ag)] at hc; exact of_decide_eq_false hc)⟩
   rw [bX (e := ag) hi, cz hi (Nat.le_trans hm (by decide)), hw]
   have fin : ∀ P : Mem, stP M l[i].1 = P → ∀ c : Bool, (bif !eqb ab l[i].2.1 P then true else !decide (l[i].2.2.1 = (eJ M l[i].1.1 (rU (dH (((M.length : Nat) : Int) - 1) 4) 1)).1) ) = c → stN M l[i] = !c := fun P hP c hc => by
    rw [lS] at hc
    unfold stN stS
    rw [hP, ← hc]
    cases decide (l[i].2.1 = P) with
    | false => rfl
    | true => simp
   have bad : stN M l[i] = false → l.all (stN M) = false := fun h => List.all_eq_false.2 ⟨l[i], List.getElem_mem hi, by rw [h]; decide⟩
   have good : stN M l[i] = true → (l.take (i + 1)).all (stN M) = true := fun h => by
    rw [List.take_succ_eq_append_getElem hi, List.all_append, hs]
    simp [h]
   refine ⟨fun h1 => ⟨fun _ => trivial, fun h2 => ⟨_, rfl, ?_⟩, fun h2 => ih () ?_⟩, fun h1 => ⟨fun _ => trivial, fun h2 => ⟨_, rfl, ?_⟩, fun h2 => ih () ?_⟩⟩
   ·rw [bad (fin noM (by unfold stP; rw [h1]; rfl) true h2)]
   ·exact good (fin noM (by unfold stP; rw [h1]; rfl) false h2)
   ·rw [bad (fin _ (by unfold stP; rw [h1]; rfl) true h2)]
   ·exact good (fin _ (by unfold stP; rw [h1]; rfl) false h2)))
  (fun _ hs => aI oq (ol M l _ _) ⟨fun hc => absurd (of_decide_eq_true hc) (Int.lt_irrefl _), fun _ => ⟨_, rfl, by
   rw [List.take_length] at hs
   rw [hs]⟩⟩)
theorem CS : ay prog [] mc ma :=
 bR (S := ma) oq (fx := eZ) Bm (by kernel_rfl) (fun h => by cases h) (T := fun x => uR x.1) (fun x => zu x.1) fun O w0 x _ hp => by
  obtain ⟨o, ⟨⟩⟩ := x
  have hp : o.1.length ≤ 1000000 := hp
  have e : ∀ c : Bool, (!bE o.1) = c → f5 o.1 = bif c then false else o.1.all (stN (ai o.1)) := fun c h => by unfold f5; rw [h]
  refine ⟨hp, bD ⟨fun h => ⟨_, rfl, ?_⟩, fun h => ⟨hp, bD ?_⟩⟩⟩
  ·show _ = (f5 o.1, ())
   rw [e true h]; rfl
  ·show bI _ _ _ (cC prog O w0 kU fun z => z = (f5 o.1, ())) _ _ _ _
   rw [e false h]
   exact (JN O w0 (ai o.1) o.1 hp (by rw [Mp]; exact hp)).down 0 () (Nat.zero_le _) rfl
theorem HQ {l : List Nd} (h : bE l = true) : bp (ai l) = true := by
 unfold bE at h
 rw [Bool.and_eq_true] at h
 exact h.2
abbrev OkO (l : List Nd) : Prop := ∀ n ∈ l, OkN n
theorem HW {l : List Nd} (h : OkO l) : OkM (ai l) := fun m hm => by
 obtain ⟨n, hn, rfl⟩ := List.mem_map.1 hm
 exact (H4 (h n hn)).1
theorem NF {l : List Nd} (h : OkO l) : OkO (vz l) := fun n hn => by
 obtain ⟨x, hx, rfl⟩ := List.mem_map.1 hn
 have hx := List.mem_of_mem_take hx
 obtain ⟨k1, k2, k3, k4⟩ := H4 (h x hx)
 refine ⟨k1, k2, ⟨?_, fun m hm => k3 m (List.mem_of_mem_take hm)⟩, ⟨?_, fun m hm => k4 m (List.mem_of_mem_take hm)⟩, trivial⟩
 ·exact Nat.le_trans (show (x.2.2.1.take 6).length ≤ 6 by rw [List.length_take]; omega) (by decide)
 ·exact Nat.le_trans (show (x.2.2.2.1.take 18).length ≤ 18 by rw [List.length_take]; omega) (by decide)
end Go.Proofs.Ytimdnodkabnbfaa
namespace Go.Proofs.Ytimdnodkabnbfaa
open Go Go.RowKit
theorem Db {α : Type} {p q : α → Bool} (h : ∀ y, p y = true → q y = true) : ∀ {l : List α} {x : α}, x ∈ l → q x = true → p x = false → (l.filter p).length < (l.filter q).length
 | y :: l, x, hx, hq, hp => by
  have sub : (l.filter p).length ≤ (l.filter q).length := by
   have : ∀ l : List α, (l.filter p).length ≤ (l.filter q).length := fun l => by
    induction l with
    | nil => exact Nat.le_refl _
    | cons z l ih =>
     cases hz : p z with
     | true => rw [List.filter_cons_of_pos hz, List.filter_cons_of_pos (h z hz)]; exact Nat.succ_le_succ ih
     | false =>
      rw [List.filter_cons_of_neg (by rw [hz]; decide)]
      exact Nat.le_trans ih (by
       cases hqz : q z with
       | true => rw [List.filter_cons_of_pos hqz]; exact Nat.le_succ _
       | false => rw [List.filter_cons_of_neg (by rw [hqz]; decide)]; exact Nat.le_refl _)
   exact this l
  rcases List.mem_cons.1 hx with rfl | hx
  ·rw [List.filter_cons_of_neg (by rw [hp]; decide), List.filter_cons_of_pos hq]
   exact Nat.lt_succ_of_le sub
  ·have ih := Db h hx hq hp
   cases hz : p y with
   | true => rw [List.filter_cons_of_pos hz, List.filter_cons_of_pos (h y hz)]; exact Nat.succ_lt_succ ih
   | false =>
    rw [List.filter_cons_of_neg (by rw [hz]; decide)]
    refine Nat.lt_of_lt_of_le ih ?_
    cases hqz : q y with
    | true => rw [List.filter_cons_of_pos hqz]; exact Nat.le_succ _
    | false => rw [List.filter_cons_of_neg (by rw [hqz]; decide)]; exact Nat.le_refl _
theorem F4 {α : Type} {p : α → Bool} {l : List α} {x : α} (hx : x ∈ l) (hp : p x = false) : (l.filter p).length + 1 ≤ l.length := by
 have := Db (p := p) (q := fun _ => true) (fun _ _ => rfl) hx rfl hp
 rw [show l.filter (fun _ => true) = l from List.filter_eq_self.2 fun _ _ => rfl] at this
 exact this
theorem GJ {α : Type} {p : α → Bool} : ∀ {l : List α} {x o : α}, x ∈ l → o ∈ l → x ≠ o → p x = false → p o = false → (l.filter p).length + 2 ≤ l.length
 | y :: l, x, o, hx, ho, hne, hpx, hpo => by
  rcases List.mem_cons.1 hx with rfl | hx'
  ·rcases List.mem_cons.1 ho with e | ho'
   ·exact absurd e.symm hne
   ·rw [List.filter_cons_of_neg (by rw [hpx]; decide)]
    have := F4 ho' hpo
    rw [List.length_cons]; omega
  ·rcases List.mem_cons.1 ho with e | ho'
   ·subst e
    rw [List.filter_cons_of_neg (by rw [hpo]; decide)]
    have := F4 hx' hpx
    rw [List.length_cons]; omega
   ·have ih := GJ hx' ho' hne hpx hpo
    rw [List.length_cons]
    cases hz : p y with
    | true => rw [List.filter_cons_of_pos hz, List.length_cons]; omega
    | false => rw [List.filter_cons_of_neg (by rw [hz]; decide)]; omega
theorem HA {self id : List Int} {l : List Mem} {x : Mem} (hx : x ∈ l) (hb : jT self id x = true) : (cr id self l).2 = 0 ∧ (cr id self l).1 ∈ l ∧ jT self id (cr id self l).1 = true := by
 have hne : x ∈ l.filter (jT self id) := List.mem_filter.2 ⟨hx, hb⟩
 unfold cr
 cases hq : l.filter (jT self id) with
 | nil => rw [hq] at hne; cases hne
 | cons y t =>
  rw [List.foldl_cons]
  have h0 : gv self (zero ab, 6) y = (y, 0) := rfl
  rw [h0]
  have mem : ∀ z ∈ y :: t, z ∈ l ∧ jT self id z = true := fun z hz => by rw [← hq] at hz; exact List.mem_filter.1 hz
  rcases Gd self t (y, 0) with h | ⟨h1, h2⟩
  ·rw [h]; exact ⟨rfl, mem y List.mem_cons_self⟩
  ·exact ⟨h1, mem _ (List.mem_cons_of_mem _ h2)⟩
theorem K0 {l : List Nd} (hr : bE l = true) {n : Nd} (hn : n ∈ l) {c : Mem} (hc : c ∈ cy n) (hl : ft l c.1 = true) : c ∈ ai l := by
 obtain ⟨i, hi, rfl⟩ := List.getElem_of_mem hn
 have hok := Ai hr hi
 unfold jq at hok
 rw [bX (e := ag) hi] at hok
 cases hb : Fs l (i : Nat) with
 | true => rw [hb] at hok; cases hok
 | false =>
  rw [hb] at hok
  have hk := List.all_eq_true.1 (show ((cy l[i]).all fun m => !oz l m) = true from hok) c hc
  have hk : oz l c = false := by simpa using hk
  unfold oz at hk
  rcases DP l c.1 with ⟨h1, h2, h3, n', hn', hnm⟩ | ⟨h1, h2⟩
  ·rw [h1] at hk
   have hk : (!decide ((dP l c.1).1 = c)) = false := hk
   have hk : (dP l c.1).1 = c := by simpa using hk
   rw [← hk, ← hnm]
   exact List.mem_map.2 ⟨n', hn', rfl⟩
  ·have h3 : zj l c.1 = true := by rw [LA (IY hr)]; exact hl
   unfold zj at h3
   rw [h2] at h3
   by_cases hn0 : noM.1 = c.1
   ·rw [← hn0] at h3
    have : (bif decide (noM.1 = noM.1) then decide ((0 : Int) ≤ noM.1) else false) = false := by decide
    rw [this] at h3; cases h3
   ·rw [decide_eq_false hn0] at h3; cases h3
theorem vV {l : List Nd} {m : Mem} (h : m ∈ ai l) : ft l m.1 = true := by
 obtain ⟨n, hn, rfl⟩ := List.mem_map.1 h
 exact Fe hn
theorem Fz {l : List Nd} {self : Int} {n : Nd} {m : Mem} (h : ft l m.1 = true) : bB self (jb l n) m = false := by
 unfold bB
 have : ((jb l n).any fun x => decide (x = m.1)) = false := List.any_eq_false.2 fun x hx hd => by
  obtain ⟨y, hy, rfl⟩ := List.mem_map.1 hx
  obtain ⟨_, hy2⟩ := List.mem_filter.1 hy
  rw [of_decide_eq_true hd, h] at hy2
  cases hy2
 rw [this]
 cases decide (m.1 = self) <;> rfl
theorem Lu {l : List Nd} {self : Int} {n : Nd} {s : List Mem} (h : ∀ m ∈ s, ft l m.1 = true) : (s.filter fun m => !bB self (jb l n) m) = s :=
 List.filter_eq_self.2 fun m hm => by rw [Fz (h m hm)]; rfl
theorem wq (l : List Mem) (m : Mem) : ∀ n, (kH l m (n + 1)).1 = bN l m :: (kH l (bN l m) n).1 ∧ (kH l m (n + 1)).2 = (kH l (bN l m) n).2
 | 0 => ⟨rfl, rfl⟩
 | n + 1 => by
  obtain ⟨h1, h2⟩ := wq l m n
  have e : kH l m (n + 1 + 1) = ((kH l m (n + 1)).1 ++ [bN l (kH l m (n + 1)).2], bN l (kH l m (n + 1)).2) := rfl
  rw [e, h1, h2]
  exact ⟨rfl, rfl⟩
theorem If {l : List Mem} (hr : bp l = true) (hk : OkM l) : ∀ (n : Nat) {m : Mem}, m ∈ l → ∀ x ∈ (kH l m n).1, x ∈ l
 | 0, _, _, x, hx => by cases hx
 | n + 1, m, hm, x, hx => by
  rw [(wq l m n).1] at hx
  rcases List.mem_cons.1 hx with rfl | hx
  ·exact nk hr hk hm
  ·exact If hr hk n (nk hr hk hm) x hx
structure Stb (l : List Nd) : Prop where
 right : bE l = true
 ok : OkO l
 st : ∀ n ∈ l, n.2.1 = stP (ai l) n.1 ∧ n.2.2.1 = stS (ai l) n.1
theorem No {l : List Nd} (h : f5 l = true) (hk : OkO l) : Stb l := by
 unfold f5 at h
 cases hr : bE l with
 | false => rw [hr] at h; cases h
 | true =>
  rw [hr] at h
  refine ⟨hr, hk, fun n hn => ?_⟩
  have := List.all_eq_true.1 (show l.all (stN (ai l)) = true from h) n hn
  unfold stN at this
  by_cases h1 : n.2.1 = stP (ai l) n.1
  ·rw [decide_eq_true h1] at this
   exact ⟨h1, of_decide_eq_true this⟩
  ·rw [decide_eq_false h1] at this; cases this
section
variable {l : List Nd}
theorem Stb.ring (h : Stb l) : bp (ai l) = true := HQ h.right
theorem Stb.okm (h : Stb l) : OkM (ai l) := HW h.ok
theorem Stb.small (h : Stb l) : (ai l).length ≤ 16 := (fy h.ring).len
theorem Stb.succs (h : Stb l) {n : Nd} (hn : n ∈ l) : ∃ c : Nat, n.2.2.1 = bN (ai l) n.1 :: (kH (ai l) (bN (ai l) n.1) c).1 := by
 have hm : n.1 ∈ ai l := List.mem_map.2 ⟨n, hn, rfl⟩
 have hs := h.small
 obtain ⟨c, hc, hc16⟩ : ∃ c : Nat, rU (dH (((ai l).length : Int) - 1) 4) 1 = ((c + 1 : Nat) : Int) ∧ c + 1 ≤ 16 := by
  refine ⟨(rU (dH (((ai l).length : Int) - 1) 4) 1 - 1).toNat, ?_, ?_⟩ <;> unfold rU dH <;> split <;> split <;> omega
 refine ⟨c, ?_⟩
 rw [(h.st n hn).2]
 unfold stS
 rw [hc, IF h.ring hm hc16, ← (wq (ai l) n.1 c).1, J4 h.ring h.okm hm]
theorem Stb.succ_in (h : Stb l) {n : Nd} (hn : n ∈ l) : ∀ m ∈ n.2.2.1, m ∈ ai l := fun m hm => by
 have hm0 : n.1 ∈ ai l := List.mem_map.2 ⟨n, hn, rfl⟩
 obtain ⟨c, hc⟩ := h.succs hn
 rw [hc] at hm
 rcases List.mem_cons.1 hm with rfl | hm
 ·exact nk h.ring h.okm hm0
 ·exact If h.ring h.okm c (nk h.ring h.okm hm0) m hm
theorem Stb.drop (h : Stb l) {n : Nd} (hn : n ∈ l) : ∃ F : List Mem, ox l n = (n.1, n.2.1, n.2.2.1, F, ()) ∧ (∀ m ∈ F, m ∈ ai l) ∧ NOk (ox l n) := by
  have hr := we h.right hn
  have hok := (Dg n).1 hr
  have ha := MV (l := l) hr
  have hd := M5 hok (jb l n)
  refine ⟨n.2.2.2.1.filter fun m => !bB n.1.1 (jb l n) m, ?_, fun m hm => ?_, by rw [ha]; exact hd⟩
  · rw [ha]
    unfold ne
    have e1 : (n.2.2.1.filter fun m => !bB n.1.1 (jb l n) m) = n.2.2.1 := Lu fun m hm => vV (h.succ_in hn m hm)
    have e2 : tQ n n.2.2.1 = n.2.2.1 := by
      obtain ⟨c, hc⟩ := h.succs hn
      rw [hc, BR]
    have e3 : (bif (bif !decide (n.2.1 = noM) then bB n.1.1 (jb l n) n.2.1 else false) then noM else n.2.1) = n.2.1 := by
      by_cases hp : n.2.1 = noM
      · rw [decide_eq_true hp]; rfl
      · have hlv : ft l n.2.1.1 = true := by
          rw [(h.st n hn).1] at hp ⊢
          unfold stP at hp ⊢
          by_cases h1 : lnx ab (ai l) = 1
          · rw [decide_eq_true h1] at hp; exact absurd rfl hp
          · rw [decide_eq_false h1]
            obtain ⟨b, hb1, hb2, _⟩ := D9 h.ring h.okm (show n.1 ∈ ai l from List.mem_map.2 ⟨n, hn, rfl⟩)
            show ft l (fh (ai l) n.1.1).1.1 = true
            rw [hb1]; exact vV hb2
        rw [Fz hlv]
        cases (!decide (n.2.1 = noM)) <;> rfl
    rw [e1, e2, e3]
  · have hm' := JW hn (show m ∈ (ne n (jb l n)).2.2.2.1 from hm)
    exact K0 h.right hn (List.mem_append_right _ (List.mem_filter.1 hm).1) hm'
abbrev dst (id : List Int) (m : Mem) : Int := rky aT (bU m) (vB id)
theorem DD (h : Stb l) {m : Mem} (hm : m ∈ ai l) (hk : (ai l).length ≠ 1) : bN (ai l) m ≠ m := fun e => by
 have hn := qJ h.ring h.okm hm
 rw [e] at hn
 have hrng := (fy h.ring).rng h.okm
 have h0 : 0 < (ai l).length := List.length_pos_of_mem hm
 obtain ⟨y, hy, hne⟩ : ∃ y ∈ ai l, y ≠ m := by
  refine Classical.byContradiction fun hno => hk ?_
  have hall : ∀ y ∈ ai l, y = m := fun y hy => Classical.byContradiction fun hne => hno ⟨y, hy, hne⟩
  have hnd := (fy h.ring).nodup
  match hq : ai l, h0 with
  | [z], _ => rfl
  | z :: w :: t, _ =>
   exfalso
   rw [hq] at hall hnd
   have e1 := hall z List.mem_cons_self
   have e2 := hall w (List.mem_cons_of_mem _ List.mem_cons_self)
   rw [e1, e2] at hnd
   exact (List.nodup_cons.1 hnd).1 List.mem_cons_self
 have hle := hn.2 y hy
 have rm := hrng.in' m hm
 have ry := hrng.in' y hy
 rw [wx rm rm, wx rm ry, if_pos rfl] at hle
 have hpne : ¬ bU y = bU m := fun e => hne (hrng.inj y hy m hm e)
 rw [if_neg hpne] at hle
 have := (iX rm ry).2
 omega
theorem Stb.asks (h : Stb l) {n : Nd} (hn : n ∈ l) {id : List Int} (hid : gx id) {o : Mem} (ho : gr bU aT (vB id) (ai l) o) :
    (n.1 = o ∧ sc l n id = (o, true, ())) ∨ (n.1 ≠ o ∧ sc l n id = (o, true, ())) ∨ (n.1 ≠ o ∧ ∃ c ∈ ai l, sc l n id = (c, false, ()) ∧ c ≠ o ∧ c ≠ n.1 ∧ dst id c < dst id n.1) := by
  obtain ⟨F, hF, hFin, hNok⟩ := h.drop hn
  have hm : n.1 ∈ ai l := List.mem_map.2 ⟨n, hn, rfl⟩
  obtain ⟨cc, hcs⟩ := h.succs hn
  have hrD := (Dg _).2 hNok
  have hf0 : el ab n.2.2.1 0 = bN (ai l) n.1 := by rw [hcs]; rfl
  have hrng := (fy h.ring).rng h.okm
  unfold sc
  by_cases hk : (ai l).length = 1
  · left
    have hl1 : lnx ab (ai l) = 1 := by
      show (((ai l).length : Nat) : Int) = 1
      rw [hk]; rfl
    have hall : ∀ x ∈ ai l, x = n.1 := fun x hx => by
      match hq : ai l, hk with
      | [z], _ =>
        rw [hq] at hx hm
        rw [List.mem_singleton.1 hx, List.mem_singleton.1 hm]
    have hon : o = n.1 := hall o ho.1
    have hno : mf (ox l n) id = false := by
      unfold mf
      rw [hrD, hF, (h.st n hn).1]
      unfold stP
      rw [decide_eq_true hl1]
      rfl
    have hnx : cY (ox l n) id = (n.1, true, 0) := by
      unfold cY
      rw [hrD, hF]
      have e1 : bN (ai l) n.1 = n.1 := hall _ (nk h.ring h.okm hm)
      show (bif gk id n.1.2.1 (el ab n.2.2.1 0).2.1 then (el ab n.2.2.1 0, true, (0 : Int)) else _) = _
      rw [hf0, e1]
      have : gk id n.1.2.1 n.1.2.1 = true := by unfold gk; rw [if_pos rfl]
      rw [this]; rfl
    rw [hno, hnx, hon]
    exact ⟨rfl, rfl⟩
  · have hl1 : ¬ lnx ab (ai l) = 1 := fun e => hk (by
      have e : (((ai l).length : Nat) : Int) = 1 := e
      omega)
    obtain ⟨b, hb1, hb2, hb3⟩ := D9 h.ring h.okm hm
    have hp : n.2.1 = b := by
      rw [(h.st n hn).1]
      unfold stP
      rw [decide_eq_false hl1, hb1]; rfl
    have hpn : n.2.1 ≠ noM := fun e => by
      have := ((fy h.ring).no b hb2).1
      rw [← hp, e] at this
      exact absurd this (by decide)
    have hown : mf (ox l n) id = decide (n.1 = o) := by
      unfold mf
      rw [hrD, hF]
      show (bif (bif true then !decide (n.2.1 = noM) else false) then gk id n.2.1.2.1 n.1.2.1 else false) = _
      rw [decide_eq_false hpn, hp]
      exact Ga h.ring h.okm hid ho hb2 hm hb3
    by_cases hno : n.1 = o
    · left
      rw [hown, decide_eq_true hno, hF]
      exact ⟨hno, by rw [← hno]; rfl⟩
    · right
      rw [hown, decide_eq_false hno]
      have hfin := Ga h.ring h.okm hid ho hm (nk h.ring h.okm hm) rfl
      by_cases hfo : bN (ai l) n.1 = o
      · left
        refine ⟨hno, ?_⟩
        have hnx : cY (ox l n) id = (o, true, 0) := by
          unfold cY
          rw [hrD, hF]
          show (bif gk id n.1.2.1 (el ab n.2.2.1 0).2.1 then (el ab n.2.2.1 0, true, (0 : Int)) else _) = _
          rw [hf0, hfin, decide_eq_true hfo, hfo]; rfl
        rw [hnx]; rfl
      · right
        refine ⟨hno, ?_⟩
        have hfin0 : gk id n.1.2.1 (bN (ai l) n.1).2.1 = false := by rw [hfin, decide_eq_false hfo]
        have hfm := nk h.ring h.okm hm
        have hx := dX (h.okm _ hm)
        have hf := dX (h.okm _ hfm)
        have hnf : n.1.2.1 ≠ (bN (ai l) n.1).2.1 := fun e => DD h hm hk ((fy h.ring).inj hfm hm (.inr e.symm))
        have rx := iZ hx
        have rf := iZ hf
        have ri := iZ hid
        have hik : ¬ (0 < rky aT (bU n.1) (vB id) ∧ rky aT (bU n.1) (vB id) ≤ rky aT (bU n.1) (bU (bN (ai l) n.1))) := fun hh => by
          rw [(J1 hid hx hf hnf).2 hh] at hfin0
          cases hfin0
        have hidx : vB id ≠ bU n.1 := fun e => hno (by
          have hz : rky aT (vB id) (bU n.1) = 0 := by rw [← e, rq]
          have hmo := ho.2 n.1 hm
          rw [hz] at hmo
          have ro := hrng.in' o ho.1
          have := (iX ri ro).1
          have e0 : rky aT (vB id) (bU o) = 0 := by omega
          exact hrng.inj _ hm _ ho.1 (by rw [rr ri ro e0, e]))
        have hk0 : 0 < rky aT (bU n.1) (vB id) := by
          have h1 : 0 ≤ rky aT (bU n.1) (vB id) ∧ rky aT (bU n.1) (vB id) < aT := iX rx ri
          have : rky aT (bU n.1) (vB id) ≠ 0 := fun e => hidx (rr rx ri e)
          omega
        have hkf0 : 0 < rky aT (bU n.1) (bU (bN (ai l) n.1)) := by
          have h1 : 0 ≤ rky aT (bU n.1) (bU (bN (ai l) n.1)) ∧ rky aT (bU n.1) (bU (bN (ai l) n.1)) < aT := iX rx rf
          have : rky aT (bU n.1) (bU (bN (ai l) n.1)) ≠ 0 := fun e => DD h hm hk (hrng.inj _ hfm _ hm (rr rx rf e))
          omega
        have hne : n.1.2.1 ≠ id := fun e => hidx (by rw [← e])
        have hbf : jT n.1.2.1 id (bN (ai l) n.1) = true := (DZ hx hid hf hne).2 ⟨hkf0, by
          have : rky aT (bU n.1) (bU (bN (ai l) n.1)) < rky aT (bU n.1) (vB id) := by omega
          exact this⟩
        have hfl : bN (ai l) n.1 ∈ F ++ n.2.2.1 := List.mem_append_right _ (by rw [hcs]; exact List.mem_cons_self)
        obtain ⟨c1, c2, c3⟩ := HA hfl hbf
        have hcm : (cr id n.1.2.1 (F ++ n.2.2.1)).1 ∈ ai l := (List.mem_append.1 c2).elim (hFin _) (h.succ_in hn _)
        refine ⟨(cr id n.1.2.1 (F ++ n.2.2.1)).1, hcm, ?_, ?_, ?_, ?_⟩
        · have hnx : cY (ox l n) id = ((cr id n.1.2.1 (F ++ n.2.2.1)).1, false, 0) := by
            unfold cY
            rw [hrD, hF]
            show (bif gk id n.1.2.1 (el ab n.2.2.1 0).2.1 then (el ab n.2.2.1 0, true, (0 : Int)) else bif !decide ((cr id n.1.2.1 (F ++ n.2.2.1)).2 = 0) then _ else ((cr id n.1.2.1 (F ++ n.2.2.1)).1, false, (0 : Int))) = _
            rw [hf0, hfin0, c1]; rfl
          rw [hnx]; rfl
        all_goals
          generalize (cr id n.1.2.1 (F ++ n.2.2.1)).1 = c at c3 hcm ⊢
          have hc := dX (h.okm _ hcm)
          have rc := iZ hc
          obtain ⟨k1, k2⟩ := (DZ hx hid hc hne).1 c3
          have k1 : 0 < rky aT (bU n.1) (bU c) := k1
          have k2 : rky aT (bU n.1) (bU c) < rky aT (bU n.1) (vB id) := k2
          have rx' : 0 ≤ bU n.1 ∧ bU n.1 < aT := rx
          have rc' : 0 ≤ bU c ∧ bU c < aT := rc
        · intro e
          have hmo := ho.2 n.1 hm
          rw [← e] at hmo
          generalize hW : aT = W at *
          unfold rky at *
          clear hW
          split at hmo <;> split at hmo <;> split at k1 <;> split at k2 <;> omega
        · intro e
          rw [e, rq] at k1
          exact absurd k1 (Int.lt_irrefl _)
        · show rky aT (bU c) (vB id) < rky aT (bU n.1) (vB id)
          rw [AW rx' rc' ri, if_pos (Int.le_of_lt k2)]
          omega
end
end Go.Proofs.Ytimdnodkabnbfaa
namespace Go.Proofs.Ytimdnodkabnbfaa
open Go Go.RowKit
def rkc (id : List Int) (o : Mem) (l : List Mem) (x : Mem) : Nat := (l.filter fun y => decide (dst id y < dst id x) && !decide (y = o)).length
theorem Nm {id : List Int} {o : Mem} {l : List Mem} {c x : Mem} (hc : c ∈ l) (hco : c ≠ o) (h : dst id c < dst id x) : rkc id o l c < rkc id o l x := by
 refine Db (fun y hy => ?_) hc ?_ ?_
 ·obtain ⟨h1, h2⟩ := (Bool.and_eq_true _ _).mp hy
  rw [h2, decide_eq_true (Int.lt_trans (of_decide_eq_true h1) h)]; rfl
 ·rw [decide_eq_true h, decide_eq_false hco]; rfl
 ·rw [decide_eq_false (Int.lt_irrefl _)]; rfl
theorem H8 {id : List Int} {o : Mem} {l : List Mem} {x : Mem} (hx : x ∈ l) (ho : o ∈ l) (h : x ≠ o) : rkc id o l x + 2 ≤ l.length := by
 refine GJ hx ho h ?_ ?_
 ·rw [decide_eq_false (Int.lt_irrefl _)]; rfl
 ·rw [decide_eq_true (show o = o from rfl)]
  cases decide (dst id o < dst id x) <;> rfl
structure Trk (l : List Mem) (id : List Int) (o x : Mem) (s : List Mem) : Prop where
 head : ∃ t, s = x :: t
 last : s.getLast? = some o
 mem : ∀ y ∈ s, y ∈ l
 dec : ∀ i (h : i + 2 < s.length), dst id (s[i + 1]'(by omega)) < dst id (s[i]'(by omega))
 len : s.length ≤ l.length
theorem Iw {l : List Nd} (h : Stb l) {id : List Int} (hid : gx id) {o : Mem} (ho : gr bU aT (vB id) (ai l) o) : ∀ (n : Nat) (path : List Int) {x : Mem}, x ∈ ai l → (x = o → 1 ≤ n) → (x ≠ o → rkc id o (ai l) x + 1 ≤ n) →
    ∃ t, dw l id n path x.1 = (path ++ (x :: t).map (·.1), o, 0) ∧ (x :: t).getLast? = some o ∧ (∀ y ∈ x :: t, y ∈ ai l) ∧ (∀ i (h : i + 2 < (x :: t).length), dst id ((x :: t)[i + 1]'(by omega)) < dst id ((x :: t)[i]'(by omega))) ∧ (x = o → t = []) ∧ (x ≠ o → t.length ≤ rkc id o (ai l) x + 1)
  | 0, path, x, hx, h1, h2 => by
    by_cases e : x = o
    · exact absurd (h1 e) (by decide)
    · exact absurd (h2 e) (Nat.not_succ_le_zero _)
  | n + 1, path, x, hx, h1, h2 => by
    obtain ⟨nd, g1, g2, g3, g4⟩ := KK (vV hx)
    have hnx : nd.1 = x := (fy h.ring).inj (List.mem_map.2 ⟨nd, g3, rfl⟩) hx (.inl g4)
    have ha : aG l x.1 id = (sc l nd id, true) := by rw [LJ id (vV hx), g2]
    rw [Av, ha]
    rcases h.asks g3 hid ho with ⟨e1, e2⟩ | ⟨e1, e2⟩ | ⟨e1, c, hc, e2, e3, e4, e5⟩ <;> rw [e2]
    · have hxo : x = o := hnx.symm.trans e1
      subst hxo
      refine ⟨[], ?_, rfl, fun y hy => by rw [List.mem_singleton.1 hy]; exact hx, fun i hi => absurd hi (by rw [List.length_singleton]; omega), fun _ => rfl, fun hh => absurd rfl hh⟩
      show (bif decide (x.1 = x.1) then (path ++ [x.1], x, (0 : Int)) else _) = _
      rw [decide_eq_true rfl]; rfl
    · have hxo : x ≠ o := fun e => e1 (hnx.trans e)
      have hne : ¬ o.1 = x.1 := fun e => hxo ((fy h.ring).inj ho.1 hx (.inl e)).symm
      refine ⟨[o], ?_, rfl, fun y hy => ?_, fun i hi => absurd hi (by rw [List.length_cons, List.length_singleton]; omega), fun hh => absurd hh hxo, fun _ => by rw [List.length_singleton]; omega⟩
      · show (bif decide (o.1 = x.1) then _ else (path ++ [x.1] ++ [o.1], o, (0 : Int))) = _
        rw [decide_eq_false hne, List.append_assoc]; rfl
      · rcases List.mem_cons.1 hy with rfl | hy
        · exact hx
        · rw [List.mem_singleton.1 hy]; exact ho.1
    · rw [hnx] at e1 e4 e5
      have hne : ¬ c.1 = x.1 := fun e => e4 ((fy h.ring).inj hc hx (.inl e))
      have hlt := Nm (l := ai l) (o := o) hc e3 e5
      obtain ⟨t, w1, w2, w3, w4, w5, w6⟩ := Iw h hid ho n (path ++ [x.1]) hc (fun e => absurd e e3) (fun _ => by have := h2 e1; omega)
      refine ⟨c :: t, ?_, ?_, fun y hy => ?_, fun i hi => ?_, fun hh => absurd hh e1, fun _ => by have := w6 e3; rw [List.length_cons]; omega⟩
      · show (bif decide (c.1 = x.1) then _ else dw l id n (path ++ [x.1]) c.1) = _
        rw [decide_eq_false hne]
        show dw l id n (path ++ [x.1]) c.1 = _
        rw [w1, List.append_assoc]; rfl
      · rw [List.getLast?_cons_cons]; exact w2
      · rcases List.mem_cons.1 hy with rfl | hy
        · exact hx
        · exact w3 y hy
      · cases i with
        | zero => exact e5
        | succ i => exact w4 i (by rw [List.length_cons] at hi; omega)
theorem Jd {l : List Nd} (h : Stb l) {id : List Int} (hid : gx id) {o : Mem} (ho : gr bU aT (vB id) (ai l) o) {n : Nd} (hn : n ∈ l) :
    ∃ s, cI l n.1.1 id 16 = (s.map (·.1), o, 0) ∧ Trk (ai l) id o n.1 s := by
  have hx : n.1 ∈ ai l := List.mem_map.2 ⟨n, hn, rfl⟩
  have hs := h.small
  obtain ⟨t, w1, w2, w3, w4, w5, w6⟩ := Iw h hid ho 17 [] hx (fun _ => by decide) (fun e => by have := H8 (id := id) hx ho.1 e; omega)
  refine ⟨n.1 :: t, ?_, ⟨t, rfl⟩, w2, w3, w4, ?_⟩
  · rw [show (16 : Int) = ((16 : Nat) : Int) from rfl, K7 h.right n.1.1 id (h := 16) (by decide)]
    exact w1
  · rw [List.length_cons]
    by_cases e : n.1 = o
    · rw [w5 e]; exact List.length_pos_of_mem hx
    · have := H8 (id := id) hx ho.1 e
      have := w6 e
      omega
theorem DK {v : Ty} (k : Int) (a : den v) (x : Int) : ∀ l : List (Int × den v), eW (k := ae) (v := v) (jU (k := ae) (v := v) l k a) x = if x = k then a else eW (k := ae) (v := v) l x
 | [] => by
  show (mD (k := ae) (v := v) [(k, a)] x).getD (zero v) = _
  unfold mD
  by_cases h : x = k
  ·rw [if_pos h]
   have : eqb ae x k = true := decide_eq_true h
   simp [List.find?_cons, this]
  ·rw [if_neg h]
   have : eqb ae x k = false := decide_eq_false h
   simp [List.find?_cons, this]
   rfl
 | q :: l => by
  have ih := DK k a x l
  have hq : ∀ (y : Int) (z : Int), eqb ae y z = decide (y = z) := fun _ _ => rfl
  unfold eW mD at ih ⊢
  rw [jU]
  by_cases h1 : k = q.1
  ·rw [hq, if_pos (decide_eq_true h1)]
   by_cases h : x = k
   ·rw [if_pos h]
    simp [List.find?_cons, hq, h]
   ·rw [if_neg h]
    have h2 : ¬ x = q.1 := fun e => h (e.trans h1.symm)
    simp [List.find?_cons, hq, h, h2]
  ·rw [hq, if_neg (by simpa using h1)]
   by_cases h2 : x = q.1
   ·have h : ¬ x = k := fun e => h1 (e.symm.trans h2)
    rw [if_neg h]
    simp [List.find?_cons, hq, h2]
   ·simp only [List.find?_cons, hq, decide_eq_false h2]
    exact ih
abbrev IdM (l : List Mem) (b : List (Int × List Int)) : Prop := ∀ m ∈ l, eW (k := ae) (v := tId) b m.1 = m.2.1
abbrev GLf (O : Nat → Prop) (w0 : World) := bI prog dR (Cx.base O w0) (cC prog O w0 pP fun z => z = (true, ()))
theorem dF : XOk prog dR := zt Kd CS Hj nX FX wR pE lf
def KL (O : Nat → Prop) (w0 : World) (ms : List Mem) (p : List Int) (ns : List Nd) (j : Nat) (q : den ah) (id : List Int) (o : Mem) (b : List (Int × List Int)) (hp : p.length ≤ 1000)
    (hd : ∀ i (h : i + 2 < p.length), decide (0 ≤ fQ (aW (eW (k := ae) (v := tId) b (p[i + 1]'(by omega))) id) (aW (eW (k := ae) (v := tId) b (p[i]'(by omega))) id)) = false)
    (next : GLf O w0 [] bh (lp bj 15) (gw ms ns (lnx ag ns) (IntKind.wrap .i64 ((j : Nat) + 1)) q id o b)) :=
  PLift.up <| bG (σ := Unit) (p.length - 2) (fun _ _ => True)
    (fun i _ => GLf O w0 [] bh (lp bj 21) (nO ms p ((i + 1 : Nat) : Int) ns (lnx ag ns) (j : Nat) q id o b))
    (fun i _ hi _ ih => aI dF (lP ms p _ ns _ _ q id o b) (by
      have hi0 : i < p.length := by omega
      have hi1 : i + 1 < p.length := by omega
      have w1 : IntKind.wrap .i64 (((i + 1 : Nat) : Int) - 1) = (i : Int) := by rw [dr (n := ((i + 1 : Nat) : Int) - 1) (by omega)]; omega
      have w2 : IntKind.wrap .i64 (((i + 1 : Nat) : Int) + 1) = ((i + 1 + 1 : Nat) : Int) := cz hi1 (Nat.le_trans hp (by decide))
      unfold jA
      rw [w1, w2]
      refine ⟨fun _ => ⟨a8 hi0, fun _ => a8 hi1, fun _ => trivial, fun _ => a8 hi0, fun _ => trivial, fun _ => trivial, fun hc => ?_, fun _ => ih () trivial⟩, fun hc => absurd (show ((i + 1 + 1 : Nat) : Int) < ((p.length : Nat) : Int) by omega) (of_decide_eq_false hc)⟩
      rw [bX (e := ae) hi0, bX (e := ae) hi1, hd i (by omega)] at hc
      cases h0 : (!eqb tId (eW (k := ae) (v := tId) b p[i]) id) <;> rw [h0] at hc <;> cases hc))
    (fun _ _ => aI dF (lP ms p _ ns _ _ q id o b) (by
      have w2 : IntKind.wrap .i64 (((p.length - 2 + 1 : Nat) : Int) + 1) = ((p.length - 2 + 1 + 1 : Nat) : Int) := by rw [dr (n := ((p.length - 2 + 1 : Nat) : Int) + 1) (by omega)]; omega
      unfold jA
      rw [w2]
      exact ⟨fun hc => absurd (show ((p.length - 2 + 1 + 1 : Nat) : Int) < ((p.length : Nat) : Int) from of_decide_eq_true hc) (by omega), fun _ => next⟩))
def JF (O : Nat → Prop) (w0 : World) {ns : List Nd} (h : Stb ns) (hl : ns.length ≤ 1000) {id : List Int} (hid : gx id) {o : Mem} (ho : gr bU aT (vB id) (ai ns) o) (b : List (Int × List Int)) (hb : IdM (ai ns) b) :=
 PLift.up <| bG (σ := Unit) ns.length (fun _ _ => True)
  (fun i _ => GLf O w0 [] bh (lp bj 15) (gw (ai ns) ns (lnx ag ns) (i : Nat) (ns, ()) id o b))
  (fun i _ hi _ ih => aI dF (lC (ai ns) ns _ _ (ns, ()) id o b) (by
   refine ⟨fun _ => ⟨a8 hi, Nat.le_trans hl (by decide), ?_⟩, fun hc => absurd hi (by rw [cF (e := ag)] at hc; exact of_decide_eq_false hc)⟩
   rw [bX (e := ag) hi]
   obtain ⟨s, s1, s2⟩ := Jd h hid ho (List.getElem_mem hi)
   obtain ⟨t, ht⟩ := s2.head
   rw [s1]
   have sl := s2.len
   have sm : (ai ns).length ≤ 16 := h.small
   have hl0 : lnx ae (s.map (·.1)) = ((s.length : Nat) : Int) := by
    show (((s.map (·.1)).length : Nat) : Int) = _
    rw [List.length_map]
   have hs0 : 0 < s.length := by rw [ht]; exact Nat.succ_pos _
   have hsl : s.length - 1 < s.length := by omega
   have hw : IntKind.wrap .i64 (((s.length : Nat) : Int) - 1) = ((s.length - 1 : Nat) : Int) := by
    rw [dr (n := ((s.length : Nat) : Int) - 1) (by omega)]; omega
   have e0 : el ae (s.map (·.1)) 0 = ns[i].1.1 := by rw [ht]; rfl
   have el1 : el ae (s.map (·.1)) ((s.length - 1 : Nat) : Int) = o.1 := by
    have hlt : s.length - 1 < (s.map (·.1)).length := by rw [List.length_map]; exact hsl
    rw [bX (e := ae) hlt, List.getElem_map]
    have := s2.last
    rw [List.getLast?_eq_getElem?, List.getElem?_eq_getElem hsl] at this
    rw [Option.some.inj this]
   refine bD ⟨fun _ => ?_, fun _ => ?_, fun hc => ?_, fun _ => ?_⟩
   ·rw [hl0]; exact ⟨by decide, by omega⟩
   ·rw [hl0, hw]; exact ⟨by omega, by omega⟩
   ·exfalso
    have hc : (bif bif bif bif bif !decide ((0 : Int) = 0) then true else !eqb ab o o then true else decide (lnx ae (s.map (·.1)) = 0) then true else !decide (el ae (s.map (·.1)) 0 = ns[i].1.1) then true else !decide (el ae (s.map (·.1)) (IntKind.wrap .i64 (lnx ae (s.map (·.1)) - 1)) = o.1) then true else decide (lnx ab (ai ns) < lnx ae (s.map (·.1)))) = true := hc
    rw [hl0, hw, e0, el1, lS, decide_eq_true (show o = o from rfl), decide_eq_false (show ¬ ((s.length : Nat) : Int) = 0 by omega), decide_eq_true (show ns[i].1.1 = ns[i].1.1 from rfl), decide_eq_true (show o.1 = o.1 from rfl), decide_eq_false (show ¬ lnx ab (ai ns) < ((s.length : Nat) : Int) from fun hh => by have hh : (((ai ns).length : Nat) : Int) < ((s.length : Nat) : Int) := hh; omega)] at hc
    cases hc
   ·refine (KL O w0 (ai ns) (s.map (·.1)) ns i (ns, ()) id o b (by rw [List.length_map]; omega) (fun k hk => ?_) ?_).down 0 () (Nat.zero_le _) trivial
    ·rw [List.length_map] at hk
     rw [List.getElem_map, List.getElem_map, hb _ (s2.mem _ (List.getElem_mem _)), hb _ (s2.mem _ (List.getElem_mem _))]
     have k1 := dX (h.okm _ (s2.mem _ (List.getElem_mem (show k + 1 < s.length by omega))))
     have k2 := dX (h.okm _ (s2.mem _ (List.getElem_mem (show k < s.length by omega))))
     refine decide_eq_false fun hh => absurd (yD.2 ?_) (Int.not_lt.2 hh)
     rw [kF k1 hid, kF k2 hid]
     exact s2.dec k hk
    ·rw [cz hi (Nat.le_trans hl (by decide))]
     exact ih () trivial))
  (fun _ _ => aI dF (lC (ai ns) ns _ _ (ns, ()) id o b) ⟨fun hc => absurd (of_decide_eq_true hc) (Int.lt_irrefl _), fun _ => ⟨trivial, bD ⟨_, rfl, rfl⟩⟩⟩)
def JJ (O : Nat → Prop) (w0 : World) (ms : List Mem) (hm : ms.length ≤ 1000) (hr : RR ms) (q : den ah) (id : List Int) (o : Mem) (next : ∀ b : List (Int × List Int), IdM ms b → GLf O w0 [] bh (lp bj 15) (gw ms q.1 (lnx ag q.1) 0 q id o b)) :=
 PLift.up <| bG (σ := List (Int × List Int)) ms.length (fun i b => IdM (ms.take i) b)
  (fun i b => GLf O w0 [] bh (lp bj 10) (nR ms ms (lnx ab ms) (i : Nat) q id o b))
  (fun i b hi hs ih => aI dF (lM ms ms _ _ q id o b) (by
   refine ⟨fun _ => ⟨a8 hi, ?_⟩, fun hc => absurd hi (by rw [cF] at hc; exact of_decide_eq_false hc)⟩
   rw [bX hi, cz hi (Nat.le_trans hm (by decide))]
   refine ih _ fun m hmm => ?_
   rw [DK (v := tId)]
   rw [List.take_succ_eq_append_getElem hi] at hmm
   by_cases hx : m.1 = ms[i].1
   ·rw [if_pos hx]
    have hml : m ∈ ms := (List.mem_append.1 hmm).elim List.mem_of_mem_take fun h => by rw [List.mem_singleton.1 h]; exact List.getElem_mem _
    rw [hr.inj hml (List.getElem_mem hi) (.inl hx)]
   ·rw [if_neg hx]
    exact (List.mem_append.1 hmm).elim (hs m) fun h => absurd (by rw [List.mem_singleton.1 h]) hx))
  (fun b hs => aI dF (lM ms ms _ _ q id o b) ⟨fun hc => absurd (of_decide_eq_true hc) (Int.lt_irrefl _), fun _ => next b (by rw [List.take_length] at hs; exact hs)⟩)
theorem zx : ay prog [] qE (La eE) :=
 bR (S := La eE) dF (fx := bh) x8 (by kernel_rfl) (fun _ _ => trivial) (T := fun x => qD x.1 x.2.1) (fun x => wl x.1 x.2.1) fun O w0 x hk _ => by
  obtain ⟨o, id, ⟨⟩⟩ := x
  refine ⟨trivial, bD ?_⟩
  have hql := K4 o.1
  have hko := NF (l := o.1) hk.1.1.2
  have hid : gx id := Is hk.2.1
  generalize (vz o.1 : List Nd) = q at hql hko ⊢
  have hq : q.length ≤ 1000000 := Nat.le_trans hql (by decide)
  refine ⟨hq, bD ⟨fun _ => ⟨trivial, bD ⟨_, rfl, rfl⟩⟩, fun hc => ⟨hq, bD ⟨trivial, bD ?_⟩⟩⟩⟩
  have hc : (bif !f5 q then true else decide (lnx ag q = 0)) = false := hc
  have hs : f5 q = true := by
   cases hq : f5 q <;> rw [hq] at hc
   cases hc
  rw [hs] at hc
  have h0 : ¬ ((q.length : Nat) : Int) = 0 := of_decide_eq_false hc
  have st := No hs hko
  have hml : (ai q).length = q.length := by unfold ai; rw [List.length_map]
  obtain ⟨w, ow, ho⟩ := IM st.ring st.okm (by omega) hid
  rw [ow]
  refine ⟨fun hh => (by cases hh), fun _ => ?_⟩
  refine (JJ O w0 (ai q) (by omega) (fy st.ring) (q, ()) id w fun b hb => ?_).down 0 [] (Nat.zero_le _) (fun m hm => by cases hm)
  exact (JF O w0 st (by omega) hid ho b hb).down 0 () (Nat.zero_le _) trivial
end Go.Proofs.Ytimdnodkabnbfaa
