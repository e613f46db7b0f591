/- Part 9 of 9 of what this claim's proof stands on: a theory of programs on data, and the contracts of the functions that the law reaches. It holds no condition of its own. -/
import Derived.Test.YtimdnodkabnbfaaCA8
namespace Go.Proofs.Ytimdnodkabnbfaa
open Go Go.RowKit
end Go.Proofs.Ytimdnodkabnbfaa
namespace Go.Proofs.Ytimdnodkabnbfaa
open Go Go.RowKit
end Go.Proofs.Ytimdnodkabnbfaa
namespace Go.Proofs.Ytimdnodkabnbfaa
open Go Go.RowKit
noncomputable abbrev bS : bu := ⟨.pair (.slc (.slc ab)) .unit, .pair (.slc ab) .unit, fun y => ((y.1.flatten : List Mem), ()), fun y => (y.1.flatten : List Mem).length ≤ bM, false⟩
theorem fI : aE prog [] bw bS := CA pC rfl
abbrev qm : Ty := .pair HS .unit
noncomputable abbrev kA : bu := ⟨rU, qm, fun x => ((bU x.1, ()), ()), fun x => (bU x.1).length ≤ 1000000, false⟩
abbrev Ov := den ah
def ixQ (p : Nd → Bool) : List Nd → Int → Int
 | [], _ => -1
 | x :: l, i => bif p x then i else ixQ p l (i + 1)
def prQ (f : den (.fn (.pair ag .unit) (.pair .bool .unit))) (m : Nd) : Bool := (un (.pair ag .unit) (.pair .bool .unit) f (m, ())).1
noncomputable abbrev cj : bu := ⟨js, fo, fun x => (ixQ (prQ x.2.1) x.1 0, ()), fun x => nV (.pair ag .unit) (.pair .bool .unit) x.2.1, false⟩
noncomputable abbrev de : bu := ⟨gX, hH, fun x => (List.any x.1 (prQ x.2.1), ()), fun x => nV (.pair ag .unit) (.pair .bool .unit) x.2.1, false⟩
noncomputable abbrev i4 : bu := ⟨pq, o0, fun x => (decide ((sfN x.1).1 = x.2.1), ()), fun _ => True, true⟩
noncomputable abbrev i6 : bu := ⟨oz, oT, fun x => (decide ((sfN x.1).1 = x.2.1.1), ()), fun _ => True, true⟩
noncomputable abbrev iV : bu := ⟨pf, kU, fun x => (f5 x.1.1, ()), fun x => List.length x.1.1 ≤ 1000000, false⟩
def fE (l : List Nd) (no : Int) : Mem × Bool := match l.find? (fun n => decide (n.1.1 = no)) with | some n => (n.1, true) | none => (zero ab, false)
noncomputable abbrev lu : bu := ⟨sZ, nD, fun x => ((fE x.1.1 x.2.1).1, (fE x.1.1 x.2.1).2, ()), fun _ => True, true⟩
def ql (l : List Nd) (m : Mem) : Bool := bif (fE l m.1).2 then !decide ((fE l m.1).1 = m) else false
def Is (l : List Nd) (n : Nd) : Bool := (bU n).all fun m => !ql l m
def DR (l : List Nd) (i : Int) : Bool := bif !a9 (el ag l i) then true else bif decide (0 < i) then decide ((el ag l i).1.1 ≤ (el ag l (i - 1)).1.1) else false
def iC (l : List Nd) (i : Int) : Bool := bif DR l i then false else Is l (el ag l i)
def bA (l : List Nd) : Bool := (List.range l.length).all (fun i => iC l (i : Nat)) && ia (f5 l)
noncomputable abbrev kC : bu := ⟨rf, mg, fun x => (bA x.1.1, ()), fun x => List.length x.1.1 ≤ 1000000, false⟩
abbrev Ans := den ao
def jb (l : List Nd) (n : Nd) : List Int := ((bU n).filter fun m => !fD l m.1).map fun m => m.1
def vZ (l : List Nd) (n : Nd) : Nd := (fh n (jb l n)).1
def vW (l : List Nd) (n : Nd) (id : List Int) : Ans := bif ot (vZ l n) id then ((vZ l n).1, true, ()) else ((c7 (vZ l n) id).1, (c7 (vZ l n) id).2.1, ())
def ar (l : List Nd) (no : Int) (id : List Int) : Ans × Bool := match l.find? (fun n => decide (n.1.1 = no)) with | some n => (vW l n id, true) | none => (zero ao, false)
noncomputable abbrev kG : bu := ⟨rh, jI, fun x => ((ar x.1.1 x.2.1 x.2.2.1).1, (ar x.1.1 x.2.1 x.2.2.1).2, ()), fun x => bA x.1.1 = true, false⟩
abbrev WR := List Int × Mem × Int
def bn (l : List Nd) (id : List Int) : Nat → List Int → Int → WR
 | n, path, no => bif !(ar l no id).2 then ([], zero ab, 10) else
  match n with
  | 0 => ([], zero ab, 9)
  | n + 1 => bif (ar l no id).1.2.1 then (bif decide ((ar l no id).1.1.1 = no) then (path ++ [no], (ar l no id).1.1, 0) else (path ++ [no] ++ [(ar l no id).1.1.1], (ar l no id).1.1, 0))
   else bif decide ((ar l no id).1.1.1 = no) then ([], zero ab, 13) else bn l id n (path ++ [no]) (ar l no id).1.1.1
def bF (l : List Nd) (no : Int) (id : List Int) (hops : Int) : WR := bif (bif (bif !bA l then true else decide (hops < 0)) then true else decide (16 < hops)) then ([], zero ab, 1) else bn l id (hops.toNat + 1) [] no
noncomputable abbrev fO : bu := ⟨rS, dt, fun x => ((bF x.1.1 x.2.1 x.2.2.1 x.2.2.2.1).1, (bF x.1.1 x.2.1 x.2.2.1 x.2.2.2.1).2.1, (bF x.1.1 x.2.1 x.2.2.1 x.2.2.2.1).2.2, ()), fun x => List.length x.1.1 ≤ 1000000, false⟩
end Go.Proofs.Ytimdnodkabnbfaa
namespace Go.Proofs.Ytimdnodkabnbfaa
open Go Go.RowKit
noncomputable abbrev py : Fx := { fn := j4, ann := { } }
noncomputable abbrev bH : Fx := { fn := bz, ann := { loops := [(1, { keep := [0, 2, 6, 7, 8] })], frz := [(1000001, [6, 8, 9])], gy := true } }
noncomputable abbrev c5 : Fx := { fn := aJ, ann := { frz := [(2, [3, 4])] } }
noncomputable abbrev fu : a8 := { D := { T := bt, F := [(iN, kf), (eK, f6), (fS, f7)], R := [], ovl := [] }, inl := [(j9, py), (jj, bH)] }
noncomputable abbrev oL : bE := .data jZ
theorem wg (h_ident_Far : aE prog [] iN kf) (h_ident_Compare : aE prog [] eK f6) (h_finger_Closest_1 : aE prog [] fS f7) : XOk prog fu := xok (aI (aI (aI (aV bf aO) h_finger_Closest_1) h_ident_Compare) h_ident_Far) (by kernel_rfl) aW (k3 pB (by kernel_rfl) (k3 nQ (by kernel_rfl) bg)) bh
noncomputable def oZ (id : den tId) (self : den tId) (known : den (Ty.slc ab)) : af := af.req (∀ (y : den (Ty.pair ab Ty.unit)), True) (af.loop [{ fx := c5, todo := cX aJ 5, dst := none, s := ofS [(6, K.ptr (0 + 1 + 1) ab []), (8, K.ptr (0 + 1 + 1 + 1) ab []), (9, K.ptr (0 + 1 + 1 + 1 + 1) ae [])], rng := some 0 }] bH (lp bz 1) [(0, K.yld 0), (2, K.ptr (0 + 1) (Ty.fn (Ty.pair ab Ty.unit) (Ty.pair Ty.bool Ty.unit)) []), (6, K.val (Ty.slc ab) known), (7, K.val ae (lnx ab known)), (8, K.val ae 0)] [(0, Bx.lop LoopState.ready none [(4, K.ref tId self), (8, K.ptr (0 + 1 + 1 + 1) ab []), (9, K.ptr (0 + 1 + 1 + 1 + 1) ae [])] 35 (mm aJ 5) (ef aJ 5) (gH aJ 5)), (0 + 1, Bx.cell (Ty.fn (Ty.pair ab Ty.unit) (Ty.pair Ty.bool Ty.unit)) (some fun (y : den (Ty.pair ab Ty.unit)) ↦ (lm self id (Prod.fst y), PUnit.unit))), (0 + 1 + 1, Bx.cell ab (zero ab)), (0 + 1 + 1 + 1, Bx.cell ab (zero (Ty.pair ae (Ty.pair tId Ty.unit)))), (0 + 1 + 1 + 1 + 1, Bx.cell ae 6)])
theorem tb (id : den tId) (self : den tId) (known : den (Ty.slc ab)) : ap fu oL 5000 [] c5 (aH aJ) (Env.of (aM nM (id, self, known, ()) 0) []) = oZ id self known := by kernel_rfl
noncomputable def dC (v6 : den (Ty.slc ab)) (v7 : den ae) (v8 : den ae) (b0_4 : den tId) (b1 : den (Ty.fn (Ty.pair ab Ty.unit) (Ty.pair Ty.bool Ty.unit))) (b2 : den ab) (b3 : den ab) (b4 : den ae) : List bL := [{ fx := c5, todo := cX aJ 5, dst := none, s := ofS [(6, K.ptr (0 + 1 + 1) ab []), (8, K.ptr (0 + 1 + 1 + 1) ab []), (9, K.ptr (0 + 1 + 1 + 1 + 1) ae [])], rng := some 0 }]
noncomputable def dD (v6 : den (Ty.slc ab)) (v7 : den ae) (v8 : den ae) (b0_4 : den tId) (b1 : den (Ty.fn (Ty.pair ab Ty.unit) (Ty.pair Ty.bool Ty.unit))) (b2 : den ab) (b3 : den ab) (b4 : den ae) : Env := Env.of [(0, K.yld 0), (2, K.ptr (0 + 1) (Ty.fn (Ty.pair ab Ty.unit) (Ty.pair Ty.bool Ty.unit)) []), (6, K.val (Ty.slc ab) v6), (7, K.val ae v7), (8, K.val ae v8)] [(0, Bx.lop LoopState.ready none [(4, K.ref tId b0_4), (8, K.ptr (0 + 1 + 1 + 1) ab []), (9, K.ptr (0 + 1 + 1 + 1 + 1) ae [])] 35 (mm aJ 5) (ef aJ 5) (gH aJ 5)), (1, Bx.cell (Ty.fn (Ty.pair ab Ty.unit) (Ty.pair Ty.bool Ty.unit)) b1), (2, Bx.cell ab b2), (3, Bx.cell ab b3), (4, Bx.cell ae b4)]
noncomputable def gG (v6 : den (Ty.slc ab)) (v7 : den ae) (v8 : den ae) (b0_4 : den tId) (b1 : den (Ty.fn (Ty.pair ab Ty.unit) (Ty.pair Ty.bool Ty.unit))) (b2 : den ab) (b3 : den ab) (b4 : den ae) : af := af.ite (decide (v8 < v7)) (af.req (inB v8 (lnx ab v6)) (af.req (nV (Ty.pair ab Ty.unit) (Ty.pair Ty.bool Ty.unit) b1) (af.ite (Prod.fst (un (Ty.pair ab Ty.unit) (Ty.pair Ty.bool Ty.unit) b1 (el ab v6 v8, PUnit.unit))) (af.req (dT [(!decide (b4 = 0), false)] True) (af.req (dT [(!decide (b4 = 0), false)] True) (af.req (dT [(!decide (b4 = 0), false)] True) (af.ite (bif !decide (b4 = 0) then true else decide (lK (cZ b0_4 (Prod.fst (Prod.snd b3))) (cZ b0_4 (Prod.fst (Prod.snd (el ab v6 v8)))) < 0)) (af.loop [{ fx := c5, todo := cX aJ 5, dst := none, s := ofS [(6, K.ptr (0 + 1 + 1) ab []), (8, K.ptr (0 + 1 + 1 + 1) ab []), (9, K.ptr (0 + 1 + 1 + 1 + 1) ae [])], rng := some 0 }] bH (lp bz 1) [(0, K.yld 0), (2, K.ptr (0 + 1) (Ty.fn (Ty.pair ab Ty.unit) (Ty.pair Ty.bool Ty.unit)) []), (6, K.val (Ty.slc ab) v6), (7, K.val ae v7), (8, K.val ae (IntKind.wrap IntKind.i64 (v8 + 1)))] [(0, Bx.lop LoopState.ready none [(4, K.ref tId b0_4), (8, K.ptr (0 + 1 + 1 + 1) ab []), (9, K.ptr (0 + 1 + 1 + 1 + 1) ae [])] 35 (mm aJ 5) (ef aJ 5) (gH aJ 5)), (0 + 1, Bx.cell (Ty.fn (Ty.pair ab Ty.unit) (Ty.pair Ty.bool Ty.unit)) b1), (0 + 1 + 1, Bx.cell ab b2), (0 + 1 + 1 + 1, Bx.cell ab (el ab v6 v8)), (0 + 1 + 1 + 1 + 1, Bx.cell ae 0)]) (af.loop [{ fx := c5, todo := cX aJ 5, dst := none, s := ofS [(6, K.ptr (0 + 1 + 1) ab []), (8, K.ptr (0 + 1 + 1 + 1) ab []), (9, K.ptr (0 + 1 + 1 + 1 + 1) ae [])], rng := some 0 }] bH (lp bz 1) [(0, K.yld 0), (2, K.ptr (0 + 1) (Ty.fn (Ty.pair ab Ty.unit) (Ty.pair Ty.bool Ty.unit)) []), (6, K.val (Ty.slc ab) v6), (7, K.val ae v7), (8, K.val ae (IntKind.wrap IntKind.i64 (v8 + 1)))] [(0, Bx.lop LoopState.ready none [(4, K.ref tId b0_4), (8, K.ptr (0 + 1 + 1 + 1) ab []), (9, K.ptr (0 + 1 + 1 + 1 + 1) ae [])] 35 (mm aJ 5) (ef aJ 5) (gH aJ 5)), (0 + 1, Bx.cell (Ty.fn (Ty.pair ab Ty.unit) (Ty.pair Ty.bool Ty.unit)) b1), (0 + 1 + 1, Bx.cell ab b2), (0 + 1 + 1 + 1, Bx.cell ab b3), (0 + 1 + 1 + 1 + 1, Bx.cell ae b4)]))))) (af.loop [{ fx := c5, todo := cX aJ 5, dst := none, s := ofS [(6, K.ptr (0 + 1 + 1) ab []), (8, K.ptr (0 + 1 + 1 + 1) ab []), (9, K.ptr (0 + 1 + 1 + 1 + 1) ae [])], rng := some 0 }] bH (lp bz 1) [(0, K.yld 0), (2, K.ptr (0 + 1) (Ty.fn (Ty.pair ab Ty.unit) (Ty.pair Ty.bool Ty.unit)) []), (6, K.val (Ty.slc ab) v6), (7, K.val ae v7), (8, K.val ae (IntKind.wrap IntKind.i64 (v8 + 1)))] [(0, Bx.lop LoopState.ready none [(4, K.ref tId b0_4), (8, K.ptr (0 + 1 + 1 + 1) ab []), (9, K.ptr (0 + 1 + 1 + 1 + 1) ae [])] 35 (mm aJ 5) (ef aJ 5) (gH aJ 5)), (0 + 1, Bx.cell (Ty.fn (Ty.pair ab Ty.unit) (Ty.pair Ty.bool Ty.unit)) b1), (0 + 1 + 1, Bx.cell ab b2), (0 + 1 + 1 + 1, Bx.cell ab b3), (0 + 1 + 1 + 1 + 1, Bx.cell ae b4)])))) (af.ret (K.val (Ty.pair ab (Ty.pair ae Ty.unit)) (b3, b4, PUnit.unit)))
theorem c6 (v6 : den (Ty.slc ab)) (v7 : den ae) (v8 : den ae) (b0_4 : den tId) (b1 : den (Ty.fn (Ty.pair ab Ty.unit) (Ty.pair Ty.bool Ty.unit))) (b2 : den ab) (b3 : den ab) (b4 : den ae) : ap fu oL 5000 (dC v6 v7 v8 b0_4 b1 b2 b3 b4) bH (lp bz 1) (dD v6 v7 v8 b0_4 b1 b2 b3 b4) = gG v6 v7 v8 b0_4 b1 b2 b3 b4 := by kernel_rfl
noncomputable abbrev ug : Fx := { fn := qS, ann := { }, share := true }
noncomputable abbrev vk : a8 := { D := { T := bt, F := [(c9, db), (gc, ie), (bw, bS), (ir, hY)], R := [], ovl := [] }, inl := [] }
noncomputable abbrev CG : bE := .data o8
theorem Cc (h_node_Right : aE prog [] c9 db) (h_ident_In : aE prog [] gc ie) (h_slices_Concat_Member : aE prog [] bw (bS)) (h_finger_Closest : aE prog [] ir hY) : XOk prog vk := xok (aI (aI (aI (aI (aV bf aO) h_finger_Closest) h_slices_Concat_Member) h_ident_In) h_node_Right) (by kernel_rfl) aW bg bh
noncomputable def vD (n : den ag) (id : den tId) : af := af.req True (af.all (den Ty.bool) (fun (q2 : den Ty.bool) ↦ q2 = a9 n) fun (q2 : den Ty.bool) ↦ af.ite (!q2) (af.ret (K.val (Ty.pair ab (Ty.pair Ty.bool (Ty.pair ae Ty.unit))) (zero (Ty.pair ae (Ty.pair tId Ty.unit)), false, 1, PUnit.unit))) (af.req (inB 0 (lnx ab (Prod.fst (Prod.snd (Prod.snd n))))) (af.req True (af.all (den Ty.bool) (fun (q3 : den Ty.bool) ↦ q3 = nu id (Prod.fst (Prod.snd (Prod.fst n))) (Prod.fst (Prod.snd (el ab (Prod.fst (Prod.snd (Prod.snd n))) 0)))) fun (q3 : den Ty.bool) ↦ af.ite q3 (af.ret (K.val (Ty.pair ab (Ty.pair Ty.bool (Ty.pair ae Ty.unit))) (el ab (Prod.fst (Prod.snd (Prod.snd n))) 0, true, 0, PUnit.unit))) (af.req (List.length (List.flatten (List.set (List.set (List.replicate 2 (zero (Ty.slc ab))) 0 (Prod.fst (Prod.snd (Prod.snd (Prod.snd n))))) 1 (Prod.fst (Prod.snd (Prod.snd n))))) ≤ bM) (af.req True (af.all (den (Ty.slc ab)) (fun (q4 : den (Ty.slc ab)) ↦ q4 = List.flatten (List.set (List.set (List.replicate 2 (zero (Ty.slc ab))) 0 (Prod.fst (Prod.snd (Prod.snd (Prod.snd n))))) 1 (Prod.fst (Prod.snd (Prod.snd n))))) fun (q4 : den (Ty.slc ab)) ↦ af.all (den (Ty.pair ab (Ty.pair ae Ty.unit))) (fun (q5 : den (Ty.pair ab (Ty.pair ae Ty.unit))) ↦ q5 = (Prod.fst (cQ id (Prod.fst (Prod.snd (Prod.fst n))) (List.flatten (List.set (List.set (List.replicate 2 (zero (Ty.slc ab))) 0 (Prod.fst (Prod.snd (Prod.snd (Prod.snd n))))) 1 (Prod.fst (Prod.snd (Prod.snd n)))))), Prod.snd (cQ id (Prod.fst (Prod.snd (Prod.fst n))) (List.flatten (List.set (List.set (List.replicate 2 (zero (Ty.slc ab))) 0 (Prod.fst (Prod.snd (Prod.snd (Prod.snd n))))) 1 (Prod.fst (Prod.snd (Prod.snd n)))))), PUnit.unit)) fun (q5 : den (Ty.pair ab (Ty.pair ae Ty.unit))) ↦ af.ite (!decide (Prod.snd (cQ id (Prod.fst (Prod.snd (Prod.fst n))) (List.flatten (List.set (List.set (List.replicate 2 (zero (Ty.slc ab))) 0 (Prod.fst (Prod.snd (Prod.snd (Prod.snd n))))) 1 (Prod.fst (Prod.snd (Prod.snd n)))))) = 0)) (af.req (inB 0 (lnx ab (Prod.fst (Prod.snd (Prod.snd n))))) (af.ret (K.val (Ty.pair ab (Ty.pair Ty.bool (Ty.pair ae Ty.unit))) (el ab (Prod.fst (Prod.snd (Prod.snd n))) 0, false, 0, PUnit.unit)))) (af.ret (K.val (Ty.pair ab (Ty.pair Ty.bool (Ty.pair ae Ty.unit))) (Prod.fst (cQ id (Prod.fst (Prod.snd (Prod.fst n))) (List.flatten (List.set (List.set (List.replicate 2 (zero (Ty.slc ab))) 0 (Prod.fst (Prod.snd (Prod.snd (Prod.snd n))))) 1 (Prod.fst (Prod.snd (Prod.snd n)))))), false, 0, PUnit.unit))))))))))
theorem yS (n : den ag) (id : den tId) : ap vk CG 5000 [] ug (aH qS) (Env.of (aM tY (n, id, ()) 0) []) = vD n id := by kernel_rfl
noncomputable abbrev bY : Fx := { fn := bR, ann := { loops := [(2, { keep := [0, 1, 7, 8] })] } }
noncomputable abbrev dU : a8 := { D := { T := bt, F := [], R := [], ovl := [] }, inl := [] }
noncomputable abbrev jS : bE := .data fo
theorem fK : XOk prog dU := xok ((aV bf aO)) (by kernel_rfl) aW bg bh
noncomputable def jT (s : den (Ty.slc ag)) (f : den (Ty.fn (Ty.pair ag Ty.unit) (Ty.pair Ty.bool Ty.unit))) : af := af.loop [] bY (lp bR 2) [(0, K.val (Ty.slc ag) s), (1, K.val (Ty.fn (Ty.pair ag Ty.unit) (Ty.pair Ty.bool Ty.unit)) f), (7, K.val ae (lnx ag s)), (8, K.val ae 0)] []
theorem nG (s : den (Ty.slc ag)) (f : den (Ty.fn (Ty.pair ag Ty.unit) (Ty.pair Ty.bool Ty.unit))) : ap dU jS 5000 [] bY (aH bR) (Env.of (aM js (s, f, ()) 0) []) = jT s f := by kernel_rfl
noncomputable def ja (v0 : den (Ty.slc ag)) (v1 : den (Ty.fn (Ty.pair ag Ty.unit) (Ty.pair Ty.bool Ty.unit))) (v7 : den ae) (v8 : den ae) : Env := Env.of [(0, K.val (Ty.slc ag) v0), (1, K.val (Ty.fn (Ty.pair ag Ty.unit) (Ty.pair Ty.bool Ty.unit)) v1), (7, K.val ae v7), (8, K.val ae v8)] []
noncomputable def nr (v0 : den (Ty.slc ag)) (v1 : den (Ty.fn (Ty.pair ag Ty.unit) (Ty.pair Ty.bool Ty.unit))) (v7 : den ae) (v8 : den ae) : af := af.ite (decide (v8 < v7)) (af.req (inB v8 (lnx ag v0)) (af.req (nV (Ty.pair ag Ty.unit) (Ty.pair Ty.bool Ty.unit) v1) (af.ite (Prod.fst (un (Ty.pair ag Ty.unit) (Ty.pair Ty.bool Ty.unit) v1 (el ag v0 v8, PUnit.unit))) (af.ret (K.val (Ty.pair ae Ty.unit) (v8, PUnit.unit))) (af.loop [] bY (lp bR 2) [(0, K.val (Ty.slc ag) v0), (1, K.val (Ty.fn (Ty.pair ag Ty.unit) (Ty.pair Ty.bool Ty.unit)) v1), (7, K.val ae v7), (8, K.val ae (IntKind.wrap IntKind.i64 (v8 + 1)))] [])))) (af.ret (K.val (Ty.pair ae Ty.unit) (-1, PUnit.unit)))
theorem gt (v0 : den (Ty.slc ag)) (v1 : den (Ty.fn (Ty.pair ag Ty.unit) (Ty.pair Ty.bool Ty.unit))) (v7 : den ae) (v8 : den ae) : ap dU jS 5000 [] bY (lp bR 2) (ja v0 v1 v7 v8) = nr v0 v1 v7 v8 := by kernel_rfl
noncomputable abbrev g8 : Fx := { fn := eY, ann := { } }
noncomputable abbrev iK : a8 := { D := { T := bt, F := [(cm, cj)], R := [], ovl := [] }, inl := [] }
noncomputable abbrev nt : bE := .data hH
theorem nq (h_slices_IndexFunc_Node : aE prog [] cm cj) : XOk prog iK := xok (aI (aV bf aO) h_slices_IndexFunc_Node) (by kernel_rfl) aW bg bh
noncomputable def it (s : den (Ty.slc ag)) (f : den (Ty.fn (Ty.pair ag Ty.unit) (Ty.pair Ty.bool Ty.unit))) : af := af.req (∃ (h : den (Ty.pair ag Ty.unit) → den (Ty.pair Ty.bool Ty.unit)), f = some h) (af.ret (K.val (Ty.pair Ty.bool Ty.unit) (decide (0 ≤ ixQ (prQ f) s 0), PUnit.unit)))
theorem lR (s : den (Ty.slc ag)) (f : den (Ty.fn (Ty.pair ag Ty.unit) (Ty.pair Ty.bool Ty.unit))) : ap iK nt 5000 [] g8 (aH eY) (Env.of (aM gX (s, f, ()) 0) []) = it s f := by kernel_rfl
noncomputable abbrev oM : Fx := { fn := lG, ann := { } }
noncomputable abbrev pW : a8 := { D := { T := bt, F := [], R := [], ovl := [] }, inl := [] }
noncomputable abbrev w6 : bE := .data o0
theorem xY : XOk prog pW := xok ((aV bf aO)) (by kernel_rfl) aW bg bh
noncomputable def pD (n : den ag) (no : den (Ty.ref ae)) : af := af.ret (K.val (Ty.pair Ty.bool Ty.unit) (decide (Prod.fst (Prod.fst n) = no), PUnit.unit))
theorem tr (n : den ag) (no : den (Ty.ref ae)) : ap pW w6 5000 [] oM (aH lG) (Env.of (aM pq (n, no, ()) 0) []) = pD n no := by kernel_rfl
noncomputable abbrev o6 : Fx := { fn := lA, ann := { } }
noncomputable abbrev qh : a8 := { D := { T := bt, F := [], R := [], ovl := [] }, inl := [] }
noncomputable abbrev yk : bE := .data oT
theorem w9 : XOk prog qh := xok ((aV bf aO)) (by kernel_rfl) aW bg bh
noncomputable def pN (n : den ag) (m : den (Ty.ref ab)) : af := af.ret (K.val (Ty.pair Ty.bool Ty.unit) (decide (Prod.fst (Prod.fst n) = Prod.fst m), PUnit.unit))
theorem ui (n : den ag) (m : den (Ty.ref ab)) : ap qh yk 5000 [] o6 (aH lA) (Env.of (aM oz (n, m, ()) 0) []) = pN n m := by kernel_rfl
noncomputable abbrev d9 : Fx := { fn := dF, ann := { loops := [(3, { keep := [3, 7, 8, 9], own := [(3, ab)] })] } }
noncomputable abbrev iY : a8 := { D := { T := bt, F := [], R := [], ovl := [] }, inl := [] }
noncomputable abbrev qo : bE := .data kU
theorem lv : XOk prog iY := xok ((aV bf aO)) (by kernel_rfl) aW bg bh
noncomputable def pR (o : den ah) : af := af.loop [] d9 (lp dF 3) [(3, K.sl 0 ab), (7, K.val (Ty.slc ag) (Prod.fst o)), (8, K.val ae (lnx ag (Prod.fst o))), (9, K.val ae 0)] [(0, Bx.row ab [])]
theorem tz (o : den ah) : ap iY qo 5000 [] d9 (aH dF) (Env.of (aM pf (o, ()) 0) []) = pR o := by kernel_rfl
noncomputable def nJ (v7 : den (Ty.slc ag)) (v8 : den ae) (v9 : den ae) (b0 : List (den ab)) : Env := Env.of [(3, K.sl 0 ab), (7, K.val (Ty.slc ag) v7), (8, K.val ae v8), (9, K.val ae v9)] [(0, Bx.row ab b0)]
noncomputable def uD (v7 : den (Ty.slc ag)) (v8 : den ae) (v9 : den ae) (b0 : List (den ab)) : af := af.ite (decide (v9 < v8)) (af.req (inB v9 (lnx ag v7)) (af.req (List.length (b0 ++ List.set (List.replicate 1 (zero ab)) 0 (Prod.fst (el ag v7 v9))) ≤ bM) (af.loop [] d9 (lp dF 3) [(3, K.sl 0 ab), (7, K.val (Ty.slc ag) v7), (8, K.val ae v8), (9, K.val ae (IntKind.wrap IntKind.i64 (v9 + 1)))] [(0, Bx.row ab (b0 ++ List.set (List.replicate 1 (zero ab)) 0 (Prod.fst (el ag v7 v9))))]))) (af.ret (K.val (Ty.pair (Ty.slc ab) Ty.unit) (b0, PUnit.unit)))
theorem k6 (v7 : den (Ty.slc ag)) (v8 : den ae) (v9 : den ae) (b0 : List (den ab)) : ap iY qo 5000 [] d9 (lp dF 3) (nJ v7 v8 v9 b0) = uD v7 v8 v9 b0 := by kernel_rfl
noncomputable abbrev fP : Fx := { fn := fp, ann := { loops := [(2, { keep := [1, 4, 9, 10, 11] })] } }
noncomputable abbrev lE : a8 := { D := { T := bt, F := [], R := [], ovl := [] }, inl := [] }
noncomputable abbrev ur : bE := .data nD
theorem pp : XOk prog lE := xok ((aV bf aO)) (by kernel_rfl) aW bg bh
noncomputable def t7 (o : den ah) (no : den ae) : af := af.loop [] fP (lp fp 2) [(1, K.val ae no), (4, K.ptr 0 ab []), (9, K.val (Ty.slc ag) (Prod.fst o)), (10, K.val ae (lnx ag (Prod.fst o))), (11, K.val ae 0)] [(0, Bx.cell ab (zero ab))]
theorem xb (o : den ah) (no : den ae) : ap lE ur 5000 [] fP (aH fp) (Env.of (aM sZ (o, no, ()) 0) []) = t7 o no := by kernel_rfl
noncomputable def qV (v1 : den ae) (v9 : den (Ty.slc ag)) (v10 : den ae) (v11 : den ae) (b0 : den ab) : Env := Env.of [(1, K.val ae v1), (4, K.ptr 0 ab []), (9, K.val (Ty.slc ag) v9), (10, K.val ae v10), (11, K.val ae v11)] [(0, Bx.cell ab b0)]
noncomputable def w4 (v1 : den ae) (v9 : den (Ty.slc ag)) (v10 : den ae) (v11 : den ae) (b0 : den ab) : af := af.ite (decide (v11 < v10)) (af.req (inB v11 (lnx ag v9)) (af.ite (decide (Prod.fst (Prod.fst (el ag v9 v11)) = v1)) (af.ret (K.val (Ty.pair ab (Ty.pair Ty.bool Ty.unit)) (Prod.fst (el ag v9 v11), true, PUnit.unit))) (af.loop [] fP (lp fp 2) [(1, K.val ae v1), (4, K.ptr 0 ab []), (9, K.val (Ty.slc ag) v9), (10, K.val ae v10), (11, K.val ae (IntKind.wrap IntKind.i64 (v11 + 1)))] [(0, Bx.cell ab b0)]))) (af.ret (K.val (Ty.pair ab (Ty.pair Ty.bool Ty.unit)) (zero (Ty.pair ae (Ty.pair tId Ty.unit)), false, PUnit.unit)))
theorem nj (v1 : den ae) (v9 : den (Ty.slc ag)) (v10 : den ae) (v11 : den ae) (b0 : den ab) : ap lE ur 5000 [] fP (lp fp 2) (qV v1 v9 v10 v11 b0) = w4 v1 v9 v10 v11 b0 := by kernel_rfl
noncomputable abbrev rk : Fx := { fn := ny, ann := { } }
noncomputable abbrev sI : a8 := { D := { T := bt, F := [(bw, bS), (eD, eE)], R := [], ovl := [] }, inl := [] }
noncomputable abbrev Ae : bE := .data qm
theorem z7 (h_slices_Concat_Member : aE prog [] bw (bS)) (h_slices_Values_Member : aE prog [] eD eE) : XOk prog sI := xok (aI (aI (aV bf aO) h_slices_Values_Member) h_slices_Concat_Member) (by kernel_rfl) aW bg bh
noncomputable def sW (n : den ag) : af := af.req (List.length (List.flatten (List.set (List.set (List.set (List.replicate 3 (zero (Ty.slc ab))) 0 (List.set (List.replicate 1 (zero ab)) 0 (Prod.fst (Prod.snd n)))) 1 (Prod.fst (Prod.snd (Prod.snd n)))) 2 (Prod.fst (Prod.snd (Prod.snd (Prod.snd n)))))) ≤ bM) (af.req True (af.ret (K.val (Ty.pair (Ty.clo cU (Ty.pair (Ty.ref (Ty.slc ab)) Ty.unit)) Ty.unit) ((List.flatten (List.set (List.set (List.set (List.replicate 3 (zero (Ty.slc ab))) 0 (List.set (List.replicate 1 (zero ab)) 0 (Prod.fst (Prod.snd n)))) 1 (Prod.fst (Prod.snd (Prod.snd n)))) 2 (Prod.fst (Prod.snd (Prod.snd (Prod.snd n))))), PUnit.unit), PUnit.unit))))
theorem vV (n : den ag) : ap sI Ae 5000 [] rk (aH ny) (Env.of (aM rU (n, ()) 0) []) = sW n := by kernel_rfl
end Go.Proofs.Ytimdnodkabnbfaa
namespace Go.Proofs.Ytimdnodkabnbfaa
open Go Go.RowKit
abbrev GCl (O : Nat → Prop) (w0 : World) (y : Mem × Int) := bv prog fu (Cx.base O w0) (cu prog O w0 jZ fun z => z = (y.1, y.2, ()))
theorem j2 : XOk prog fu := wg vz qk uv
def D2 (O : Nat → Prop) (w0 : World) (id self : List Int) (l : List Mem) (z : Mem) (hm : l.length ≤ maxLen) :=
 PLift.up <| bK (σ := Mem × Int) l.length (fun i s => s = ((l.take i).filter (lm self id)).foldl (fq self) (zero ab, 6))
  (fun i s => GCl O w0 (cQ id self l) (dC l (lnx ab l) (i : Nat) self (some fun y => (lm self id y.1, PUnit.unit)) z s.1 s.2) bH (lp bz 1) (dD l (lnx ab l) (i : Nat) self (some fun y => (lm self id y.1, PUnit.unit)) z s.1 s.2))
  (fun i s hi hs ih => aP j2 (c6 l _ _ self _ z s.1 s.2) (by
   have e : ((l.take (i + 1)).filter (lm self id)).foldl (fq self) (zero ab, 6) = ([l[i]].filter (lm self id)).foldl (fq self) s := by
    rw [List.take_succ_eq_append_getElem hi, List.filter_append, List.foldl_append, ← hs]
   refine ⟨fun _ => ⟨be hi, ⟨_, rfl⟩, ?_⟩, fun hc => absurd hi (by rw [cD] at hc; exact of_decide_eq_false hc)⟩
   rw [cL hi, cI hi hm]
   refine ⟨fun hc => ⟨fun _ => trivial, fun _ => trivial, fun _ => trivial, fun h2 => ih (l[i], 0) ?_, fun h2 => ih s ?_⟩, fun hc => ih s ?_⟩
   ·have hc : lm self id l[i] = true := hc
    rw [e, List.filter_cons_of_pos hc]
    show _ = fq self s l[i]
    unfold fq
    have h2 : (bif !decide (s.2 = 0) then true else decide (lK (cZ self s.1.2.1) (cZ self l[i].2.1) < 0)) = true := h2
    rw [h2]; rfl
   ·have hc : lm self id l[i] = true := hc
    rw [e, List.filter_cons_of_pos hc]
    show _ = fq self s l[i]
    unfold fq
    have h2 : (bif !decide (s.2 = 0) then true else decide (lK (cZ self s.1.2.1) (cZ self l[i].2.1) < 0)) = false := h2
    rw [h2]; rfl
   ·have hc : lm self id l[i] = false := hc
    rw [e, List.filter_cons_of_neg (by rw [hc]; decide)]
    rfl))
  (fun s hs => aP j2 (c6 l _ _ self _ z s.1 s.2) ⟨fun hc => absurd (of_decide_eq_true hc) (Int.lt_irrefl _), fun _ => ⟨_, rfl, by
   rw [List.take_length] at hs
   show (s.1, s.2, ()) = ((cQ id self l).1, (cQ id self l).2, ())
   rw [hs]; rfl⟩⟩)
theorem wV : aE prog [] ir hY :=
 bW (S := hY) j2 (fx := c5) u7 (by kernel_rfl) (fun _ _ => trivial) (T := fun x => oZ x.1 x.2.1 x.2.2.1) (fun x => tb x.1 x.2.1 x.2.2.1) fun O w0 x hk _ =>
  ⟨fun _ => trivial, (D2 O w0 x.1 x.2.1 x.2.2.1 (zero ab) hk.2.2.1.1).down 0 (zero ab, 6) (Nat.zero_le _) rfl⟩
theorem Ih (z a b : List Mem) : List.flatten (List.set (List.set (List.replicate 2 z) 0 a) 1 b) = a ++ b := by
 simp [List.replicate]
theorem GI (z a b c : List Mem) : List.flatten (List.set (List.set (List.set (List.replicate 3 z) 0 a) 1 b) 2 c) = a ++ b ++ c := by
 simp [List.replicate]
theorem Cq : aE prog [] mF ko :=
  bW (S := ko) (Cc lH rZ fI wV) (fx := ug) BK (by kernel_rfl) (fun _ _ => trivial) (T := fun x => vD x.1 x.2.1) (fun x => yS x.1 x.2.1) fun O w0 x _ _ => by
    obtain ⟨n, id, ⟨⟩⟩ := x
    have leaf : ∀ {p : Mem × Bool × Int}, c7 n id = p → ∃ z, a7 o8 (K.val (Ty.pair ab (Ty.pair Ty.bool (Ty.pair ae Ty.unit))) (p.1, p.2.1, p.2.2, PUnit.unit)) = some z ∧ z = ko.g (n, id, ()) := fun {p} e =>
      ⟨_, rfl, by show (p.1, p.2.1, p.2.2, ()) = ((c7 n id).1, (c7 n id).2.1, (c7 n id).2.2, ()); rw [e]⟩
    refine ⟨trivial, bC ⟨fun h => leaf (p := (_, _, _)) ?_, fun h => ?_⟩⟩
    · unfold c7; rw [h]; rfl
    · have hr : a9 n = true := by
        have h : (!a9 n) = false := h
        simpa using h
      obtain ⟨l1, l2, l3⟩ := A5 hr
      have hfl := Ih (zero (Ty.slc ab)) n.2.2.2.1 n.2.2.1
      refine ⟨be l2, trivial, bC ⟨fun h2 => leaf (p := (_, _, _)) ?_, fun h2 => ⟨?_, trivial, bC (bC ⟨fun h3 => ⟨be l2, leaf (p := (_, _, _)) ?_⟩, fun h3 => leaf (p := (_, _, _)) ?_⟩)⟩⟩⟩
      · unfold c7; rw [h, h2]; rfl
      · rw [hfl, List.length_append]; exact Nat.le_trans (Nat.add_le_add l3 l1) (by decide)
      · rw [hfl] at h3
        unfold c7; rw [h, h2, h3]; rfl
      · rw [hfl] at h3 ⊢
        unfold c7; rw [h, h2, h3]; rfl
abbrev GIq (O : Nat → Prop) (w0 : World) (y : Int) := bv prog dU (Cx.base O w0) (cu prog O w0 fo fun z => z = (y, ()))
def z8 (O : Nat → Prop) (w0 : World) (xs : List Nd) (f : den (.fn (.pair ag .unit) (.pair .bool .unit))) (hf : nV (.pair ag .unit) (.pair .bool .unit) f) (hm : xs.length ≤ maxLen) (y : Int) (hy : y = ixQ (prQ f) xs 0) :=
 PLift.up <| bK (σ := Unit) xs.length (fun i _ => ixQ (prQ f) (xs.drop i) (i : Nat) = y)
  (fun i _ => GIq O w0 y [] bY (lp bR 2) (ja xs f (lnx ag xs) (i : Nat)))
  (fun i _ hi hs ih => aP fK (gt xs f _ _) (by
   rw [List.drop_eq_getElem_cons hi] at hs
   have hs : (bif prQ f xs[i] then ((i : Nat) : Int) else ixQ (prQ f) (xs.drop (i + 1)) (((i : Nat) : Int) + 1)) = y := hs
   refine ⟨fun _ => ⟨be hi, hf, ?_⟩, fun hc => absurd hi (by rw [cD (e := ag)] at hc; exact of_decide_eq_false hc)⟩
   rw [cL (e := ag) hi, cI hi hm]
   refine ⟨fun hc => ⟨_, rfl, ?_⟩, fun hc => ih () ?_⟩
   ·have hc : prQ f xs[i] = true := hc
    rw [hc] at hs
    rw [← hs]
    rfl
   ·have hc : prQ f xs[i] = false := hc
    rw [hc] at hs
    exact hs))
  (fun _ hs => aP fK (gt xs f _ _) (by
   refine ⟨fun hc => absurd (of_decide_eq_true hc) (Int.lt_irrefl _), fun _ => ⟨_, rfl, ?_⟩⟩
   rw [List.drop_length] at hs
   rw [← hs]
   rfl))
theorem jX : aE prog [] cm cj :=
 bW (S := cj) fK (fx := bY) o5 (by kernel_rfl) (fun h => by cases h) (T := fun x => jT x.1 x.2.1) (fun x => nG x.1 x.2.1) fun O w0 x hk hp =>
  (z8 O w0 x.1 x.2.1 hp hk.1.1 _ rfl).down 0 () (Nat.zero_le _) rfl
theorem Dm (p : Nd → Bool) : ∀ (l : List Nd) (i : Int), 0 ≤ i → decide (0 ≤ ixQ p l i) = l.any p
 | [], _, _ => rfl
 | x :: l, i, hi => by
  show decide (0 ≤ (bif p x then i else ixQ p l (i + 1))) = (p x || l.any p)
  cases p x with
  | true => exact decide_eq_true hi
  | false => exact Dm p l (i + 1) (by omega)
theorem nm : aE prog [] dh de :=
 bW (S := de) (nq jX) (fx := g8) mY (by kernel_rfl) (fun h => by cases h) (T := fun x => it x.1 x.2.1) (fun x => lR x.1 x.2.1) fun O w0 x _ hp =>
  ⟨hp, _, rfl, by show (decide (0 ≤ ixQ (prQ x.2.1) x.1 0), ()) = (List.any x.1 (prQ x.2.1), ()); rw [Dm _ _ 0 (Int.le_refl _)]⟩
theorem xq : aE prog [] i7 i4 :=
 bW (S := i4) xY (fx := oM) wN (by kernel_rfl) (fun _ _ => trivial) (T := fun x => pD x.1 x.2.1) (fun x => tr x.1 x.2.1) fun O w0 x _ _ => ⟨_, rfl, rfl⟩
theorem yc : aE prog [] i5 i6 :=
 bW (S := i6) w9 (fx := o6) wX (by kernel_rfl) (fun _ _ => trivial) (T := fun x => pN x.1 x.2.1) (fun x => ui x.1 x.2.1) fun O w0 x _ _ => ⟨_, rfl, rfl⟩
abbrev GMb (O : Nat → Prop) (w0 : World) (y : List Mem) := bv prog iY (Cx.base O w0) (cu prog O w0 kU fun z => z = (y, ()))
def DU (O : Nat → Prop) (w0 : World) (l : List Nd) (hm : l.length ≤ 1000000) :=
 PLift.up <| bK (σ := List Mem) l.length (fun i b => b = (l.take i).map sfN)
  (fun i b => GMb O w0 (f5 l) [] d9 (lp dF 3) (nJ l (lnx ag l) (i : Nat) b))
  (fun i b hi hs ih => aP lv (k6 l _ _ b) (by
   refine ⟨fun _ => ⟨be hi, ?_, ?_⟩, fun hc => absurd hi (by rw [cD (e := ag)] at hc; exact of_decide_eq_false hc)⟩
   ·rw [List.length_append, hs, List.length_map, List.length_take]
    exact Nat.le_trans (show min i l.length + 1 ≤ 1000001 by omega) (by decide)
   ·rw [cL (e := ag) hi, cI hi (Nat.le_trans hm (by decide))]
    refine ih _ ?_
    rw [List.take_succ_eq_append_getElem hi, List.map_append, hs]; rfl))
  (fun b hs => aP lv (k6 l _ _ b) ⟨fun hc => absurd (of_decide_eq_true hc) (Int.lt_irrefl _), fun _ => ⟨_, rfl, by
   rw [List.take_length] at hs
   rw [hs]; rfl⟩⟩)
theorem xt : aE prog [] jc iV :=
 bW (S := iV) lv (fx := d9) wz (by kernel_rfl) (fun h => by cases h) (T := fun x => pR x.1) (fun x => tz x.1) fun O w0 x _ hp =>
  (DU O w0 x.1.1 hp).down 0 [] (Nat.zero_le _) rfl
theorem El (n : Nd) (l : List Nd) (no : Int) : fE (n :: l) no = bif decide (n.1.1 = no) then (n.1, true) else fE l no := by
 unfold fE
 rw [List.find?_cons]
 cases decide (n.1.1 = no) <;> rfl
abbrev GSf (O : Nat → Prop) (w0 : World) (y : Mem × Bool) := bv prog lE (Cx.base O w0) (cu prog O w0 nD fun z => z = (y.1, y.2, ()))
def HF (O : Nat → Prop) (w0 : World) (l : List Nd) (no : Int) (z : Mem) (hm : l.length ≤ maxLen) :=
 PLift.up <| bK (σ := Unit) l.length (fun i _ => fE (l.drop i) no = fE l no)
  (fun i _ => GSf O w0 (fE l no) [] fP (lp fp 2) (qV no l (lnx ag l) (i : Nat) z))
  (fun i _ hi hs ih => aP pp (nj no l _ _ z) (by
   rw [List.drop_eq_getElem_cons hi, El] at hs
   refine ⟨fun _ => ⟨be hi, ?_⟩, fun hc => absurd hi (by rw [cD (e := ag)] at hc; exact of_decide_eq_false hc)⟩
   rw [cL (e := ag) hi, cI hi hm]
   refine ⟨fun hc => ⟨_, rfl, ?_⟩, fun hc => ih () ?_⟩
   ·have hc : decide (l[i].1.1 = no) = true := hc
    rw [hc] at hs
    show (_, _, _) = ((fE l no).1, (fE l no).2, ())
    rw [← hs]; rfl
   ·have hc : decide (l[i].1.1 = no) = false := hc
    rw [hc] at hs
    exact hs))
  (fun _ hs => aP pp (nj no l _ _ z) ⟨fun hc => absurd (of_decide_eq_true hc) (Int.lt_irrefl _), fun _ => ⟨_, rfl, by
   rw [List.drop_length] at hs
   show (_, _, _) = ((fE l no).1, (fE l no).2, ())
   rw [← hs]; rfl⟩⟩)
theorem Bv : aE prog [] lJ lu :=
 bW (S := lu) pp (fx := fP) Aa (by kernel_rfl) (fun _ _ => trivial) (T := fun x => t7 x.1 x.2.1) (fun x => xb x.1 x.2.1) fun O w0 x hk _ =>
  (HF O w0 x.1.1 x.2.1 _ hk.1.1.1).down 0 () (Nat.zero_le _) rfl
theorem zW : aE prog [] kL kA :=
 bW (S := kA) (z7 fI qz) (fx := rk) yC (by kernel_rfl) (fun h => by cases h) (T := fun x => sW x.1) (fun x => vV x.1) fun O w0 x _ hp => by
  obtain ⟨n, ⟨⟩⟩ := x
  have hp : (bU n).length ≤ 1000000 := hp
  have hf : List.flatten (List.set (List.set (List.set (List.replicate 3 (zero (Ty.slc ab))) 0 (List.set (List.replicate 1 (zero ab)) 0 n.2.1)) 1 n.2.2.1) 2 n.2.2.2.1) = bU n := GI _ _ _ _
  refine ⟨by rw [hf]; exact Nat.le_trans hp (by decide), trivial, _, rfl, ?_⟩
  rw [hf]
end Go.Proofs.Ytimdnodkabnbfaa
namespace Go.Proofs.Ytimdnodkabnbfaa
open Go Go.RowKit
noncomputable abbrev ce : Fx := { fn := cg, ann := { loops := [(1, { keep := [0, 5, 6, 7] })], frz := [(1000001, [1, 2, 3, 12, 13, 14])], gy := true }, share := true }
noncomputable abbrev cE : Fx := { fn := a5, ann := { loops := [(3, { keep := [1, 2, 3, 12, 13, 14, 42] })] }, share := true }
noncomputable abbrev fN : a8 := { D := { T := bt, F := [(jc, iV), (c9, db), (kL, kA), (lJ, lu), (lD, lr)], R := [], ovl := [] }, inl := [(cU, ce)] }
noncomputable abbrev nA : bE := .data mg
theorem z0 (h_chord_Members : aE prog [] jc iV) (h_node_Right : aE prog [] c9 db) (h_chord_known : aE prog [] kL kA) (h_chord_self : aE prog [] lJ lu) (h_ring_Right : aE prog [] lD lr) : XOk prog fN := xok (aI (aI (aI (aI (aI (aV bf aO) h_ring_Right) h_chord_self) h_chord_known) h_node_Right) h_chord_Members) (by kernel_rfl) aW (k3 n5 (by kernel_rfl) bg) bh
noncomputable def sU (o : den ah) : af := af.req (List.length (Prod.fst o) ≤ 1000000) (af.all (den (Ty.slc ab)) (fun (q1 : den (Ty.slc ab)) ↦ q1 = f5 (Prod.fst o)) fun (q1 : den (Ty.slc ab)) ↦ af.loop [] cE (lp a5 3) [(1, K.ptr 0 ah []), (2, K.ptr (0 + 1) Ty.bool []), (3, K.val (Ty.slc ab) q1), (12, K.val (Ty.slc ag) (Prod.fst o)), (13, K.val ae (lnx ag (Prod.fst o))), (14, K.val ae 0)] [(0, Bx.cell ah o), (0 + 1, Bx.cell Ty.bool (zero Ty.bool))])
theorem wF (o : den ah) : ap fN nA 5000 [] cE (aH a5) (Env.of (aM rf (o, ()) 0) []) = sU o := by kernel_rfl
noncomputable def lw (v3 : den (Ty.slc ab)) (v12 : den (Ty.slc ag)) (v13 : den ae) (v14 : den ae) (b0 : den ah) (b1 : den Ty.bool) : Env := Env.of [(1, K.ptr 0 ah []), (2, K.ptr (0 + 1) Ty.bool []), (3, K.val (Ty.slc ab) v3), (12, K.val (Ty.slc ag) v12), (13, K.val ae v13), (14, K.val ae v14)] [(0, Bx.cell ah b0), (1, Bx.cell Ty.bool b1)]
noncomputable def wy (v3 : den (Ty.slc ab)) (v12 : den (Ty.slc ag)) (v13 : den ae) (v14 : den ae) (b0 : den ah) (b1 : den Ty.bool) : af := af.ite (decide (v14 < v13)) (af.req (inB v14 (lnx ag v12)) (af.req True (af.req (dT [(!a9 (el ag v12 v14), false), (decide (0 < v14), true)] (inB (IntKind.wrap IntKind.i64 (v14 - 1)) (lnx ag (Prod.fst b0)))) (af.all (den Ty.bool) (fun (q6 : den Ty.bool) ↦ q6 = a9 (el ag v12 v14)) fun (q6 : den Ty.bool) ↦ af.ite (bif !a9 (el ag v12 v14) then true else bif decide (0 < v14) then decide (Prod.fst (Prod.fst (el ag v12 v14)) ≤ Prod.fst (Prod.fst (el ag (Prod.fst b0) (IntKind.wrap IntKind.i64 (v14 - 1))))) else false) (af.ret (K.val (Ty.pair Ty.bool Ty.unit) (false, PUnit.unit))) (af.req (List.length (bU (el ag v12 v14)) ≤ 1000000) (af.loop [{ fx := cE, todo := cX a5 9, dst := none, s := ofS [(1, K.ptr (0 + 1) ah []), (2, K.ptr (0 + 1 + 1) Ty.bool []), (3, K.val (Ty.slc ab) v3), (12, K.val (Ty.slc ag) v12), (13, K.val ae v13), (14, K.val ae v14)], rng := some 0 }] ce (lp cg 1) [(0, K.yld 0), (5, K.val (Ty.slc ab) (bU (el ag v12 v14))), (6, K.val ae (lnx ab (bU (el ag v12 v14)))), (7, K.val ae 0)] [(0, Bx.lop LoopState.ready none [(1, K.ptr (0 + 1) ah []), (2, K.ptr (0 + 1 + 1) Ty.bool [])] 59 (mm a5 9) (ef a5 9) (gH a5 9)), (0 + 1, Bx.cell ah b0), (0 + 1 + 1, Bx.cell Ty.bool b1)])))))) (af.req True (af.all (den Ty.bool) (fun (q6 : den Ty.bool) ↦ q6 = ia v3) fun (q6 : den Ty.bool) ↦ af.ret (K.val (Ty.pair Ty.bool Ty.unit) (q6, PUnit.unit))))
theorem l6 (v3 : den (Ty.slc ab)) (v12 : den (Ty.slc ag)) (v13 : den ae) (v14 : den ae) (b0 : den ah) (b1 : den Ty.bool) : ap fN nA 5000 [] cE (lp a5 3) (lw v3 v12 v13 v14 b0 b1) = wy v3 v12 v13 v14 b0 b1 := by kernel_rfl
noncomputable def dY (w0_3 : den (Ty.slc ab)) (w0_12 : den (Ty.slc ag)) (w0_13 : den ae) (w0_14 : den ae) (v5 : den (Ty.slc ab)) (v6 : den ae) (v7 : den ae) (b1 : den ah) (b2 : den Ty.bool) : List bL := [{ fx := cE, todo := cX a5 9, dst := none, s := ofS [(1, K.ptr (0 + 1) ah []), (2, K.ptr (0 + 1 + 1) Ty.bool []), (3, K.val (Ty.slc ab) w0_3), (12, K.val (Ty.slc ag) w0_12), (13, K.val ae w0_13), (14, K.val ae w0_14)], rng := some 0 }]
noncomputable def d5 (w0_3 : den (Ty.slc ab)) (w0_12 : den (Ty.slc ag)) (w0_13 : den ae) (w0_14 : den ae) (v5 : den (Ty.slc ab)) (v6 : den ae) (v7 : den ae) (b1 : den ah) (b2 : den Ty.bool) : Env := Env.of [(0, K.yld 0), (5, K.val (Ty.slc ab) v5), (6, K.val ae v6), (7, K.val ae v7)] [(0, Bx.lop LoopState.ready none [(1, K.ptr (0 + 1) ah []), (2, K.ptr (0 + 1 + 1) Ty.bool [])] 59 (mm a5 9) (ef a5 9) (gH a5 9)), (1, Bx.cell ah b1), (2, Bx.cell Ty.bool b2)]
noncomputable def iF (w0_3 : den (Ty.slc ab)) (w0_12 : den (Ty.slc ag)) (w0_13 : den ae) (w0_14 : den ae) (v5 : den (Ty.slc ab)) (v6 : den ae) (v7 : den ae) (b1 : den ah) (b2 : den Ty.bool) : af := af.ite (decide (v7 < v6)) (af.req (inB v7 (lnx ab v5)) (af.req True (af.all (den (Ty.pair ab (Ty.pair Ty.bool Ty.unit))) (fun (q9 : den (Ty.pair ab (Ty.pair Ty.bool Ty.unit))) ↦ q9 = (Prod.fst (fE (Prod.fst b1) (Prod.fst (el ab v5 v7))), Prod.snd (fE (Prod.fst b1) (Prod.fst (el ab v5 v7))), PUnit.unit)) fun (q9 : den (Ty.pair ab (Ty.pair Ty.bool Ty.unit))) ↦ af.ite (bif Prod.fst (Prod.snd q9) then !eqb ab (Prod.fst q9) (el ab v5 v7) else false) (af.ret (K.val (Ty.pair Ty.bool Ty.unit) (false, PUnit.unit))) (af.loop [{ fx := cE, todo := cX a5 9, dst := none, s := ofS [(1, K.ptr (0 + 1) ah []), (2, K.ptr (0 + 1 + 1) Ty.bool []), (3, K.val (Ty.slc ab) w0_3), (12, K.val (Ty.slc ag) w0_12), (13, K.val ae w0_13), (14, K.val ae w0_14)], rng := some 0 }] ce (lp cg 1) [(0, K.yld 0), (5, K.val (Ty.slc ab) v5), (6, K.val ae v6), (7, K.val ae (IntKind.wrap IntKind.i64 (v7 + 1)))] [(0, Bx.lop LoopState.ready none [(1, K.ptr (0 + 1) ah []), (2, K.ptr (0 + 1 + 1) Ty.bool [])] 59 (mm a5 9) (ef a5 9) (gH a5 9)), (0 + 1, Bx.cell ah b1), (0 + 1 + 1, Bx.cell Ty.bool b2)])))) (af.loop [] cE (lp a5 3) [(1, K.ptr 0 ah []), (2, K.ptr (0 + 1) Ty.bool []), (3, K.val (Ty.slc ab) w0_3), (12, K.val (Ty.slc ag) w0_12), (13, K.val ae w0_13), (14, K.val ae (IntKind.wrap IntKind.i64 (w0_14 + 1)))] [(0, Bx.cell ah b1), (0 + 1, Bx.cell Ty.bool b2)])
theorem du (w0_3 : den (Ty.slc ab)) (w0_12 : den (Ty.slc ag)) (w0_13 : den ae) (w0_14 : den ae) (v5 : den (Ty.slc ab)) (v6 : den ae) (v7 : den ae) (b1 : den ah) (b2 : den Ty.bool) : ap fN nA 5000 (dY w0_3 w0_12 w0_13 w0_14 v5 v6 v7 b1 b2) ce (lp cg 1) (d5 w0_3 w0_12 w0_13 w0_14 v5 v6 v7 b1 b2) = iF w0_3 w0_12 w0_13 w0_14 v5 v6 v7 b1 b2 := by kernel_rfl
noncomputable abbrev d7 : Fx := { fn := dP, ann := { loops := [(7, { keep := [3, 5, 6, 9, 10, 36, 37, 38], own := [(10, ae)] })], frz := [(1, [4]), (9, [12]), (12, [10])] }, share := true }
noncomputable abbrev iu : a8 := { D := { T := bt, F := [(cm, cj), (i7, i4), (i5, i6), (dh, de), (bw, bS), (mN, mH), (mU, mT), (mF, ko)], R := [], ovl := [] }, inl := [] }
noncomputable abbrev sH : bE := .data jI
theorem zV (h_slices_IndexFunc_Node : aE prog [] cm cj) (h_lookup_asks_1 : aE prog [] i7 i4) (h_lookup_asks_2 : aE prog [] i5 i6) (h_slices_ContainsFunc_Node : aE prog [] dh de) (h_slices_Concat_Member : aE prog [] bw (bS)) (h_node_Drop : aE prog [] mN mH) (h_node_Owns : aE prog [] mU mT) (h_node_Next : aE prog [] mF ko) : XOk prog iu := xok (aI (aI (aI (aI (aI (aI (aI (aI (aV bf aO) h_node_Next) h_node_Owns) h_node_Drop) h_slices_Concat_Member) h_slices_ContainsFunc_Node) h_lookup_asks_2) h_lookup_asks_1) h_slices_IndexFunc_Node) (by kernel_rfl) aW bg bh
noncomputable def sR (o : den ah) (no : den ae) (id : den tId) : af := af.req (∀ (y : den (Ty.pair ag Ty.unit)), True) (af.req (∃ (h : den (Ty.pair ag Ty.unit) → den (Ty.pair Ty.bool Ty.unit)), (some fun (y : den (Ty.pair ag Ty.unit)) ↦ (decide (Prod.fst (Prod.fst (Prod.fst y)) = no), PUnit.unit)) = some h) (af.all (den ae) (fun (q3 : den ae) ↦ q3 = ixQ (prQ (some fun (y : den (Ty.pair ag Ty.unit)) ↦ (decide (Prod.fst (Prod.fst (Prod.fst y)) = no), PUnit.unit))) (Prod.fst o) 0) fun (q3 : den ae) ↦ af.ite (decide (q3 < 0)) (af.ret (K.val (Ty.pair ao (Ty.pair Ty.bool Ty.unit)) (zero (Ty.pair ab (Ty.pair Ty.bool Ty.unit)), false, PUnit.unit))) (af.req (inB q3 (lnx ag (Prod.fst o))) (af.req (List.length (List.flatten (List.set (List.set (List.set (List.replicate 3 (zero (Ty.slc ab))) 0 (List.set (List.replicate 1 (zero ab)) 0 (Prod.fst (Prod.snd (el ag (Prod.fst o) q3))))) 1 (Prod.fst (Prod.snd (Prod.snd (el ag (Prod.fst o) q3))))) 2 (Prod.fst (Prod.snd (Prod.snd (Prod.snd (el ag (Prod.fst o) q3))))))) ≤ bM) (af.all (den (Ty.slc ab)) (fun (q4 : den (Ty.slc ab)) ↦ q4 = List.flatten (List.set (List.set (List.set (List.replicate 3 (zero (Ty.slc ab))) 0 (List.set (List.replicate 1 (zero ab)) 0 (Prod.fst (Prod.snd (el ag (Prod.fst o) q3))))) 1 (Prod.fst (Prod.snd (Prod.snd (el ag (Prod.fst o) q3))))) 2 (Prod.fst (Prod.snd (Prod.snd (Prod.snd (el ag (Prod.fst o) q3))))))) fun (q4 : den (Ty.slc ab)) ↦ af.loop [] d7 (lp dP 7) [(3, K.ptr 0 ah []), (5, K.ptr (0 + 1) tId []), (6, K.ptr (0 + 1 + 1) ao []), (9, K.ptr (0 + 1 + 1 + 1) ag []), (10, K.sl (0 + 1 + 1 + 1 + 1) ae), (36, K.val (Ty.slc ab) q4), (37, K.val ae (lnx ab q4)), (38, K.val ae 0)] [(0, Bx.cell ah o), (0 + 1, Bx.cell tId id), (0 + 1 + 1, Bx.cell ao (zero ao)), (0 + 1 + 1 + 1, Bx.cell ag (el ag (Prod.fst o) q3)), (0 + 1 + 1 + 1 + 1, Bx.row ae [])])))))
theorem v4 (o : den ah) (no : den ae) (id : den tId) : ap iu sH 5000 [] d7 (aH dP) (Env.of (aM rh (o, no, id, ()) 0) []) = sR o no id := by kernel_rfl
noncomputable def p5 (v36 : den (Ty.slc ab)) (v37 : den ae) (v38 : den ae) (b0 : den ah) (b1 : den tId) (b2 : den ao) (b3 : den ag) (b4 : List (den ae)) : Env := Env.of [(3, K.ptr 0 ah []), (5, K.ptr (0 + 1) tId []), (6, K.ptr (0 + 1 + 1) ao []), (9, K.ptr (0 + 1 + 1 + 1) ag []), (10, K.sl (0 + 1 + 1 + 1 + 1) ae), (36, K.val (Ty.slc ab) v36), (37, K.val ae v37), (38, K.val ae v38)] [(0, Bx.cell ah b0), (1, Bx.cell tId b1), (2, Bx.cell ao b2), (3, Bx.cell ag b3), (4, Bx.row ae b4)]
noncomputable def wR (v36 : den (Ty.slc ab)) (v37 : den ae) (v38 : den ae) (b0 : den ah) (b1 : den tId) (b2 : den ao) (b3 : den ag) (b4 : List (den ae)) : af := af.ite (decide (v38 < v37)) (af.req (inB v38 (lnx ab v36)) (af.req (∀ (y : den (Ty.pair ag Ty.unit)), True) (af.req (∃ (h : den (Ty.pair ag Ty.unit) → den (Ty.pair Ty.bool Ty.unit)), (some fun (y : den (Ty.pair ag Ty.unit)) ↦ (decide (Prod.fst (Prod.fst (Prod.fst y)) = Prod.fst (el ab v36 v38)), PUnit.unit)) = some h) (af.all (den Ty.bool) (fun (q8 : den Ty.bool) ↦ q8 = List.any (Prod.fst b0) (prQ (some fun (y : den (Ty.pair ag Ty.unit)) ↦ (decide (Prod.fst (Prod.fst (Prod.fst y)) = Prod.fst (el ab v36 v38)), PUnit.unit)))) fun (q8 : den Ty.bool) ↦ af.ite (!q8) (af.req (List.length (b4 ++ List.set (List.replicate 1 (zero ae)) 0 (Prod.fst (el ab v36 v38))) ≤ bM) (af.loop [] d7 (lp dP 7) [(3, K.ptr 0 ah []), (5, K.ptr (0 + 1) tId []), (6, K.ptr (0 + 1 + 1) ao []), (9, K.ptr (0 + 1 + 1 + 1) ag []), (10, K.sl (0 + 1 + 1 + 1 + 1) ae), (36, K.val (Ty.slc ab) v36), (37, K.val ae v37), (38, K.val ae (IntKind.wrap IntKind.i64 (v38 + 1)))] [(0, Bx.cell ah b0), (0 + 1, Bx.cell tId b1), (0 + 1 + 1, Bx.cell ao b2), (0 + 1 + 1 + 1, Bx.cell ag b3), (0 + 1 + 1 + 1 + 1, Bx.row ae (b4 ++ List.set (List.replicate 1 (zero ae)) 0 (Prod.fst (el ab v36 v38))))])) (af.loop [] d7 (lp dP 7) [(3, K.ptr 0 ah []), (5, K.ptr (0 + 1) tId []), (6, K.ptr (0 + 1 + 1) ao []), (9, K.ptr (0 + 1 + 1 + 1) ag []), (10, K.sl (0 + 1 + 1 + 1 + 1) ae), (36, K.val (Ty.slc ab) v36), (37, K.val ae v37), (38, K.val ae (IntKind.wrap IntKind.i64 (v38 + 1)))] [(0, Bx.cell ah b0), (0 + 1, Bx.cell tId b1), (0 + 1 + 1, Bx.cell ao b2), (0 + 1 + 1 + 1, Bx.cell ag b3), (0 + 1 + 1 + 1 + 1, Bx.row ae b4)]))))) (af.req True (af.all (den (Ty.pair ag (Ty.pair ae Ty.unit))) (fun (q8 : den (Ty.pair ag (Ty.pair ae Ty.unit))) ↦ q8 = (Prod.fst (fh b3 b4), Prod.snd (fh b3 b4), PUnit.unit)) fun (q8 : den (Ty.pair ag (Ty.pair ae Ty.unit))) ↦ af.req True (af.all (den Ty.bool) (fun (q9 : den Ty.bool) ↦ q9 = ot (Prod.fst q8) b1) fun (q9 : den Ty.bool) ↦ af.ite q9 (af.ret (K.val (Ty.pair ao (Ty.pair Ty.bool Ty.unit)) ((Prod.fst (Prod.fst q8), true, zero Ty.unit), true, PUnit.unit))) (af.req True (af.all (den (Ty.pair ab (Ty.pair Ty.bool (Ty.pair ae Ty.unit)))) (fun (q10 : den (Ty.pair ab (Ty.pair Ty.bool (Ty.pair ae Ty.unit)))) ↦ q10 = (Prod.fst (c7 (Prod.fst q8) b1), Prod.fst (Prod.snd (c7 (Prod.fst q8) b1)), Prod.snd (Prod.snd (c7 (Prod.fst q8) b1)), PUnit.unit)) fun (q10 : den (Ty.pair ab (Ty.pair Ty.bool (Ty.pair ae Ty.unit)))) ↦ af.ret (K.val (Ty.pair ao (Ty.pair Ty.bool Ty.unit)) ((Prod.fst q10, Prod.fst (Prod.snd q10), zero Ty.unit), true, PUnit.unit)))))))
theorem lX (v36 : den (Ty.slc ab)) (v37 : den ae) (v38 : den ae) (b0 : den ah) (b1 : den tId) (b2 : den ao) (b3 : den ag) (b4 : List (den ae)) : ap iu sH 5000 [] d7 (lp dP 7) (p5 v36 v37 v38 b0 b1 b2 b3 b4) = wR v36 v37 v38 b0 b1 b2 b3 b4 := by kernel_rfl
noncomputable abbrev xv : Fx := { fn := rV, ann := { }, share := true }
noncomputable abbrev cG : Fx := { fn := cp, ann := { loops := [(1, { keep := [0, 2, 3, 5] })], frz := [(1000001, [4, 6, 7, 8, 9, 10, 11])], gy := true }, share := true }
noncomputable abbrev d8 : Fx := { fn := aR, ann := { }, own := [8, 11], share := true }
noncomputable abbrev fM : a8 := { D := { T := bt, F := [(kD, kC), (kB, kG)], R := [], ovl := [] }, inl := [(rQ, xv), (oH, cG)] }
noncomputable abbrev nv : bE := .data dt
theorem z9 (h_chord_Right : aE prog [] kD kC) (h_lookup_asks : aE prog [] kB kG) : XOk prog fM := xok (aI (aI (aV bf aO) h_lookup_asks) h_chord_Right) (by kernel_rfl) aW (k3 xU (by kernel_rfl) (k3 u5 (by kernel_rfl) bg)) bh
noncomputable def sF (o : den ah) (no : den ae) (id : den tId) (hops : den ae) : af := af.req (List.length (Prod.fst o) ≤ 1000000) (af.all (den Ty.bool) (fun (q4 : den Ty.bool) ↦ q4 = bA (Prod.fst o)) fun (q4 : den Ty.bool) ↦ af.ite (bif bif !q4 then true else decide (hops < 0) then true else decide (16 < hops)) (af.ret (K.val (Ty.pair (Ty.slc ae) (Ty.pair ab (Ty.pair ae Ty.unit))) ([], zero (Ty.pair ae (Ty.pair tId Ty.unit)), 1, PUnit.unit))) (af.loop [{ fx := d8, todo := cX aR 7, dst := none, s := ofS [(4, K.ptr (0 + 1 + 1 + 1) ah []), (6, K.ptr (0 + 1 + 1 + 1 + 1) tId []), (7, K.ptr (0 + 1 + 1 + 1 + 1 + 1) ae []), (8, K.ptr (0 + 1 + 1 + 1 + 1 + 1 + 1) (Ty.slc ae) []), (9, K.ptr (0 + 1 + 1 + 1 + 1 + 1 + 1 + 1) ab []), (10, K.ptr (0 + 1 + 1 + 1 + 1 + 1 + 1 + 1 + 1) ae []), (11, K.ptr (0 + 1 + 1 + 1 + 1 + 1 + 1 + 1 + 1 + 1) (Ty.slc ae) [])], rng := some 0 }] cG (lp cp 1) [(0, K.yld 0), (2, K.ptr (0 + 1) ah []), (3, K.ptr (0 + 1 + 1) tId []), (5, K.val ae no)] [(0, Bx.lop LoopState.ready none [(7, K.ptr (0 + 1 + 1 + 1 + 1 + 1) ae []), (11, K.ptr (0 + 1 + 1 + 1 + 1 + 1 + 1 + 1 + 1 + 1) (Ty.slc ae) []), (8, K.ptr (0 + 1 + 1 + 1 + 1 + 1 + 1) (Ty.slc ae) []), (9, K.ptr (0 + 1 + 1 + 1 + 1 + 1 + 1 + 1) ab []), (10, K.ptr (0 + 1 + 1 + 1 + 1 + 1 + 1 + 1 + 1) ae [])] 73 (mm aR 7) (ef aR 7) (gH aR 7)), (0 + 1, Bx.cell ah o), (0 + 1 + 1, Bx.cell tId id), (0 + 1 + 1 + 1, Bx.cell ah o), (0 + 1 + 1 + 1 + 1, Bx.cell tId id), (0 + 1 + 1 + 1 + 1 + 1, Bx.cell ae hops), (0 + 1 + 1 + 1 + 1 + 1 + 1, Bx.obj (Ty.slc ae) K.nilsl), (0 + 1 + 1 + 1 + 1 + 1 + 1 + 1, Bx.cell ab (zero ab)), (0 + 1 + 1 + 1 + 1 + 1 + 1 + 1 + 1, Bx.cell ae (zero ae)), (0 + 1 + 1 + 1 + 1 + 1 + 1 + 1 + 1 + 1, Bx.obj (Ty.slc ae) K.nilsl)]))
theorem wA (o : den ah) (no : den ae) (id : den tId) (hops : den ae) : ap fM nv 5000 [] d8 (aH aR) (Env.of (aM rS (o, no, id, hops, ()) 0) []) = sF o no id hops := by kernel_rfl
noncomputable def gd (v5 : den ae) (b1 : den ah) (b2 : den tId) (b3 : den ah) (b4 : den tId) (b5 : den ae) (b7 : den ab) (b8 : den ae) : List bL := [{ fx := d8, todo := cX aR 7, dst := none, s := ofS [(4, K.ptr (0 + 1 + 1 + 1) ah []), (6, K.ptr (0 + 1 + 1 + 1 + 1) tId []), (7, K.ptr (0 + 1 + 1 + 1 + 1 + 1) ae []), (8, K.ptr (0 + 1 + 1 + 1 + 1 + 1 + 1) (Ty.slc ae) []), (9, K.ptr (0 + 1 + 1 + 1 + 1 + 1 + 1 + 1) ab []), (10, K.ptr (0 + 1 + 1 + 1 + 1 + 1 + 1 + 1 + 1) ae []), (11, K.ptr (0 + 1 + 1 + 1 + 1 + 1 + 1 + 1 + 1 + 1) (Ty.slc ae) [])], rng := some 0 }]
noncomputable def ga (v5 : den ae) (b1 : den ah) (b2 : den tId) (b3 : den ah) (b4 : den tId) (b5 : den ae) (b7 : den ab) (b8 : den ae) : Env := Env.of [(0, K.yld 0), (2, K.ptr (0 + 1) ah []), (3, K.ptr (0 + 1 + 1) tId []), (5, K.val ae v5)] [(0, Bx.lop LoopState.ready none [(7, K.ptr (0 + 1 + 1 + 1 + 1 + 1) ae []), (11, K.ptr (0 + 1 + 1 + 1 + 1 + 1 + 1 + 1 + 1 + 1) (Ty.slc ae) []), (8, K.ptr (0 + 1 + 1 + 1 + 1 + 1 + 1) (Ty.slc ae) []), (9, K.ptr (0 + 1 + 1 + 1 + 1 + 1 + 1 + 1) ab []), (10, K.ptr (0 + 1 + 1 + 1 + 1 + 1 + 1 + 1 + 1) ae [])] 73 (mm aR 7) (ef aR 7) (gH aR 7)), (1, Bx.cell ah b1), (2, Bx.cell tId b2), (3, Bx.cell ah b3), (4, Bx.cell tId b4), (5, Bx.cell ae b5), (6, Bx.obj (Ty.slc ae) K.nilsl), (7, Bx.cell ab b7), (8, Bx.cell ae b8), (9, Bx.obj (Ty.slc ae) K.nilsl)]
noncomputable def lj (v5 : den ae) (b1 : den ah) (b2 : den tId) (b3 : den ah) (b4 : den tId) (b5 : den ae) (b7 : den ab) (b8 : den ae) : af := af.req (bA (Prod.fst b1) = true) (af.all (den (Ty.pair ao (Ty.pair Ty.bool Ty.unit))) (fun (q8 : den (Ty.pair ao (Ty.pair Ty.bool Ty.unit))) ↦ q8 = (Prod.fst (ar (Prod.fst b1) v5 b2), Prod.snd (ar (Prod.fst b1) v5 b2), PUnit.unit)) fun (q8 : den (Ty.pair ao (Ty.pair Ty.bool Ty.unit))) ↦ af.ite (!Prod.fst (Prod.snd q8)) (af.ret (K.val (Ty.pair (Ty.slc ae) (Ty.pair ab (Ty.pair ae Ty.unit))) ([], zero (Ty.pair ae (Ty.pair tId Ty.unit)), 10, PUnit.unit))) (af.ite (decide (b5 < 0)) (af.ret (K.val (Ty.pair (Ty.slc ae) (Ty.pair ab (Ty.pair ae Ty.unit))) ([], zero (Ty.pair ae (Ty.pair tId Ty.unit)), 9, PUnit.unit))) (af.req (List.length (List.set (List.replicate 1 (zero ae)) 0 v5) ≤ bM) (af.ite (bif Prod.fst (Prod.snd (Prod.fst q8)) then decide (Prod.fst (Prod.fst (Prod.fst q8)) = v5) else false) (af.ret (K.val (Ty.pair (Ty.slc ae) (Ty.pair ab (Ty.pair ae Ty.unit))) (List.set (List.replicate 1 (zero ae)) 0 v5, Prod.fst (Prod.fst q8), 0, PUnit.unit))) (af.ite (Prod.fst (Prod.snd (Prod.fst q8))) (af.req (List.length (List.set (List.replicate 1 (zero ae)) 0 v5 ++ List.set (List.replicate 1 (zero ae)) 0 (Prod.fst (Prod.fst (Prod.fst q8)))) ≤ bM) (af.ret (K.val (Ty.pair (Ty.slc ae) (Ty.pair ab (Ty.pair ae Ty.unit))) (List.set (List.replicate 1 (zero ae)) 0 v5 ++ List.set (List.replicate 1 (zero ae)) 0 (Prod.fst (Prod.fst (Prod.fst q8))), Prod.fst (Prod.fst q8), 0, PUnit.unit)))) (af.ite (decide (Prod.fst (Prod.fst (Prod.fst q8)) = v5)) (af.ret (K.val (Ty.pair (Ty.slc ae) (Ty.pair ab (Ty.pair ae Ty.unit))) ([], zero (Ty.pair ae (Ty.pair tId Ty.unit)), 13, PUnit.unit))) (af.ite (bif Prod.fst (Prod.snd (Prod.fst q8)) then true else eqb ao (Prod.fst q8) ((v5, Prod.fst (Prod.snd (Prod.fst (Prod.fst q8))), zero Ty.unit), zero (Ty.pair Ty.bool Ty.unit))) (af.ret (K.val (Ty.pair (Ty.slc ae) (Ty.pair ab (Ty.pair ae Ty.unit))) ([], zero (Ty.pair ae (Ty.pair tId Ty.unit)), 10, PUnit.unit))) (af.loop [{ fx := d8, todo := cX aR 7, dst := none, s := ofS [(4, K.ptr (0 + 1 + 1 + 1) ah []), (6, K.ptr (0 + 1 + 1 + 1 + 1) tId []), (7, K.ptr (0 + 1 + 1 + 1 + 1 + 1) ae []), (8, K.ptr (0 + 1 + 1 + 1 + 1 + 1 + 1) (Ty.slc ae) []), (9, K.ptr (0 + 1 + 1 + 1 + 1 + 1 + 1 + 1) ab []), (10, K.ptr (0 + 1 + 1 + 1 + 1 + 1 + 1 + 1 + 1) ae []), (11, K.ptr (0 + 1 + 1 + 1 + 1 + 1 + 1 + 1 + 1 + 1) (Ty.slc ae) [])], rng := some 0 }] cG (lp cp 1) [(0, K.yld 0), (2, K.ptr (0 + 1) ah []), (3, K.ptr (0 + 1 + 1) tId []), (5, K.val ae (Prod.fst (Prod.fst (Prod.fst q8))))] [(0, Bx.lop LoopState.ready none [(7, K.ptr (0 + 1 + 1 + 1 + 1 + 1) ae []), (11, K.ptr (0 + 1 + 1 + 1 + 1 + 1 + 1 + 1 + 1 + 1) (Ty.slc ae) []), (8, K.ptr (0 + 1 + 1 + 1 + 1 + 1 + 1) (Ty.slc ae) []), (9, K.ptr (0 + 1 + 1 + 1 + 1 + 1 + 1 + 1) ab []), (10, K.ptr (0 + 1 + 1 + 1 + 1 + 1 + 1 + 1 + 1) ae [])] 73 (mm aR 7) (ef aR 7) (gH aR 7)), (0 + 1, Bx.cell ah b1), (0 + 1 + 1, Bx.cell tId b2), (0 + 1 + 1 + 1, Bx.cell ah b3), (0 + 1 + 1 + 1 + 1, Bx.cell tId b4), (0 + 1 + 1 + 1 + 1 + 1, Bx.cell ae b5), (0 + 1 + 1 + 1 + 1 + 1 + 1, Bx.obj (Ty.slc ae) K.nilsl), (0 + 1 + 1 + 1 + 1 + 1 + 1 + 1, Bx.cell ab b7), (0 + 1 + 1 + 1 + 1 + 1 + 1 + 1 + 1, Bx.cell ae b8), (0 + 1 + 1 + 1 + 1 + 1 + 1 + 1 + 1 + 1, Bx.obj (Ty.slc ae) (K.sl (0 + 1 + 1 + 1 + 1 + 1 + 1 + 1 + 1 + 1 + 1) ae)), (0 + 1 + 1 + 1 + 1 + 1 + 1 + 1 + 1 + 1 + 1, Bx.row ae (List.set (List.replicate 1 (zero ae)) 0 v5))]))))))))
theorem jY (v5 : den ae) (b1 : den ah) (b2 : den tId) (b3 : den ah) (b4 : den tId) (b5 : den ae) (b7 : den ab) (b8 : den ae) : ap fM nv 5000 (gd v5 b1 b2 b3 b4 b5 b7 b8) cG (lp cp 1) (ga v5 b1 b2 b3 b4 b5 b7 b8) = lj v5 b1 b2 b3 b4 b5 b7 b8 := by kernel_rfl
noncomputable def fv (v5 : den ae) (b1 : den ah) (b2 : den tId) (b3 : den ah) (b4 : den tId) (b5 : den ae) (b7 : den ab) (b8 : den ae) (b10 : List (den ae)) : List bL := [{ fx := d8, todo := cX aR 7, dst := none, s := ofS [(4, K.ptr (0 + 1 + 1 + 1) ah []), (6, K.ptr (0 + 1 + 1 + 1 + 1) tId []), (7, K.ptr (0 + 1 + 1 + 1 + 1 + 1) ae []), (8, K.ptr (0 + 1 + 1 + 1 + 1 + 1 + 1) (Ty.slc ae) []), (9, K.ptr (0 + 1 + 1 + 1 + 1 + 1 + 1 + 1) ab []), (10, K.ptr (0 + 1 + 1 + 1 + 1 + 1 + 1 + 1 + 1) ae []), (11, K.ptr (0 + 1 + 1 + 1 + 1 + 1 + 1 + 1 + 1 + 1) (Ty.slc ae) [])], rng := some 0 }]
noncomputable def fw (v5 : den ae) (b1 : den ah) (b2 : den tId) (b3 : den ah) (b4 : den tId) (b5 : den ae) (b7 : den ab) (b8 : den ae) (b10 : List (den ae)) : Env := Env.of [(0, K.yld 0), (2, K.ptr (0 + 1) ah []), (3, K.ptr (0 + 1 + 1) tId []), (5, K.val ae v5)] [(0, Bx.lop LoopState.ready none [(7, K.ptr (0 + 1 + 1 + 1 + 1 + 1) ae []), (11, K.ptr (0 + 1 + 1 + 1 + 1 + 1 + 1 + 1 + 1 + 1) (Ty.slc ae) []), (8, K.ptr (0 + 1 + 1 + 1 + 1 + 1 + 1) (Ty.slc ae) []), (9, K.ptr (0 + 1 + 1 + 1 + 1 + 1 + 1 + 1) ab []), (10, K.ptr (0 + 1 + 1 + 1 + 1 + 1 + 1 + 1 + 1) ae [])] 73 (mm aR 7) (ef aR 7) (gH aR 7)), (1, Bx.cell ah b1), (2, Bx.cell tId b2), (3, Bx.cell ah b3), (4, Bx.cell tId b4), (5, Bx.cell ae b5), (6, Bx.obj (Ty.slc ae) K.nilsl), (7, Bx.cell ab b7), (8, Bx.cell ae b8), (9, Bx.obj (Ty.slc ae) (K.sl (0 + 1 + 1 + 1 + 1 + 1 + 1 + 1 + 1 + 1 + 1) ae)), (10, Bx.row ae b10)]
noncomputable def kb (v5 : den ae) (b1 : den ah) (b2 : den tId) (b3 : den ah) (b4 : den tId) (b5 : den ae) (b7 : den ab) (b8 : den ae) (b10 : List (den ae)) : af := af.req (bA (Prod.fst b1) = true) (af.all (den (Ty.pair ao (Ty.pair Ty.bool Ty.unit))) (fun (q9 : den (Ty.pair ao (Ty.pair Ty.bool Ty.unit))) ↦ q9 = (Prod.fst (ar (Prod.fst b1) v5 b2), Prod.snd (ar (Prod.fst b1) v5 b2), PUnit.unit)) fun (q9 : den (Ty.pair ao (Ty.pair Ty.bool Ty.unit))) ↦ af.ite (!Prod.fst (Prod.snd q9)) (af.ret (K.val (Ty.pair (Ty.slc ae) (Ty.pair ab (Ty.pair ae Ty.unit))) ([], zero (Ty.pair ae (Ty.pair tId Ty.unit)), 10, PUnit.unit))) (af.ite (decide (b5 < lnx ae b10)) (af.ret (K.val (Ty.pair (Ty.slc ae) (Ty.pair ab (Ty.pair ae Ty.unit))) ([], zero (Ty.pair ae (Ty.pair tId Ty.unit)), 9, PUnit.unit))) (af.req (List.length (b10 ++ List.set (List.replicate 1 (zero ae)) 0 v5) ≤ bM) (af.ite (bif Prod.fst (Prod.snd (Prod.fst q9)) then decide (Prod.fst (Prod.fst (Prod.fst q9)) = v5) else false) (af.ret (K.val (Ty.pair (Ty.slc ae) (Ty.pair ab (Ty.pair ae Ty.unit))) (b10 ++ List.set (List.replicate 1 (zero ae)) 0 v5, Prod.fst (Prod.fst q9), 0, PUnit.unit))) (af.ite (Prod.fst (Prod.snd (Prod.fst q9))) (af.req (List.length (b10 ++ List.set (List.replicate 1 (zero ae)) 0 v5 ++ List.set (List.replicate 1 (zero ae)) 0 (Prod.fst (Prod.fst (Prod.fst q9)))) ≤ bM) (af.ret (K.val (Ty.pair (Ty.slc ae) (Ty.pair ab (Ty.pair ae Ty.unit))) (b10 ++ List.set (List.replicate 1 (zero ae)) 0 v5 ++ List.set (List.replicate 1 (zero ae)) 0 (Prod.fst (Prod.fst (Prod.fst q9))), Prod.fst (Prod.fst q9), 0, PUnit.unit)))) (af.ite (decide (Prod.fst (Prod.fst (Prod.fst q9)) = v5)) (af.ret (K.val (Ty.pair (Ty.slc ae) (Ty.pair ab (Ty.pair ae Ty.unit))) ([], zero (Ty.pair ae (Ty.pair tId Ty.unit)), 13, PUnit.unit))) (af.ite (bif Prod.fst (Prod.snd (Prod.fst q9)) then true else eqb ao (Prod.fst q9) ((v5, Prod.fst (Prod.snd (Prod.fst (Prod.fst q9))), zero Ty.unit), zero (Ty.pair Ty.bool Ty.unit))) (af.ret (K.val (Ty.pair (Ty.slc ae) (Ty.pair ab (Ty.pair ae Ty.unit))) ([], zero (Ty.pair ae (Ty.pair tId Ty.unit)), 10, PUnit.unit))) (af.loop [{ fx := d8, todo := cX aR 7, dst := none, s := ofS [(4, K.ptr (0 + 1 + 1 + 1) ah []), (6, K.ptr (0 + 1 + 1 + 1 + 1) tId []), (7, K.ptr (0 + 1 + 1 + 1 + 1 + 1) ae []), (8, K.ptr (0 + 1 + 1 + 1 + 1 + 1 + 1) (Ty.slc ae) []), (9, K.ptr (0 + 1 + 1 + 1 + 1 + 1 + 1 + 1) ab []), (10, K.ptr (0 + 1 + 1 + 1 + 1 + 1 + 1 + 1 + 1) ae []), (11, K.ptr (0 + 1 + 1 + 1 + 1 + 1 + 1 + 1 + 1 + 1) (Ty.slc ae) [])], rng := some 0 }] cG (lp cp 1) [(0, K.yld 0), (2, K.ptr (0 + 1) ah []), (3, K.ptr (0 + 1 + 1) tId []), (5, K.val ae (Prod.fst (Prod.fst (Prod.fst q9))))] [(0, Bx.lop LoopState.ready none [(7, K.ptr (0 + 1 + 1 + 1 + 1 + 1) ae []), (11, K.ptr (0 + 1 + 1 + 1 + 1 + 1 + 1 + 1 + 1 + 1) (Ty.slc ae) []), (8, K.ptr (0 + 1 + 1 + 1 + 1 + 1 + 1) (Ty.slc ae) []), (9, K.ptr (0 + 1 + 1 + 1 + 1 + 1 + 1 + 1) ab []), (10, K.ptr (0 + 1 + 1 + 1 + 1 + 1 + 1 + 1 + 1) ae [])] 73 (mm aR 7) (ef aR 7) (gH aR 7)), (0 + 1, Bx.cell ah b1), (0 + 1 + 1, Bx.cell tId b2), (0 + 1 + 1 + 1, Bx.cell ah b3), (0 + 1 + 1 + 1 + 1, Bx.cell tId b4), (0 + 1 + 1 + 1 + 1 + 1, Bx.cell ae b5), (0 + 1 + 1 + 1 + 1 + 1 + 1, Bx.obj (Ty.slc ae) K.nilsl), (0 + 1 + 1 + 1 + 1 + 1 + 1 + 1, Bx.cell ab b7), (0 + 1 + 1 + 1 + 1 + 1 + 1 + 1 + 1, Bx.cell ae b8), (0 + 1 + 1 + 1 + 1 + 1 + 1 + 1 + 1 + 1, Bx.obj (Ty.slc ae) (K.sl (0 + 1 + 1 + 1 + 1 + 1 + 1 + 1 + 1 + 1 + 1) ae)), (0 + 1 + 1 + 1 + 1 + 1 + 1 + 1 + 1 + 1 + 1, Bx.row ae (b10 ++ List.set (List.replicate 1 (zero ae)) 0 v5))]))))))))
theorem jz (v5 : den ae) (b1 : den ah) (b2 : den tId) (b3 : den ah) (b4 : den tId) (b5 : den ae) (b7 : den ab) (b8 : den ae) (b10 : List (den ae)) : ap fM nv 5000 (fv v5 b1 b2 b3 b4 b5 b7 b8 b10) cG (lp cp 1) (fw v5 b1 b2 b3 b4 b5 b7 b8 b10) = kb v5 b1 b2 b3 b4 b5 b7 b8 b10 := by kernel_rfl
end Go.Proofs.Ytimdnodkabnbfaa
namespace Go.Proofs.Ytimdnodkabnbfaa
open Go Go.RowKit
theorem zD {n : Nd} (h : a9 n = true) : (bU n).length ≤ 21 := by
 obtain ⟨l1, _, l3⟩ := A5 h
 have e : (bU n).length = 1 + n.2.2.1.length + n.2.2.2.1.length := by unfold bU; rw [List.length_append, List.length_append]; rfl
 omega
theorem oP {l : List Nd} {i : Nat} (hi : i < l.length) (h : iC l (i : Nat) = false) : bA l = false := by
 unfold bA
 rw [show (List.range l.length).all (fun i => iC l (i : Nat)) = false from List.all_eq_false.2 ⟨i, List.mem_range.2 hi, by rw [h]; decide⟩]
 rfl
theorem Ca {l : List Nd} (h : bA l = true) {i : Nat} (hi : i < l.length) : iC l (i : Nat) = true := by
 cases hn : iC l (i : Nat) with
 | true => rfl
 | false => rw [oP hi hn] at h; cases h
theorem AQ {l : List Nd} {i : Nat} (hi : i < l.length) (h : iC l (i : Nat) = true) : a9 l[i] = true := by
 unfold iC DR at h
 rw [cL (e := ag) hi] at h
 cases hn : a9 l[i] with
 | true => rfl
 | false => rw [hn] at h; cases h
theorem xP {l : List Nd} (h : bA l = true) {n : Nd} (hn : n ∈ l) : a9 n = true := by
 obtain ⟨i, hi, rfl⟩ := List.getElem_of_mem hn
 exact AQ hi (Ca h hi)
abbrev GCr (O : Nat → Prop) (w0 : World) (y : Bool) := bv prog fN (Cx.base O w0) (cu prog O w0 mg fun z => z = (y, ()))
theorem gF : XOk prog fN := z0 xt lH zW Bv AG
def B1 (O : Nat → Prop) (w0 : World) (o : Ov) (i : Nat) (z : Bool) (K : List Mem) (y : Bool) (hm : K.length ≤ maxLen) (hbad : (K.all fun m => !ql o.1 m) = false → y = false)
    (hnext : (K.all fun m => !ql o.1 m) = true → GCr O w0 y [] cE (lp a5 3) (lw (f5 o.1) o.1 (lnx ag o.1) (IntKind.wrap .i64 (((i : Nat) : Int) + 1)) o z)) :=
  PLift.up <| bK (σ := Unit) K.length (fun j _ => ((K.take j).all fun m => !ql o.1 m) = true)
    (fun j _ => GCr O w0 y (dY (f5 o.1) o.1 (lnx ag o.1) (i : Nat) K (lnx ab K) (j : Nat) o z) ce (lp cg 1) (d5 (f5 o.1) o.1 (lnx ag o.1) (i : Nat) K (lnx ab K) (j : Nat) o z))
    (fun j _ hj hs ih => aP gF (du _ _ _ _ K _ _ o z) (by
      refine ⟨fun _ => ⟨be hj, trivial, bC ?_⟩, fun hc => absurd hj (by rw [cD] at hc; exact of_decide_eq_false hc)⟩
      rw [cL hj, cI hj hm]
      have key : ∀ c : Bool, (bif (fE o.1 K[j].1).2 then !eqb ab (fE o.1 K[j].1).1 K[j] else false) = c → ql o.1 K[j] = c := fun c h => by
        unfold ql; rw [kW] at h; exact h
      refine ⟨fun hc => ⟨_, rfl, ?_⟩, fun hc => ih () ?_⟩
      · have hk := key true hc
        have : (K.all fun m => !ql o.1 m) = false := List.all_eq_false.2 ⟨K[j], List.getElem_mem hj, by rw [hk]; decide⟩
        rw [hbad this]
      · have hk := key false hc
        rw [List.take_succ_eq_append_getElem hj, List.all_append, hs]
        simp [hk]))
    (fun _ hs => aP gF (du _ _ _ _ K _ _ o z) ⟨fun hc => absurd (of_decide_eq_true hc) (Int.lt_irrefl _), fun _ => hnext (by rw [List.take_length] at hs; exact hs)⟩)
def FT (O : Nat → Prop) (w0 : World) (o : Ov) (z : Bool) (hm : o.1.length ≤ 1000000) :=
 PLift.up <| bK (σ := Unit) o.1.length (fun i _ => ∀ j, j < i → iC o.1 (j : Nat) = true)
  (fun i _ => GCr O w0 (bA o.1) [] cE (lp a5 3) (lw (f5 o.1) o.1 (lnx ag o.1) (i : Nat) o z))
  (fun i _ hi hs ih => aP gF (l6 _ o.1 _ _ o z) (by
   have hw : i < 1000000 := Nat.lt_of_lt_of_le hi hm
   have hsm : IntKind.wrap .i64 (((i : Nat) : Int) - 1) = (i : Int) - 1 := dx (n := (i : Int) - 1) (by omega)
   refine ⟨fun _ => ⟨be hi, trivial, fun _ h0 => ?_, bC ?_⟩, fun hc => absurd hi (by rw [cD (e := ag)] at hc; exact of_decide_eq_false hc)⟩
   ·have h0 : (0 : Int) < (i : Nat) := of_decide_eq_true h0
    rw [hsm]
    exact ⟨by omega, show (i : Int) - 1 < ((o.1.length : Nat) : Int) by omega⟩
   ·rw [hsm]
    have hb : ∀ c : Bool, (bif !a9 (el ag o.1 (i : Nat)) then true else bif decide ((0 : Int) < (i : Nat)) then decide ((el ag o.1 (i : Nat)).1.1 ≤ (el ag o.1 ((i : Nat) - 1)).1.1) else false) = c → DR o.1 (i : Nat) = c := fun c h => h
    refine ⟨fun hc => ⟨_, rfl, ?_⟩, fun hc => ?_⟩
    ·have := hb true hc
     rw [oP hi (by unfold iC; rw [this]; rfl)]
    ·have hbn := hb false hc
     have hr : a9 (el ag o.1 (i : Nat)) = true := by
      cases hn : a9 (el ag o.1 (i : Nat)) with
      | true => rfl
      | false => unfold DR at hbn; rw [hn] at hbn; cases hbn
     have hkl := zD hr
     have hok : iC o.1 (i : Nat) = (bU (el ag o.1 (i : Nat))).all fun m => !ql o.1 m := by
      unfold iC; rw [hbn]; rfl
     refine ⟨Nat.le_trans hkl (by decide), (B1 O w0 o i z (bU (el ag o.1 (i : Nat))) (bA o.1) (Nat.le_trans hkl (by decide)) (fun h => oP hi (by rw [hok]; exact h)) (fun h => ?_)).down 0 () (Nat.zero_le _) rfl⟩
     rw [cI hi (Nat.le_trans hm (by decide))]
     refine ih () fun j hj => ?_
     rcases Nat.lt_succ_iff_lt_or_eq.1 hj with h1 | h1
     ·exact hs j h1
     ·subst h1; rw [hok]; exact h))
  (fun _ hs => aP gF (l6 _ o.1 _ _ o z) ⟨fun hc => absurd (of_decide_eq_true hc) (Int.lt_irrefl _), fun _ => ⟨trivial, bC ⟨_, rfl, by
   show (ia (f5 o.1), ()) = (bA o.1, ())
   unfold bA
   rw [show (List.range o.1.length).all (fun i => iC o.1 (i : Nat)) = true from List.all_eq_true.2 fun i hi => hs i (List.mem_range.1 hi)]
   rfl⟩⟩⟩)
theorem zT : aE prog [] kD kC :=
 bW (S := kC) gF (fx := cE) yz (by kernel_rfl) (fun h => by cases h) (T := fun x => sU x.1) (fun x => wF x.1) fun O w0 x _ hp =>
  ⟨hp, bC ((FT O w0 x.1 (zero Ty.bool) hp).down 0 () (Nat.zero_le _) (fun j hj => absurd hj (Nat.not_lt_zero _)))⟩
theorem Av (p : Nd → Bool) : ∀ (l : List Nd) (i : Int), (l.find? p = none ∧ ixQ p l i = -1) ∨ ∃ k : Nat, ∃ h : k < l.length, ixQ p l i = i + (k : Int) ∧ l.find? p = some l[k]
 | [], _ => .inl ⟨rfl, rfl⟩
 | x :: l, i => by
  have e : ixQ p (x :: l) i = bif p x then i else ixQ p l (i + 1) := rfl
  cases hx : p x with
  | true => exact .inr ⟨0, by simp, by rw [e, hx]; simp, by rw [List.find?_cons, hx]; rfl⟩
  | false =>
   rw [e, hx, List.find?_cons, hx]
   rcases Av p l (i + 1) with ⟨h1, h2⟩ | ⟨k, hk, h1, h2⟩
   ·exact .inl ⟨h1, h2⟩
   ·exact .inr ⟨k + 1, by simp; omega, by show ixQ p l (i + 1) = _; rw [h1]; push_cast; omega, h2⟩
abbrev GAk (O : Nat → Prop) (w0 : World) (y : Ans) := bv prog iu (Cx.base O w0) (cu prog O w0 jI fun z => z = (y, true, ()))
theorem mD : XOk prog iu := zV jX xq yc nm fI Cd B5 Cq
def Hp (O : Nat → Prop) (w0 : World) (o : Ov) (n : Nd) (id : List Int) (z : Ans) (hm : (bU n).length ≤ 1000) :=
 PLift.up <| bK (σ := List Int) (bU n).length (fun i b => b = (((bU n).take i).filter fun m => !fD o.1 m.1).map fun m => m.1)
  (fun i b => GAk O w0 (vW o.1 n id) [] d7 (lp dP 7) (p5 (bU n) (lnx ab (bU n)) (i : Nat) o id z n b))
  (fun i b hi hs ih => aP mD (lX _ _ _ o id z n b) (by
   refine ⟨fun _ => ⟨be hi, fun _ => trivial, ⟨_, rfl⟩, bC ?_⟩, fun hc => absurd hi (by rw [cD] at hc; exact of_decide_eq_false hc)⟩
   rw [cL hi, cI hi (Nat.le_trans hm (by decide))]
   refine ⟨fun hc => ⟨?_, ih _ ?_⟩, fun hc => ih _ ?_⟩
   ·have h1 := List.length_filter_le (fun m : Mem => !fD o.1 m.1) ((bU n).take i)
    rw [List.length_append, hs, List.length_map]
    rw [List.length_take] at h1
    exact Nat.le_trans (show _ + 1 ≤ 1001 by omega) (by decide)
   ·have hc : (!fD o.1 (bU n)[i].1) = true := hc
    rw [List.take_succ_eq_append_getElem hi, List.filter_append, List.map_append, ← hs, List.filter_cons_of_pos (p := fun m : Mem => !fD o.1 m.1) hc]
    rfl
   ·have hc : (!fD o.1 (bU n)[i].1) = false := hc
    rw [List.take_succ_eq_append_getElem hi, List.filter_append, List.map_append, ← hs, List.filter_cons_of_neg (p := fun m : Mem => !fD o.1 m.1) (by rw [hc]; decide)]
    simp))
  (fun b hs => aP mD (lX _ _ _ o id z n b) (by
   refine ⟨fun hc => absurd (of_decide_eq_true hc) (Int.lt_irrefl _), fun _ => ⟨trivial, bC ⟨trivial, bC ?_⟩⟩⟩
   rw [List.take_length] at hs
   have hb : b = jb o.1 n := hs
   rw [hb]
   refine ⟨fun h => ⟨_, rfl, ?_⟩, fun h => ⟨trivial, bC ⟨_, rfl, ?_⟩⟩⟩
   all_goals
    show (_, _, _) = (vW o.1 n id, true, ())
    unfold vW vZ
    rw [h]
    rfl))
theorem zk {l : List Nd} {no : Int} {n : Nd} (id : List Int) (h : l.find? (fun n => decide (n.1.1 = no)) = some n) : ar l no id = (vW l n id, true) := by
 unfold ar; rw [h]
theorem zo {l : List Nd} {no : Int} (id : List Int) (h : l.find? (fun n => decide (n.1.1 = no)) = none) : ar l no id = (zero ao, false) := by
 unfold ar; rw [h]
theorem zU : aE prog [] kB kG :=
 bW (S := kG) mD (fx := d7) yq (by kernel_rfl) (fun h => by cases h) (T := fun x => sR x.1 x.2.1 x.2.2.1) (fun x => v4 x.1 x.2.1 x.2.2.1) fun O w0 x _ hp => by
  obtain ⟨o, no, id, ⟨⟩⟩ := x
  have hp : bA o.1 = true := hp
  refine ⟨fun _ => trivial, ⟨_, rfl⟩, bC ?_⟩
  have e : prQ (some fun (y : den (Ty.pair ag Ty.unit)) => (decide (y.1.1.1 = no), PUnit.unit)) = fun n => decide (n.1.1 = no) := rfl
  rw [e]
  rcases Av (fun n => decide (n.1.1 = no)) o.1 0 with ⟨h1, h2⟩ | ⟨k, hk, h1, h2⟩
  ·rw [h2]
   refine ⟨fun _ => ⟨_, rfl, ?_⟩, fun hc => (by cases hc)⟩
   show (_, _, _) = ((ar o.1 no id).1, (ar o.1 no id).2, ())
   rw [zo id h1]
   rfl
  ·rw [h1]
   have e0 : (0 : Int) + (k : Int) = (k : Nat) := by omega
   rw [e0]
   refine ⟨fun hc => ?_, fun _ => ⟨be hk, ?_⟩⟩
   ·have hc : ((k : Nat) : Int) < 0 := of_decide_eq_true hc
    omega
   ·rw [cL (e := ag) hk]
    have hkl := zD (xP hp (List.getElem_mem hk))
    have hf : List.flatten (List.set (List.set (List.set (List.replicate 3 (zero (Ty.slc ab))) 0 (List.set (List.replicate 1 (zero ab)) 0 o.1[k].2.1)) 1 o.1[k].2.2.1) 2 o.1[k].2.2.2.1) = bU o.1[k] := GI _ _ _ _
    rw [hf]
    refine ⟨Nat.le_trans hkl (by decide), bC ?_⟩
    show bv _ _ _ (cu prog O w0 jI fun z => z = ((ar o.1 no id).1, (ar o.1 no id).2, ())) _ _ _ _
    rw [zk id h2]
    exact (Hp O w0 o o.1[k] id (zero ao) (Nat.le_trans hkl (by decide))).down 0 [] (Nat.zero_le _) rfl
theorem mh (l : List Nd) (id : List Int) (n : Nat) (path : List Int) (no : Int) : bn l id n path no = bif !(ar l no id).2 then ([], zero ab, 10) else
    match n with
    | 0 => ([], zero ab, 9)
    | n + 1 => bif (ar l no id).1.2.1 then (bif decide ((ar l no id).1.1.1 = no) then (path ++ [no], (ar l no id).1.1, 0) else (path ++ [no] ++ [(ar l no id).1.1.1], (ar l no id).1.1, 0))
      else bif decide ((ar l no id).1.1.1 = no) then ([], zero ab, 13) else bn l id n (path ++ [no]) (ar l no id).1.1.1 := by
  cases n <;> rfl
abbrev GWa (O : Nat → Prop) (w0 : World) (y : WR) := bv prog fM (Cx.base O w0) (cu prog O w0 dt fun z => z = (y.1, y.2.1, y.2.2, ()))
theorem l9 : XOk prog fM := z9 zT zU
theorem C3 (O : Nat → Prop) (w0 : World) (o : Ov) (id : List Int) (hops : Int) (z : Mem) (z' : Int) (hr : bA o.1 = true) (hh : hops ≤ 16) : ∀ (n : Nat) (path : List Int) (no : Int), ((path.length : Nat) : Int) + n = hops + 1 →
    GWa O w0 (bn o.1 id n path no) (fv no o id o id hops z z' path) cG (lp cp 1) (fw no o id o id hops z z' path)
  | n, path, no, hn => aP l9 (jz no o id o id hops z z' path) (by
    have e := mh o.1 id n path no
    have leaf : ∀ {p : WR}, bn o.1 id n path no = p → ∃ q, a7 dt (K.val (Ty.pair (Ty.slc ae) (Ty.pair ab (Ty.pair ae Ty.unit))) (p.1, p.2.1, p.2.2, PUnit.unit)) = some q ∧ q = ((bn o.1 id n path no).1, (bn o.1 id n path no).2.1, (bn o.1 id n path no).2.2, ()) := fun {p} e =>
      ⟨_, rfl, by rw [e]⟩
    have hl : path.length ≤ 17 := by omega
    refine ⟨hr, bC ⟨fun h1 => leaf (p := (_, _, _)) ?_, fun h1 => ⟨fun h2 => leaf (p := (_, _, _)) ?_, fun h2 => ⟨?_, fun h3 => leaf (p := (_, _, _)) ?_, fun h3 => ⟨fun h4 => ⟨?_, leaf (p := (_, _, _)) ?_⟩, fun h4 => ⟨fun h5 => leaf (p := (_, _, _)) ?_, fun h5 => ⟨fun h6 => ?_, fun h6 => ?_⟩⟩⟩⟩⟩⟩⟩
    · rw [e, h1]; rfl
    · have h2 : hops < ((path.length : Nat) : Int) := of_decide_eq_true h2
      have : n = 0 := by omega
      subst this
      rw [e, h1]; rfl
    · rw [List.length_append]
      exact Nat.le_trans (show path.length + 1 ≤ 18 by omega) (by decide)
    all_goals
      have h2 : ¬ hops < ((path.length : Nat) : Int) := of_decide_eq_false h2
      obtain ⟨n, rfl⟩ : ∃ m, n = m + 1 := ⟨n - 1, by omega⟩
      rw [h1] at e
    · have h3' : (ar o.1 no id).1.2.1 = true ∧ decide ((ar o.1 no id).1.1.1 = no) = true := by
        have h3 : (bif (ar o.1 no id).1.2.1 then decide ((ar o.1 no id).1.1.1 = no) else false) = true := h3
        cases hq : (ar o.1 no id).1.2.1 <;> rw [hq] at h3
        · cases h3
        · exact ⟨rfl, h3⟩
      rw [e, h3'.1, h3'.2]; rfl
    · rw [List.length_append, List.length_append]
      exact Nat.le_trans (show path.length + 1 + 1 ≤ 19 by omega) (by decide)
    · have h4 : (ar o.1 no id).1.2.1 = true := h4
      have h3' : decide ((ar o.1 no id).1.1.1 = no) = false := by
        have h3 : (bif (ar o.1 no id).1.2.1 then decide ((ar o.1 no id).1.1.1 = no) else false) = false := h3
        rw [h4] at h3; exact h3
      rw [e, h4, h3']; rfl
    · have h4 : (ar o.1 no id).1.2.1 = false := h4
      have h5 : decide ((ar o.1 no id).1.1.1 = no) = true := h5
      rw [e, h4, h5]; rfl
    · have h4 : (ar o.1 no id).1.2.1 = false := h4
      have h5 : decide ((ar o.1 no id).1.1.1 = no) = false := h5
      have h6 : (bif (ar o.1 no id).1.2.1 then true else eqb ao (ar o.1 no id).1 ((no, (ar o.1 no id).1.1.2.1, ()), zero (Ty.pair Ty.bool Ty.unit))) = true := h6
      rw [h4] at h6
      have h6 := (lg (t := ao) (by decide) _ _).1 h6
      have h6 : (ar o.1 no id).1.1.1 = no := congrArg (fun a : Ans => a.1.1) h6
      exact absurd h6 (of_decide_eq_false h5)
    · have h4 : (ar o.1 no id).1.2.1 = false := h4
      have h5 : decide ((ar o.1 no id).1.1.1 = no) = false := h5
      have e' : bn o.1 id (n + 1) path no = bn o.1 id n (path ++ [no]) (ar o.1 no id).1.1.1 := by rw [e, h4, h5]; rfl
      show bv _ _ _ (cu prog O w0 dt fun z => z = ((bn o.1 id (n + 1) path no).1, (bn o.1 id (n + 1) path no).2.1, (bn o.1 id (n + 1) path no).2.2, ())) _ _ _ _
      rw [e']
      exact C3 O w0 o id hops z z' hr hh n (path ++ [no]) _ (by rw [List.length_append]; simp; omega))
theorem He (O : Nat → Prop) (w0 : World) (o : Ov) (id : List Int) (hops : Int) (z : Mem) (z' : Int) (hr : bA o.1 = true) (h0 : 0 ≤ hops) (hh : hops ≤ 16) (no : Int) :
    GWa O w0 (bn o.1 id (hops.toNat + 1) [] no) (gd no o id o id hops z z') cG (lp cp 1) (ga no o id o id hops z z') :=
  aP l9 (jY no o id o id hops z z') (by
    have e := mh o.1 id (hops.toNat + 1) [] no
    have leaf : ∀ {p : WR}, bn o.1 id (hops.toNat + 1) [] no = p → ∃ q, a7 dt (K.val (Ty.pair (Ty.slc ae) (Ty.pair ab (Ty.pair ae Ty.unit))) (p.1, p.2.1, p.2.2, PUnit.unit)) = some q ∧ q = ((bn o.1 id (hops.toNat + 1) [] no).1, (bn o.1 id (hops.toNat + 1) [] no).2.1, (bn o.1 id (hops.toNat + 1) [] no).2.2, ()) := fun {p} e =>
      ⟨_, rfl, by rw [e]⟩
    refine ⟨hr, bC ⟨fun h1 => leaf (p := (_, _, _)) ?_, fun h1 => ⟨fun h2 => ?_, fun h2 => ⟨(show 1 ≤ bM by decide), fun h3 => leaf (p := (_, _, _)) ?_, fun h3 => ⟨fun h4 => ⟨(show 2 ≤ bM by decide), leaf (p := (_, _, _)) ?_⟩, fun h4 => ⟨fun h5 => leaf (p := (_, _, _)) ?_, fun h5 => ⟨fun h6 => ?_, fun h6 => ?_⟩⟩⟩⟩⟩⟩⟩
    · rw [e, h1]; rfl
    · have h2 : hops < 0 := of_decide_eq_true h2
      omega
    all_goals rw [h1] at e
    · have h3' : (ar o.1 no id).1.2.1 = true ∧ decide ((ar o.1 no id).1.1.1 = no) = true := by
        have h3 : (bif (ar o.1 no id).1.2.1 then decide ((ar o.1 no id).1.1.1 = no) else false) = true := h3
        cases hq : (ar o.1 no id).1.2.1 <;> rw [hq] at h3
        · cases h3
        · exact ⟨rfl, h3⟩
      rw [e, h3'.1, h3'.2]; rfl
    · have h4 : (ar o.1 no id).1.2.1 = true := h4
      have h3' : decide ((ar o.1 no id).1.1.1 = no) = false := by
        have h3 : (bif (ar o.1 no id).1.2.1 then decide ((ar o.1 no id).1.1.1 = no) else false) = false := h3
        rw [h4] at h3; exact h3
      rw [e, h4, h3']; rfl
    · have h4 : (ar o.1 no id).1.2.1 = false := h4
      have h5 : decide ((ar o.1 no id).1.1.1 = no) = true := h5
      rw [e, h4, h5]; rfl
    · have h4 : (ar o.1 no id).1.2.1 = false := h4
      have h5 : decide ((ar o.1 no id).1.1.1 = no) = false := h5
      have h6 : (bif (ar o.1 no id).1.2.1 then true else eqb ao (ar o.1 no id).1 ((no, (ar o.1 no id).1.1.2.1, ()), zero (Ty.pair Ty.bool Ty.unit))) = true := h6
      rw [h4] at h6
      have h6 := (lg (t := ao) (by decide) _ _).1 h6
      have h6 : (ar o.1 no id).1.1.1 = no := congrArg (fun a : Ans => a.1.1) h6
      exact absurd h6 (of_decide_eq_false h5)
    · have h4 : (ar o.1 no id).1.2.1 = false := h4
      have h5 : decide ((ar o.1 no id).1.1.1 = no) = false := h5
      have e' : bn o.1 id (hops.toNat + 1) [] no = bn o.1 id hops.toNat ([] ++ [no]) (ar o.1 no id).1.1.1 := by rw [e, h4, h5]; rfl
      show bv _ _ _ (cu prog O w0 dt fun z => z = ((bn o.1 id (hops.toNat + 1) [] no).1, (bn o.1 id (hops.toNat + 1) [] no).2.1, (bn o.1 id (hops.toNat + 1) [] no).2.2, ())) _ _ _ _
      rw [e']
      exact C3 O w0 o id hops z z' hr hh hops.toNat ([] ++ [no]) _ (by show ((1 : Nat) : Int) + _ = _; omega))
theorem sQ : aE prog [] fL fO :=
 bW (S := fO) l9 (fx := d8) zg (by kernel_rfl) (fun h => by cases h) (T := fun x => sF x.1 x.2.1 x.2.2.1 x.2.2.2.1) (fun x => wA x.1 x.2.1 x.2.2.1 x.2.2.2.1) fun O w0 x _ hp => by
  obtain ⟨o, no, id, hops, ⟨⟩⟩ := x
  have e : ∀ c : Bool, (bif (bif !bA o.1 then true else decide ((hops : Int) < 0)) then true else decide ((16 : Int) < hops)) = c → bF o.1 no id hops = bif c then ([], zero ab, 1) else bn o.1 id ((hops : Int).toNat + 1) [] no := fun c h => by
   unfold bF; rw [h]
  refine ⟨hp, bC ⟨fun h => ⟨_, rfl, ?_⟩, fun h => ?_⟩⟩
  ·show _ = ((bF o.1 no id hops).1, (bF o.1 no id hops).2.1, (bF o.1 no id hops).2.2, ())
   rw [e true h]; rfl
  ·show bv _ _ _ (cu prog O w0 dt fun z => z = ((bF o.1 no id hops).1, (bF o.1 no id hops).2.1, (bF o.1 no id hops).2.2, ())) _ _ _ _
   rw [e false h]
   have h : (bif (bif !bA o.1 then true else decide ((hops : Int) < 0)) then true else decide ((16 : Int) < hops)) = false := h
   have h1 : bA o.1 = true := by
    cases hq : bA o.1 <;> rw [hq] at h
    cases h
   rw [h1] at h
   have h2 : decide ((hops : Int) < 0) = false := by
    cases hq : decide ((hops : Int) < 0) <;> rw [hq] at h
    cases h
   rw [h2] at h
   exact He O w0 o id hops (zero ab) (zero ae) h1 (Int.not_lt.1 (of_decide_eq_false h2)) (Int.not_lt.1 (of_decide_eq_false h)) no
end Go.Proofs.Ytimdnodkabnbfaa
namespace Go.Proofs.Ytimdnodkabnbfaa
open Go Go.RowKit
def Gh (n : Nd) : Nd := (n.1, n.2.1, n.2.2.1.take 6, n.2.2.2.1.take 18, ())
def tU (l : List Nd) : List Nd := (l.take 18).map Gh
noncomputable abbrev pU : bu := ⟨xO, sm, fun x => ((tU x.1.1, ()), ()), fun _ => True, true⟩
noncomputable abbrev mI : bu := ⟨ub, tH, fun _ => (true, ()), fun _ => True, true⟩
end Go.Proofs.Ytimdnodkabnbfaa
namespace Go.Proofs.Ytimdnodkabnbfaa
open Go Go.RowKit
noncomputable abbrev jK : Fx := { fn := jk, ann := { loops := [(3, { keep := [2, 3, 12, 13, 14], own := [(3, (.mp (.arr 0 .bool) ag))] })], frz := [(8, [1003, 100003])] }, own := [3] }
noncomputable abbrev qp : a8 := { D := { T := bt, F := [], R := [], ovl := [] }, inl := [] }
noncomputable abbrev zQ : bE := .data sm
theorem tO : XOk prog qp := xok ((aV bf aO)) (by kernel_rfl) aW bg bh
noncomputable def zM (o : den ah) : af := af.req (br 0 (dS (lnx ag (Prod.fst o)) 18) (lnx ag (Prod.fst o))) (af.loop [] jK (lp jk 3) [(2, K.ptr 0 ah []), (3, K.ptr (0 + 1) ah []), (12, K.val (Ty.slc ag) (eP ag (Prod.fst o) 0 (dS (lnx ag (Prod.fst o)) 18))), (13, K.val ae (lnx ag (eP ag (Prod.fst o) 0 (dS (lnx ag (Prod.fst o)) 18)))), (14, K.val ae 0)] [(0, Bx.cell ah (zero ah)), (0 + 1, Bx.obj ah (K.agg (Ty.pair (Ty.slc ag) Ty.unit) (K.kcons (K.sl (0 + 1 + 1) ag) K.knil))), (0 + 1 + 1, Bx.row ag [])])
theorem BO (o : den ah) : ap qp zQ 5000 [] jK (aH jk) (Env.of (aM xO (o, ()) 0) []) = zM o := by kernel_rfl
noncomputable def vH (v12 : den (Ty.slc ag)) (v13 : den ae) (v14 : den ae) (b0 : den ah) (b2 : List (den ag)) : Env := Env.of [(2, K.ptr 0 ah []), (3, K.ptr (0 + 1) ah []), (12, K.val (Ty.slc ag) v12), (13, K.val ae v13), (14, K.val ae v14)] [(0, Bx.cell ah b0), (1, Bx.obj ah (K.agg (Ty.pair (Ty.slc ag) Ty.unit) (K.kcons (K.sl (0 + 1 + 1) ag) K.knil))), (2, Bx.row ag b2)]
noncomputable def AB (v12 : den (Ty.slc ag)) (v13 : den ae) (v14 : den ae) (b0 : den ah) (b2 : List (den ag)) : af := af.ite (decide (v14 < v13)) (af.req (inB v14 (lnx ag v12)) (af.req (br 0 (dS (lnx ab (Prod.fst (Prod.snd (Prod.snd (el ag v12 v14))))) 6) (lnx ab (Prod.fst (Prod.snd (Prod.snd (el ag v12 v14)))))) (af.req (br 0 (dS (lnx ab (Prod.fst (Prod.snd (Prod.snd (Prod.snd (el ag v12 v14)))))) 18) (lnx ab (Prod.fst (Prod.snd (Prod.snd (Prod.snd (el ag v12 v14))))))) (af.req (List.length (b2 ++ List.set (List.replicate 1 (zero ag)) 0 (Prod.fst (el ag v12 v14), Prod.fst (Prod.snd (el ag v12 v14)), eP ab (Prod.fst (Prod.snd (Prod.snd (el ag v12 v14)))) 0 (dS (lnx ab (Prod.fst (Prod.snd (Prod.snd (el ag v12 v14))))) 6), eP ab (Prod.fst (Prod.snd (Prod.snd (Prod.snd (el ag v12 v14))))) 0 (dS (lnx ab (Prod.fst (Prod.snd (Prod.snd (Prod.snd (el ag v12 v14)))))) 18), Prod.snd (Prod.snd (Prod.snd (Prod.snd (el ag v12 v14)))))) ≤ bM) (af.loop [] jK (lp jk 3) [(2, K.ptr 0 ah []), (3, K.ptr (0 + 1) ah []), (12, K.val (Ty.slc ag) v12), (13, K.val ae v13), (14, K.val ae (IntKind.wrap IntKind.i64 (v14 + 1)))] [(0, Bx.cell ah b0), (0 + 1, Bx.obj ah (K.agg (Ty.pair (Ty.slc ag) Ty.unit) (K.kcons (K.sl (0 + 1 + 1) ag) K.knil))), (0 + 1 + 1, Bx.row ag (b2 ++ List.set (List.replicate 1 (zero ag)) 0 (Prod.fst (el ag v12 v14), Prod.fst (Prod.snd (el ag v12 v14)), eP ab (Prod.fst (Prod.snd (Prod.snd (el ag v12 v14)))) 0 (dS (lnx ab (Prod.fst (Prod.snd (Prod.snd (el ag v12 v14))))) 6), eP ab (Prod.fst (Prod.snd (Prod.snd (Prod.snd (el ag v12 v14))))) 0 (dS (lnx ab (Prod.fst (Prod.snd (Prod.snd (Prod.snd (el ag v12 v14)))))) 18), Prod.snd (Prod.snd (Prod.snd (Prod.snd (el ag v12 v14)))))))]))))) (af.ret (K.val (Ty.pair ah Ty.unit) ((b2, PUnit.unit), PUnit.unit)))
theorem pX (v12 : den (Ty.slc ag)) (v13 : den ae) (v14 : den ae) (b0 : den ah) (b2 : List (den ag)) : ap qp zQ 5000 [] jK (lp jk 3) (vH v12 v13 v14 b0 b2) = AB v12 v13 v14 b0 b2 := by kernel_rfl
noncomputable abbrev ut : Fx := { fn := qN, ann := { }, share := true }
noncomputable abbrev vK : a8 := { D := { T := bt, F := [(fL, fO)], R := [], ovl := [] }, inl := [] }
noncomputable abbrev B6 : bE := .data tH
theorem Cj (h_lookup_Walk : aE prog [] fL fO) : XOk prog vK := xok (aI (aV bf aO) h_lookup_Walk) (by kernel_rfl) aW bg bh
noncomputable def vr : af := af.req (List.length (List.set (List.replicate 1 (zero ag)) 0 ((3, zero (Ty.pair tId Ty.unit)), (-1, zero (Ty.pair tId Ty.unit)), List.set (List.replicate 1 (zero ab)) 0 (3, zero (Ty.pair tId Ty.unit)), zero (Ty.pair (Ty.slc ab) Ty.unit))) ≤ 1000000) (af.all (den (Ty.pair (Ty.slc ae) (Ty.pair ab (Ty.pair ae Ty.unit)))) (fun (q0 : den (Ty.pair (Ty.slc ae) (Ty.pair ab (Ty.pair ae Ty.unit)))) ↦ q0 = (Prod.fst (bF (List.set (List.replicate 1 (zero ag)) 0 ((3, zero (Ty.pair tId Ty.unit)), (-1, zero (Ty.pair tId Ty.unit)), List.set (List.replicate 1 (zero ab)) 0 (3, zero (Ty.pair tId Ty.unit)), zero (Ty.pair (Ty.slc ab) Ty.unit))) 3 (List.set (List.replicate 32 (zero (Ty.int IntKind.u8))) 31 7) 0), Prod.fst (Prod.snd (bF (List.set (List.replicate 1 (zero ag)) 0 ((3, zero (Ty.pair tId Ty.unit)), (-1, zero (Ty.pair tId Ty.unit)), List.set (List.replicate 1 (zero ab)) 0 (3, zero (Ty.pair tId Ty.unit)), zero (Ty.pair (Ty.slc ab) Ty.unit))) 3 (List.set (List.replicate 32 (zero (Ty.int IntKind.u8))) 31 7) 0)), Prod.snd (Prod.snd (bF (List.set (List.replicate 1 (zero ag)) 0 ((3, zero (Ty.pair tId Ty.unit)), (-1, zero (Ty.pair tId Ty.unit)), List.set (List.replicate 1 (zero ab)) 0 (3, zero (Ty.pair tId Ty.unit)), zero (Ty.pair (Ty.slc ab) Ty.unit))) 3 (List.set (List.replicate 32 (zero (Ty.int IntKind.u8))) 31 7) 0)), PUnit.unit)) fun (q0 : den (Ty.pair (Ty.slc ae) (Ty.pair ab (Ty.pair ae Ty.unit)))) ↦ af.req (dT [(bif bif decide (Prod.fst (Prod.snd (Prod.snd q0)) = 0) then eqb ab (Prod.fst (Prod.snd q0)) (3, zero (Ty.pair tId Ty.unit)) else false then decide (lnx ae (Prod.fst q0) = 1) else false, true)] (inB 0 (lnx ae (Prod.fst q0)))) (af.ret (K.val (Ty.pair Ty.bool Ty.unit) (bif bif bif decide (Prod.fst (Prod.snd (Prod.snd q0)) = 0) then eqb ab (Prod.fst (Prod.snd q0)) (3, zero (Ty.pair tId Ty.unit)) else false then decide (lnx ae (Prod.fst q0) = 1) else false then decide (el ae (Prod.fst q0) 0 = 3) else false, PUnit.unit))))
theorem yH : ap vK B6 5000 [] ut (aH qN) (Env.of (aM ub () 0) []) = vr := by kernel_rfl
noncomputable abbrev dO : Fx := { fn := dm, ann := { loops := [(9, { keep := [9, 12, 77, 78] })] }, share := true }
noncomputable abbrev fm : a8 := { D := { T := bt, F := [(pZ, pU), (fL, fO), (mK, mI)], R := [], ovl := [] }, inl := [] }
noncomputable abbrev oE : bE := .data nK
theorem wo (h_l11_few : aE prog [] pZ pU) (h_lookup_Walk : aE prog [] fL fO) (h_l11_alive : aE prog [] mK mI) : XOk prog fm := xok (aI (aI (aI (aV bf aO) h_l11_alive) h_lookup_Walk) h_l11_few) (by kernel_rfl) aW bg bh
noncomputable def oC (o : den ah) (no : den ae) (id : den tId) (hops : den ae) : af := af.req True (af.all (den ah) (fun (q4 : den ah) ↦ q4 = (tU (Prod.fst o), PUnit.unit)) fun (q4 : den ah) ↦ af.req (nz 16) (af.req (nz 16) (af.req (List.length (Prod.fst q4) ≤ 1000000) (af.all (den (Ty.pair (Ty.slc ae) (Ty.pair ab (Ty.pair ae Ty.unit)))) (fun (q5 : den (Ty.pair (Ty.slc ae) (Ty.pair ab (Ty.pair ae Ty.unit)))) ↦ q5 = (Prod.fst (bF (Prod.fst q4) no id (Int.tmod (IntKind.wrap IntKind.i64 (Int.tmod hops 16 + 16)) 16)), Prod.fst (Prod.snd (bF (Prod.fst q4) no id (Int.tmod (IntKind.wrap IntKind.i64 (Int.tmod hops 16 + 16)) 16))), Prod.snd (Prod.snd (bF (Prod.fst q4) no id (Int.tmod (IntKind.wrap IntKind.i64 (Int.tmod hops 16 + 16)) 16))), PUnit.unit)) fun (q5 : den (Ty.pair (Ty.slc ae) (Ty.pair ab (Ty.pair ae Ty.unit)))) ↦ af.req (List.length (Prod.fst q4) ≤ 1000000) (af.all (den (Ty.pair (Ty.slc ae) (Ty.pair ab (Ty.pair ae Ty.unit)))) (fun (q6 : den (Ty.pair (Ty.slc ae) (Ty.pair ab (Ty.pair ae Ty.unit)))) ↦ q6 = (Prod.fst (bF (Prod.fst q4) no id (IntKind.wrap IntKind.i64 (Int.tmod (IntKind.wrap IntKind.i64 (Int.tmod hops 16 + 16)) 16 + 1))), Prod.fst (Prod.snd (bF (Prod.fst q4) no id (IntKind.wrap IntKind.i64 (Int.tmod (IntKind.wrap IntKind.i64 (Int.tmod hops 16 + 16)) 16 + 1)))), Prod.snd (Prod.snd (bF (Prod.fst q4) no id (IntKind.wrap IntKind.i64 (Int.tmod (IntKind.wrap IntKind.i64 (Int.tmod hops 16 + 16)) 16 + 1)))), PUnit.unit)) fun (q6 : den (Ty.pair (Ty.slc ae) (Ty.pair ab (Ty.pair ae Ty.unit)))) ↦ af.ite (decide (Prod.fst (Prod.snd (Prod.snd q5)) = 0)) (af.req (dT [(bif bif bif bif !decide (Prod.fst (Prod.snd (Prod.snd q6)) = 0) then true else !eqb ab (Prod.fst (Prod.snd q5)) (Prod.fst (Prod.snd q6)) then true else decide (lnx ae (Prod.fst q5) = 0) then true else !decide (lnx ae (Prod.fst q5) = lnx ae (Prod.fst q6)) then true else decide (IntKind.wrap IntKind.i64 (Int.tmod (IntKind.wrap IntKind.i64 (Int.tmod hops 16 + 16)) 16 + 2) < lnx ae (Prod.fst q5)), false)] (inB 0 (lnx ae (Prod.fst q5)))) (af.ite (bif bif bif bif bif !decide (Prod.fst (Prod.snd (Prod.snd q6)) = 0) then true else !eqb ab (Prod.fst (Prod.snd q5)) (Prod.fst (Prod.snd q6)) then true else decide (lnx ae (Prod.fst q5) = 0) then true else !decide (lnx ae (Prod.fst q5) = lnx ae (Prod.fst q6)) then true else decide (IntKind.wrap IntKind.i64 (Int.tmod (IntKind.wrap IntKind.i64 (Int.tmod hops 16 + 16)) 16 + 2) < lnx ae (Prod.fst q5)) then true else !decide (el ae (Prod.fst q5) 0 = no)) (af.ret (K.val (Ty.pair Ty.bool Ty.unit) (false, PUnit.unit))) (af.loop [] dO (lp dm 9) [(9, K.val (Ty.slc ae) (Prod.fst q5)), (12, K.val (Ty.slc ae) (Prod.fst q6)), (77, K.val ae (lnx ae (Prod.fst q5))), (78, K.val ae 0)] []))) (af.req True (af.all (den Ty.bool) (fun (q7 : den Ty.bool) ↦ q7 = true) fun (q7 : den Ty.bool) ↦ af.ret (K.val (Ty.pair Ty.bool Ty.unit) (bif bif q7 then decide (lnx ae (Prod.fst q5) = 0) else false then bif decide (Prod.fst (Prod.snd (Prod.snd q5)) = Prod.fst (Prod.snd (Prod.snd q6))) then true else decide (Prod.fst (Prod.snd (Prod.snd q5)) = 9) else false, PUnit.unit)))))))))
theorem s5 (o : den ah) (no : den ae) (id : den tId) (hops : den ae) : ap fm oE 5000 [] dO (aH dm) (Env.of (aM dM (o, no, id, hops, ()) 0) []) = oC o no id hops := by kernel_rfl
noncomputable def m0 (v9 : den (Ty.slc ae)) (v12 : den (Ty.slc ae)) (v77 : den ae) (v78 : den ae) : Env := Env.of [(9, K.val (Ty.slc ae) v9), (12, K.val (Ty.slc ae) v12), (77, K.val ae v77), (78, K.val ae v78)] []
noncomputable def tc (v9 : den (Ty.slc ae)) (v12 : den (Ty.slc ae)) (v77 : den ae) (v78 : den ae) : af := af.ite (decide (v78 < v77)) (af.req (inB v78 (lnx ae v9)) (af.req (inB v78 (lnx ae v12)) (af.ite (!decide (el ae v9 v78 = el ae v12 v78)) (af.ret (K.val (Ty.pair Ty.bool Ty.unit) (false, PUnit.unit))) (af.loop [] dO (lp dm 9) [(9, K.val (Ty.slc ae) v9), (12, K.val (Ty.slc ae) v12), (77, K.val ae v77), (78, K.val ae (IntKind.wrap IntKind.i64 (v78 + 1)))] [])))) (af.req True (af.all (den Ty.bool) (fun (q4 : den Ty.bool) ↦ q4 = true) fun (q4 : den Ty.bool) ↦ af.ret (K.val (Ty.pair Ty.bool Ty.unit) (q4, PUnit.unit))))
theorem j8 (v9 : den (Ty.slc ae)) (v12 : den (Ty.slc ae)) (v77 : den ae) (v78 : den ae) : ap fm oE 5000 [] dO (lp dm 9) (m0 v9 v12 v77 v78) = tc v9 v12 v77 v78 := by kernel_rfl
end Go.Proofs.Ytimdnodkabnbfaa
namespace Go.Proofs.Ytimdnodkabnbfaa
open Go Go.RowKit
theorem Bn (no : Int) : ∀ (l pre : List Mem), y9 no pre l = true ↔ (∀ m ∈ l, eX m = true ∧ m.1 ≠ no ∧ ∀ x ∈ pre, x.1 ≠ m.1) ∧ (l.map fun m => m.1).Nodup
 | [], pre => ⟨fun _ => ⟨fun _ h => (by cases h), List.nodup_nil⟩, fun _ => rfl⟩
 | m :: l, pre => by
  rw [zG]
  have ih := Bn no l (pre ++ [m])
  constructor
  ·intro h
   have h1 : eX m = true := by
    cases hq : eX m with
    | true => rfl
    | false => rw [hq] at h; cases h
   have h2 : decide (m.1 = no) = false := by
    cases hq : decide (m.1 = no) with
    | false => rfl
    | true => rw [h1, hq] at h; cases h
   have h3 : (pre.any fun x => decide (x.1 = m.1)) = false := by
    cases hq : (pre.any fun x => decide (x.1 = m.1)) with
    | false => rfl
    | true => rw [h1, h2, hq] at h; cases h
   rw [h1, h2, h3] at h
   obtain ⟨a1, a2⟩ := ih.1 h
   have h3' : ∀ x ∈ pre, x.1 ≠ m.1 := fun x hx e => by
    have := List.any_eq_false.1 h3 x hx
    exact this (decide_eq_true e)
   refine ⟨fun q hq => ?_, ?_⟩
   ·rcases List.mem_cons.1 hq with rfl | hq
    ·exact ⟨h1, of_decide_eq_false h2, h3'⟩
    ·obtain ⟨b1, b2, b3⟩ := a1 q hq
     exact ⟨b1, b2, fun x hx => b3 x (List.mem_append_left _ hx)⟩
   ·rw [List.map_cons, List.nodup_cons]
    refine ⟨fun hm => ?_, a2⟩
    obtain ⟨q, hq, e⟩ := List.mem_map.1 hm
    exact (a1 q hq).2.2 m (List.mem_append_right _ (List.mem_singleton.2 rfl)) e.symm
  ·rintro ⟨a1, a2⟩
   obtain ⟨b1, b2, b3⟩ := a1 m List.mem_cons_self
   rw [List.map_cons, List.nodup_cons] at a2
   have h3 : (pre.any fun x => decide (x.1 = m.1)) = false := List.any_eq_false.2 fun x hx => by
    have := b3 x hx
    simpa using this
   rw [b1, decide_eq_false b2, h3]
   refine ih.2 ⟨fun q hq => ?_, a2.2⟩
   obtain ⟨c1, c2, c3⟩ := a1 q (List.mem_cons_of_mem _ hq)
   refine ⟨c1, c2, fun x hx => ?_⟩
   rcases List.mem_append.1 hx with hx | hx
   ·exact c3 x hx
   ·rw [List.mem_singleton.1 hx]
    exact fun e => a2.1 (List.mem_map.2 ⟨q, hq, e.symm⟩)
theorem Dy (l : List Mem) (no : Int) : dn l no = true ↔ (∀ m ∈ l, eX m = true ∧ m.1 ≠ no) ∧ (l.map fun m => m.1).Nodup := by
 unfold dn
 rw [Bn]
 constructor
 ·rintro ⟨h1, h2⟩; exact ⟨fun m hm => ⟨(h1 m hm).1, (h1 m hm).2.1⟩, h2⟩
 ·rintro ⟨h1, h2⟩; exact ⟨fun m hm => ⟨(h1 m hm).1, (h1 m hm).2, fun _ h => (by cases h)⟩, h2⟩
theorem yb {l l' : List Mem} {no : Int} (h : dn l no = true) (hs : l'.Sublist l) : dn l' no = true := by
 rw [Dy] at h ⊢
 exact ⟨fun m hm => h.1 m (hs.subset hm), h.2.sublist (hs.map _)⟩
structure NOk (n : Nd) : Prop where
 self : eX n.1 = true
 pred : n.2.1 = noM ∨ (eX n.2.1 = true ∧ n.2.1.1 ≠ n.1.1)
 one : 1 ≤ n.2.2.1.length
 four : n.2.2.1.length ≤ 4
 succs : n.2.2.1 = [n.1] ∨ dn n.2.2.1 n.1.1 = true
 many : n.2.2.2.1.length ≤ 16
 fing : dn n.2.2.2.1 n.1.1 = true
theorem Dr (n : Nd) : a9 n = true ↔ NOk n := by
 have e1 : lnx ab n.2.2.1 = ((n.2.2.1.length : Nat) : Int) := rfl
 have e2 : lnx ab n.2.2.2.1 = ((n.2.2.2.1.length : Nat) : Int) := rfl
 have ep : uI n = true ↔ (n.2.1 = noM ∨ (eX n.2.1 = true ∧ n.2.1.1 ≠ n.1.1)) := by
  unfold uI
  by_cases h : n.2.1 = noM
  ·simp [h]
  ·rw [decide_eq_false h]
   cases hm : eX n.2.1
   ·simp [h]
   ·simp [h]
 have es : rH n = true ↔ (1 ≤ n.2.2.1.length ∧ n.2.2.1.length ≤ 4 ∧ (n.2.2.1 = [n.1] ∨ dn n.2.2.1 n.1.1 = true)) := by
  unfold rH
  rw [e1]
  by_cases h1 : 1 ≤ n.2.2.1.length
  ·rw [decide_eq_true (show (1 : Int) ≤ ((n.2.2.1.length : Nat) : Int) by omega)]
   by_cases h2 : n.2.2.1.length ≤ 4
   ·rw [decide_eq_true (show ((n.2.2.1.length : Nat) : Int) ≤ 4 by omega)]
    by_cases h3 : n.2.2.1 = [n.1]
    ·rw [decide_eq_true h3]; simp [h1, h2, h3]
    ·rw [decide_eq_false h3]; simp [h1, h2, h3]
   ·rw [decide_eq_false (show ¬ ((n.2.2.1.length : Nat) : Int) ≤ 4 by omega)]; simp [h2]
  ·rw [decide_eq_false (show ¬ (1 : Int) ≤ ((n.2.2.1.length : Nat) : Int) by omega)]; simp [h1]
 unfold a9
 rw [e2]
 constructor
 ·intro h
  cases h1 : eX n.1 <;> rw [h1] at h
  ·cases h
  cases h2 : uI n <;> rw [h2] at h
  ·cases h
  cases h3 : rH n <;> rw [h3] at h
  ·cases h
  cases h4 : decide (((n.2.2.2.1.length : Nat) : Int) ≤ 16) <;> rw [h4] at h
  ·cases h
  obtain ⟨s1, s2, s3⟩ := es.1 h3
  exact ⟨h1, ep.1 h2, s1, s2, s3, by have := of_decide_eq_true h4; omega, h⟩
 ·intro h
  rw [h.self, ep.2 h.pred, es.2 ⟨h.one, h.four, h.succs⟩, decide_eq_true (show ((n.2.2.2.1.length : Nat) : Int) ≤ 16 by have := h.many; omega)]
  exact h.fing
theorem ER (n : Nd) : nR n [] = [n.1] := rfl
theorem xy (n : Nd) (m : Mem) (l : List Mem) : nR n (m :: l) = m :: l := by
 unfold nR
 rw [decide_eq_false (show ¬ lnx ab (m :: l) = 0 from fun h => by have h : (((m :: l).length : Nat) : Int) = 0 := h; simp at h; omega)]
 rfl
theorem EY (no : Int) (nos : List Int) {m : Mem} (h : m.1 = no) : bl no nos m = false := by
 unfold bl; rw [decide_eq_true h]; rfl
theorem HG {n : Nd} (h : NOk n) (nos : List Int) : NOk (kI n nos) := by
  have hf : (n.2.2.1.filter fun m => !bl n.1.1 nos m).length ≤ 4 := Nat.le_trans (List.length_filter_le _ _) h.four
  refine ⟨h.self, ?_, ?_, ?_, ?_, Nat.le_trans (List.length_filter_le _ _) h.many, yb h.fing List.filter_sublist⟩
  · show (bif _ then noM else n.2.1) = noM ∨ (eX (bif _ then noM else n.2.1) = true ∧ (bif _ then noM else n.2.1).1 ≠ n.1.1)
    cases (bif !decide (n.2.1 = noM) then bl n.1.1 nos n.2.1 else false)
    · exact h.pred
    · exact .inl rfl
  all_goals
    show _
    simp only [kI]
    cases hq : (n.2.2.1.filter fun m => !bl n.1.1 nos m) with
    | nil => first | exact Nat.le_refl _ | exact (by decide : 1 ≤ 4) | exact .inl rfl
    | cons m l =>
      rw [xy, ← hq]
      first
      | (rw [hq]; exact Nat.succ_le_succ (Nat.zero_le _))
      | exact hf
      | (rcases h.succs with hs | hs
         · left
           rw [hs, List.filter_cons_of_pos (p := fun m : Mem => !bl n.1.1 nos m) (by rw [EY n.1.1 nos rfl]; rfl)]
           rfl
         · right
           exact yb hs List.filter_sublist)
theorem vY {l : List Nd} {n : Nd} (h : n ∈ l) : fD l n.1.1 = true := List.any_eq_true.2 ⟨n, h, decide_eq_true rfl⟩
theorem Hd {l : List Nd} {n : Nd} (h : a9 n = true) : vZ l n = kI n (jb l n) := by
 unfold vZ fh; rw [h]; rfl
theorem zK {l : List Nd} {n : Nd} (hn : n ∈ l) {m : Mem} (hk : m ∈ bU n) (h : bl n.1.1 (jb l n) m = false) : fD l m.1 = true := by
 cases hl : fD l m.1 with
 | true => rfl
 | false =>
  exfalso
  have hd : m.1 ∈ jb l n := List.mem_map.2 ⟨m, List.mem_filter.2 ⟨hk, by rw [hl]; rfl⟩, rfl⟩
  by_cases he : m.1 = n.1.1
  ·rw [he, vY hn] at hl; cases hl
  ·unfold bl at h
   rw [decide_eq_false he] at h
   have h : ((jb l n).any fun x => decide (x = m.1)) = false := h
   exact (List.any_eq_false.1 h _ hd) (decide_eq_true rfl)
theorem Fg {l : List Nd} {n : Nd} (hn : n ∈ l) {m : Mem} (h : m ∈ (kI n (jb l n)).2.2.1) : fD l m.1 = true := by
 have h : m ∈ nR n (n.2.2.1.filter fun m => !bl n.1.1 (jb l n) m) := h
 have key : ∀ m ∈ (n.2.2.1.filter fun m => !bl n.1.1 (jb l n) m), fD l m.1 = true := fun m hm => by
  obtain ⟨h1, h2⟩ := List.mem_filter.1 hm
  exact zK hn (List.mem_append_left _ (List.mem_append_right _ h1)) (by simpa using h2)
 cases hq : (n.2.2.1.filter fun m => !bl n.1.1 (jb l n) m) with
 | nil =>
  rw [hq, ER] at h
  rw [List.mem_singleton.1 h]
  exact vY hn
 | cons x t =>
  rw [hq, xy, ← hq] at h
  exact key m h
theorem E8 {l : List Nd} {n : Nd} (hn : n ∈ l) {m : Mem} (h : m ∈ (kI n (jb l n)).2.2.2.1) : fD l m.1 = true := by
 obtain ⟨h1, h2⟩ := List.mem_filter.1 (show m ∈ n.2.2.2.1.filter fun m => !bl n.1.1 (jb l n) m from h)
 exact zK hn (List.mem_append_right _ h1) (by simpa using h2)
theorem Bi (self : List Int) : ∀ (l : List Mem) (s : Mem × Int), (l.foldl (fq self) s = s ∨ ((l.foldl (fq self) s).2 = 0 ∧ (l.foldl (fq self) s).1 ∈ l))
 | [], s => .inl rfl
 | m :: l, s => by
  rw [List.foldl_cons]
  have hs : fq self s m = s ∨ fq self s m = (m, 0) := by
   unfold fq
   cases (bif !decide (s.2 = 0) then true else decide (lK (cZ self s.1.2.1) (cZ self m.2.1) < 0))
   ·exact .inl rfl
   ·exact .inr rfl
  rcases Bi self l (fq self s m) with h | h
  ·rw [h]
   rcases hs with h2 | h2
   ·exact .inl h2
   ·rw [h2]; exact .inr ⟨rfl, List.mem_cons_self⟩
  ·exact .inr ⟨h.1, List.mem_cons_of_mem _ h.2⟩
theorem DH {id self : List Int} {l : List Mem} (h : (cQ id self l).2 = 0) : (cQ id self l).1 ∈ l := by
 rcases Bi self (l.filter (lm self id)) (zero ab, 6) with h1 | h1
 ·have : (cQ id self l) = (zero ab, 6) := h1
  rw [this] at h; cases h
 ·exact (List.mem_filter.1 h1.2).1
theorem G7 {xs : List Mem} (h : 1 ≤ xs.length) : el ab xs 0 ∈ xs := by
 have : el ab xs ((0 : Nat) : Int) = xs[0] := cL (e := ab) h
 have this : el ab xs 0 = xs[0] := this
 rw [this]; exact List.getElem_mem h
theorem HB {n : Nd} (h : NOk n) (id : List Int) : (c7 n id).1 ∈ n.2.2.2.1 ++ n.2.2.1 := by
 unfold c7
 rw [(Dr n).2 h]
 have h0 : el ab n.2.2.1 0 ∈ n.2.2.2.1 ++ n.2.2.1 := List.mem_append_right _ (G7 h.one)
 cases nu id n.1.2.1 (el ab n.2.2.1 0).2.1 with
 | true => exact h0
 | false =>
  by_cases hc : (cQ id n.1.2.1 (n.2.2.2.1 ++ n.2.2.1)).2 = 0
  ·rw [decide_eq_true hc]; exact DH hc
  ·rw [decide_eq_false hc]; exact h0
theorem Fb {l : List Nd} (hr : bA l = true) {no : Int} (id : List Int) (h : (ar l no id).2 = true) : fD l no = true ∧ fD l (ar l no id).1.1.1 = true := by
 cases hf : l.find? (fun n => decide (n.1.1 = no)) with
 | none => rw [zo id hf] at h; cases h
 | some n =>
  have hn := List.mem_of_find?_eq_some hf
  have hno := List.find?_some hf
  have hrn := xP hr hn
  have hok := (Dr n).1 hrn
  refine ⟨List.any_eq_true.2 ⟨n, hn, hno⟩, ?_⟩
  rw [zk id hf]
  show fD l (vW l n id).1.1 = true
  unfold vW
  rw [Hd hrn]
  cases ot (kI n (jb l n)) id with
  | true => show fD l n.1.1 = true; exact vY hn
  | false =>
   have := HB (HG hok (jb l n)) id
   rcases List.mem_append.1 this with h | h
   ·exact E8 hn h
   ·exact Fg hn h
theorem zh (l : List Nd) (id : List Int) : ∀ (n : Nat) (path : List Int) (no : Int), (bn l id n path no).2.2 ≠ 0 → (bn l id n path no).1 = [] ∧ (bn l id n path no).2.1 = zero ab
 | n, path, no, h => by
  rw [mh] at h ⊢
  cases h1 : (ar l no id).2 <;> rw [h1] at h
  ·exact ⟨rfl, rfl⟩
  cases n with
  | zero => exact ⟨rfl, rfl⟩
  | succ n =>
   simp only [Bool.not_true, cond_false] at h ⊢
   cases h2 : (ar l no id).1.2.1 <;> rw [h2] at h
   ·cases h3 : decide ((ar l no id).1.1.1 = no) <;> rw [h3] at h
    ·exact zh l id n _ _ h
    ·exact ⟨rfl, rfl⟩
   ·cases h3 : decide ((ar l no id).1.1.1 = no) <;> rw [h3] at h <;> exact absurd rfl h
theorem zJ (l : List Nd) (id : List Int) : ∀ (n : Nat) (path : List Int) (no : Int), ((bn l id n path no).2.2 = 0 → bn l id (n + 1) path no = bn l id n path no) ∧ ((bn l id n path no).2.2 = (bn l id (n + 1) path no).2.2 ∨ (bn l id n path no).2.2 = 9)
 | n, path, no => by
  rw [mh l id n, mh l id (n + 1)]
  cases h1 : (ar l no id).2
  ·exact ⟨fun _ => rfl, .inl rfl⟩
  cases n with
  | zero => exact ⟨fun h => (by cases h), .inr rfl⟩
  | succ n =>
   simp only [Bool.not_true, cond_false]
   cases h2 : (ar l no id).1.2.1
   ·cases h3 : decide ((ar l no id).1.1.1 = no)
    ·exact zJ l id n _ _
    ·exact ⟨fun _ => rfl, .inl rfl⟩
   ·cases h3 : decide ((ar l no id).1.1.1 = no) <;> exact ⟨fun _ => rfl, .inl rfl⟩
structure Way (l : List Nd) (path : List Int) (no : Int) (n : Nat) (r : WR) : Prop where
 way : ∃ rest, r.1 = path ++ no :: rest ∧ rest.length ≤ n ∧ (∀ x ∈ no :: rest, fD l x = true) ∧ (no :: rest).getLast? = some r.2.1.1
theorem Ax {l : List Nd} (hr : bA l = true) (id : List Int) : ∀ (n : Nat) (path : List Int) (no : Int), (bn l id n path no).2.2 = 0 → Way l path no n (bn l id n path no)
 | n, path, no, h => by
  rw [mh] at h ⊢
  cases h1 : (ar l no id).2 <;> rw [h1] at h
  ·cases h
  obtain ⟨a1, a2⟩ := Fb hr id h1
  cases n with
  | zero => cases h
  | succ n =>
   simp only [Bool.not_true, cond_false] at h ⊢
   cases h2 : (ar l no id).1.2.1 <;> rw [h2] at h
   ·cases h3 : decide ((ar l no id).1.1.1 = no) <;> rw [h3] at h
    ·obtain ⟨rest, b1, b2, b3, b4⟩ := (Ax hr id n _ _ h).way
     refine ⟨(ar l no id).1.1.1 :: rest, ?_, by simp; omega, ?_, ?_⟩
     ·show (bn l id n (path ++ [no]) (ar l no id).1.1.1).1 = _
      rw [b1, List.append_assoc]; rfl
     ·intro x hx
      rcases List.mem_cons.1 hx with rfl | hx
      ·exact a1
      ·exact b3 x hx
     ·rw [List.getLast?_cons_cons]; exact b4
    ·cases h
   ·cases h3 : decide ((ar l no id).1.1.1 = no)
    ·refine ⟨[(ar l no id).1.1.1], ?_, by simp, ?_, rfl⟩
     ·show path ++ [no] ++ [(ar l no id).1.1.1] = _
      rw [List.append_assoc]; rfl
     ·intro x hx
      rcases List.mem_cons.1 hx with rfl | hx
      ·exact a1
      ·rw [List.mem_singleton.1 hx]; exact a2
    ·refine ⟨[], rfl, Nat.zero_le _, ?_, ?_⟩
     ·intro x hx
      rw [List.mem_singleton.1 hx]; exact a1
     ·show some no = some (ar l no id).1.1.1
      rw [of_decide_eq_true h3]
end Go.Proofs.Ytimdnodkabnbfaa
namespace Go.Proofs.Ytimdnodkabnbfaa
open Go Go.RowKit
abbrev GFw (O : Nat → Prop) (w0 : World) (y : List Nd) := bv prog qp (Cx.base O w0) (cu prog O w0 sm fun z => z = ((y, ()), ()))
theorem Dh (n : Nat) (b : List Mem) : br 0 (dS (lnx ab b) (n : Int)) (lnx ab b) := by
 have e : lnx ab b = ((b.length : Nat) : Int) := rfl
 rw [e]
 unfold dS br
 split <;> omega
theorem HY (n : Nat) (b : List Mem) : eP ab b 0 (dS (lnx ab b) (n : Int)) = b.take n := by
 show (b.take (dS ((b.length : Nat) : Int) n).toNat).drop (0 : Int).toNat = _
 have : (dS ((b.length : Nat) : Int) n).toNat = min b.length n := by unfold dS; split <;> omega
 rw [this]
 simp [Nat.min_comm]
theorem Ip (n : Nat) (b : List Nd) : eP ag b 0 (dS (lnx ag b) (n : Int)) = b.take n := by
 show (b.take (dS ((b.length : Nat) : Int) n).toNat).drop (0 : Int).toNat = _
 have : (dS ((b.length : Nat) : Int) n).toNat = min b.length n := by unfold dS; split <;> omega
 rw [this]
 simp [Nat.min_comm]
theorem Hl (n : Nat) (b : List Nd) : br 0 (dS (lnx ag b) (n : Int)) (lnx ag b) := by
 have e : lnx ag b = ((b.length : Nat) : Int) := rfl
 rw [e]
 unfold dS br
 split <;> omega
def H4 (O : Nat → Prop) (w0 : World) (q : List Nd) (z : Ov) (hm : q.length ≤ 18) :=
 PLift.up <| bK (σ := List Nd) q.length (fun i b => b = (q.take i).map Gh)
  (fun i b => GFw O w0 (q.map Gh) [] jK (lp jk 3) (vH q (lnx ag q) (i : Nat) z b))
  (fun i b hi hs ih => aP tO (pX q _ _ z b) (by
   refine ⟨fun _ => ⟨be hi, Dh 6 _, Dh 18 _, ?_, ?_⟩, fun hc => absurd hi (by rw [cD (e := ag)] at hc; exact of_decide_eq_false hc)⟩
   ·rw [List.length_append, hs, List.length_map, List.length_take]
    exact Nat.le_trans (show min i q.length + 1 ≤ 19 by omega) (by decide)
   ·rw [cL (e := ag) hi, cI hi (Nat.le_trans hm (by decide))]
    refine ih _ ?_
    rw [List.take_succ_eq_append_getElem hi, List.map_append, ← hs]
    have e1 := HY 6 q[i].2.2.1
    have e2 := HY 18 q[i].2.2.2.1
    have e1 : eP ab q[i].2.2.1 0 (dS (lnx ab q[i].2.2.1) 6) = q[i].2.2.1.take 6 := e1
    have e2 : eP ab q[i].2.2.2.1 0 (dS (lnx ab q[i].2.2.2.1) 18) = q[i].2.2.2.1.take 18 := e2
    rw [e1, e2]
    rfl))
  (fun b hs => aP tO (pX q _ _ z b) ⟨fun hc => absurd (of_decide_eq_true hc) (Int.lt_irrefl _), fun _ => ⟨_, rfl, by
   rw [List.take_length] at hs
   rw [hs]⟩⟩)
theorem EV : aE prog [] pZ pU :=
 bW (S := pU) tO (fx := jK) DJ (by kernel_rfl) (fun _ _ => trivial) (T := fun x => zM x.1) (fun x => BO x.1) fun O w0 x _ _ => by
  obtain ⟨o, ⟨⟩⟩ := x
  refine ⟨Hl 18 _, ?_⟩
  have e : eP ag o.1 0 (dS (lnx ag o.1) 18) = o.1.take 18 := Ip 18 o.1
  rw [e]
  exact (H4 O w0 (o.1.take 18) (zero ah) (by rw [List.length_take]; omega)).down 0 [] (Nat.zero_le _) rfl
theorem FJ (l : List Nd) : (tU l).length ≤ 18 := by
 unfold tU; rw [List.length_map, List.length_take]; omega
def n3 : Nd := ((3, zero (Ty.pair tId Ty.unit)), (-1, zero (Ty.pair tId Ty.unit)), [(3, zero (Ty.pair tId Ty.unit))], zero (Ty.pair (Ty.slc ab) Ty.unit))
def id7 : List Int := List.set (List.replicate 32 (zero (Ty.int IntKind.u8))) 31 7
theorem Hh : bF [n3] 3 id7 0 = ([3], (3, zero (Ty.pair tId Ty.unit)), 0) := by kernel_rfl
theorem B9 : aE prog [] mK mI :=
 bW (S := mI) (Cj sQ) (fx := ut) AI (by kernel_rfl) (fun _ _ => trivial) (T := fun _ => vr) (fun _ => yH) fun O v0 x _ _ => by
  refine ⟨(show 1 ≤ 1000000 by decide), bC ?_⟩
  show aU _ _ _ _ _ (af.req (dT [(bif bif decide ((bF [n3] 3 id7 0).2.2 = 0) then eqb ab (bF [n3] 3 id7 0).2.1 (3, zero (Ty.pair tId Ty.unit)) else false then decide (lnx ae (bF [n3] 3 id7 0).1 = 1) else false, true)] (inB 0 (lnx ae (bF [n3] 3 id7 0).1)))
   (af.ret (K.val (Ty.pair Ty.bool Ty.unit) (bif bif bif decide ((bF [n3] 3 id7 0).2.2 = 0) then eqb ab (bF [n3] 3 id7 0).2.1 (3, zero (Ty.pair tId Ty.unit)) else false then decide (lnx ae (bF [n3] 3 id7 0).1 = 1) else false then decide (el ae (bF [n3] 3 id7 0).1 0 = 3) else false, PUnit.unit))))
  rw [Hh]
  refine ⟨fun _ => be (n := 1) (by decide), _, rfl, Prod.ext ?_ rfl⟩
  rw [kW]
  show (bif bif bif decide ((0 : Int) = 0) then decide (((3 : Int), zero (Ty.pair tId Ty.unit)) = (3, zero (Ty.pair tId Ty.unit))) else false then decide ((1 : Int) = 1) else false then decide ((3 : Int) = 3) else false) = true
  rw [decide_eq_true rfl]
  rfl
theorem HW (k : Int) (n : Nat) (h : 2 ≤ n) (hn : n ≤ 1000) : ∃ i : Nat, i < n ∧ Int.tmod (IntKind.wrap .i64 (Int.tmod k (n : Int) + (n : Int))) (n : Int) = (i : Int) := by
 have h1 : (0 : Int) < n := by omega
 have h2 := Int.tmod_lt_of_pos k h1
 have h3 : -(n : Int) < Int.tmod k n := by
  have := Int.tmod_lt_of_pos (-k) h1
  rw [Int.neg_tmod] at this
  omega
 rw [dx (n := Int.tmod k n + n) (by omega)]
 have h4 := Int.tmod_nonneg (n : Int) (show 0 ≤ Int.tmod k n + n by omega)
 have h5 := Int.tmod_lt_of_pos (Int.tmod k n + n) h1
 exact ⟨(Int.tmod (Int.tmod k n + n) n).toNat, by omega, by omega⟩
theorem AN {l : List Nd} (hr : bA l = true) (no : Int) (id : List Int) {h : Nat} (hh : h ≤ 16) : bF l no id (h : Int) = bn l id (h + 1) [] no := by
 unfold bF
 rw [hr, decide_eq_false (show ¬ ((h : Int) < 0) by omega), decide_eq_false (show ¬ ((16 : Int) < h) by omega)]
 rfl
theorem zA {l : List Nd} (hr : bA l = false) (no : Int) (id : List Int) (h : Int) : bF l no id h = ([], zero ab, 1) := by
 unfold bF
 rw [hr]
 rfl
abbrev GLh (O : Nat → Prop) (w0 : World) := bv prog fm (Cx.base O w0) (cu prog O w0 nK fun z => z = (true, ()))
theorem j1 : XOk prog fm := wo EV sQ B9
def GT (O : Nat → Prop) (w0 : World) (p : List Int) (hm : p.length ≤ maxLen) :=
 PLift.up <| bK (σ := Unit) p.length (fun _ _ => True)
  (fun i _ => GLh O w0 [] dO (lp dm 9) (m0 p p (lnx ae p) (i : Nat)))
  (fun i _ hi _ ih => aP j1 (j8 p p _ _) (by
   refine ⟨fun _ => ⟨be hi, be hi, fun hc => ?_, fun _ => ?_⟩, fun hc => absurd hi (by rw [cD (e := ae)] at hc; exact of_decide_eq_false hc)⟩
   ·have hc : (!decide (el ae p (i : Nat) = el ae p (i : Nat))) = true := hc
    rw [decide_eq_true rfl] at hc
    cases hc
   ·rw [cI hi hm]
    exact ih () trivial))
  (fun _ _ => aP j1 (j8 p p _ _) ⟨fun hc => absurd (of_decide_eq_true hc) (Int.lt_irrefl _), fun _ => ⟨trivial, bC ⟨_, rfl, rfl⟩⟩⟩)
theorem wb : aE prog [] oN (Gf dM) :=
 bW (S := Gf dM) j1 (fx := dO) u9 (by kernel_rfl) (fun _ _ => trivial) (T := fun x => oC x.1 x.2.1 x.2.2.1 x.2.2.2.1) (fun x => s5 x.1 x.2.1 x.2.2.1 x.2.2.2.1) fun O w0 x _ _ => by
  obtain ⟨o, no, id, hops, ⟨⟩⟩ := x
  refine ⟨trivial, bC ?_⟩
  have hql := FJ o.1
  generalize (tU o.1 : List Nd) = q at hql ⊢
  obtain ⟨h, hh, e⟩ := HW hops 16 (by decide) (by decide)
  have e : Int.tmod (IntKind.wrap IntKind.i64 (Int.tmod hops 16 + 16)) 16 = (h : Int) := e
  rw [e]
  have e1 : IntKind.wrap IntKind.i64 ((h : Int) + 1) = ((h + 1 : Nat) : Int) := by rw [dx (n := (h : Int) + 1) (by omega)]; rfl
  have e2 : IntKind.wrap IntKind.i64 ((h : Int) + 2) = (h : Int) + 2 := dx (n := (h : Int) + 2) (by omega)
  rw [e1, e2]
  have n16 : nz 16 := show (16 : Int) ≠ 0 by decide
  have hq : q.length ≤ 1000000 := Nat.le_trans hql (by decide)
  refine ⟨n16, n16, hq, bC ⟨hq, bC ?_⟩⟩
  cases hr : bA q with
  | false =>
   rw [zA hr, zA hr]
   exact ⟨fun hc => (by cases hc), fun _ => ⟨trivial, bC ⟨_, rfl, rfl⟩⟩⟩
  | true =>
   rw [AN hr no id (h := h) (by omega), AN hr no id (h := h + 1) (by omega)]
   obtain ⟨m1, m2⟩ := zJ q id (h + 1) [] no
   refine ⟨fun hc => ?_, fun hc => ⟨trivial, bC ⟨_, rfl, Prod.ext ?_ rfl⟩⟩⟩
   ·have h0 : (bn q id (h + 1) [] no).2.2 = 0 := of_decide_eq_true hc
    rw [m1 h0]
    obtain ⟨rest, b1, b2, b3, b4⟩ := (Ax hr id (h + 1) [] no h0).way
    generalize hR : bn q id (h + 1) [] no = r at h0 b1 b4 ⊢
    have hl : lnx ae r.1 = ((rest.length + 1 : Nat) : Int) := by
     show ((r.1.length : Nat) : Int) = _
     rw [b1]; rfl
    have hin : inB 0 (lnx ae r.1) := by rw [hl]; exact ⟨by omega, by omega⟩
    refine ⟨fun _ => hin, fun h3 => ?_, fun _ => ?_⟩
    ·exfalso
     have h3 : (bif bif bif bif bif !decide (r.2.2 = 0) then true else !eqb ab r.2.1 r.2.1 then true else decide (lnx ae r.1 = 0) then true else !decide (lnx ae r.1 = lnx ae r.1) then true else decide ((h : Int) + 2 < lnx ae r.1) then true else !decide (el ae r.1 0 = no)) = true := h3
     have he : el ae r.1 0 = no := by
      rw [b1]; rfl
     rw [h0, kW, decide_eq_true (show r.2.1 = r.2.1 from rfl), hl, he, decide_eq_false (show ¬ ((rest.length + 1 : Nat) : Int) = 0 by omega), decide_eq_true (show ((rest.length + 1 : Nat) : Int) = ((rest.length + 1 : Nat) : Int) from rfl), decide_eq_false (show ¬ (h : Int) + 2 < ((rest.length + 1 : Nat) : Int) by omega), decide_eq_true (show no = no from rfl)] at h3
     cases h3
    ·refine (GT O w0 r.1 ?_).down 0 () (Nat.zero_le _) trivial
     rw [b1]
     exact Nat.le_trans (show rest.length + 1 ≤ 20 by omega) (by decide)
   ·have h0 : (bn q id (h + 1) [] no).2.2 ≠ 0 := of_decide_eq_false hc
    show (bif bif true then decide (lnx ae (bn q id (h + 1) [] no).1 = 0) else false then (bif decide ((bn q id (h + 1) [] no).2.2 = (bn q id (h + 1 + 1) [] no).2.2) then true else decide ((bn q id (h + 1) [] no).2.2 = 9)) else false) = true
    rw [(zh q id (h + 1) [] no h0).1]
    rcases m2 with m2 | m2
    ·rw [decide_eq_true m2]; rfl
    ·rw [decide_eq_true m2]
     cases decide ((bn q id (h + 1) [] no).2.2 = (bn q id (h + 1 + 1) [] no).2.2) <;> rfl
end Go.Proofs.Ytimdnodkabnbfaa
