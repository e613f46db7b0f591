/- Part 9 of 10 of what this claim's proof stands on: a theory of programs on data, and the contracts of the functions that the law reaches. It holds no condition of its own. -/
import Derived.Test.YtimdnodkabnbfaaCA8
namespace Go.Proofs.Ytimdnodkabnbfaa
open Go Go.RowKit
end Go.Proofs.Ytimdnodkabnbfaa
namespace Go.Proofs.Ytimdnodkabnbfaa
open Go Go.RowKit
end Go.Proofs.Ytimdnodkabnbfaa
namespace Go.Proofs.Ytimdnodkabnbfaa
open Go Go.RowKit
noncomputable abbrev cD : bA := ⟨.pair (.slc (.slc ab)) .unit, .pair (.slc ab) .unit, fun y => ((y.1.flatten : List Mem), ()), fun y => (y.1.flatten : List Mem).length ≤ bY, false⟩
theorem ia : ay prog [] bQ cD := G8 sT rfl
abbrev th : Ty := .pair Lw .unit
noncomputable abbrev m3 : bA := ⟨u2, th, fun x => ((cy x.1, ()), ()), fun x => (cy x.1).length ≤ 1000000, false⟩
abbrev Ov := den ah
def ixQ (p : Nd → Bool) : List Nd → Int → Int
 | [], _ => -1
 | x :: l, i => bif p x then i else ixQ p l (i + 1)
def prQ (f : den (.fn (.pair ag .unit) (.pair .bool .unit))) (m : Nd) : Bool := (sA (.pair ag .unit) (.pair .bool .unit) f (m, ())).1
noncomputable abbrev cX : bA := ⟨lN, gP, fun x => (ixQ (prQ x.2.1) x.1 0, ()), fun x => m5 (.pair ag .unit) (.pair .bool .unit) x.2.1, false⟩
noncomputable abbrev d9 : bA := ⟨jL, jK, fun x => (List.any x.1 (prQ x.2.1), ()), fun x => m5 (.pair ag .unit) (.pair .bool .unit) x.2.1, false⟩
noncomputable abbrev kX : bA := ⟨rL, rG, fun x => (decide ((sfN x.1).1 = x.2.1), ()), fun _ => True, true⟩
noncomputable abbrev lc : bA := ⟨r9, rZ, fun x => (decide ((sfN x.1).1 = x.2.1.1), ()), fun _ => True, true⟩
noncomputable abbrev dV : bA := ⟨sS, np, fun x => (ai x.1.1, ()), fun x => List.length x.1.1 ≤ 1000000, false⟩
def dP (l : List Nd) (no : Int) : Mem × Bool := match l.find? (fun n => decide (n.1.1 = no)) with | some n => (n.1, true) | none => (zero ab, false)
noncomputable abbrev oa : bA := ⟨xa, qu, fun x => ((dP x.1.1 x.2.1).1, (dP x.1.1 x.2.1).2, ()), fun _ => True, true⟩
def oz (l : List Nd) (m : Mem) : Bool := bif (dP l m.1).2 then !decide ((dP l m.1).1 = m) else false
def NN (l : List Nd) (n : Nd) : Bool := (cy n).all fun m => !oz l m
def Fs (l : List Nd) (i : Int) : Bool := bif !bt (el ag l i) then true else bif decide (0 < i) then decide ((el ag l i).1.1 ≤ (el ag l (i - 1)).1.1) else false
def jq (l : List Nd) (i : Int) : Bool := bif Fs l i then false else NN l (el ag l i)
def bE (l : List Nd) : Bool := (List.range l.length).all (fun i => jq l (i : Nat)) && bp (ai l)
noncomputable abbrev ir : bA := ⟨uz, oY, fun x => (bE x.1.1, ()), fun x => List.length x.1.1 ≤ 1000000, false⟩
abbrev Ans := den aw
def jb (l : List Nd) (n : Nd) : List Int := ((cy n).filter fun m => !ft l m.1).map fun m => m.1
def ox (l : List Nd) (n : Nd) : Nd := (gH n (jb l n)).1
def sc (l : List Nd) (n : Nd) (id : List Int) : Ans := bif mf (ox l n) id then ((ox l n).1, true, ()) else ((cY (ox l n) id).1, (cY (ox l n) id).2.1, ())
def aG (l : List Nd) (no : Int) (id : List Int) : Ans × Bool := match l.find? (fun n => decide (n.1.1 = no)) with | some n => (sc l n id, true) | none => (zero aw, false)
noncomputable abbrev na : bA := ⟨vp, l6, fun x => ((aG x.1.1 x.2.1 x.2.2.1).1, (aG x.1.1 x.2.1 x.2.2.1).2, ()), fun x => bE x.1.1 = true, false⟩
abbrev WR := List Int × Mem × Int
def dw (l : List Nd) (id : List Int) : Nat → List Int → Int → WR
 | n, path, no => bif !(aG l no id).2 then ([], zero ab, 10) else
  match n with
  | 0 => ([], zero ab, 9)
  | n + 1 => bif (aG l no id).1.2.1 then (bif decide ((aG l no id).1.1.1 = no) then (path ++ [no], (aG l no id).1.1, 0) else (path ++ [no] ++ [(aG l no id).1.1.1], (aG l no id).1.1, 0))
   else bif decide ((aG l no id).1.1.1 = no) then ([], zero ab, 13) else dw l id n (path ++ [no]) (aG l no id).1.1.1
def cI (l : List Nd) (no : Int) (id : List Int) (hops : Int) : WR := bif (bif (bif !bE l then true else decide (hops < 0)) then true else decide (16 < hops)) then ([], zero ab, 1) else dw l id (hops.toNat + 1) [] no
noncomputable abbrev iu : bA := ⟨uM, eF, fun x => ((cI x.1.1 x.2.1 x.2.2.1 x.2.2.2.1).1, (cI x.1.1 x.2.1 x.2.2.1 x.2.2.2.1).2.1, (cI x.1.1 x.2.1 x.2.2.1 x.2.2.2.1).2.2, ()), fun x => List.length x.1.1 ≤ 1000000, false⟩
end Go.Proofs.Ytimdnodkabnbfaa
namespace Go.Proofs.Ytimdnodkabnbfaa
open Go Go.RowKit
noncomputable abbrev sY : Fx := { fn := mS, ann := { } }
noncomputable abbrev cn : Fx := { fn := bS, ann := { loops := [(1, { keep := [0, 2, 6, 7, 8] })], frz := [(1000001, [6, 8, 9])], gy := true } }
noncomputable abbrev dQ : Fx := { fn := aP, ann := { frz := [(2, [3, 4])] } }
noncomputable abbrev gU : bg := { D := { T := br, F := [(eV, fS), (cV, dx), (iE, iF)], R := [], ovl := [] }, inl := [(mE, sY), (lj, cn)] }
noncomputable abbrev sB : bF := .data mw
theorem Aj (h_ident_Far : ay prog [] eV fS) (h_ident_Compare : ay prog [] cV dx) (h_finger_Closest_1 : ay prog [] iE iF) : XOk prog gU := xok (ax (ax (ax (aU aY aM) h_finger_Closest_1) h_ident_Compare) h_ident_Far) (by kernel_rfl) aS (jg sX (by kernel_rfl) (jg qV (by kernel_rfl) a6)) aZ
noncomputable def se (id : den tId) (self : den tId) (known : den (Ty.slc ab)) : af := af.req (∀ (y : den (Ty.pair ab Ty.unit)), True) (af.loop [{ fx := dQ, todo := cx aP 5, dst := none, s := ofS [(6, K.ptr (0 + 1 + 1) ab []), (8, K.ptr (0 + 1 + 1 + 1) ab []), (9, K.ptr (0 + 1 + 1 + 1 + 1) ae [])], rng := some 0 }] cn (lp bS 1) [(0, K.yld 0), (2, K.ptr (0 + 1) (Ty.fn (Ty.pair ab Ty.unit) (Ty.pair Ty.bool Ty.unit)) []), (6, K.val (Ty.slc ab) known), (7, K.val ae (lnx ab known)), (8, K.val ae 0)] [(0, Bx.lop LoopState.ready none [(4, K.ref tId self), (8, K.ptr (0 + 1 + 1 + 1) ab []), (9, K.ptr (0 + 1 + 1 + 1 + 1) ae [])] 35 (kI aP 5) (du aP 5) (fC aP 5)), (0 + 1, Bx.cell (Ty.fn (Ty.pair ab Ty.unit) (Ty.pair Ty.bool Ty.unit)) (some fun (y : den (Ty.pair ab Ty.unit)) ↦ (jT self id (Prod.fst y), PUnit.unit))), (0 + 1 + 1, Bx.cell ab (zero ab)), (0 + 1 + 1 + 1, Bx.cell ab (zero (Ty.pair ae (Ty.pair tId Ty.unit)))), (0 + 1 + 1 + 1 + 1, Bx.cell ae 6)])
theorem xk (id : den tId) (self : den tId) (known : den (Ty.slc ab)) : ak gU sB 5000 [] dQ (aF aP) (Env.of (aK qC (id, self, known, ()) 0) []) = se id self known := by kernel_rfl
noncomputable def eU (v6 : den (Ty.slc ab)) (v7 : den ae) (v8 : den ae) (b0_4 : den tId) (b1 : den (Ty.fn (Ty.pair ab Ty.unit) (Ty.pair Ty.bool Ty.unit))) (b2 : den ab) (b3 : den ab) (b4 : den ae) : List cg := [{ fx := dQ, todo := cx aP 5, dst := none, s := ofS [(6, K.ptr (0 + 1 + 1) ab []), (8, K.ptr (0 + 1 + 1 + 1) ab []), (9, K.ptr (0 + 1 + 1 + 1 + 1) ae [])], rng := some 0 }]
noncomputable def eS (v6 : den (Ty.slc ab)) (v7 : den ae) (v8 : den ae) (b0_4 : den tId) (b1 : den (Ty.fn (Ty.pair ab Ty.unit) (Ty.pair Ty.bool Ty.unit))) (b2 : den ab) (b3 : den ab) (b4 : den ae) : Env := Env.of [(0, K.yld 0), (2, K.ptr (0 + 1) (Ty.fn (Ty.pair ab Ty.unit) (Ty.pair Ty.bool Ty.unit)) []), (6, K.val (Ty.slc ab) v6), (7, K.val ae v7), (8, K.val ae v8)] [(0, Bx.lop LoopState.ready none [(4, K.ref tId b0_4), (8, K.ptr (0 + 1 + 1 + 1) ab []), (9, K.ptr (0 + 1 + 1 + 1 + 1) ae [])] 35 (kI aP 5) (du aP 5) (fC aP 5)), (1, Bx.cell (Ty.fn (Ty.pair ab Ty.unit) (Ty.pair Ty.bool Ty.unit)) b1), (2, Bx.cell ab b2), (3, Bx.cell ab b3), (4, Bx.cell ae b4)]
noncomputable def jr (v6 : den (Ty.slc ab)) (v7 : den ae) (v8 : den ae) (b0_4 : den tId) (b1 : den (Ty.fn (Ty.pair ab Ty.unit) (Ty.pair Ty.bool Ty.unit))) (b2 : den ab) (b3 : den ab) (b4 : den ae) : af := af.ite (decide (v8 < v7)) (af.req (inB v8 (lnx ab v6)) (af.req (m5 (Ty.pair ab Ty.unit) (Ty.pair Ty.bool Ty.unit) b1) (af.ite (Prod.fst (sA (Ty.pair ab Ty.unit) (Ty.pair Ty.bool Ty.unit) b1 (el ab v6 v8, PUnit.unit))) (af.req (dy [(!decide (b4 = 0), false)] True) (af.req (dy [(!decide (b4 = 0), false)] True) (af.req (dy [(!decide (b4 = 0), false)] True) (af.ite (bif !decide (b4 = 0) then true else decide (fQ (aW b0_4 (Prod.fst (Prod.snd b3))) (aW b0_4 (Prod.fst (Prod.snd (el ab v6 v8)))) < 0)) (af.loop [{ fx := dQ, todo := cx aP 5, dst := none, s := ofS [(6, K.ptr (0 + 1 + 1) ab []), (8, K.ptr (0 + 1 + 1 + 1) ab []), (9, K.ptr (0 + 1 + 1 + 1 + 1) ae [])], rng := some 0 }] cn (lp bS 1) [(0, K.yld 0), (2, K.ptr (0 + 1) (Ty.fn (Ty.pair ab Ty.unit) (Ty.pair Ty.bool Ty.unit)) []), (6, K.val (Ty.slc ab) v6), (7, K.val ae v7), (8, K.val ae (IntKind.wrap IntKind.i64 (v8 + 1)))] [(0, Bx.lop LoopState.ready none [(4, K.ref tId b0_4), (8, K.ptr (0 + 1 + 1 + 1) ab []), (9, K.ptr (0 + 1 + 1 + 1 + 1) ae [])] 35 (kI aP 5) (du aP 5) (fC aP 5)), (0 + 1, Bx.cell (Ty.fn (Ty.pair ab Ty.unit) (Ty.pair Ty.bool Ty.unit)) b1), (0 + 1 + 1, Bx.cell ab b2), (0 + 1 + 1 + 1, Bx.cell ab (el ab v6 v8)), (0 + 1 + 1 + 1 + 1, Bx.cell ae 0)]) (af.loop [{ fx := dQ, todo := cx aP 5, dst := none, s := ofS [(6, K.ptr (0 + 1 + 1) ab []), (8, K.ptr (0 + 1 + 1 + 1) ab []), (9, K.ptr (0 + 1 + 1 + 1 + 1) ae [])], rng := some 0 }] cn (lp bS 1) [(0, K.yld 0), (2, K.ptr (0 + 1) (Ty.fn (Ty.pair ab Ty.unit) (Ty.pair Ty.bool Ty.unit)) []), (6, K.val (Ty.slc ab) v6), (7, K.val ae v7), (8, K.val ae (IntKind.wrap IntKind.i64 (v8 + 1)))] [(0, Bx.lop LoopState.ready none [(4, K.ref tId b0_4), (8, K.ptr (0 + 1 + 1 + 1) ab []), (9, K.ptr (0 + 1 + 1 + 1 + 1) ae [])] 35 (kI aP 5) (du aP 5) (fC aP 5)), (0 + 1, Bx.cell (Ty.fn (Ty.pair ab Ty.unit) (Ty.pair Ty.bool Ty.unit)) b1), (0 + 1 + 1, Bx.cell ab b2), (0 + 1 + 1 + 1, Bx.cell ab b3), (0 + 1 + 1 + 1 + 1, Bx.cell ae b4)]))))) (af.loop [{ fx := dQ, todo := cx aP 5, dst := none, s := ofS [(6, K.ptr (0 + 1 + 1) ab []), (8, K.ptr (0 + 1 + 1 + 1) ab []), (9, K.ptr (0 + 1 + 1 + 1 + 1) ae [])], rng := some 0 }] cn (lp bS 1) [(0, K.yld 0), (2, K.ptr (0 + 1) (Ty.fn (Ty.pair ab Ty.unit) (Ty.pair Ty.bool Ty.unit)) []), (6, K.val (Ty.slc ab) v6), (7, K.val ae v7), (8, K.val ae (IntKind.wrap IntKind.i64 (v8 + 1)))] [(0, Bx.lop LoopState.ready none [(4, K.ref tId b0_4), (8, K.ptr (0 + 1 + 1 + 1) ab []), (9, K.ptr (0 + 1 + 1 + 1 + 1) ae [])] 35 (kI aP 5) (du aP 5) (fC aP 5)), (0 + 1, Bx.cell (Ty.fn (Ty.pair ab Ty.unit) (Ty.pair Ty.bool Ty.unit)) b1), (0 + 1 + 1, Bx.cell ab b2), (0 + 1 + 1 + 1, Bx.cell ab b3), (0 + 1 + 1 + 1 + 1, Bx.cell ae b4)])))) (af.ret (K.val (Ty.pair ab (Ty.pair ae Ty.unit)) (b3, b4, PUnit.unit)))
theorem dU (v6 : den (Ty.slc ab)) (v7 : den ae) (v8 : den ae) (b0_4 : den tId) (b1 : den (Ty.fn (Ty.pair ab Ty.unit) (Ty.pair Ty.bool Ty.unit))) (b2 : den ab) (b3 : den ab) (b4 : den ae) : ak gU sB 5000 (eU v6 v7 v8 b0_4 b1 b2 b3 b4) cn (lp bS 1) (eS v6 v7 v8 b0_4 b1 b2 b3 b4) = jr v6 v7 v8 b0_4 b1 b2 b3 b4 := by kernel_rfl
noncomputable abbrev xU : Fx := { fn := t8, ann := { }, share := true }
noncomputable abbrev zN : bg := { D := { T := br, F := [(d6, dY), (iC, jV), (bQ, cD), (jR, j2)], R := [], ovl := [] }, inl := [] }
noncomputable abbrev Hu : bF := .data r6
theorem GZ (h_node_Right : ay prog [] d6 dY) (h_ident_In : ay prog [] iC jV) (h_slices_Concat_Member : ay prog [] bQ (cD)) (h_finger_Closest : ay prog [] jR j2) : XOk prog zN := xok (ax (ax (ax (ax (aU aY aM) h_finger_Closest) h_slices_Concat_Member) h_ident_In) h_node_Right) (by kernel_rfl) aS a6 aZ
noncomputable def zX (n : den ag) (id : den tId) : af := af.req True (af.all (den Ty.bool) (fun (q2 : den Ty.bool) ↦ q2 = bt n) fun (q2 : den Ty.bool) ↦ af.ite (!q2) (af.ret (K.val (Ty.pair ab (Ty.pair Ty.bool (Ty.pair ae Ty.unit))) (zero (Ty.pair ae (Ty.pair tId Ty.unit)), false, 1, PUnit.unit))) (af.req (inB 0 (lnx ab (Prod.fst (Prod.snd (Prod.snd n))))) (af.req True (af.all (den Ty.bool) (fun (q3 : den Ty.bool) ↦ q3 = gk id (Prod.fst (Prod.snd (Prod.fst n))) (Prod.fst (Prod.snd (el ab (Prod.fst (Prod.snd (Prod.snd n))) 0)))) fun (q3 : den Ty.bool) ↦ af.ite q3 (af.ret (K.val (Ty.pair ab (Ty.pair Ty.bool (Ty.pair ae Ty.unit))) (el ab (Prod.fst (Prod.snd (Prod.snd n))) 0, true, 0, PUnit.unit))) (af.req (List.length (List.flatten (List.set (List.set (List.replicate 2 (zero (Ty.slc ab))) 0 (Prod.fst (Prod.snd (Prod.snd (Prod.snd n))))) 1 (Prod.fst (Prod.snd (Prod.snd n))))) ≤ bY) (af.req True (af.all (den (Ty.slc ab)) (fun (q4 : den (Ty.slc ab)) ↦ q4 = List.flatten (List.set (List.set (List.replicate 2 (zero (Ty.slc ab))) 0 (Prod.fst (Prod.snd (Prod.snd (Prod.snd n))))) 1 (Prod.fst (Prod.snd (Prod.snd n))))) fun (q4 : den (Ty.slc ab)) ↦ af.all (den (Ty.pair ab (Ty.pair ae Ty.unit))) (fun (q5 : den (Ty.pair ab (Ty.pair ae Ty.unit))) ↦ q5 = (Prod.fst (cr id (Prod.fst (Prod.snd (Prod.fst n))) (List.flatten (List.set (List.set (List.replicate 2 (zero (Ty.slc ab))) 0 (Prod.fst (Prod.snd (Prod.snd (Prod.snd n))))) 1 (Prod.fst (Prod.snd (Prod.snd n)))))), Prod.snd (cr id (Prod.fst (Prod.snd (Prod.fst n))) (List.flatten (List.set (List.set (List.replicate 2 (zero (Ty.slc ab))) 0 (Prod.fst (Prod.snd (Prod.snd (Prod.snd n))))) 1 (Prod.fst (Prod.snd (Prod.snd n)))))), PUnit.unit)) fun (q5 : den (Ty.pair ab (Ty.pair ae Ty.unit))) ↦ af.ite (!decide (Prod.snd (cr id (Prod.fst (Prod.snd (Prod.fst n))) (List.flatten (List.set (List.set (List.replicate 2 (zero (Ty.slc ab))) 0 (Prod.fst (Prod.snd (Prod.snd (Prod.snd n))))) 1 (Prod.fst (Prod.snd (Prod.snd n)))))) = 0)) (af.req (inB 0 (lnx ab (Prod.fst (Prod.snd (Prod.snd n))))) (af.ret (K.val (Ty.pair ab (Ty.pair Ty.bool (Ty.pair ae Ty.unit))) (el ab (Prod.fst (Prod.snd (Prod.snd n))) 0, false, 0, PUnit.unit)))) (af.ret (K.val (Ty.pair ab (Ty.pair Ty.bool (Ty.pair ae Ty.unit))) (Prod.fst (cr id (Prod.fst (Prod.snd (Prod.fst n))) (List.flatten (List.set (List.set (List.replicate 2 (zero (Ty.slc ab))) 0 (Prod.fst (Prod.snd (Prod.snd (Prod.snd n))))) 1 (Prod.fst (Prod.snd (Prod.snd n)))))), false, 0, PUnit.unit))))))))))
theorem CK (n : den ag) (id : den tId) : ak zN Hu 5000 [] xU (aF t8) (Env.of (aK yC (n, id, ()) 0) []) = zX n id := by kernel_rfl
noncomputable abbrev cP : Fx := { fn := cB, ann := { loops := [(2, { keep := [0, 1, 7, 8] })] } }
noncomputable abbrev fu : bg := { D := { T := br, F := [], R := [], ovl := [] }, inl := [] }
noncomputable abbrev mq : bF := .data gP
theorem hK : XOk prog fu := xok ((aU aY aM)) (by kernel_rfl) aS a6 aZ
noncomputable def ml (s : den (Ty.slc ag)) (f : den (Ty.fn (Ty.pair ag Ty.unit) (Ty.pair Ty.bool Ty.unit))) : af := af.loop [] cP (lp cB 2) [(0, K.val (Ty.slc ag) s), (1, K.val (Ty.fn (Ty.pair ag Ty.unit) (Ty.pair Ty.bool Ty.unit)) f), (7, K.val ae (lnx ag s)), (8, K.val ae 0)] []
theorem qm (s : den (Ty.slc ag)) (f : den (Ty.fn (Ty.pair ag Ty.unit) (Ty.pair Ty.bool Ty.unit))) : ak fu mq 5000 [] cP (aF cB) (Env.of (aK lN (s, f, ()) 0) []) = ml s f := by kernel_rfl
noncomputable def kO (v0 : den (Ty.slc ag)) (v1 : den (Ty.fn (Ty.pair ag Ty.unit) (Ty.pair Ty.bool Ty.unit))) (v7 : den ae) (v8 : den ae) : Env := Env.of [(0, K.val (Ty.slc ag) v0), (1, K.val (Ty.fn (Ty.pair ag Ty.unit) (Ty.pair Ty.bool Ty.unit)) v1), (7, K.val ae v7), (8, K.val ae v8)] []
noncomputable def p5 (v0 : den (Ty.slc ag)) (v1 : den (Ty.fn (Ty.pair ag Ty.unit) (Ty.pair Ty.bool Ty.unit))) (v7 : den ae) (v8 : den ae) : af := af.ite (decide (v8 < v7)) (af.req (inB v8 (lnx ag v0)) (af.req (m5 (Ty.pair ag Ty.unit) (Ty.pair Ty.bool Ty.unit) v1) (af.ite (Prod.fst (sA (Ty.pair ag Ty.unit) (Ty.pair Ty.bool Ty.unit) v1 (el ag v0 v8, PUnit.unit))) (af.ret (K.val (Ty.pair ae Ty.unit) (v8, PUnit.unit))) (af.loop [] cP (lp cB 2) [(0, K.val (Ty.slc ag) v0), (1, K.val (Ty.fn (Ty.pair ag Ty.unit) (Ty.pair Ty.bool Ty.unit)) v1), (7, K.val ae v7), (8, K.val ae (IntKind.wrap IntKind.i64 (v8 + 1)))] [])))) (af.ret (K.val (Ty.pair ae Ty.unit) (-1, PUnit.unit)))
theorem ja (v0 : den (Ty.slc ag)) (v1 : den (Ty.fn (Ty.pair ag Ty.unit) (Ty.pair Ty.bool Ty.unit))) (v7 : den ae) (v8 : den ae) : ak fu mq 5000 [] cP (lp cB 2) (kO v0 v1 v7 v8) = p5 v0 v1 v7 v8 := by kernel_rfl
noncomputable abbrev jG : Fx := { fn := gp, ann := { } }
noncomputable abbrev kw : bg := { D := { T := br, F := [(cW, cX)], R := [], ovl := [] }, inl := [] }
noncomputable abbrev p9 : bF := .data jK
theorem qh (h_slices_IndexFunc_Node : ay prog [] cW cX) : XOk prog kw := xok (ax (aU aY aM) h_slices_IndexFunc_Node) (by kernel_rfl) aS a6 aZ
noncomputable def j7 (s : den (Ty.slc ag)) (f : den (Ty.fn (Ty.pair ag Ty.unit) (Ty.pair Ty.bool Ty.unit))) : af := af.req (∃ (h : den (Ty.pair ag Ty.unit) → den (Ty.pair Ty.bool Ty.unit)), f = some h) (af.ret (K.val (Ty.pair Ty.bool Ty.unit) (decide (0 ≤ ixQ (prQ f) s 0), PUnit.unit)))
theorem oC (s : den (Ty.slc ag)) (f : den (Ty.fn (Ty.pair ag Ty.unit) (Ty.pair Ty.bool Ty.unit))) : ak kw p9 5000 [] jG (aF gp) (Env.of (aK jL (s, f, ()) 0) []) = j7 s f := by kernel_rfl
noncomputable abbrev sy : Fx := { fn := nQ, ann := { } }
noncomputable abbrev tr : bg := { D := { T := br, F := [], R := [], ovl := [] }, inl := [] }
noncomputable abbrev Co : bF := .data rG
theorem BD : XOk prog tr := xok ((aU aY aM)) (by kernel_rfl) aS a6 aZ
noncomputable def tE (n : den ag) (no : den (Ty.ref ae)) : af := af.ret (K.val (Ty.pair Ty.bool Ty.unit) (decide (Prod.fst (Prod.fst n) = no), PUnit.unit))
theorem xt (n : den ag) (no : den (Ty.ref ae)) : ak tr Co 5000 [] sy (aF nQ) (Env.of (aK rL (n, no, ()) 0) []) = tE n no := by kernel_rfl
noncomputable abbrev rM : Fx := { fn := n8, ann := { } }
noncomputable abbrev tK : bg := { D := { T := br, F := [], R := [], ovl := [] }, inl := [] }
noncomputable abbrev BO : bF := .data rZ
theorem Br : XOk prog tK := xok ((aU aY aM)) (by kernel_rfl) aS a6 aZ
noncomputable def tc (n : den ag) (m : den (Ty.ref ab)) : af := af.ret (K.val (Ty.pair Ty.bool Ty.unit) (decide (Prod.fst (Prod.fst n) = Prod.fst m), PUnit.unit))
theorem xJ (n : den ag) (m : den (Ty.ref ab)) : ak tK BO 5000 [] rM (aF n8) (Env.of (aK r9 (n, m, ()) 0) []) = tc n m := by kernel_rfl
noncomputable abbrev fH : Fx := { fn := fb, ann := { loops := [(3, { keep := [3, 7, 8, 9], own := [(3, ab)] })] } }
noncomputable abbrev lg : bg := { D := { T := br, F := [], R := [], ovl := [] }, inl := [] }
noncomputable abbrev tB : bF := .data np
theorem n1 : XOk prog lg := xok ((aU aY aM)) (by kernel_rfl) aS a6 aZ
noncomputable def tb (o : den ah) : af := af.loop [] fH (lp fb 3) [(3, K.sl 0 ab), (7, K.val (Ty.slc ag) (Prod.fst o)), (8, K.val ae (lnx ag (Prod.fst o))), (9, K.val ae 0)] [(0, Bx.row ab [])]
theorem yX (o : den ah) : ak lg tB 5000 [] fH (aF fb) (Env.of (aK sS (o, ()) 0) []) = tb o := by kernel_rfl
noncomputable def qG (v7 : den (Ty.slc ag)) (v8 : den ae) (v9 : den ae) (b0 : List (den ab)) : Env := Env.of [(3, K.sl 0 ab), (7, K.val (Ty.slc ag) v7), (8, K.val ae v8), (9, K.val ae v9)] [(0, Bx.row ab b0)]
noncomputable def yI (v7 : den (Ty.slc ag)) (v8 : den ae) (v9 : den ae) (b0 : List (den ab)) : af := af.ite (decide (v9 < v8)) (af.req (inB v9 (lnx ag v7)) (af.req (List.length (b0 ++ List.set (List.replicate 1 (zero ab)) 0 (Prod.fst (el ag v7 v9))) ≤ bY) (af.loop [] fH (lp fb 3) [(3, K.sl 0 ab), (7, K.val (Ty.slc ag) v7), (8, K.val ae v8), (9, K.val ae (IntKind.wrap IntKind.i64 (v9 + 1)))] [(0, Bx.row ab (b0 ++ List.set (List.replicate 1 (zero ab)) 0 (Prod.fst (el ag v7 v9))))]))) (af.ret (K.val (Ty.pair (Ty.slc ab) Ty.unit) (b0, PUnit.unit)))
theorem nI (v7 : den (Ty.slc ag)) (v8 : den ae) (v9 : den ae) (b0 : List (den ab)) : ak lg tB 5000 [] fH (lp fb 3) (qG v7 v8 v9 b0) = yI v7 v8 v9 b0 := by kernel_rfl
noncomputable abbrev iw : Fx := { fn := gO, ann := { loops := [(2, { keep := [1, 4, 9, 10, 11] })] } }
noncomputable abbrev ou : bg := { D := { T := br, F := [], R := [], ovl := [] }, inl := [] }
noncomputable abbrev yr : bF := .data qu
theorem si : XOk prog ou := xok ((aU aY aM)) (by kernel_rfl) aS a6 aZ
noncomputable def yK (o : den ah) (no : den ae) : af := af.loop [] iw (lp gO 2) [(1, K.val ae no), (4, K.ptr 0 ab []), (9, K.val (Ty.slc ag) (Prod.fst o)), (10, K.val ae (lnx ag (Prod.fst o))), (11, K.val ae 0)] [(0, Bx.cell ab (zero ab))]
theorem B7 (o : den ah) (no : den ae) : ak ou yr 5000 [] iw (aF gO) (Env.of (aK xa (o, no, ()) 0) []) = yK o no := by kernel_rfl
noncomputable def vg (v1 : den ae) (v9 : den (Ty.slc ag)) (v10 : den ae) (v11 : den ae) (b0 : den ab) : Env := Env.of [(1, K.val ae v1), (4, K.ptr 0 ab []), (9, K.val (Ty.slc ag) v9), (10, K.val ae v10), (11, K.val ae v11)] [(0, Bx.cell ab b0)]
noncomputable def Bk (v1 : den ae) (v9 : den (Ty.slc ag)) (v10 : den ae) (v11 : den ae) (b0 : den ab) : af := af.ite (decide (v11 < v10)) (af.req (inB v11 (lnx ag v9)) (af.ite (decide (Prod.fst (Prod.fst (el ag v9 v11)) = v1)) (af.ret (K.val (Ty.pair ab (Ty.pair Ty.bool Ty.unit)) (Prod.fst (el ag v9 v11), true, PUnit.unit))) (af.loop [] iw (lp gO 2) [(1, K.val ae v1), (4, K.ptr 0 ab []), (9, K.val (Ty.slc ag) v9), (10, K.val ae v10), (11, K.val ae (IntKind.wrap IntKind.i64 (v11 + 1)))] [(0, Bx.cell ab b0)]))) (af.ret (K.val (Ty.pair ab (Ty.pair Ty.bool Ty.unit)) (zero (Ty.pair ae (Ty.pair tId Ty.unit)), false, PUnit.unit)))
theorem pK (v1 : den ae) (v9 : den (Ty.slc ag)) (v10 : den ae) (v11 : den ae) (b0 : den ab) : ak ou yr 5000 [] iw (lp gO 2) (vg v1 v9 v10 v11 b0) = Bk v1 v9 v10 v11 b0 := by kernel_rfl
noncomputable abbrev vf : Fx := { fn := qt, ann := { } }
noncomputable abbrev w7 : bg := { D := { T := br, F := [(bQ, cD), (dp, dh)], R := [], ovl := [] }, inl := [] }
noncomputable abbrev EE : bF := .data th
theorem Ec (h_slices_Concat_Member : ay prog [] bQ (cD)) (h_slices_Values_Member : ay prog [] dp dh) : XOk prog w7 := xok (ax (ax (aU aY aM) h_slices_Values_Member) h_slices_Concat_Member) (by kernel_rfl) aS a6 aZ
noncomputable def wY (n : den ag) : af := af.req (List.length (List.flatten (List.set (List.set (List.set (List.replicate 3 (zero (Ty.slc ab))) 0 (List.set (List.replicate 1 (zero ab)) 0 (Prod.fst (Prod.snd n)))) 1 (Prod.fst (Prod.snd (Prod.snd n)))) 2 (Prod.fst (Prod.snd (Prod.snd (Prod.snd n)))))) ≤ bY) (af.req True (af.ret (K.val (Ty.pair (Ty.clo bW (Ty.pair (Ty.ref (Ty.slc ab)) Ty.unit)) Ty.unit) ((List.flatten (List.set (List.set (List.set (List.replicate 3 (zero (Ty.slc ab))) 0 (List.set (List.replicate 1 (zero ab)) 0 (Prod.fst (Prod.snd n)))) 1 (Prod.fst (Prod.snd (Prod.snd n)))) 2 (Prod.fst (Prod.snd (Prod.snd (Prod.snd n))))), PUnit.unit), PUnit.unit))))
theorem AB (n : den ag) : ak w7 EE 5000 [] vf (aF qt) (Env.of (aK u2 (n, ()) 0) []) = wY n := by kernel_rfl
end Go.Proofs.Ytimdnodkabnbfaa
namespace Go.Proofs.Ytimdnodkabnbfaa
open Go Go.RowKit
abbrev GCl (O : Nat → Prop) (w0 : World) (y : Mem × Int) := bI prog gU (Cx.base O w0) (cC prog O w0 mw fun z => z = (y.1, y.2, ()))
theorem my : XOk prog gU := Aj pE lf xZ
def Je (O : Nat → Prop) (w0 : World) (id self : List Int) (l : List Mem) (z : Mem) (hm : l.length ≤ maxLen) :=
 PLift.up <| bG (σ := Mem × Int) l.length (fun i s => s = ((l.take i).filter (jT self id)).foldl (gv self) (zero ab, 6))
  (fun i s => GCl O w0 (cr id self l) (eU l (lnx ab l) (i : Nat) self (some fun y => (jT self id y.1, PUnit.unit)) z s.1 s.2) cn (lp bS 1) (eS l (lnx ab l) (i : Nat) self (some fun y => (jT self id y.1, PUnit.unit)) z s.1 s.2))
  (fun i s hi hs ih => aI my (dU l _ _ self _ z s.1 s.2) (by
   have e : ((l.take (i + 1)).filter (jT self id)).foldl (gv self) (zero ab, 6) = ([l[i]].filter (jT self id)).foldl (gv self) s := by
    rw [List.take_succ_eq_append_getElem hi, List.filter_append, List.foldl_append, ← hs]
   refine ⟨fun _ => ⟨a8 hi, ⟨_, rfl⟩, ?_⟩, fun hc => absurd hi (by rw [cF] at hc; exact of_decide_eq_false hc)⟩
   rw [bX hi, cz hi hm]
   refine ⟨fun hc => ⟨fun _ => trivial, fun _ => trivial, fun _ => trivial, fun h2 => ih (l[i], 0) ?_, fun h2 => ih s ?_⟩, fun hc => ih s ?_⟩
   ·have hc : jT self id l[i] = true := hc
    rw [e, List.filter_cons_of_pos hc]
    show _ = gv self s l[i]
    unfold gv
    have h2 : (bif !decide (s.2 = 0) then true else decide (fQ (aW self s.1.2.1) (aW self l[i].2.1) < 0)) = true := h2
    rw [h2]; rfl
   ·have hc : jT self id l[i] = true := hc
    rw [e, List.filter_cons_of_pos hc]
    show _ = gv self s l[i]
    unfold gv
    have h2 : (bif !decide (s.2 = 0) then true else decide (fQ (aW self s.1.2.1) (aW self l[i].2.1) < 0)) = false := h2
    rw [h2]; rfl
   ·have hc : jT self id l[i] = false := hc
    rw [e, List.filter_cons_of_neg (by rw [hc]; decide)]
    rfl))
  (fun s hs => aI my (dU l _ _ self _ z s.1 s.2) ⟨fun hc => absurd (of_decide_eq_true hc) (Int.lt_irrefl _), fun _ => ⟨_, rfl, by
   rw [List.take_length] at hs
   show (s.1, s.2, ()) = ((cr id self l).1, (cr id self l).2, ())
   rw [hs]; rfl⟩⟩)
theorem Au : ay prog [] jR j2 :=
 bR (S := j2) my (fx := dQ) zy (by kernel_rfl) (fun _ _ => trivial) (T := fun x => se x.1 x.2.1 x.2.2.1) (fun x => xk x.1 x.2.1 x.2.2.1) fun O w0 x hk _ =>
  ⟨fun _ => trivial, (Je O w0 x.1 x.2.1 x.2.2.1 (zero ab) hk.2.2.1.1).down 0 (zero ab, 6) (Nat.zero_le _) rfl⟩
theorem NK (z a b : List Mem) : List.flatten (List.set (List.set (List.replicate 2 z) 0 a) 1 b) = a ++ b := by
 simp [List.replicate]
theorem Me (z a b c : List Mem) : List.flatten (List.set (List.set (List.set (List.replicate 3 z) 0 a) 1 b) 2 c) = a ++ b ++ c := by
 simp [List.replicate]
theorem HP : ay prog [] pu mP :=
  bR (S := mP) (GZ ot wd ia Au) (fx := xU) GF (by kernel_rfl) (fun _ _ => trivial) (T := fun x => zX x.1 x.2.1) (fun x => CK x.1 x.2.1) fun O w0 x _ _ => by
    obtain ⟨n, id, ⟨⟩⟩ := x
    have leaf : ∀ {p : Mem × Bool × Int}, cY n id = p → ∃ z, bo r6 (K.val (Ty.pair ab (Ty.pair Ty.bool (Ty.pair ae Ty.unit))) (p.1, p.2.1, p.2.2, PUnit.unit)) = some z ∧ z = mP.g (n, id, ()) := fun {p} e =>
      ⟨_, rfl, by show (p.1, p.2.1, p.2.2, ()) = ((cY n id).1, (cY n id).2.1, (cY n id).2.2, ()); rw [e]⟩
    refine ⟨trivial, bD ⟨fun h => leaf (p := (_, _, _)) ?_, fun h => ?_⟩⟩
    · unfold cY; rw [h]; rfl
    · have hr : bt n = true := by
        have h : (!bt n) = false := h
        simpa using h
      obtain ⟨l1, l2, l3⟩ := FG hr
      have hfl := NK (zero (Ty.slc ab)) n.2.2.2.1 n.2.2.1
      refine ⟨a8 l2, trivial, bD ⟨fun h2 => leaf (p := (_, _, _)) ?_, fun h2 => ⟨?_, trivial, bD (bD ⟨fun h3 => ⟨a8 l2, leaf (p := (_, _, _)) ?_⟩, fun h3 => leaf (p := (_, _, _)) ?_⟩)⟩⟩⟩
      · unfold cY; rw [h, h2]; rfl
      · rw [hfl, List.length_append]; exact Nat.le_trans (Nat.add_le_add l3 l1) (by decide)
      · rw [hfl] at h3
        unfold cY; rw [h, h2, h3]; rfl
      · rw [hfl] at h3 ⊢
        unfold cY; rw [h, h2, h3]; rfl
abbrev GIq (O : Nat → Prop) (w0 : World) (y : Int) := bI prog fu (Cx.base O w0) (cC prog O w0 gP fun z => z = (y, ()))
def Eo (O : Nat → Prop) (w0 : World) (xs : List Nd) (f : den (.fn (.pair ag .unit) (.pair .bool .unit))) (hf : m5 (.pair ag .unit) (.pair .bool .unit) f) (hm : xs.length ≤ maxLen) (y : Int) (hy : y = ixQ (prQ f) xs 0) :=
 PLift.up <| bG (σ := Unit) xs.length (fun i _ => ixQ (prQ f) (xs.drop i) (i : Nat) = y)
  (fun i _ => GIq O w0 y [] cP (lp cB 2) (kO xs f (lnx ag xs) (i : Nat)))
  (fun i _ hi hs ih => aI hK (ja xs f _ _) (by
   rw [List.drop_eq_getElem_cons hi] at hs
   have hs : (bif prQ f xs[i] then ((i : Nat) : Int) else ixQ (prQ f) (xs.drop (i + 1)) (((i : Nat) : Int) + 1)) = y := hs
   refine ⟨fun _ => ⟨a8 hi, hf, ?_⟩, fun hc => absurd hi (by rw [cF (e := ag)] at hc; exact of_decide_eq_false hc)⟩
   rw [bX (e := ag) hi, cz hi hm]
   refine ⟨fun hc => ⟨_, rfl, ?_⟩, fun hc => ih () ?_⟩
   ·have hc : prQ f xs[i] = true := hc
    rw [hc] at hs
    rw [← hs]
    rfl
   ·have hc : prQ f xs[i] = false := hc
    rw [hc] at hs
    exact hs))
  (fun _ hs => aI hK (ja xs f _ _) (by
   refine ⟨fun hc => absurd (of_decide_eq_true hc) (Int.lt_irrefl _), fun _ => ⟨_, rfl, ?_⟩⟩
   rw [List.drop_length] at hs
   rw [← hs]
   rfl))
theorem mu : ay prog [] cW cX :=
 bR (S := cX) hK (fx := cP) rP (by kernel_rfl) (fun h => by cases h) (T := fun x => ml x.1 x.2.1) (fun x => qm x.1 x.2.1) fun O w0 x hk hp =>
  (Eo O w0 x.1 x.2.1 hp hk.1.1 _ rfl).down 0 () (Nat.zero_le _) rfl
theorem Ir (p : Nd → Bool) : ∀ (l : List Nd) (i : Int), 0 ≤ i → decide (0 ≤ ixQ p l i) = l.any p
 | [], _, _ => rfl
 | x :: l, i, hi => by
  show decide (0 ≤ (bif p x then i else ixQ p l (i + 1))) = (p x || l.any p)
  cases p x with
  | true => exact decide_eq_true hi
  | false => exact Ir p l (i + 1) (by omega)
theorem p7 : ay prog [] d7 d9 :=
 bR (S := d9) (qh mu) (fx := jG) pN (by kernel_rfl) (fun h => by cases h) (T := fun x => j7 x.1 x.2.1) (fun x => oC x.1 x.2.1) fun O w0 x _ hp =>
  ⟨hp, _, rfl, by show (decide (0 ≤ ixQ (prQ x.2.1) x.1 0), ()) = (List.any x.1 (prQ x.2.1), ()); rw [Ir _ _ 0 (Int.le_refl _)]⟩
theorem Bb : ay prog [] k7 kX :=
 bR (S := kX) BD (fx := sy) A6 (by kernel_rfl) (fun _ _ => trivial) (T := fun x => tE x.1 x.2.1) (fun x => xt x.1 x.2.1) fun O w0 x _ _ => ⟨_, rfl, rfl⟩
theorem Cb : ay prog [] kP lc :=
 bR (S := lc) Br (fx := rM) AE (by kernel_rfl) (fun _ _ => trivial) (T := fun x => tc x.1 x.2.1) (fun x => xJ x.1 x.2.1) fun O w0 x _ _ => ⟨_, rfl, rfl⟩
abbrev GMb (O : Nat → Prop) (w0 : World) (y : List Mem) := bI prog lg (Cx.base O w0) (cC prog O w0 np fun z => z = (y, ()))
def Jw (O : Nat → Prop) (w0 : World) (l : List Nd) (hm : l.length ≤ 1000000) :=
 PLift.up <| bG (σ := List Mem) l.length (fun i b => b = (l.take i).map sfN)
  (fun i b => GMb O w0 (ai l) [] fH (lp fb 3) (qG l (lnx ag l) (i : Nat) b))
  (fun i b hi hs ih => aI n1 (nI l _ _ b) (by
   refine ⟨fun _ => ⟨a8 hi, ?_, ?_⟩, fun hc => absurd hi (by rw [cF (e := ag)] at hc; exact of_decide_eq_false hc)⟩
   ·rw [List.length_append, hs, List.length_map, List.length_take]
    exact Nat.le_trans (show min i l.length + 1 ≤ 1000001 by omega) (by decide)
   ·rw [bX (e := ag) hi, cz hi (Nat.le_trans hm (by decide))]
    refine ih _ ?_
    rw [List.take_succ_eq_append_getElem hi, List.map_append, hs]; rfl))
  (fun b hs => aI n1 (nI l _ _ b) ⟨fun hc => absurd (of_decide_eq_true hc) (Int.lt_irrefl _), fun _ => ⟨_, rfl, by
   rw [List.take_length] at hs
   rw [hs]; rfl⟩⟩)
theorem nX : ay prog [] dT dV :=
 bR (S := dV) n1 (fx := fH) A5 (by kernel_rfl) (fun h => by cases h) (T := fun x => tb x.1) (fun x => yX x.1) fun O w0 x _ hp =>
  (Jw O w0 x.1.1 hp).down 0 [] (Nat.zero_le _) rfl
theorem Ja (n : Nd) (l : List Nd) (no : Int) : dP (n :: l) no = bif decide (n.1.1 = no) then (n.1, true) else dP l no := by
 unfold dP
 rw [List.find?_cons]
 cases decide (n.1.1 = no) <;> rfl
abbrev GSf (O : Nat → Prop) (w0 : World) (y : Mem × Bool) := bI prog ou (Cx.base O w0) (cC prog O w0 qu fun z => z = (y.1, y.2, ()))
def MP (O : Nat → Prop) (w0 : World) (l : List Nd) (no : Int) (z : Mem) (hm : l.length ≤ maxLen) :=
 PLift.up <| bG (σ := Unit) l.length (fun i _ => dP (l.drop i) no = dP l no)
  (fun i _ => GSf O w0 (dP l no) [] iw (lp gO 2) (vg no l (lnx ag l) (i : Nat) z))
  (fun i _ hi hs ih => aI si (pK no l _ _ z) (by
   rw [List.drop_eq_getElem_cons hi, Ja] at hs
   refine ⟨fun _ => ⟨a8 hi, ?_⟩, fun hc => absurd hi (by rw [cF (e := ag)] at hc; exact of_decide_eq_false hc)⟩
   rw [bX (e := ag) hi, cz hi hm]
   refine ⟨fun hc => ⟨_, rfl, ?_⟩, fun hc => ih () ?_⟩
   ·have hc : decide (l[i].1.1 = no) = true := hc
    rw [hc] at hs
    show (_, _, _) = ((dP l no).1, (dP l no).2, ())
    rw [← hs]; rfl
   ·have hc : decide (l[i].1.1 = no) = false := hc
    rw [hc] at hs
    exact hs))
  (fun _ hs => aI si (pK no l _ _ z) ⟨fun hc => absurd (of_decide_eq_true hc) (Int.lt_irrefl _), fun _ => ⟨_, rfl, by
   rw [List.drop_length] at hs
   show (_, _, _) = ((dP l no).1, (dP l no).2, ())
   rw [← hs]; rfl⟩⟩)
theorem GD : ay prog [] nV oa :=
 bR (S := oa) si (fx := iw) EB (by kernel_rfl) (fun _ _ => trivial) (T := fun x => yK x.1 x.2.1) (fun x => B7 x.1 x.2.1) fun O w0 x hk _ =>
  (MP O w0 x.1.1 x.2.1 _ hk.1.1.1).down 0 () (Nat.zero_le _) rfl
theorem Ey : ay prog [] mX m3 :=
 bR (S := m3) (Ec ia mO) (fx := vf) CX (by kernel_rfl) (fun h => by cases h) (T := fun x => wY x.1) (fun x => AB x.1) fun O w0 x _ hp => by
  obtain ⟨n, ⟨⟩⟩ := x
  have hp : (cy n).length ≤ 1000000 := hp
  have hf : List.flatten (List.set (List.set (List.set (List.replicate 3 (zero (Ty.slc ab))) 0 (List.set (List.replicate 1 (zero ab)) 0 n.2.1)) 1 n.2.2.1) 2 n.2.2.2.1) = cy n := Me _ _ _ _
  refine ⟨by rw [hf]; exact Nat.le_trans hp (by decide), trivial, _, rfl, ?_⟩
  rw [hf]
end Go.Proofs.Ytimdnodkabnbfaa
namespace Go.Proofs.Ytimdnodkabnbfaa
open Go Go.RowKit
noncomputable abbrev cR : Fx := { fn := aX, ann := { loops := [(1, { keep := [0, 5, 6, 7] })], frz := [(1000001, [1, 2, 3, 12, 13, 14])], gy := true }, share := true }
noncomputable abbrev dq : Fx := { fn := bw, ann := { loops := [(3, { keep := [1, 2, 3, 12, 13, 14, 42] })] }, share := true }
noncomputable abbrev ij : bg := { D := { T := br, F := [(dT, dV), (d6, dY), (mX, m3), (nV, oa), (fV, fW)], R := [], ovl := [] }, inl := [(bW, cR)] }
noncomputable abbrev qk : bF := .data oY
theorem Eh (h_chord_Members : ay prog [] dT dV) (h_node_Right : ay prog [] d6 dY) (h_chord_known : ay prog [] mX m3) (h_chord_self : ay prog [] nV oa) (h_ring_Right : ay prog [] fV fW) : XOk prog ij := xok (ax (ax (ax (ax (ax (aU aY aM) h_ring_Right) h_chord_self) h_chord_known) h_node_Right) h_chord_Members) (by kernel_rfl) aS (jg kN (by kernel_rfl) a6) aZ
noncomputable def wF (o : den ah) : af := af.req (List.length (Prod.fst o) ≤ 1000000) (af.all (den (Ty.slc ab)) (fun (q1 : den (Ty.slc ab)) ↦ q1 = ai (Prod.fst o)) fun (q1 : den (Ty.slc ab)) ↦ af.loop [] dq (lp bw 3) [(1, K.ptr 0 ah []), (2, K.ptr (0 + 1) Ty.bool []), (3, K.val (Ty.slc ab) q1), (12, K.val (Ty.slc ag) (Prod.fst o)), (13, K.val ae (lnx ag (Prod.fst o))), (14, K.val ae 0)] [(0, Bx.cell ah o), (0 + 1, Bx.cell Ty.bool (zero Ty.bool))])
theorem As (o : den ah) : ak ij qk 5000 [] dq (aF bw) (Env.of (aK uz (o, ()) 0) []) = wF o := by kernel_rfl
noncomputable def og (v3 : den (Ty.slc ab)) (v12 : den (Ty.slc ag)) (v13 : den ae) (v14 : den ae) (b0 : den ah) (b1 : den Ty.bool) : Env := Env.of [(1, K.ptr 0 ah []), (2, K.ptr (0 + 1) Ty.bool []), (3, K.val (Ty.slc ab) v3), (12, K.val (Ty.slc ag) v12), (13, K.val ae v13), (14, K.val ae v14)] [(0, Bx.cell ah b0), (1, Bx.cell Ty.bool b1)]
noncomputable def Ak (v3 : den (Ty.slc ab)) (v12 : den (Ty.slc ag)) (v13 : den ae) (v14 : den ae) (b0 : den ah) (b1 : den Ty.bool) : af := af.ite (decide (v14 < v13)) (af.req (inB v14 (lnx ag v12)) (af.req True (af.req (dy [(!bt (el ag v12 v14), false), (decide (0 < v14), true)] (inB (IntKind.wrap IntKind.i64 (v14 - 1)) (lnx ag (Prod.fst b0)))) (af.all (den Ty.bool) (fun (q6 : den Ty.bool) ↦ q6 = bt (el ag v12 v14)) fun (q6 : den Ty.bool) ↦ af.ite (bif !bt (el ag v12 v14) then true else bif decide (0 < v14) then decide (Prod.fst (Prod.fst (el ag v12 v14)) ≤ Prod.fst (Prod.fst (el ag (Prod.fst b0) (IntKind.wrap IntKind.i64 (v14 - 1))))) else false) (af.ret (K.val (Ty.pair Ty.bool Ty.unit) (false, PUnit.unit))) (af.req (List.length (cy (el ag v12 v14)) ≤ 1000000) (af.loop [{ fx := dq, todo := cx bw 9, dst := none, s := ofS [(1, K.ptr (0 + 1) ah []), (2, K.ptr (0 + 1 + 1) Ty.bool []), (3, K.val (Ty.slc ab) v3), (12, K.val (Ty.slc ag) v12), (13, K.val ae v13), (14, K.val ae v14)], rng := some 0 }] cR (lp aX 1) [(0, K.yld 0), (5, K.val (Ty.slc ab) (cy (el ag v12 v14))), (6, K.val ae (lnx ab (cy (el ag v12 v14)))), (7, K.val ae 0)] [(0, Bx.lop LoopState.ready none [(1, K.ptr (0 + 1) ah []), (2, K.ptr (0 + 1 + 1) Ty.bool [])] 59 (kI bw 9) (du bw 9) (fC bw 9)), (0 + 1, Bx.cell ah b0), (0 + 1 + 1, Bx.cell Ty.bool b1)])))))) (af.req True (af.all (den Ty.bool) (fun (q6 : den Ty.bool) ↦ q6 = bp v3) fun (q6 : den Ty.bool) ↦ af.ret (K.val (Ty.pair Ty.bool Ty.unit) (q6, PUnit.unit))))
theorem oD (v3 : den (Ty.slc ab)) (v12 : den (Ty.slc ag)) (v13 : den ae) (v14 : den ae) (b0 : den ah) (b1 : den Ty.bool) : ak ij qk 5000 [] dq (lp bw 3) (og v3 v12 v13 v14 b0 b1) = Ak v3 v12 v13 v14 b0 b1 := by kernel_rfl
noncomputable def fF (w0_3 : den (Ty.slc ab)) (w0_12 : den (Ty.slc ag)) (w0_13 : den ae) (w0_14 : den ae) (v5 : den (Ty.slc ab)) (v6 : den ae) (v7 : den ae) (b1 : den ah) (b2 : den Ty.bool) : List cg := [{ fx := dq, todo := cx bw 9, dst := none, s := ofS [(1, K.ptr (0 + 1) ah []), (2, K.ptr (0 + 1 + 1) Ty.bool []), (3, K.val (Ty.slc ab) w0_3), (12, K.val (Ty.slc ag) w0_12), (13, K.val ae w0_13), (14, K.val ae w0_14)], rng := some 0 }]
noncomputable def fD (w0_3 : den (Ty.slc ab)) (w0_12 : den (Ty.slc ag)) (w0_13 : den ae) (w0_14 : den ae) (v5 : den (Ty.slc ab)) (v6 : den ae) (v7 : den ae) (b1 : den ah) (b2 : den Ty.bool) : Env := Env.of [(0, K.yld 0), (5, K.val (Ty.slc ab) v5), (6, K.val ae v6), (7, K.val ae v7)] [(0, Bx.lop LoopState.ready none [(1, K.ptr (0 + 1) ah []), (2, K.ptr (0 + 1 + 1) Ty.bool [])] 59 (kI bw 9) (du bw 9) (fC bw 9)), (1, Bx.cell ah b1), (2, Bx.cell Ty.bool b2)]
noncomputable def kb (w0_3 : den (Ty.slc ab)) (w0_12 : den (Ty.slc ag)) (w0_13 : den ae) (w0_14 : den ae) (v5 : den (Ty.slc ab)) (v6 : den ae) (v7 : den ae) (b1 : den ah) (b2 : den Ty.bool) : af := af.ite (decide (v7 < v6)) (af.req (inB v7 (lnx ab v5)) (af.req True (af.all (den (Ty.pair ab (Ty.pair Ty.bool Ty.unit))) (fun (q9 : den (Ty.pair ab (Ty.pair Ty.bool Ty.unit))) ↦ q9 = (Prod.fst (dP (Prod.fst b1) (Prod.fst (el ab v5 v7))), Prod.snd (dP (Prod.fst b1) (Prod.fst (el ab v5 v7))), PUnit.unit)) fun (q9 : den (Ty.pair ab (Ty.pair Ty.bool Ty.unit))) ↦ af.ite (bif Prod.fst (Prod.snd q9) then !eqb ab (Prod.fst q9) (el ab v5 v7) else false) (af.ret (K.val (Ty.pair Ty.bool Ty.unit) (false, PUnit.unit))) (af.loop [{ fx := dq, todo := cx bw 9, dst := none, s := ofS [(1, K.ptr (0 + 1) ah []), (2, K.ptr (0 + 1 + 1) Ty.bool []), (3, K.val (Ty.slc ab) w0_3), (12, K.val (Ty.slc ag) w0_12), (13, K.val ae w0_13), (14, K.val ae w0_14)], rng := some 0 }] cR (lp aX 1) [(0, K.yld 0), (5, K.val (Ty.slc ab) v5), (6, K.val ae v6), (7, K.val ae (IntKind.wrap IntKind.i64 (v7 + 1)))] [(0, Bx.lop LoopState.ready none [(1, K.ptr (0 + 1) ah []), (2, K.ptr (0 + 1 + 1) Ty.bool [])] 59 (kI bw 9) (du bw 9) (fC bw 9)), (0 + 1, Bx.cell ah b1), (0 + 1 + 1, Bx.cell Ty.bool b2)])))) (af.loop [] dq (lp bw 3) [(1, K.ptr 0 ah []), (2, K.ptr (0 + 1) Ty.bool []), (3, K.val (Ty.slc ab) w0_3), (12, K.val (Ty.slc ag) w0_12), (13, K.val ae w0_13), (14, K.val ae (IntKind.wrap IntKind.i64 (w0_14 + 1)))] [(0, Bx.cell ah b1), (0 + 1, Bx.cell Ty.bool b2)])
theorem eH (w0_3 : den (Ty.slc ab)) (w0_12 : den (Ty.slc ag)) (w0_13 : den ae) (w0_14 : den ae) (v5 : den (Ty.slc ab)) (v6 : den ae) (v7 : den ae) (b1 : den ah) (b2 : den Ty.bool) : ak ij qk 5000 (fF w0_3 w0_12 w0_13 w0_14 v5 v6 v7 b1 b2) cR (lp aX 1) (fD w0_3 w0_12 w0_13 w0_14 v5 v6 v7 b1 b2) = kb w0_3 w0_12 w0_13 w0_14 v5 v6 v7 b1 b2 := by kernel_rfl
noncomputable abbrev fK : Fx := { fn := fl, ann := { loops := [(7, { keep := [3, 5, 6, 9, 10, 36, 37, 38], own := [(10, ae)] })], frz := [(1, [4]), (9, [12]), (12, [10])] }, share := true }
noncomputable abbrev kg : bg := { D := { T := br, F := [(cW, cX), (k7, kX), (kP, lc), (d7, d9), (bQ, cD), (pl, pF), (pt, pn), (pu, mP)], R := [], ovl := [] }, inl := [] }
noncomputable abbrev wX : bF := .data l6
theorem Ep (h_slices_IndexFunc_Node : ay prog [] cW cX) (h_lookup_asks_1 : ay prog [] k7 kX) (h_lookup_asks_2 : ay prog [] kP lc) (h_slices_ContainsFunc_Node : ay prog [] d7 d9) (h_slices_Concat_Member : ay prog [] bQ (cD)) (h_node_Drop : ay prog [] pl pF) (h_node_Owns : ay prog [] pt pn) (h_node_Next : ay prog [] pu mP) : XOk prog kg := xok (ax (ax (ax (ax (ax (ax (ax (ax (aU aY aM) h_node_Next) h_node_Owns) h_node_Drop) h_slices_Concat_Member) h_slices_ContainsFunc_Node) h_lookup_asks_2) h_lookup_asks_1) h_slices_IndexFunc_Node) (by kernel_rfl) aS a6 aZ
noncomputable def wV (o : den ah) (no : den ae) (id : den tId) : af := af.req (∀ (y : den (Ty.pair ag Ty.unit)), True) (af.req (∃ (h : den (Ty.pair ag Ty.unit) → den (Ty.pair Ty.bool Ty.unit)), (some fun (y : den (Ty.pair ag Ty.unit)) ↦ (decide (Prod.fst (Prod.fst (Prod.fst y)) = no), PUnit.unit)) = some h) (af.all (den ae) (fun (q3 : den ae) ↦ q3 = ixQ (prQ (some fun (y : den (Ty.pair ag Ty.unit)) ↦ (decide (Prod.fst (Prod.fst (Prod.fst y)) = no), PUnit.unit))) (Prod.fst o) 0) fun (q3 : den ae) ↦ af.ite (decide (q3 < 0)) (af.ret (K.val (Ty.pair aw (Ty.pair Ty.bool Ty.unit)) (zero (Ty.pair ab (Ty.pair Ty.bool Ty.unit)), false, PUnit.unit))) (af.req (inB q3 (lnx ag (Prod.fst o))) (af.req (List.length (List.flatten (List.set (List.set (List.set (List.replicate 3 (zero (Ty.slc ab))) 0 (List.set (List.replicate 1 (zero ab)) 0 (Prod.fst (Prod.snd (el ag (Prod.fst o) q3))))) 1 (Prod.fst (Prod.snd (Prod.snd (el ag (Prod.fst o) q3))))) 2 (Prod.fst (Prod.snd (Prod.snd (Prod.snd (el ag (Prod.fst o) q3))))))) ≤ bY) (af.all (den (Ty.slc ab)) (fun (q4 : den (Ty.slc ab)) ↦ q4 = List.flatten (List.set (List.set (List.set (List.replicate 3 (zero (Ty.slc ab))) 0 (List.set (List.replicate 1 (zero ab)) 0 (Prod.fst (Prod.snd (el ag (Prod.fst o) q3))))) 1 (Prod.fst (Prod.snd (Prod.snd (el ag (Prod.fst o) q3))))) 2 (Prod.fst (Prod.snd (Prod.snd (Prod.snd (el ag (Prod.fst o) q3))))))) fun (q4 : den (Ty.slc ab)) ↦ af.loop [] fK (lp fl 7) [(3, K.ptr 0 ah []), (5, K.ptr (0 + 1) tId []), (6, K.ptr (0 + 1 + 1) aw []), (9, K.ptr (0 + 1 + 1 + 1) ag []), (10, K.sl (0 + 1 + 1 + 1 + 1) ae), (36, K.val (Ty.slc ab) q4), (37, K.val ae (lnx ab q4)), (38, K.val ae 0)] [(0, Bx.cell ah o), (0 + 1, Bx.cell tId id), (0 + 1 + 1, Bx.cell aw (zero aw)), (0 + 1 + 1 + 1, Bx.cell ag (el ag (Prod.fst o) q3)), (0 + 1 + 1 + 1 + 1, Bx.row ae [])])))))
theorem AZ (o : den ah) (no : den ae) (id : den tId) : ak kg wX 5000 [] fK (aF fl) (Env.of (aK vp (o, no, id, ()) 0) []) = wV o no id := by kernel_rfl
noncomputable def s5 (v36 : den (Ty.slc ab)) (v37 : den ae) (v38 : den ae) (b0 : den ah) (b1 : den tId) (b2 : den aw) (b3 : den ag) (b4 : List (den ae)) : Env := Env.of [(3, K.ptr 0 ah []), (5, K.ptr (0 + 1) tId []), (6, K.ptr (0 + 1 + 1) aw []), (9, K.ptr (0 + 1 + 1 + 1) ag []), (10, K.sl (0 + 1 + 1 + 1 + 1) ae), (36, K.val (Ty.slc ab) v36), (37, K.val ae v37), (38, K.val ae v38)] [(0, Bx.cell ah b0), (1, Bx.cell tId b1), (2, Bx.cell aw b2), (3, Bx.cell ag b3), (4, Bx.row ae b4)]
noncomputable def An (v36 : den (Ty.slc ab)) (v37 : den ae) (v38 : den ae) (b0 : den ah) (b1 : den tId) (b2 : den aw) (b3 : den ag) (b4 : List (den ae)) : af := af.ite (decide (v38 < v37)) (af.req (inB v38 (lnx ab v36)) (af.req (∀ (y : den (Ty.pair ag Ty.unit)), True) (af.req (∃ (h : den (Ty.pair ag Ty.unit) → den (Ty.pair Ty.bool Ty.unit)), (some fun (y : den (Ty.pair ag Ty.unit)) ↦ (decide (Prod.fst (Prod.fst (Prod.fst y)) = Prod.fst (el ab v36 v38)), PUnit.unit)) = some h) (af.all (den Ty.bool) (fun (q8 : den Ty.bool) ↦ q8 = List.any (Prod.fst b0) (prQ (some fun (y : den (Ty.pair ag Ty.unit)) ↦ (decide (Prod.fst (Prod.fst (Prod.fst y)) = Prod.fst (el ab v36 v38)), PUnit.unit)))) fun (q8 : den Ty.bool) ↦ af.ite (!q8) (af.req (List.length (b4 ++ List.set (List.replicate 1 (zero ae)) 0 (Prod.fst (el ab v36 v38))) ≤ bY) (af.loop [] fK (lp fl 7) [(3, K.ptr 0 ah []), (5, K.ptr (0 + 1) tId []), (6, K.ptr (0 + 1 + 1) aw []), (9, K.ptr (0 + 1 + 1 + 1) ag []), (10, K.sl (0 + 1 + 1 + 1 + 1) ae), (36, K.val (Ty.slc ab) v36), (37, K.val ae v37), (38, K.val ae (IntKind.wrap IntKind.i64 (v38 + 1)))] [(0, Bx.cell ah b0), (0 + 1, Bx.cell tId b1), (0 + 1 + 1, Bx.cell aw b2), (0 + 1 + 1 + 1, Bx.cell ag b3), (0 + 1 + 1 + 1 + 1, Bx.row ae (b4 ++ List.set (List.replicate 1 (zero ae)) 0 (Prod.fst (el ab v36 v38))))])) (af.loop [] fK (lp fl 7) [(3, K.ptr 0 ah []), (5, K.ptr (0 + 1) tId []), (6, K.ptr (0 + 1 + 1) aw []), (9, K.ptr (0 + 1 + 1 + 1) ag []), (10, K.sl (0 + 1 + 1 + 1 + 1) ae), (36, K.val (Ty.slc ab) v36), (37, K.val ae v37), (38, K.val ae (IntKind.wrap IntKind.i64 (v38 + 1)))] [(0, Bx.cell ah b0), (0 + 1, Bx.cell tId b1), (0 + 1 + 1, Bx.cell aw b2), (0 + 1 + 1 + 1, Bx.cell ag b3), (0 + 1 + 1 + 1 + 1, Bx.row ae b4)]))))) (af.req True (af.all (den (Ty.pair ag (Ty.pair ae Ty.unit))) (fun (q8 : den (Ty.pair ag (Ty.pair ae Ty.unit))) ↦ q8 = (Prod.fst (gH b3 b4), Prod.snd (gH b3 b4), PUnit.unit)) fun (q8 : den (Ty.pair ag (Ty.pair ae Ty.unit))) ↦ af.req True (af.all (den Ty.bool) (fun (q9 : den Ty.bool) ↦ q9 = mf (Prod.fst q8) b1) fun (q9 : den Ty.bool) ↦ af.ite q9 (af.ret (K.val (Ty.pair aw (Ty.pair Ty.bool Ty.unit)) ((Prod.fst (Prod.fst q8), true, zero Ty.unit), true, PUnit.unit))) (af.req True (af.all (den (Ty.pair ab (Ty.pair Ty.bool (Ty.pair ae Ty.unit)))) (fun (q10 : den (Ty.pair ab (Ty.pair Ty.bool (Ty.pair ae Ty.unit)))) ↦ q10 = (Prod.fst (cY (Prod.fst q8) b1), Prod.fst (Prod.snd (cY (Prod.fst q8) b1)), Prod.snd (Prod.snd (cY (Prod.fst q8) b1)), PUnit.unit)) fun (q10 : den (Ty.pair ab (Ty.pair Ty.bool (Ty.pair ae Ty.unit)))) ↦ af.ret (K.val (Ty.pair aw (Ty.pair Ty.bool Ty.unit)) ((Prod.fst q10, Prod.fst (Prod.snd q10), zero Ty.unit), true, PUnit.unit)))))))
theorem oH (v36 : den (Ty.slc ab)) (v37 : den ae) (v38 : den ae) (b0 : den ah) (b1 : den tId) (b2 : den aw) (b3 : den ag) (b4 : List (den ae)) : ak kg wX 5000 [] fK (lp fl 7) (s5 v36 v37 v38 b0 b1 b2 b3 b4) = An v36 v37 v38 b0 b1 b2 b3 b4 := by kernel_rfl
noncomputable abbrev BP : Fx := { fn := vC, ann := { }, share := true }
noncomputable abbrev dt : Fx := { fn := c6, ann := { loops := [(1, { keep := [0, 2, 3, 5] })], frz := [(1000001, [4, 6, 7, 8, 9, 10, 11])], gy := true }, share := true }
noncomputable abbrev fJ : Fx := { fn := be, ann := { }, own := [8, 11], share := true }
noncomputable abbrev iq : bg := { D := { T := br, F := [(ie, ir), (mV, na)], R := [], ovl := [] }, inl := [(uE, BP), (sH, dt)] }
noncomputable abbrev qq : bF := .data eF
theorem En (h_chord_Right : ay prog [] ie ir) (h_lookup_asks : ay prog [] mV na) : XOk prog iq := xok (ax (ax (aU aY aM) h_lookup_asks) h_chord_Right) (by kernel_rfl) aS (jg BU (by kernel_rfl) (jg zw (by kernel_rfl) a6)) aZ
noncomputable def wP (o : den ah) (no : den ae) (id : den tId) (hops : den ae) : af := af.req (List.length (Prod.fst o) ≤ 1000000) (af.all (den Ty.bool) (fun (q4 : den Ty.bool) ↦ q4 = bE (Prod.fst o)) fun (q4 : den Ty.bool) ↦ af.ite (bif bif !q4 then true else decide (hops < 0) then true else decide (16 < hops)) (af.ret (K.val (Ty.pair (Ty.slc ae) (Ty.pair ab (Ty.pair ae Ty.unit))) ([], zero (Ty.pair ae (Ty.pair tId Ty.unit)), 1, PUnit.unit))) (af.loop [{ fx := fJ, todo := cx be 7, dst := none, s := ofS [(4, K.ptr (0 + 1 + 1 + 1) ah []), (6, K.ptr (0 + 1 + 1 + 1 + 1) tId []), (7, K.ptr (0 + 1 + 1 + 1 + 1 + 1) ae []), (8, K.ptr (0 + 1 + 1 + 1 + 1 + 1 + 1) (Ty.slc ae) []), (9, K.ptr (0 + 1 + 1 + 1 + 1 + 1 + 1 + 1) ab []), (10, K.ptr (0 + 1 + 1 + 1 + 1 + 1 + 1 + 1 + 1) ae []), (11, K.ptr (0 + 1 + 1 + 1 + 1 + 1 + 1 + 1 + 1 + 1) (Ty.slc ae) [])], rng := some 0 }] dt (lp c6 1) [(0, K.yld 0), (2, K.ptr (0 + 1) ah []), (3, K.ptr (0 + 1 + 1) tId []), (5, K.val ae no)] [(0, Bx.lop LoopState.ready none [(7, K.ptr (0 + 1 + 1 + 1 + 1 + 1) ae []), (11, K.ptr (0 + 1 + 1 + 1 + 1 + 1 + 1 + 1 + 1 + 1) (Ty.slc ae) []), (8, K.ptr (0 + 1 + 1 + 1 + 1 + 1 + 1) (Ty.slc ae) []), (9, K.ptr (0 + 1 + 1 + 1 + 1 + 1 + 1 + 1) ab []), (10, K.ptr (0 + 1 + 1 + 1 + 1 + 1 + 1 + 1 + 1) ae [])] 73 (kI be 7) (du be 7) (fC be 7)), (0 + 1, Bx.cell ah o), (0 + 1 + 1, Bx.cell tId id), (0 + 1 + 1 + 1, Bx.cell ah o), (0 + 1 + 1 + 1 + 1, Bx.cell tId id), (0 + 1 + 1 + 1 + 1 + 1, Bx.cell ae hops), (0 + 1 + 1 + 1 + 1 + 1 + 1, Bx.obj (Ty.slc ae) K.nilsl), (0 + 1 + 1 + 1 + 1 + 1 + 1 + 1, Bx.cell ab (zero ab)), (0 + 1 + 1 + 1 + 1 + 1 + 1 + 1 + 1, Bx.cell ae (zero ae)), (0 + 1 + 1 + 1 + 1 + 1 + 1 + 1 + 1 + 1, Bx.obj (Ty.slc ae) K.nilsl)]))
theorem Am (o : den ah) (no : den ae) (id : den tId) (hops : den ae) : ak iq qq 5000 [] fJ (aF be) (Env.of (aK uM (o, no, id, hops, ()) 0) []) = wP o no id hops := by kernel_rfl
noncomputable def iQ (v5 : den ae) (b1 : den ah) (b2 : den tId) (b3 : den ah) (b4 : den tId) (b5 : den ae) (b7 : den ab) (b8 : den ae) : List cg := [{ fx := fJ, todo := cx be 7, dst := none, s := ofS [(4, K.ptr (0 + 1 + 1 + 1) ah []), (6, K.ptr (0 + 1 + 1 + 1 + 1) tId []), (7, K.ptr (0 + 1 + 1 + 1 + 1 + 1) ae []), (8, K.ptr (0 + 1 + 1 + 1 + 1 + 1 + 1) (Ty.slc ae) []), (9, K.ptr (0 + 1 + 1 + 1 + 1 + 1 + 1 + 1) ab []), (10, K.ptr (0 + 1 + 1 + 1 + 1 + 1 + 1 + 1 + 1) ae []), (11, K.ptr (0 + 1 + 1 + 1 + 1 + 1 + 1 + 1 + 1 + 1) (Ty.slc ae) [])], rng := some 0 }]
noncomputable def iP (v5 : den ae) (b1 : den ah) (b2 : den tId) (b3 : den ah) (b4 : den tId) (b5 : den ae) (b7 : den ab) (b8 : den ae) : Env := Env.of [(0, K.yld 0), (2, K.ptr (0 + 1) ah []), (3, K.ptr (0 + 1 + 1) tId []), (5, K.val ae v5)] [(0, Bx.lop LoopState.ready none [(7, K.ptr (0 + 1 + 1 + 1 + 1 + 1) ae []), (11, K.ptr (0 + 1 + 1 + 1 + 1 + 1 + 1 + 1 + 1 + 1) (Ty.slc ae) []), (8, K.ptr (0 + 1 + 1 + 1 + 1 + 1 + 1) (Ty.slc ae) []), (9, K.ptr (0 + 1 + 1 + 1 + 1 + 1 + 1 + 1) ab []), (10, K.ptr (0 + 1 + 1 + 1 + 1 + 1 + 1 + 1 + 1) ae [])] 73 (kI be 7) (du be 7) (fC be 7)), (1, Bx.cell ah b1), (2, Bx.cell tId b2), (3, Bx.cell ah b3), (4, Bx.cell tId b4), (5, Bx.cell ae b5), (6, Bx.obj (Ty.slc ae) K.nilsl), (7, Bx.cell ab b7), (8, Bx.cell ae b8), (9, Bx.obj (Ty.slc ae) K.nilsl)]
noncomputable def nL (v5 : den ae) (b1 : den ah) (b2 : den tId) (b3 : den ah) (b4 : den tId) (b5 : den ae) (b7 : den ab) (b8 : den ae) : af := af.req (bE (Prod.fst b1) = true) (af.all (den (Ty.pair aw (Ty.pair Ty.bool Ty.unit))) (fun (q8 : den (Ty.pair aw (Ty.pair Ty.bool Ty.unit))) ↦ q8 = (Prod.fst (aG (Prod.fst b1) v5 b2), Prod.snd (aG (Prod.fst b1) v5 b2), PUnit.unit)) fun (q8 : den (Ty.pair aw (Ty.pair Ty.bool Ty.unit))) ↦ af.ite (!Prod.fst (Prod.snd q8)) (af.ret (K.val (Ty.pair (Ty.slc ae) (Ty.pair ab (Ty.pair ae Ty.unit))) ([], zero (Ty.pair ae (Ty.pair tId Ty.unit)), 10, PUnit.unit))) (af.ite (decide (b5 < 0)) (af.ret (K.val (Ty.pair (Ty.slc ae) (Ty.pair ab (Ty.pair ae Ty.unit))) ([], zero (Ty.pair ae (Ty.pair tId Ty.unit)), 9, PUnit.unit))) (af.req (List.length (List.set (List.replicate 1 (zero ae)) 0 v5) ≤ bY) (af.ite (bif Prod.fst (Prod.snd (Prod.fst q8)) then decide (Prod.fst (Prod.fst (Prod.fst q8)) = v5) else false) (af.ret (K.val (Ty.pair (Ty.slc ae) (Ty.pair ab (Ty.pair ae Ty.unit))) (List.set (List.replicate 1 (zero ae)) 0 v5, Prod.fst (Prod.fst q8), 0, PUnit.unit))) (af.ite (Prod.fst (Prod.snd (Prod.fst q8))) (af.req (List.length (List.set (List.replicate 1 (zero ae)) 0 v5 ++ List.set (List.replicate 1 (zero ae)) 0 (Prod.fst (Prod.fst (Prod.fst q8)))) ≤ bY) (af.ret (K.val (Ty.pair (Ty.slc ae) (Ty.pair ab (Ty.pair ae Ty.unit))) (List.set (List.replicate 1 (zero ae)) 0 v5 ++ List.set (List.replicate 1 (zero ae)) 0 (Prod.fst (Prod.fst (Prod.fst q8))), Prod.fst (Prod.fst q8), 0, PUnit.unit)))) (af.ite (decide (Prod.fst (Prod.fst (Prod.fst q8)) = v5)) (af.ret (K.val (Ty.pair (Ty.slc ae) (Ty.pair ab (Ty.pair ae Ty.unit))) ([], zero (Ty.pair ae (Ty.pair tId Ty.unit)), 13, PUnit.unit))) (af.ite (bif Prod.fst (Prod.snd (Prod.fst q8)) then true else eqb aw (Prod.fst q8) ((v5, Prod.fst (Prod.snd (Prod.fst (Prod.fst q8))), zero Ty.unit), zero (Ty.pair Ty.bool Ty.unit))) (af.ret (K.val (Ty.pair (Ty.slc ae) (Ty.pair ab (Ty.pair ae Ty.unit))) ([], zero (Ty.pair ae (Ty.pair tId Ty.unit)), 10, PUnit.unit))) (af.loop [{ fx := fJ, todo := cx be 7, dst := none, s := ofS [(4, K.ptr (0 + 1 + 1 + 1) ah []), (6, K.ptr (0 + 1 + 1 + 1 + 1) tId []), (7, K.ptr (0 + 1 + 1 + 1 + 1 + 1) ae []), (8, K.ptr (0 + 1 + 1 + 1 + 1 + 1 + 1) (Ty.slc ae) []), (9, K.ptr (0 + 1 + 1 + 1 + 1 + 1 + 1 + 1) ab []), (10, K.ptr (0 + 1 + 1 + 1 + 1 + 1 + 1 + 1 + 1) ae []), (11, K.ptr (0 + 1 + 1 + 1 + 1 + 1 + 1 + 1 + 1 + 1) (Ty.slc ae) [])], rng := some 0 }] dt (lp c6 1) [(0, K.yld 0), (2, K.ptr (0 + 1) ah []), (3, K.ptr (0 + 1 + 1) tId []), (5, K.val ae (Prod.fst (Prod.fst (Prod.fst q8))))] [(0, Bx.lop LoopState.ready none [(7, K.ptr (0 + 1 + 1 + 1 + 1 + 1) ae []), (11, K.ptr (0 + 1 + 1 + 1 + 1 + 1 + 1 + 1 + 1 + 1) (Ty.slc ae) []), (8, K.ptr (0 + 1 + 1 + 1 + 1 + 1 + 1) (Ty.slc ae) []), (9, K.ptr (0 + 1 + 1 + 1 + 1 + 1 + 1 + 1) ab []), (10, K.ptr (0 + 1 + 1 + 1 + 1 + 1 + 1 + 1 + 1) ae [])] 73 (kI be 7) (du be 7) (fC be 7)), (0 + 1, Bx.cell ah b1), (0 + 1 + 1, Bx.cell tId b2), (0 + 1 + 1 + 1, Bx.cell ah b3), (0 + 1 + 1 + 1 + 1, Bx.cell tId b4), (0 + 1 + 1 + 1 + 1 + 1, Bx.cell ae b5), (0 + 1 + 1 + 1 + 1 + 1 + 1, Bx.obj (Ty.slc ae) K.nilsl), (0 + 1 + 1 + 1 + 1 + 1 + 1 + 1, Bx.cell ab b7), (0 + 1 + 1 + 1 + 1 + 1 + 1 + 1 + 1, Bx.cell ae b8), (0 + 1 + 1 + 1 + 1 + 1 + 1 + 1 + 1 + 1, Bx.obj (Ty.slc ae) (K.sl (0 + 1 + 1 + 1 + 1 + 1 + 1 + 1 + 1 + 1 + 1) ae)), (0 + 1 + 1 + 1 + 1 + 1 + 1 + 1 + 1 + 1 + 1, Bx.row ae (List.set (List.replicate 1 (zero ae)) 0 v5))]))))))))
theorem mz (v5 : den ae) (b1 : den ah) (b2 : den tId) (b3 : den ah) (b4 : den tId) (b5 : den ae) (b7 : den ab) (b8 : den ae) : ak iq qq 5000 (iQ v5 b1 b2 b3 b4 b5 b7 b8) dt (lp c6 1) (iP v5 b1 b2 b3 b4 b5 b7 b8) = nL v5 b1 b2 b3 b4 b5 b7 b8 := by kernel_rfl
noncomputable def gN (v5 : den ae) (b1 : den ah) (b2 : den tId) (b3 : den ah) (b4 : den tId) (b5 : den ae) (b7 : den ab) (b8 : den ae) (b10 : List (den ae)) : List cg := [{ fx := fJ, todo := cx be 7, dst := none, s := ofS [(4, K.ptr (0 + 1 + 1 + 1) ah []), (6, K.ptr (0 + 1 + 1 + 1 + 1) tId []), (7, K.ptr (0 + 1 + 1 + 1 + 1 + 1) ae []), (8, K.ptr (0 + 1 + 1 + 1 + 1 + 1 + 1) (Ty.slc ae) []), (9, K.ptr (0 + 1 + 1 + 1 + 1 + 1 + 1 + 1) ab []), (10, K.ptr (0 + 1 + 1 + 1 + 1 + 1 + 1 + 1 + 1) ae []), (11, K.ptr (0 + 1 + 1 + 1 + 1 + 1 + 1 + 1 + 1 + 1) (Ty.slc ae) [])], rng := some 0 }]
noncomputable def gQ (v5 : den ae) (b1 : den ah) (b2 : den tId) (b3 : den ah) (b4 : den tId) (b5 : den ae) (b7 : den ab) (b8 : den ae) (b10 : List (den ae)) : Env := Env.of [(0, K.yld 0), (2, K.ptr (0 + 1) ah []), (3, K.ptr (0 + 1 + 1) tId []), (5, K.val ae v5)] [(0, Bx.lop LoopState.ready none [(7, K.ptr (0 + 1 + 1 + 1 + 1 + 1) ae []), (11, K.ptr (0 + 1 + 1 + 1 + 1 + 1 + 1 + 1 + 1 + 1) (Ty.slc ae) []), (8, K.ptr (0 + 1 + 1 + 1 + 1 + 1 + 1) (Ty.slc ae) []), (9, K.ptr (0 + 1 + 1 + 1 + 1 + 1 + 1 + 1) ab []), (10, K.ptr (0 + 1 + 1 + 1 + 1 + 1 + 1 + 1 + 1) ae [])] 73 (kI be 7) (du be 7) (fC be 7)), (1, Bx.cell ah b1), (2, Bx.cell tId b2), (3, Bx.cell ah b3), (4, Bx.cell tId b4), (5, Bx.cell ae b5), (6, Bx.obj (Ty.slc ae) K.nilsl), (7, Bx.cell ab b7), (8, Bx.cell ae b8), (9, Bx.obj (Ty.slc ae) (K.sl (0 + 1 + 1 + 1 + 1 + 1 + 1 + 1 + 1 + 1 + 1) ae)), (10, Bx.row ae b10)]
noncomputable def mC (v5 : den ae) (b1 : den ah) (b2 : den tId) (b3 : den ah) (b4 : den tId) (b5 : den ae) (b7 : den ab) (b8 : den ae) (b10 : List (den ae)) : af := af.req (bE (Prod.fst b1) = true) (af.all (den (Ty.pair aw (Ty.pair Ty.bool Ty.unit))) (fun (q9 : den (Ty.pair aw (Ty.pair Ty.bool Ty.unit))) ↦ q9 = (Prod.fst (aG (Prod.fst b1) v5 b2), Prod.snd (aG (Prod.fst b1) v5 b2), PUnit.unit)) fun (q9 : den (Ty.pair aw (Ty.pair Ty.bool Ty.unit))) ↦ af.ite (!Prod.fst (Prod.snd q9)) (af.ret (K.val (Ty.pair (Ty.slc ae) (Ty.pair ab (Ty.pair ae Ty.unit))) ([], zero (Ty.pair ae (Ty.pair tId Ty.unit)), 10, PUnit.unit))) (af.ite (decide (b5 < lnx ae b10)) (af.ret (K.val (Ty.pair (Ty.slc ae) (Ty.pair ab (Ty.pair ae Ty.unit))) ([], zero (Ty.pair ae (Ty.pair tId Ty.unit)), 9, PUnit.unit))) (af.req (List.length (b10 ++ List.set (List.replicate 1 (zero ae)) 0 v5) ≤ bY) (af.ite (bif Prod.fst (Prod.snd (Prod.fst q9)) then decide (Prod.fst (Prod.fst (Prod.fst q9)) = v5) else false) (af.ret (K.val (Ty.pair (Ty.slc ae) (Ty.pair ab (Ty.pair ae Ty.unit))) (b10 ++ List.set (List.replicate 1 (zero ae)) 0 v5, Prod.fst (Prod.fst q9), 0, PUnit.unit))) (af.ite (Prod.fst (Prod.snd (Prod.fst q9))) (af.req (List.length (b10 ++ List.set (List.replicate 1 (zero ae)) 0 v5 ++ List.set (List.replicate 1 (zero ae)) 0 (Prod.fst (Prod.fst (Prod.fst q9)))) ≤ bY) (af.ret (K.val (Ty.pair (Ty.slc ae) (Ty.pair ab (Ty.pair ae Ty.unit))) (b10 ++ List.set (List.replicate 1 (zero ae)) 0 v5 ++ List.set (List.replicate 1 (zero ae)) 0 (Prod.fst (Prod.fst (Prod.fst q9))), Prod.fst (Prod.fst q9), 0, PUnit.unit)))) (af.ite (decide (Prod.fst (Prod.fst (Prod.fst q9)) = v5)) (af.ret (K.val (Ty.pair (Ty.slc ae) (Ty.pair ab (Ty.pair ae Ty.unit))) ([], zero (Ty.pair ae (Ty.pair tId Ty.unit)), 13, PUnit.unit))) (af.ite (bif Prod.fst (Prod.snd (Prod.fst q9)) then true else eqb aw (Prod.fst q9) ((v5, Prod.fst (Prod.snd (Prod.fst (Prod.fst q9))), zero Ty.unit), zero (Ty.pair Ty.bool Ty.unit))) (af.ret (K.val (Ty.pair (Ty.slc ae) (Ty.pair ab (Ty.pair ae Ty.unit))) ([], zero (Ty.pair ae (Ty.pair tId Ty.unit)), 10, PUnit.unit))) (af.loop [{ fx := fJ, todo := cx be 7, dst := none, s := ofS [(4, K.ptr (0 + 1 + 1 + 1) ah []), (6, K.ptr (0 + 1 + 1 + 1 + 1) tId []), (7, K.ptr (0 + 1 + 1 + 1 + 1 + 1) ae []), (8, K.ptr (0 + 1 + 1 + 1 + 1 + 1 + 1) (Ty.slc ae) []), (9, K.ptr (0 + 1 + 1 + 1 + 1 + 1 + 1 + 1) ab []), (10, K.ptr (0 + 1 + 1 + 1 + 1 + 1 + 1 + 1 + 1) ae []), (11, K.ptr (0 + 1 + 1 + 1 + 1 + 1 + 1 + 1 + 1 + 1) (Ty.slc ae) [])], rng := some 0 }] dt (lp c6 1) [(0, K.yld 0), (2, K.ptr (0 + 1) ah []), (3, K.ptr (0 + 1 + 1) tId []), (5, K.val ae (Prod.fst (Prod.fst (Prod.fst q9))))] [(0, Bx.lop LoopState.ready none [(7, K.ptr (0 + 1 + 1 + 1 + 1 + 1) ae []), (11, K.ptr (0 + 1 + 1 + 1 + 1 + 1 + 1 + 1 + 1 + 1) (Ty.slc ae) []), (8, K.ptr (0 + 1 + 1 + 1 + 1 + 1 + 1) (Ty.slc ae) []), (9, K.ptr (0 + 1 + 1 + 1 + 1 + 1 + 1 + 1) ab []), (10, K.ptr (0 + 1 + 1 + 1 + 1 + 1 + 1 + 1 + 1) ae [])] 73 (kI be 7) (du be 7) (fC be 7)), (0 + 1, Bx.cell ah b1), (0 + 1 + 1, Bx.cell tId b2), (0 + 1 + 1 + 1, Bx.cell ah b3), (0 + 1 + 1 + 1 + 1, Bx.cell tId b4), (0 + 1 + 1 + 1 + 1 + 1, Bx.cell ae b5), (0 + 1 + 1 + 1 + 1 + 1 + 1, Bx.obj (Ty.slc ae) K.nilsl), (0 + 1 + 1 + 1 + 1 + 1 + 1 + 1, Bx.cell ab b7), (0 + 1 + 1 + 1 + 1 + 1 + 1 + 1 + 1, Bx.cell ae b8), (0 + 1 + 1 + 1 + 1 + 1 + 1 + 1 + 1 + 1, Bx.obj (Ty.slc ae) (K.sl (0 + 1 + 1 + 1 + 1 + 1 + 1 + 1 + 1 + 1 + 1) ae)), (0 + 1 + 1 + 1 + 1 + 1 + 1 + 1 + 1 + 1 + 1, Bx.row ae (b10 ++ List.set (List.replicate 1 (zero ae)) 0 v5))]))))))))
theorem lK (v5 : den ae) (b1 : den ah) (b2 : den tId) (b3 : den ah) (b4 : den tId) (b5 : den ae) (b7 : den ab) (b8 : den ae) (b10 : List (den ae)) : ak iq qq 5000 (gN v5 b1 b2 b3 b4 b5 b7 b8 b10) dt (lp c6 1) (gQ v5 b1 b2 b3 b4 b5 b7 b8 b10) = mC v5 b1 b2 b3 b4 b5 b7 b8 b10 := by kernel_rfl
end Go.Proofs.Ytimdnodkabnbfaa
namespace Go.Proofs.Ytimdnodkabnbfaa
open Go Go.RowKit
theorem DN {n : Nd} (h : bt n = true) : (cy n).length ≤ 21 := by
 obtain ⟨l1, _, l3⟩ := FG h
 have e : (cy n).length = 1 + n.2.2.1.length + n.2.2.2.1.length := by unfold cy; rw [List.length_append, List.length_append]; rfl
 omega
theorem sN {l : List Nd} {i : Nat} (hi : i < l.length) (h : jq l (i : Nat) = false) : bE l = false := by
 unfold bE
 rw [show (List.range l.length).all (fun i => jq l (i : Nat)) = false from List.all_eq_false.2 ⟨i, List.mem_range.2 hi, by rw [h]; decide⟩]
 rfl
theorem Ai {l : List Nd} (h : bE l = true) {i : Nat} (hi : i < l.length) : jq l (i : Nat) = true := by
 cases hn : jq l (i : Nat) with
 | true => rfl
 | false => rw [sN hi hn] at h; cases h
theorem FK {l : List Nd} {i : Nat} (hi : i < l.length) (h : jq l (i : Nat) = true) : bt l[i] = true := by
 unfold jq Fs at h
 rw [bX (e := ag) hi] at h
 cases hn : bt l[i] with
 | true => rfl
 | false => rw [hn] at h; cases h
theorem we {l : List Nd} (h : bE l = true) {n : Nd} (hn : n ∈ l) : bt n = true := by
 obtain ⟨i, hi, rfl⟩ := List.getElem_of_mem hn
 exact FK hi (Ai h hi)
abbrev GCr (O : Nat → Prop) (w0 : World) (y : Bool) := bI prog ij (Cx.base O w0) (cC prog O w0 oY fun z => z = (y, ()))
theorem jn : XOk prog ij := Eh nX ot Ey GD sO
def Hd (O : Nat → Prop) (w0 : World) (o : Ov) (i : Nat) (z : Bool) (K : List Mem) (y : Bool) (hm : K.length ≤ maxLen) (hbad : (K.all fun m => !oz o.1 m) = false → y = false)
    (hnext : (K.all fun m => !oz o.1 m) = true → GCr O w0 y [] dq (lp bw 3) (og (ai o.1) o.1 (lnx ag o.1) (IntKind.wrap .i64 (((i : Nat) : Int) + 1)) o z)) :=
  PLift.up <| bG (σ := Unit) K.length (fun j _ => ((K.take j).all fun m => !oz o.1 m) = true)
    (fun j _ => GCr O w0 y (fF (ai o.1) o.1 (lnx ag o.1) (i : Nat) K (lnx ab K) (j : Nat) o z) cR (lp aX 1) (fD (ai o.1) o.1 (lnx ag o.1) (i : Nat) K (lnx ab K) (j : Nat) o z))
    (fun j _ hj hs ih => aI jn (eH _ _ _ _ K _ _ o z) (by
      refine ⟨fun _ => ⟨a8 hj, trivial, bD ?_⟩, fun hc => absurd hj (by rw [cF] at hc; exact of_decide_eq_false hc)⟩
      rw [bX hj, cz hj hm]
      have key : ∀ c : Bool, (bif (dP o.1 K[j].1).2 then !eqb ab (dP o.1 K[j].1).1 K[j] else false) = c → oz o.1 K[j] = c := fun c h => by
        unfold oz; rw [lS] at h; exact h
      refine ⟨fun hc => ⟨_, rfl, ?_⟩, fun hc => ih () ?_⟩
      · have hk := key true hc
        have : (K.all fun m => !oz o.1 m) = false := List.all_eq_false.2 ⟨K[j], List.getElem_mem hj, by rw [hk]; decide⟩
        rw [hbad this]
      · have hk := key false hc
        rw [List.take_succ_eq_append_getElem hj, List.all_append, hs]
        simp [hk]))
    (fun _ hs => aI jn (eH _ _ _ _ K _ _ o z) ⟨fun hc => absurd (of_decide_eq_true hc) (Int.lt_irrefl _), fun _ => hnext (by rw [List.take_length] at hs; exact hs)⟩)
def L2 (O : Nat → Prop) (w0 : World) (o : Ov) (z : Bool) (hm : o.1.length ≤ 1000000) :=
 PLift.up <| bG (σ := Unit) o.1.length (fun i _ => ∀ j, j < i → jq o.1 (j : Nat) = true)
  (fun i _ => GCr O w0 (bE o.1) [] dq (lp bw 3) (og (ai o.1) o.1 (lnx ag o.1) (i : Nat) o z))
  (fun i _ hi hs ih => aI jn (oD _ o.1 _ _ o z) (by
   have hw : i < 1000000 := Nat.lt_of_lt_of_le hi hm
   have hsm : IntKind.wrap .i64 (((i : Nat) : Int) - 1) = (i : Int) - 1 := dr (n := (i : Int) - 1) (by omega)
   refine ⟨fun _ => ⟨a8 hi, trivial, fun _ h0 => ?_, bD ?_⟩, fun hc => absurd hi (by rw [cF (e := ag)] at hc; exact of_decide_eq_false hc)⟩
   ·have h0 : (0 : Int) < (i : Nat) := of_decide_eq_true h0
    rw [hsm]
    exact ⟨by omega, show (i : Int) - 1 < ((o.1.length : Nat) : Int) by omega⟩
   ·rw [hsm]
    have hb : ∀ c : Bool, (bif !bt (el ag o.1 (i : Nat)) then true else bif decide ((0 : Int) < (i : Nat)) then decide ((el ag o.1 (i : Nat)).1.1 ≤ (el ag o.1 ((i : Nat) - 1)).1.1) else false) = c → Fs o.1 (i : Nat) = c := fun c h => h
    refine ⟨fun hc => ⟨_, rfl, ?_⟩, fun hc => ?_⟩
    ·have := hb true hc
     rw [sN hi (by unfold jq; rw [this]; rfl)]
    ·have hbn := hb false hc
     have hr : bt (el ag o.1 (i : Nat)) = true := by
      cases hn : bt (el ag o.1 (i : Nat)) with
      | true => rfl
      | false => unfold Fs at hbn; rw [hn] at hbn; cases hbn
     have hkl := DN hr
     have hok : jq o.1 (i : Nat) = (cy (el ag o.1 (i : Nat))).all fun m => !oz o.1 m := by
      unfold jq; rw [hbn]; rfl
     refine ⟨Nat.le_trans hkl (by decide), (Hd O w0 o i z (cy (el ag o.1 (i : Nat))) (bE o.1) (Nat.le_trans hkl (by decide)) (fun h => sN hi (by rw [hok]; exact h)) (fun h => ?_)).down 0 () (Nat.zero_le _) rfl⟩
     rw [cz hi (Nat.le_trans hm (by decide))]
     refine ih () fun j hj => ?_
     rcases Nat.lt_succ_iff_lt_or_eq.1 hj with h1 | h1
     ·exact hs j h1
     ·subst h1; rw [hok]; exact h))
  (fun _ hs => aI jn (oD _ o.1 _ _ o z) ⟨fun hc => absurd (of_decide_eq_true hc) (Int.lt_irrefl _), fun _ => ⟨trivial, bD ⟨_, rfl, by
   show (bp (ai o.1), ()) = (bE o.1, ())
   unfold bE
   rw [show (List.range o.1.length).all (fun i => jq o.1 (i : Nat)) = true from List.all_eq_true.2 fun i hi => hs i (List.mem_range.1 hi)]
   rfl⟩⟩⟩)
theorem xd : ay prog [] ie ir :=
 bR (S := ir) jn (fx := dq) CT (by kernel_rfl) (fun h => by cases h) (T := fun x => wF x.1) (fun x => As x.1) fun O w0 x _ hp =>
  ⟨hp, bD ((L2 O w0 x.1 (zero Ty.bool) hp).down 0 () (Nat.zero_le _) (fun j hj => absurd hj (Nat.not_lt_zero _)))⟩
theorem Gh (p : Nd → Bool) : ∀ (l : List Nd) (i : Int), (l.find? p = none ∧ ixQ p l i = -1) ∨ ∃ k : Nat, ∃ h : k < l.length, ixQ p l i = i + (k : Int) ∧ l.find? p = some l[k]
 | [], _ => .inl ⟨rfl, rfl⟩
 | x :: l, i => by
  have e : ixQ p (x :: l) i = bif p x then i else ixQ p l (i + 1) := rfl
  cases hx : p x with
  | true => exact .inr ⟨0, by simp, by rw [e, hx]; simp, by rw [List.find?_cons, hx]; rfl⟩
  | false =>
   rw [e, hx, List.find?_cons, hx]
   rcases Gh p l (i + 1) with ⟨h1, h2⟩ | ⟨k, hk, h1, h2⟩
   ·exact .inl ⟨h1, h2⟩
   ·exact .inr ⟨k + 1, by simp; omega, by show ixQ p l (i + 1) = _; rw [h1]; push_cast; omega, h2⟩
abbrev GAk (O : Nat → Prop) (w0 : World) (y : Ans) := bI prog kg (Cx.base O w0) (cC prog O w0 l6 fun z => z = (y, true, ()))
theorem o6 : XOk prog kg := Ep mu Bb Cb p7 ia GR GQ HP
def MN (O : Nat → Prop) (w0 : World) (o : Ov) (n : Nd) (id : List Int) (z : Ans) (hm : (cy n).length ≤ 1000) :=
 PLift.up <| bG (σ := List Int) (cy n).length (fun i b => b = (((cy n).take i).filter fun m => !ft o.1 m.1).map fun m => m.1)
  (fun i b => GAk O w0 (sc o.1 n id) [] fK (lp fl 7) (s5 (cy n) (lnx ab (cy n)) (i : Nat) o id z n b))
  (fun i b hi hs ih => aI o6 (oH _ _ _ o id z n b) (by
   refine ⟨fun _ => ⟨a8 hi, fun _ => trivial, ⟨_, rfl⟩, bD ?_⟩, fun hc => absurd hi (by rw [cF] at hc; exact of_decide_eq_false hc)⟩
   rw [bX hi, cz hi (Nat.le_trans hm (by decide))]
   refine ⟨fun hc => ⟨?_, ih _ ?_⟩, fun hc => ih _ ?_⟩
   ·have h1 := List.length_filter_le (fun m : Mem => !ft o.1 m.1) ((cy n).take i)
    rw [List.length_append, hs, List.length_map]
    rw [List.length_take] at h1
    exact Nat.le_trans (show _ + 1 ≤ 1001 by omega) (by decide)
   ·have hc : (!ft o.1 (cy n)[i].1) = true := hc
    rw [List.take_succ_eq_append_getElem hi, List.filter_append, List.map_append, ← hs, List.filter_cons_of_pos (p := fun m : Mem => !ft o.1 m.1) hc]
    rfl
   ·have hc : (!ft o.1 (cy n)[i].1) = false := hc
    rw [List.take_succ_eq_append_getElem hi, List.filter_append, List.map_append, ← hs, List.filter_cons_of_neg (p := fun m : Mem => !ft o.1 m.1) (by rw [hc]; decide)]
    simp))
  (fun b hs => aI o6 (oH _ _ _ o id z n b) (by
   refine ⟨fun hc => absurd (of_decide_eq_true hc) (Int.lt_irrefl _), fun _ => ⟨trivial, bD ⟨trivial, bD ?_⟩⟩⟩
   rw [List.take_length] at hs
   have hb : b = jb o.1 n := hs
   rw [hb]
   refine ⟨fun h => ⟨_, rfl, ?_⟩, fun h => ⟨trivial, bD ⟨_, rfl, ?_⟩⟩⟩
   all_goals
    show (_, _, _) = (sc o.1 n id, true, ())
    unfold sc ox
    rw [h]
    rfl))
theorem D8 {l : List Nd} {no : Int} {n : Nd} (id : List Int) (h : l.find? (fun n => decide (n.1.1 = no)) = some n) : aG l no id = (sc l n id, true) := by
 unfold aG; rw [h]
theorem Ku {l : List Nd} {no : Int} (id : List Int) (h : l.find? (fun n => decide (n.1.1 = no)) = none) : aG l no id = (zero aw, false) := by
 unfold aG; rw [h]
theorem Es : ay prog [] mV na :=
 bR (S := na) o6 (fx := fK) Cy (by kernel_rfl) (fun h => by cases h) (T := fun x => wV x.1 x.2.1 x.2.2.1) (fun x => AZ x.1 x.2.1 x.2.2.1) fun O w0 x _ hp => by
  obtain ⟨o, no, id, ⟨⟩⟩ := x
  have hp : bE o.1 = true := hp
  refine ⟨fun _ => trivial, ⟨_, rfl⟩, bD ?_⟩
  have e : prQ (some fun (y : den (Ty.pair ag Ty.unit)) => (decide (y.1.1.1 = no), PUnit.unit)) = fun n => decide (n.1.1 = no) := rfl
  rw [e]
  rcases Gh (fun n => decide (n.1.1 = no)) o.1 0 with ⟨h1, h2⟩ | ⟨k, hk, h1, h2⟩
  ·rw [h2]
   refine ⟨fun _ => ⟨_, rfl, ?_⟩, fun hc => (by cases hc)⟩
   show (_, _, _) = ((aG o.1 no id).1, (aG o.1 no id).2, ())
   rw [Ku id h1]
   rfl
  ·rw [h1]
   have e0 : (0 : Int) + (k : Int) = (k : Nat) := by omega
   rw [e0]
   refine ⟨fun hc => ?_, fun _ => ⟨a8 hk, ?_⟩⟩
   ·have hc : ((k : Nat) : Int) < 0 := of_decide_eq_true hc
    omega
   ·rw [bX (e := ag) hk]
    have hkl := DN (we hp (List.getElem_mem hk))
    have hf : List.flatten (List.set (List.set (List.set (List.replicate 3 (zero (Ty.slc ab))) 0 (List.set (List.replicate 1 (zero ab)) 0 o.1[k].2.1)) 1 o.1[k].2.2.1) 2 o.1[k].2.2.2.1) = cy o.1[k] := Me _ _ _ _
    rw [hf]
    refine ⟨Nat.le_trans hkl (by decide), bD ?_⟩
    show bI _ _ _ (cC prog O w0 l6 fun z => z = ((aG o.1 no id).1, (aG o.1 no id).2, ())) _ _ _ _
    rw [D8 id h2]
    exact (MN O w0 o o.1[k] id (zero aw) (Nat.le_trans hkl (by decide))).down 0 [] (Nat.zero_le _) rfl
theorem Av (l : List Nd) (id : List Int) (n : Nat) (path : List Int) (no : Int) : dw l id n path no = bif !(aG l no id).2 then ([], zero ab, 10) else
    match n with
    | 0 => ([], zero ab, 9)
    | n + 1 => bif (aG l no id).1.2.1 then (bif decide ((aG l no id).1.1.1 = no) then (path ++ [no], (aG l no id).1.1, 0) else (path ++ [no] ++ [(aG l no id).1.1.1], (aG l no id).1.1, 0))
      else bif decide ((aG l no id).1.1.1 = no) then ([], zero ab, 13) else dw l id n (path ++ [no]) (aG l no id).1.1.1 := by
  cases n <;> rfl
abbrev GWa (O : Nat → Prop) (w0 : World) (y : WR) := bI prog iq (Cx.base O w0) (cC prog O w0 eF fun z => z = (y.1, y.2.1, y.2.2, ()))
theorem o7 : XOk prog iq := En xd Es
theorem It (O : Nat → Prop) (w0 : World) (o : Ov) (id : List Int) (hops : Int) (z : Mem) (z' : Int) (hr : bE o.1 = true) (hh : hops ≤ 16) : ∀ (n : Nat) (path : List Int) (no : Int), ((path.length : Nat) : Int) + n = hops + 1 →
    GWa O w0 (dw o.1 id n path no) (gN no o id o id hops z z' path) dt (lp c6 1) (gQ no o id o id hops z z' path)
  | n, path, no, hn => aI o7 (lK no o id o id hops z z' path) (by
    have e := Av o.1 id n path no
    have leaf : ∀ {p : WR}, dw o.1 id n path no = p → ∃ q, bo eF (K.val (Ty.pair (Ty.slc ae) (Ty.pair ab (Ty.pair ae Ty.unit))) (p.1, p.2.1, p.2.2, PUnit.unit)) = some q ∧ q = ((dw o.1 id n path no).1, (dw o.1 id n path no).2.1, (dw o.1 id n path no).2.2, ()) := fun {p} e =>
      ⟨_, rfl, by rw [e]⟩
    have hl : path.length ≤ 17 := by omega
    refine ⟨hr, bD ⟨fun h1 => leaf (p := (_, _, _)) ?_, fun h1 => ⟨fun h2 => leaf (p := (_, _, _)) ?_, fun h2 => ⟨?_, fun h3 => leaf (p := (_, _, _)) ?_, fun h3 => ⟨fun h4 => ⟨?_, leaf (p := (_, _, _)) ?_⟩, fun h4 => ⟨fun h5 => leaf (p := (_, _, _)) ?_, fun h5 => ⟨fun h6 => ?_, fun h6 => ?_⟩⟩⟩⟩⟩⟩⟩
    · rw [e, h1]; rfl
    · have h2 : hops < ((path.length : Nat) : Int) := of_decide_eq_true h2
      have : n = 0 := by omega
      subst this
      rw [e, h1]; rfl
    · rw [List.length_append]
      exact Nat.le_trans (show path.length + 1 ≤ 18 by omega) (by decide)
    all_goals
      have h2 : ¬ hops < ((path.length : Nat) : Int) := of_decide_eq_false h2
      obtain ⟨n, rfl⟩ : ∃ m, n = m + 1 := ⟨n - 1, by omega⟩
      rw [h1] at e
    · have h3' : (aG o.1 no id).1.2.1 = true ∧ decide ((aG o.1 no id).1.1.1 = no) = true := by
        have h3 : (bif (aG o.1 no id).1.2.1 then decide ((aG o.1 no id).1.1.1 = no) else false) = true := h3
        cases hq : (aG o.1 no id).1.2.1 <;> rw [hq] at h3
        · cases h3
        · exact ⟨rfl, h3⟩
      rw [e, h3'.1, h3'.2]; rfl
    · rw [List.length_append, List.length_append]
      exact Nat.le_trans (show path.length + 1 + 1 ≤ 19 by omega) (by decide)
    · have h4 : (aG o.1 no id).1.2.1 = true := h4
      have h3' : decide ((aG o.1 no id).1.1.1 = no) = false := by
        have h3 : (bif (aG o.1 no id).1.2.1 then decide ((aG o.1 no id).1.1.1 = no) else false) = false := h3
        rw [h4] at h3; exact h3
      rw [e, h4, h3']; rfl
    · have h4 : (aG o.1 no id).1.2.1 = false := h4
      have h5 : decide ((aG o.1 no id).1.1.1 = no) = true := h5
      rw [e, h4, h5]; rfl
    · have h4 : (aG o.1 no id).1.2.1 = false := h4
      have h5 : decide ((aG o.1 no id).1.1.1 = no) = false := h5
      have h6 : (bif (aG o.1 no id).1.2.1 then true else eqb aw (aG o.1 no id).1 ((no, (aG o.1 no id).1.1.2.1, ()), zero (Ty.pair Ty.bool Ty.unit))) = true := h6
      rw [h4] at h6
      have h6 := (nC (t := aw) (by decide) _ _).1 h6
      have h6 : (aG o.1 no id).1.1.1 = no := congrArg (fun a : Ans => a.1.1) h6
      exact absurd h6 (of_decide_eq_false h5)
    · have h4 : (aG o.1 no id).1.2.1 = false := h4
      have h5 : decide ((aG o.1 no id).1.1.1 = no) = false := h5
      have e' : dw o.1 id (n + 1) path no = dw o.1 id n (path ++ [no]) (aG o.1 no id).1.1.1 := by rw [e, h4, h5]; rfl
      show bI _ _ _ (cC prog O w0 eF fun z => z = ((dw o.1 id (n + 1) path no).1, (dw o.1 id (n + 1) path no).2.1, (dw o.1 id (n + 1) path no).2.2, ())) _ _ _ _
      rw [e']
      exact It O w0 o id hops z z' hr hh n (path ++ [no]) _ (by rw [List.length_append]; simp; omega))
theorem MM (O : Nat → Prop) (w0 : World) (o : Ov) (id : List Int) (hops : Int) (z : Mem) (z' : Int) (hr : bE o.1 = true) (h0 : 0 ≤ hops) (hh : hops ≤ 16) (no : Int) :
    GWa O w0 (dw o.1 id (hops.toNat + 1) [] no) (iQ no o id o id hops z z') dt (lp c6 1) (iP no o id o id hops z z') :=
  aI o7 (mz no o id o id hops z z') (by
    have e := Av o.1 id (hops.toNat + 1) [] no
    have leaf : ∀ {p : WR}, dw o.1 id (hops.toNat + 1) [] no = p → ∃ q, bo eF (K.val (Ty.pair (Ty.slc ae) (Ty.pair ab (Ty.pair ae Ty.unit))) (p.1, p.2.1, p.2.2, PUnit.unit)) = some q ∧ q = ((dw o.1 id (hops.toNat + 1) [] no).1, (dw o.1 id (hops.toNat + 1) [] no).2.1, (dw o.1 id (hops.toNat + 1) [] no).2.2, ()) := fun {p} e =>
      ⟨_, rfl, by rw [e]⟩
    refine ⟨hr, bD ⟨fun h1 => leaf (p := (_, _, _)) ?_, fun h1 => ⟨fun h2 => ?_, fun h2 => ⟨(show 1 ≤ bY by decide), fun h3 => leaf (p := (_, _, _)) ?_, fun h3 => ⟨fun h4 => ⟨(show 2 ≤ bY by decide), leaf (p := (_, _, _)) ?_⟩, fun h4 => ⟨fun h5 => leaf (p := (_, _, _)) ?_, fun h5 => ⟨fun h6 => ?_, fun h6 => ?_⟩⟩⟩⟩⟩⟩⟩
    · rw [e, h1]; rfl
    · have h2 : hops < 0 := of_decide_eq_true h2
      omega
    all_goals rw [h1] at e
    · have h3' : (aG o.1 no id).1.2.1 = true ∧ decide ((aG o.1 no id).1.1.1 = no) = true := by
        have h3 : (bif (aG o.1 no id).1.2.1 then decide ((aG o.1 no id).1.1.1 = no) else false) = true := h3
        cases hq : (aG o.1 no id).1.2.1 <;> rw [hq] at h3
        · cases h3
        · exact ⟨rfl, h3⟩
      rw [e, h3'.1, h3'.2]; rfl
    · have h4 : (aG o.1 no id).1.2.1 = true := h4
      have h3' : decide ((aG o.1 no id).1.1.1 = no) = false := by
        have h3 : (bif (aG o.1 no id).1.2.1 then decide ((aG o.1 no id).1.1.1 = no) else false) = false := h3
        rw [h4] at h3; exact h3
      rw [e, h4, h3']; rfl
    · have h4 : (aG o.1 no id).1.2.1 = false := h4
      have h5 : decide ((aG o.1 no id).1.1.1 = no) = true := h5
      rw [e, h4, h5]; rfl
    · have h4 : (aG o.1 no id).1.2.1 = false := h4
      have h5 : decide ((aG o.1 no id).1.1.1 = no) = false := h5
      have h6 : (bif (aG o.1 no id).1.2.1 then true else eqb aw (aG o.1 no id).1 ((no, (aG o.1 no id).1.1.2.1, ()), zero (Ty.pair Ty.bool Ty.unit))) = true := h6
      rw [h4] at h6
      have h6 := (nC (t := aw) (by decide) _ _).1 h6
      have h6 : (aG o.1 no id).1.1.1 = no := congrArg (fun a : Ans => a.1.1) h6
      exact absurd h6 (of_decide_eq_false h5)
    · have h4 : (aG o.1 no id).1.2.1 = false := h4
      have h5 : decide ((aG o.1 no id).1.1.1 = no) = false := h5
      have e' : dw o.1 id (hops.toNat + 1) [] no = dw o.1 id hops.toNat ([] ++ [no]) (aG o.1 no id).1.1.1 := by rw [e, h4, h5]; rfl
      show bI _ _ _ (cC prog O w0 eF fun z => z = ((dw o.1 id (hops.toNat + 1) [] no).1, (dw o.1 id (hops.toNat + 1) [] no).2.1, (dw o.1 id (hops.toNat + 1) [] no).2.2, ())) _ _ _ _
      rw [e']
      exact It O w0 o id hops z z' hr hh hops.toNat ([] ++ [no]) _ (by show ((1 : Nat) : Int) + _ = _; omega))
theorem wR : ay prog [] ii iu :=
 bR (S := iu) o7 (fx := fJ) Du (by kernel_rfl) (fun h => by cases h) (T := fun x => wP x.1 x.2.1 x.2.2.1 x.2.2.2.1) (fun x => Am x.1 x.2.1 x.2.2.1 x.2.2.2.1) fun O w0 x _ hp => by
  obtain ⟨o, no, id, hops, ⟨⟩⟩ := x
  have e : ∀ c : Bool, (bif (bif !bE o.1 then true else decide ((hops : Int) < 0)) then true else decide ((16 : Int) < hops)) = c → cI o.1 no id hops = bif c then ([], zero ab, 1) else dw o.1 id ((hops : Int).toNat + 1) [] no := fun c h => by
   unfold cI; rw [h]
  refine ⟨hp, bD ⟨fun h => ⟨_, rfl, ?_⟩, fun h => ?_⟩⟩
  ·show _ = ((cI o.1 no id hops).1, (cI o.1 no id hops).2.1, (cI o.1 no id hops).2.2, ())
   rw [e true h]; rfl
  ·show bI _ _ _ (cC prog O w0 eF fun z => z = ((cI o.1 no id hops).1, (cI o.1 no id hops).2.1, (cI o.1 no id hops).2.2, ())) _ _ _ _
   rw [e false h]
   have h : (bif (bif !bE o.1 then true else decide ((hops : Int) < 0)) then true else decide ((16 : Int) < hops)) = false := h
   have h1 : bE o.1 = true := by
    cases hq : bE o.1 <;> rw [hq] at h
    cases h
   rw [h1] at h
   have h2 : decide ((hops : Int) < 0) = false := by
    cases hq : decide ((hops : Int) < 0) <;> rw [hq] at h
    cases h
   rw [h2] at h
   exact MM O w0 o id hops (zero ab) (zero ae) h1 (Int.not_lt.1 (of_decide_eq_false h2)) (Int.not_lt.1 (of_decide_eq_false h)) no
end Go.Proofs.Ytimdnodkabnbfaa
namespace Go.Proofs.Ytimdnodkabnbfaa
open Go Go.RowKit
def LB (n : Nd) : Nd := (n.1, n.2.1, n.2.2.1.take 6, n.2.2.2.1.take 18, ())
def vz (l : List Nd) : List Nd := (l.take 18).map LB
noncomputable abbrev s4 : bA := ⟨Bf, wB, fun x => ((vz x.1.1, ()), ()), fun _ => True, true⟩
noncomputable abbrev pp : bA := ⟨xS, xK, fun _ => (true, ()), fun _ => True, true⟩
end Go.Proofs.Ytimdnodkabnbfaa
namespace Go.Proofs.Ytimdnodkabnbfaa
open Go Go.RowKit
noncomputable abbrev lZ : Fx := { fn := lq, ann := { loops := [(3, { keep := [2, 3, 12, 13, 14], own := [(3, (.mp (.arr 0 .bool) ag))] })], frz := [(8, [1003, 100003])] }, own := [3] }
noncomputable abbrev tW : bg := { D := { T := br, F := [], R := [], ovl := [] }, inl := [] }
noncomputable abbrev DG : bF := .data wB
theorem yW : XOk prog tW := xok ((aU aY aM)) (by kernel_rfl) aS a6 aZ
noncomputable def DX (o : den ah) : af := af.req (bP 0 (dH (lnx ag (Prod.fst o)) 18) (lnx ag (Prod.fst o))) (af.loop [] lZ (lp lq 3) [(2, K.ptr 0 ah []), (3, K.ptr (0 + 1) ah []), (12, K.val (Ty.slc ag) (gd ag (Prod.fst o) 0 (dH (lnx ag (Prod.fst o)) 18))), (13, K.val ae (lnx ag (gd ag (Prod.fst o) 0 (dH (lnx ag (Prod.fst o)) 18)))), (14, K.val ae 0)] [(0, Bx.cell ah (zero ah)), (0 + 1, Bx.obj ah (K.agg (Ty.pair (Ty.slc ag) Ty.unit) (K.kcons (K.sl (0 + 1 + 1) ag) K.knil))), (0 + 1 + 1, Bx.row ag [])])
theorem Gw (o : den ah) : ak tW DG 5000 [] lZ (aF lq) (Env.of (aK Bf (o, ()) 0) []) = DX o := by kernel_rfl
noncomputable def zL (v12 : den (Ty.slc ag)) (v13 : den ae) (v14 : den ae) (b0 : den ah) (b2 : List (den ag)) : Env := Env.of [(2, K.ptr 0 ah []), (3, K.ptr (0 + 1) ah []), (12, K.val (Ty.slc ag) v12), (13, K.val ae v13), (14, K.val ae v14)] [(0, Bx.cell ah b0), (1, Bx.obj ah (K.agg (Ty.pair (Ty.slc ag) Ty.unit) (K.kcons (K.sl (0 + 1 + 1) ag) K.knil))), (2, Bx.row ag b2)]
noncomputable def FM (v12 : den (Ty.slc ag)) (v13 : den ae) (v14 : den ae) (b0 : den ah) (b2 : List (den ag)) : af := af.ite (decide (v14 < v13)) (af.req (inB v14 (lnx ag v12)) (af.req (bP 0 (dH (lnx ab (Prod.fst (Prod.snd (Prod.snd (el ag v12 v14))))) 6) (lnx ab (Prod.fst (Prod.snd (Prod.snd (el ag v12 v14)))))) (af.req (bP 0 (dH (lnx ab (Prod.fst (Prod.snd (Prod.snd (Prod.snd (el ag v12 v14)))))) 18) (lnx ab (Prod.fst (Prod.snd (Prod.snd (Prod.snd (el ag v12 v14))))))) (af.req (List.length (b2 ++ List.set (List.replicate 1 (zero ag)) 0 (Prod.fst (el ag v12 v14), Prod.fst (Prod.snd (el ag v12 v14)), gd ab (Prod.fst (Prod.snd (Prod.snd (el ag v12 v14)))) 0 (dH (lnx ab (Prod.fst (Prod.snd (Prod.snd (el ag v12 v14))))) 6), gd ab (Prod.fst (Prod.snd (Prod.snd (Prod.snd (el ag v12 v14))))) 0 (dH (lnx ab (Prod.fst (Prod.snd (Prod.snd (Prod.snd (el ag v12 v14)))))) 18), Prod.snd (Prod.snd (Prod.snd (Prod.snd (el ag v12 v14)))))) ≤ bY) (af.loop [] lZ (lp lq 3) [(2, K.ptr 0 ah []), (3, K.ptr (0 + 1) ah []), (12, K.val (Ty.slc ag) v12), (13, K.val ae v13), (14, K.val ae (IntKind.wrap IntKind.i64 (v14 + 1)))] [(0, Bx.cell ah b0), (0 + 1, Bx.obj ah (K.agg (Ty.pair (Ty.slc ag) Ty.unit) (K.kcons (K.sl (0 + 1 + 1) ag) K.knil))), (0 + 1 + 1, Bx.row ag (b2 ++ List.set (List.replicate 1 (zero ag)) 0 (Prod.fst (el ag v12 v14), Prod.fst (Prod.snd (el ag v12 v14)), gd ab (Prod.fst (Prod.snd (Prod.snd (el ag v12 v14)))) 0 (dH (lnx ab (Prod.fst (Prod.snd (Prod.snd (el ag v12 v14))))) 6), gd ab (Prod.fst (Prod.snd (Prod.snd (Prod.snd (el ag v12 v14))))) 0 (dH (lnx ab (Prod.fst (Prod.snd (Prod.snd (Prod.snd (el ag v12 v14)))))) 18), Prod.snd (Prod.snd (Prod.snd (Prod.snd (el ag v12 v14)))))))]))))) (af.ret (K.val (Ty.pair ah Ty.unit) ((b2, PUnit.unit), PUnit.unit)))
theorem tL (v12 : den (Ty.slc ag)) (v13 : den ae) (v14 : den ae) (b0 : den ah) (b2 : List (den ag)) : ak tW DG 5000 [] lZ (lp lq 3) (zL v12 v13 v14 b0 b2) = FM v12 v13 v14 b0 b2 := by kernel_rfl
noncomputable abbrev yb : Fx := { fn := ui, ann := { }, share := true }
noncomputable abbrev z8 : bg := { D := { T := br, F := [(ii, iu)], R := [], ovl := [] }, inl := [] }
noncomputable abbrev HO : bF := .data xK
theorem Hr (h_lookup_Walk : ay prog [] ii iu) : XOk prog z8 := xok (ax (aU aY aM) h_lookup_Walk) (by kernel_rfl) aS a6 aZ
noncomputable def zG : af := af.req (List.length (List.set (List.replicate 1 (zero ag)) 0 ((3, zero (Ty.pair tId Ty.unit)), (-1, zero (Ty.pair tId Ty.unit)), List.set (List.replicate 1 (zero ab)) 0 (3, zero (Ty.pair tId Ty.unit)), zero (Ty.pair (Ty.slc ab) Ty.unit))) ≤ 1000000) (af.all (den (Ty.pair (Ty.slc ae) (Ty.pair ab (Ty.pair ae Ty.unit)))) (fun (q0 : den (Ty.pair (Ty.slc ae) (Ty.pair ab (Ty.pair ae Ty.unit)))) ↦ q0 = (Prod.fst (cI (List.set (List.replicate 1 (zero ag)) 0 ((3, zero (Ty.pair tId Ty.unit)), (-1, zero (Ty.pair tId Ty.unit)), List.set (List.replicate 1 (zero ab)) 0 (3, zero (Ty.pair tId Ty.unit)), zero (Ty.pair (Ty.slc ab) Ty.unit))) 3 (List.set (List.replicate 32 (zero (Ty.int IntKind.u8))) 31 7) 0), Prod.fst (Prod.snd (cI (List.set (List.replicate 1 (zero ag)) 0 ((3, zero (Ty.pair tId Ty.unit)), (-1, zero (Ty.pair tId Ty.unit)), List.set (List.replicate 1 (zero ab)) 0 (3, zero (Ty.pair tId Ty.unit)), zero (Ty.pair (Ty.slc ab) Ty.unit))) 3 (List.set (List.replicate 32 (zero (Ty.int IntKind.u8))) 31 7) 0)), Prod.snd (Prod.snd (cI (List.set (List.replicate 1 (zero ag)) 0 ((3, zero (Ty.pair tId Ty.unit)), (-1, zero (Ty.pair tId Ty.unit)), List.set (List.replicate 1 (zero ab)) 0 (3, zero (Ty.pair tId Ty.unit)), zero (Ty.pair (Ty.slc ab) Ty.unit))) 3 (List.set (List.replicate 32 (zero (Ty.int IntKind.u8))) 31 7) 0)), PUnit.unit)) fun (q0 : den (Ty.pair (Ty.slc ae) (Ty.pair ab (Ty.pair ae Ty.unit)))) ↦ af.req (dy [(bif bif decide (Prod.fst (Prod.snd (Prod.snd q0)) = 0) then eqb ab (Prod.fst (Prod.snd q0)) (3, zero (Ty.pair tId Ty.unit)) else false then decide (lnx ae (Prod.fst q0) = 1) else false, true)] (inB 0 (lnx ae (Prod.fst q0)))) (af.ret (K.val (Ty.pair Ty.bool Ty.unit) (bif bif bif decide (Prod.fst (Prod.snd (Prod.snd q0)) = 0) then eqb ab (Prod.fst (Prod.snd q0)) (3, zero (Ty.pair tId Ty.unit)) else false then decide (lnx ae (Prod.fst q0) = 1) else false then decide (el ae (Prod.fst q0) 0 = 3) else false, PUnit.unit))))
theorem C8 : ak z8 HO 5000 [] yb (aF ui) (Env.of (aK xS () 0) []) = zG := by kernel_rfl
end Go.Proofs.Ytimdnodkabnbfaa
namespace Go.Proofs.Ytimdnodkabnbfaa
open Go Go.RowKit
theorem Gb (no : Int) : ∀ (l pre : List Mem), CC no pre l = true ↔ (∀ m ∈ l, fM m = true ∧ m.1 ≠ no ∧ ∀ x ∈ pre, x.1 ≠ m.1) ∧ (l.map fun m => m.1).Nodup
 | [], pre => ⟨fun _ => ⟨fun _ h => (by cases h), List.nodup_nil⟩, fun _ => rfl⟩
 | m :: l, pre => by
  rw [DF]
  have ih := Gb no l (pre ++ [m])
  constructor
  ·intro h
   have h1 : fM m = true := by
    cases hq : fM m with
    | true => rfl
    | false => rw [hq] at h; cases h
   have h2 : decide (m.1 = no) = false := by
    cases hq : decide (m.1 = no) with
    | false => rfl
    | true => rw [h1, hq] at h; cases h
   have h3 : (pre.any fun x => decide (x.1 = m.1)) = false := by
    cases hq : (pre.any fun x => decide (x.1 = m.1)) with
    | false => rfl
    | true => rw [h1, h2, hq] at h; cases h
   rw [h1, h2, h3] at h
   obtain ⟨a1, a2⟩ := ih.1 h
   have h3' : ∀ x ∈ pre, x.1 ≠ m.1 := fun x hx e => by
    have := List.any_eq_false.1 h3 x hx
    exact this (decide_eq_true e)
   refine ⟨fun q hq => ?_, ?_⟩
   ·rcases List.mem_cons.1 hq with rfl | hq
    ·exact ⟨h1, of_decide_eq_false h2, h3'⟩
    ·obtain ⟨b1, b2, b3⟩ := a1 q hq
     exact ⟨b1, b2, fun x hx => b3 x (List.mem_append_left _ hx)⟩
   ·rw [List.map_cons, List.nodup_cons]
    refine ⟨fun hm => ?_, a2⟩
    obtain ⟨q, hq, e⟩ := List.mem_map.1 hm
    exact (a1 q hq).2.2 m (List.mem_append_right _ (List.mem_singleton.2 rfl)) e.symm
  ·rintro ⟨a1, a2⟩
   obtain ⟨b1, b2, b3⟩ := a1 m List.mem_cons_self
   rw [List.map_cons, List.nodup_cons] at a2
   have h3 : (pre.any fun x => decide (x.1 = m.1)) = false := List.any_eq_false.2 fun x hx => by
    have := b3 x hx
    simpa using this
   rw [b1, decide_eq_false b2, h3]
   refine ih.2 ⟨fun q hq => ?_, a2.2⟩
   obtain ⟨c1, c2, c3⟩ := a1 q (List.mem_cons_of_mem _ hq)
   refine ⟨c1, c2, fun x hx => ?_⟩
   rcases List.mem_append.1 hx with hx | hx
   ·exact c3 x hx
   ·rw [List.mem_singleton.1 hx]
    exact fun e => a2.1 (List.mem_map.2 ⟨q, hq, e.symm⟩)
theorem Jt (l : List Mem) (no : Int) : eB l no = true ↔ (∀ m ∈ l, fM m = true ∧ m.1 ≠ no) ∧ (l.map fun m => m.1).Nodup := by
 unfold eB
 rw [Gb]
 constructor
 ·rintro ⟨h1, h2⟩; exact ⟨fun m hm => ⟨(h1 m hm).1, (h1 m hm).2.1⟩, h2⟩
 ·rintro ⟨h1, h2⟩; exact ⟨fun m hm => ⟨(h1 m hm).1, (h1 m hm).2, fun _ h => (by cases h)⟩, h2⟩
theorem B6 {l l' : List Mem} {no : Int} (h : eB l no = true) (hs : l'.Sublist l) : eB l' no = true := by
 rw [Jt] at h ⊢
 exact ⟨fun m hm => h.1 m (hs.subset hm), h.2.sublist (hs.map _)⟩
structure NOk (n : Nd) : Prop where
 self : fM n.1 = true
 pred : n.2.1 = noM ∨ (fM n.2.1 = true ∧ n.2.1.1 ≠ n.1.1)
 one : 1 ≤ n.2.2.1.length
 four : n.2.2.1.length ≤ 4
 succs : n.2.2.1 = [n.1] ∨ eB n.2.2.1 n.1.1 = true
 many : n.2.2.2.1.length ≤ 16
 fing : eB n.2.2.2.1 n.1.1 = true
theorem Dg (n : Nd) : bt n = true ↔ NOk n := by
 have e1 : lnx ab n.2.2.1 = ((n.2.2.1.length : Nat) : Int) := rfl
 have e2 : lnx ab n.2.2.2.1 = ((n.2.2.2.1.length : Nat) : Int) := rfl
 have ep : yP n = true ↔ (n.2.1 = noM ∨ (fM n.2.1 = true ∧ n.2.1.1 ≠ n.1.1)) := by
  unfold yP
  by_cases h : n.2.1 = noM
  ·simp [h]
  ·rw [decide_eq_false h]
   cases hm : fM n.2.1
   ·simp [h]
   ·simp [h]
 have es : u6 n = true ↔ (1 ≤ n.2.2.1.length ∧ n.2.2.1.length ≤ 4 ∧ (n.2.2.1 = [n.1] ∨ eB n.2.2.1 n.1.1 = true)) := by
  unfold u6
  rw [e1]
  by_cases h1 : 1 ≤ n.2.2.1.length
  ·rw [decide_eq_true (show (1 : Int) ≤ ((n.2.2.1.length : Nat) : Int) by omega)]
   by_cases h2 : n.2.2.1.length ≤ 4
   ·rw [decide_eq_true (show ((n.2.2.1.length : Nat) : Int) ≤ 4 by omega)]
    by_cases h3 : n.2.2.1 = [n.1]
    ·rw [decide_eq_true h3]; simp [h1, h2, h3]
    ·rw [decide_eq_false h3]; simp [h1, h2, h3]
   ·rw [decide_eq_false (show ¬ ((n.2.2.1.length : Nat) : Int) ≤ 4 by omega)]; simp [h2]
  ·rw [decide_eq_false (show ¬ (1 : Int) ≤ ((n.2.2.1.length : Nat) : Int) by omega)]; simp [h1]
 unfold bt
 rw [e2]
 constructor
 ·intro h
  cases h1 : fM n.1 <;> rw [h1] at h
  ·cases h
  cases h2 : yP n <;> rw [h2] at h
  ·cases h
  cases h3 : u6 n <;> rw [h3] at h
  ·cases h
  cases h4 : decide (((n.2.2.2.1.length : Nat) : Int) ≤ 16) <;> rw [h4] at h
  ·cases h
  obtain ⟨s1, s2, s3⟩ := es.1 h3
  exact ⟨h1, ep.1 h2, s1, s2, s3, by have := of_decide_eq_true h4; omega, h⟩
 ·intro h
  rw [h.self, ep.2 h.pred, es.2 ⟨h.one, h.four, h.succs⟩, decide_eq_true (show ((n.2.2.2.1.length : Nat) : Int) ≤ 16 by have := h.many; omega)]
  exact h.fing
theorem BR (n : Nd) (m : Mem) (l : List Mem) : tQ n (m :: l) = m :: l := by
 unfold tQ
 rw [decide_eq_false (show ¬ lnx ab (m :: l) = 0 from fun h => by have h : (((m :: l).length : Nat) : Int) = 0 := h; simp at h; omega)]
 rfl
theorem KP (no : Int) (nos : List Int) {m : Mem} (h : m.1 = no) : bB no nos m = false := by
 unfold bB; rw [decide_eq_true h]; rfl
theorem M5 {n : Nd} (h : NOk n) (nos : List Int) : NOk (ne n nos) := by
  have hf : (n.2.2.1.filter fun m => !bB n.1.1 nos m).length ≤ 4 := Nat.le_trans (List.length_filter_le _ _) h.four
  refine ⟨h.self, ?_, ?_, ?_, ?_, Nat.le_trans (List.length_filter_le _ _) h.many, B6 h.fing List.filter_sublist⟩
  · show (bif _ then noM else n.2.1) = noM ∨ (fM (bif _ then noM else n.2.1) = true ∧ (bif _ then noM else n.2.1).1 ≠ n.1.1)
    cases (bif !decide (n.2.1 = noM) then bB n.1.1 nos n.2.1 else false)
    · exact h.pred
    · exact .inl rfl
  all_goals
    show _
    simp only [ne]
    cases hq : (n.2.2.1.filter fun m => !bB n.1.1 nos m) with
    | nil => first | exact Nat.le_refl _ | exact (by decide : 1 ≤ 4) | exact .inl rfl
    | cons m l =>
      rw [BR, ← hq]
      first
      | (rw [hq]; exact Nat.succ_le_succ (Nat.zero_le _))
      | exact hf
      | (rcases h.succs with hs | hs
         · left
           rw [hs, List.filter_cons_of_pos (p := fun m : Mem => !bB n.1.1 nos m) (by rw [KP n.1.1 nos rfl]; rfl)]
           rfl
         · right
           exact B6 hs List.filter_sublist)
theorem Fe {l : List Nd} {n : Nd} (h : n ∈ l) : ft l n.1.1 = true := List.any_eq_true.2 ⟨n, h, decide_eq_true rfl⟩
theorem MV {l : List Nd} {n : Nd} (h : bt n = true) : ox l n = ne n (jb l n) := by
 unfold ox gH; rw [h]; rfl
theorem JD {l : List Nd} {n : Nd} (hn : n ∈ l) {m : Mem} (hk : m ∈ cy n) (h : bB n.1.1 (jb l n) m = false) : ft l m.1 = true := by
 cases hl : ft l m.1 with
 | true => rfl
 | false =>
  exfalso
  have hd : m.1 ∈ jb l n := List.mem_map.2 ⟨m, List.mem_filter.2 ⟨hk, by rw [hl]; rfl⟩, rfl⟩
  by_cases he : m.1 = n.1.1
  ·rw [he, Fe hn] at hl; cases hl
  ·unfold bB at h
   rw [decide_eq_false he] at h
   have h : ((jb l n).any fun x => decide (x = m.1)) = false := h
   exact (List.any_eq_false.1 h _ hd) (decide_eq_true rfl)
theorem JW {l : List Nd} {n : Nd} (hn : n ∈ l) {m : Mem} (h : m ∈ (ne n (jb l n)).2.2.2.1) : ft l m.1 = true := by
 obtain ⟨h1, h2⟩ := List.mem_filter.1 (show m ∈ n.2.2.2.1.filter fun m => !bB n.1.1 (jb l n) m from h)
 exact JD hn (List.mem_append_right _ h1) (by simpa using h2)
theorem Gd (self : List Int) : ∀ (l : List Mem) (s : Mem × Int), (l.foldl (gv self) s = s ∨ ((l.foldl (gv self) s).2 = 0 ∧ (l.foldl (gv self) s).1 ∈ l))
 | [], s => .inl rfl
 | m :: l, s => by
  rw [List.foldl_cons]
  have hs : gv self s m = s ∨ gv self s m = (m, 0) := by
   unfold gv
   cases (bif !decide (s.2 = 0) then true else decide (fQ (aW self s.1.2.1) (aW self m.2.1) < 0))
   ·exact .inl rfl
   ·exact .inr rfl
  rcases Gd self l (gv self s m) with h | h
  ·rw [h]
   rcases hs with h2 | h2
   ·exact .inl h2
   ·rw [h2]; exact .inr ⟨rfl, List.mem_cons_self⟩
  ·exact .inr ⟨h.1, List.mem_cons_of_mem _ h.2⟩
end Go.Proofs.Ytimdnodkabnbfaa
namespace Go.Proofs.Ytimdnodkabnbfaa
open Go Go.RowKit
abbrev GFw (O : Nat → Prop) (w0 : World) (y : List Nd) := bI prog tW (Cx.base O w0) (cC prog O w0 wB fun z => z = ((y, ()), ()))
theorem Ie (n : Nat) (b : List Mem) : bP 0 (dH (lnx ab b) (n : Int)) (lnx ab b) := by
 have e : lnx ab b = ((b.length : Nat) : Int) := rfl
 rw [e]
 unfold dH bP
 split <;> omega
theorem Nq (n : Nat) (b : List Mem) : gd ab b 0 (dH (lnx ab b) (n : Int)) = b.take n := by
 show (b.take (dH ((b.length : Nat) : Int) n).toNat).drop (0 : Int).toNat = _
 have : (dH ((b.length : Nat) : Int) n).toNat = min b.length n := by unfold dH; split <;> omega
 rw [this]
 simp [Nat.min_comm]
theorem NT (n : Nat) (b : List Nd) : gd ag b 0 (dH (lnx ag b) (n : Int)) = b.take n := by
 show (b.take (dH ((b.length : Nat) : Int) n).toNat).drop (0 : Int).toNat = _
 have : (dH ((b.length : Nat) : Int) n).toNat = min b.length n := by unfold dH; split <;> omega
 rw [this]
 simp [Nat.min_comm]
theorem MJ (n : Nat) (b : List Nd) : bP 0 (dH (lnx ag b) (n : Int)) (lnx ag b) := by
 have e : lnx ag b = ((b.length : Nat) : Int) := rfl
 rw [e]
 unfold dH bP
 split <;> omega
def Ns (O : Nat → Prop) (w0 : World) (q : List Nd) (z : Ov) (hm : q.length ≤ 18) :=
 PLift.up <| bG (σ := List Nd) q.length (fun i b => b = (q.take i).map LB)
  (fun i b => GFw O w0 (q.map LB) [] lZ (lp lq 3) (zL q (lnx ag q) (i : Nat) z b))
  (fun i b hi hs ih => aI yW (tL q _ _ z b) (by
   refine ⟨fun _ => ⟨a8 hi, Ie 6 _, Ie 18 _, ?_, ?_⟩, fun hc => absurd hi (by rw [cF (e := ag)] at hc; exact of_decide_eq_false hc)⟩
   ·rw [List.length_append, hs, List.length_map, List.length_take]
    exact Nat.le_trans (show min i q.length + 1 ≤ 19 by omega) (by decide)
   ·rw [bX (e := ag) hi, cz hi (Nat.le_trans hm (by decide))]
    refine ih _ ?_
    rw [List.take_succ_eq_append_getElem hi, List.map_append, ← hs]
    have e1 := Nq 6 q[i].2.2.1
    have e2 := Nq 18 q[i].2.2.2.1
    have e1 : gd ab q[i].2.2.1 0 (dH (lnx ab q[i].2.2.1) 6) = q[i].2.2.1.take 6 := e1
    have e2 : gd ab q[i].2.2.2.1 0 (dH (lnx ab q[i].2.2.2.1) 18) = q[i].2.2.2.1.take 18 := e2
    rw [e1, e2]
    rfl))
  (fun b hs => aI yW (tL q _ _ z b) ⟨fun hc => absurd (of_decide_eq_true hc) (Int.lt_irrefl _), fun _ => ⟨_, rfl, by
   rw [List.take_length] at hs
   rw [hs]⟩⟩)
theorem Kd : ay prog [] tf s4 :=
 bR (S := s4) yW (fx := lZ) I1 (by kernel_rfl) (fun _ _ => trivial) (T := fun x => DX x.1) (fun x => Gw x.1) fun O w0 x _ _ => by
  obtain ⟨o, ⟨⟩⟩ := x
  refine ⟨MJ 18 _, ?_⟩
  have e : gd ag o.1 0 (dH (lnx ag o.1) 18) = o.1.take 18 := NT 18 o.1
  rw [e]
  exact (Ns O w0 (o.1.take 18) (zero ah) (by rw [List.length_take]; omega)).down 0 [] (Nat.zero_le _) rfl
theorem K4 (l : List Nd) : (vz l).length ≤ 18 := by
 unfold vz; rw [List.length_map, List.length_take]; omega
def n3 : Nd := ((3, zero (Ty.pair tId Ty.unit)), (-1, zero (Ty.pair tId Ty.unit)), [(3, zero (Ty.pair tId Ty.unit))], zero (Ty.pair (Ty.slc ab) Ty.unit))
def id7 : List Int := List.set (List.replicate 32 (zero (Ty.int IntKind.u8))) 31 7
theorem M6 : cI [n3] 3 id7 0 = ([3], (3, zero (Ty.pair tId Ty.unit)), 0) := by kernel_rfl
theorem Hj : ay prog [] pr pp :=
 bR (S := pp) (Hr wR) (fx := yb) Gn (by kernel_rfl) (fun _ _ => trivial) (T := fun _ => zG) (fun _ => C8) fun O v0 x _ _ => by
  refine ⟨(show 1 ≤ 1000000 by decide), bD ?_⟩
  show bm _ _ _ _ _ (af.req (dy [(bif bif decide ((cI [n3] 3 id7 0).2.2 = 0) then eqb ab (cI [n3] 3 id7 0).2.1 (3, zero (Ty.pair tId Ty.unit)) else false then decide (lnx ae (cI [n3] 3 id7 0).1 = 1) else false, true)] (inB 0 (lnx ae (cI [n3] 3 id7 0).1)))
   (af.ret (K.val (Ty.pair Ty.bool Ty.unit) (bif bif bif decide ((cI [n3] 3 id7 0).2.2 = 0) then eqb ab (cI [n3] 3 id7 0).2.1 (3, zero (Ty.pair tId Ty.unit)) else false then decide (lnx ae (cI [n3] 3 id7 0).1 = 1) else false then decide (el ae (cI [n3] 3 id7 0).1 0 = 3) else false, PUnit.unit))))
  rw [M6]
  refine ⟨fun _ => a8 (n := 1) (by decide), _, rfl, Prod.ext ?_ rfl⟩
  rw [lS]
  show (bif bif bif decide ((0 : Int) = 0) then decide (((3 : Int), zero (Ty.pair tId Ty.unit)) = (3, zero (Ty.pair tId Ty.unit))) else false then decide ((1 : Int) = 1) else false then decide ((3 : Int) = 3) else false) = true
  rw [decide_eq_true rfl]
  rfl
theorem K7 {l : List Nd} (hr : bE l = true) (no : Int) (id : List Int) {h : Nat} (hh : h ≤ 16) : cI l no id (h : Int) = dw l id (h + 1) [] no := by
 unfold cI
 rw [hr, decide_eq_false (show ¬ ((h : Int) < 0) by omega), decide_eq_false (show ¬ ((16 : Int) < h) by omega)]
 rfl
end Go.Proofs.Ytimdnodkabnbfaa
namespace Go.Proofs.Ytimdnodkabnbfaa
open Go Go.RowKit
def Mb (self id x : List Int) : Bool := bif (bif !decide (x = self) then !decide (x = id) else false) then gk x self id else false
end Go.Proofs.Ytimdnodkabnbfaa
