/- Part 9 of 9 of what this claim's proof stands on: a theory of programs on data, and the contracts of the functions that the law reaches. It holds no condition of its own. -/
import Derived.Test.YtimdnodkabnbfaaCA8
namespace Go.Proofs.Ytimdnodkabnbfaa
open Go Go.RowKit
end Go.Proofs.Ytimdnodkabnbfaa
namespace Go.Proofs.Ytimdnodkabnbfaa
open Go Go.RowKit
end Go.Proofs.Ytimdnodkabnbfaa
namespace Go.Proofs.Ytimdnodkabnbfaa
open Go Go.RowKit
noncomputable abbrev bU : bt := ⟨.pair (.slc (.slc ab)) .unit, .pair (.slc ab) .unit, fun y => ((y.1.flatten : List Mem), ()), fun y => (y.1.flatten : List Mem).length ≤ bM, false⟩
theorem fO : aC prog [] bz bU := Cf pD rfl
abbrev qn : Ty := .pair H2 .unit
noncomputable abbrev kL : bt := ⟨rh, qn, fun x => ((bW x.1, ()), ()), fun x => (bW x.1).length ≤ 1000000, false⟩
abbrev Ov := den ah
def ixQ (p : Nd → Bool) : List Nd → Int → Int
 | [], _ => -1
 | x :: l, i => bif p x then i else ixQ p l (i + 1)
def prQ (f : den (.fn (.pair ag .unit) (.pair .bool .unit))) (m : Nd) : Bool := (uz (.pair ag .unit) (.pair .bool .unit) f (m, ())).1
noncomputable abbrev co : bt := ⟨jy, fA, fun x => (ixQ (prQ x.2.1) x.1 0, ()), fun x => oq (.pair ag .unit) (.pair .bool .unit) x.2.1, false⟩
noncomputable abbrev dl : bt := ⟨hH, hP, fun x => (List.any x.1 (prQ x.2.1), ()), fun x => oq (.pair ag .unit) (.pair .bool .unit) x.2.1, false⟩
noncomputable abbrev ja : bt := ⟨oV, o9, fun x => (decide ((sfN x.1).1 = x.2.1), ()), fun _ => True, true⟩
noncomputable abbrev jd : bt := ⟨oW, pc, fun x => (decide ((sfN x.1).1 = x.2.1.1), ()), fun _ => True, true⟩
noncomputable abbrev eQ : bt := ⟨oH, kU, fun x => (cX x.1.1, ()), fun x => List.length x.1.1 ≤ 1000000, false⟩
def fJ (l : List Nd) (no : Int) : Mem × Bool := match l.find? (fun n => decide (n.1.1 = no)) with | some n => (n.1, true) | none => (zero ab, false)
noncomputable abbrev lx : bt := ⟨sN, nw, fun x => ((fJ x.1.1 x.2.1).1, (fJ x.1.1 x.2.1).2, ()), fun _ => True, true⟩
def qa (l : List Nd) (m : Mem) : Bool := bif (fJ l m.1).2 then !decide ((fJ l m.1).1 = m) else false
def Is (l : List Nd) (n : Nd) : Bool := (bW n).all fun m => !qa l m
def D2 (l : List Nd) (i : Int) : Bool := bif !a9 (el ag l i) then true else bif decide (0 < i) then decide ((el ag l i).1.1 ≤ (el ag l (i - 1)).1.1) else false
def iG (l : List Nd) (i : Int) : Bool := bif D2 l i then false else Is l (el ag l i)
def bu (l : List Nd) : Bool := (List.range l.length).all (fun i => iG l (i : Nat)) && io (cX l)
noncomputable abbrev kJ : bt := ⟨rq, mK, fun x => (bu x.1.1, ()), fun x => List.length x.1.1 ≤ 1000000, false⟩
abbrev Ans := den ao
def i6 (l : List Nd) (n : Nd) : List Int := ((bW n).filter fun m => !eT l m.1).map fun m => m.1
def wJ (l : List Nd) (n : Nd) : Nd := (fo n (i6 l n)).1
def wb (l : List Nd) (n : Nd) (id : List Int) : Ans := bif ov (wJ l n) id then ((wJ l n).1, true, ()) else ((da (wJ l n) id).1, (da (wJ l n) id).2.1, ())
def ar (l : List Nd) (no : Int) (id : List Int) : Ans × Bool := match l.find? (fun n => decide (n.1.1 = no)) with | some n => (wb l n id, true) | none => (zero ao, false)
noncomputable abbrev kP : bt := ⟨rF, jS, fun x => ((ar x.1.1 x.2.1 x.2.2.1).1, (ar x.1.1 x.2.1 x.2.2.1).2, ()), fun x => bu x.1.1 = true, false⟩
abbrev WR := List Int × Mem × Int
def bR (l : List Nd) (id : List Int) : Nat → List Int → Int → WR
 | n, path, no => bif !(ar l no id).2 then ([], zero ab, 10) else
  match n with
  | 0 => ([], zero ab, 9)
  | n + 1 => bif (ar l no id).1.2.1 then (bif decide ((ar l no id).1.1.1 = no) then (path ++ [no], (ar l no id).1.1, 0) else (path ++ [no] ++ [(ar l no id).1.1.1], (ar l no id).1.1, 0))
   else bif decide ((ar l no id).1.1.1 = no) then ([], zero ab, 13) else bR l id n (path ++ [no]) (ar l no id).1.1.1
def bH (l : List Nd) (no : Int) (id : List Int) (hops : Int) : WR := bif (bif (bif !bu l then true else decide (hops < 0)) then true else decide (16 < hops)) then ([], zero ab, 1) else bR l id (hops.toNat + 1) [] no
noncomputable abbrev fU : bt := ⟨rZ, dw, fun x => ((bH x.1.1 x.2.1 x.2.2.1 x.2.2.2.1).1, (bH x.1.1 x.2.1 x.2.2.1 x.2.2.2.1).2.1, (bH x.1.1 x.2.1 x.2.2.1 x.2.2.2.1).2.2, ()), fun x => List.length x.1.1 ≤ 1000000, false⟩
end Go.Proofs.Ytimdnodkabnbfaa
namespace Go.Proofs.Ytimdnodkabnbfaa
open Go Go.RowKit
noncomputable abbrev pF : Fx := { fn := kr, ann := { } }
noncomputable abbrev bJ : Fx := { fn := bC, ann := { loops := [(1, { keep := [0, 2, 6, 7, 8] })], frz := [(1000001, [6, 8, 9])], gy := true } }
noncomputable abbrev c8 : Fx := { fn := aJ, ann := { frz := [(2, [3, 4])] } }
noncomputable abbrev fy : a8 := { D := { T := br, F := [(iS, kC), (eR, gg), (gi, gh)], R := [], ovl := [] }, inl := [(ke, pF), (jl, bJ)] }
noncomputable abbrev oI : bG := .data j8
theorem wM (h_ident_Far : aC prog [] iS kC) (h_ident_Compare : aC prog [] eR gg) (h_finger_Closest_1 : aC prog [] gi gh) : XOk prog fy := xok (aH (aH (aH (aV bf aP) h_finger_Closest_1) h_ident_Compare) h_ident_Far) (by kernel_rfl) aW (k9 pE (by kernel_rfl) (k9 nV (by kernel_rfl) bh)) bg
noncomputable def py (id : den tId) (self : den tId) (known : den (Ty.slc ab)) : af := af.req (∀ (y : den (Ty.pair ab Ty.unit)), True) (af.loop [{ fx := c8, todo := c7 aJ 5, dst := none, s := ofS [(6, K.ptr (0 + 1 + 1) ab []), (8, K.ptr (0 + 1 + 1 + 1) ab []), (9, K.ptr (0 + 1 + 1 + 1 + 1) ae [])], rng := some 0 }] bJ (lp bC 1) [(0, K.yld 0), (2, K.ptr (0 + 1) (Ty.fn (Ty.pair ab Ty.unit) (Ty.pair Ty.bool Ty.unit)) []), (6, K.val (Ty.slc ab) known), (7, K.val ae (lnx ab known)), (8, K.val ae 0)] [(0, Bx.lop LoopState.ready none [(4, K.ref tId self), (8, K.ptr (0 + 1 + 1 + 1) ab []), (9, K.ptr (0 + 1 + 1 + 1 + 1) ae [])] 35 (mD aJ 5) (ed aJ 5) (gR aJ 5)), (0 + 1, Bx.cell (Ty.fn (Ty.pair ab Ty.unit) (Ty.pair Ty.bool Ty.unit)) (some fun (y : den (Ty.pair ab Ty.unit)) ↦ (lI self id (Prod.fst y), PUnit.unit))), (0 + 1 + 1, Bx.cell ab (zero ab)), (0 + 1 + 1 + 1, Bx.cell ab (zero (Ty.pair ae (Ty.pair tId Ty.unit)))), (0 + 1 + 1 + 1 + 1, Bx.cell ae 6)])
theorem tb (id : den tId) (self : den tId) (known : den (Ty.slc ab)) : ap fy oI 5000 [] c8 (aI aJ) (Env.of (aN nS (id, self, known, ()) 0) []) = py id self known := by kernel_rfl
noncomputable def dG (v6 : den (Ty.slc ab)) (v7 : den ae) (v8 : den ae) (b0_4 : den tId) (b1 : den (Ty.fn (Ty.pair ab Ty.unit) (Ty.pair Ty.bool Ty.unit))) (b2 : den ab) (b3 : den ab) (b4 : den ae) : List bN := [{ fx := c8, todo := c7 aJ 5, dst := none, s := ofS [(6, K.ptr (0 + 1 + 1) ab []), (8, K.ptr (0 + 1 + 1 + 1) ab []), (9, K.ptr (0 + 1 + 1 + 1 + 1) ae [])], rng := some 0 }]
noncomputable def dF (v6 : den (Ty.slc ab)) (v7 : den ae) (v8 : den ae) (b0_4 : den tId) (b1 : den (Ty.fn (Ty.pair ab Ty.unit) (Ty.pair Ty.bool Ty.unit))) (b2 : den ab) (b3 : den ab) (b4 : den ae) : Env := Env.of [(0, K.yld 0), (2, K.ptr (0 + 1) (Ty.fn (Ty.pair ab Ty.unit) (Ty.pair Ty.bool Ty.unit)) []), (6, K.val (Ty.slc ab) v6), (7, K.val ae v7), (8, K.val ae v8)] [(0, Bx.lop LoopState.ready none [(4, K.ref tId b0_4), (8, K.ptr (0 + 1 + 1 + 1) ab []), (9, K.ptr (0 + 1 + 1 + 1 + 1) ae [])] 35 (mD aJ 5) (ed aJ 5) (gR aJ 5)), (1, Bx.cell (Ty.fn (Ty.pair ab Ty.unit) (Ty.pair Ty.bool Ty.unit)) b1), (2, Bx.cell ab b2), (3, Bx.cell ab b3), (4, Bx.cell ae b4)]
noncomputable def gO (v6 : den (Ty.slc ab)) (v7 : den ae) (v8 : den ae) (b0_4 : den tId) (b1 : den (Ty.fn (Ty.pair ab Ty.unit) (Ty.pair Ty.bool Ty.unit))) (b2 : den ab) (b3 : den ab) (b4 : den ae) : af := af.ite (decide (v8 < v7)) (af.req (inB v8 (lnx ab v6)) (af.req (oq (Ty.pair ab Ty.unit) (Ty.pair Ty.bool Ty.unit) b1) (af.ite (Prod.fst (uz (Ty.pair ab Ty.unit) (Ty.pair Ty.bool Ty.unit) b1 (el ab v6 v8, PUnit.unit))) (af.req (dH [(!decide (b4 = 0), false)] True) (af.req (dH [(!decide (b4 = 0), false)] True) (af.req (dH [(!decide (b4 = 0), false)] True) (af.ite (bif !decide (b4 = 0) then true else decide (lN (c5 b0_4 (Prod.fst (Prod.snd b3))) (c5 b0_4 (Prod.fst (Prod.snd (el ab v6 v8)))) < 0)) (af.loop [{ fx := c8, todo := c7 aJ 5, dst := none, s := ofS [(6, K.ptr (0 + 1 + 1) ab []), (8, K.ptr (0 + 1 + 1 + 1) ab []), (9, K.ptr (0 + 1 + 1 + 1 + 1) ae [])], rng := some 0 }] bJ (lp bC 1) [(0, K.yld 0), (2, K.ptr (0 + 1) (Ty.fn (Ty.pair ab Ty.unit) (Ty.pair Ty.bool Ty.unit)) []), (6, K.val (Ty.slc ab) v6), (7, K.val ae v7), (8, K.val ae (IntKind.wrap IntKind.i64 (v8 + 1)))] [(0, Bx.lop LoopState.ready none [(4, K.ref tId b0_4), (8, K.ptr (0 + 1 + 1 + 1) ab []), (9, K.ptr (0 + 1 + 1 + 1 + 1) ae [])] 35 (mD aJ 5) (ed aJ 5) (gR aJ 5)), (0 + 1, Bx.cell (Ty.fn (Ty.pair ab Ty.unit) (Ty.pair Ty.bool Ty.unit)) b1), (0 + 1 + 1, Bx.cell ab b2), (0 + 1 + 1 + 1, Bx.cell ab (el ab v6 v8)), (0 + 1 + 1 + 1 + 1, Bx.cell ae 0)]) (af.loop [{ fx := c8, todo := c7 aJ 5, dst := none, s := ofS [(6, K.ptr (0 + 1 + 1) ab []), (8, K.ptr (0 + 1 + 1 + 1) ab []), (9, K.ptr (0 + 1 + 1 + 1 + 1) ae [])], rng := some 0 }] bJ (lp bC 1) [(0, K.yld 0), (2, K.ptr (0 + 1) (Ty.fn (Ty.pair ab Ty.unit) (Ty.pair Ty.bool Ty.unit)) []), (6, K.val (Ty.slc ab) v6), (7, K.val ae v7), (8, K.val ae (IntKind.wrap IntKind.i64 (v8 + 1)))] [(0, Bx.lop LoopState.ready none [(4, K.ref tId b0_4), (8, K.ptr (0 + 1 + 1 + 1) ab []), (9, K.ptr (0 + 1 + 1 + 1 + 1) ae [])] 35 (mD aJ 5) (ed aJ 5) (gR aJ 5)), (0 + 1, Bx.cell (Ty.fn (Ty.pair ab Ty.unit) (Ty.pair Ty.bool Ty.unit)) b1), (0 + 1 + 1, Bx.cell ab b2), (0 + 1 + 1 + 1, Bx.cell ab b3), (0 + 1 + 1 + 1 + 1, Bx.cell ae b4)]))))) (af.loop [{ fx := c8, todo := c7 aJ 5, dst := none, s := ofS [(6, K.ptr (0 + 1 + 1) ab []), (8, K.ptr (0 + 1 + 1 + 1) ab []), (9, K.ptr (0 + 1 + 1 + 1 + 1) ae [])], rng := some 0 }] bJ (lp bC 1) [(0, K.yld 0), (2, K.ptr (0 + 1) (Ty.fn (Ty.pair ab Ty.unit) (Ty.pair Ty.bool Ty.unit)) []), (6, K.val (Ty.slc ab) v6), (7, K.val ae v7), (8, K.val ae (IntKind.wrap IntKind.i64 (v8 + 1)))] [(0, Bx.lop LoopState.ready none [(4, K.ref tId b0_4), (8, K.ptr (0 + 1 + 1 + 1) ab []), (9, K.ptr (0 + 1 + 1 + 1 + 1) ae [])] 35 (mD aJ 5) (ed aJ 5) (gR aJ 5)), (0 + 1, Bx.cell (Ty.fn (Ty.pair ab Ty.unit) (Ty.pair Ty.bool Ty.unit)) b1), (0 + 1 + 1, Bx.cell ab b2), (0 + 1 + 1 + 1, Bx.cell ab b3), (0 + 1 + 1 + 1 + 1, Bx.cell ae b4)])))) (af.ret (K.val (Ty.pair ab (Ty.pair ae Ty.unit)) (b3, b4, PUnit.unit)))
theorem c9 (v6 : den (Ty.slc ab)) (v7 : den ae) (v8 : den ae) (b0_4 : den tId) (b1 : den (Ty.fn (Ty.pair ab Ty.unit) (Ty.pair Ty.bool Ty.unit))) (b2 : den ab) (b3 : den ab) (b4 : den ae) : ap fy oI 5000 (dG v6 v7 v8 b0_4 b1 b2 b3 b4) bJ (lp bC 1) (dF v6 v7 v8 b0_4 b1 b2 b3 b4) = gO v6 v7 v8 b0_4 b1 b2 b3 b4 := by kernel_rfl
noncomputable abbrev uf : Fx := { fn := qS, ann := { }, share := true }
noncomputable abbrev vU : a8 := { D := { T := br, F := [(dh, dg), (fY, iz), (bz, bU), (it, ic)], R := [], ovl := [] }, inl := [] }
noncomputable abbrev Cm : bG := .data oG
theorem Ct (h_node_Right : aC prog [] dh dg) (h_ident_In : aC prog [] fY iz) (h_slices_Concat_Member : aC prog [] bz (bU)) (h_finger_Closest : aC prog [] it ic) : XOk prog vU := xok (aH (aH (aH (aH (aV bf aP) h_finger_Closest) h_slices_Concat_Member) h_ident_In) h_node_Right) (by kernel_rfl) aW bh bg
noncomputable def vS (n : den ag) (id : den tId) : af := af.req True (af.all (den Ty.bool) (fun (q2 : den Ty.bool) ↦ q2 = a9 n) fun (q2 : den Ty.bool) ↦ af.ite (!q2) (af.ret (K.val (Ty.pair ab (Ty.pair Ty.bool (Ty.pair ae Ty.unit))) (zero (Ty.pair ae (Ty.pair tId Ty.unit)), false, 1, PUnit.unit))) (af.req (inB 0 (lnx ab (Prod.fst (Prod.snd (Prod.snd n))))) (af.req True (af.all (den Ty.bool) (fun (q3 : den Ty.bool) ↦ q3 = nx id (Prod.fst (Prod.snd (Prod.fst n))) (Prod.fst (Prod.snd (el ab (Prod.fst (Prod.snd (Prod.snd n))) 0)))) fun (q3 : den Ty.bool) ↦ af.ite q3 (af.ret (K.val (Ty.pair ab (Ty.pair Ty.bool (Ty.pair ae Ty.unit))) (el ab (Prod.fst (Prod.snd (Prod.snd n))) 0, true, 0, PUnit.unit))) (af.req (List.length (List.flatten (List.set (List.set (List.replicate 2 (zero (Ty.slc ab))) 0 (Prod.fst (Prod.snd (Prod.snd (Prod.snd n))))) 1 (Prod.fst (Prod.snd (Prod.snd n))))) ≤ bM) (af.req True (af.all (den (Ty.slc ab)) (fun (q4 : den (Ty.slc ab)) ↦ q4 = List.flatten (List.set (List.set (List.replicate 2 (zero (Ty.slc ab))) 0 (Prod.fst (Prod.snd (Prod.snd (Prod.snd n))))) 1 (Prod.fst (Prod.snd (Prod.snd n))))) fun (q4 : den (Ty.slc ab)) ↦ af.all (den (Ty.pair ab (Ty.pair ae Ty.unit))) (fun (q5 : den (Ty.pair ab (Ty.pair ae Ty.unit))) ↦ q5 = (Prod.fst (cS id (Prod.fst (Prod.snd (Prod.fst n))) (List.flatten (List.set (List.set (List.replicate 2 (zero (Ty.slc ab))) 0 (Prod.fst (Prod.snd (Prod.snd (Prod.snd n))))) 1 (Prod.fst (Prod.snd (Prod.snd n)))))), Prod.snd (cS id (Prod.fst (Prod.snd (Prod.fst n))) (List.flatten (List.set (List.set (List.replicate 2 (zero (Ty.slc ab))) 0 (Prod.fst (Prod.snd (Prod.snd (Prod.snd n))))) 1 (Prod.fst (Prod.snd (Prod.snd n)))))), PUnit.unit)) fun (q5 : den (Ty.pair ab (Ty.pair ae Ty.unit))) ↦ af.ite (!decide (Prod.snd (cS id (Prod.fst (Prod.snd (Prod.fst n))) (List.flatten (List.set (List.set (List.replicate 2 (zero (Ty.slc ab))) 0 (Prod.fst (Prod.snd (Prod.snd (Prod.snd n))))) 1 (Prod.fst (Prod.snd (Prod.snd n)))))) = 0)) (af.req (inB 0 (lnx ab (Prod.fst (Prod.snd (Prod.snd n))))) (af.ret (K.val (Ty.pair ab (Ty.pair Ty.bool (Ty.pair ae Ty.unit))) (el ab (Prod.fst (Prod.snd (Prod.snd n))) 0, false, 0, PUnit.unit)))) (af.ret (K.val (Ty.pair ab (Ty.pair Ty.bool (Ty.pair ae Ty.unit))) (Prod.fst (cS id (Prod.fst (Prod.snd (Prod.fst n))) (List.flatten (List.set (List.set (List.replicate 2 (zero (Ty.slc ab))) 0 (Prod.fst (Prod.snd (Prod.snd (Prod.snd n))))) 1 (Prod.fst (Prod.snd (Prod.snd n)))))), false, 0, PUnit.unit))))))))))
theorem za (n : den ag) (id : den tId) : ap vU Cm 5000 [] uf (aI qS) (Env.of (aN tl (n, id, ()) 0) []) = vS n id := by kernel_rfl
noncomputable abbrev ci : Fx := { fn := bT, ann := { loops := [(2, { keep := [0, 1, 7, 8] })] } }
noncomputable abbrev dX : a8 := { D := { T := br, F := [], R := [], ovl := [] }, inl := [] }
noncomputable abbrev j1 : bG := .data fA
theorem fN : XOk prog dX := xok ((aV bf aP)) (by kernel_rfl) aW bh bg
noncomputable def j3 (s : den (Ty.slc ag)) (f : den (Ty.fn (Ty.pair ag Ty.unit) (Ty.pair Ty.bool Ty.unit))) : af := af.loop [] ci (lp bT 2) [(0, K.val (Ty.slc ag) s), (1, K.val (Ty.fn (Ty.pair ag Ty.unit) (Ty.pair Ty.bool Ty.unit)) f), (7, K.val ae (lnx ag s)), (8, K.val ae 0)] []
theorem nI (s : den (Ty.slc ag)) (f : den (Ty.fn (Ty.pair ag Ty.unit) (Ty.pair Ty.bool Ty.unit))) : ap dX j1 5000 [] ci (aI bT) (Env.of (aN jy (s, f, ()) 0) []) = j3 s f := by kernel_rfl
noncomputable def jb (v0 : den (Ty.slc ag)) (v1 : den (Ty.fn (Ty.pair ag Ty.unit) (Ty.pair Ty.bool Ty.unit))) (v7 : den ae) (v8 : den ae) : Env := Env.of [(0, K.val (Ty.slc ag) v0), (1, K.val (Ty.fn (Ty.pair ag Ty.unit) (Ty.pair Ty.bool Ty.unit)) v1), (7, K.val ae v7), (8, K.val ae v8)] []
noncomputable def nD (v0 : den (Ty.slc ag)) (v1 : den (Ty.fn (Ty.pair ag Ty.unit) (Ty.pair Ty.bool Ty.unit))) (v7 : den ae) (v8 : den ae) : af := af.ite (decide (v8 < v7)) (af.req (inB v8 (lnx ag v0)) (af.req (oq (Ty.pair ag Ty.unit) (Ty.pair Ty.bool Ty.unit) v1) (af.ite (Prod.fst (uz (Ty.pair ag Ty.unit) (Ty.pair Ty.bool Ty.unit) v1 (el ag v0 v8, PUnit.unit))) (af.ret (K.val (Ty.pair ae Ty.unit) (v8, PUnit.unit))) (af.loop [] ci (lp bT 2) [(0, K.val (Ty.slc ag) v0), (1, K.val (Ty.fn (Ty.pair ag Ty.unit) (Ty.pair Ty.bool Ty.unit)) v1), (7, K.val ae v7), (8, K.val ae (IntKind.wrap IntKind.i64 (v8 + 1)))] [])))) (af.ret (K.val (Ty.pair ae Ty.unit) (-1, PUnit.unit)))
theorem gD (v0 : den (Ty.slc ag)) (v1 : den (Ty.fn (Ty.pair ag Ty.unit) (Ty.pair Ty.bool Ty.unit))) (v7 : den ae) (v8 : den ae) : ap dX j1 5000 [] ci (lp bT 2) (jb v0 v1 v7 v8) = nD v0 v1 v7 v8 := by kernel_rfl
noncomputable abbrev g9 : Fx := { fn := fe, ann := { } }
noncomputable abbrev iJ : a8 := { D := { T := br, F := [(cq, co)], R := [], ovl := [] }, inl := [] }
noncomputable abbrev nJ : bG := .data hP
theorem nF (h_slices_IndexFunc_Node : aC prog [] cq co) : XOk prog iJ := xok (aH (aV bf aP) h_slices_IndexFunc_Node) (by kernel_rfl) aW bh bg
noncomputable def iM (s : den (Ty.slc ag)) (f : den (Ty.fn (Ty.pair ag Ty.unit) (Ty.pair Ty.bool Ty.unit))) : af := af.req (∃ (h : den (Ty.pair ag Ty.unit) → den (Ty.pair Ty.bool Ty.unit)), f = some h) (af.ret (K.val (Ty.pair Ty.bool Ty.unit) (decide (0 ≤ ixQ (prQ f) s 0), PUnit.unit)))
theorem lY (s : den (Ty.slc ag)) (f : den (Ty.fn (Ty.pair ag Ty.unit) (Ty.pair Ty.bool Ty.unit))) : ap iJ nJ 5000 [] g9 (aI fe) (Env.of (aN hH (s, f, ()) 0) []) = iM s f := by kernel_rfl
noncomputable abbrev pz : Fx := { fn := lD, ann := { } }
noncomputable abbrev pZ : a8 := { D := { T := br, F := [], R := [], ovl := [] }, inl := [] }
noncomputable abbrev xV : bG := .data o9
theorem yb : XOk prog pZ := xok ((aV bf aP)) (by kernel_rfl) aW bh bg
noncomputable def qc (n : den ag) (no : den (Ty.ref ae)) : af := af.ret (K.val (Ty.pair Ty.bool Ty.unit) (decide (Prod.fst (Prod.fst n) = no), PUnit.unit))
theorem tI (n : den ag) (no : den (Ty.ref ae)) : ap pZ xV 5000 [] pz (aI lD) (Env.of (aN oV (n, no, ()) 0) []) = qc n no := by kernel_rfl
noncomputable abbrev oC : Fx := { fn := lF, ann := { } }
noncomputable abbrev qt : a8 := { D := { T := br, F := [], R := [], ovl := [] }, inl := [] }
noncomputable abbrev xo : bG := .data pc
theorem xi : XOk prog qt := xok ((aV bf aP)) (by kernel_rfl) aW bh bg
noncomputable def pU (n : den ag) (m : den (Ty.ref ab)) : af := af.ret (K.val (Ty.pair Ty.bool Ty.unit) (decide (Prod.fst (Prod.fst n) = Prod.fst m), PUnit.unit))
theorem tE (n : den ag) (m : den (Ty.ref ab)) : ap qt xo 5000 [] oC (aI lF) (Env.of (aN oW (n, m, ()) 0) []) = pU n m := by kernel_rfl
noncomputable abbrev eB : Fx := { fn := dP, ann := { loops := [(3, { keep := [3, 7, 8, 9], own := [(3, ab)] })] } }
noncomputable abbrev i7 : a8 := { D := { T := br, F := [], R := [], ovl := [] }, inl := [] }
noncomputable abbrev pM : bG := .data kU
theorem lQ : XOk prog i7 := xok ((aV bf aP)) (by kernel_rfl) aW bh bg
noncomputable def p4 (o : den ah) : af := af.loop [] eB (lp dP 3) [(3, K.sl 0 ab), (7, K.val (Ty.slc ag) (Prod.fst o)), (8, K.val ae (lnx ag (Prod.fst o))), (9, K.val ae 0)] [(0, Bx.row ab [])]
theorem tt (o : den ah) : ap i7 pM 5000 [] eB (aI dP) (Env.of (aN oH (o, ()) 0) []) = p4 o := by kernel_rfl
noncomputable def nP (v7 : den (Ty.slc ag)) (v8 : den ae) (v9 : den ae) (b0 : List (den ab)) : Env := Env.of [(3, K.sl 0 ab), (7, K.val (Ty.slc ag) v7), (8, K.val ae v8), (9, K.val ae v9)] [(0, Bx.row ab b0)]
noncomputable def uI (v7 : den (Ty.slc ag)) (v8 : den ae) (v9 : den ae) (b0 : List (den ab)) : af := af.ite (decide (v9 < v8)) (af.req (inB v9 (lnx ag v7)) (af.req (List.length (b0 ++ List.set (List.replicate 1 (zero ab)) 0 (Prod.fst (el ag v7 v9))) ≤ bM) (af.loop [] eB (lp dP 3) [(3, K.sl 0 ab), (7, K.val (Ty.slc ag) v7), (8, K.val ae v8), (9, K.val ae (IntKind.wrap IntKind.i64 (v9 + 1)))] [(0, Bx.row ab (b0 ++ List.set (List.replicate 1 (zero ab)) 0 (Prod.fst (el ag v7 v9))))]))) (af.ret (K.val (Ty.pair (Ty.slc ab) Ty.unit) (b0, PUnit.unit)))
theorem ll (v7 : den (Ty.slc ag)) (v8 : den ae) (v9 : den ae) (b0 : List (den ab)) : ap i7 pM 5000 [] eB (lp dP 3) (nP v7 v8 v9 b0) = uI v7 v8 v9 b0 := by kernel_rfl
noncomputable abbrev fT : Fx := { fn := fw, ann := { loops := [(2, { keep := [1, 4, 9, 10, 11] })] } }
noncomputable abbrev lV : a8 := { D := { T := br, F := [], R := [], ovl := [] }, inl := [] }
noncomputable abbrev tA : bG := .data nw
theorem o8 : XOk prog lV := xok ((aV bf aP)) (by kernel_rfl) aW bh bg
noncomputable def tL (o : den ah) (no : den ae) : af := af.loop [] fT (lp fw 2) [(1, K.val ae no), (4, K.ptr 0 ab []), (9, K.val (Ty.slc ag) (Prod.fst o)), (10, K.val ae (lnx ag (Prod.fst o))), (11, K.val ae 0)] [(0, Bx.cell ab (zero ab))]
theorem xv (o : den ah) (no : den ae) : ap lV tA 5000 [] fT (aI fw) (Env.of (aN sN (o, no, ()) 0) []) = tL o no := by kernel_rfl
noncomputable def rE (v1 : den ae) (v9 : den (Ty.slc ag)) (v10 : den ae) (v11 : den ae) (b0 : den ab) : Env := Env.of [(1, K.val ae v1), (4, K.ptr 0 ab []), (9, K.val (Ty.slc ag) v9), (10, K.val ae v10), (11, K.val ae v11)] [(0, Bx.cell ab b0)]
noncomputable def xt (v1 : den ae) (v9 : den (Ty.slc ag)) (v10 : den ae) (v11 : den ae) (b0 : den ab) : af := af.ite (decide (v11 < v10)) (af.req (inB v11 (lnx ag v9)) (af.ite (decide (Prod.fst (Prod.fst (el ag v9 v11)) = v1)) (af.ret (K.val (Ty.pair ab (Ty.pair Ty.bool Ty.unit)) (Prod.fst (el ag v9 v11), true, PUnit.unit))) (af.loop [] fT (lp fw 2) [(1, K.val ae v1), (4, K.ptr 0 ab []), (9, K.val (Ty.slc ag) v9), (10, K.val ae v10), (11, K.val ae (IntKind.wrap IntKind.i64 (v11 + 1)))] [(0, Bx.cell ab b0)]))) (af.ret (K.val (Ty.pair ab (Ty.pair Ty.bool Ty.unit)) (zero (Ty.pair ae (Ty.pair tId Ty.unit)), false, PUnit.unit)))
theorem m9 (v1 : den ae) (v9 : den (Ty.slc ag)) (v10 : den ae) (v11 : den ae) (b0 : den ab) : ap lV tA 5000 [] fT (lp fw 2) (rE v1 v9 v10 v11 b0) = xt v1 v9 v10 v11 b0 := by kernel_rfl
noncomputable abbrev rT : Fx := { fn := nK, ann := { } }
noncomputable abbrev sT : a8 := { D := { T := br, F := [(bz, bU), (eI, eE)], R := [], ovl := [] }, inl := [] }
noncomputable abbrev z7 : bG := .data qn
theorem Ah (h_slices_Concat_Member : aC prog [] bz (bU)) (h_slices_Values_Member : aC prog [] eI eE) : XOk prog sT := xok (aH (aH (aV bf aP) h_slices_Values_Member) h_slices_Concat_Member) (by kernel_rfl) aW bh bg
noncomputable def s4 (n : den ag) : af := af.req (List.length (List.flatten (List.set (List.set (List.set (List.replicate 3 (zero (Ty.slc ab))) 0 (List.set (List.replicate 1 (zero ab)) 0 (Prod.fst (Prod.snd n)))) 1 (Prod.fst (Prod.snd (Prod.snd n)))) 2 (Prod.fst (Prod.snd (Prod.snd (Prod.snd n)))))) ≤ bM) (af.req True (af.ret (K.val (Ty.pair (Ty.clo cQ (Ty.pair (Ty.ref (Ty.slc ab)) Ty.unit)) Ty.unit) ((List.flatten (List.set (List.set (List.set (List.replicate 3 (zero (Ty.slc ab))) 0 (List.set (List.replicate 1 (zero ab)) 0 (Prod.fst (Prod.snd n)))) 1 (Prod.fst (Prod.snd (Prod.snd n)))) 2 (Prod.fst (Prod.snd (Prod.snd (Prod.snd n))))), PUnit.unit), PUnit.unit))))
theorem w5 (n : den ag) : ap sT z7 5000 [] rT (aI nK) (Env.of (aN rh (n, ()) 0) []) = s4 n := by kernel_rfl
end Go.Proofs.Ytimdnodkabnbfaa
namespace Go.Proofs.Ytimdnodkabnbfaa
open Go Go.RowKit
abbrev GCl (O : Nat → Prop) (w0 : World) (y : Mem × Int) := bw prog fy (Cx.base O w0) (cv prog O w0 j8 fun z => z = (y.1, y.2, ()))
theorem j7 : XOk prog fy := wM vA pX uu
def Eq (O : Nat → Prop) (w0 : World) (id self : List Int) (l : List Mem) (z : Mem) (hm : l.length ≤ maxLen) :=
 PLift.up <| bF (σ := Mem × Int) l.length (fun i s => s = ((l.take i).filter (lI self id)).foldl (fF self) (zero ab, 6))
  (fun i s => GCl O w0 (cS id self l) (dG l (lnx ab l) (i : Nat) self (some fun y => (lI self id y.1, PUnit.unit)) z s.1 s.2) bJ (lp bC 1) (dF l (lnx ab l) (i : Nat) self (some fun y => (lI self id y.1, PUnit.unit)) z s.1 s.2))
  (fun i s hi hs ih => aO j7 (c9 l _ _ self _ z s.1 s.2) (by
   have e : ((l.take (i + 1)).filter (lI self id)).foldl (fF self) (zero ab, 6) = ([l[i]].filter (lI self id)).foldl (fF self) s := by
    rw [List.take_succ_eq_append_getElem hi, List.filter_append, List.foldl_append, ← hs]
   refine ⟨fun _ => ⟨be hi, ⟨_, rfl⟩, ?_⟩, fun hc => absurd hi (by rw [cp] at hc; exact of_decide_eq_false hc)⟩
   rw [cn hi, cF hi hm]
   refine ⟨fun hc => ⟨fun _ => trivial, fun _ => trivial, fun _ => trivial, fun h2 => ih (l[i], 0) ?_, fun h2 => ih s ?_⟩, fun hc => ih s ?_⟩
   ·have hc : lI self id l[i] = true := hc
    rw [e, List.filter_cons_of_pos hc]
    show _ = fF self s l[i]
    unfold fF
    have h2 : (bif !decide (s.2 = 0) then true else decide (lN (c5 self s.1.2.1) (c5 self l[i].2.1) < 0)) = true := h2
    rw [h2]; rfl
   ·have hc : lI self id l[i] = true := hc
    rw [e, List.filter_cons_of_pos hc]
    show _ = fF self s l[i]
    unfold fF
    have h2 : (bif !decide (s.2 = 0) then true else decide (lN (c5 self s.1.2.1) (c5 self l[i].2.1) < 0)) = false := h2
    rw [h2]; rfl
   ·have hc : lI self id l[i] = false := hc
    rw [e, List.filter_cons_of_neg (by rw [hc]; decide)]
    rfl))
  (fun s hs => aO j7 (c9 l _ _ self _ z s.1 s.2) ⟨fun hc => absurd (of_decide_eq_true hc) (Int.lt_irrefl _), fun _ => ⟨_, rfl, by
   rw [List.take_length] at hs
   show (s.1, s.2, ()) = ((cS id self l).1, (cS id self l).2, ())
   rw [hs]; rfl⟩⟩)
theorem wD : aC prog [] it ic :=
 bY (S := ic) j7 (fx := c8) vf (by kernel_rfl) (fun _ _ => trivial) (T := fun x => py x.1 x.2.1 x.2.2.1) (fun x => tb x.1 x.2.1 x.2.2.1) fun O w0 x hk _ =>
  ⟨fun _ => trivial, (Eq O w0 x.1 x.2.1 x.2.2.1 (zero ab) hk.2.2.1.1).down 0 (zero ab, 6) (Nat.zero_le _) rfl⟩
theorem Iq (z a b : List Mem) : List.flatten (List.set (List.set (List.replicate 2 z) 0 a) 1 b) = a ++ b := by
 simp [List.replicate]
theorem GO (z a b c : List Mem) : List.flatten (List.set (List.set (List.set (List.replicate 3 z) 0 a) 1 b) 2 c) = a ++ b ++ c := by
 simp [List.replicate]
theorem Cl : aC prog [] m3 kE :=
  bY (S := kE) (Ct lw so fO wD) (fx := uf) A4 (by kernel_rfl) (fun _ _ => trivial) (T := fun x => vS x.1 x.2.1) (fun x => za x.1 x.2.1) fun O w0 x _ _ => by
    obtain ⟨n, id, ⟨⟩⟩ := x
    have leaf : ∀ {p : Mem × Bool × Int}, da n id = p → ∃ z, a6 oG (K.val (Ty.pair ab (Ty.pair Ty.bool (Ty.pair ae Ty.unit))) (p.1, p.2.1, p.2.2, PUnit.unit)) = some z ∧ z = kE.g (n, id, ()) := fun {p} e =>
      ⟨_, rfl, by show (p.1, p.2.1, p.2.2, ()) = ((da n id).1, (da n id).2.1, (da n id).2.2, ()); rw [e]⟩
    refine ⟨trivial, bE ⟨fun h => leaf (p := (_, _, _)) ?_, fun h => ?_⟩⟩
    · unfold da; rw [h]; rfl
    · have hr : a9 n = true := by
        have h : (!a9 n) = false := h
        simpa using h
      obtain ⟨l1, l2, l3⟩ := Bd hr
      have hfl := Iq (zero (Ty.slc ab)) n.2.2.2.1 n.2.2.1
      refine ⟨be l2, trivial, bE ⟨fun h2 => leaf (p := (_, _, _)) ?_, fun h2 => ⟨?_, trivial, bE (bE ⟨fun h3 => ⟨be l2, leaf (p := (_, _, _)) ?_⟩, fun h3 => leaf (p := (_, _, _)) ?_⟩)⟩⟩⟩
      · unfold da; rw [h, h2]; rfl
      · rw [hfl, List.length_append]; exact Nat.le_trans (Nat.add_le_add l3 l1) (by decide)
      · rw [hfl] at h3
        unfold da; rw [h, h2, h3]; rfl
      · rw [hfl] at h3 ⊢
        unfold da; rw [h, h2, h3]; rfl
abbrev GIq (O : Nat → Prop) (w0 : World) (y : Int) := bw prog dX (Cx.base O w0) (cv prog O w0 fA fun z => z = (y, ()))
def Ab (O : Nat → Prop) (w0 : World) (xs : List Nd) (f : den (.fn (.pair ag .unit) (.pair .bool .unit))) (hf : oq (.pair ag .unit) (.pair .bool .unit) f) (hm : xs.length ≤ maxLen) (y : Int) (hy : y = ixQ (prQ f) xs 0) :=
 PLift.up <| bF (σ := Unit) xs.length (fun i _ => ixQ (prQ f) (xs.drop i) (i : Nat) = y)
  (fun i _ => GIq O w0 y [] ci (lp bT 2) (jb xs f (lnx ag xs) (i : Nat)))
  (fun i _ hi hs ih => aO fN (gD xs f _ _) (by
   rw [List.drop_eq_getElem_cons hi] at hs
   have hs : (bif prQ f xs[i] then ((i : Nat) : Int) else ixQ (prQ f) (xs.drop (i + 1)) (((i : Nat) : Int) + 1)) = y := hs
   refine ⟨fun _ => ⟨be hi, hf, ?_⟩, fun hc => absurd hi (by rw [cp (e := ag)] at hc; exact of_decide_eq_false hc)⟩
   rw [cn (e := ag) hi, cF hi hm]
   refine ⟨fun hc => ⟨_, rfl, ?_⟩, fun hc => ih () ?_⟩
   ·have hc : prQ f xs[i] = true := hc
    rw [hc] at hs
    rw [← hs]
    rfl
   ·have hc : prQ f xs[i] = false := hc
    rw [hc] at hs
    exact hs))
  (fun _ hs => aO fN (gD xs f _ _) (by
   refine ⟨fun hc => absurd (of_decide_eq_true hc) (Int.lt_irrefl _), fun _ => ⟨_, rfl, ?_⟩⟩
   rw [List.drop_length] at hs
   rw [← hs]
   rfl))
theorem j5 : aC prog [] cq co :=
 bY (S := co) fN (fx := ci) oR (by kernel_rfl) (fun h => by cases h) (T := fun x => j3 x.1 x.2.1) (fun x => nI x.1 x.2.1) fun O w0 x hk hp =>
  (Ab O w0 x.1 x.2.1 hp hk.1.1 _ rfl).down 0 () (Nat.zero_le _) rfl
theorem C3 (p : Nd → Bool) : ∀ (l : List Nd) (i : Int), 0 ≤ i → decide (0 ≤ ixQ p l i) = l.any p
 | [], _, _ => rfl
 | x :: l, i, hi => by
  show decide (0 ≤ (bif p x then i else ixQ p l (i + 1))) = (p x || l.any p)
  cases p x with
  | true => exact decide_eq_true hi
  | false => exact C3 p l (i + 1) (by omega)
theorem ns : aC prog [] dn dl :=
 bY (S := dl) (nF j5) (fx := g9) m5 (by kernel_rfl) (fun h => by cases h) (T := fun x => iM x.1 x.2.1) (fun x => lY x.1 x.2.1) fun O w0 x _ hp =>
  ⟨hp, _, rfl, by show (decide (0 ≤ ixQ (prQ x.2.1) x.1 0), ()) = (List.any x.1 (prQ x.2.1), ()); rw [C3 _ _ 0 (Int.le_refl _)]⟩
theorem xe : aC prog [] jg ja :=
 bY (S := ja) yb (fx := pz) wn (by kernel_rfl) (fun _ _ => trivial) (T := fun x => qc x.1 x.2.1) (fun x => tI x.1 x.2.1) fun O w0 x _ _ => ⟨_, rfl, rfl⟩
theorem xX : aC prog [] ji jd :=
 bY (S := jd) xi (fx := oC) wg (by kernel_rfl) (fun _ _ => trivial) (T := fun x => pU x.1 x.2.1) (fun x => tE x.1 x.2.1) fun O w0 x _ _ => ⟨_, rfl, rfl⟩
abbrev GMb (O : Nat → Prop) (w0 : World) (y : List Mem) := bw prog i7 (Cx.base O w0) (cv prog O w0 kU fun z => z = (y, ()))
def Eb (O : Nat → Prop) (w0 : World) (l : List Nd) (hm : l.length ≤ 1000000) :=
 PLift.up <| bF (σ := List Mem) l.length (fun i b => b = (l.take i).map sfN)
  (fun i b => GMb O w0 (cX l) [] eB (lp dP 3) (nP l (lnx ag l) (i : Nat) b))
  (fun i b hi hs ih => aO lQ (ll l _ _ b) (by
   refine ⟨fun _ => ⟨be hi, ?_, ?_⟩, fun hc => absurd hi (by rw [cp (e := ag)] at hc; exact of_decide_eq_false hc)⟩
   ·rw [List.length_append, hs, List.length_map, List.length_take]
    exact Nat.le_trans (show min i l.length + 1 ≤ 1000001 by omega) (by decide)
   ·rw [cn (e := ag) hi, cF hi (Nat.le_trans hm (by decide))]
    refine ih _ ?_
    rw [List.take_succ_eq_append_getElem hi, List.map_append, hs]; rfl))
  (fun b hs => aO lQ (ll l _ _ b) ⟨fun hc => absurd (of_decide_eq_true hc) (Int.lt_irrefl _), fun _ => ⟨_, rfl, by
   rw [List.take_length] at hs
   rw [hs]; rfl⟩⟩)
theorem qr : aC prog [] eZ eQ :=
 bY (S := eQ) lQ (fx := eB) wc (by kernel_rfl) (fun h => by cases h) (T := fun x => p4 x.1) (fun x => tt x.1) fun O w0 x _ hp =>
  (Eb O w0 x.1.1 hp).down 0 [] (Nat.zero_le _) rfl
theorem DJ (n : Nd) (l : List Nd) (no : Int) : fJ (n :: l) no = bif decide (n.1.1 = no) then (n.1, true) else fJ l no := by
 unfold fJ
 rw [List.find?_cons]
 cases decide (n.1.1 = no) <;> rfl
abbrev GSf (O : Nat → Prop) (w0 : World) (y : Mem × Bool) := bw prog lV (Cx.base O w0) (cv prog O w0 nw fun z => z = (y.1, y.2, ()))
def HI (O : Nat → Prop) (w0 : World) (l : List Nd) (no : Int) (z : Mem) (hm : l.length ≤ maxLen) :=
 PLift.up <| bF (σ := Unit) l.length (fun i _ => fJ (l.drop i) no = fJ l no)
  (fun i _ => GSf O w0 (fJ l no) [] fT (lp fw 2) (rE no l (lnx ag l) (i : Nat) z))
  (fun i _ hi hs ih => aO o8 (m9 no l _ _ z) (by
   rw [List.drop_eq_getElem_cons hi, DJ] at hs
   refine ⟨fun _ => ⟨be hi, ?_⟩, fun hc => absurd hi (by rw [cp (e := ag)] at hc; exact of_decide_eq_false hc)⟩
   rw [cn (e := ag) hi, cF hi hm]
   refine ⟨fun hc => ⟨_, rfl, ?_⟩, fun hc => ih () ?_⟩
   ·have hc : decide (l[i].1.1 = no) = true := hc
    rw [hc] at hs
    show (_, _, _) = ((fJ l no).1, (fJ l no).2, ())
    rw [← hs]; rfl
   ·have hc : decide (l[i].1.1 = no) = false := hc
    rw [hc] at hs
    exact hs))
  (fun _ hs => aO o8 (m9 no l _ _ z) ⟨fun hc => absurd (of_decide_eq_true hc) (Int.lt_irrefl _), fun _ => ⟨_, rfl, by
   rw [List.drop_length] at hs
   show (_, _, _) = ((fJ l no).1, (fJ l no).2, ())
   rw [← hs]; rfl⟩⟩)
theorem B0 : aC prog [] lC lx :=
 bY (S := lx) o8 (fx := fT) Ag (by kernel_rfl) (fun _ _ => trivial) (T := fun x => tL x.1 x.2.1) (fun x => xv x.1 x.2.1) fun O w0 x hk _ =>
  (HI O w0 x.1.1 x.2.1 _ hk.1.1.1).down 0 () (Nat.zero_le _) rfl
theorem z0 : aC prog [] kQ kL :=
 bY (S := kL) (Ah fO qH) (fx := rT) yP (by kernel_rfl) (fun h => by cases h) (T := fun x => s4 x.1) (fun x => w5 x.1) fun O w0 x _ hp => by
  obtain ⟨n, ⟨⟩⟩ := x
  have hp : (bW n).length ≤ 1000000 := hp
  have hf : List.flatten (List.set (List.set (List.set (List.replicate 3 (zero (Ty.slc ab))) 0 (List.set (List.replicate 1 (zero ab)) 0 n.2.1)) 1 n.2.2.1) 2 n.2.2.2.1) = bW n := GO _ _ _ _
  refine ⟨by rw [hf]; exact Nat.le_trans hp (by decide), trivial, _, rfl, ?_⟩
  rw [hf]
end Go.Proofs.Ytimdnodkabnbfaa
namespace Go.Proofs.Ytimdnodkabnbfaa
open Go Go.RowKit
noncomputable abbrev cj : Fx := { fn := ce, ann := { loops := [(1, { keep := [0, 5, 6, 7] })], frz := [(1000001, [1, 2, 3, 12, 13, 14])], gy := true }, share := true }
noncomputable abbrev cG : Fx := { fn := a5, ann := { loops := [(3, { keep := [1, 2, 3, 12, 13, 14, 42] })] }, share := true }
noncomputable abbrev fR : a8 := { D := { T := br, F := [(eZ, eQ), (dh, dg), (kQ, kL), (lC, lx), (lH, lT)], R := [], ovl := [] }, inl := [(cQ, cj)] }
noncomputable abbrev nv : bG := .data mK
theorem Af (h_chord_Members : aC prog [] eZ eQ) (h_node_Right : aC prog [] dh dg) (h_chord_known : aC prog [] kQ kL) (h_chord_self : aC prog [] lC lx) (h_ring_Right : aC prog [] lH lT) : XOk prog fR := xok (aH (aH (aH (aH (aH (aV bf aP) h_ring_Right) h_chord_self) h_chord_known) h_node_Right) h_chord_Members) (by kernel_rfl) aW (k9 n5 (by kernel_rfl) bh) bg
noncomputable def sZ (o : den ah) : af := af.req (List.length (Prod.fst o) ≤ 1000000) (af.all (den (Ty.slc ab)) (fun (q1 : den (Ty.slc ab)) ↦ q1 = cX (Prod.fst o)) fun (q1 : den (Ty.slc ab)) ↦ af.loop [] cG (lp a5 3) [(1, K.ptr 0 ah []), (2, K.ptr (0 + 1) Ty.bool []), (3, K.val (Ty.slc ab) q1), (12, K.val (Ty.slc ag) (Prod.fst o)), (13, K.val ae (lnx ag (Prod.fst o))), (14, K.val ae 0)] [(0, Bx.cell ah o), (0 + 1, Bx.cell Ty.bool (zero Ty.bool))])
theorem wz (o : den ah) : ap fR nv 5000 [] cG (aI a5) (Env.of (aN rq (o, ()) 0) []) = sZ o := by kernel_rfl
noncomputable def lE (v3 : den (Ty.slc ab)) (v12 : den (Ty.slc ag)) (v13 : den ae) (v14 : den ae) (b0 : den ah) (b1 : den Ty.bool) : Env := Env.of [(1, K.ptr 0 ah []), (2, K.ptr (0 + 1) Ty.bool []), (3, K.val (Ty.slc ab) v3), (12, K.val (Ty.slc ag) v12), (13, K.val ae v13), (14, K.val ae v14)] [(0, Bx.cell ah b0), (1, Bx.cell Ty.bool b1)]
noncomputable def wZ (v3 : den (Ty.slc ab)) (v12 : den (Ty.slc ag)) (v13 : den ae) (v14 : den ae) (b0 : den ah) (b1 : den Ty.bool) : af := af.ite (decide (v14 < v13)) (af.req (inB v14 (lnx ag v12)) (af.req True (af.req (dH [(!a9 (el ag v12 v14), false), (decide (0 < v14), true)] (inB (IntKind.wrap IntKind.i64 (v14 - 1)) (lnx ag (Prod.fst b0)))) (af.all (den Ty.bool) (fun (q6 : den Ty.bool) ↦ q6 = a9 (el ag v12 v14)) fun (q6 : den Ty.bool) ↦ af.ite (bif !a9 (el ag v12 v14) then true else bif decide (0 < v14) then decide (Prod.fst (Prod.fst (el ag v12 v14)) ≤ Prod.fst (Prod.fst (el ag (Prod.fst b0) (IntKind.wrap IntKind.i64 (v14 - 1))))) else false) (af.ret (K.val (Ty.pair Ty.bool Ty.unit) (false, PUnit.unit))) (af.req (List.length (bW (el ag v12 v14)) ≤ 1000000) (af.loop [{ fx := cG, todo := c7 a5 9, dst := none, s := ofS [(1, K.ptr (0 + 1) ah []), (2, K.ptr (0 + 1 + 1) Ty.bool []), (3, K.val (Ty.slc ab) v3), (12, K.val (Ty.slc ag) v12), (13, K.val ae v13), (14, K.val ae v14)], rng := some 0 }] cj (lp ce 1) [(0, K.yld 0), (5, K.val (Ty.slc ab) (bW (el ag v12 v14))), (6, K.val ae (lnx ab (bW (el ag v12 v14)))), (7, K.val ae 0)] [(0, Bx.lop LoopState.ready none [(1, K.ptr (0 + 1) ah []), (2, K.ptr (0 + 1 + 1) Ty.bool [])] 59 (mD a5 9) (ed a5 9) (gR a5 9)), (0 + 1, Bx.cell ah b0), (0 + 1 + 1, Bx.cell Ty.bool b1)])))))) (af.req True (af.all (den Ty.bool) (fun (q6 : den Ty.bool) ↦ q6 = io v3) fun (q6 : den Ty.bool) ↦ af.ret (K.val (Ty.pair Ty.bool Ty.unit) (q6, PUnit.unit))))
theorem ma (v3 : den (Ty.slc ab)) (v12 : den (Ty.slc ag)) (v13 : den ae) (v14 : den ae) (b0 : den ah) (b1 : den Ty.bool) : ap fR nv 5000 [] cG (lp a5 3) (lE v3 v12 v13 v14 b0 b1) = wZ v3 v12 v13 v14 b0 b1 := by kernel_rfl
noncomputable def d6 (w0_3 : den (Ty.slc ab)) (w0_12 : den (Ty.slc ag)) (w0_13 : den ae) (w0_14 : den ae) (v5 : den (Ty.slc ab)) (v6 : den ae) (v7 : den ae) (b1 : den ah) (b2 : den Ty.bool) : List bN := [{ fx := cG, todo := c7 a5 9, dst := none, s := ofS [(1, K.ptr (0 + 1) ah []), (2, K.ptr (0 + 1 + 1) Ty.bool []), (3, K.val (Ty.slc ab) w0_3), (12, K.val (Ty.slc ag) w0_12), (13, K.val ae w0_13), (14, K.val ae w0_14)], rng := some 0 }]
noncomputable def dY (w0_3 : den (Ty.slc ab)) (w0_12 : den (Ty.slc ag)) (w0_13 : den ae) (w0_14 : den ae) (v5 : den (Ty.slc ab)) (v6 : den ae) (v7 : den ae) (b1 : den ah) (b2 : den Ty.bool) : Env := Env.of [(0, K.yld 0), (5, K.val (Ty.slc ab) v5), (6, K.val ae v6), (7, K.val ae v7)] [(0, Bx.lop LoopState.ready none [(1, K.ptr (0 + 1) ah []), (2, K.ptr (0 + 1 + 1) Ty.bool [])] 59 (mD a5 9) (ed a5 9) (gR a5 9)), (1, Bx.cell ah b1), (2, Bx.cell Ty.bool b2)]
noncomputable def iH (w0_3 : den (Ty.slc ab)) (w0_12 : den (Ty.slc ag)) (w0_13 : den ae) (w0_14 : den ae) (v5 : den (Ty.slc ab)) (v6 : den ae) (v7 : den ae) (b1 : den ah) (b2 : den Ty.bool) : af := af.ite (decide (v7 < v6)) (af.req (inB v7 (lnx ab v5)) (af.req True (af.all (den (Ty.pair ab (Ty.pair Ty.bool Ty.unit))) (fun (q9 : den (Ty.pair ab (Ty.pair Ty.bool Ty.unit))) ↦ q9 = (Prod.fst (fJ (Prod.fst b1) (Prod.fst (el ab v5 v7))), Prod.snd (fJ (Prod.fst b1) (Prod.fst (el ab v5 v7))), PUnit.unit)) fun (q9 : den (Ty.pair ab (Ty.pair Ty.bool Ty.unit))) ↦ af.ite (bif Prod.fst (Prod.snd q9) then !eqb ab (Prod.fst q9) (el ab v5 v7) else false) (af.ret (K.val (Ty.pair Ty.bool Ty.unit) (false, PUnit.unit))) (af.loop [{ fx := cG, todo := c7 a5 9, dst := none, s := ofS [(1, K.ptr (0 + 1) ah []), (2, K.ptr (0 + 1 + 1) Ty.bool []), (3, K.val (Ty.slc ab) w0_3), (12, K.val (Ty.slc ag) w0_12), (13, K.val ae w0_13), (14, K.val ae w0_14)], rng := some 0 }] cj (lp ce 1) [(0, K.yld 0), (5, K.val (Ty.slc ab) v5), (6, K.val ae v6), (7, K.val ae (IntKind.wrap IntKind.i64 (v7 + 1)))] [(0, Bx.lop LoopState.ready none [(1, K.ptr (0 + 1) ah []), (2, K.ptr (0 + 1 + 1) Ty.bool [])] 59 (mD a5 9) (ed a5 9) (gR a5 9)), (0 + 1, Bx.cell ah b1), (0 + 1 + 1, Bx.cell Ty.bool b2)])))) (af.loop [] cG (lp a5 3) [(1, K.ptr 0 ah []), (2, K.ptr (0 + 1) Ty.bool []), (3, K.val (Ty.slc ab) w0_3), (12, K.val (Ty.slc ag) w0_12), (13, K.val ae w0_13), (14, K.val ae (IntKind.wrap IntKind.i64 (w0_14 + 1)))] [(0, Bx.cell ah b1), (0 + 1, Bx.cell Ty.bool b2)])
theorem dv (w0_3 : den (Ty.slc ab)) (w0_12 : den (Ty.slc ag)) (w0_13 : den ae) (w0_14 : den ae) (v5 : den (Ty.slc ab)) (v6 : den ae) (v7 : den ae) (b1 : den ah) (b2 : den Ty.bool) : ap fR nv 5000 (d6 w0_3 w0_12 w0_13 w0_14 v5 v6 v7 b1 b2) cj (lp ce 1) (dY w0_3 w0_12 w0_13 w0_14 v5 v6 v7 b1 b2) = iH w0_3 w0_12 w0_13 w0_14 v5 v6 v7 b1 b2 := by kernel_rfl
noncomputable abbrev d8 : Fx := { fn := dT, ann := { loops := [(7, { keep := [3, 5, 6, 9, 10, 36, 37, 38], own := [(10, ae)] })], frz := [(1, [4]), (9, [12]), (12, [10])] }, share := true }
noncomputable abbrev iO : a8 := { D := { T := br, F := [(cq, co), (jg, ja), (ji, jd), (dn, dl), (bz, bU), (mR, m4), (mL, mM), (m3, kE)], R := [], ovl := [] }, inl := [] }
noncomputable abbrev s9 : bG := .data jS
theorem zW (h_slices_IndexFunc_Node : aC prog [] cq co) (h_lookup_asks_1 : aC prog [] jg ja) (h_lookup_asks_2 : aC prog [] ji jd) (h_slices_ContainsFunc_Node : aC prog [] dn dl) (h_slices_Concat_Member : aC prog [] bz (bU)) (h_node_Drop : aC prog [] mR m4) (h_node_Owns : aC prog [] mL mM) (h_node_Next : aC prog [] m3 kE) : XOk prog iO := xok (aH (aH (aH (aH (aH (aH (aH (aH (aV bf aP) h_node_Next) h_node_Owns) h_node_Drop) h_slices_Concat_Member) h_slices_ContainsFunc_Node) h_lookup_asks_2) h_lookup_asks_1) h_slices_IndexFunc_Node) (by kernel_rfl) aW bh bg
noncomputable def s5 (o : den ah) (no : den ae) (id : den tId) : af := af.req (∀ (y : den (Ty.pair ag Ty.unit)), True) (af.req (∃ (h : den (Ty.pair ag Ty.unit) → den (Ty.pair Ty.bool Ty.unit)), (some fun (y : den (Ty.pair ag Ty.unit)) ↦ (decide (Prod.fst (Prod.fst (Prod.fst y)) = no), PUnit.unit)) = some h) (af.all (den ae) (fun (q3 : den ae) ↦ q3 = ixQ (prQ (some fun (y : den (Ty.pair ag Ty.unit)) ↦ (decide (Prod.fst (Prod.fst (Prod.fst y)) = no), PUnit.unit))) (Prod.fst o) 0) fun (q3 : den ae) ↦ af.ite (decide (q3 < 0)) (af.ret (K.val (Ty.pair ao (Ty.pair Ty.bool Ty.unit)) (zero (Ty.pair ab (Ty.pair Ty.bool Ty.unit)), false, PUnit.unit))) (af.req (inB q3 (lnx ag (Prod.fst o))) (af.req (List.length (List.flatten (List.set (List.set (List.set (List.replicate 3 (zero (Ty.slc ab))) 0 (List.set (List.replicate 1 (zero ab)) 0 (Prod.fst (Prod.snd (el ag (Prod.fst o) q3))))) 1 (Prod.fst (Prod.snd (Prod.snd (el ag (Prod.fst o) q3))))) 2 (Prod.fst (Prod.snd (Prod.snd (Prod.snd (el ag (Prod.fst o) q3))))))) ≤ bM) (af.all (den (Ty.slc ab)) (fun (q4 : den (Ty.slc ab)) ↦ q4 = List.flatten (List.set (List.set (List.set (List.replicate 3 (zero (Ty.slc ab))) 0 (List.set (List.replicate 1 (zero ab)) 0 (Prod.fst (Prod.snd (el ag (Prod.fst o) q3))))) 1 (Prod.fst (Prod.snd (Prod.snd (el ag (Prod.fst o) q3))))) 2 (Prod.fst (Prod.snd (Prod.snd (Prod.snd (el ag (Prod.fst o) q3))))))) fun (q4 : den (Ty.slc ab)) ↦ af.loop [] d8 (lp dT 7) [(3, K.ptr 0 ah []), (5, K.ptr (0 + 1) tId []), (6, K.ptr (0 + 1 + 1) ao []), (9, K.ptr (0 + 1 + 1 + 1) ag []), (10, K.sl (0 + 1 + 1 + 1 + 1) ae), (36, K.val (Ty.slc ab) q4), (37, K.val ae (lnx ab q4)), (38, K.val ae 0)] [(0, Bx.cell ah o), (0 + 1, Bx.cell tId id), (0 + 1 + 1, Bx.cell ao (zero ao)), (0 + 1 + 1 + 1, Bx.cell ag (el ag (Prod.fst o) q3)), (0 + 1 + 1 + 1 + 1, Bx.row ae [])])))))
theorem w3 (o : den ah) (no : den ae) (id : den tId) : ap iO s9 5000 [] d8 (aI dT) (Env.of (aN rF (o, no, id, ()) 0) []) = s5 o no id := by kernel_rfl
noncomputable def qg (v36 : den (Ty.slc ab)) (v37 : den ae) (v38 : den ae) (b0 : den ah) (b1 : den tId) (b2 : den ao) (b3 : den ag) (b4 : List (den ae)) : Env := Env.of [(3, K.ptr 0 ah []), (5, K.ptr (0 + 1) tId []), (6, K.ptr (0 + 1 + 1) ao []), (9, K.ptr (0 + 1 + 1 + 1) ag []), (10, K.sl (0 + 1 + 1 + 1 + 1) ae), (36, K.val (Ty.slc ab) v36), (37, K.val ae v37), (38, K.val ae v38)] [(0, Bx.cell ah b0), (1, Bx.cell tId b1), (2, Bx.cell ao b2), (3, Bx.cell ag b3), (4, Bx.row ae b4)]
noncomputable def w4 (v36 : den (Ty.slc ab)) (v37 : den ae) (v38 : den ae) (b0 : den ah) (b1 : den tId) (b2 : den ao) (b3 : den ag) (b4 : List (den ae)) : af := af.ite (decide (v38 < v37)) (af.req (inB v38 (lnx ab v36)) (af.req (∀ (y : den (Ty.pair ag Ty.unit)), True) (af.req (∃ (h : den (Ty.pair ag Ty.unit) → den (Ty.pair Ty.bool Ty.unit)), (some fun (y : den (Ty.pair ag Ty.unit)) ↦ (decide (Prod.fst (Prod.fst (Prod.fst y)) = Prod.fst (el ab v36 v38)), PUnit.unit)) = some h) (af.all (den Ty.bool) (fun (q8 : den Ty.bool) ↦ q8 = List.any (Prod.fst b0) (prQ (some fun (y : den (Ty.pair ag Ty.unit)) ↦ (decide (Prod.fst (Prod.fst (Prod.fst y)) = Prod.fst (el ab v36 v38)), PUnit.unit)))) fun (q8 : den Ty.bool) ↦ af.ite (!q8) (af.req (List.length (b4 ++ List.set (List.replicate 1 (zero ae)) 0 (Prod.fst (el ab v36 v38))) ≤ bM) (af.loop [] d8 (lp dT 7) [(3, K.ptr 0 ah []), (5, K.ptr (0 + 1) tId []), (6, K.ptr (0 + 1 + 1) ao []), (9, K.ptr (0 + 1 + 1 + 1) ag []), (10, K.sl (0 + 1 + 1 + 1 + 1) ae), (36, K.val (Ty.slc ab) v36), (37, K.val ae v37), (38, K.val ae (IntKind.wrap IntKind.i64 (v38 + 1)))] [(0, Bx.cell ah b0), (0 + 1, Bx.cell tId b1), (0 + 1 + 1, Bx.cell ao b2), (0 + 1 + 1 + 1, Bx.cell ag b3), (0 + 1 + 1 + 1 + 1, Bx.row ae (b4 ++ List.set (List.replicate 1 (zero ae)) 0 (Prod.fst (el ab v36 v38))))])) (af.loop [] d8 (lp dT 7) [(3, K.ptr 0 ah []), (5, K.ptr (0 + 1) tId []), (6, K.ptr (0 + 1 + 1) ao []), (9, K.ptr (0 + 1 + 1 + 1) ag []), (10, K.sl (0 + 1 + 1 + 1 + 1) ae), (36, K.val (Ty.slc ab) v36), (37, K.val ae v37), (38, K.val ae (IntKind.wrap IntKind.i64 (v38 + 1)))] [(0, Bx.cell ah b0), (0 + 1, Bx.cell tId b1), (0 + 1 + 1, Bx.cell ao b2), (0 + 1 + 1 + 1, Bx.cell ag b3), (0 + 1 + 1 + 1 + 1, Bx.row ae b4)]))))) (af.req True (af.all (den (Ty.pair ag (Ty.pair ae Ty.unit))) (fun (q8 : den (Ty.pair ag (Ty.pair ae Ty.unit))) ↦ q8 = (Prod.fst (fo b3 b4), Prod.snd (fo b3 b4), PUnit.unit)) fun (q8 : den (Ty.pair ag (Ty.pair ae Ty.unit))) ↦ af.req True (af.all (den Ty.bool) (fun (q9 : den Ty.bool) ↦ q9 = ov (Prod.fst q8) b1) fun (q9 : den Ty.bool) ↦ af.ite q9 (af.ret (K.val (Ty.pair ao (Ty.pair Ty.bool Ty.unit)) ((Prod.fst (Prod.fst q8), true, zero Ty.unit), true, PUnit.unit))) (af.req True (af.all (den (Ty.pair ab (Ty.pair Ty.bool (Ty.pair ae Ty.unit)))) (fun (q10 : den (Ty.pair ab (Ty.pair Ty.bool (Ty.pair ae Ty.unit)))) ↦ q10 = (Prod.fst (da (Prod.fst q8) b1), Prod.fst (Prod.snd (da (Prod.fst q8) b1)), Prod.snd (Prod.snd (da (Prod.fst q8) b1)), PUnit.unit)) fun (q10 : den (Ty.pair ab (Ty.pair Ty.bool (Ty.pair ae Ty.unit)))) ↦ af.ret (K.val (Ty.pair ao (Ty.pair Ty.bool Ty.unit)) ((Prod.fst q10, Prod.fst (Prod.snd q10), zero Ty.unit), true, PUnit.unit)))))))
theorem l9 (v36 : den (Ty.slc ab)) (v37 : den ae) (v38 : den ae) (b0 : den ah) (b1 : den tId) (b2 : den ao) (b3 : den ag) (b4 : List (den ae)) : ap iO s9 5000 [] d8 (lp dT 7) (qg v36 v37 v38 b0 b1 b2 b3 b4) = w4 v36 v37 v38 b0 b1 b2 b3 b4 := by kernel_rfl
noncomputable abbrev xd : Fx := { fn := rr, ann := { }, share := true }
noncomputable abbrev cK : Fx := { fn := cw, ann := { loops := [(1, { keep := [0, 2, 3, 5] })], frz := [(1000001, [4, 6, 7, 8, 9, 10, 11])], gy := true }, share := true }
noncomputable abbrev er : Fx := { fn := aR, ann := { }, own := [8, 11], share := true }
noncomputable abbrev fW : a8 := { D := { T := br, F := [(kG, kJ), (kH, kP)], R := [], ovl := [] }, inl := [(rS, xd), (pt, cK)] }
noncomputable abbrev nH : bG := .data dw
theorem Ad (h_chord_Right : aC prog [] kG kJ) (h_lookup_asks : aC prog [] kH kP) : XOk prog fW := xok (aH (aH (aV bf aP) h_lookup_asks) h_chord_Right) (by kernel_rfl) aW (k9 w6 (by kernel_rfl) (k9 vl (by kernel_rfl) bh)) bg
noncomputable def sY (o : den ah) (no : den ae) (id : den tId) (hops : den ae) : af := af.req (List.length (Prod.fst o) ≤ 1000000) (af.all (den Ty.bool) (fun (q4 : den Ty.bool) ↦ q4 = bu (Prod.fst o)) fun (q4 : den Ty.bool) ↦ af.ite (bif bif !q4 then true else decide (hops < 0) then true else decide (16 < hops)) (af.ret (K.val (Ty.pair (Ty.slc ae) (Ty.pair ab (Ty.pair ae Ty.unit))) ([], zero (Ty.pair ae (Ty.pair tId Ty.unit)), 1, PUnit.unit))) (af.loop [{ fx := er, todo := c7 aR 7, dst := none, s := ofS [(4, K.ptr (0 + 1 + 1 + 1) ah []), (6, K.ptr (0 + 1 + 1 + 1 + 1) tId []), (7, K.ptr (0 + 1 + 1 + 1 + 1 + 1) ae []), (8, K.ptr (0 + 1 + 1 + 1 + 1 + 1 + 1) (Ty.slc ae) []), (9, K.ptr (0 + 1 + 1 + 1 + 1 + 1 + 1 + 1) ab []), (10, K.ptr (0 + 1 + 1 + 1 + 1 + 1 + 1 + 1 + 1) ae []), (11, K.ptr (0 + 1 + 1 + 1 + 1 + 1 + 1 + 1 + 1 + 1) (Ty.slc ae) [])], rng := some 0 }] cK (lp cw 1) [(0, K.yld 0), (2, K.ptr (0 + 1) ah []), (3, K.ptr (0 + 1 + 1) tId []), (5, K.val ae no)] [(0, Bx.lop LoopState.ready none [(7, K.ptr (0 + 1 + 1 + 1 + 1 + 1) ae []), (11, K.ptr (0 + 1 + 1 + 1 + 1 + 1 + 1 + 1 + 1 + 1) (Ty.slc ae) []), (8, K.ptr (0 + 1 + 1 + 1 + 1 + 1 + 1) (Ty.slc ae) []), (9, K.ptr (0 + 1 + 1 + 1 + 1 + 1 + 1 + 1) ab []), (10, K.ptr (0 + 1 + 1 + 1 + 1 + 1 + 1 + 1 + 1) ae [])] 73 (mD aR 7) (ed aR 7) (gR aR 7)), (0 + 1, Bx.cell ah o), (0 + 1 + 1, Bx.cell tId id), (0 + 1 + 1 + 1, Bx.cell ah o), (0 + 1 + 1 + 1 + 1, Bx.cell tId id), (0 + 1 + 1 + 1 + 1 + 1, Bx.cell ae hops), (0 + 1 + 1 + 1 + 1 + 1 + 1, Bx.obj (Ty.slc ae) K.nilsl), (0 + 1 + 1 + 1 + 1 + 1 + 1 + 1, Bx.cell ab (zero ab)), (0 + 1 + 1 + 1 + 1 + 1 + 1 + 1 + 1, Bx.cell ae (zero ae)), (0 + 1 + 1 + 1 + 1 + 1 + 1 + 1 + 1 + 1, Bx.obj (Ty.slc ae) K.nilsl)]))
theorem wl (o : den ah) (no : den ae) (id : den tId) (hops : den ae) : ap fW nH 5000 [] er (aI aR) (Env.of (aN rZ (o, no, id, hops, ()) 0) []) = sY o no id hops := by kernel_rfl
noncomputable def f7 (v5 : den ae) (b1 : den ah) (b2 : den tId) (b3 : den ah) (b4 : den tId) (b5 : den ae) (b7 : den ab) (b8 : den ae) : List bN := [{ fx := er, todo := c7 aR 7, dst := none, s := ofS [(4, K.ptr (0 + 1 + 1 + 1) ah []), (6, K.ptr (0 + 1 + 1 + 1 + 1) tId []), (7, K.ptr (0 + 1 + 1 + 1 + 1 + 1) ae []), (8, K.ptr (0 + 1 + 1 + 1 + 1 + 1 + 1) (Ty.slc ae) []), (9, K.ptr (0 + 1 + 1 + 1 + 1 + 1 + 1 + 1) ab []), (10, K.ptr (0 + 1 + 1 + 1 + 1 + 1 + 1 + 1 + 1) ae []), (11, K.ptr (0 + 1 + 1 + 1 + 1 + 1 + 1 + 1 + 1 + 1) (Ty.slc ae) [])], rng := some 0 }]
noncomputable def gb (v5 : den ae) (b1 : den ah) (b2 : den tId) (b3 : den ah) (b4 : den tId) (b5 : den ae) (b7 : den ab) (b8 : den ae) : Env := Env.of [(0, K.yld 0), (2, K.ptr (0 + 1) ah []), (3, K.ptr (0 + 1 + 1) tId []), (5, K.val ae v5)] [(0, Bx.lop LoopState.ready none [(7, K.ptr (0 + 1 + 1 + 1 + 1 + 1) ae []), (11, K.ptr (0 + 1 + 1 + 1 + 1 + 1 + 1 + 1 + 1 + 1) (Ty.slc ae) []), (8, K.ptr (0 + 1 + 1 + 1 + 1 + 1 + 1) (Ty.slc ae) []), (9, K.ptr (0 + 1 + 1 + 1 + 1 + 1 + 1 + 1) ab []), (10, K.ptr (0 + 1 + 1 + 1 + 1 + 1 + 1 + 1 + 1) ae [])] 73 (mD aR 7) (ed aR 7) (gR aR 7)), (1, Bx.cell ah b1), (2, Bx.cell tId b2), (3, Bx.cell ah b3), (4, Bx.cell tId b4), (5, Bx.cell ae b5), (6, Bx.obj (Ty.slc ae) K.nilsl), (7, Bx.cell ab b7), (8, Bx.cell ae b8), (9, Bx.obj (Ty.slc ae) K.nilsl)]
noncomputable def lr (v5 : den ae) (b1 : den ah) (b2 : den tId) (b3 : den ah) (b4 : den tId) (b5 : den ae) (b7 : den ab) (b8 : den ae) : af := af.req (bu (Prod.fst b1) = true) (af.all (den (Ty.pair ao (Ty.pair Ty.bool Ty.unit))) (fun (q8 : den (Ty.pair ao (Ty.pair Ty.bool Ty.unit))) ↦ q8 = (Prod.fst (ar (Prod.fst b1) v5 b2), Prod.snd (ar (Prod.fst b1) v5 b2), PUnit.unit)) fun (q8 : den (Ty.pair ao (Ty.pair Ty.bool Ty.unit))) ↦ af.ite (!Prod.fst (Prod.snd q8)) (af.ret (K.val (Ty.pair (Ty.slc ae) (Ty.pair ab (Ty.pair ae Ty.unit))) ([], zero (Ty.pair ae (Ty.pair tId Ty.unit)), 10, PUnit.unit))) (af.ite (decide (b5 < 0)) (af.ret (K.val (Ty.pair (Ty.slc ae) (Ty.pair ab (Ty.pair ae Ty.unit))) ([], zero (Ty.pair ae (Ty.pair tId Ty.unit)), 9, PUnit.unit))) (af.req (List.length (List.set (List.replicate 1 (zero ae)) 0 v5) ≤ bM) (af.ite (bif Prod.fst (Prod.snd (Prod.fst q8)) then decide (Prod.fst (Prod.fst (Prod.fst q8)) = v5) else false) (af.ret (K.val (Ty.pair (Ty.slc ae) (Ty.pair ab (Ty.pair ae Ty.unit))) (List.set (List.replicate 1 (zero ae)) 0 v5, Prod.fst (Prod.fst q8), 0, PUnit.unit))) (af.ite (Prod.fst (Prod.snd (Prod.fst q8))) (af.req (List.length (List.set (List.replicate 1 (zero ae)) 0 v5 ++ List.set (List.replicate 1 (zero ae)) 0 (Prod.fst (Prod.fst (Prod.fst q8)))) ≤ bM) (af.ret (K.val (Ty.pair (Ty.slc ae) (Ty.pair ab (Ty.pair ae Ty.unit))) (List.set (List.replicate 1 (zero ae)) 0 v5 ++ List.set (List.replicate 1 (zero ae)) 0 (Prod.fst (Prod.fst (Prod.fst q8))), Prod.fst (Prod.fst q8), 0, PUnit.unit)))) (af.ite (decide (Prod.fst (Prod.fst (Prod.fst q8)) = v5)) (af.ret (K.val (Ty.pair (Ty.slc ae) (Ty.pair ab (Ty.pair ae Ty.unit))) ([], zero (Ty.pair ae (Ty.pair tId Ty.unit)), 13, PUnit.unit))) (af.ite (bif Prod.fst (Prod.snd (Prod.fst q8)) then true else eqb ao (Prod.fst q8) ((v5, Prod.fst (Prod.snd (Prod.fst (Prod.fst q8))), zero Ty.unit), zero (Ty.pair Ty.bool Ty.unit))) (af.ret (K.val (Ty.pair (Ty.slc ae) (Ty.pair ab (Ty.pair ae Ty.unit))) ([], zero (Ty.pair ae (Ty.pair tId Ty.unit)), 10, PUnit.unit))) (af.loop [{ fx := er, todo := c7 aR 7, dst := none, s := ofS [(4, K.ptr (0 + 1 + 1 + 1) ah []), (6, K.ptr (0 + 1 + 1 + 1 + 1) tId []), (7, K.ptr (0 + 1 + 1 + 1 + 1 + 1) ae []), (8, K.ptr (0 + 1 + 1 + 1 + 1 + 1 + 1) (Ty.slc ae) []), (9, K.ptr (0 + 1 + 1 + 1 + 1 + 1 + 1 + 1) ab []), (10, K.ptr (0 + 1 + 1 + 1 + 1 + 1 + 1 + 1 + 1) ae []), (11, K.ptr (0 + 1 + 1 + 1 + 1 + 1 + 1 + 1 + 1 + 1) (Ty.slc ae) [])], rng := some 0 }] cK (lp cw 1) [(0, K.yld 0), (2, K.ptr (0 + 1) ah []), (3, K.ptr (0 + 1 + 1) tId []), (5, K.val ae (Prod.fst (Prod.fst (Prod.fst q8))))] [(0, Bx.lop LoopState.ready none [(7, K.ptr (0 + 1 + 1 + 1 + 1 + 1) ae []), (11, K.ptr (0 + 1 + 1 + 1 + 1 + 1 + 1 + 1 + 1 + 1) (Ty.slc ae) []), (8, K.ptr (0 + 1 + 1 + 1 + 1 + 1 + 1) (Ty.slc ae) []), (9, K.ptr (0 + 1 + 1 + 1 + 1 + 1 + 1 + 1) ab []), (10, K.ptr (0 + 1 + 1 + 1 + 1 + 1 + 1 + 1 + 1) ae [])] 73 (mD aR 7) (ed aR 7) (gR aR 7)), (0 + 1, Bx.cell ah b1), (0 + 1 + 1, Bx.cell tId b2), (0 + 1 + 1 + 1, Bx.cell ah b3), (0 + 1 + 1 + 1 + 1, Bx.cell tId b4), (0 + 1 + 1 + 1 + 1 + 1, Bx.cell ae b5), (0 + 1 + 1 + 1 + 1 + 1 + 1, Bx.obj (Ty.slc ae) K.nilsl), (0 + 1 + 1 + 1 + 1 + 1 + 1 + 1, Bx.cell ab b7), (0 + 1 + 1 + 1 + 1 + 1 + 1 + 1 + 1, Bx.cell ae b8), (0 + 1 + 1 + 1 + 1 + 1 + 1 + 1 + 1 + 1, Bx.obj (Ty.slc ae) (K.sl (0 + 1 + 1 + 1 + 1 + 1 + 1 + 1 + 1 + 1 + 1) ae)), (0 + 1 + 1 + 1 + 1 + 1 + 1 + 1 + 1 + 1 + 1, Bx.row ae (List.set (List.replicate 1 (zero ae)) 0 v5))]))))))))
theorem j6 (v5 : den ae) (b1 : den ah) (b2 : den tId) (b3 : den ah) (b4 : den tId) (b5 : den ae) (b7 : den ab) (b8 : den ae) : ap fW nH 5000 (f7 v5 b1 b2 b3 b4 b5 b7 b8) cK (lp cw 1) (gb v5 b1 b2 b3 b4 b5 b7 b8) = lr v5 b1 b2 b3 b4 b5 b7 b8 := by kernel_rfl
noncomputable def fB (v5 : den ae) (b1 : den ah) (b2 : den tId) (b3 : den ah) (b4 : den tId) (b5 : den ae) (b7 : den ab) (b8 : den ae) (b10 : List (den ae)) : List bN := [{ fx := er, todo := c7 aR 7, dst := none, s := ofS [(4, K.ptr (0 + 1 + 1 + 1) ah []), (6, K.ptr (0 + 1 + 1 + 1 + 1) tId []), (7, K.ptr (0 + 1 + 1 + 1 + 1 + 1) ae []), (8, K.ptr (0 + 1 + 1 + 1 + 1 + 1 + 1) (Ty.slc ae) []), (9, K.ptr (0 + 1 + 1 + 1 + 1 + 1 + 1 + 1) ab []), (10, K.ptr (0 + 1 + 1 + 1 + 1 + 1 + 1 + 1 + 1) ae []), (11, K.ptr (0 + 1 + 1 + 1 + 1 + 1 + 1 + 1 + 1 + 1) (Ty.slc ae) [])], rng := some 0 }]
noncomputable def fD (v5 : den ae) (b1 : den ah) (b2 : den tId) (b3 : den ah) (b4 : den tId) (b5 : den ae) (b7 : den ab) (b8 : den ae) (b10 : List (den ae)) : Env := Env.of [(0, K.yld 0), (2, K.ptr (0 + 1) ah []), (3, K.ptr (0 + 1 + 1) tId []), (5, K.val ae v5)] [(0, Bx.lop LoopState.ready none [(7, K.ptr (0 + 1 + 1 + 1 + 1 + 1) ae []), (11, K.ptr (0 + 1 + 1 + 1 + 1 + 1 + 1 + 1 + 1 + 1) (Ty.slc ae) []), (8, K.ptr (0 + 1 + 1 + 1 + 1 + 1 + 1) (Ty.slc ae) []), (9, K.ptr (0 + 1 + 1 + 1 + 1 + 1 + 1 + 1) ab []), (10, K.ptr (0 + 1 + 1 + 1 + 1 + 1 + 1 + 1 + 1) ae [])] 73 (mD aR 7) (ed aR 7) (gR aR 7)), (1, Bx.cell ah b1), (2, Bx.cell tId b2), (3, Bx.cell ah b3), (4, Bx.cell tId b4), (5, Bx.cell ae b5), (6, Bx.obj (Ty.slc ae) K.nilsl), (7, Bx.cell ab b7), (8, Bx.cell ae b8), (9, Bx.obj (Ty.slc ae) (K.sl (0 + 1 + 1 + 1 + 1 + 1 + 1 + 1 + 1 + 1 + 1) ae)), (10, Bx.row ae b10)]
noncomputable def kh (v5 : den ae) (b1 : den ah) (b2 : den tId) (b3 : den ah) (b4 : den tId) (b5 : den ae) (b7 : den ab) (b8 : den ae) (b10 : List (den ae)) : af := af.req (bu (Prod.fst b1) = true) (af.all (den (Ty.pair ao (Ty.pair Ty.bool Ty.unit))) (fun (q9 : den (Ty.pair ao (Ty.pair Ty.bool Ty.unit))) ↦ q9 = (Prod.fst (ar (Prod.fst b1) v5 b2), Prod.snd (ar (Prod.fst b1) v5 b2), PUnit.unit)) fun (q9 : den (Ty.pair ao (Ty.pair Ty.bool Ty.unit))) ↦ af.ite (!Prod.fst (Prod.snd q9)) (af.ret (K.val (Ty.pair (Ty.slc ae) (Ty.pair ab (Ty.pair ae Ty.unit))) ([], zero (Ty.pair ae (Ty.pair tId Ty.unit)), 10, PUnit.unit))) (af.ite (decide (b5 < lnx ae b10)) (af.ret (K.val (Ty.pair (Ty.slc ae) (Ty.pair ab (Ty.pair ae Ty.unit))) ([], zero (Ty.pair ae (Ty.pair tId Ty.unit)), 9, PUnit.unit))) (af.req (List.length (b10 ++ List.set (List.replicate 1 (zero ae)) 0 v5) ≤ bM) (af.ite (bif Prod.fst (Prod.snd (Prod.fst q9)) then decide (Prod.fst (Prod.fst (Prod.fst q9)) = v5) else false) (af.ret (K.val (Ty.pair (Ty.slc ae) (Ty.pair ab (Ty.pair ae Ty.unit))) (b10 ++ List.set (List.replicate 1 (zero ae)) 0 v5, Prod.fst (Prod.fst q9), 0, PUnit.unit))) (af.ite (Prod.fst (Prod.snd (Prod.fst q9))) (af.req (List.length (b10 ++ List.set (List.replicate 1 (zero ae)) 0 v5 ++ List.set (List.replicate 1 (zero ae)) 0 (Prod.fst (Prod.fst (Prod.fst q9)))) ≤ bM) (af.ret (K.val (Ty.pair (Ty.slc ae) (Ty.pair ab (Ty.pair ae Ty.unit))) (b10 ++ List.set (List.replicate 1 (zero ae)) 0 v5 ++ List.set (List.replicate 1 (zero ae)) 0 (Prod.fst (Prod.fst (Prod.fst q9))), Prod.fst (Prod.fst q9), 0, PUnit.unit)))) (af.ite (decide (Prod.fst (Prod.fst (Prod.fst q9)) = v5)) (af.ret (K.val (Ty.pair (Ty.slc ae) (Ty.pair ab (Ty.pair ae Ty.unit))) ([], zero (Ty.pair ae (Ty.pair tId Ty.unit)), 13, PUnit.unit))) (af.ite (bif Prod.fst (Prod.snd (Prod.fst q9)) then true else eqb ao (Prod.fst q9) ((v5, Prod.fst (Prod.snd (Prod.fst (Prod.fst q9))), zero Ty.unit), zero (Ty.pair Ty.bool Ty.unit))) (af.ret (K.val (Ty.pair (Ty.slc ae) (Ty.pair ab (Ty.pair ae Ty.unit))) ([], zero (Ty.pair ae (Ty.pair tId Ty.unit)), 10, PUnit.unit))) (af.loop [{ fx := er, todo := c7 aR 7, dst := none, s := ofS [(4, K.ptr (0 + 1 + 1 + 1) ah []), (6, K.ptr (0 + 1 + 1 + 1 + 1) tId []), (7, K.ptr (0 + 1 + 1 + 1 + 1 + 1) ae []), (8, K.ptr (0 + 1 + 1 + 1 + 1 + 1 + 1) (Ty.slc ae) []), (9, K.ptr (0 + 1 + 1 + 1 + 1 + 1 + 1 + 1) ab []), (10, K.ptr (0 + 1 + 1 + 1 + 1 + 1 + 1 + 1 + 1) ae []), (11, K.ptr (0 + 1 + 1 + 1 + 1 + 1 + 1 + 1 + 1 + 1) (Ty.slc ae) [])], rng := some 0 }] cK (lp cw 1) [(0, K.yld 0), (2, K.ptr (0 + 1) ah []), (3, K.ptr (0 + 1 + 1) tId []), (5, K.val ae (Prod.fst (Prod.fst (Prod.fst q9))))] [(0, Bx.lop LoopState.ready none [(7, K.ptr (0 + 1 + 1 + 1 + 1 + 1) ae []), (11, K.ptr (0 + 1 + 1 + 1 + 1 + 1 + 1 + 1 + 1 + 1) (Ty.slc ae) []), (8, K.ptr (0 + 1 + 1 + 1 + 1 + 1 + 1) (Ty.slc ae) []), (9, K.ptr (0 + 1 + 1 + 1 + 1 + 1 + 1 + 1) ab []), (10, K.ptr (0 + 1 + 1 + 1 + 1 + 1 + 1 + 1 + 1) ae [])] 73 (mD aR 7) (ed aR 7) (gR aR 7)), (0 + 1, Bx.cell ah b1), (0 + 1 + 1, Bx.cell tId b2), (0 + 1 + 1 + 1, Bx.cell ah b3), (0 + 1 + 1 + 1 + 1, Bx.cell tId b4), (0 + 1 + 1 + 1 + 1 + 1, Bx.cell ae b5), (0 + 1 + 1 + 1 + 1 + 1 + 1, Bx.obj (Ty.slc ae) K.nilsl), (0 + 1 + 1 + 1 + 1 + 1 + 1 + 1, Bx.cell ab b7), (0 + 1 + 1 + 1 + 1 + 1 + 1 + 1 + 1, Bx.cell ae b8), (0 + 1 + 1 + 1 + 1 + 1 + 1 + 1 + 1 + 1, Bx.obj (Ty.slc ae) (K.sl (0 + 1 + 1 + 1 + 1 + 1 + 1 + 1 + 1 + 1 + 1) ae)), (0 + 1 + 1 + 1 + 1 + 1 + 1 + 1 + 1 + 1 + 1, Bx.row ae (b10 ++ List.set (List.replicate 1 (zero ae)) 0 v5))]))))))))
theorem jm (v5 : den ae) (b1 : den ah) (b2 : den tId) (b3 : den ah) (b4 : den tId) (b5 : den ae) (b7 : den ab) (b8 : den ae) (b10 : List (den ae)) : ap fW nH 5000 (fB v5 b1 b2 b3 b4 b5 b7 b8 b10) cK (lp cw 1) (fD v5 b1 b2 b3 b4 b5 b7 b8 b10) = kh v5 b1 b2 b3 b4 b5 b7 b8 b10 := by kernel_rfl
end Go.Proofs.Ytimdnodkabnbfaa
namespace Go.Proofs.Ytimdnodkabnbfaa
open Go Go.RowKit
theorem zA {n : Nd} (h : a9 n = true) : (bW n).length ≤ 21 := by
 obtain ⟨l1, _, l3⟩ := Bd h
 have e : (bW n).length = 1 + n.2.2.1.length + n.2.2.2.1.length := by unfold bW; rw [List.length_append, List.length_append]; rfl
 omega
theorem o1 {l : List Nd} {i : Nat} (hi : i < l.length) (h : iG l (i : Nat) = false) : bu l = false := by
 unfold bu
 rw [show (List.range l.length).all (fun i => iG l (i : Nat)) = false from List.all_eq_false.2 ⟨i, List.mem_range.2 hi, by rw [h]; decide⟩]
 rfl
theorem CX {l : List Nd} (h : bu l = true) {i : Nat} (hi : i < l.length) : iG l (i : Nat) = true := by
 cases hn : iG l (i : Nat) with
 | true => rfl
 | false => rw [o1 hi hn] at h; cases h
theorem AK {l : List Nd} {i : Nat} (hi : i < l.length) (h : iG l (i : Nat) = true) : a9 l[i] = true := by
 unfold iG D2 at h
 rw [cn (e := ag) hi] at h
 cases hn : a9 l[i] with
 | true => rfl
 | false => rw [hn] at h; cases h
theorem xu {l : List Nd} (h : bu l = true) {n : Nd} (hn : n ∈ l) : a9 n = true := by
 obtain ⟨i, hi, rfl⟩ := List.getElem_of_mem hn
 exact AK hi (CX h hi)
abbrev GCr (O : Nat → Prop) (w0 : World) (y : Bool) := bw prog fR (Cx.base O w0) (cv prog O w0 mK fun z => z = (y, ()))
theorem gZ : XOk prog fR := Af qr lw z0 B0 BA
def CO (O : Nat → Prop) (w0 : World) (o : Ov) (i : Nat) (z : Bool) (K : List Mem) (y : Bool) (hm : K.length ≤ maxLen) (hbad : (K.all fun m => !qa o.1 m) = false → y = false)
    (hnext : (K.all fun m => !qa o.1 m) = true → GCr O w0 y [] cG (lp a5 3) (lE (cX o.1) o.1 (lnx ag o.1) (IntKind.wrap .i64 (((i : Nat) : Int) + 1)) o z)) :=
  PLift.up <| bF (σ := Unit) K.length (fun j _ => ((K.take j).all fun m => !qa o.1 m) = true)
    (fun j _ => GCr O w0 y (d6 (cX o.1) o.1 (lnx ag o.1) (i : Nat) K (lnx ab K) (j : Nat) o z) cj (lp ce 1) (dY (cX o.1) o.1 (lnx ag o.1) (i : Nat) K (lnx ab K) (j : Nat) o z))
    (fun j _ hj hs ih => aO gZ (dv _ _ _ _ K _ _ o z) (by
      refine ⟨fun _ => ⟨be hj, trivial, bE ?_⟩, fun hc => absurd hj (by rw [cp] at hc; exact of_decide_eq_false hc)⟩
      rw [cn hj, cF hj hm]
      have key : ∀ c : Bool, (bif (fJ o.1 K[j].1).2 then !eqb ab (fJ o.1 K[j].1).1 K[j] else false) = c → qa o.1 K[j] = c := fun c h => by
        unfold qa; rw [k5] at h; exact h
      refine ⟨fun hc => ⟨_, rfl, ?_⟩, fun hc => ih () ?_⟩
      · have hk := key true hc
        have : (K.all fun m => !qa o.1 m) = false := List.all_eq_false.2 ⟨K[j], List.getElem_mem hj, by rw [hk]; decide⟩
        rw [hbad this]
      · have hk := key false hc
        rw [List.take_succ_eq_append_getElem hj, List.all_append, hs]
        simp [hk]))
    (fun _ hs => aO gZ (dv _ _ _ _ K _ _ o z) ⟨fun hc => absurd (of_decide_eq_true hc) (Int.lt_irrefl _), fun _ => hnext (by rw [List.take_length] at hs; exact hs)⟩)
def F1 (O : Nat → Prop) (w0 : World) (o : Ov) (z : Bool) (hm : o.1.length ≤ 1000000) :=
 PLift.up <| bF (σ := Unit) o.1.length (fun i _ => ∀ j, j < i → iG o.1 (j : Nat) = true)
  (fun i _ => GCr O w0 (bu o.1) [] cG (lp a5 3) (lE (cX o.1) o.1 (lnx ag o.1) (i : Nat) o z))
  (fun i _ hi hs ih => aO gZ (ma _ o.1 _ _ o z) (by
   have hw : i < 1000000 := Nat.lt_of_lt_of_le hi hm
   have hsm : IntKind.wrap .i64 (((i : Nat) : Int) - 1) = (i : Int) - 1 := du (n := (i : Int) - 1) (by omega)
   refine ⟨fun _ => ⟨be hi, trivial, fun _ h0 => ?_, bE ?_⟩, fun hc => absurd hi (by rw [cp (e := ag)] at hc; exact of_decide_eq_false hc)⟩
   ·have h0 : (0 : Int) < (i : Nat) := of_decide_eq_true h0
    rw [hsm]
    exact ⟨by omega, show (i : Int) - 1 < ((o.1.length : Nat) : Int) by omega⟩
   ·rw [hsm]
    have hb : ∀ c : Bool, (bif !a9 (el ag o.1 (i : Nat)) then true else bif decide ((0 : Int) < (i : Nat)) then decide ((el ag o.1 (i : Nat)).1.1 ≤ (el ag o.1 ((i : Nat) - 1)).1.1) else false) = c → D2 o.1 (i : Nat) = c := fun c h => h
    refine ⟨fun hc => ⟨_, rfl, ?_⟩, fun hc => ?_⟩
    ·have := hb true hc
     rw [o1 hi (by unfold iG; rw [this]; rfl)]
    ·have hbn := hb false hc
     have hr : a9 (el ag o.1 (i : Nat)) = true := by
      cases hn : a9 (el ag o.1 (i : Nat)) with
      | true => rfl
      | false => unfold D2 at hbn; rw [hn] at hbn; cases hbn
     have hkl := zA hr
     have hok : iG o.1 (i : Nat) = (bW (el ag o.1 (i : Nat))).all fun m => !qa o.1 m := by
      unfold iG; rw [hbn]; rfl
     refine ⟨Nat.le_trans hkl (by decide), (CO O w0 o i z (bW (el ag o.1 (i : Nat))) (bu o.1) (Nat.le_trans hkl (by decide)) (fun h => o1 hi (by rw [hok]; exact h)) (fun h => ?_)).down 0 () (Nat.zero_le _) rfl⟩
     rw [cF hi (Nat.le_trans hm (by decide))]
     refine ih () fun j hj => ?_
     rcases Nat.lt_succ_iff_lt_or_eq.1 hj with h1 | h1
     ·exact hs j h1
     ·subst h1; rw [hok]; exact h))
  (fun _ hs => aO gZ (ma _ o.1 _ _ o z) ⟨fun hc => absurd (of_decide_eq_true hc) (Int.lt_irrefl _), fun _ => ⟨trivial, bE ⟨_, rfl, by
   show (io (cX o.1), ()) = (bu o.1, ())
   unfold bu
   rw [show (List.range o.1.length).all (fun i => iG o.1 (i : Nat)) = true from List.all_eq_true.2 fun i hi => hs i (List.mem_range.1 hi)]
   rfl⟩⟩⟩)
theorem Aa : aC prog [] kG kJ :=
 bY (S := kJ) gZ (fx := cG) yJ (by kernel_rfl) (fun h => by cases h) (T := fun x => sZ x.1) (fun x => wz x.1) fun O w0 x _ hp =>
  ⟨hp, bE ((F1 O w0 x.1 (zero Ty.bool) hp).down 0 () (Nat.zero_le _) (fun j hj => absurd hj (Nat.not_lt_zero _)))⟩
theorem By (p : Nd → Bool) : ∀ (l : List Nd) (i : Int), (l.find? p = none ∧ ixQ p l i = -1) ∨ ∃ k : Nat, ∃ h : k < l.length, ixQ p l i = i + (k : Int) ∧ l.find? p = some l[k]
 | [], _ => .inl ⟨rfl, rfl⟩
 | x :: l, i => by
  have e : ixQ p (x :: l) i = bif p x then i else ixQ p l (i + 1) := rfl
  cases hx : p x with
  | true => exact .inr ⟨0, by simp, by rw [e, hx]; simp, by rw [List.find?_cons, hx]; rfl⟩
  | false =>
   rw [e, hx, List.find?_cons, hx]
   rcases By p l (i + 1) with ⟨h1, h2⟩ | ⟨k, hk, h1, h2⟩
   ·exact .inl ⟨h1, h2⟩
   ·exact .inr ⟨k + 1, by simp; omega, by show ixQ p l (i + 1) = _; rw [h1]; push_cast; omega, h2⟩
abbrev GAk (O : Nat → Prop) (w0 : World) (y : Ans) := bw prog iO (Cx.base O w0) (cv prog O w0 jS fun z => z = (y, true, ()))
theorem ml : XOk prog iO := zW j5 xe xX ns fO Cd Cz Cl
def G4 (O : Nat → Prop) (w0 : World) (o : Ov) (n : Nd) (id : List Int) (z : Ans) (hm : (bW n).length ≤ 1000) :=
 PLift.up <| bF (σ := List Int) (bW n).length (fun i b => b = (((bW n).take i).filter fun m => !eT o.1 m.1).map fun m => m.1)
  (fun i b => GAk O w0 (wb o.1 n id) [] d8 (lp dT 7) (qg (bW n) (lnx ab (bW n)) (i : Nat) o id z n b))
  (fun i b hi hs ih => aO ml (l9 _ _ _ o id z n b) (by
   refine ⟨fun _ => ⟨be hi, fun _ => trivial, ⟨_, rfl⟩, bE ?_⟩, fun hc => absurd hi (by rw [cp] at hc; exact of_decide_eq_false hc)⟩
   rw [cn hi, cF hi (Nat.le_trans hm (by decide))]
   refine ⟨fun hc => ⟨?_, ih _ ?_⟩, fun hc => ih _ ?_⟩
   ·have h1 := List.length_filter_le (fun m : Mem => !eT o.1 m.1) ((bW n).take i)
    rw [List.length_append, hs, List.length_map]
    rw [List.length_take] at h1
    exact Nat.le_trans (show _ + 1 ≤ 1001 by omega) (by decide)
   ·have hc : (!eT o.1 (bW n)[i].1) = true := hc
    rw [List.take_succ_eq_append_getElem hi, List.filter_append, List.map_append, ← hs, List.filter_cons_of_pos (p := fun m : Mem => !eT o.1 m.1) hc]
    rfl
   ·have hc : (!eT o.1 (bW n)[i].1) = false := hc
    rw [List.take_succ_eq_append_getElem hi, List.filter_append, List.map_append, ← hs, List.filter_cons_of_neg (p := fun m : Mem => !eT o.1 m.1) (by rw [hc]; decide)]
    simp))
  (fun b hs => aO ml (l9 _ _ _ o id z n b) (by
   refine ⟨fun hc => absurd (of_decide_eq_true hc) (Int.lt_irrefl _), fun _ => ⟨trivial, bE ⟨trivial, bE ?_⟩⟩⟩
   rw [List.take_length] at hs
   have hb : b = i6 o.1 n := hs
   rw [hb]
   refine ⟨fun h => ⟨_, rfl, ?_⟩, fun h => ⟨trivial, bE ⟨_, rfl, ?_⟩⟩⟩
   all_goals
    show (_, _, _) = (wb o.1 n id, true, ())
    unfold wb wJ
    rw [h]
    rfl))
theorem zy {l : List Nd} {no : Int} {n : Nd} (id : List Int) (h : l.find? (fun n => decide (n.1.1 = no)) = some n) : ar l no id = (wb l n id, true) := by
 unfold ar; rw [h]
theorem zP {l : List Nd} {no : Int} (id : List Int) (h : l.find? (fun n => decide (n.1.1 = no)) = none) : ar l no id = (zero ao, false) := by
 unfold ar; rw [h]
theorem z6 : aC prog [] kH kP :=
 bY (S := kP) ml (fx := d8) y4 (by kernel_rfl) (fun h => by cases h) (T := fun x => s5 x.1 x.2.1 x.2.2.1) (fun x => w3 x.1 x.2.1 x.2.2.1) fun O w0 x _ hp => by
  obtain ⟨o, no, id, ⟨⟩⟩ := x
  have hp : bu o.1 = true := hp
  refine ⟨fun _ => trivial, ⟨_, rfl⟩, bE ?_⟩
  have e : prQ (some fun (y : den (Ty.pair ag Ty.unit)) => (decide (y.1.1.1 = no), PUnit.unit)) = fun n => decide (n.1.1 = no) := rfl
  rw [e]
  rcases By (fun n => decide (n.1.1 = no)) o.1 0 with ⟨h1, h2⟩ | ⟨k, hk, h1, h2⟩
  ·rw [h2]
   refine ⟨fun _ => ⟨_, rfl, ?_⟩, fun hc => (by cases hc)⟩
   show (_, _, _) = ((ar o.1 no id).1, (ar o.1 no id).2, ())
   rw [zP id h1]
   rfl
  ·rw [h1]
   have e0 : (0 : Int) + (k : Int) = (k : Nat) := by omega
   rw [e0]
   refine ⟨fun hc => ?_, fun _ => ⟨be hk, ?_⟩⟩
   ·have hc : ((k : Nat) : Int) < 0 := of_decide_eq_true hc
    omega
   ·rw [cn (e := ag) hk]
    have hkl := zA (xu hp (List.getElem_mem hk))
    have hf : List.flatten (List.set (List.set (List.set (List.replicate 3 (zero (Ty.slc ab))) 0 (List.set (List.replicate 1 (zero ab)) 0 o.1[k].2.1)) 1 o.1[k].2.2.1) 2 o.1[k].2.2.2.1) = bW o.1[k] := GO _ _ _ _
    rw [hf]
    refine ⟨Nat.le_trans hkl (by decide), bE ?_⟩
    show bw _ _ _ (cv prog O w0 jS fun z => z = ((ar o.1 no id).1, (ar o.1 no id).2, ())) _ _ _ _
    rw [zy id h2]
    exact (G4 O w0 o o.1[k] id (zero ao) (Nat.le_trans hkl (by decide))).down 0 [] (Nat.zero_le _) rfl
theorem sy (l : List Nd) (id : List Int) (n : Nat) (path : List Int) (no : Int) : bR l id n path no = bif !(ar l no id).2 then ([], zero ab, 10) else
    match n with
    | 0 => ([], zero ab, 9)
    | n + 1 => bif (ar l no id).1.2.1 then (bif decide ((ar l no id).1.1.1 = no) then (path ++ [no], (ar l no id).1.1, 0) else (path ++ [no] ++ [(ar l no id).1.1.1], (ar l no id).1.1, 0))
      else bif decide ((ar l no id).1.1.1 = no) then ([], zero ab, 13) else bR l id n (path ++ [no]) (ar l no id).1.1.1 := by
  cases n <;> rfl
abbrev GWa (O : Nat → Prop) (w0 : World) (y : WR) := bw prog fW (Cx.base O w0) (cv prog O w0 dw fun z => z = (y.1, y.2.1, y.2.2, ()))
theorem mF : XOk prog fW := Ad Aa z6
theorem De (O : Nat → Prop) (w0 : World) (o : Ov) (id : List Int) (hops : Int) (z : Mem) (z' : Int) (hr : bu o.1 = true) (hh : hops ≤ 16) : ∀ (n : Nat) (path : List Int) (no : Int), ((path.length : Nat) : Int) + n = hops + 1 →
    GWa O w0 (bR o.1 id n path no) (fB no o id o id hops z z' path) cK (lp cw 1) (fD no o id o id hops z z' path)
  | n, path, no, hn => aO mF (jm no o id o id hops z z' path) (by
    have e := sy o.1 id n path no
    have leaf : ∀ {p : WR}, bR o.1 id n path no = p → ∃ q, a6 dw (K.val (Ty.pair (Ty.slc ae) (Ty.pair ab (Ty.pair ae Ty.unit))) (p.1, p.2.1, p.2.2, PUnit.unit)) = some q ∧ q = ((bR o.1 id n path no).1, (bR o.1 id n path no).2.1, (bR o.1 id n path no).2.2, ()) := fun {p} e =>
      ⟨_, rfl, by rw [e]⟩
    have hl : path.length ≤ 17 := by omega
    refine ⟨hr, bE ⟨fun h1 => leaf (p := (_, _, _)) ?_, fun h1 => ⟨fun h2 => leaf (p := (_, _, _)) ?_, fun h2 => ⟨?_, fun h3 => leaf (p := (_, _, _)) ?_, fun h3 => ⟨fun h4 => ⟨?_, leaf (p := (_, _, _)) ?_⟩, fun h4 => ⟨fun h5 => leaf (p := (_, _, _)) ?_, fun h5 => ⟨fun h6 => ?_, fun h6 => ?_⟩⟩⟩⟩⟩⟩⟩
    · rw [e, h1]; rfl
    · have h2 : hops < ((path.length : Nat) : Int) := of_decide_eq_true h2
      have : n = 0 := by omega
      subst this
      rw [e, h1]; rfl
    · rw [List.length_append]
      exact Nat.le_trans (show path.length + 1 ≤ 18 by omega) (by decide)
    all_goals
      have h2 : ¬ hops < ((path.length : Nat) : Int) := of_decide_eq_false h2
      obtain ⟨n, rfl⟩ : ∃ m, n = m + 1 := ⟨n - 1, by omega⟩
      rw [h1] at e
    · have h3' : (ar o.1 no id).1.2.1 = true ∧ decide ((ar o.1 no id).1.1.1 = no) = true := by
        have h3 : (bif (ar o.1 no id).1.2.1 then decide ((ar o.1 no id).1.1.1 = no) else false) = true := h3
        cases hq : (ar o.1 no id).1.2.1 <;> rw [hq] at h3
        · cases h3
        · exact ⟨rfl, h3⟩
      rw [e, h3'.1, h3'.2]; rfl
    · rw [List.length_append, List.length_append]
      exact Nat.le_trans (show path.length + 1 + 1 ≤ 19 by omega) (by decide)
    · have h4 : (ar o.1 no id).1.2.1 = true := h4
      have h3' : decide ((ar o.1 no id).1.1.1 = no) = false := by
        have h3 : (bif (ar o.1 no id).1.2.1 then decide ((ar o.1 no id).1.1.1 = no) else false) = false := h3
        rw [h4] at h3; exact h3
      rw [e, h4, h3']; rfl
    · have h4 : (ar o.1 no id).1.2.1 = false := h4
      have h5 : decide ((ar o.1 no id).1.1.1 = no) = true := h5
      rw [e, h4, h5]; rfl
    · have h4 : (ar o.1 no id).1.2.1 = false := h4
      have h5 : decide ((ar o.1 no id).1.1.1 = no) = false := h5
      have h6 : (bif (ar o.1 no id).1.2.1 then true else eqb ao (ar o.1 no id).1 ((no, (ar o.1 no id).1.1.2.1, ()), zero (Ty.pair Ty.bool Ty.unit))) = true := h6
      rw [h4] at h6
      have h6 := (lh (t := ao) (by decide) _ _).1 h6
      have h6 : (ar o.1 no id).1.1.1 = no := congrArg (fun a : Ans => a.1.1) h6
      exact absurd h6 (of_decide_eq_false h5)
    · have h4 : (ar o.1 no id).1.2.1 = false := h4
      have h5 : decide ((ar o.1 no id).1.1.1 = no) = false := h5
      have e' : bR o.1 id (n + 1) path no = bR o.1 id n (path ++ [no]) (ar o.1 no id).1.1.1 := by rw [e, h4, h5]; rfl
      show bw _ _ _ (cv prog O w0 dw fun z => z = ((bR o.1 id (n + 1) path no).1, (bR o.1 id (n + 1) path no).2.1, (bR o.1 id (n + 1) path no).2.2, ())) _ _ _ _
      rw [e']
      exact De O w0 o id hops z z' hr hh n (path ++ [no]) _ (by rw [List.length_append]; simp; omega))
theorem Ht (O : Nat → Prop) (w0 : World) (o : Ov) (id : List Int) (hops : Int) (z : Mem) (z' : Int) (hr : bu o.1 = true) (h0 : 0 ≤ hops) (hh : hops ≤ 16) (no : Int) :
    GWa O w0 (bR o.1 id (hops.toNat + 1) [] no) (f7 no o id o id hops z z') cK (lp cw 1) (gb no o id o id hops z z') :=
  aO mF (j6 no o id o id hops z z') (by
    have e := sy o.1 id (hops.toNat + 1) [] no
    have leaf : ∀ {p : WR}, bR o.1 id (hops.toNat + 1) [] no = p → ∃ q, a6 dw (K.val (Ty.pair (Ty.slc ae) (Ty.pair ab (Ty.pair ae Ty.unit))) (p.1, p.2.1, p.2.2, PUnit.unit)) = some q ∧ q = ((bR o.1 id (hops.toNat + 1) [] no).1, (bR o.1 id (hops.toNat + 1) [] no).2.1, (bR o.1 id (hops.toNat + 1) [] no).2.2, ()) := fun {p} e =>
      ⟨_, rfl, by rw [e]⟩
    refine ⟨hr, bE ⟨fun h1 => leaf (p := (_, _, _)) ?_, fun h1 => ⟨fun h2 => ?_, fun h2 => ⟨(show 1 ≤ bM by decide), fun h3 => leaf (p := (_, _, _)) ?_, fun h3 => ⟨fun h4 => ⟨(show 2 ≤ bM by decide), leaf (p := (_, _, _)) ?_⟩, fun h4 => ⟨fun h5 => leaf (p := (_, _, _)) ?_, fun h5 => ⟨fun h6 => ?_, fun h6 => ?_⟩⟩⟩⟩⟩⟩⟩
    · rw [e, h1]; rfl
    · have h2 : hops < 0 := of_decide_eq_true h2
      omega
    all_goals rw [h1] at e
    · have h3' : (ar o.1 no id).1.2.1 = true ∧ decide ((ar o.1 no id).1.1.1 = no) = true := by
        have h3 : (bif (ar o.1 no id).1.2.1 then decide ((ar o.1 no id).1.1.1 = no) else false) = true := h3
        cases hq : (ar o.1 no id).1.2.1 <;> rw [hq] at h3
        · cases h3
        · exact ⟨rfl, h3⟩
      rw [e, h3'.1, h3'.2]; rfl
    · have h4 : (ar o.1 no id).1.2.1 = true := h4
      have h3' : decide ((ar o.1 no id).1.1.1 = no) = false := by
        have h3 : (bif (ar o.1 no id).1.2.1 then decide ((ar o.1 no id).1.1.1 = no) else false) = false := h3
        rw [h4] at h3; exact h3
      rw [e, h4, h3']; rfl
    · have h4 : (ar o.1 no id).1.2.1 = false := h4
      have h5 : decide ((ar o.1 no id).1.1.1 = no) = true := h5
      rw [e, h4, h5]; rfl
    · have h4 : (ar o.1 no id).1.2.1 = false := h4
      have h5 : decide ((ar o.1 no id).1.1.1 = no) = false := h5
      have h6 : (bif (ar o.1 no id).1.2.1 then true else eqb ao (ar o.1 no id).1 ((no, (ar o.1 no id).1.1.2.1, ()), zero (Ty.pair Ty.bool Ty.unit))) = true := h6
      rw [h4] at h6
      have h6 := (lh (t := ao) (by decide) _ _).1 h6
      have h6 : (ar o.1 no id).1.1.1 = no := congrArg (fun a : Ans => a.1.1) h6
      exact absurd h6 (of_decide_eq_false h5)
    · have h4 : (ar o.1 no id).1.2.1 = false := h4
      have h5 : decide ((ar o.1 no id).1.1.1 = no) = false := h5
      have e' : bR o.1 id (hops.toNat + 1) [] no = bR o.1 id hops.toNat ([] ++ [no]) (ar o.1 no id).1.1.1 := by rw [e, h4, h5]; rfl
      show bw _ _ _ (cv prog O w0 dw fun z => z = ((bR o.1 id (hops.toNat + 1) [] no).1, (bR o.1 id (hops.toNat + 1) [] no).2.1, (bR o.1 id (hops.toNat + 1) [] no).2.2, ())) _ _ _ _
      rw [e']
      exact De O w0 o id hops z z' hr hh hops.toNat ([] ++ [no]) _ (by show ((1 : Nat) : Int) + _ = _; omega))
theorem sL : aC prog [] fQ fU :=
 bY (S := fU) mF (fx := er) y7 (by kernel_rfl) (fun h => by cases h) (T := fun x => sY x.1 x.2.1 x.2.2.1 x.2.2.2.1) (fun x => wl x.1 x.2.1 x.2.2.1 x.2.2.2.1) fun O w0 x _ hp => by
  obtain ⟨o, no, id, hops, ⟨⟩⟩ := x
  have e : ∀ c : Bool, (bif (bif !bu o.1 then true else decide ((hops : Int) < 0)) then true else decide ((16 : Int) < hops)) = c → bH o.1 no id hops = bif c then ([], zero ab, 1) else bR o.1 id ((hops : Int).toNat + 1) [] no := fun c h => by
   unfold bH; rw [h]
  refine ⟨hp, bE ⟨fun h => ⟨_, rfl, ?_⟩, fun h => ?_⟩⟩
  ·show _ = ((bH o.1 no id hops).1, (bH o.1 no id hops).2.1, (bH o.1 no id hops).2.2, ())
   rw [e true h]; rfl
  ·show bw _ _ _ (cv prog O w0 dw fun z => z = ((bH o.1 no id hops).1, (bH o.1 no id hops).2.1, (bH o.1 no id hops).2.2, ())) _ _ _ _
   rw [e false h]
   have h : (bif (bif !bu o.1 then true else decide ((hops : Int) < 0)) then true else decide ((16 : Int) < hops)) = false := h
   have h1 : bu o.1 = true := by
    cases hq : bu o.1 <;> rw [hq] at h
    cases h
   rw [h1] at h
   have h2 : decide ((hops : Int) < 0) = false := by
    cases hq : decide ((hops : Int) < 0) <;> rw [hq] at h
    cases h
   rw [h2] at h
   exact Ht O w0 o id hops (zero ab) (zero ae) h1 (Int.not_lt.1 (of_decide_eq_false h2)) (Int.not_lt.1 (of_decide_eq_false h)) no
end Go.Proofs.Ytimdnodkabnbfaa
namespace Go.Proofs.Ytimdnodkabnbfaa
open Go Go.RowKit
def GE (n : Nd) : Nd := (n.1, n.2.1, n.2.2.1.take 6, n.2.2.2.1.take 18, ())
def tk (l : List Nd) : List Nd := (l.take 18).map GE
noncomputable abbrev pN : bt := ⟨xA, sc, fun x => ((tk x.1.1, ()), ()), fun _ => True, true⟩
noncomputable abbrev mX : bt := ⟨ua, tC, fun _ => (true, ()), fun _ => True, true⟩
end Go.Proofs.Ytimdnodkabnbfaa
namespace Go.Proofs.Ytimdnodkabnbfaa
open Go Go.RowKit
noncomputable abbrev jT : Fx := { fn := jA, ann := { loops := [(3, { keep := [2, 3, 12, 13, 14], own := [(3, (.mp (.arr 0 .bool) ag))] })], frz := [(8, [1003, 100003])] }, own := [3] }
noncomputable abbrev p7 : a8 := { D := { T := br, F := [], R := [], ovl := [] }, inl := [] }
noncomputable abbrev zS : bG := .data sc
theorem tF : XOk prog p7 := xok ((aV bf aP)) (by kernel_rfl) aW bh bg
noncomputable def zR (o : den ah) : af := af.req (bq 0 (dV (lnx ag (Prod.fst o)) 18) (lnx ag (Prod.fst o))) (af.loop [] jT (lp jA 3) [(2, K.ptr 0 ah []), (3, K.ptr (0 + 1) ah []), (12, K.val (Ty.slc ag) (e9 ag (Prod.fst o) 0 (dV (lnx ag (Prod.fst o)) 18))), (13, K.val ae (lnx ag (e9 ag (Prod.fst o) 0 (dV (lnx ag (Prod.fst o)) 18)))), (14, K.val ae 0)] [(0, Bx.cell ah (zero ah)), (0 + 1, Bx.obj ah (K.agg (Ty.pair (Ty.slc ag) Ty.unit) (K.kcons (K.sl (0 + 1 + 1) ag) K.knil))), (0 + 1 + 1, Bx.row ag [])])
theorem AQ (o : den ah) : ap p7 zS 5000 [] jT (aI jA) (Env.of (aN xA (o, ()) 0) []) = zR o := by kernel_rfl
noncomputable def vY (v12 : den (Ty.slc ag)) (v13 : den ae) (v14 : den ae) (b0 : den ah) (b2 : List (den ag)) : Env := Env.of [(2, K.ptr 0 ah []), (3, K.ptr (0 + 1) ah []), (12, K.val (Ty.slc ag) v12), (13, K.val ae v13), (14, K.val ae v14)] [(0, Bx.cell ah b0), (1, Bx.obj ah (K.agg (Ty.pair (Ty.slc ag) Ty.unit) (K.kcons (K.sl (0 + 1 + 1) ag) K.knil))), (2, Bx.row ag b2)]
noncomputable def Bo (v12 : den (Ty.slc ag)) (v13 : den ae) (v14 : den ae) (b0 : den ah) (b2 : List (den ag)) : af := af.ite (decide (v14 < v13)) (af.req (inB v14 (lnx ag v12)) (af.req (bq 0 (dV (lnx ab (Prod.fst (Prod.snd (Prod.snd (el ag v12 v14))))) 6) (lnx ab (Prod.fst (Prod.snd (Prod.snd (el ag v12 v14)))))) (af.req (bq 0 (dV (lnx ab (Prod.fst (Prod.snd (Prod.snd (Prod.snd (el ag v12 v14)))))) 18) (lnx ab (Prod.fst (Prod.snd (Prod.snd (Prod.snd (el ag v12 v14))))))) (af.req (List.length (b2 ++ List.set (List.replicate 1 (zero ag)) 0 (Prod.fst (el ag v12 v14), Prod.fst (Prod.snd (el ag v12 v14)), e9 ab (Prod.fst (Prod.snd (Prod.snd (el ag v12 v14)))) 0 (dV (lnx ab (Prod.fst (Prod.snd (Prod.snd (el ag v12 v14))))) 6), e9 ab (Prod.fst (Prod.snd (Prod.snd (Prod.snd (el ag v12 v14))))) 0 (dV (lnx ab (Prod.fst (Prod.snd (Prod.snd (Prod.snd (el ag v12 v14)))))) 18), Prod.snd (Prod.snd (Prod.snd (Prod.snd (el ag v12 v14)))))) ≤ bM) (af.loop [] jT (lp jA 3) [(2, K.ptr 0 ah []), (3, K.ptr (0 + 1) ah []), (12, K.val (Ty.slc ag) v12), (13, K.val ae v13), (14, K.val ae (IntKind.wrap IntKind.i64 (v14 + 1)))] [(0, Bx.cell ah b0), (0 + 1, Bx.obj ah (K.agg (Ty.pair (Ty.slc ag) Ty.unit) (K.kcons (K.sl (0 + 1 + 1) ag) K.knil))), (0 + 1 + 1, Bx.row ag (b2 ++ List.set (List.replicate 1 (zero ag)) 0 (Prod.fst (el ag v12 v14), Prod.fst (Prod.snd (el ag v12 v14)), e9 ab (Prod.fst (Prod.snd (Prod.snd (el ag v12 v14)))) 0 (dV (lnx ab (Prod.fst (Prod.snd (Prod.snd (el ag v12 v14))))) 6), e9 ab (Prod.fst (Prod.snd (Prod.snd (Prod.snd (el ag v12 v14))))) 0 (dV (lnx ab (Prod.fst (Prod.snd (Prod.snd (Prod.snd (el ag v12 v14)))))) 18), Prod.snd (Prod.snd (Prod.snd (Prod.snd (el ag v12 v14)))))))]))))) (af.ret (K.val (Ty.pair ah Ty.unit) ((b2, PUnit.unit), PUnit.unit)))
theorem qe (v12 : den (Ty.slc ag)) (v13 : den ae) (v14 : den ae) (b0 : den ah) (b2 : List (den ag)) : ap p7 zS 5000 [] jT (lp jA 3) (vY v12 v13 v14 b0 b2) = Bo v12 v13 v14 b0 b2 := by kernel_rfl
noncomputable abbrev ui : Fx := { fn := qR, ann := { }, share := true }
noncomputable abbrev vz : a8 := { D := { T := br, F := [(fQ, fU)], R := [], ovl := [] }, inl := [] }
noncomputable abbrev CJ : bG := .data tC
theorem B9 (h_lookup_Walk : aC prog [] fQ fU) : XOk prog vz := xok (aH (aV bf aP) h_lookup_Walk) (by kernel_rfl) aW bh bg
noncomputable def vq : af := af.req (List.length (List.set (List.replicate 1 (zero ag)) 0 ((3, zero (Ty.pair tId Ty.unit)), (-1, zero (Ty.pair tId Ty.unit)), List.set (List.replicate 1 (zero ab)) 0 (3, zero (Ty.pair tId Ty.unit)), zero (Ty.pair (Ty.slc ab) Ty.unit))) ≤ 1000000) (af.all (den (Ty.pair (Ty.slc ae) (Ty.pair ab (Ty.pair ae Ty.unit)))) (fun (q0 : den (Ty.pair (Ty.slc ae) (Ty.pair ab (Ty.pair ae Ty.unit)))) ↦ q0 = (Prod.fst (bH (List.set (List.replicate 1 (zero ag)) 0 ((3, zero (Ty.pair tId Ty.unit)), (-1, zero (Ty.pair tId Ty.unit)), List.set (List.replicate 1 (zero ab)) 0 (3, zero (Ty.pair tId Ty.unit)), zero (Ty.pair (Ty.slc ab) Ty.unit))) 3 (List.set (List.replicate 32 (zero (Ty.int IntKind.u8))) 31 7) 0), Prod.fst (Prod.snd (bH (List.set (List.replicate 1 (zero ag)) 0 ((3, zero (Ty.pair tId Ty.unit)), (-1, zero (Ty.pair tId Ty.unit)), List.set (List.replicate 1 (zero ab)) 0 (3, zero (Ty.pair tId Ty.unit)), zero (Ty.pair (Ty.slc ab) Ty.unit))) 3 (List.set (List.replicate 32 (zero (Ty.int IntKind.u8))) 31 7) 0)), Prod.snd (Prod.snd (bH (List.set (List.replicate 1 (zero ag)) 0 ((3, zero (Ty.pair tId Ty.unit)), (-1, zero (Ty.pair tId Ty.unit)), List.set (List.replicate 1 (zero ab)) 0 (3, zero (Ty.pair tId Ty.unit)), zero (Ty.pair (Ty.slc ab) Ty.unit))) 3 (List.set (List.replicate 32 (zero (Ty.int IntKind.u8))) 31 7) 0)), PUnit.unit)) fun (q0 : den (Ty.pair (Ty.slc ae) (Ty.pair ab (Ty.pair ae Ty.unit)))) ↦ af.req (dH [(bif bif decide (Prod.fst (Prod.snd (Prod.snd q0)) = 0) then eqb ab (Prod.fst (Prod.snd q0)) (3, zero (Ty.pair tId Ty.unit)) else false then decide (lnx ae (Prod.fst q0) = 1) else false, true)] (inB 0 (lnx ae (Prod.fst q0)))) (af.ret (K.val (Ty.pair Ty.bool Ty.unit) (bif bif bif decide (Prod.fst (Prod.snd (Prod.snd q0)) = 0) then eqb ab (Prod.fst (Prod.snd q0)) (3, zero (Ty.pair tId Ty.unit)) else false then decide (lnx ae (Prod.fst q0) = 1) else false then decide (el ae (Prod.fst q0) 0 = 3) else false, PUnit.unit))))
theorem yt : ap vz CJ 5000 [] ui (aI qR) (Env.of (aN ua () 0) []) = vq := by kernel_rfl
noncomputable abbrev bA : Fx := { fn := bv, ann := { loops := [(8, { keep := [1, 3, 9, 10, 12, 47, 48, 49] }), (13, { keep := [1, 3, 9, 10, 12, 57, 58, 59] })] }, share := true }
noncomputable abbrev dQ : a8 := { D := { T := br, F := [(pL, pN), (fQ, fU), (mP, mX), (eZ, eQ)], R := [], ovl := [] }, inl := [] }
noncomputable abbrev j9 : bG := .data nd
theorem vj (h_l11_few : aC prog [] pL pN) (h_lookup_Walk : aC prog [] fQ fU) (h_l11_alive : aC prog [] mP mX) (h_chord_Members : aC prog [] eZ eQ) : XOk prog dQ := xok (aH (aH (aH (aH (aV bf aP) h_chord_Members) h_l11_alive) h_lookup_Walk) h_l11_few) (by kernel_rfl) aW bh bg
noncomputable def nT (o : den ah) (no : den ae) (id : den tId) (hops : den ae) : af := af.req True (af.all (den ah) (fun (q4 : den ah) ↦ q4 = (tk (Prod.fst o), PUnit.unit)) fun (q4 : den ah) ↦ af.req (nz 17) (af.req (nz 17) (af.req (List.length (Prod.fst q4) ≤ 1000000) (af.all (den (Ty.pair (Ty.slc ae) (Ty.pair ab (Ty.pair ae Ty.unit)))) (fun (q5 : den (Ty.pair (Ty.slc ae) (Ty.pair ab (Ty.pair ae Ty.unit)))) ↦ q5 = (Prod.fst (bH (Prod.fst q4) no id (Int.tmod (IntKind.wrap IntKind.i64 (Int.tmod hops 17 + 17)) 17)), Prod.fst (Prod.snd (bH (Prod.fst q4) no id (Int.tmod (IntKind.wrap IntKind.i64 (Int.tmod hops 17 + 17)) 17))), Prod.snd (Prod.snd (bH (Prod.fst q4) no id (Int.tmod (IntKind.wrap IntKind.i64 (Int.tmod hops 17 + 17)) 17))), PUnit.unit)) fun (q5 : den (Ty.pair (Ty.slc ae) (Ty.pair ab (Ty.pair ae Ty.unit)))) ↦ af.ite (!decide (Prod.fst (Prod.snd (Prod.snd q5)) = 0)) (af.req True (af.all (den Ty.bool) (fun (q6 : den Ty.bool) ↦ q6 = true) fun (q6 : den Ty.bool) ↦ af.ret (K.val (Ty.pair Ty.bool Ty.unit) (bif bif q6 then decide (lnx ae (Prod.fst q5) = 0) else false then eqb ab (Prod.fst (Prod.snd q5)) (zero (Ty.pair ae (Ty.pair tId Ty.unit))) else false, PUnit.unit)))) (af.req (List.length (Prod.fst q4) ≤ 1000000) (af.all (den (Ty.slc ab)) (fun (q6 : den (Ty.slc ab)) ↦ q6 = cX (Prod.fst q4)) fun (q6 : den (Ty.slc ab)) ↦ af.loop [] bA (lp bv 8) [(1, K.val ae no), (3, K.val ae (Int.tmod (IntKind.wrap IntKind.i64 (Int.tmod hops 17 + 17)) 17)), (9, K.val (Ty.slc ae) (Prod.fst q5)), (10, K.ptr 0 ab []), (12, K.pm (0 + 1)), (47, K.val (Ty.slc ab) q6), (48, K.val ae (lnx ab q6)), (49, K.val ae 0)] [(0, Bx.cell ab (Prod.fst (Prod.snd q5))), (0 + 1, Bx.mpd ae Ty.bool [])]))))))
theorem sd (o : den ah) (no : den ae) (id : den tId) (hops : den ae) : ap dQ j9 5000 [] bA (aI bv) (Env.of (aN dx (o, no, id, hops, ()) 0) []) = nT o no id hops := by kernel_rfl
noncomputable def mc (v1 : den ae) (v3 : den ae) (v9 : den (Ty.slc ae)) (v47 : den (Ty.slc ab)) (v48 : den ae) (v49 : den ae) (b0 : den ab) (b1 : List (den ae × den Ty.bool)) : Env := Env.of [(1, K.val ae v1), (3, K.val ae v3), (9, K.val (Ty.slc ae) v9), (10, K.ptr 0 ab []), (12, K.pm (0 + 1)), (47, K.val (Ty.slc ab) v47), (48, K.val ae v48), (49, K.val ae v49)] [(0, Bx.cell ab b0), (1, Bx.mpd ae Ty.bool b1)]
noncomputable def sf (v1 : den ae) (v3 : den ae) (v9 : den (Ty.slc ae)) (v47 : den (Ty.slc ab)) (v48 : den ae) (v49 : den ae) (b0 : den ab) (b1 : List (den ae × den Ty.bool)) : af := af.ite (decide (v49 < v48)) (af.req (inB v49 (lnx ab v47)) (af.loop [] bA (lp bv 8) [(1, K.val ae v1), (3, K.val ae v3), (9, K.val (Ty.slc ae) v9), (10, K.ptr 0 ab []), (12, K.pm (0 + 1)), (47, K.val (Ty.slc ab) v47), (48, K.val ae v48), (49, K.val ae (IntKind.wrap IntKind.i64 (v49 + 1)))] [(0, Bx.cell ab b0), (0 + 1, Bx.mpd ae Ty.bool (iB b1 (Prod.fst (el ab v47 v49)) true))])) (af.loop [] bA (lp bv 13) [(1, K.val ae v1), (3, K.val ae v3), (9, K.val (Ty.slc ae) v9), (10, K.ptr 0 ab []), (12, K.pm (0 + 1)), (57, K.val (Ty.slc ae) v9), (58, K.val ae (lnx ae v9)), (59, K.val ae 0)] [(0, Bx.cell ab b0), (0 + 1, Bx.mpd ae Ty.bool b1)])
theorem j4 (v1 : den ae) (v3 : den ae) (v9 : den (Ty.slc ae)) (v47 : den (Ty.slc ab)) (v48 : den ae) (v49 : den ae) (b0 : den ab) (b1 : List (den ae × den Ty.bool)) : ap dQ j9 5000 [] bA (lp bv 8) (mc v1 v3 v9 v47 v48 v49 b0 b1) = sf v1 v3 v9 v47 v48 v49 b0 b1 := by kernel_rfl
noncomputable def iA (v1 : den ae) (v3 : den ae) (v9 : den (Ty.slc ae)) (v57 : den (Ty.slc ae)) (v58 : den ae) (v59 : den ae) (b0 : den ab) (b1 : List (den ae × den Ty.bool)) : Env := Env.of [(1, K.val ae v1), (3, K.val ae v3), (9, K.val (Ty.slc ae) v9), (10, K.ptr 0 ab []), (12, K.pm (0 + 1)), (57, K.val (Ty.slc ae) v57), (58, K.val ae v58), (59, K.val ae v59)] [(0, Bx.cell ab b0), (1, Bx.mpd ae Ty.bool b1)]
noncomputable def rB (v1 : den ae) (v3 : den ae) (v9 : den (Ty.slc ae)) (v57 : den (Ty.slc ae)) (v58 : den ae) (v59 : den ae) (b0 : den ab) (b1 : List (den ae × den Ty.bool)) : af := af.ite (decide (v59 < v58)) (af.req (inB v59 (lnx ae v57)) (af.ite (!fH b1 (el ae v57 v59)) (af.ret (K.val (Ty.pair Ty.bool Ty.unit) (false, PUnit.unit))) (af.loop [] bA (lp bv 13) [(1, K.val ae v1), (3, K.val ae v3), (9, K.val (Ty.slc ae) v9), (10, K.ptr 0 ab []), (12, K.pm (0 + 1)), (57, K.val (Ty.slc ae) v57), (58, K.val ae v58), (59, K.val ae (IntKind.wrap IntKind.i64 (v59 + 1)))] [(0, Bx.cell ab b0), (0 + 1, Bx.mpd ae Ty.bool b1)]))) (af.req True (af.req (dH [(bif true then decide (0 < lnx ae v9) else false, true)] (inB 0 (lnx ae v9))) (af.req (dH [(bif bif true then decide (0 < lnx ae v9) else false then decide (el ae v9 0 = v1) else false, true)] (inB (IntKind.wrap IntKind.i64 (lnx ae v9 - 1)) (lnx ae v9))) (af.all (den Ty.bool) (fun (q8 : den Ty.bool) ↦ q8 = true) fun (q8 : den Ty.bool) ↦ af.ret (K.val (Ty.pair Ty.bool Ty.unit) (bif bif bif bif bif true then decide (0 < lnx ae v9) else false then decide (el ae v9 0 = v1) else false then decide (el ae v9 (IntKind.wrap IntKind.i64 (lnx ae v9 - 1)) = Prod.fst b0) else false then fH b1 (Prod.fst b0) else false then decide (lnx ae v9 ≤ IntKind.wrap IntKind.i64 (v3 + 2)) else false, PUnit.unit))))))
theorem jq (v1 : den ae) (v3 : den ae) (v9 : den (Ty.slc ae)) (v57 : den (Ty.slc ae)) (v58 : den ae) (v59 : den ae) (b0 : den ab) (b1 : List (den ae × den Ty.bool)) : ap dQ j9 5000 [] bA (lp bv 13) (iA v1 v3 v9 v57 v58 v59 b0 b1) = rB v1 v3 v9 v57 v58 v59 b0 b1 := by kernel_rfl
end Go.Proofs.Ytimdnodkabnbfaa
namespace Go.Proofs.Ytimdnodkabnbfaa
open Go Go.RowKit
theorem BQ (no : Int) : ∀ (l pre : List Mem), yu no pre l = true ↔ (∀ m ∈ l, fc m = true ∧ m.1 ≠ no ∧ ∀ x ∈ pre, x.1 ≠ m.1) ∧ (l.map fun m => m.1).Nodup
 | [], pre => ⟨fun _ => ⟨fun _ h => (by cases h), List.nodup_nil⟩, fun _ => rfl⟩
 | m :: l, pre => by
  rw [zn]
  have ih := BQ no l (pre ++ [m])
  constructor
  ·intro h
   have h1 : fc m = true := by
    cases hq : fc m with
    | true => rfl
    | false => rw [hq] at h; cases h
   have h2 : decide (m.1 = no) = false := by
    cases hq : decide (m.1 = no) with
    | false => rfl
    | true => rw [h1, hq] at h; cases h
   have h3 : (pre.any fun x => decide (x.1 = m.1)) = false := by
    cases hq : (pre.any fun x => decide (x.1 = m.1)) with
    | false => rfl
    | true => rw [h1, h2, hq] at h; cases h
   rw [h1, h2, h3] at h
   obtain ⟨a1, a2⟩ := ih.1 h
   have h3' : ∀ x ∈ pre, x.1 ≠ m.1 := fun x hx e => by
    have := List.any_eq_false.1 h3 x hx
    exact this (decide_eq_true e)
   refine ⟨fun q hq => ?_, ?_⟩
   ·rcases List.mem_cons.1 hq with rfl | hq
    ·exact ⟨h1, of_decide_eq_false h2, h3'⟩
    ·obtain ⟨b1, b2, b3⟩ := a1 q hq
     exact ⟨b1, b2, fun x hx => b3 x (List.mem_append_left _ hx)⟩
   ·rw [List.map_cons, List.nodup_cons]
    refine ⟨fun hm => ?_, a2⟩
    obtain ⟨q, hq, e⟩ := List.mem_map.1 hm
    exact (a1 q hq).2.2 m (List.mem_append_right _ (List.mem_singleton.2 rfl)) e.symm
  ·rintro ⟨a1, a2⟩
   obtain ⟨b1, b2, b3⟩ := a1 m List.mem_cons_self
   rw [List.map_cons, List.nodup_cons] at a2
   have h3 : (pre.any fun x => decide (x.1 = m.1)) = false := List.any_eq_false.2 fun x hx => by
    have := b3 x hx
    simpa using this
   rw [b1, decide_eq_false b2, h3]
   refine ih.2 ⟨fun q hq => ?_, a2.2⟩
   obtain ⟨c1, c2, c3⟩ := a1 q (List.mem_cons_of_mem _ hq)
   refine ⟨c1, c2, fun x hx => ?_⟩
   rcases List.mem_append.1 hx with hx | hx
   ·exact c3 x hx
   ·rw [List.mem_singleton.1 hx]
    exact fun e => a2.1 (List.mem_map.2 ⟨q, hq, e.symm⟩)
theorem En (l : List Mem) (no : Int) : dq l no = true ↔ (∀ m ∈ l, fc m = true ∧ m.1 ≠ no) ∧ (l.map fun m => m.1).Nodup := by
 unfold dq
 rw [BQ]
 constructor
 ·rintro ⟨h1, h2⟩; exact ⟨fun m hm => ⟨(h1 m hm).1, (h1 m hm).2.1⟩, h2⟩
 ·rintro ⟨h1, h2⟩; exact ⟨fun m hm => ⟨(h1 m hm).1, (h1 m hm).2, fun _ h => (by cases h)⟩, h2⟩
theorem xT {l l' : List Mem} {no : Int} (h : dq l no = true) (hs : l'.Sublist l) : dq l' no = true := by
 rw [En] at h ⊢
 exact ⟨fun m hm => h.1 m (hs.subset hm), h.2.sublist (hs.map _)⟩
structure NOk (n : Nd) : Prop where
 self : fc n.1 = true
 pred : n.2.1 = noM ∨ (fc n.2.1 = true ∧ n.2.1.1 ≠ n.1.1)
 one : 1 ≤ n.2.2.1.length
 four : n.2.2.1.length ≤ 4
 succs : n.2.2.1 = [n.1] ∨ dq n.2.2.1 n.1.1 = true
 many : n.2.2.2.1.length ≤ 16
 fing : dq n.2.2.2.1 n.1.1 = true
theorem Du (n : Nd) : a9 n = true ↔ NOk n := by
 have e1 : lnx ab n.2.2.1 = ((n.2.2.1.length : Nat) : Int) := rfl
 have e2 : lnx ab n.2.2.2.1 = ((n.2.2.2.1.length : Nat) : Int) := rfl
 have ep : uq n = true ↔ (n.2.1 = noM ∨ (fc n.2.1 = true ∧ n.2.1.1 ≠ n.1.1)) := by
  unfold uq
  by_cases h : n.2.1 = noM
  ·simp [h]
  ·rw [decide_eq_false h]
   cases hm : fc n.2.1
   ·simp [h]
   ·simp [h]
 have es : qY n = true ↔ (1 ≤ n.2.2.1.length ∧ n.2.2.1.length ≤ 4 ∧ (n.2.2.1 = [n.1] ∨ dq n.2.2.1 n.1.1 = true)) := by
  unfold qY
  rw [e1]
  by_cases h1 : 1 ≤ n.2.2.1.length
  ·rw [decide_eq_true (show (1 : Int) ≤ ((n.2.2.1.length : Nat) : Int) by omega)]
   by_cases h2 : n.2.2.1.length ≤ 4
   ·rw [decide_eq_true (show ((n.2.2.1.length : Nat) : Int) ≤ 4 by omega)]
    by_cases h3 : n.2.2.1 = [n.1]
    ·rw [decide_eq_true h3]; simp [h1, h2, h3]
    ·rw [decide_eq_false h3]; simp [h1, h2, h3]
   ·rw [decide_eq_false (show ¬ ((n.2.2.1.length : Nat) : Int) ≤ 4 by omega)]; simp [h2]
  ·rw [decide_eq_false (show ¬ (1 : Int) ≤ ((n.2.2.1.length : Nat) : Int) by omega)]; simp [h1]
 unfold a9
 rw [e2]
 constructor
 ·intro h
  cases h1 : fc n.1 <;> rw [h1] at h
  ·cases h
  cases h2 : uq n <;> rw [h2] at h
  ·cases h
  cases h3 : qY n <;> rw [h3] at h
  ·cases h
  cases h4 : decide (((n.2.2.2.1.length : Nat) : Int) ≤ 16) <;> rw [h4] at h
  ·cases h
  obtain ⟨s1, s2, s3⟩ := es.1 h3
  exact ⟨h1, ep.1 h2, s1, s2, s3, by have := of_decide_eq_true h4; omega, h⟩
 ·intro h
  rw [h.self, ep.2 h.pred, es.2 ⟨h.one, h.four, h.succs⟩, decide_eq_true (show ((n.2.2.2.1.length : Nat) : Int) ≤ 16 by have := h.many; omega)]
  exact h.fing
theorem EV (n : Nd) : nW n [] = [n.1] := rfl
theorem xR (n : Nd) (m : Mem) (l : List Mem) : nW n (m :: l) = m :: l := by
 unfold nW
 rw [decide_eq_false (show ¬ lnx ab (m :: l) = 0 from fun h => by have h : (((m :: l).length : Nat) : Int) = 0 := h; simp at h; omega)]
 rfl
theorem Fy (no : Int) (nos : List Int) {m : Mem} (h : m.1 = no) : bl no nos m = false := by
 unfold bl; rw [decide_eq_true h]; rfl
theorem GW {n : Nd} (h : NOk n) (nos : List Int) : NOk (kO n nos) := by
  have hf : (n.2.2.1.filter fun m => !bl n.1.1 nos m).length ≤ 4 := Nat.le_trans (List.length_filter_le _ _) h.four
  refine ⟨h.self, ?_, ?_, ?_, ?_, Nat.le_trans (List.length_filter_le _ _) h.many, xT h.fing List.filter_sublist⟩
  · show (bif _ then noM else n.2.1) = noM ∨ (fc (bif _ then noM else n.2.1) = true ∧ (bif _ then noM else n.2.1).1 ≠ n.1.1)
    cases (bif !decide (n.2.1 = noM) then bl n.1.1 nos n.2.1 else false)
    · exact h.pred
    · exact .inl rfl
  all_goals
    show _
    simp only [kO]
    cases hq : (n.2.2.1.filter fun m => !bl n.1.1 nos m) with
    | nil => first | exact Nat.le_refl _ | exact (by decide : 1 ≤ 4) | exact .inl rfl
    | cons m l =>
      rw [xR, ← hq]
      first
      | (rw [hq]; exact Nat.succ_le_succ (Nat.zero_le _))
      | exact hf
      | (rcases h.succs with hs | hs
         · left
           rw [hs, List.filter_cons_of_pos (p := fun m : Mem => !bl n.1.1 nos m) (by rw [Fy n.1.1 nos rfl]; rfl)]
           rfl
         · right
           exact xT hs List.filter_sublist)
theorem wx {l : List Nd} {n : Nd} (h : n ∈ l) : eT l n.1.1 = true := List.any_eq_true.2 ⟨n, h, decide_eq_true rfl⟩
theorem Hl {l : List Nd} {n : Nd} (h : a9 n = true) : wJ l n = kO n (i6 l n) := by
 unfold wJ fo; rw [h]; rfl
theorem zp {l : List Nd} {n : Nd} (hn : n ∈ l) {m : Mem} (hk : m ∈ bW n) (h : bl n.1.1 (i6 l n) m = false) : eT l m.1 = true := by
 cases hl : eT l m.1 with
 | true => rfl
 | false =>
  exfalso
  have hd : m.1 ∈ i6 l n := List.mem_map.2 ⟨m, List.mem_filter.2 ⟨hk, by rw [hl]; rfl⟩, rfl⟩
  by_cases he : m.1 = n.1.1
  ·rw [he, wx hn] at hl; cases hl
  ·unfold bl at h
   rw [decide_eq_false he] at h
   have h : ((i6 l n).any fun x => decide (x = m.1)) = false := h
   exact (List.any_eq_false.1 h _ hd) (decide_eq_true rfl)
theorem EC {l : List Nd} {n : Nd} (hn : n ∈ l) {m : Mem} (h : m ∈ (kO n (i6 l n)).2.2.1) : eT l m.1 = true := by
 have h : m ∈ nW n (n.2.2.1.filter fun m => !bl n.1.1 (i6 l n) m) := h
 have key : ∀ m ∈ (n.2.2.1.filter fun m => !bl n.1.1 (i6 l n) m), eT l m.1 = true := fun m hm => by
  obtain ⟨h1, h2⟩ := List.mem_filter.1 hm
  exact zp hn (List.mem_append_left _ (List.mem_append_right _ h1)) (by simpa using h2)
 cases hq : (n.2.2.1.filter fun m => !bl n.1.1 (i6 l n) m) with
 | nil =>
  rw [hq, EV] at h
  rw [List.mem_singleton.1 h]
  exact wx hn
 | cons x t =>
  rw [hq, xR, ← hq] at h
  exact key m h
theorem Ff {l : List Nd} {n : Nd} (hn : n ∈ l) {m : Mem} (h : m ∈ (kO n (i6 l n)).2.2.2.1) : eT l m.1 = true := by
 obtain ⟨h1, h2⟩ := List.mem_filter.1 (show m ∈ n.2.2.2.1.filter fun m => !bl n.1.1 (i6 l n) m from h)
 exact zp hn (List.mem_append_right _ h1) (by simpa using h2)
theorem Bw (self : List Int) : ∀ (l : List Mem) (s : Mem × Int), (l.foldl (fF self) s = s ∨ ((l.foldl (fF self) s).2 = 0 ∧ (l.foldl (fF self) s).1 ∈ l))
 | [], s => .inl rfl
 | m :: l, s => by
  rw [List.foldl_cons]
  have hs : fF self s m = s ∨ fF self s m = (m, 0) := by
   unfold fF
   cases (bif !decide (s.2 = 0) then true else decide (lN (c5 self s.1.2.1) (c5 self m.2.1) < 0))
   ·exact .inl rfl
   ·exact .inr rfl
  rcases Bw self l (fF self s m) with h | h
  ·rw [h]
   rcases hs with h2 | h2
   ·exact .inl h2
   ·rw [h2]; exact .inr ⟨rfl, List.mem_cons_self⟩
  ·exact .inr ⟨h.1, List.mem_cons_of_mem _ h.2⟩
theorem DX {id self : List Int} {l : List Mem} (h : (cS id self l).2 = 0) : (cS id self l).1 ∈ l := by
 rcases Bw self (l.filter (lI self id)) (zero ab, 6) with h1 | h1
 ·have : (cS id self l) = (zero ab, 6) := h1
  rw [this] at h; cases h
 ·exact (List.mem_filter.1 h1.2).1
theorem G2 {xs : List Mem} (h : 1 ≤ xs.length) : el ab xs 0 ∈ xs := by
 have : el ab xs ((0 : Nat) : Int) = xs[0] := cn (e := ab) h
 have this : el ab xs 0 = xs[0] := this
 rw [this]; exact List.getElem_mem h
theorem G5 {n : Nd} (h : NOk n) (id : List Int) : (da n id).1 ∈ n.2.2.2.1 ++ n.2.2.1 := by
 unfold da
 rw [(Du n).2 h]
 have h0 : el ab n.2.2.1 0 ∈ n.2.2.2.1 ++ n.2.2.1 := List.mem_append_right _ (G2 h.one)
 cases nx id n.1.2.1 (el ab n.2.2.1 0).2.1 with
 | true => exact h0
 | false =>
  by_cases hc : (cS id n.1.2.1 (n.2.2.2.1 ++ n.2.2.1)).2 = 0
  ·rw [decide_eq_true hc]; exact DX hc
  ·rw [decide_eq_false hc]; exact h0
theorem Fh {l : List Nd} (hr : bu l = true) {no : Int} (id : List Int) (h : (ar l no id).2 = true) : eT l no = true ∧ eT l (ar l no id).1.1.1 = true := by
 cases hf : l.find? (fun n => decide (n.1.1 = no)) with
 | none => rw [zP id hf] at h; cases h
 | some n =>
  have hn := List.mem_of_find?_eq_some hf
  have hno := List.find?_some hf
  have hrn := xu hr hn
  have hok := (Du n).1 hrn
  refine ⟨List.any_eq_true.2 ⟨n, hn, hno⟩, ?_⟩
  rw [zy id hf]
  show eT l (wb l n id).1.1 = true
  unfold wb
  rw [Hl hrn]
  cases ov (kO n (i6 l n)) id with
  | true => show eT l n.1.1 = true; exact wx hn
  | false =>
   have := G5 (GW hok (i6 l n)) id
   rcases List.mem_append.1 this with h | h
   ·exact Ff hn h
   ·exact EC hn h
theorem zD (l : List Nd) (id : List Int) : ∀ (n : Nat) (path : List Int) (no : Int), (bR l id n path no).2.2 ≠ 0 → (bR l id n path no).1 = [] ∧ (bR l id n path no).2.1 = zero ab
 | n, path, no, h => by
  rw [sy] at h ⊢
  cases h1 : (ar l no id).2 <;> rw [h1] at h
  ·exact ⟨rfl, rfl⟩
  cases n with
  | zero => exact ⟨rfl, rfl⟩
  | succ n =>
   simp only [Bool.not_true, cond_false] at h ⊢
   cases h2 : (ar l no id).1.2.1 <;> rw [h2] at h
   ·cases h3 : decide ((ar l no id).1.1.1 = no) <;> rw [h3] at h
    ·exact zD l id n _ _ h
    ·exact ⟨rfl, rfl⟩
   ·cases h3 : decide ((ar l no id).1.1.1 = no) <;> rw [h3] at h <;> exact absurd rfl h
structure Way (l : List Nd) (path : List Int) (no : Int) (n : Nat) (r : WR) : Prop where
 way : ∃ rest, r.1 = path ++ no :: rest ∧ rest.length ≤ n ∧ (∀ x ∈ no :: rest, eT l x = true) ∧ (no :: rest).getLast? = some r.2.1.1
theorem AS {l : List Nd} (hr : bu l = true) (id : List Int) : ∀ (n : Nat) (path : List Int) (no : Int), (bR l id n path no).2.2 = 0 → Way l path no n (bR l id n path no)
 | n, path, no, h => by
  rw [sy] at h ⊢
  cases h1 : (ar l no id).2 <;> rw [h1] at h
  ·cases h
  obtain ⟨a1, a2⟩ := Fh hr id h1
  cases n with
  | zero => cases h
  | succ n =>
   simp only [Bool.not_true, cond_false] at h ⊢
   cases h2 : (ar l no id).1.2.1 <;> rw [h2] at h
   ·cases h3 : decide ((ar l no id).1.1.1 = no) <;> rw [h3] at h
    ·obtain ⟨rest, b1, b2, b3, b4⟩ := (AS hr id n _ _ h).way
     refine ⟨(ar l no id).1.1.1 :: rest, ?_, by simp; omega, ?_, ?_⟩
     ·show (bR l id n (path ++ [no]) (ar l no id).1.1.1).1 = _
      rw [b1, List.append_assoc]; rfl
     ·intro x hx
      rcases List.mem_cons.1 hx with rfl | hx
      ·exact a1
      ·exact b3 x hx
     ·rw [List.getLast?_cons_cons]; exact b4
    ·cases h
   ·cases h3 : decide ((ar l no id).1.1.1 = no)
    ·refine ⟨[(ar l no id).1.1.1], ?_, by simp, ?_, rfl⟩
     ·show path ++ [no] ++ [(ar l no id).1.1.1] = _
      rw [List.append_assoc]; rfl
     ·intro x hx
      rcases List.mem_cons.1 hx with rfl | hx
      ·exact a1
      ·rw [List.mem_singleton.1 hx]; exact a2
    ·refine ⟨[], rfl, Nat.zero_le _, ?_, ?_⟩
     ·intro x hx
      rw [List.mem_singleton.1 hx]; exact a1
     ·show some no = some (ar l no id).1.1.1
      rw [of_decide_eq_true h3]
end Go.Proofs.Ytimdnodkabnbfaa
namespace Go.Proofs.Ytimdnodkabnbfaa
open Go Go.RowKit
abbrev GFw (O : Nat → Prop) (w0 : World) (y : List Nd) := bw prog p7 (Cx.base O w0) (cv prog O w0 sc fun z => z = ((y, ()), ()))
theorem Dl (n : Nat) (b : List Mem) : bq 0 (dV (lnx ab b) (n : Int)) (lnx ab b) := by
 have e : lnx ab b = ((b.length : Nat) : Int) := rfl
 rw [e]
 unfold dV bq
 split <;> omega
theorem H9 (n : Nat) (b : List Mem) : e9 ab b 0 (dV (lnx ab b) (n : Int)) = b.take n := by
 show (b.take (dV ((b.length : Nat) : Int) n).toNat).drop (0 : Int).toNat = _
 have : (dV ((b.length : Nat) : Int) n).toNat = min b.length n := by unfold dV; split <;> omega
 rw [this]
 simp [Nat.min_comm]
theorem Ix (n : Nat) (b : List Nd) : e9 ag b 0 (dV (lnx ag b) (n : Int)) = b.take n := by
 show (b.take (dV ((b.length : Nat) : Int) n).toNat).drop (0 : Int).toNat = _
 have : (dV ((b.length : Nat) : Int) n).toNat = min b.length n := by unfold dV; split <;> omega
 rw [this]
 simp [Nat.min_comm]
theorem GZ (n : Nat) (b : List Nd) : bq 0 (dV (lnx ag b) (n : Int)) (lnx ag b) := by
 have e : lnx ag b = ((b.length : Nat) : Int) := rfl
 rw [e]
 unfold dV bq
 split <;> omega
def H3 (O : Nat → Prop) (w0 : World) (q : List Nd) (z : Ov) (hm : q.length ≤ 18) :=
 PLift.up <| bF (σ := List Nd) q.length (fun i b => b = (q.take i).map GE)
  (fun i b => GFw O w0 (q.map GE) [] jT (lp jA 3) (vY q (lnx ag q) (i : Nat) z b))
  (fun i b hi hs ih => aO tF (qe q _ _ z b) (by
   refine ⟨fun _ => ⟨be hi, Dl 6 _, Dl 18 _, ?_, ?_⟩, fun hc => absurd hi (by rw [cp (e := ag)] at hc; exact of_decide_eq_false hc)⟩
   ·rw [List.length_append, hs, List.length_map, List.length_take]
    exact Nat.le_trans (show min i q.length + 1 ≤ 19 by omega) (by decide)
   ·rw [cn (e := ag) hi, cF hi (Nat.le_trans hm (by decide))]
    refine ih _ ?_
    rw [List.take_succ_eq_append_getElem hi, List.map_append, ← hs]
    have e1 := H9 6 q[i].2.2.1
    have e2 := H9 18 q[i].2.2.2.1
    have e1 : e9 ab q[i].2.2.1 0 (dV (lnx ab q[i].2.2.1) 6) = q[i].2.2.1.take 6 := e1
    have e2 : e9 ab q[i].2.2.2.1 0 (dV (lnx ab q[i].2.2.2.1) 18) = q[i].2.2.2.1.take 18 := e2
    rw [e1, e2]
    rfl))
  (fun b hs => aO tF (qe q _ _ z b) ⟨fun hc => absurd (of_decide_eq_true hc) (Int.lt_irrefl _), fun _ => ⟨_, rfl, by
   rw [List.take_length] at hs
   rw [hs]⟩⟩)
theorem E6 : aC prog [] pL pN :=
 bY (S := pN) tF (fx := jT) DG (by kernel_rfl) (fun _ _ => trivial) (T := fun x => zR x.1) (fun x => AQ x.1) fun O w0 x _ _ => by
  obtain ⟨o, ⟨⟩⟩ := x
  refine ⟨GZ 18 _, ?_⟩
  have e : e9 ag o.1 0 (dV (lnx ag o.1) 18) = o.1.take 18 := Ix 18 o.1
  rw [e]
  exact (H3 O w0 (o.1.take 18) (zero ah) (by rw [List.length_take]; omega)).down 0 [] (Nat.zero_le _) rfl
theorem FQ (l : List Nd) : (tk l).length ≤ 18 := by
 unfold tk; rw [List.length_map, List.length_take]; omega
def n3 : Nd := ((3, zero (Ty.pair tId Ty.unit)), (-1, zero (Ty.pair tId Ty.unit)), [(3, zero (Ty.pair tId Ty.unit))], zero (Ty.pair (Ty.slc ab) Ty.unit))
def id7 : List Int := List.set (List.replicate 32 (zero (Ty.int IntKind.u8))) 31 7
theorem G8 : bH [n3] 3 id7 0 = ([3], (3, zero (Ty.pair tId Ty.unit)), 0) := by kernel_rfl
theorem Cv : aC prog [] mP mX :=
 bY (S := mX) (B9 sL) (fx := ui) B2 (by kernel_rfl) (fun _ _ => trivial) (T := fun _ => vq) (fun _ => yt) fun O v0 x _ _ => by
  refine ⟨(show 1 ≤ 1000000 by decide), bE ?_⟩
  show aU _ _ _ _ _ (af.req (dH [(bif bif decide ((bH [n3] 3 id7 0).2.2 = 0) then eqb ab (bH [n3] 3 id7 0).2.1 (3, zero (Ty.pair tId Ty.unit)) else false then decide (lnx ae (bH [n3] 3 id7 0).1 = 1) else false, true)] (inB 0 (lnx ae (bH [n3] 3 id7 0).1)))
   (af.ret (K.val (Ty.pair Ty.bool Ty.unit) (bif bif bif decide ((bH [n3] 3 id7 0).2.2 = 0) then eqb ab (bH [n3] 3 id7 0).2.1 (3, zero (Ty.pair tId Ty.unit)) else false then decide (lnx ae (bH [n3] 3 id7 0).1 = 1) else false then decide (el ae (bH [n3] 3 id7 0).1 0 = 3) else false, PUnit.unit))))
  rw [G8]
  refine ⟨fun _ => be (n := 1) (by decide), _, rfl, Prod.ext ?_ rfl⟩
  rw [k5]
  show (bif bif bif decide ((0 : Int) = 0) then decide (((3 : Int), zero (Ty.pair tId Ty.unit)) = (3, zero (Ty.pair tId Ty.unit))) else false then decide ((1 : Int) = 1) else false then decide ((3 : Int) = 3) else false) = true
  rw [decide_eq_true rfl]
  rfl
theorem Ib (k : Int) (n : Nat) (h : 2 ≤ n) (hn : n ≤ 1000) : ∃ i : Nat, i < n ∧ Int.tmod (IntKind.wrap .i64 (Int.tmod k (n : Int) + (n : Int))) (n : Int) = (i : Int) := by
 have h1 : (0 : Int) < n := by omega
 have h2 := Int.tmod_lt_of_pos k h1
 have h3 : -(n : Int) < Int.tmod k n := by
  have := Int.tmod_lt_of_pos (-k) h1
  rw [Int.neg_tmod] at this
  omega
 rw [du (n := Int.tmod k n + n) (by omega)]
 have h4 := Int.tmod_nonneg (n : Int) (show 0 ≤ Int.tmod k n + n by omega)
 have h5 := Int.tmod_lt_of_pos (Int.tmod k n + n) h1
 exact ⟨(Int.tmod (Int.tmod k n + n) n).toNat, by omega, by omega⟩
theorem Av {l : List Nd} (hr : bu l = true) (no : Int) (id : List Int) {h : Nat} (hh : h ≤ 16) : bH l no id (h : Int) = bR l id (h + 1) [] no := by
 unfold bH
 rw [hr, decide_eq_false (show ¬ ((h : Int) < 0) by omega), decide_eq_false (show ¬ ((16 : Int) < h) by omega)]
 rfl
theorem zJ {l : List Nd} (hr : bu l = false) (no : Int) (id : List Int) (h : Int) : bH l no id h = ([], zero ab, 1) := by
 unfold bH
 rw [hr]
 rfl
theorem Bq (k : Int) (v : Bool) (x : Int) : ∀ l : List (Int × Bool), fH (k := ae) (v := .bool) (iB (k := ae) (v := .bool) l k v) x = if x = k then v else fH (k := ae) (v := .bool) l x
 | [] => by
  show (kg (k := ae) (v := .bool) [(k, v)] x).getD false = _
  unfold kg
  by_cases h : x = k
  ·rw [if_pos h]
   have : eqb ae x k = true := decide_eq_true h
   simp [List.find?_cons, this]
  ·rw [if_neg h]
   have : eqb ae x k = false := decide_eq_false h
   simp [List.find?_cons, this]
   rfl
 | q :: l => by
  have ih := Bq k v x l
  have hq : ∀ (y : Int) (z : Int), eqb ae y z = decide (y = z) := fun _ _ => rfl
  unfold fH kg at ih ⊢
  rw [iB]
  by_cases h1 : k = q.1
  ·rw [hq, if_pos (decide_eq_true h1)]
   by_cases h : x = k
   ·rw [if_pos h]
    simp [List.find?_cons, hq, h]
   ·rw [if_neg h]
    have h2 : ¬ x = q.1 := fun e => h (e.trans h1.symm)
    simp [List.find?_cons, hq, h, h2]
  ·rw [hq, if_neg (by simpa using h1)]
   by_cases h2 : x = q.1
   ·have h : ¬ x = k := fun e => h1 (e.symm.trans h2)
    rw [if_neg h]
    simp [List.find?_cons, hq, h2]
   ·simp only [List.find?_cons, hq, decide_eq_false h2]
    exact ih
abbrev GLl (O : Nat → Prop) (w0 : World) := bw prog dQ (Cx.base O w0) (cv prog O w0 nd fun z => z = (true, ()))
theorem eK : XOk prog dQ := vj E6 sL Cv qr
def E5 (O : Nat → Prop) (w0 : World) (no : Int) (h : Nat) (p : List Int) (m : Mem) (b : List (Int × Bool)) (hm : p.length ≤ 1000) (hb : ∀ x ∈ p, fH (k := ae) (v := .bool) b x = true) (hh : h ≤ 1000)
    (hp : ∃ rest, p = no :: rest ∧ p.getLast? = some m.1 ∧ rest.length ≤ h + 1) :=
  PLift.up <| bF (σ := Unit) p.length (fun _ _ => True)
    (fun i _ => GLl O w0 [] bA (lp bv 13) (iA no (h : Nat) p p (lnx ae p) (i : Nat) m b))
    (fun i _ hi _ ih => aO eK (jq no _ p p _ _ m b) (by
      refine ⟨fun _ => ⟨be hi, ?_⟩, fun hc => absurd hi (by rw [cp (e := ae)] at hc; exact of_decide_eq_false hc)⟩
      rw [cn (e := ae) hi, hb _ (List.getElem_mem hi), cF hi (Nat.le_trans hm (by decide))]
      exact ⟨fun hc => (by cases hc), fun _ => ih () trivial⟩))
    (fun _ _ => aO eK (jq no _ p p _ _ m b) (by
      obtain ⟨rest, e1, e2, e3⟩ := hp
      have hl : lnx ae p = ((rest.length + 1 : Nat) : Int) := by
        show ((p.length : Nat) : Int) = _
        rw [e1]; rfl
      have hlp : p.length = rest.length + 1 := by rw [e1]; rfl
      have h0 : el ae p 0 = no := by rw [e1]; rfl
      have hw : IntKind.wrap .i64 (lnx ae p - 1) = ((rest.length : Nat) : Int) := by
        rw [hl, du (n := ((rest.length + 1 : Nat) : Int) - 1) (by omega)]
        omega
      have hlast : el ae p ((rest.length : Nat) : Int) = m.1 := by
        have hlt : rest.length < p.length := by omega
        rw [cn (e := ae) hlt]
        rw [List.getLast?_eq_getElem?, hlp] at e2
        have e2 : p[rest.length]? = some m.1 := e2
        rw [List.getElem?_eq_getElem hlt] at e2
        exact Option.some.inj e2
      have hml : fH (k := ae) (v := .bool) b m.1 = true := by
        refine hb _ ?_
        rw [← hlast, cn (e := ae) (show rest.length < p.length by omega)]
        exact List.getElem_mem _
      have h2 : IntKind.wrap .i64 (((h : Nat) : Int) + 2) = (h : Int) + 2 := du (n := (h : Int) + 2) (by omega)
      refine ⟨fun hc => absurd (of_decide_eq_true hc) (Int.lt_irrefl _), fun _ => ⟨trivial, fun _ => ?_, fun _ => ?_, bE ⟨_, rfl, Prod.ext ?_ rfl⟩⟩⟩
      · rw [hl]; exact ⟨by omega, by omega⟩
      · rw [hw, hl]; exact ⟨by omega, by omega⟩
      · show (bif bif bif bif bif true then decide (0 < lnx ae p) else false then decide (el ae p 0 = no) else false then decide (el ae p (IntKind.wrap .i64 (lnx ae p - 1)) = m.1) else false then fH (k := ae) (v := .bool) b m.1 else false then decide (lnx ae p ≤ IntKind.wrap .i64 (((h : Nat) : Int) + 2)) else false) = true
        rw [hw, hlast, h0, hml, h2, hl, decide_eq_true (show (0 : Int) < ((rest.length + 1 : Nat) : Int) by omega), decide_eq_true (show no = no from rfl), decide_eq_true (show m.1 = m.1 from rfl), decide_eq_true (show ((rest.length + 1 : Nat) : Int) ≤ (h : Int) + 2 by omega)]
        rfl))
def E1 (O : Nat → Prop) (w0 : World) (no : Int) (h : Nat) (p : List Int) (m : Mem) (l : List Mem) (hm : l.length ≤ 1000) (next : ∀ b : List (Int × Bool), (∀ x, fH (k := ae) (v := .bool) b x = l.any fun y => decide (y.1 = x)) → GLl O w0 [] bA (lp bv 13) (iA no (h : Nat) p p (lnx ae p) 0 m b)) :=
 PLift.up <| bF (σ := List (Int × Bool)) l.length (fun i b => ∀ x, fH (k := ae) (v := .bool) b x = (l.take i).any fun y => decide (y.1 = x))
  (fun i b => GLl O w0 [] bA (lp bv 8) (mc no (h : Nat) p l (lnx ab l) (i : Nat) m b))
  (fun i b hi hs ih => aO eK (j4 no _ p l _ _ m b) (by
   refine ⟨fun _ => ⟨be hi, ?_⟩, fun hc => absurd hi (by rw [cp] at hc; exact of_decide_eq_false hc)⟩
   rw [cn hi, cF hi (Nat.le_trans hm (by decide))]
   refine ih _ fun x => ?_
   rw [Bq, hs, List.take_succ_eq_append_getElem hi, List.any_append]
   by_cases hx : x = l[i].1
   ·rw [if_pos hx]; simp [hx]
   ·rw [if_neg hx]
    have : decide (l[i].1 = x) = false := decide_eq_false fun e => hx e.symm
    simp only [List.any_cons, List.any_nil, this, Bool.or_false]))
  (fun b hs => aO eK (j4 no _ p l _ _ m b) ⟨fun hc => absurd (of_decide_eq_true hc) (Int.lt_irrefl _), fun _ => next b (by rw [List.take_length] at hs; exact hs)⟩)
theorem Gp (l : List Nd) (x : Int) : ((cX l).any fun y => decide (y.1 = x)) = eT l x := by
 unfold cX eT; rw [List.any_map]; rfl
theorem ve : aC prog [] nQ (Gg dx) :=
 bY (S := Gg dx) eK (fx := bA) uC (by kernel_rfl) (fun _ _ => trivial) (T := fun x => nT x.1 x.2.1 x.2.2.1 x.2.2.2.1) (fun x => sd x.1 x.2.1 x.2.2.1 x.2.2.2.1) fun O w0 x _ _ => by
  obtain ⟨o, no, id, hops, ⟨⟩⟩ := x
  refine ⟨trivial, bE ?_⟩
  have hql := FQ o.1
  generalize (tk o.1 : List Nd) = q at hql ⊢
  obtain ⟨h, hh, e⟩ := Ib hops 17 (by decide) (by decide)
  have e : Int.tmod (IntKind.wrap IntKind.i64 (Int.tmod hops 17 + 17)) 17 = (h : Int) := e
  rw [e]
  have n17 : nz 17 := show (17 : Int) ≠ 0 by decide
  have hq : q.length ≤ 1000000 := Nat.le_trans hql (by decide)
  have bad : ∀ r : WR, r.1 = [] → r.2.1 = zero ab → (bif bif true then decide (lnx ae r.1 = 0) else false then eqb ab r.2.1 (zero (Ty.pair ae (Ty.pair tId Ty.unit))) else false) = true := fun r h1 h2 => by
   rw [h1, h2, k5, decide_eq_true (show (zero ab : Mem) = zero (Ty.pair ae (Ty.pair tId Ty.unit)) from rfl)]
   rfl
  refine ⟨n17, n17, hq, bE ⟨fun hc => ⟨trivial, bE ⟨_, rfl, Prod.ext ?_ rfl⟩⟩, fun hc => ⟨hq, bE ?_⟩⟩⟩
  ·have hc : (!decide ((bH q no id (h : Int)).2.2 = 0)) = true := hc
   cases hr : bu q with
   | false => rw [zJ hr]; exact bad ([], zero ab, 1) rfl rfl
   | true =>
    rw [Av hr no id (h := h) (by omega)] at hc ⊢
    have h0 : (bR q id (h + 1) [] no).2.2 ≠ 0 := by simpa using hc
    obtain ⟨b1, b2⟩ := zD q id (h + 1) [] no h0
    exact bad _ b1 b2
  ·have hc : (!decide ((bH q no id (h : Int)).2.2 = 0)) = false := hc
   have hc : (bH q no id (h : Int)).2.2 = 0 := by simpa using hc
   cases hr : bu q with
   | false => rw [zJ hr] at hc; cases hc
   | true =>
    rw [Av hr no id (h := h) (by omega)] at hc ⊢
    obtain ⟨rest, b1, b2, b3, b4⟩ := (AS hr id (h + 1) [] no hc).way
    have hml : (cX q).length ≤ 1000 := by unfold cX; rw [List.length_map]; omega
    refine (E1 O w0 no h (bR q id (h + 1) [] no).1 (bR q id (h + 1) [] no).2.1 (cX q) hml fun b hb => ?_).down 0 [] (Nat.zero_le _) (fun x => rfl)
    refine (E5 O w0 no h (bR q id (h + 1) [] no).1 (bR q id (h + 1) [] no).2.1 b ?_ ?_ (by omega) ⟨rest, b1, by rw [b1]; exact b4, b2⟩).down 0 () (Nat.zero_le _) trivial
    ·rw [b1]
     exact (show rest.length + 1 ≤ 1000 by omega)
    ·intro x hx
     rw [b1] at hx
     rw [hb, Gp]
     exact b3 x hx
end Go.Proofs.Ytimdnodkabnbfaa
