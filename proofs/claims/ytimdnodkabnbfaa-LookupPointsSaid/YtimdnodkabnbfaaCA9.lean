/- Part 9 of 10 of what this claim's proof stands on: a theory of programs on data, and the contracts of the functions that the law reaches. It holds no condition of its own. -/
import Derived.Test.YtimdnodkabnbfaaCA8
namespace Go.Proofs.Ytimdnodkabnbfaa
open Go Go.RowKit
end Go.Proofs.Ytimdnodkabnbfaa
namespace Go.Proofs.Ytimdnodkabnbfaa
open Go Go.RowKit
end Go.Proofs.Ytimdnodkabnbfaa
namespace Go.Proofs.Ytimdnodkabnbfaa
open Go Go.RowKit
noncomputable abbrev cH : bq := ⟨.pair (.slc (.slc ab)) .unit, .pair (.slc ab) .unit, fun y => ((y.1.flatten : List Mem), ()), fun y => (y.1.flatten : List Mem).length ≤ bV, false⟩
theorem iE : ap prog [] ci cH := J0 ud rfl
abbrev uE : Ty := .pair NG .unit
noncomputable abbrev nD : bq := ⟨wN, uE, fun x => ((cg x.1, ()), ()), fun x => (cg x.1).length ≤ 1000000, false⟩
abbrev Ov := den ah
def ixQ (p : Nd → Bool) : List Nd → Int → Int
 | [], _ => -1
 | x :: l, i => bif p x then i else ixQ p l (i + 1)
def prQ (f : den (.fn (.pair ag .unit) (.pair .bool .unit))) (m : Nd) : Bool := (pc (.pair ag .unit) (.pair .bool .unit) f (m, ())).1
noncomputable abbrev c9 : bq := ⟨mh, ia, fun x => (ixQ (prQ x.2.1) x.1 0, ()), fun x => lE (.pair ag .unit) (.pair .bool .unit) x.2.1, false⟩
noncomputable abbrev eF : bq := ⟨jY, j2, fun x => (List.any x.1 (prQ x.2.1), ()), fun x => lE (.pair ag .unit) (.pair .bool .unit) x.2.1, false⟩
noncomputable abbrev ll : bq := ⟨tA, sQ, fun x => (decide ((sfN x.1).1 = x.2.1), ()), fun _ => True, true⟩
noncomputable abbrev lB : bq := ⟨tE, tX, fun x => (decide ((sfN x.1).1 = x.2.1.1), ()), fun _ => True, true⟩
noncomputable abbrev dZ : bq := ⟨tY, nP, fun x => (ai x.1.1, ()), fun x => List.length x.1.1 ≤ 1000000, false⟩
def bR (l : List Nd) (no : Int) : Mem × Bool := match l.find? (fun n => decide (n.1.1 = no)) with | some n => (n.1, true) | none => (zero ab, false)
noncomputable abbrev jI : bq := ⟨yE, rM, fun x => ((bR x.1.1 x.2.1).1, (bR x.1.1 x.2.1).2, ()), fun _ => True, true⟩
def gM (l : List Nd) (m : Mem) : Bool := bif (bR l m.1).2 then !decide ((bR l m.1).1 = m) else false
def Qr (l : List Nd) (n : Nd) : Bool := (cg n).all fun m => !gM l m
def xD (l : List Nd) (i : Int) : Bool := bif !aZ (el ag l i) then true else bif decide (0 < i) then decide ((el ag l i).1.1 ≤ (el ag l (i - 1)).1.1) else false
def ij (l : List Nd) (i : Int) : Bool := bif xD l i then false else Qr l (el ag l i)
def bo (l : List Nd) : Bool := (List.range l.length).all (fun i => ij l (i : Nat)) && bv (ai l)
noncomputable abbrev fB : bq := ⟨wZ, pK, fun x => (bo x.1.1, ()), fun x => List.length x.1.1 ≤ 1000000, false⟩
abbrev Ans := den ay
def jw (l : List Nd) (n : Nd) : List Int := ((cg n).filter fun m => !fN l m.1).map fun m => m.1
def oK (l : List Nd) (n : Nd) : Nd := (g6 n (jw l n)).1
def tL (l : List Nd) (n : Nd) (id : List Int) : Ans := bif mC (oK l n) id then ((oK l n).1, true, ()) else ((c7 (oK l n) id).1, (c7 (oK l n) id).2.1, ())
def aI (l : List Nd) (no : Int) (id : List Int) : Ans × Bool := match l.find? (fun n => decide (n.1.1 = no)) with | some n => (tL l n id, true) | none => (zero ay, false)
noncomputable abbrev nM : bq := ⟨wK, mE, fun x => ((aI x.1.1 x.2.1 x.2.2.1).1, (aI x.1.1 x.2.1 x.2.2.1).2, ()), fun x => bo x.1.1 = true, false⟩
abbrev WR := List Int × Mem × Int
def dD (l : List Nd) (id : List Int) : Nat → List Int → Int → WR
 | n, path, no => bif !(aI l no id).2 then ([], zero ab, 10) else
  match n with
  | 0 => ([], zero ab, 9)
  | n + 1 => bif (aI l no id).1.2.1 then (bif decide ((aI l no id).1.1.1 = no) then (path ++ [no], (aI l no id).1.1, 0) else (path ++ [no] ++ [(aI l no id).1.1.1], (aI l no id).1.1, 0))
   else bif decide ((aI l no id).1.1.1 = no) then ([], zero ab, 13) else dD l id n (path ++ [no]) (aI l no id).1.1.1
def cp (l : List Nd) (no : Int) (id : List Int) (hops : Int) : WR := bif (bif (bif !bo l then true else decide (hops < 0)) then true else decide (16 < hops)) then ([], zero ab, 1) else dD l id (hops.toNat + 1) [] no
noncomputable abbrev iK : bq := ⟨wx, eU, fun x => ((cp x.1.1 x.2.1 x.2.2.1 x.2.2.2.1).1, (cp x.1.1 x.2.1 x.2.2.1 x.2.2.2.1).2.1, (cp x.1.1 x.2.1 x.2.2.1 x.2.2.2.1).2.2, ()), fun x => List.length x.1.1 ≤ 1000000, false⟩
end Go.Proofs.Ytimdnodkabnbfaa
namespace Go.Proofs.Ytimdnodkabnbfaa
open Go Go.RowKit
noncomputable abbrev uc : Fx := { fn := ni, ann := { } }
noncomputable abbrev cx : Fx := { fn := cn, ann := { loops := [(1, { keep := [0, 2, 6, 7, 8] })], frz := [(1000001, [6, 8, 9])], gy := true } }
noncomputable abbrev dW : Fx := { fn := aR, ann := { frz := [(2, [3, 4])] } }
noncomputable abbrev hK : a8 := { D := { T := bg, F := [(gS, jk), (ed, fj), (i4, iZ)], R := [], ovl := [] }, inl := [(nl, uc), (lQ, cx)] }
noncomputable abbrev th : bu := .data m0
theorem C0 (h_ident_Far : ap prog [] gS jk) (h_ident_Compare : ap prog [] ed fj) (h_finger_Closest_1 : ap prog [] i4 iZ) : XOk prog hK := xok (an (an (an (aL aS aE) h_finger_Closest_1) h_ident_Compare) h_ident_Far) (by kernel_rfl) aN (gX ue (by kernel_rfl) (gX r8 (by kernel_rfl) aW)) aV
noncomputable def tz (id : den tId) (self : den tId) (known : den (Ty.slc ab)) : af := af.req (∀ (y : den (Ty.pair ab Ty.unit)), True) (af.loop [{ fx := dW, todo := cF aR 5, dst := none, s := ofS [(6, K.ptr (0 + 1 + 1) ab []), (8, K.ptr (0 + 1 + 1 + 1) ab []), (9, K.ptr (0 + 1 + 1 + 1 + 1) ae [])], rng := some 0 }] cx (lp cn 1) [(0, K.yld 0), (2, K.ptr (0 + 1) (Ty.fn (Ty.pair ab Ty.unit) (Ty.pair Ty.bool Ty.unit)) []), (6, K.val (Ty.slc ab) known), (7, K.val ae (lnx ab known)), (8, K.val ae 0)] [(0, Bx.lop LoopState.ready none [(4, K.ref tId self), (8, K.ptr (0 + 1 + 1 + 1) ab []), (9, K.ptr (0 + 1 + 1 + 1 + 1) ae [])] 35 (k9 aR 5) (dC aR 5) (fR aR 5)), (0 + 1, Bx.cell (Ty.fn (Ty.pair ab Ty.unit) (Ty.pair Ty.bool Ty.unit)) (some fun (y : den (Ty.pair ab Ty.unit)) ↦ (ku self id (Prod.fst y), PUnit.unit))), (0 + 1 + 1, Bx.cell ab (zero ab)), (0 + 1 + 1 + 1, Bx.cell ab (zero (Ty.pair ae (Ty.pair tId Ty.unit)))), (0 + 1 + 1 + 1 + 1, Bx.cell ae 6)])
theorem y5 (id : den tId) (self : den tId) (known : den (Ty.slc ab)) : aj hK th 5000 [] dW (aA aR) (Env.of (aF rV (id, self, known, ()) 0) []) = tz id self known := by kernel_rfl
noncomputable def fc (v6 : den (Ty.slc ab)) (v7 : den ae) (v8 : den ae) (b0_4 : den tId) (b1 : den (Ty.fn (Ty.pair ab Ty.unit) (Ty.pair Ty.bool Ty.unit))) (b2 : den ab) (b3 : den ab) (b4 : den ae) : List cr := [{ fx := dW, todo := cF aR 5, dst := none, s := ofS [(6, K.ptr (0 + 1 + 1) ab []), (8, K.ptr (0 + 1 + 1 + 1) ab []), (9, K.ptr (0 + 1 + 1 + 1 + 1) ae [])], rng := some 0 }]
noncomputable def fb (v6 : den (Ty.slc ab)) (v7 : den ae) (v8 : den ae) (b0_4 : den tId) (b1 : den (Ty.fn (Ty.pair ab Ty.unit) (Ty.pair Ty.bool Ty.unit))) (b2 : den ab) (b3 : den ab) (b4 : den ae) : Env := Env.of [(0, K.yld 0), (2, K.ptr (0 + 1) (Ty.fn (Ty.pair ab Ty.unit) (Ty.pair Ty.bool Ty.unit)) []), (6, K.val (Ty.slc ab) v6), (7, K.val ae v7), (8, K.val ae v8)] [(0, Bx.lop LoopState.ready none [(4, K.ref tId b0_4), (8, K.ptr (0 + 1 + 1 + 1) ab []), (9, K.ptr (0 + 1 + 1 + 1 + 1) ae [])] 35 (k9 aR 5) (dC aR 5) (fR aR 5)), (1, Bx.cell (Ty.fn (Ty.pair ab Ty.unit) (Ty.pair Ty.bool Ty.unit)) b1), (2, Bx.cell ab b2), (3, Bx.cell ab b3), (4, Bx.cell ae b4)]
noncomputable def jQ (v6 : den (Ty.slc ab)) (v7 : den ae) (v8 : den ae) (b0_4 : den tId) (b1 : den (Ty.fn (Ty.pair ab Ty.unit) (Ty.pair Ty.bool Ty.unit))) (b2 : den ab) (b3 : den ab) (b4 : den ae) : af := af.ite (decide (v8 < v7)) (af.req (inB v8 (lnx ab v6)) (af.req (lE (Ty.pair ab Ty.unit) (Ty.pair Ty.bool Ty.unit) b1) (af.ite (Prod.fst (pc (Ty.pair ab Ty.unit) (Ty.pair Ty.bool Ty.unit) b1 (el ab v6 v8, PUnit.unit))) (af.req (dV [(!decide (b4 = 0), false)] True) (af.req (dV [(!decide (b4 = 0), false)] True) (af.req (dV [(!decide (b4 = 0), false)] True) (af.ite (bif !decide (b4 = 0) then true else decide (gO (a7 b0_4 (Prod.fst (Prod.snd b3))) (a7 b0_4 (Prod.fst (Prod.snd (el ab v6 v8)))) < 0)) (af.loop [{ fx := dW, todo := cF aR 5, dst := none, s := ofS [(6, K.ptr (0 + 1 + 1) ab []), (8, K.ptr (0 + 1 + 1 + 1) ab []), (9, K.ptr (0 + 1 + 1 + 1 + 1) ae [])], rng := some 0 }] cx (lp cn 1) [(0, K.yld 0), (2, K.ptr (0 + 1) (Ty.fn (Ty.pair ab Ty.unit) (Ty.pair Ty.bool Ty.unit)) []), (6, K.val (Ty.slc ab) v6), (7, K.val ae v7), (8, K.val ae (IntKind.wrap IntKind.i64 (v8 + 1)))] [(0, Bx.lop LoopState.ready none [(4, K.ref tId b0_4), (8, K.ptr (0 + 1 + 1 + 1) ab []), (9, K.ptr (0 + 1 + 1 + 1 + 1) ae [])] 35 (k9 aR 5) (dC aR 5) (fR aR 5)), (0 + 1, Bx.cell (Ty.fn (Ty.pair ab Ty.unit) (Ty.pair Ty.bool Ty.unit)) b1), (0 + 1 + 1, Bx.cell ab b2), (0 + 1 + 1 + 1, Bx.cell ab (el ab v6 v8)), (0 + 1 + 1 + 1 + 1, Bx.cell ae 0)]) (af.loop [{ fx := dW, todo := cF aR 5, dst := none, s := ofS [(6, K.ptr (0 + 1 + 1) ab []), (8, K.ptr (0 + 1 + 1 + 1) ab []), (9, K.ptr (0 + 1 + 1 + 1 + 1) ae [])], rng := some 0 }] cx (lp cn 1) [(0, K.yld 0), (2, K.ptr (0 + 1) (Ty.fn (Ty.pair ab Ty.unit) (Ty.pair Ty.bool Ty.unit)) []), (6, K.val (Ty.slc ab) v6), (7, K.val ae v7), (8, K.val ae (IntKind.wrap IntKind.i64 (v8 + 1)))] [(0, Bx.lop LoopState.ready none [(4, K.ref tId b0_4), (8, K.ptr (0 + 1 + 1 + 1) ab []), (9, K.ptr (0 + 1 + 1 + 1 + 1) ae [])] 35 (k9 aR 5) (dC aR 5) (fR aR 5)), (0 + 1, Bx.cell (Ty.fn (Ty.pair ab Ty.unit) (Ty.pair Ty.bool Ty.unit)) b1), (0 + 1 + 1, Bx.cell ab b2), (0 + 1 + 1 + 1, Bx.cell ab b3), (0 + 1 + 1 + 1 + 1, Bx.cell ae b4)]))))) (af.loop [{ fx := dW, todo := cF aR 5, dst := none, s := ofS [(6, K.ptr (0 + 1 + 1) ab []), (8, K.ptr (0 + 1 + 1 + 1) ab []), (9, K.ptr (0 + 1 + 1 + 1 + 1) ae [])], rng := some 0 }] cx (lp cn 1) [(0, K.yld 0), (2, K.ptr (0 + 1) (Ty.fn (Ty.pair ab Ty.unit) (Ty.pair Ty.bool Ty.unit)) []), (6, K.val (Ty.slc ab) v6), (7, K.val ae v7), (8, K.val ae (IntKind.wrap IntKind.i64 (v8 + 1)))] [(0, Bx.lop LoopState.ready none [(4, K.ref tId b0_4), (8, K.ptr (0 + 1 + 1 + 1) ab []), (9, K.ptr (0 + 1 + 1 + 1 + 1) ae [])] 35 (k9 aR 5) (dC aR 5) (fR aR 5)), (0 + 1, Bx.cell (Ty.fn (Ty.pair ab Ty.unit) (Ty.pair Ty.bool Ty.unit)) b1), (0 + 1 + 1, Bx.cell ab b2), (0 + 1 + 1 + 1, Bx.cell ab b3), (0 + 1 + 1 + 1 + 1, Bx.cell ae b4)])))) (af.ret (K.val (Ty.pair ab (Ty.pair ae Ty.unit)) (b3, b4, PUnit.unit)))
theorem d7 (v6 : den (Ty.slc ab)) (v7 : den ae) (v8 : den ae) (b0_4 : den tId) (b1 : den (Ty.fn (Ty.pair ab Ty.unit) (Ty.pair Ty.bool Ty.unit))) (b2 : den ab) (b3 : den ab) (b4 : den ae) : aj hK th 5000 (fc v6 v7 v8 b0_4 b1 b2 b3 b4) cx (lp cn 1) (fb v6 v7 v8 b0_4 b1 b2 b3 b4) = jQ v6 v7 v8 b0_4 b1 b2 b3 b4 := by kernel_rfl
noncomputable abbrev AI : Fx := { fn := vD, ann := { }, share := true }
noncomputable abbrev B2 : a8 := { D := { T := bg, F := [(dn, du), (i8, kw), (ci, cH), (j6, kd)], R := [], ovl := [] }, inl := [] }
noncomputable abbrev Jy : bu := .data tV
theorem JJ (h_node_Right : ap prog [] dn du) (h_ident_In : ap prog [] i8 kw) (h_slices_Concat_Member : ap prog [] ci (cH)) (h_finger_Closest : ap prog [] j6 kd) : XOk prog B2 := xok (an (an (an (an (aL aS aE) h_finger_Closest) h_slices_Concat_Member) h_ident_In) h_node_Right) (by kernel_rfl) aN aW aV
noncomputable def BK (n : den ag) (id : den tId) : af := af.req True (af.all (den Ty.bool) (fun (q2 : den Ty.bool) ↦ q2 = aZ n) fun (q2 : den Ty.bool) ↦ af.ite (!q2) (af.ret (K.val (Ty.pair ab (Ty.pair Ty.bool (Ty.pair ae Ty.unit))) (zero (Ty.pair ae (Ty.pair tId Ty.unit)), false, 1, PUnit.unit))) (af.req (inB 0 (lnx ab (Prod.fst (Prod.snd (Prod.snd n))))) (af.req True (af.all (den Ty.bool) (fun (q3 : den Ty.bool) ↦ q3 = gD id (Prod.fst (Prod.snd (Prod.fst n))) (Prod.fst (Prod.snd (el ab (Prod.fst (Prod.snd (Prod.snd n))) 0)))) fun (q3 : den Ty.bool) ↦ af.ite q3 (af.ret (K.val (Ty.pair ab (Ty.pair Ty.bool (Ty.pair ae Ty.unit))) (el ab (Prod.fst (Prod.snd (Prod.snd n))) 0, true, 0, PUnit.unit))) (af.req (List.length (List.flatten (List.set (List.set (List.replicate 2 (zero (Ty.slc ab))) 0 (Prod.fst (Prod.snd (Prod.snd (Prod.snd n))))) 1 (Prod.fst (Prod.snd (Prod.snd n))))) ≤ bV) (af.req True (af.all (den (Ty.slc ab)) (fun (q4 : den (Ty.slc ab)) ↦ q4 = List.flatten (List.set (List.set (List.replicate 2 (zero (Ty.slc ab))) 0 (Prod.fst (Prod.snd (Prod.snd (Prod.snd n))))) 1 (Prod.fst (Prod.snd (Prod.snd n))))) fun (q4 : den (Ty.slc ab)) ↦ af.all (den (Ty.pair ab (Ty.pair ae Ty.unit))) (fun (q5 : den (Ty.pair ab (Ty.pair ae Ty.unit))) ↦ q5 = (Prod.fst (cC id (Prod.fst (Prod.snd (Prod.fst n))) (List.flatten (List.set (List.set (List.replicate 2 (zero (Ty.slc ab))) 0 (Prod.fst (Prod.snd (Prod.snd (Prod.snd n))))) 1 (Prod.fst (Prod.snd (Prod.snd n)))))), Prod.snd (cC id (Prod.fst (Prod.snd (Prod.fst n))) (List.flatten (List.set (List.set (List.replicate 2 (zero (Ty.slc ab))) 0 (Prod.fst (Prod.snd (Prod.snd (Prod.snd n))))) 1 (Prod.fst (Prod.snd (Prod.snd n)))))), PUnit.unit)) fun (q5 : den (Ty.pair ab (Ty.pair ae Ty.unit))) ↦ af.ite (!decide (Prod.snd (cC id (Prod.fst (Prod.snd (Prod.fst n))) (List.flatten (List.set (List.set (List.replicate 2 (zero (Ty.slc ab))) 0 (Prod.fst (Prod.snd (Prod.snd (Prod.snd n))))) 1 (Prod.fst (Prod.snd (Prod.snd n)))))) = 0)) (af.req (inB 0 (lnx ab (Prod.fst (Prod.snd (Prod.snd n))))) (af.ret (K.val (Ty.pair ab (Ty.pair Ty.bool (Ty.pair ae Ty.unit))) (el ab (Prod.fst (Prod.snd (Prod.snd n))) 0, false, 0, PUnit.unit)))) (af.ret (K.val (Ty.pair ab (Ty.pair Ty.bool (Ty.pair ae Ty.unit))) (Prod.fst (cC id (Prod.fst (Prod.snd (Prod.fst n))) (List.flatten (List.set (List.set (List.replicate 2 (zero (Ty.slc ab))) 0 (Prod.fst (Prod.snd (Prod.snd (Prod.snd n))))) 1 (Prod.fst (Prod.snd (Prod.snd n)))))), false, 0, PUnit.unit))))))))))
theorem EY (n : den ag) (id : den tId) : aj B2 Jy 5000 [] AI (aA vD) (Env.of (aF zK (n, id, ()) 0) []) = BK n id := by kernel_rfl
noncomputable abbrev cZ : Fx := { fn := cI, ann := { loops := [(2, { keep := [0, 1, 7, 8] })] } }
noncomputable abbrev fM : a8 := { D := { T := bg, F := [], R := [], ovl := [] }, inl := [] }
noncomputable abbrev mV : bu := .data ia
theorem iD : XOk prog fM := xok ((aL aS aE)) (by kernel_rfl) aN aW aV
noncomputable def mU (s : den (Ty.slc ag)) (f : den (Ty.fn (Ty.pair ag Ty.unit) (Ty.pair Ty.bool Ty.unit))) : af := af.loop [] cZ (lp cI 2) [(0, K.val (Ty.slc ag) s), (1, K.val (Ty.fn (Ty.pair ag Ty.unit) (Ty.pair Ty.bool Ty.unit)) f), (7, K.val ae (lnx ag s)), (8, K.val ae 0)] []
theorem rr (s : den (Ty.slc ag)) (f : den (Ty.fn (Ty.pair ag Ty.unit) (Ty.pair Ty.bool Ty.unit))) : aj fM mV 5000 [] cZ (aA cI) (Env.of (aF mh (s, f, ()) 0) []) = mU s f := by kernel_rfl
noncomputable def lG (v0 : den (Ty.slc ag)) (v1 : den (Ty.fn (Ty.pair ag Ty.unit) (Ty.pair Ty.bool Ty.unit))) (v7 : den ae) (v8 : den ae) : Env := Env.of [(0, K.val (Ty.slc ag) v0), (1, K.val (Ty.fn (Ty.pair ag Ty.unit) (Ty.pair Ty.bool Ty.unit)) v1), (7, K.val ae v7), (8, K.val ae v8)] []
noncomputable def rC (v0 : den (Ty.slc ag)) (v1 : den (Ty.fn (Ty.pair ag Ty.unit) (Ty.pair Ty.bool Ty.unit))) (v7 : den ae) (v8 : den ae) : af := af.ite (decide (v8 < v7)) (af.req (inB v8 (lnx ag v0)) (af.req (lE (Ty.pair ag Ty.unit) (Ty.pair Ty.bool Ty.unit) v1) (af.ite (Prod.fst (pc (Ty.pair ag Ty.unit) (Ty.pair Ty.bool Ty.unit) v1 (el ag v0 v8, PUnit.unit))) (af.ret (K.val (Ty.pair ae Ty.unit) (v8, PUnit.unit))) (af.loop [] cZ (lp cI 2) [(0, K.val (Ty.slc ag) v0), (1, K.val (Ty.fn (Ty.pair ag Ty.unit) (Ty.pair Ty.bool Ty.unit)) v1), (7, K.val ae v7), (8, K.val ae (IntKind.wrap IntKind.i64 (v8 + 1)))] [])))) (af.ret (K.val (Ty.pair ae Ty.unit) (-1, PUnit.unit)))
theorem jn (v0 : den (Ty.slc ag)) (v1 : den (Ty.fn (Ty.pair ag Ty.unit) (Ty.pair Ty.bool Ty.unit))) (v7 : den ae) (v8 : den ae) : aj fM mV 5000 [] cZ (lp cI 2) (lG v0 v1 v7 v8) = rC v0 v1 v7 v8 := by kernel_rfl
noncomputable abbrev j1 : Fx := { fn := gG, ann := { } }
noncomputable abbrev kQ : a8 := { D := { T := bg, F := [(c8, c9)], R := [], ovl := [] }, inl := [] }
noncomputable abbrev qZ : bu := .data j2
theorem rA (h_slices_IndexFunc_Node : ap prog [] c8 c9) : XOk prog kQ := xok (an (aL aS aE) h_slices_IndexFunc_Node) (by kernel_rfl) aN aW aV
noncomputable def kA (s : den (Ty.slc ag)) (f : den (Ty.fn (Ty.pair ag Ty.unit) (Ty.pair Ty.bool Ty.unit))) : af := af.req (∃ (h : den (Ty.pair ag Ty.unit) → den (Ty.pair Ty.bool Ty.unit)), f = some h) (af.ret (K.val (Ty.pair Ty.bool Ty.unit) (decide (0 ≤ ixQ (prQ f) s 0), PUnit.unit)))
theorem po (s : den (Ty.slc ag)) (f : den (Ty.fn (Ty.pair ag Ty.unit) (Ty.pair Ty.bool Ty.unit))) : aj kQ qZ 5000 [] j1 (aA gG) (Env.of (aF jY (s, f, ()) 0) []) = kA s f := by kernel_rfl
noncomputable abbrev tH : Fx := { fn := o3, ann := { } }
noncomputable abbrev u3 : a8 := { D := { T := bg, F := [], R := [], ovl := [] }, inl := [] }
noncomputable abbrev D7 : bu := .data sQ
theorem Ee : XOk prog u3 := xok ((aL aS aE)) (by kernel_rfl) aN aW aV
noncomputable def uA (n : den ag) (no : den (Ty.ref ae)) : af := af.ret (K.val (Ty.pair Ty.bool Ty.unit) (decide (Prod.fst (Prod.fst n) = no), PUnit.unit))
theorem zL (n : den ag) (no : den (Ty.ref ae)) : aj u3 D7 5000 [] tH (aA o3) (Env.of (aF tA (n, no, ()) 0) []) = uA n no := by kernel_rfl
noncomputable abbrev tM : Fx := { fn := ph, ann := { } }
noncomputable abbrev uQ : a8 := { D := { T := bg, F := [], R := [], ovl := [] }, inl := [] }
noncomputable abbrev DJ : bu := .data tX
theorem DC : XOk prog uQ := xok ((aL aS aE)) (by kernel_rfl) aN aW aV
noncomputable def u7 (n : den ag) (m : den (Ty.ref ab)) : af := af.ret (K.val (Ty.pair Ty.bool Ty.unit) (decide (Prod.fst (Prod.fst n) = Prod.fst m), PUnit.unit))
theorem zj (n : den ag) (m : den (Ty.ref ab)) : aj uQ DJ 5000 [] tM (aA ph) (Env.of (aF tE (n, m, ()) 0) []) = u7 n m := by kernel_rfl
noncomputable abbrev fW : Fx := { fn := fq, ann := { loops := [(3, { keep := [3, 7, 8, 9], own := [(3, ab)] })] } }
noncomputable abbrev lv : a8 := { D := { T := bg, F := [], R := [], ovl := [] }, inl := [] }
noncomputable abbrev uC : bu := .data nP
theorem oW : XOk prog lv := xok ((aL aS aE)) (by kernel_rfl) aN aW aV
noncomputable def uI (o : den ah) : af := af.loop [] fW (lp fq 3) [(3, K.sl 0 ab), (7, K.val (Ty.slc ag) (Prod.fst o)), (8, K.val ae (lnx ag (Prod.fst o))), (9, K.val ae 0)] [(0, Bx.row ab [])]
theorem zo (o : den ah) : aj lv uC 5000 [] fW (aA fq) (Env.of (aF tY (o, ()) 0) []) = uI o := by kernel_rfl
noncomputable def rS (v7 : den (Ty.slc ag)) (v8 : den ae) (v9 : den ae) (b0 : List (den ab)) : Env := Env.of [(3, K.sl 0 ab), (7, K.val (Ty.slc ag) v7), (8, K.val ae v8), (9, K.val ae v9)] [(0, Bx.row ab b0)]
noncomputable def AN (v7 : den (Ty.slc ag)) (v8 : den ae) (v9 : den ae) (b0 : List (den ab)) : af := af.ite (decide (v9 < v8)) (af.req (inB v9 (lnx ag v7)) (af.req (List.length (b0 ++ List.set (List.replicate 1 (zero ab)) 0 (Prod.fst (el ag v7 v9))) ≤ bV) (af.loop [] fW (lp fq 3) [(3, K.sl 0 ab), (7, K.val (Ty.slc ag) v7), (8, K.val ae v8), (9, K.val ae (IntKind.wrap IntKind.i64 (v9 + 1)))] [(0, Bx.row ab (b0 ++ List.set (List.replicate 1 (zero ab)) 0 (Prod.fst (el ag v7 v9))))]))) (af.ret (K.val (Ty.pair (Ty.slc ab) Ty.unit) (b0, PUnit.unit)))
theorem od (v7 : den (Ty.slc ag)) (v8 : den ae) (v9 : den ae) (b0 : List (den ab)) : aj lv uC 5000 [] fW (lp fq 3) (rS v7 v8 v9 b0) = AN v7 v8 v9 b0 := by kernel_rfl
noncomputable abbrev iN : Fx := { fn := ie, ann := { loops := [(2, { keep := [1, 4, 9, 10, 11] })] } }
noncomputable abbrev oP : a8 := { D := { T := bg, F := [], R := [], ovl := [] }, inl := [] }
noncomputable abbrev Ax : bu := .data rM
theorem tc : XOk prog oP := xok ((aL aS aE)) (by kernel_rfl) aN aW aV
noncomputable def Ac (o : den ah) (no : den ae) : af := af.loop [] iN (lp ie 2) [(1, K.val ae no), (4, K.ptr 0 ab []), (9, K.val (Ty.slc ag) (Prod.fst o)), (10, K.val ae (lnx ag (Prod.fst o))), (11, K.val ae 0)] [(0, Bx.cell ab (zero ab))]
theorem DM (o : den ah) (no : den ae) : aj oP Ax 5000 [] iN (aA ie) (Env.of (aF yE (o, no, ()) 0) []) = Ac o no := by kernel_rfl
noncomputable def wk (v1 : den ae) (v9 : den (Ty.slc ag)) (v10 : den ae) (v11 : den ae) (b0 : den ab) : Env := Env.of [(1, K.val ae v1), (4, K.ptr 0 ab []), (9, K.val (Ty.slc ag) v9), (10, K.val ae v10), (11, K.val ae v11)] [(0, Bx.cell ab b0)]
noncomputable def Dd (v1 : den ae) (v9 : den (Ty.slc ag)) (v10 : den ae) (v11 : den ae) (b0 : den ab) : af := af.ite (decide (v11 < v10)) (af.req (inB v11 (lnx ag v9)) (af.ite (decide (Prod.fst (Prod.fst (el ag v9 v11)) = v1)) (af.ret (K.val (Ty.pair ab (Ty.pair Ty.bool Ty.unit)) (Prod.fst (el ag v9 v11), true, PUnit.unit))) (af.loop [] iN (lp ie 2) [(1, K.val ae v1), (4, K.ptr 0 ab []), (9, K.val (Ty.slc ag) v9), (10, K.val ae v10), (11, K.val ae (IntKind.wrap IntKind.i64 (v11 + 1)))] [(0, Bx.cell ab b0)]))) (af.ret (K.val (Ty.pair ab (Ty.pair Ty.bool Ty.unit)) (zero (Ty.pair ae (Ty.pair tId Ty.unit)), false, PUnit.unit)))
theorem qR (v1 : den ae) (v9 : den (Ty.slc ag)) (v10 : den ae) (v11 : den ae) (b0 : den ab) : aj oP Ax 5000 [] iN (lp ie 2) (wk v1 v9 v10 v11 b0) = Dd v1 v9 v10 v11 b0 := by kernel_rfl
noncomputable abbrev wr : Fx := { fn := qV, ann := { } }
noncomputable abbrev yG : a8 := { D := { T := bg, F := [(ci, cH), (dz, dA)], R := [], ovl := [] }, inl := [] }
noncomputable abbrev GF : bu := .data uE
theorem Gz (h_slices_Concat_Member : ap prog [] ci (cH)) (h_slices_Values_Member : ap prog [] dz dA) : XOk prog yG := xok (an (an (aL aS aE) h_slices_Values_Member) h_slices_Concat_Member) (by kernel_rfl) aN aW aV
noncomputable def yl (n : den ag) : af := af.req (List.length (List.flatten (List.set (List.set (List.set (List.replicate 3 (zero (Ty.slc ab))) 0 (List.set (List.replicate 1 (zero ab)) 0 (Prod.fst (Prod.snd n)))) 1 (Prod.fst (Prod.snd (Prod.snd n)))) 2 (Prod.fst (Prod.snd (Prod.snd (Prod.snd n)))))) ≤ bV) (af.req True (af.ret (K.val (Ty.pair (Ty.clo co (Ty.pair (Ty.ref (Ty.slc ab)) Ty.unit)) Ty.unit) ((List.flatten (List.set (List.set (List.set (List.replicate 3 (zero (Ty.slc ab))) 0 (List.set (List.replicate 1 (zero ab)) 0 (Prod.fst (Prod.snd n)))) 1 (Prod.fst (Prod.snd (Prod.snd n)))) 2 (Prod.fst (Prod.snd (Prod.snd (Prod.snd n))))), PUnit.unit), PUnit.unit))))
theorem B6 (n : den ag) : aj yG GF 5000 [] wr (aA qV) (Env.of (aF wN (n, ()) 0) []) = yl n := by kernel_rfl
end Go.Proofs.Ytimdnodkabnbfaa
namespace Go.Proofs.Ytimdnodkabnbfaa
open Go Go.RowKit
abbrev GCl (O : Nat → Prop) (w0 : World) (y : Mem × Int) := bG prog hK (Cx.base O w0) (cG prog O w0 m0 fun z => z = (y.1, y.2, ()))
theorem mZ : XOk prog hK := C0 vI oI Am
def LK (O : Nat → Prop) (w0 : World) (id self : List Int) (l : List Mem) (z : Mem) (hm : l.length ≤ maxLen) :=
 PLift.up <| bN (σ := Mem × Int) l.length (fun i s => s = ((l.take i).filter (ku self id)).foldl (gJ self) (zero ab, 6))
  (fun i s => GCl O w0 (cC id self l) (fc l (lnx ab l) (i : Nat) self (some fun y => (ku self id y.1, PUnit.unit)) z s.1 s.2) cx (lp cn 1) (fb l (lnx ab l) (i : Nat) self (some fun y => (ku self id y.1, PUnit.unit)) z s.1 s.2))
  (fun i s hi hs ih => aM mZ (d7 l _ _ self _ z s.1 s.2) (by
   have e : ((l.take (i + 1)).filter (ku self id)).foldl (gJ self) (zero ab, 6) = ([l[i]].filter (ku self id)).foldl (gJ self) s := by
    rw [List.take_succ_eq_append_getElem hi, List.filter_append, List.foldl_append, ← hs]
   refine ⟨fun _ => ⟨bf hi, ⟨_, rfl⟩, ?_⟩, fun hc => absurd hi (by rw [cL] at hc; exact of_decide_eq_false hc)⟩
   rw [bS hi, cN hi hm]
   refine ⟨fun hc => ⟨fun _ => trivial, fun _ => trivial, fun _ => trivial, fun h2 => ih (l[i], 0) ?_, fun h2 => ih s ?_⟩, fun hc => ih s ?_⟩
   ·have hc : ku self id l[i] = true := hc
    rw [e, List.filter_cons_of_pos hc]
    show _ = gJ self s l[i]
    unfold gJ
    have h2 : (bif !decide (s.2 = 0) then true else decide (gO (a7 self s.1.2.1) (a7 self l[i].2.1) < 0)) = true := h2
    rw [h2]; rfl
   ·have hc : ku self id l[i] = true := hc
    rw [e, List.filter_cons_of_pos hc]
    show _ = gJ self s l[i]
    unfold gJ
    have h2 : (bif !decide (s.2 = 0) then true else decide (gO (a7 self s.1.2.1) (a7 self l[i].2.1) < 0)) = false := h2
    rw [h2]; rfl
   ·have hc : ku self id l[i] = false := hc
    rw [e, List.filter_cons_of_neg (by rw [hc]; decide)]
    rfl))
  (fun s hs => aM mZ (d7 l _ _ self _ z s.1 s.2) ⟨fun hc => absurd (of_decide_eq_true hc) (Int.lt_irrefl _), fun _ => ⟨_, rfl, by
   rw [List.take_length] at hs
   show (s.1, s.2, ()) = ((cC id self l).1, (cC id self l).2, ())
   rw [hs]; rfl⟩⟩)
theorem CC : ap prog [] j6 kd :=
 bL (S := kd) mZ (fx := dW) Bl (by kernel_rfl) (fun _ _ => trivial) (T := fun x => tz x.1 x.2.1 x.2.2.1) (fun x => y5 x.1 x.2.1 x.2.2.1) fun O w0 x hk _ =>
  ⟨fun _ => trivial, (LK O w0 x.1 x.2.1 x.2.2.1 (zero ab) hk.2.2.1.1).down 0 (zero ab, 6) (Nat.zero_le _) rfl⟩
theorem P9 (z a b : List Mem) : List.flatten (List.set (List.set (List.replicate 2 z) 0 a) 1 b) = a ++ b := by
 simp [List.replicate]
theorem OD (z a b c : List Mem) : List.flatten (List.set (List.set (List.set (List.replicate 3 z) 0 a) 1 b) 2 c) = a ++ b ++ c := by
 simp [List.replicate]
theorem Jm : ap prog [] qr na :=
  bL (S := na) (JJ lM yg iE CC) (fx := AI) Hh (by kernel_rfl) (fun _ _ => trivial) (T := fun x => BK x.1 x.2.1) (fun x => EY x.1 x.2.1) fun O w0 x _ _ => by
    obtain ⟨n, id, ⟨⟩⟩ := x
    have leaf : ∀ {p : Mem × Bool × Int}, c7 n id = p → ∃ z, bt tV (K.val (Ty.pair ab (Ty.pair Ty.bool (Ty.pair ae Ty.unit))) (p.1, p.2.1, p.2.2, PUnit.unit)) = some z ∧ z = na.g (n, id, ()) := fun {p} e =>
      ⟨_, rfl, by show (p.1, p.2.1, p.2.2, ()) = ((c7 n id).1, (c7 n id).2.1, (c7 n id).2.2, ()); rw [e]⟩
    refine ⟨trivial, bn ⟨fun h => leaf (p := (_, _, _)) ?_, fun h => ?_⟩⟩
    · unfold c7; rw [h]; rfl
    · have hr : aZ n = true := by
        have h : (!aZ n) = false := h
        simpa using h
      obtain ⟨l1, l2, l3⟩ := Hq hr
      have hfl := P9 (zero (Ty.slc ab)) n.2.2.2.1 n.2.2.1
      refine ⟨bf l2, trivial, bn ⟨fun h2 => leaf (p := (_, _, _)) ?_, fun h2 => ⟨?_, trivial, bn (bn ⟨fun h3 => ⟨bf l2, leaf (p := (_, _, _)) ?_⟩, fun h3 => leaf (p := (_, _, _)) ?_⟩)⟩⟩⟩
      · unfold c7; rw [h, h2]; rfl
      · rw [hfl, List.length_append]; exact Nat.le_trans (Nat.add_le_add l3 l1) (by decide)
      · rw [hfl] at h3
        unfold c7; rw [h, h2, h3]; rfl
      · rw [hfl] at h3 ⊢
        unfold c7; rw [h, h2, h3]; rfl
abbrev GIq (O : Nat → Prop) (w0 : World) (y : Int) := bG prog fM (Cx.base O w0) (cG prog O w0 ia fun z => z = (y, ()))
def GY (O : Nat → Prop) (w0 : World) (xs : List Nd) (f : den (.fn (.pair ag .unit) (.pair .bool .unit))) (hf : lE (.pair ag .unit) (.pair .bool .unit) f) (hm : xs.length ≤ maxLen) (y : Int) (hy : y = ixQ (prQ f) xs 0) :=
 PLift.up <| bN (σ := Unit) xs.length (fun i _ => ixQ (prQ f) (xs.drop i) (i : Nat) = y)
  (fun i _ => GIq O w0 y [] cZ (lp cI 2) (lG xs f (lnx ag xs) (i : Nat)))
  (fun i _ hi hs ih => aM iD (jn xs f _ _) (by
   rw [List.drop_eq_getElem_cons hi] at hs
   have hs : (bif prQ f xs[i] then ((i : Nat) : Int) else ixQ (prQ f) (xs.drop (i + 1)) (((i : Nat) : Int) + 1)) = y := hs
   refine ⟨fun _ => ⟨bf hi, hf, ?_⟩, fun hc => absurd hi (by rw [cL (e := ag)] at hc; exact of_decide_eq_false hc)⟩
   rw [bS (e := ag) hi, cN hi hm]
   refine ⟨fun hc => ⟨_, rfl, ?_⟩, fun hc => ih () ?_⟩
   ·have hc : prQ f xs[i] = true := hc
    rw [hc] at hs
    rw [← hs]
    rfl
   ·have hc : prQ f xs[i] = false := hc
    rw [hc] at hs
    exact hs))
  (fun _ hs => aM iD (jn xs f _ _) (by
   refine ⟨fun hc => absurd (of_decide_eq_true hc) (Int.lt_irrefl _), fun _ => ⟨_, rfl, ?_⟩⟩
   rw [List.drop_length] at hs
   rw [← hs]
   rfl))
theorem mT : ap prog [] c8 c9 :=
 bL (S := c9) iD (fx := cZ) sO (by kernel_rfl) (fun h => by cases h) (T := fun x => mU x.1 x.2.1) (fun x => rr x.1 x.2.1) fun O w0 x hk hp =>
  (GY O w0 x.1 x.2.1 hp hk.1.1 _ rfl).down 0 () (Nat.zero_le _) rfl
theorem Kn (p : Nd → Bool) : ∀ (l : List Nd) (i : Int), 0 ≤ i → decide (0 ≤ ixQ p l i) = l.any p
 | [], _, _ => rfl
 | x :: l, i, hi => by
  show decide (0 ≤ (bif p x then i else ixQ p l (i + 1))) = (p x || l.any p)
  cases p x with
  | true => exact decide_eq_true hi
  | false => exact Kn p l (i + 1) (by omega)
theorem qT : ap prog [] eI eF :=
 bL (S := eF) (rA mT) (fx := j1) qu (by kernel_rfl) (fun h => by cases h) (T := fun x => kA x.1 x.2.1) (fun x => po x.1 x.2.1) fun O w0 x _ hp =>
  ⟨hp, _, rfl, by show (decide (0 ≤ ixQ (prQ x.2.1) x.1 0), ()) = (List.any x.1 (prQ x.2.1), ()); rw [Kn _ _ 0 (Int.le_refl _)]⟩
theorem Dx : ap prog [] lj ll :=
 bL (S := ll) Ee (fx := tH) CP (by kernel_rfl) (fun _ _ => trivial) (T := fun x => uA x.1 x.2.1) (fun x => zL x.1 x.2.1) fun O w0 x _ _ => ⟨_, rfl, rfl⟩
theorem Eg : ap prog [] lk lB :=
 bL (S := lB) DC (fx := tM) CI (by kernel_rfl) (fun _ _ => trivial) (T := fun x => u7 x.1 x.2.1) (fun x => zj x.1 x.2.1) fun O w0 x _ _ => ⟨_, rfl, rfl⟩
abbrev GMb (O : Nat → Prop) (w0 : World) (y : List Mem) := bG prog lv (Cx.base O w0) (cG prog O w0 nP fun z => z = (y, ()))
def Lt (O : Nat → Prop) (w0 : World) (l : List Nd) (hm : l.length ≤ 1000000) :=
 PLift.up <| bN (σ := List Mem) l.length (fun i b => b = (l.take i).map sfN)
  (fun i b => GMb O w0 (ai l) [] fW (lp fq 3) (rS l (lnx ag l) (i : Nat) b))
  (fun i b hi hs ih => aM oW (od l _ _ b) (by
   refine ⟨fun _ => ⟨bf hi, ?_, ?_⟩, fun hc => absurd hi (by rw [cL (e := ag)] at hc; exact of_decide_eq_false hc)⟩
   ·rw [List.length_append, hs, List.length_map, List.length_take]
    exact Nat.le_trans (show min i l.length + 1 ≤ 1000001 by omega) (by decide)
   ·rw [bS (e := ag) hi, cN hi (Nat.le_trans hm (by decide))]
    refine ih _ ?_
    rw [List.take_succ_eq_append_getElem hi, List.map_append, hs]; rfl))
  (fun b hs => aM oW (od l _ _ b) ⟨fun hc => absurd (of_decide_eq_true hc) (Int.lt_irrefl _), fun _ => ⟨_, rfl, by
   rw [List.take_length] at hs
   rw [hs]; rfl⟩⟩)
theorem oR : ap prog [] d8 dZ :=
 bL (S := dZ) oW (fx := fW) Cl (by kernel_rfl) (fun h => by cases h) (T := fun x => uI x.1) (fun x => zo x.1) fun O w0 x _ hp =>
  (Lt O w0 x.1.1 hp).down 0 [] (Nat.zero_le _) rfl
theorem Lc (n : Nd) (l : List Nd) (no : Int) : bR (n :: l) no = bif decide (n.1.1 = no) then (n.1, true) else bR l no := by
 unfold bR
 rw [List.find?_cons]
 cases decide (n.1.1 = no) <;> rfl
abbrev GSf (O : Nat → Prop) (w0 : World) (y : Mem × Bool) := bG prog oP (Cx.base O w0) (cG prog O w0 rM fun z => z = (y.1, y.2, ()))
def Ph (O : Nat → Prop) (w0 : World) (l : List Nd) (no : Int) (z : Mem) (hm : l.length ≤ maxLen) :=
 PLift.up <| bN (σ := Unit) l.length (fun i _ => bR (l.drop i) no = bR l no)
  (fun i _ => GSf O w0 (bR l no) [] iN (lp ie 2) (wk no l (lnx ag l) (i : Nat) z))
  (fun i _ hi hs ih => aM tc (qR no l _ _ z) (by
   rw [List.drop_eq_getElem_cons hi, Lc] at hs
   refine ⟨fun _ => ⟨bf hi, ?_⟩, fun hc => absurd hi (by rw [cL (e := ag)] at hc; exact of_decide_eq_false hc)⟩
   rw [bS (e := ag) hi, cN hi hm]
   refine ⟨fun hc => ⟨_, rfl, ?_⟩, fun hc => ih () ?_⟩
   ·have hc : decide (l[i].1.1 = no) = true := hc
    rw [hc] at hs
    show (_, _, _) = ((bR l no).1, (bR l no).2, ())
    rw [← hs]; rfl
   ·have hc : decide (l[i].1.1 = no) = false := hc
    rw [hc] at hs
    exact hs))
  (fun _ hs => aM tc (qR no l _ _ z) ⟨fun hc => absurd (of_decide_eq_true hc) (Int.lt_irrefl _), fun _ => ⟨_, rfl, by
   rw [List.drop_length] at hs
   show (_, _, _) = ((bR l no).1, (bR l no).2, ())
   rw [← hs]; rfl⟩⟩)
theorem zr : ap prog [] jK jI :=
 bL (S := jI) tc (fx := iN) GL (by kernel_rfl) (fun _ _ => trivial) (T := fun x => Ac x.1 x.2.1) (fun x => DM x.1 x.2.1) fun O w0 x hk _ =>
  (Ph O w0 x.1.1 x.2.1 _ hk.1.1.1).down 0 () (Nat.zero_le _) rfl
theorem Gj : ap prog [] nu nD :=
 bL (S := nD) (Gz iE m9) (fx := wr) EQ (by kernel_rfl) (fun h => by cases h) (T := fun x => yl x.1) (fun x => B6 x.1) fun O w0 x _ hp => by
  obtain ⟨n, ⟨⟩⟩ := x
  have hp : (cg n).length ≤ 1000000 := hp
  have hf : List.flatten (List.set (List.set (List.set (List.replicate 3 (zero (Ty.slc ab))) 0 (List.set (List.replicate 1 (zero ab)) 0 n.2.1)) 1 n.2.2.1) 2 n.2.2.2.1) = cg n := OD _ _ _ _
  refine ⟨by rw [hf]; exact Nat.le_trans hp (by decide), trivial, _, rfl, ?_⟩
  rw [hf]
end Go.Proofs.Ytimdnodkabnbfaa
namespace Go.Proofs.Ytimdnodkabnbfaa
open Go Go.RowKit
noncomputable abbrev cX : Fx := { fn := be, ann := { loops := [(1, { keep := [0, 5, 6, 7] })], frz := [(1000001, [1, 2, 3, 12, 13, 14])], gy := true }, share := true }
noncomputable abbrev dw : Fx := { fn := bB, ann := { loops := [(3, { keep := [1, 2, 3, 12, 13, 14, 42] })] }, share := true }
noncomputable abbrev iF : a8 := { D := { T := bg, F := [(d8, dZ), (dn, du), (nu, nD), (jK, jI), (gf, gi)], R := [], ovl := [] }, inl := [(co, cX)] }
noncomputable abbrev rI : bu := .data pK
theorem G4 (h_chord_Members : ap prog [] d8 dZ) (h_node_Right : ap prog [] dn du) (h_chord_known : ap prog [] nu nD) (h_chord_self : ap prog [] jK jI) (h_ring_Right : ap prog [] gf gi) : XOk prog iF := xok (an (an (an (an (an (aL aS aE) h_ring_Right) h_chord_self) h_chord_known) h_node_Right) h_chord_Members) (by kernel_rfl) aN (gX lz (by kernel_rfl) aW) aV
noncomputable def yA (o : den ah) : af := af.req (List.length (Prod.fst o) ≤ 1000000) (af.all (den (Ty.slc ab)) (fun (q1 : den (Ty.slc ab)) ↦ q1 = ai (Prod.fst o)) fun (q1 : den (Ty.slc ab)) ↦ af.loop [] dw (lp bB 3) [(1, K.ptr 0 ah []), (2, K.ptr (0 + 1) Ty.bool []), (3, K.val (Ty.slc ab) q1), (12, K.val (Ty.slc ag) (Prod.fst o)), (13, K.val ae (lnx ag (Prod.fst o))), (14, K.val ae 0)] [(0, Bx.cell ah o), (0 + 1, Bx.cell Ty.bool (zero Ty.bool))])
theorem Cu (o : den ah) : aj iF rI 5000 [] dw (aA bB) (Env.of (aF wZ (o, ()) 0) []) = yA o := by kernel_rfl
noncomputable def oV (v3 : den (Ty.slc ab)) (v12 : den (Ty.slc ag)) (v13 : den ae) (v14 : den ae) (b0 : den ah) (b1 : den Ty.bool) : Env := Env.of [(1, K.ptr 0 ah []), (2, K.ptr (0 + 1) Ty.bool []), (3, K.val (Ty.slc ab) v3), (12, K.val (Ty.slc ag) v12), (13, K.val ae v13), (14, K.val ae v14)] [(0, Bx.cell ah b0), (1, Bx.cell Ty.bool b1)]
noncomputable def Cf (v3 : den (Ty.slc ab)) (v12 : den (Ty.slc ag)) (v13 : den ae) (v14 : den ae) (b0 : den ah) (b1 : den Ty.bool) : af := af.ite (decide (v14 < v13)) (af.req (inB v14 (lnx ag v12)) (af.req True (af.req (dV [(!aZ (el ag v12 v14), false), (decide (0 < v14), true)] (inB (IntKind.wrap IntKind.i64 (v14 - 1)) (lnx ag (Prod.fst b0)))) (af.all (den Ty.bool) (fun (q6 : den Ty.bool) ↦ q6 = aZ (el ag v12 v14)) fun (q6 : den Ty.bool) ↦ af.ite (bif !aZ (el ag v12 v14) then true else bif decide (0 < v14) then decide (Prod.fst (Prod.fst (el ag v12 v14)) ≤ Prod.fst (Prod.fst (el ag (Prod.fst b0) (IntKind.wrap IntKind.i64 (v14 - 1))))) else false) (af.ret (K.val (Ty.pair Ty.bool Ty.unit) (false, PUnit.unit))) (af.req (List.length (cg (el ag v12 v14)) ≤ 1000000) (af.loop [{ fx := dw, todo := cF bB 9, dst := none, s := ofS [(1, K.ptr (0 + 1) ah []), (2, K.ptr (0 + 1 + 1) Ty.bool []), (3, K.val (Ty.slc ab) v3), (12, K.val (Ty.slc ag) v12), (13, K.val ae v13), (14, K.val ae v14)], rng := some 0 }] cX (lp be 1) [(0, K.yld 0), (5, K.val (Ty.slc ab) (cg (el ag v12 v14))), (6, K.val ae (lnx ab (cg (el ag v12 v14)))), (7, K.val ae 0)] [(0, Bx.lop LoopState.ready none [(1, K.ptr (0 + 1) ah []), (2, K.ptr (0 + 1 + 1) Ty.bool [])] 59 (k9 bB 9) (dC bB 9) (fR bB 9)), (0 + 1, Bx.cell ah b0), (0 + 1 + 1, Bx.cell Ty.bool b1)])))))) (af.req True (af.all (den Ty.bool) (fun (q6 : den Ty.bool) ↦ q6 = bv v3) fun (q6 : den Ty.bool) ↦ af.ret (K.val (Ty.pair Ty.bool Ty.unit) (q6, PUnit.unit))))
theorem pv (v3 : den (Ty.slc ab)) (v12 : den (Ty.slc ag)) (v13 : den ae) (v14 : den ae) (b0 : den ah) (b1 : den Ty.bool) : aj iF rI 5000 [] dw (lp bB 3) (oV v3 v12 v13 v14 b0 b1) = Cf v3 v12 v13 v14 b0 b1 := by kernel_rfl
noncomputable def fS (w0_3 : den (Ty.slc ab)) (w0_12 : den (Ty.slc ag)) (w0_13 : den ae) (w0_14 : den ae) (v5 : den (Ty.slc ab)) (v6 : den ae) (v7 : den ae) (b1 : den ah) (b2 : den Ty.bool) : List cr := [{ fx := dw, todo := cF bB 9, dst := none, s := ofS [(1, K.ptr (0 + 1) ah []), (2, K.ptr (0 + 1 + 1) Ty.bool []), (3, K.val (Ty.slc ab) w0_3), (12, K.val (Ty.slc ag) w0_12), (13, K.val ae w0_13), (14, K.val ae w0_14)], rng := some 0 }]
noncomputable def fU (w0_3 : den (Ty.slc ab)) (w0_12 : den (Ty.slc ag)) (w0_13 : den ae) (w0_14 : den ae) (v5 : den (Ty.slc ab)) (v6 : den ae) (v7 : den ae) (b1 : den ah) (b2 : den Ty.bool) : Env := Env.of [(0, K.yld 0), (5, K.val (Ty.slc ab) v5), (6, K.val ae v6), (7, K.val ae v7)] [(0, Bx.lop LoopState.ready none [(1, K.ptr (0 + 1) ah []), (2, K.ptr (0 + 1 + 1) Ty.bool [])] 59 (k9 bB 9) (dC bB 9) (fR bB 9)), (1, Bx.cell ah b1), (2, Bx.cell Ty.bool b2)]
noncomputable def kF (w0_3 : den (Ty.slc ab)) (w0_12 : den (Ty.slc ag)) (w0_13 : den ae) (w0_14 : den ae) (v5 : den (Ty.slc ab)) (v6 : den ae) (v7 : den ae) (b1 : den ah) (b2 : den Ty.bool) : af := af.ite (decide (v7 < v6)) (af.req (inB v7 (lnx ab v5)) (af.req True (af.all (den (Ty.pair ab (Ty.pair Ty.bool Ty.unit))) (fun (q9 : den (Ty.pair ab (Ty.pair Ty.bool Ty.unit))) ↦ q9 = (Prod.fst (bR (Prod.fst b1) (Prod.fst (el ab v5 v7))), Prod.snd (bR (Prod.fst b1) (Prod.fst (el ab v5 v7))), PUnit.unit)) fun (q9 : den (Ty.pair ab (Ty.pair Ty.bool Ty.unit))) ↦ af.ite (bif Prod.fst (Prod.snd q9) then !eqb ab (Prod.fst q9) (el ab v5 v7) else false) (af.ret (K.val (Ty.pair Ty.bool Ty.unit) (false, PUnit.unit))) (af.loop [{ fx := dw, todo := cF bB 9, dst := none, s := ofS [(1, K.ptr (0 + 1) ah []), (2, K.ptr (0 + 1 + 1) Ty.bool []), (3, K.val (Ty.slc ab) w0_3), (12, K.val (Ty.slc ag) w0_12), (13, K.val ae w0_13), (14, K.val ae w0_14)], rng := some 0 }] cX (lp be 1) [(0, K.yld 0), (5, K.val (Ty.slc ab) v5), (6, K.val ae v6), (7, K.val ae (IntKind.wrap IntKind.i64 (v7 + 1)))] [(0, Bx.lop LoopState.ready none [(1, K.ptr (0 + 1) ah []), (2, K.ptr (0 + 1 + 1) Ty.bool [])] 59 (k9 bB 9) (dC bB 9) (fR bB 9)), (0 + 1, Bx.cell ah b1), (0 + 1 + 1, Bx.cell Ty.bool b2)])))) (af.loop [] dw (lp bB 3) [(1, K.ptr 0 ah []), (2, K.ptr (0 + 1) Ty.bool []), (3, K.val (Ty.slc ab) w0_3), (12, K.val (Ty.slc ag) w0_12), (13, K.val ae w0_13), (14, K.val ae (IntKind.wrap IntKind.i64 (w0_14 + 1)))] [(0, Bx.cell ah b1), (0 + 1, Bx.cell Ty.bool b2)])
theorem eT (w0_3 : den (Ty.slc ab)) (w0_12 : den (Ty.slc ag)) (w0_13 : den ae) (w0_14 : den ae) (v5 : den (Ty.slc ab)) (v6 : den ae) (v7 : den ae) (b1 : den ah) (b2 : den Ty.bool) : aj iF rI 5000 (fS w0_3 w0_12 w0_13 w0_14 v5 v6 v7 b1 b2) cX (lp be 1) (fU w0_3 w0_12 w0_13 w0_14 v5 v6 v7 b1 b2) = kF w0_3 w0_12 w0_13 w0_14 v5 v6 v7 b1 b2 := by kernel_rfl
noncomputable abbrev fX : Fx := { fn := fA, ann := { loops := [(7, { keep := [3, 5, 6, 9, 10, 36, 37, 38], own := [(10, ae)] })], frz := [(1, [4]), (9, [12]), (12, [10])] }, share := true }
noncomputable abbrev kD : a8 := { D := { T := bg, F := [(c8, c9), (lj, ll), (lk, lB), (eI, eF), (ci, cH), (qj, qb), (qe, qp), (qr, na)], R := [], ovl := [] }, inl := [] }
noncomputable abbrev yy : bu := .data mE
theorem Gm (h_slices_IndexFunc_Node : ap prog [] c8 c9) (h_lookup_asks_1 : ap prog [] lj ll) (h_lookup_asks_2 : ap prog [] lk lB) (h_slices_ContainsFunc_Node : ap prog [] eI eF) (h_slices_Concat_Member : ap prog [] ci (cH)) (h_node_Drop : ap prog [] qj qb) (h_node_Owns : ap prog [] qe qp) (h_node_Next : ap prog [] qr na) : XOk prog kD := xok (an (an (an (an (an (an (an (an (aL aS aE) h_node_Next) h_node_Owns) h_node_Drop) h_slices_Concat_Member) h_slices_ContainsFunc_Node) h_lookup_asks_2) h_lookup_asks_1) h_slices_IndexFunc_Node) (by kernel_rfl) aN aW aV
noncomputable def yx (o : den ah) (no : den ae) (id : den tId) : af := af.req (∀ (y : den (Ty.pair ag Ty.unit)), True) (af.req (∃ (h : den (Ty.pair ag Ty.unit) → den (Ty.pair Ty.bool Ty.unit)), (some fun (y : den (Ty.pair ag Ty.unit)) ↦ (decide (Prod.fst (Prod.fst (Prod.fst y)) = no), PUnit.unit)) = some h) (af.all (den ae) (fun (q3 : den ae) ↦ q3 = ixQ (prQ (some fun (y : den (Ty.pair ag Ty.unit)) ↦ (decide (Prod.fst (Prod.fst (Prod.fst y)) = no), PUnit.unit))) (Prod.fst o) 0) fun (q3 : den ae) ↦ af.ite (decide (q3 < 0)) (af.ret (K.val (Ty.pair ay (Ty.pair Ty.bool Ty.unit)) (zero (Ty.pair ab (Ty.pair Ty.bool Ty.unit)), false, PUnit.unit))) (af.req (inB q3 (lnx ag (Prod.fst o))) (af.req (List.length (List.flatten (List.set (List.set (List.set (List.replicate 3 (zero (Ty.slc ab))) 0 (List.set (List.replicate 1 (zero ab)) 0 (Prod.fst (Prod.snd (el ag (Prod.fst o) q3))))) 1 (Prod.fst (Prod.snd (Prod.snd (el ag (Prod.fst o) q3))))) 2 (Prod.fst (Prod.snd (Prod.snd (Prod.snd (el ag (Prod.fst o) q3))))))) ≤ bV) (af.all (den (Ty.slc ab)) (fun (q4 : den (Ty.slc ab)) ↦ q4 = List.flatten (List.set (List.set (List.set (List.replicate 3 (zero (Ty.slc ab))) 0 (List.set (List.replicate 1 (zero ab)) 0 (Prod.fst (Prod.snd (el ag (Prod.fst o) q3))))) 1 (Prod.fst (Prod.snd (Prod.snd (el ag (Prod.fst o) q3))))) 2 (Prod.fst (Prod.snd (Prod.snd (Prod.snd (el ag (Prod.fst o) q3))))))) fun (q4 : den (Ty.slc ab)) ↦ af.loop [] fX (lp fA 7) [(3, K.ptr 0 ah []), (5, K.ptr (0 + 1) tId []), (6, K.ptr (0 + 1 + 1) ay []), (9, K.ptr (0 + 1 + 1 + 1) ag []), (10, K.sl (0 + 1 + 1 + 1 + 1) ae), (36, K.val (Ty.slc ab) q4), (37, K.val ae (lnx ab q4)), (38, K.val ae 0)] [(0, Bx.cell ah o), (0 + 1, Bx.cell tId id), (0 + 1 + 1, Bx.cell ay (zero ay)), (0 + 1 + 1 + 1, Bx.cell ag (el ag (Prod.fst o) q3)), (0 + 1 + 1 + 1 + 1, Bx.row ae [])])))))
theorem Cy (o : den ah) (no : den ae) (id : den tId) : aj kD yy 5000 [] fX (aA fA) (Env.of (aF wK (o, no, id, ()) 0) []) = yx o no id := by kernel_rfl
noncomputable def ul (v36 : den (Ty.slc ab)) (v37 : den ae) (v38 : den ae) (b0 : den ah) (b1 : den tId) (b2 : den ay) (b3 : den ag) (b4 : List (den ae)) : Env := Env.of [(3, K.ptr 0 ah []), (5, K.ptr (0 + 1) tId []), (6, K.ptr (0 + 1 + 1) ay []), (9, K.ptr (0 + 1 + 1 + 1) ag []), (10, K.sl (0 + 1 + 1 + 1 + 1) ae), (36, K.val (Ty.slc ab) v36), (37, K.val ae v37), (38, K.val ae v38)] [(0, Bx.cell ah b0), (1, Bx.cell tId b1), (2, Bx.cell ay b2), (3, Bx.cell ag b3), (4, Bx.row ae b4)]
noncomputable def Ca (v36 : den (Ty.slc ab)) (v37 : den ae) (v38 : den ae) (b0 : den ah) (b1 : den tId) (b2 : den ay) (b3 : den ag) (b4 : List (den ae)) : af := af.ite (decide (v38 < v37)) (af.req (inB v38 (lnx ab v36)) (af.req (∀ (y : den (Ty.pair ag Ty.unit)), True) (af.req (∃ (h : den (Ty.pair ag Ty.unit) → den (Ty.pair Ty.bool Ty.unit)), (some fun (y : den (Ty.pair ag Ty.unit)) ↦ (decide (Prod.fst (Prod.fst (Prod.fst y)) = Prod.fst (el ab v36 v38)), PUnit.unit)) = some h) (af.all (den Ty.bool) (fun (q8 : den Ty.bool) ↦ q8 = List.any (Prod.fst b0) (prQ (some fun (y : den (Ty.pair ag Ty.unit)) ↦ (decide (Prod.fst (Prod.fst (Prod.fst y)) = Prod.fst (el ab v36 v38)), PUnit.unit)))) fun (q8 : den Ty.bool) ↦ af.ite (!q8) (af.req (List.length (b4 ++ List.set (List.replicate 1 (zero ae)) 0 (Prod.fst (el ab v36 v38))) ≤ bV) (af.loop [] fX (lp fA 7) [(3, K.ptr 0 ah []), (5, K.ptr (0 + 1) tId []), (6, K.ptr (0 + 1 + 1) ay []), (9, K.ptr (0 + 1 + 1 + 1) ag []), (10, K.sl (0 + 1 + 1 + 1 + 1) ae), (36, K.val (Ty.slc ab) v36), (37, K.val ae v37), (38, K.val ae (IntKind.wrap IntKind.i64 (v38 + 1)))] [(0, Bx.cell ah b0), (0 + 1, Bx.cell tId b1), (0 + 1 + 1, Bx.cell ay b2), (0 + 1 + 1 + 1, Bx.cell ag b3), (0 + 1 + 1 + 1 + 1, Bx.row ae (b4 ++ List.set (List.replicate 1 (zero ae)) 0 (Prod.fst (el ab v36 v38))))])) (af.loop [] fX (lp fA 7) [(3, K.ptr 0 ah []), (5, K.ptr (0 + 1) tId []), (6, K.ptr (0 + 1 + 1) ay []), (9, K.ptr (0 + 1 + 1 + 1) ag []), (10, K.sl (0 + 1 + 1 + 1 + 1) ae), (36, K.val (Ty.slc ab) v36), (37, K.val ae v37), (38, K.val ae (IntKind.wrap IntKind.i64 (v38 + 1)))] [(0, Bx.cell ah b0), (0 + 1, Bx.cell tId b1), (0 + 1 + 1, Bx.cell ay b2), (0 + 1 + 1 + 1, Bx.cell ag b3), (0 + 1 + 1 + 1 + 1, Bx.row ae b4)]))))) (af.req True (af.all (den (Ty.pair ag (Ty.pair ae Ty.unit))) (fun (q8 : den (Ty.pair ag (Ty.pair ae Ty.unit))) ↦ q8 = (Prod.fst (g6 b3 b4), Prod.snd (g6 b3 b4), PUnit.unit)) fun (q8 : den (Ty.pair ag (Ty.pair ae Ty.unit))) ↦ af.req True (af.all (den Ty.bool) (fun (q9 : den Ty.bool) ↦ q9 = mC (Prod.fst q8) b1) fun (q9 : den Ty.bool) ↦ af.ite q9 (af.ret (K.val (Ty.pair ay (Ty.pair Ty.bool Ty.unit)) ((Prod.fst (Prod.fst q8), true, zero Ty.unit), true, PUnit.unit))) (af.req True (af.all (den (Ty.pair ab (Ty.pair Ty.bool (Ty.pair ae Ty.unit)))) (fun (q10 : den (Ty.pair ab (Ty.pair Ty.bool (Ty.pair ae Ty.unit)))) ↦ q10 = (Prod.fst (c7 (Prod.fst q8) b1), Prod.fst (Prod.snd (c7 (Prod.fst q8) b1)), Prod.snd (Prod.snd (c7 (Prod.fst q8) b1)), PUnit.unit)) fun (q10 : den (Ty.pair ab (Ty.pair Ty.bool (Ty.pair ae Ty.unit)))) ↦ af.ret (K.val (Ty.pair ay (Ty.pair Ty.bool Ty.unit)) ((Prod.fst q10, Prod.fst (Prod.snd q10), zero Ty.unit), true, PUnit.unit)))))))
theorem py (v36 : den (Ty.slc ab)) (v37 : den ae) (v38 : den ae) (b0 : den ah) (b1 : den tId) (b2 : den ay) (b3 : den ag) (b4 : List (den ae)) : aj kD yy 5000 [] fX (lp fA 7) (ul v36 v37 v38 b0 b1 b2 b3 b4) = Ca v36 v37 v38 b0 b1 b2 b3 b4 := by kernel_rfl
noncomputable abbrev D6 : Fx := { fn := wg, ann := { }, share := true }
noncomputable abbrev dB : Fx := { fn := da, ann := { loops := [(1, { keep := [0, 2, 3, 5] })], frz := [(1000001, [4, 6, 7, 8, 9, 10, 11])], gy := true }, share := true }
noncomputable abbrev fY : Fx := { fn := bm, ann := { }, own := [8, 11], share := true }
noncomputable abbrev iJ : a8 := { D := { T := bg, F := [(fC, fB), (nL, nM)], R := [], ovl := [] }, inl := [(vV, D6), (tb, dB)] }
noncomputable abbrev rl : bu := .data eU
theorem GT (h_chord_Right : ap prog [] fC fB) (h_lookup_asks : ap prog [] nL nM) : XOk prog iJ := xok (an (an (aL aS aE) h_lookup_asks) h_chord_Right) (by kernel_rfl) aN (gX Eu (by kernel_rfl) (gX Bm (by kernel_rfl) aW)) aV
noncomputable def yH (o : den ah) (no : den ae) (id : den tId) (hops : den ae) : af := af.req (List.length (Prod.fst o) ≤ 1000000) (af.all (den Ty.bool) (fun (q4 : den Ty.bool) ↦ q4 = bo (Prod.fst o)) fun (q4 : den Ty.bool) ↦ af.ite (bif bif !q4 then true else decide (hops < 0) then true else decide (16 < hops)) (af.ret (K.val (Ty.pair (Ty.slc ae) (Ty.pair ab (Ty.pair ae Ty.unit))) ([], zero (Ty.pair ae (Ty.pair tId Ty.unit)), 1, PUnit.unit))) (af.loop [{ fx := fY, todo := cF bm 7, dst := none, s := ofS [(4, K.ptr (0 + 1 + 1 + 1) ah []), (6, K.ptr (0 + 1 + 1 + 1 + 1) tId []), (7, K.ptr (0 + 1 + 1 + 1 + 1 + 1) ae []), (8, K.ptr (0 + 1 + 1 + 1 + 1 + 1 + 1) (Ty.slc ae) []), (9, K.ptr (0 + 1 + 1 + 1 + 1 + 1 + 1 + 1) ab []), (10, K.ptr (0 + 1 + 1 + 1 + 1 + 1 + 1 + 1 + 1) ae []), (11, K.ptr (0 + 1 + 1 + 1 + 1 + 1 + 1 + 1 + 1 + 1) (Ty.slc ae) [])], rng := some 0 }] dB (lp da 1) [(0, K.yld 0), (2, K.ptr (0 + 1) ah []), (3, K.ptr (0 + 1 + 1) tId []), (5, K.val ae no)] [(0, Bx.lop LoopState.ready none [(7, K.ptr (0 + 1 + 1 + 1 + 1 + 1) ae []), (11, K.ptr (0 + 1 + 1 + 1 + 1 + 1 + 1 + 1 + 1 + 1) (Ty.slc ae) []), (8, K.ptr (0 + 1 + 1 + 1 + 1 + 1 + 1) (Ty.slc ae) []), (9, K.ptr (0 + 1 + 1 + 1 + 1 + 1 + 1 + 1) ab []), (10, K.ptr (0 + 1 + 1 + 1 + 1 + 1 + 1 + 1 + 1) ae [])] 73 (k9 bm 7) (dC bm 7) (fR bm 7)), (0 + 1, Bx.cell ah o), (0 + 1 + 1, Bx.cell tId id), (0 + 1 + 1 + 1, Bx.cell ah o), (0 + 1 + 1 + 1 + 1, Bx.cell tId id), (0 + 1 + 1 + 1 + 1 + 1, Bx.cell ae hops), (0 + 1 + 1 + 1 + 1 + 1 + 1, Bx.obj (Ty.slc ae) K.nilsl), (0 + 1 + 1 + 1 + 1 + 1 + 1 + 1, Bx.cell ab (zero ab)), (0 + 1 + 1 + 1 + 1 + 1 + 1 + 1 + 1, Bx.cell ae (zero ae)), (0 + 1 + 1 + 1 + 1 + 1 + 1 + 1 + 1 + 1, Bx.obj (Ty.slc ae) K.nilsl)]))
theorem CE (o : den ah) (no : den ae) (id : den tId) (hops : den ae) : aj iJ rl 5000 [] fY (aA bm) (Env.of (aF wx (o, no, id, hops, ()) 0) []) = yH o no id hops := by kernel_rfl
noncomputable def iX (v5 : den ae) (b1 : den ah) (b2 : den tId) (b3 : den ah) (b4 : den tId) (b5 : den ae) (b7 : den ab) (b8 : den ae) : List cr := [{ fx := fY, todo := cF bm 7, dst := none, s := ofS [(4, K.ptr (0 + 1 + 1 + 1) ah []), (6, K.ptr (0 + 1 + 1 + 1 + 1) tId []), (7, K.ptr (0 + 1 + 1 + 1 + 1 + 1) ae []), (8, K.ptr (0 + 1 + 1 + 1 + 1 + 1 + 1) (Ty.slc ae) []), (9, K.ptr (0 + 1 + 1 + 1 + 1 + 1 + 1 + 1) ab []), (10, K.ptr (0 + 1 + 1 + 1 + 1 + 1 + 1 + 1 + 1) ae []), (11, K.ptr (0 + 1 + 1 + 1 + 1 + 1 + 1 + 1 + 1 + 1) (Ty.slc ae) [])], rng := some 0 }]
noncomputable def i7 (v5 : den ae) (b1 : den ah) (b2 : den tId) (b3 : den ah) (b4 : den tId) (b5 : den ae) (b7 : den ab) (b8 : den ae) : Env := Env.of [(0, K.yld 0), (2, K.ptr (0 + 1) ah []), (3, K.ptr (0 + 1 + 1) tId []), (5, K.val ae v5)] [(0, Bx.lop LoopState.ready none [(7, K.ptr (0 + 1 + 1 + 1 + 1 + 1) ae []), (11, K.ptr (0 + 1 + 1 + 1 + 1 + 1 + 1 + 1 + 1 + 1) (Ty.slc ae) []), (8, K.ptr (0 + 1 + 1 + 1 + 1 + 1 + 1) (Ty.slc ae) []), (9, K.ptr (0 + 1 + 1 + 1 + 1 + 1 + 1 + 1) ab []), (10, K.ptr (0 + 1 + 1 + 1 + 1 + 1 + 1 + 1 + 1) ae [])] 73 (k9 bm 7) (dC bm 7) (fR bm 7)), (1, Bx.cell ah b1), (2, Bx.cell tId b2), (3, Bx.cell ah b3), (4, Bx.cell tId b4), (5, Bx.cell ae b5), (6, Bx.obj (Ty.slc ae) K.nilsl), (7, Bx.cell ab b7), (8, Bx.cell ae b8), (9, Bx.obj (Ty.slc ae) K.nilsl)]
noncomputable def oy (v5 : den ae) (b1 : den ah) (b2 : den tId) (b3 : den ah) (b4 : den tId) (b5 : den ae) (b7 : den ab) (b8 : den ae) : af := af.req (bo (Prod.fst b1) = true) (af.all (den (Ty.pair ay (Ty.pair Ty.bool Ty.unit))) (fun (q8 : den (Ty.pair ay (Ty.pair Ty.bool Ty.unit))) ↦ q8 = (Prod.fst (aI (Prod.fst b1) v5 b2), Prod.snd (aI (Prod.fst b1) v5 b2), PUnit.unit)) fun (q8 : den (Ty.pair ay (Ty.pair Ty.bool Ty.unit))) ↦ af.ite (!Prod.fst (Prod.snd q8)) (af.ret (K.val (Ty.pair (Ty.slc ae) (Ty.pair ab (Ty.pair ae Ty.unit))) ([], zero (Ty.pair ae (Ty.pair tId Ty.unit)), 10, PUnit.unit))) (af.ite (decide (b5 < 0)) (af.ret (K.val (Ty.pair (Ty.slc ae) (Ty.pair ab (Ty.pair ae Ty.unit))) ([], zero (Ty.pair ae (Ty.pair tId Ty.unit)), 9, PUnit.unit))) (af.req (List.length (List.set (List.replicate 1 (zero ae)) 0 v5) ≤ bV) (af.ite (bif Prod.fst (Prod.snd (Prod.fst q8)) then decide (Prod.fst (Prod.fst (Prod.fst q8)) = v5) else false) (af.ret (K.val (Ty.pair (Ty.slc ae) (Ty.pair ab (Ty.pair ae Ty.unit))) (List.set (List.replicate 1 (zero ae)) 0 v5, Prod.fst (Prod.fst q8), 0, PUnit.unit))) (af.ite (Prod.fst (Prod.snd (Prod.fst q8))) (af.req (List.length (List.set (List.replicate 1 (zero ae)) 0 v5 ++ List.set (List.replicate 1 (zero ae)) 0 (Prod.fst (Prod.fst (Prod.fst q8)))) ≤ bV) (af.ret (K.val (Ty.pair (Ty.slc ae) (Ty.pair ab (Ty.pair ae Ty.unit))) (List.set (List.replicate 1 (zero ae)) 0 v5 ++ List.set (List.replicate 1 (zero ae)) 0 (Prod.fst (Prod.fst (Prod.fst q8))), Prod.fst (Prod.fst q8), 0, PUnit.unit)))) (af.ite (decide (Prod.fst (Prod.fst (Prod.fst q8)) = v5)) (af.ret (K.val (Ty.pair (Ty.slc ae) (Ty.pair ab (Ty.pair ae Ty.unit))) ([], zero (Ty.pair ae (Ty.pair tId Ty.unit)), 13, PUnit.unit))) (af.ite (bif Prod.fst (Prod.snd (Prod.fst q8)) then true else eqb ay (Prod.fst q8) ((v5, Prod.fst (Prod.snd (Prod.fst (Prod.fst q8))), zero Ty.unit), zero (Ty.pair Ty.bool Ty.unit))) (af.ret (K.val (Ty.pair (Ty.slc ae) (Ty.pair ab (Ty.pair ae Ty.unit))) ([], zero (Ty.pair ae (Ty.pair tId Ty.unit)), 10, PUnit.unit))) (af.loop [{ fx := fY, todo := cF bm 7, dst := none, s := ofS [(4, K.ptr (0 + 1 + 1 + 1) ah []), (6, K.ptr (0 + 1 + 1 + 1 + 1) tId []), (7, K.ptr (0 + 1 + 1 + 1 + 1 + 1) ae []), (8, K.ptr (0 + 1 + 1 + 1 + 1 + 1 + 1) (Ty.slc ae) []), (9, K.ptr (0 + 1 + 1 + 1 + 1 + 1 + 1 + 1) ab []), (10, K.ptr (0 + 1 + 1 + 1 + 1 + 1 + 1 + 1 + 1) ae []), (11, K.ptr (0 + 1 + 1 + 1 + 1 + 1 + 1 + 1 + 1 + 1) (Ty.slc ae) [])], rng := some 0 }] dB (lp da 1) [(0, K.yld 0), (2, K.ptr (0 + 1) ah []), (3, K.ptr (0 + 1 + 1) tId []), (5, K.val ae (Prod.fst (Prod.fst (Prod.fst q8))))] [(0, Bx.lop LoopState.ready none [(7, K.ptr (0 + 1 + 1 + 1 + 1 + 1) ae []), (11, K.ptr (0 + 1 + 1 + 1 + 1 + 1 + 1 + 1 + 1 + 1) (Ty.slc ae) []), (8, K.ptr (0 + 1 + 1 + 1 + 1 + 1 + 1) (Ty.slc ae) []), (9, K.ptr (0 + 1 + 1 + 1 + 1 + 1 + 1 + 1) ab []), (10, K.ptr (0 + 1 + 1 + 1 + 1 + 1 + 1 + 1 + 1) ae [])] 73 (k9 bm 7) (dC bm 7) (fR bm 7)), (0 + 1, Bx.cell ah b1), (0 + 1 + 1, Bx.cell tId b2), (0 + 1 + 1 + 1, Bx.cell ah b3), (0 + 1 + 1 + 1 + 1, Bx.cell tId b4), (0 + 1 + 1 + 1 + 1 + 1, Bx.cell ae b5), (0 + 1 + 1 + 1 + 1 + 1 + 1, Bx.obj (Ty.slc ae) K.nilsl), (0 + 1 + 1 + 1 + 1 + 1 + 1 + 1, Bx.cell ab b7), (0 + 1 + 1 + 1 + 1 + 1 + 1 + 1 + 1, Bx.cell ae b8), (0 + 1 + 1 + 1 + 1 + 1 + 1 + 1 + 1 + 1, Bx.obj (Ty.slc ae) (K.sl (0 + 1 + 1 + 1 + 1 + 1 + 1 + 1 + 1 + 1 + 1) ae)), (0 + 1 + 1 + 1 + 1 + 1 + 1 + 1 + 1 + 1 + 1, Bx.row ae (List.set (List.replicate 1 (zero ae)) 0 v5))]))))))))
theorem mY (v5 : den ae) (b1 : den ah) (b2 : den tId) (b3 : den ah) (b4 : den tId) (b5 : den ae) (b7 : den ab) (b8 : den ae) : aj iJ rl 5000 (iX v5 b1 b2 b3 b4 b5 b7 b8) dB (lp da 1) (i7 v5 b1 b2 b3 b4 b5 b7 b8) = oy v5 b1 b2 b3 b4 b5 b7 b8 := by kernel_rfl
noncomputable def g8 (v5 : den ae) (b1 : den ah) (b2 : den tId) (b3 : den ah) (b4 : den tId) (b5 : den ae) (b7 : den ab) (b8 : den ae) (b10 : List (den ae)) : List cr := [{ fx := fY, todo := cF bm 7, dst := none, s := ofS [(4, K.ptr (0 + 1 + 1 + 1) ah []), (6, K.ptr (0 + 1 + 1 + 1 + 1) tId []), (7, K.ptr (0 + 1 + 1 + 1 + 1 + 1) ae []), (8, K.ptr (0 + 1 + 1 + 1 + 1 + 1 + 1) (Ty.slc ae) []), (9, K.ptr (0 + 1 + 1 + 1 + 1 + 1 + 1 + 1) ab []), (10, K.ptr (0 + 1 + 1 + 1 + 1 + 1 + 1 + 1 + 1) ae []), (11, K.ptr (0 + 1 + 1 + 1 + 1 + 1 + 1 + 1 + 1 + 1) (Ty.slc ae) [])], rng := some 0 }]
noncomputable def g9 (v5 : den ae) (b1 : den ah) (b2 : den tId) (b3 : den ah) (b4 : den tId) (b5 : den ae) (b7 : den ab) (b8 : den ae) (b10 : List (den ae)) : Env := Env.of [(0, K.yld 0), (2, K.ptr (0 + 1) ah []), (3, K.ptr (0 + 1 + 1) tId []), (5, K.val ae v5)] [(0, Bx.lop LoopState.ready none [(7, K.ptr (0 + 1 + 1 + 1 + 1 + 1) ae []), (11, K.ptr (0 + 1 + 1 + 1 + 1 + 1 + 1 + 1 + 1 + 1) (Ty.slc ae) []), (8, K.ptr (0 + 1 + 1 + 1 + 1 + 1 + 1) (Ty.slc ae) []), (9, K.ptr (0 + 1 + 1 + 1 + 1 + 1 + 1 + 1) ab []), (10, K.ptr (0 + 1 + 1 + 1 + 1 + 1 + 1 + 1 + 1) ae [])] 73 (k9 bm 7) (dC bm 7) (fR bm 7)), (1, Bx.cell ah b1), (2, Bx.cell tId b2), (3, Bx.cell ah b3), (4, Bx.cell tId b4), (5, Bx.cell ae b5), (6, Bx.obj (Ty.slc ae) K.nilsl), (7, Bx.cell ab b7), (8, Bx.cell ae b8), (9, Bx.obj (Ty.slc ae) (K.sl (0 + 1 + 1 + 1 + 1 + 1 + 1 + 1 + 1 + 1 + 1) ae)), (10, Bx.row ae b10)]
noncomputable def ne (v5 : den ae) (b1 : den ah) (b2 : den tId) (b3 : den ah) (b4 : den tId) (b5 : den ae) (b7 : den ab) (b8 : den ae) (b10 : List (den ae)) : af := af.req (bo (Prod.fst b1) = true) (af.all (den (Ty.pair ay (Ty.pair Ty.bool Ty.unit))) (fun (q9 : den (Ty.pair ay (Ty.pair Ty.bool Ty.unit))) ↦ q9 = (Prod.fst (aI (Prod.fst b1) v5 b2), Prod.snd (aI (Prod.fst b1) v5 b2), PUnit.unit)) fun (q9 : den (Ty.pair ay (Ty.pair Ty.bool Ty.unit))) ↦ af.ite (!Prod.fst (Prod.snd q9)) (af.ret (K.val (Ty.pair (Ty.slc ae) (Ty.pair ab (Ty.pair ae Ty.unit))) ([], zero (Ty.pair ae (Ty.pair tId Ty.unit)), 10, PUnit.unit))) (af.ite (decide (b5 < lnx ae b10)) (af.ret (K.val (Ty.pair (Ty.slc ae) (Ty.pair ab (Ty.pair ae Ty.unit))) ([], zero (Ty.pair ae (Ty.pair tId Ty.unit)), 9, PUnit.unit))) (af.req (List.length (b10 ++ List.set (List.replicate 1 (zero ae)) 0 v5) ≤ bV) (af.ite (bif Prod.fst (Prod.snd (Prod.fst q9)) then decide (Prod.fst (Prod.fst (Prod.fst q9)) = v5) else false) (af.ret (K.val (Ty.pair (Ty.slc ae) (Ty.pair ab (Ty.pair ae Ty.unit))) (b10 ++ List.set (List.replicate 1 (zero ae)) 0 v5, Prod.fst (Prod.fst q9), 0, PUnit.unit))) (af.ite (Prod.fst (Prod.snd (Prod.fst q9))) (af.req (List.length (b10 ++ List.set (List.replicate 1 (zero ae)) 0 v5 ++ List.set (List.replicate 1 (zero ae)) 0 (Prod.fst (Prod.fst (Prod.fst q9)))) ≤ bV) (af.ret (K.val (Ty.pair (Ty.slc ae) (Ty.pair ab (Ty.pair ae Ty.unit))) (b10 ++ List.set (List.replicate 1 (zero ae)) 0 v5 ++ List.set (List.replicate 1 (zero ae)) 0 (Prod.fst (Prod.fst (Prod.fst q9))), Prod.fst (Prod.fst q9), 0, PUnit.unit)))) (af.ite (decide (Prod.fst (Prod.fst (Prod.fst q9)) = v5)) (af.ret (K.val (Ty.pair (Ty.slc ae) (Ty.pair ab (Ty.pair ae Ty.unit))) ([], zero (Ty.pair ae (Ty.pair tId Ty.unit)), 13, PUnit.unit))) (af.ite (bif Prod.fst (Prod.snd (Prod.fst q9)) then true else eqb ay (Prod.fst q9) ((v5, Prod.fst (Prod.snd (Prod.fst (Prod.fst q9))), zero Ty.unit), zero (Ty.pair Ty.bool Ty.unit))) (af.ret (K.val (Ty.pair (Ty.slc ae) (Ty.pair ab (Ty.pair ae Ty.unit))) ([], zero (Ty.pair ae (Ty.pair tId Ty.unit)), 10, PUnit.unit))) (af.loop [{ fx := fY, todo := cF bm 7, dst := none, s := ofS [(4, K.ptr (0 + 1 + 1 + 1) ah []), (6, K.ptr (0 + 1 + 1 + 1 + 1) tId []), (7, K.ptr (0 + 1 + 1 + 1 + 1 + 1) ae []), (8, K.ptr (0 + 1 + 1 + 1 + 1 + 1 + 1) (Ty.slc ae) []), (9, K.ptr (0 + 1 + 1 + 1 + 1 + 1 + 1 + 1) ab []), (10, K.ptr (0 + 1 + 1 + 1 + 1 + 1 + 1 + 1 + 1) ae []), (11, K.ptr (0 + 1 + 1 + 1 + 1 + 1 + 1 + 1 + 1 + 1) (Ty.slc ae) [])], rng := some 0 }] dB (lp da 1) [(0, K.yld 0), (2, K.ptr (0 + 1) ah []), (3, K.ptr (0 + 1 + 1) tId []), (5, K.val ae (Prod.fst (Prod.fst (Prod.fst q9))))] [(0, Bx.lop LoopState.ready none [(7, K.ptr (0 + 1 + 1 + 1 + 1 + 1) ae []), (11, K.ptr (0 + 1 + 1 + 1 + 1 + 1 + 1 + 1 + 1 + 1) (Ty.slc ae) []), (8, K.ptr (0 + 1 + 1 + 1 + 1 + 1 + 1) (Ty.slc ae) []), (9, K.ptr (0 + 1 + 1 + 1 + 1 + 1 + 1 + 1) ab []), (10, K.ptr (0 + 1 + 1 + 1 + 1 + 1 + 1 + 1 + 1) ae [])] 73 (k9 bm 7) (dC bm 7) (fR bm 7)), (0 + 1, Bx.cell ah b1), (0 + 1 + 1, Bx.cell tId b2), (0 + 1 + 1 + 1, Bx.cell ah b3), (0 + 1 + 1 + 1 + 1, Bx.cell tId b4), (0 + 1 + 1 + 1 + 1 + 1, Bx.cell ae b5), (0 + 1 + 1 + 1 + 1 + 1 + 1, Bx.obj (Ty.slc ae) K.nilsl), (0 + 1 + 1 + 1 + 1 + 1 + 1 + 1, Bx.cell ab b7), (0 + 1 + 1 + 1 + 1 + 1 + 1 + 1 + 1, Bx.cell ae b8), (0 + 1 + 1 + 1 + 1 + 1 + 1 + 1 + 1 + 1, Bx.obj (Ty.slc ae) (K.sl (0 + 1 + 1 + 1 + 1 + 1 + 1 + 1 + 1 + 1 + 1) ae)), (0 + 1 + 1 + 1 + 1 + 1 + 1 + 1 + 1 + 1 + 1, Bx.row ae (b10 ++ List.set (List.replicate 1 (zero ae)) 0 v5))]))))))))
theorem lT (v5 : den ae) (b1 : den ah) (b2 : den tId) (b3 : den ah) (b4 : den tId) (b5 : den ae) (b7 : den ab) (b8 : den ae) (b10 : List (den ae)) : aj iJ rl 5000 (g8 v5 b1 b2 b3 b4 b5 b7 b8 b10) dB (lp da 1) (g9 v5 b1 b2 b3 b4 b5 b7 b8 b10) = ne v5 b1 b2 b3 b4 b5 b7 b8 b10 := by kernel_rfl
end Go.Proofs.Ytimdnodkabnbfaa
namespace Go.Proofs.Ytimdnodkabnbfaa
open Go Go.RowKit
theorem FO {n : Nd} (h : aZ n = true) : (cg n).length ≤ 21 := by
 obtain ⟨l1, _, l3⟩ := Hq h
 have e : (cg n).length = 1 + n.2.2.1.length + n.2.2.2.1.length := by unfold cg; rw [List.length_append, List.length_append]; rfl
 omega
theorem sW {l : List Nd} {i : Nat} (hi : i < l.length) (h : ij l (i : Nat) = false) : bo l = false := by
 unfold bo
 rw [show (List.range l.length).all (fun i => ij l (i : Nat)) = false from List.all_eq_false.2 ⟨i, List.mem_range.2 hi, by rw [h]; decide⟩]
 rfl
theorem qm {l : List Nd} (h : bo l = true) {i : Nat} (hi : i < l.length) : ij l (i : Nat) = true := by
 cases hn : ij l (i : Nat) with
 | true => rfl
 | false => rw [sW hi hn] at h; cases h
theorem IJ {l : List Nd} {i : Nat} (hi : i < l.length) (h : ij l (i : Nat) = true) : aZ l[i] = true := by
 unfold ij xD at h
 rw [bS (e := ag) hi] at h
 cases hn : aZ l[i] with
 | true => rfl
 | false => rw [hn] at h; cases h
theorem mu {l : List Nd} (h : bo l = true) {n : Nd} (hn : n ∈ l) : aZ n = true := by
 obtain ⟨i, hi, rfl⟩ := List.getElem_of_mem hn
 exact IJ hi (qm h hi)
abbrev GCr (O : Nat → Prop) (w0 : World) (y : Bool) := bG prog iF (Cx.base O w0) (cG prog O w0 pK fun z => z = (y, ()))
theorem jF : XOk prog iF := G4 oR lM Gj zr tW
def Jg (O : Nat → Prop) (w0 : World) (o : Ov) (i : Nat) (z : Bool) (K : List Mem) (y : Bool) (hm : K.length ≤ maxLen) (hbad : (K.all fun m => !gM o.1 m) = false → y = false)
    (hnext : (K.all fun m => !gM o.1 m) = true → GCr O w0 y [] dw (lp bB 3) (oV (ai o.1) o.1 (lnx ag o.1) (IntKind.wrap .i64 (((i : Nat) : Int) + 1)) o z)) :=
  PLift.up <| bN (σ := Unit) K.length (fun j _ => ((K.take j).all fun m => !gM o.1 m) = true)
    (fun j _ => GCr O w0 y (fS (ai o.1) o.1 (lnx ag o.1) (i : Nat) K (lnx ab K) (j : Nat) o z) cX (lp be 1) (fU (ai o.1) o.1 (lnx ag o.1) (i : Nat) K (lnx ab K) (j : Nat) o z))
    (fun j _ hj hs ih => aM jF (eT _ _ _ _ K _ _ o z) (by
      refine ⟨fun _ => ⟨bf hj, trivial, bn ?_⟩, fun hc => absurd hj (by rw [cL] at hc; exact of_decide_eq_false hc)⟩
      rw [bS hj, cN hj hm]
      have key : ∀ c : Bool, (bif (bR o.1 K[j].1).2 then !eqb ab (bR o.1 K[j].1).1 K[j] else false) = c → gM o.1 K[j] = c := fun c h => by
        unfold gM; rw [kW] at h; exact h
      refine ⟨fun hc => ⟨_, rfl, ?_⟩, fun hc => ih () ?_⟩
      · have hk := key true hc
        have : (K.all fun m => !gM o.1 m) = false := List.all_eq_false.2 ⟨K[j], List.getElem_mem hj, by rw [hk]; decide⟩
        rw [hbad this]
      · have hk := key false hc
        rw [List.take_succ_eq_append_getElem hj, List.all_append, hs]
        simp [hk]))
    (fun _ hs => aM jF (eT _ _ _ _ K _ _ o z) ⟨fun hc => absurd (of_decide_eq_true hc) (Int.lt_irrefl _), fun _ => hnext (by rw [List.take_length] at hs; exact hs)⟩)
def Oh (O : Nat → Prop) (w0 : World) (o : Ov) (z : Bool) (hm : o.1.length ≤ 1000000) :=
 PLift.up <| bN (σ := Unit) o.1.length (fun i _ => ∀ j, j < i → ij o.1 (j : Nat) = true)
  (fun i _ => GCr O w0 (bo o.1) [] dw (lp bB 3) (oV (ai o.1) o.1 (lnx ag o.1) (i : Nat) o z))
  (fun i _ hi hs ih => aM jF (pv _ o.1 _ _ o z) (by
   have hw : i < 1000000 := Nat.lt_of_lt_of_le hi hm
   have hsm : IntKind.wrap .i64 (((i : Nat) : Int) - 1) = (i : Int) - 1 := cP (n := (i : Int) - 1) (by omega)
   refine ⟨fun _ => ⟨bf hi, trivial, fun _ h0 => ?_, bn ?_⟩, fun hc => absurd hi (by rw [cL (e := ag)] at hc; exact of_decide_eq_false hc)⟩
   ·have h0 : (0 : Int) < (i : Nat) := of_decide_eq_true h0
    rw [hsm]
    exact ⟨by omega, show (i : Int) - 1 < ((o.1.length : Nat) : Int) by omega⟩
   ·rw [hsm]
    have hb : ∀ c : Bool, (bif !aZ (el ag o.1 (i : Nat)) then true else bif decide ((0 : Int) < (i : Nat)) then decide ((el ag o.1 (i : Nat)).1.1 ≤ (el ag o.1 ((i : Nat) - 1)).1.1) else false) = c → xD o.1 (i : Nat) = c := fun c h => h
    refine ⟨fun hc => ⟨_, rfl, ?_⟩, fun hc => ?_⟩
    ·have := hb true hc
     rw [sW hi (by unfold ij; rw [this]; rfl)]
    ·have hbn := hb false hc
     have hr : aZ (el ag o.1 (i : Nat)) = true := by
      cases hn : aZ (el ag o.1 (i : Nat)) with
      | true => rfl
      | false => unfold xD at hbn; rw [hn] at hbn; cases hbn
     have hkl := FO hr
     have hok : ij o.1 (i : Nat) = (cg (el ag o.1 (i : Nat))).all fun m => !gM o.1 m := by
      unfold ij; rw [hbn]; rfl
     refine ⟨Nat.le_trans hkl (by decide), (Jg O w0 o i z (cg (el ag o.1 (i : Nat))) (bo o.1) (Nat.le_trans hkl (by decide)) (fun h => sW hi (by rw [hok]; exact h)) (fun h => ?_)).down 0 () (Nat.zero_le _) rfl⟩
     rw [cN hi (Nat.le_trans hm (by decide))]
     refine ih () fun j hj => ?_
     rcases Nat.lt_succ_iff_lt_or_eq.1 hj with h1 | h1
     ·exact hs j h1
     ·subst h1; rw [hok]; exact h))
  (fun _ hs => aM jF (pv _ o.1 _ _ o z) ⟨fun hc => absurd (of_decide_eq_true hc) (Int.lt_irrefl _), fun _ => ⟨trivial, bn ⟨_, rfl, by
   show (bv (ai o.1), ()) = (bo o.1, ())
   unfold bo
   rw [show (List.range o.1.length).all (fun i => ij o.1 (i : Nat)) = true from List.all_eq_true.2 fun i hi => hs i (List.mem_range.1 hi)]
   rfl⟩⟩⟩)
theorem rH : ap prog [] fC fB :=
 bL (S := fB) jF (fx := dw) EP (by kernel_rfl) (fun h => by cases h) (T := fun x => yA x.1) (fun x => Cu x.1) fun O w0 x _ hp =>
  ⟨hp, bn ((Oh O w0 x.1 (zero Ty.bool) hp).down 0 () (Nat.zero_le _) (fun j hj => absurd hj (Nat.not_lt_zero _)))⟩
theorem HC (p : Nd → Bool) : ∀ (l : List Nd) (i : Int), (l.find? p = none ∧ ixQ p l i = -1) ∨ ∃ k : Nat, ∃ h : k < l.length, ixQ p l i = i + (k : Int) ∧ l.find? p = some l[k]
 | [], _ => .inl ⟨rfl, rfl⟩
 | x :: l, i => by
  have e : ixQ p (x :: l) i = bif p x then i else ixQ p l (i + 1) := rfl
  cases hx : p x with
  | true => exact .inr ⟨0, by simp, by rw [e, hx]; simp, by rw [List.find?_cons, hx]; rfl⟩
  | false =>
   rw [e, hx, List.find?_cons, hx]
   rcases HC p l (i + 1) with ⟨h1, h2⟩ | ⟨k, hk, h1, h2⟩
   ·exact .inl ⟨h1, h2⟩
   ·exact .inr ⟨k + 1, by simp; omega, by show ixQ p l (i + 1) = _; rw [h1]; push_cast; omega, h2⟩
abbrev GAk (O : Nat → Prop) (w0 : World) (y : Ans) := bG prog kD (Cx.base O w0) (cG prog O w0 mE fun z => z = (y, true, ()))
theorem pW : XOk prog kD := Gm mT Dx Eg qT iE J9 JX Jm
def PB (O : Nat → Prop) (w0 : World) (o : Ov) (n : Nd) (id : List Int) (z : Ans) (hm : (cg n).length ≤ 1000) :=
 PLift.up <| bN (σ := List Int) (cg n).length (fun i b => b = (((cg n).take i).filter fun m => !fN o.1 m.1).map fun m => m.1)
  (fun i b => GAk O w0 (tL o.1 n id) [] fX (lp fA 7) (ul (cg n) (lnx ab (cg n)) (i : Nat) o id z n b))
  (fun i b hi hs ih => aM pW (py _ _ _ o id z n b) (by
   refine ⟨fun _ => ⟨bf hi, fun _ => trivial, ⟨_, rfl⟩, bn ?_⟩, fun hc => absurd hi (by rw [cL] at hc; exact of_decide_eq_false hc)⟩
   rw [bS hi, cN hi (Nat.le_trans hm (by decide))]
   refine ⟨fun hc => ⟨?_, ih _ ?_⟩, fun hc => ih _ ?_⟩
   ·have h1 := List.length_filter_le (fun m : Mem => !fN o.1 m.1) ((cg n).take i)
    rw [List.length_append, hs, List.length_map]
    rw [List.length_take] at h1
    exact Nat.le_trans (show _ + 1 ≤ 1001 by omega) (by decide)
   ·have hc : (!fN o.1 (cg n)[i].1) = true := hc
    rw [List.take_succ_eq_append_getElem hi, List.filter_append, List.map_append, ← hs, List.filter_cons_of_pos (p := fun m : Mem => !fN o.1 m.1) hc]
    rfl
   ·have hc : (!fN o.1 (cg n)[i].1) = false := hc
    rw [List.take_succ_eq_append_getElem hi, List.filter_append, List.map_append, ← hs, List.filter_cons_of_neg (p := fun m : Mem => !fN o.1 m.1) (by rw [hc]; decide)]
    simp))
  (fun b hs => aM pW (py _ _ _ o id z n b) (by
   refine ⟨fun hc => absurd (of_decide_eq_true hc) (Int.lt_irrefl _), fun _ => ⟨trivial, bn ⟨trivial, bn ?_⟩⟩⟩
   rw [List.take_length] at hs
   have hb : b = jw o.1 n := hs
   rw [hb]
   refine ⟨fun h => ⟨_, rfl, ?_⟩, fun h => ⟨trivial, bn ⟨_, rfl, ?_⟩⟩⟩
   all_goals
    show (_, _, _) = (tL o.1 n id, true, ())
    unfold tL oK
    rw [h]
    rfl))
theorem F6 {l : List Nd} {no : Int} {n : Nd} (id : List Int) (h : l.find? (fun n => decide (n.1.1 = no)) = some n) : aI l no id = (tL l n id, true) := by
 unfold aI; rw [h]
theorem Mu {l : List Nd} {no : Int} (id : List Int) (h : l.find? (fun n => decide (n.1.1 = no)) = none) : aI l no id = (zero ay, false) := by
 unfold aI; rw [h]
theorem Gi : ap prog [] nL nM :=
 bL (S := nM) pW (fx := fX) EH (by kernel_rfl) (fun h => by cases h) (T := fun x => yx x.1 x.2.1 x.2.2.1) (fun x => Cy x.1 x.2.1 x.2.2.1) fun O w0 x _ hp => by
  obtain ⟨o, no, id, ⟨⟩⟩ := x
  have hp : bo o.1 = true := hp
  refine ⟨fun _ => trivial, ⟨_, rfl⟩, bn ?_⟩
  have e : prQ (some fun (y : den (Ty.pair ag Ty.unit)) => (decide (y.1.1.1 = no), PUnit.unit)) = fun n => decide (n.1.1 = no) := rfl
  rw [e]
  rcases HC (fun n => decide (n.1.1 = no)) o.1 0 with ⟨h1, h2⟩ | ⟨k, hk, h1, h2⟩
  ·rw [h2]
   refine ⟨fun _ => ⟨_, rfl, ?_⟩, fun hc => (by cases hc)⟩
   show (_, _, _) = ((aI o.1 no id).1, (aI o.1 no id).2, ())
   rw [Mu id h1]
   rfl
  ·rw [h1]
   have e0 : (0 : Int) + (k : Int) = (k : Nat) := by omega
   rw [e0]
   refine ⟨fun hc => ?_, fun _ => ⟨bf hk, ?_⟩⟩
   ·have hc : ((k : Nat) : Int) < 0 := of_decide_eq_true hc
    omega
   ·rw [bS (e := ag) hk]
    have hkl := FO (mu hp (List.getElem_mem hk))
    have hf : List.flatten (List.set (List.set (List.set (List.replicate 3 (zero (Ty.slc ab))) 0 (List.set (List.replicate 1 (zero ab)) 0 o.1[k].2.1)) 1 o.1[k].2.2.1) 2 o.1[k].2.2.2.1) = cg o.1[k] := OD _ _ _ _
    rw [hf]
    refine ⟨Nat.le_trans hkl (by decide), bn ?_⟩
    show bG _ _ _ (cG prog O w0 mE fun z => z = ((aI o.1 no id).1, (aI o.1 no id).2, ())) _ _ _ _
    rw [F6 id h2]
    exact (PB O w0 o o.1[k] id (zero ay) (Nat.le_trans hkl (by decide))).down 0 [] (Nat.zero_le _) rfl
theorem CA (l : List Nd) (id : List Int) (n : Nat) (path : List Int) (no : Int) : dD l id n path no = bif !(aI l no id).2 then ([], zero ab, 10) else
    match n with
    | 0 => ([], zero ab, 9)
    | n + 1 => bif (aI l no id).1.2.1 then (bif decide ((aI l no id).1.1.1 = no) then (path ++ [no], (aI l no id).1.1, 0) else (path ++ [no] ++ [(aI l no id).1.1.1], (aI l no id).1.1, 0))
      else bif decide ((aI l no id).1.1.1 = no) then ([], zero ab, 13) else dD l id n (path ++ [no]) (aI l no id).1.1.1 := by
  cases n <;> rfl
abbrev GWa (O : Nat → Prop) (w0 : World) (y : WR) := bG prog iJ (Cx.base O w0) (cG prog O w0 eU fun z => z = (y.1, y.2.1, y.2.2, ()))
theorem pZ : XOk prog iJ := GT rH Gi
theorem Kw (O : Nat → Prop) (w0 : World) (o : Ov) (id : List Int) (hops : Int) (z : Mem) (z' : Int) (hr : bo o.1 = true) (hh : hops ≤ 16) : ∀ (n : Nat) (path : List Int) (no : Int), ((path.length : Nat) : Int) + n = hops + 1 →
    GWa O w0 (dD o.1 id n path no) (g8 no o id o id hops z z' path) dB (lp da 1) (g9 no o id o id hops z z' path)
  | n, path, no, hn => aM pZ (lT no o id o id hops z z' path) (by
    have e := CA o.1 id n path no
    have leaf : ∀ {p : WR}, dD o.1 id n path no = p → ∃ q, bt eU (K.val (Ty.pair (Ty.slc ae) (Ty.pair ab (Ty.pair ae Ty.unit))) (p.1, p.2.1, p.2.2, PUnit.unit)) = some q ∧ q = ((dD o.1 id n path no).1, (dD o.1 id n path no).2.1, (dD o.1 id n path no).2.2, ()) := fun {p} e =>
      ⟨_, rfl, by rw [e]⟩
    have hl : path.length ≤ 17 := by omega
    refine ⟨hr, bn ⟨fun h1 => leaf (p := (_, _, _)) ?_, fun h1 => ⟨fun h2 => leaf (p := (_, _, _)) ?_, fun h2 => ⟨?_, fun h3 => leaf (p := (_, _, _)) ?_, fun h3 => ⟨fun h4 => ⟨?_, leaf (p := (_, _, _)) ?_⟩, fun h4 => ⟨fun h5 => leaf (p := (_, _, _)) ?_, fun h5 => ⟨fun h6 => ?_, fun h6 => ?_⟩⟩⟩⟩⟩⟩⟩
    · rw [e, h1]; rfl
    · have h2 : hops < ((path.length : Nat) : Int) := of_decide_eq_true h2
      have : n = 0 := by omega
      subst this
      rw [e, h1]; rfl
    · rw [List.length_append]
      exact Nat.le_trans (show path.length + 1 ≤ 18 by omega) (by decide)
    all_goals
      have h2 : ¬ hops < ((path.length : Nat) : Int) := of_decide_eq_false h2
      obtain ⟨n, rfl⟩ : ∃ m, n = m + 1 := ⟨n - 1, by omega⟩
      rw [h1] at e
    · have h3' : (aI o.1 no id).1.2.1 = true ∧ decide ((aI o.1 no id).1.1.1 = no) = true := by
        have h3 : (bif (aI o.1 no id).1.2.1 then decide ((aI o.1 no id).1.1.1 = no) else false) = true := h3
        cases hq : (aI o.1 no id).1.2.1 <;> rw [hq] at h3
        · cases h3
        · exact ⟨rfl, h3⟩
      rw [e, h3'.1, h3'.2]; rfl
    · rw [List.length_append, List.length_append]
      exact Nat.le_trans (show path.length + 1 + 1 ≤ 19 by omega) (by decide)
    · have h4 : (aI o.1 no id).1.2.1 = true := h4
      have h3' : decide ((aI o.1 no id).1.1.1 = no) = false := by
        have h3 : (bif (aI o.1 no id).1.2.1 then decide ((aI o.1 no id).1.1.1 = no) else false) = false := h3
        rw [h4] at h3; exact h3
      rw [e, h4, h3']; rfl
    · have h4 : (aI o.1 no id).1.2.1 = false := h4
      have h5 : decide ((aI o.1 no id).1.1.1 = no) = true := h5
      rw [e, h4, h5]; rfl
    · have h4 : (aI o.1 no id).1.2.1 = false := h4
      have h5 : decide ((aI o.1 no id).1.1.1 = no) = false := h5
      have h6 : (bif (aI o.1 no id).1.2.1 then true else eqb ay (aI o.1 no id).1 ((no, (aI o.1 no id).1.1.2.1, ()), zero (Ty.pair Ty.bool Ty.unit))) = true := h6
      rw [h4] at h6
      have h6 := (n8 (t := ay) (by decide) _ _).1 h6
      have h6 : (aI o.1 no id).1.1.1 = no := congrArg (fun a : Ans => a.1.1) h6
      exact absurd h6 (of_decide_eq_false h5)
    · have h4 : (aI o.1 no id).1.2.1 = false := h4
      have h5 : decide ((aI o.1 no id).1.1.1 = no) = false := h5
      have e' : dD o.1 id (n + 1) path no = dD o.1 id n (path ++ [no]) (aI o.1 no id).1.1.1 := by rw [e, h4, h5]; rfl
      show bG _ _ _ (cG prog O w0 eU fun z => z = ((dD o.1 id (n + 1) path no).1, (dD o.1 id (n + 1) path no).2.1, (dD o.1 id (n + 1) path no).2.2, ())) _ _ _ _
      rw [e']
      exact Kw O w0 o id hops z z' hr hh n (path ++ [no]) _ (by rw [List.length_append]; simp; omega))
theorem Pe (O : Nat → Prop) (w0 : World) (o : Ov) (id : List Int) (hops : Int) (z : Mem) (z' : Int) (hr : bo o.1 = true) (h0 : 0 ≤ hops) (hh : hops ≤ 16) (no : Int) :
    GWa O w0 (dD o.1 id (hops.toNat + 1) [] no) (iX no o id o id hops z z') dB (lp da 1) (i7 no o id o id hops z z') :=
  aM pZ (mY no o id o id hops z z') (by
    have e := CA o.1 id (hops.toNat + 1) [] no
    have leaf : ∀ {p : WR}, dD o.1 id (hops.toNat + 1) [] no = p → ∃ q, bt eU (K.val (Ty.pair (Ty.slc ae) (Ty.pair ab (Ty.pair ae Ty.unit))) (p.1, p.2.1, p.2.2, PUnit.unit)) = some q ∧ q = ((dD o.1 id (hops.toNat + 1) [] no).1, (dD o.1 id (hops.toNat + 1) [] no).2.1, (dD o.1 id (hops.toNat + 1) [] no).2.2, ()) := fun {p} e =>
      ⟨_, rfl, by rw [e]⟩
    refine ⟨hr, bn ⟨fun h1 => leaf (p := (_, _, _)) ?_, fun h1 => ⟨fun h2 => ?_, fun h2 => ⟨(show 1 ≤ bV by decide), fun h3 => leaf (p := (_, _, _)) ?_, fun h3 => ⟨fun h4 => ⟨(show 2 ≤ bV by decide), leaf (p := (_, _, _)) ?_⟩, fun h4 => ⟨fun h5 => leaf (p := (_, _, _)) ?_, fun h5 => ⟨fun h6 => ?_, fun h6 => ?_⟩⟩⟩⟩⟩⟩⟩
    · rw [e, h1]; rfl
    · have h2 : hops < 0 := of_decide_eq_true h2
      omega
    all_goals rw [h1] at e
    · have h3' : (aI o.1 no id).1.2.1 = true ∧ decide ((aI o.1 no id).1.1.1 = no) = true := by
        have h3 : (bif (aI o.1 no id).1.2.1 then decide ((aI o.1 no id).1.1.1 = no) else false) = true := h3
        cases hq : (aI o.1 no id).1.2.1 <;> rw [hq] at h3
        · cases h3
        · exact ⟨rfl, h3⟩
      rw [e, h3'.1, h3'.2]; rfl
    · have h4 : (aI o.1 no id).1.2.1 = true := h4
      have h3' : decide ((aI o.1 no id).1.1.1 = no) = false := by
        have h3 : (bif (aI o.1 no id).1.2.1 then decide ((aI o.1 no id).1.1.1 = no) else false) = false := h3
        rw [h4] at h3; exact h3
      rw [e, h4, h3']; rfl
    · have h4 : (aI o.1 no id).1.2.1 = false := h4
      have h5 : decide ((aI o.1 no id).1.1.1 = no) = true := h5
      rw [e, h4, h5]; rfl
    · have h4 : (aI o.1 no id).1.2.1 = false := h4
      have h5 : decide ((aI o.1 no id).1.1.1 = no) = false := h5
      have h6 : (bif (aI o.1 no id).1.2.1 then true else eqb ay (aI o.1 no id).1 ((no, (aI o.1 no id).1.1.2.1, ()), zero (Ty.pair Ty.bool Ty.unit))) = true := h6
      rw [h4] at h6
      have h6 := (n8 (t := ay) (by decide) _ _).1 h6
      have h6 : (aI o.1 no id).1.1.1 = no := congrArg (fun a : Ans => a.1.1) h6
      exact absurd h6 (of_decide_eq_false h5)
    · have h4 : (aI o.1 no id).1.2.1 = false := h4
      have h5 : decide ((aI o.1 no id).1.1.1 = no) = false := h5
      have e' : dD o.1 id (hops.toNat + 1) [] no = dD o.1 id hops.toNat ([] ++ [no]) (aI o.1 no id).1.1.1 := by rw [e, h4, h5]; rfl
      show bG _ _ _ (cG prog O w0 eU fun z => z = ((dD o.1 id (hops.toNat + 1) [] no).1, (dD o.1 id (hops.toNat + 1) [] no).2.1, (dD o.1 id (hops.toNat + 1) [] no).2.2, ())) _ _ _ _
      rw [e']
      exact Kw O w0 o id hops z z' hr hh hops.toNat ([] ++ [no]) _ (by show ((1 : Nat) : Int) + _ = _; omega))
theorem yT : ap prog [] iL iK :=
 bL (S := iK) pZ (fx := fY) E6 (by kernel_rfl) (fun h => by cases h) (T := fun x => yH x.1 x.2.1 x.2.2.1 x.2.2.2.1) (fun x => CE x.1 x.2.1 x.2.2.1 x.2.2.2.1) fun O w0 x _ hp => by
  obtain ⟨o, no, id, hops, ⟨⟩⟩ := x
  have e : ∀ c : Bool, (bif (bif !bo o.1 then true else decide ((hops : Int) < 0)) then true else decide ((16 : Int) < hops)) = c → cp o.1 no id hops = bif c then ([], zero ab, 1) else dD o.1 id ((hops : Int).toNat + 1) [] no := fun c h => by
   unfold cp; rw [h]
  refine ⟨hp, bn ⟨fun h => ⟨_, rfl, ?_⟩, fun h => ?_⟩⟩
  ·show _ = ((cp o.1 no id hops).1, (cp o.1 no id hops).2.1, (cp o.1 no id hops).2.2, ())
   rw [e true h]; rfl
  ·show bG _ _ _ (cG prog O w0 eU fun z => z = ((cp o.1 no id hops).1, (cp o.1 no id hops).2.1, (cp o.1 no id hops).2.2, ())) _ _ _ _
   rw [e false h]
   have h : (bif (bif !bo o.1 then true else decide ((hops : Int) < 0)) then true else decide ((16 : Int) < hops)) = false := h
   have h1 : bo o.1 = true := by
    cases hq : bo o.1 <;> rw [hq] at h
    cases h
   rw [h1] at h
   have h2 : decide ((hops : Int) < 0) = false := by
    cases hq : decide ((hops : Int) < 0) <;> rw [hq] at h
    cases h
   rw [h2] at h
   exact Pe O w0 o id hops (zero ab) (zero ae) h1 (Int.not_lt.1 (of_decide_eq_false h2)) (Int.not_lt.1 (of_decide_eq_false h)) no
end Go.Proofs.Ytimdnodkabnbfaa
namespace Go.Proofs.Ytimdnodkabnbfaa
open Go Go.RowKit
def NT (n : Nd) : Nd := (n.1, n.2.1, n.2.2.1.take 6, n.2.2.2.1.take 18, ())
def xl (l : List Nd) : List Nd := (l.take 18).map NT
noncomputable abbrev uZ : bq := ⟨Eh, xH, fun x => ((xl x.1.1, ()), ()), fun _ => True, true⟩
noncomputable abbrev qc : bq := ⟨zt, zE, fun _ => (true, ()), fun _ => True, true⟩
end Go.Proofs.Ytimdnodkabnbfaa
namespace Go.Proofs.Ytimdnodkabnbfaa
open Go Go.RowKit
noncomputable abbrev mI : Fx := { fn := lW, ann := { loops := [(3, { keep := [2, 3, 12, 13, 14], own := [(3, (.mp (.arr 0 .bool) ag))] })], frz := [(8, [1003, 100003])] }, own := [3] }
noncomputable abbrev ux : a8 := { D := { T := bg, F := [], R := [], ovl := [] }, inl := [] }
noncomputable abbrev FT : bu := .data xH
theorem Av : XOk prog ux := xok ((aL aS aE)) (by kernel_rfl) aN aW aV
noncomputable def F8 (o : den ah) : af := af.req (bQ 0 (cO (lnx ag (Prod.fst o)) 18) (lnx ag (Prod.fst o))) (af.loop [] mI (lp lW 3) [(2, K.ptr 0 ah []), (3, K.ptr (0 + 1) ah []), (12, K.val (Ty.slc ag) (dS ag (Prod.fst o) 0 (cO (lnx ag (Prod.fst o)) 18))), (13, K.val ae (lnx ag (dS ag (Prod.fst o) 0 (cO (lnx ag (Prod.fst o)) 18)))), (14, K.val ae 0)] [(0, Bx.cell ah (zero ah)), (0 + 1, Bx.obj ah (K.agg (Ty.pair (Ty.slc ag) Ty.unit) (K.kcons (K.sl (0 + 1 + 1) ag) K.knil))), (0 + 1 + 1, Bx.row ag [])])
theorem HJ (o : den ah) : aj ux FT 5000 [] mI (aA lW) (Env.of (aF Eh (o, ()) 0) []) = F8 o := by kernel_rfl
noncomputable def BL (v12 : den (Ty.slc ag)) (v13 : den ae) (v14 : den ae) (b0 : den ah) (b2 : List (den ag)) : Env := Env.of [(2, K.ptr 0 ah []), (3, K.ptr (0 + 1) ah []), (12, K.val (Ty.slc ag) v12), (13, K.val ae v13), (14, K.val ae v14)] [(0, Bx.cell ah b0), (1, Bx.obj ah (K.agg (Ty.pair (Ty.slc ag) Ty.unit) (K.kcons (K.sl (0 + 1 + 1) ag) K.knil))), (2, Bx.row ag b2)]
noncomputable def IA (v12 : den (Ty.slc ag)) (v13 : den ae) (v14 : den ae) (b0 : den ah) (b2 : List (den ag)) : af := af.ite (decide (v14 < v13)) (af.req (inB v14 (lnx ag v12)) (af.req (bQ 0 (cO (lnx ab (Prod.fst (Prod.snd (Prod.snd (el ag v12 v14))))) 6) (lnx ab (Prod.fst (Prod.snd (Prod.snd (el ag v12 v14)))))) (af.req (bQ 0 (cO (lnx ab (Prod.fst (Prod.snd (Prod.snd (Prod.snd (el ag v12 v14)))))) 18) (lnx ab (Prod.fst (Prod.snd (Prod.snd (Prod.snd (el ag v12 v14))))))) (af.req (List.length (b2 ++ List.set (List.replicate 1 (zero ag)) 0 (Prod.fst (el ag v12 v14), Prod.fst (Prod.snd (el ag v12 v14)), dS ab (Prod.fst (Prod.snd (Prod.snd (el ag v12 v14)))) 0 (cO (lnx ab (Prod.fst (Prod.snd (Prod.snd (el ag v12 v14))))) 6), dS ab (Prod.fst (Prod.snd (Prod.snd (Prod.snd (el ag v12 v14))))) 0 (cO (lnx ab (Prod.fst (Prod.snd (Prod.snd (Prod.snd (el ag v12 v14)))))) 18), Prod.snd (Prod.snd (Prod.snd (Prod.snd (el ag v12 v14)))))) ≤ bV) (af.loop [] mI (lp lW 3) [(2, K.ptr 0 ah []), (3, K.ptr (0 + 1) ah []), (12, K.val (Ty.slc ag) v12), (13, K.val ae v13), (14, K.val ae (IntKind.wrap IntKind.i64 (v14 + 1)))] [(0, Bx.cell ah b0), (0 + 1, Bx.obj ah (K.agg (Ty.pair (Ty.slc ag) Ty.unit) (K.kcons (K.sl (0 + 1 + 1) ag) K.knil))), (0 + 1 + 1, Bx.row ag (b2 ++ List.set (List.replicate 1 (zero ag)) 0 (Prod.fst (el ag v12 v14), Prod.fst (Prod.snd (el ag v12 v14)), dS ab (Prod.fst (Prod.snd (Prod.snd (el ag v12 v14)))) 0 (cO (lnx ab (Prod.fst (Prod.snd (Prod.snd (el ag v12 v14))))) 6), dS ab (Prod.fst (Prod.snd (Prod.snd (Prod.snd (el ag v12 v14))))) 0 (cO (lnx ab (Prod.fst (Prod.snd (Prod.snd (Prod.snd (el ag v12 v14)))))) 18), Prod.snd (Prod.snd (Prod.snd (Prod.snd (el ag v12 v14)))))))]))))) (af.ret (K.val (Ty.pair ah Ty.unit) ((b2, PUnit.unit), PUnit.unit)))
theorem uW (v12 : den (Ty.slc ag)) (v13 : den ae) (v14 : den ae) (b0 : den ah) (b2 : List (den ag)) : aj ux FT 5000 [] mI (lp lW 3) (BL v12 v13 v14 b0 b2) = IA v12 v13 v14 b0 b2 := by kernel_rfl
noncomputable abbrev zB : Fx := { fn := vz, ann := { }, share := true }
noncomputable abbrev BB : a8 := { D := { T := bg, F := [(iL, iK)], R := [], ovl := [] }, inl := [] }
noncomputable abbrev JD : bu := .data zE
theorem JG (h_lookup_Walk : ap prog [] iL iK) : XOk prog BB := xok (an (aL aS aE) h_lookup_Walk) (by kernel_rfl) aN aW aV
noncomputable def Bt : af := af.req (List.length (List.set (List.replicate 1 (zero ag)) 0 ((3, zero (Ty.pair tId Ty.unit)), (-1, zero (Ty.pair tId Ty.unit)), List.set (List.replicate 1 (zero ab)) 0 (3, zero (Ty.pair tId Ty.unit)), zero (Ty.pair (Ty.slc ab) Ty.unit))) ≤ 1000000) (af.all (den (Ty.pair (Ty.slc ae) (Ty.pair ab (Ty.pair ae Ty.unit)))) (fun (q0 : den (Ty.pair (Ty.slc ae) (Ty.pair ab (Ty.pair ae Ty.unit)))) ↦ q0 = (Prod.fst (cp (List.set (List.replicate 1 (zero ag)) 0 ((3, zero (Ty.pair tId Ty.unit)), (-1, zero (Ty.pair tId Ty.unit)), List.set (List.replicate 1 (zero ab)) 0 (3, zero (Ty.pair tId Ty.unit)), zero (Ty.pair (Ty.slc ab) Ty.unit))) 3 (List.set (List.replicate 32 (zero (Ty.int IntKind.u8))) 31 7) 0), Prod.fst (Prod.snd (cp (List.set (List.replicate 1 (zero ag)) 0 ((3, zero (Ty.pair tId Ty.unit)), (-1, zero (Ty.pair tId Ty.unit)), List.set (List.replicate 1 (zero ab)) 0 (3, zero (Ty.pair tId Ty.unit)), zero (Ty.pair (Ty.slc ab) Ty.unit))) 3 (List.set (List.replicate 32 (zero (Ty.int IntKind.u8))) 31 7) 0)), Prod.snd (Prod.snd (cp (List.set (List.replicate 1 (zero ag)) 0 ((3, zero (Ty.pair tId Ty.unit)), (-1, zero (Ty.pair tId Ty.unit)), List.set (List.replicate 1 (zero ab)) 0 (3, zero (Ty.pair tId Ty.unit)), zero (Ty.pair (Ty.slc ab) Ty.unit))) 3 (List.set (List.replicate 32 (zero (Ty.int IntKind.u8))) 31 7) 0)), PUnit.unit)) fun (q0 : den (Ty.pair (Ty.slc ae) (Ty.pair ab (Ty.pair ae Ty.unit)))) ↦ af.req (dV [(bif bif decide (Prod.fst (Prod.snd (Prod.snd q0)) = 0) then eqb ab (Prod.fst (Prod.snd q0)) (3, zero (Ty.pair tId Ty.unit)) else false then decide (lnx ae (Prod.fst q0) = 1) else false, true)] (inB 0 (lnx ae (Prod.fst q0)))) (af.ret (K.val (Ty.pair Ty.bool Ty.unit) (bif bif bif decide (Prod.fst (Prod.snd (Prod.snd q0)) = 0) then eqb ab (Prod.fst (Prod.snd q0)) (3, zero (Ty.pair tId Ty.unit)) else false then decide (lnx ae (Prod.fst q0) = 1) else false then decide (el ae (Prod.fst q0) 0 = 3) else false, PUnit.unit))))
theorem EZ : aj BB JD 5000 [] zB (aA vz) (Env.of (aF zt () 0) []) = Bt := by kernel_rfl
end Go.Proofs.Ytimdnodkabnbfaa
namespace Go.Proofs.Ytimdnodkabnbfaa
open Go Go.RowKit
theorem Hw (no : Int) : ∀ (l pre : List Mem), EN no pre l = true ↔ (∀ m ∈ l, dY m = true ∧ m.1 ≠ no ∧ ∀ x ∈ pre, x.1 ≠ m.1) ∧ (l.map fun m => m.1).Nodup
 | [], pre => ⟨fun _ => ⟨fun _ h => (by cases h), List.nodup_nil⟩, fun _ => rfl⟩
 | m :: l, pre => by
  rw [Ge]
  have ih := Hw no l (pre ++ [m])
  constructor
  ·intro h
   have h1 : dY m = true := by
    cases hq : dY m with
    | true => rfl
    | false => rw [hq] at h; cases h
   have h2 : decide (m.1 = no) = false := by
    cases hq : decide (m.1 = no) with
    | false => rfl
    | true => rw [h1, hq] at h; cases h
   have h3 : (pre.any fun x => decide (x.1 = m.1)) = false := by
    cases hq : (pre.any fun x => decide (x.1 = m.1)) with
    | false => rfl
    | true => rw [h1, h2, hq] at h; cases h
   rw [h1, h2, h3] at h
   obtain ⟨a1, a2⟩ := ih.1 h
   have h3' : ∀ x ∈ pre, x.1 ≠ m.1 := fun x hx e => by
    have := List.any_eq_false.1 h3 x hx
    exact this (decide_eq_true e)
   refine ⟨fun q hq => ?_, ?_⟩
   ·rcases List.mem_cons.1 hq with rfl | hq
    ·exact ⟨h1, of_decide_eq_false h2, h3'⟩
    ·obtain ⟨b1, b2, b3⟩ := a1 q hq
     exact ⟨b1, b2, fun x hx => b3 x (List.mem_append_left _ hx)⟩
   ·rw [List.map_cons, List.nodup_cons]
    refine ⟨fun hm => ?_, a2⟩
    obtain ⟨q, hq, e⟩ := List.mem_map.1 hm
    exact (a1 q hq).2.2 m (List.mem_append_right _ (List.mem_singleton.2 rfl)) e.symm
  ·rintro ⟨a1, a2⟩
   obtain ⟨b1, b2, b3⟩ := a1 m List.mem_cons_self
   rw [List.map_cons, List.nodup_cons] at a2
   have h3 : (pre.any fun x => decide (x.1 = m.1)) = false := List.any_eq_false.2 fun x hx => by
    have := b3 x hx
    simpa using this
   rw [b1, decide_eq_false b2, h3]
   refine ih.2 ⟨fun q hq => ?_, a2.2⟩
   obtain ⟨c1, c2, c3⟩ := a1 q (List.mem_cons_of_mem _ hq)
   refine ⟨c1, c2, fun x hx => ?_⟩
   rcases List.mem_append.1 hx with hx | hx
   ·exact c3 x hx
   ·rw [List.mem_singleton.1 hx]
    exact fun e => a2.1 (List.mem_map.2 ⟨q, hq, e.symm⟩)
theorem xT (l : List Mem) (no : Int) : eK l no = true ↔ (∀ m ∈ l, dY m = true ∧ m.1 ≠ no) ∧ (l.map fun m => m.1).Nodup := by
 unfold eK
 rw [Hw]
 constructor
 ·rintro ⟨h1, h2⟩; exact ⟨fun m hm => ⟨(h1 m hm).1, (h1 m hm).2.1⟩, h2⟩
 ·rintro ⟨h1, h2⟩; exact ⟨fun m hm => ⟨(h1 m hm).1, (h1 m hm).2, fun _ h => (by cases h)⟩, h2⟩
theorem Dh {l l' : List Mem} {no : Int} (h : eK l no = true) (hs : l'.Sublist l) : eK l' no = true := by
 rw [xT] at h ⊢
 exact ⟨fun m hm => h.1 m (hs.subset hm), h.2.sublist (hs.map _)⟩
structure NOk (n : Nd) : Prop where
 self : dY n.1 = true
 pred : n.2.1 = noM ∨ (dY n.2.1 = true ∧ n.2.1.1 ≠ n.1.1)
 one : 1 ≤ n.2.2.1.length
 four : n.2.2.1.length ≤ 4
 succs : n.2.2.1 = [n.1] ∨ eK n.2.2.1 n.1.1 = true
 many : n.2.2.2.1.length ≤ 16
 fing : eK n.2.2.2.1 n.1.1 = true
theorem sE (n : Nd) : aZ n = true ↔ NOk n := by
 have e1 : lnx ab n.2.2.1 = ((n.2.2.1.length : Nat) : Int) := rfl
 have e2 : lnx ab n.2.2.2.1 = ((n.2.2.2.1.length : Nat) : Int) := rfl
 have ep : zu n = true ↔ (n.2.1 = noM ∨ (dY n.2.1 = true ∧ n.2.1.1 ≠ n.1.1)) := by
  unfold zu
  by_cases h : n.2.1 = noM
  ·simp [h]
  ·rw [decide_eq_false h]
   cases hm : dY n.2.1
   ·simp [h]
   ·simp [h]
 have es : wc n = true ↔ (1 ≤ n.2.2.1.length ∧ n.2.2.1.length ≤ 4 ∧ (n.2.2.1 = [n.1] ∨ eK n.2.2.1 n.1.1 = true)) := by
  unfold wc
  rw [e1]
  by_cases h1 : 1 ≤ n.2.2.1.length
  ·rw [decide_eq_true (show (1 : Int) ≤ ((n.2.2.1.length : Nat) : Int) by omega)]
   by_cases h2 : n.2.2.1.length ≤ 4
   ·rw [decide_eq_true (show ((n.2.2.1.length : Nat) : Int) ≤ 4 by omega)]
    by_cases h3 : n.2.2.1 = [n.1]
    ·rw [decide_eq_true h3]; simp [h1, h2, h3]
    ·rw [decide_eq_false h3]; simp [h1, h2, h3]
   ·rw [decide_eq_false (show ¬ ((n.2.2.1.length : Nat) : Int) ≤ 4 by omega)]; simp [h2]
  ·rw [decide_eq_false (show ¬ (1 : Int) ≤ ((n.2.2.1.length : Nat) : Int) by omega)]; simp [h1]
 unfold aZ
 rw [e2]
 constructor
 ·intro h
  cases h1 : dY n.1 <;> rw [h1] at h
  ·cases h
  cases h2 : zu n <;> rw [h2] at h
  ·cases h
  cases h3 : wc n <;> rw [h3] at h
  ·cases h
  cases h4 : decide (((n.2.2.2.1.length : Nat) : Int) ≤ 16) <;> rw [h4] at h
  ·cases h
  obtain ⟨s1, s2, s3⟩ := es.1 h3
  exact ⟨h1, ep.1 h2, s1, s2, s3, by have := of_decide_eq_true h4; omega, h⟩
 ·intro h
  rw [h.self, ep.2 h.pred, es.2 ⟨h.one, h.four, h.succs⟩, decide_eq_true (show ((n.2.2.2.1.length : Nat) : Int) ≤ 16 by have := h.many; omega)]
  exact h.fing
theorem C4 (n : Nd) (m : Mem) (l : List Mem) : u5 n (m :: l) = m :: l := by
 unfold u5
 rw [decide_eq_false (show ¬ lnx ab (m :: l) = 0 from fun h => by have h : (((m :: l).length : Nat) : Int) = 0 := h; simp at h; omega)]
 rfl
theorem Mg (no : Int) (nos : List Int) {m : Mem} (h : m.1 = no) : bF no nos m = false := by
 unfold bF; rw [decide_eq_true h]; rfl
theorem OW {n : Nd} (h : NOk n) (nos : List Int) : NOk (nN n nos) := by
  have hf : (n.2.2.1.filter fun m => !bF n.1.1 nos m).length ≤ 4 := Nat.le_trans (List.length_filter_le _ _) h.four
  refine ⟨h.self, ?_, ?_, ?_, ?_, Nat.le_trans (List.length_filter_le _ _) h.many, Dh h.fing List.filter_sublist⟩
  · show (bif _ then noM else n.2.1) = noM ∨ (dY (bif _ then noM else n.2.1) = true ∧ (bif _ then noM else n.2.1).1 ≠ n.1.1)
    cases (bif !decide (n.2.1 = noM) then bF n.1.1 nos n.2.1 else false)
    · exact h.pred
    · exact .inl rfl
  all_goals
    show _
    simp only [nN]
    cases hq : (n.2.2.1.filter fun m => !bF n.1.1 nos m) with
    | nil => first | exact Nat.le_refl _ | exact (by decide : 1 ≤ 4) | exact .inl rfl
    | cons m l =>
      rw [C4, ← hq]
      first
      | (rw [hq]; exact Nat.succ_le_succ (Nat.zero_le _))
      | exact hf
      | (rcases h.succs with hs | hs
         · left
           rw [hs, List.filter_cons_of_pos (p := fun m : Mem => !bF n.1.1 nos m) (by rw [Mg n.1.1 nos rfl]; rfl)]
           rfl
         · right
           exact Dh hs List.filter_sublist)
theorem HU {l : List Nd} {n : Nd} (h : n ∈ l) : fN l n.1.1 = true := List.any_eq_true.2 ⟨n, h, decide_eq_true rfl⟩
theorem Pu {l : List Nd} {n : Nd} (h : aZ n = true) : oK l n = nN n (jw l n) := by
 unfold oK g6; rw [h]; rfl
theorem MN {l : List Nd} {n : Nd} (hn : n ∈ l) {m : Mem} (hk : m ∈ cg n) (h : bF n.1.1 (jw l n) m = false) : fN l m.1 = true := by
 cases hl : fN l m.1 with
 | true => rfl
 | false =>
  exfalso
  have hd : m.1 ∈ jw l n := List.mem_map.2 ⟨m, List.mem_filter.2 ⟨hk, by rw [hl]; rfl⟩, rfl⟩
  by_cases he : m.1 = n.1.1
  ·rw [he, HU hn] at hl; cases hl
  ·unfold bF at h
   rw [decide_eq_false he] at h
   have h : ((jw l n).any fun x => decide (x = m.1)) = false := h
   exact (List.any_eq_false.1 h _ hd) (decide_eq_true rfl)
theorem Me {l : List Nd} {n : Nd} (hn : n ∈ l) {m : Mem} (h : m ∈ (nN n (jw l n)).2.2.2.1) : fN l m.1 = true := by
 obtain ⟨h1, h2⟩ := List.mem_filter.1 (show m ∈ n.2.2.2.1.filter fun m => !bF n.1.1 (jw l n) m from h)
 exact MN hn (List.mem_append_right _ h1) (by simpa using h2)
theorem HR (self : List Int) : ∀ (l : List Mem) (s : Mem × Int), (l.foldl (gJ self) s = s ∨ ((l.foldl (gJ self) s).2 = 0 ∧ (l.foldl (gJ self) s).1 ∈ l))
 | [], s => .inl rfl
 | m :: l, s => by
  rw [List.foldl_cons]
  have hs : gJ self s m = s ∨ gJ self s m = (m, 0) := by
   unfold gJ
   cases (bif !decide (s.2 = 0) then true else decide (gO (a7 self s.1.2.1) (a7 self m.2.1) < 0))
   ·exact .inl rfl
   ·exact .inr rfl
  rcases HR self l (gJ self s m) with h | h
  ·rw [h]
   rcases hs with h2 | h2
   ·exact .inl h2
   ·rw [h2]; exact .inr ⟨rfl, List.mem_cons_self⟩
  ·exact .inr ⟨h.1, List.mem_cons_of_mem _ h.2⟩
end Go.Proofs.Ytimdnodkabnbfaa
namespace Go.Proofs.Ytimdnodkabnbfaa
open Go Go.RowKit
abbrev GFw (O : Nat → Prop) (w0 : World) (y : List Nd) := bG prog ux (Cx.base O w0) (cG prog O w0 xH fun z => z = ((y, ()), ()))
theorem Ku (n : Nat) (b : List Mem) : bQ 0 (cO (lnx ab b) (n : Int)) (lnx ab b) := by
 have e : lnx ab b = ((b.length : Nat) : Int) := rfl
 rw [e]
 unfold cO bQ
 split <;> omega
theorem P3 (n : Nat) (b : List Mem) : dS ab b 0 (cO (lnx ab b) (n : Int)) = b.take n := by
 show (b.take (cO ((b.length : Nat) : Int) n).toNat).drop (0 : Int).toNat = _
 have : (cO ((b.length : Nat) : Int) n).toNat = min b.length n := by unfold cO; split <;> omega
 rw [this]
 simp [Nat.min_comm]
theorem Qq (n : Nat) (b : List Nd) : dS ag b 0 (cO (lnx ag b) (n : Int)) = b.take n := by
 show (b.take (cO ((b.length : Nat) : Int) n).toNat).drop (0 : Int).toNat = _
 have : (cO ((b.length : Nat) : Int) n).toNat = min b.length n := by unfold cO; split <;> omega
 rw [this]
 simp [Nat.min_comm]
theorem Pw (n : Nat) (b : List Nd) : bQ 0 (cO (lnx ag b) (n : Int)) (lnx ag b) := by
 have e : lnx ag b = ((b.length : Nat) : Int) := rfl
 rw [e]
 unfold cO bQ
 split <;> omega
def PE (O : Nat → Prop) (w0 : World) (q : List Nd) (z : Ov) (hm : q.length ≤ 18) :=
 PLift.up <| bN (σ := List Nd) q.length (fun i b => b = (q.take i).map NT)
  (fun i b => GFw O w0 (q.map NT) [] mI (lp lW 3) (BL q (lnx ag q) (i : Nat) z b))
  (fun i b hi hs ih => aM Av (uW q _ _ z b) (by
   refine ⟨fun _ => ⟨bf hi, Ku 6 _, Ku 18 _, ?_, ?_⟩, fun hc => absurd hi (by rw [cL (e := ag)] at hc; exact of_decide_eq_false hc)⟩
   ·rw [List.length_append, hs, List.length_map, List.length_take]
    exact Nat.le_trans (show min i q.length + 1 ≤ 19 by omega) (by decide)
   ·rw [bS (e := ag) hi, cN hi (Nat.le_trans hm (by decide))]
    refine ih _ ?_
    rw [List.take_succ_eq_append_getElem hi, List.map_append, ← hs]
    have e1 := P3 6 q[i].2.2.1
    have e2 := P3 18 q[i].2.2.2.1
    have e1 : dS ab q[i].2.2.1 0 (cO (lnx ab q[i].2.2.1) 6) = q[i].2.2.1.take 6 := e1
    have e2 : dS ab q[i].2.2.2.1 0 (cO (lnx ab q[i].2.2.2.1) 18) = q[i].2.2.2.1.take 18 := e2
    rw [e1, e2]
    rfl))
  (fun b hs => aM Av (uW q _ _ z b) ⟨fun hc => absurd (of_decide_eq_true hc) (Int.lt_irrefl _), fun _ => ⟨_, rfl, by
   rw [List.take_length] at hs
   rw [hs]⟩⟩)
theorem M4 : ap prog [] uj uZ :=
 bL (S := uZ) Av (fx := mI) LO (by kernel_rfl) (fun _ _ => trivial) (T := fun x => F8 x.1) (fun x => HJ x.1) fun O w0 x _ _ => by
  obtain ⟨o, ⟨⟩⟩ := x
  refine ⟨Pw 18 _, ?_⟩
  have e : dS ag o.1 0 (cO (lnx ag o.1) 18) = o.1.take 18 := Qq 18 o.1
  rw [e]
  exact (PE O w0 (o.1.take 18) (zero ah) (by rw [List.length_take]; omega)).down 0 [] (Nat.zero_le _) rfl
theorem Oi (l : List Nd) : (xl l).length ≤ 18 := by
 unfold xl; rw [List.length_map, List.length_take]; omega
def n3 : Nd := ((3, zero (Ty.pair tId Ty.unit)), (-1, zero (Ty.pair tId Ty.unit)), [(3, zero (Ty.pair tId Ty.unit))], zero (Ty.pair (Ty.slc ab) Ty.unit))
def id7 : List Int := List.set (List.replicate 32 (zero (Ty.int IntKind.u8))) 31 7
theorem OK : cp [n3] 3 id7 0 = ([3], (3, zero (Ty.pair tId Ty.unit)), 0) := by kernel_rfl
theorem Jb : ap prog [] qi qc :=
 bL (S := qc) (JG yT) (fx := zB) Hu (by kernel_rfl) (fun _ _ => trivial) (T := fun _ => Bt) (fun _ => EZ) fun O v0 x _ _ => by
  refine ⟨(show 1 ≤ 1000000 by decide), bn ?_⟩
  show bh _ _ _ _ _ (af.req (dV [(bif bif decide ((cp [n3] 3 id7 0).2.2 = 0) then eqb ab (cp [n3] 3 id7 0).2.1 (3, zero (Ty.pair tId Ty.unit)) else false then decide (lnx ae (cp [n3] 3 id7 0).1 = 1) else false, true)] (inB 0 (lnx ae (cp [n3] 3 id7 0).1)))
   (af.ret (K.val (Ty.pair Ty.bool Ty.unit) (bif bif bif decide ((cp [n3] 3 id7 0).2.2 = 0) then eqb ab (cp [n3] 3 id7 0).2.1 (3, zero (Ty.pair tId Ty.unit)) else false then decide (lnx ae (cp [n3] 3 id7 0).1 = 1) else false then decide (el ae (cp [n3] 3 id7 0).1 0 = 3) else false, PUnit.unit))))
  rw [OK]
  refine ⟨fun _ => bf (n := 1) (by decide), _, rfl, Prod.ext ?_ rfl⟩
  rw [kW]
  show (bif bif bif decide ((0 : Int) = 0) then decide (((3 : Int), zero (Ty.pair tId Ty.unit)) = (3, zero (Ty.pair tId Ty.unit))) else false then decide ((1 : Int) = 1) else false then decide ((3 : Int) = 3) else false) = true
  rw [decide_eq_true rfl]
  rfl
theorem Hj {l : List Nd} (hr : bo l = true) (no : Int) (id : List Int) {h : Nat} (hh : h ≤ 16) : cp l no id (h : Int) = dD l id (h + 1) [] no := by
 unfold cp
 rw [hr, decide_eq_false (show ¬ ((h : Int) < 0) by omega), decide_eq_false (show ¬ ((16 : Int) < h) by omega)]
 rfl
end Go.Proofs.Ytimdnodkabnbfaa
namespace Go.Proofs.Ytimdnodkabnbfaa
open Go Go.RowKit
def OA (self id x : List Int) : Bool := bif (bif !decide (x = self) then !decide (x = id) else false) then gD x self id else false
end Go.Proofs.Ytimdnodkabnbfaa
