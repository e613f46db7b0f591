/- Part 10 of 10 of what this claim's proof stands on: a theory of programs on data, and the contracts of the functions that the law reaches. It holds no condition of its own. -/
import Derived.Test.YtimdnodkabnbfaaCA9
namespace Go.Proofs.Ytimdnodkabnbfaa
open Go Go.RowKit
noncomputable abbrev u5 : Fx := { fn := pA, ann := { } }
noncomputable abbrev wN : a7 := { D := { T := a8, F := [(kC, mA)], R := [], ovl := [] }, inl := [] }
noncomputable abbrev Fy : bo := .data uw
theorem Fb (h_r01_In : ap prog [] kC mA) : XOk prog wN := xok (au (aI aS aC) h_r01_In) (by kernel_rfl) aK aW aV
noncomputable def wF (x : den tId) (self : den tId) (id : den tId) : af := af.req (cG [(bif !eqb tId x self then !eqb tId x id else false, true)] True) (af.ret (K.val (Ty.pair Ty.bool Ty.unit) (bif bif !eqb tId x self then !eqb tId x id else false then fm x self id else false, PUnit.unit)))
theorem Bs (x : den tId) (self : den tId) (id : den tId) : aj wN Fy 5000 [] u5 (az pA) (Env.of (aF uk (x, self, id, ()) 0) []) = wF x self id := by kernel_rfl
noncomputable abbrev e9 : Fx := { fn := eH, ann := { loops := [(4, { keep := [3, 4, 6, 7, 8, 12, 13, 14] })] } }
noncomputable abbrev ju : a7 := { D := { T := a8, F := [(mf, mq)], R := [], ovl := [] }, inl := [] }
noncomputable abbrev wL : bo := .data od
theorem Fg (h_r08_Between : ap prog [] mf mq) : XOk prog ju := xok (au (aI aS aC) h_r08_Between) (by kernel_rfl) aK aW aV
noncomputable def wG (id : den tId) (self : den tId) (known : den (Ty.slc ab)) : af := af.loop [] e9 (lp eH 4) [(3, K.ptr 0 tId []), (4, K.ptr (0 + 1) tId []), (6, K.ptr (0 + 1 + 1) ab []), (7, K.ptr (0 + 1 + 1 + 1) ab []), (8, K.val Ty.bool false), (12, K.val (Ty.slc ab) known), (13, K.val ae (lnx ab known)), (14, K.val ae 0)] [(0, Bx.cell tId id), (0 + 1, Bx.cell tId self), (0 + 1 + 1, Bx.cell ab (zero ab)), (0 + 1 + 1 + 1, Bx.cell ab (-1, zero (Ty.pair tId Ty.unit)))]
theorem Bd (id : den tId) (self : den tId) (known : den (Ty.slc ab)) : aj ju wL 5000 [] e9 (az eH) (Env.of (aF vc (id, self, known, ()) 0) []) = wG id self known := by kernel_rfl
noncomputable def sQ (v8 : den Ty.bool) (v12 : den (Ty.slc ab)) (v13 : den ae) (v14 : den ae) (b0 : den tId) (b1 : den tId) (b2 : den ab) (b3 : den ab) : Env := Env.of [(3, K.ptr 0 tId []), (4, K.ptr (0 + 1) tId []), (6, K.ptr (0 + 1 + 1) ab []), (7, K.ptr (0 + 1 + 1 + 1) ab []), (8, K.val Ty.bool v8), (12, K.val (Ty.slc ab) v12), (13, K.val ae v13), (14, K.val ae v14)] [(0, Bx.cell tId b0), (1, Bx.cell tId b1), (2, Bx.cell ab b2), (3, Bx.cell ab b3)]
noncomputable def AI (v8 : den Ty.bool) (v12 : den (Ty.slc ab)) (v13 : den ae) (v14 : den ae) (b0 : den tId) (b1 : den tId) (b2 : den ab) (b3 : den ab) : af := af.ite (decide (v14 < v13)) (af.req (inB v14 (lnx ab v12)) (af.req True (af.req (cG [(fB b1 b0 (Prod.fst (Prod.snd (el ab v12 v14))), true), (!v8, false)] True) (af.ite (bif fB b1 b0 (Prod.fst (Prod.snd (el ab v12 v14))) then bif !v8 then true else fB b1 (Prod.fst (Prod.snd (el ab v12 v14))) (Prod.fst (Prod.snd b3)) else false) (af.loop [] e9 (lp eH 4) [(3, K.ptr 0 tId []), (4, K.ptr (0 + 1) tId []), (6, K.ptr (0 + 1 + 1) ab []), (7, K.ptr (0 + 1 + 1 + 1) ab []), (8, K.val Ty.bool true), (12, K.val (Ty.slc ab) v12), (13, K.val ae v13), (14, K.val ae (IntKind.wrap IntKind.i64 (v14 + 1)))] [(0, Bx.cell tId b0), (0 + 1, Bx.cell tId b1), (0 + 1 + 1, Bx.cell ab b2), (0 + 1 + 1 + 1, Bx.cell ab (el ab v12 v14))]) (af.loop [] e9 (lp eH 4) [(3, K.ptr 0 tId []), (4, K.ptr (0 + 1) tId []), (6, K.ptr (0 + 1 + 1) ab []), (7, K.ptr (0 + 1 + 1 + 1) ab []), (8, K.val Ty.bool v8), (12, K.val (Ty.slc ab) v12), (13, K.val ae v13), (14, K.val ae (IntKind.wrap IntKind.i64 (v14 + 1)))] [(0, Bx.cell tId b0), (0 + 1, Bx.cell tId b1), (0 + 1 + 1, Bx.cell ab b2), (0 + 1 + 1 + 1, Bx.cell ab b3)]))))) (af.ret (K.val (Ty.pair ab Ty.unit) (b3, PUnit.unit)))
theorem nK (v8 : den Ty.bool) (v12 : den (Ty.slc ab)) (v13 : den ae) (v14 : den ae) (b0 : den tId) (b1 : den tId) (b2 : den ab) (b3 : den ab) : aj ju wL 5000 [] e9 (lp eH 4) (sQ v8 v12 v13 v14 b0 b1 b2 b3) = AI v8 v12 v13 v14 b0 b1 b2 b3 := by kernel_rfl
noncomputable abbrev cm : Fx := { fn := cj, ann := { loops := [(3, { keep := [1, 2, 7, 14, 15, 16] }), (7, { keep := [1, 2, 7, 9, 10, 14, 15, 16, 20, 21, 22] })] }, own := [13] }
noncomputable abbrev jm : a7 := { D := { T := a8, F := [], R := [], ovl := [] }, inl := [] }
noncomputable abbrev pW : bo := .row (ab)
theorem jA : XOk prog jm := xok ((aI aS aC)) (by kernel_rfl) aK aW aV
noncomputable def ww (l : den (Ty.slc ab)) (nos : den (Ty.slc ae)) (self : den ae) : af := af.loop [] cm (lp cj 3) [(1, K.val (Ty.slc ae) nos), (2, K.val ae self), (7, K.sl 0 ab), (14, K.val (Ty.slc ab) l), (15, K.val ae (lnx ab l)), (16, K.val ae 0)] [(0, Bx.row ab (List.replicate 0 (zero ab)))]
theorem A2 (l : den (Ty.slc ab)) (nos : den (Ty.slc ae)) (self : den ae) : aj jm pW 5000 [] cm (az cj) (Env.of (aF (Ty.pair (Ty.slc ab) (Ty.pair (Ty.slc ae) (Ty.pair ae Ty.unit))) (l, nos, self, ()) 0) []) = ww l nos self := by kernel_rfl
noncomputable def nB (v1 : den (Ty.slc ae)) (v2 : den ae) (v14 : den (Ty.slc ab)) (v15 : den ae) (v16 : den ae) (b0 : List (den ab)) : Env := Env.of [(1, K.val (Ty.slc ae) v1), (2, K.val ae v2), (7, K.sl 0 ab), (14, K.val (Ty.slc ab) v14), (15, K.val ae v15), (16, K.val ae v16)] [(0, Bx.row ab b0)]
noncomputable def AB (v1 : den (Ty.slc ae)) (v2 : den ae) (v14 : den (Ty.slc ab)) (v15 : den ae) (v16 : den ae) (b0 : List (den ab)) : af := af.ite (decide (v16 < v15)) (af.req (inB v16 (lnx ab v14)) (af.loop [] cm (lp cj 7) [(1, K.val (Ty.slc ae) v1), (2, K.val ae v2), (7, K.sl 0 ab), (9, K.ptr (0 + 1) ab []), (10, K.val Ty.bool false), (14, K.val (Ty.slc ab) v14), (15, K.val ae v15), (16, K.val ae v16), (20, K.val (Ty.slc ae) v1), (21, K.val ae (lnx ae v1)), (22, K.val ae 0)] [(0, Bx.row ab b0), (0 + 1, Bx.cell ab (el ab v14 v16))])) (af.req (vok 0 (List.length b0) (List.length b0)) (af.ret (K.val (Ty.slc ab) (ml ab b0 0 (List.length b0)))))
theorem nQ (v1 : den (Ty.slc ae)) (v2 : den ae) (v14 : den (Ty.slc ab)) (v15 : den ae) (v16 : den ae) (b0 : List (den ab)) : aj jm pW 5000 [] cm (lp cj 3) (nB v1 v2 v14 v15 v16 b0) = AB v1 v2 v14 v15 v16 b0 := by kernel_rfl
noncomputable def sS (v1 : den (Ty.slc ae)) (v2 : den ae) (v10 : den Ty.bool) (v14 : den (Ty.slc ab)) (v15 : den ae) (v16 : den ae) (v20 : den (Ty.slc ae)) (v21 : den ae) (v22 : den ae) (b0 : List (den ab)) (b1 : den ab) : Env := Env.of [(1, K.val (Ty.slc ae) v1), (2, K.val ae v2), (7, K.sl 0 ab), (9, K.ptr (0 + 1) ab []), (10, K.val Ty.bool v10), (14, K.val (Ty.slc ab) v14), (15, K.val ae v15), (16, K.val ae v16), (20, K.val (Ty.slc ae) v20), (21, K.val ae v21), (22, K.val ae v22)] [(0, Bx.row ab b0), (1, Bx.cell ab b1)]
noncomputable def Bo (v1 : den (Ty.slc ae)) (v2 : den ae) (v10 : den Ty.bool) (v14 : den (Ty.slc ab)) (v15 : den ae) (v16 : den ae) (v20 : den (Ty.slc ae)) (v21 : den ae) (v22 : den ae) (b0 : List (den ab)) (b1 : den ab) : af := af.ite (decide (v22 < v21)) (af.req (inB v22 (lnx ae v20)) (af.loop [] cm (lp cj 7) [(1, K.val (Ty.slc ae) v1), (2, K.val ae v2), (7, K.sl 0 ab), (9, K.ptr (0 + 1) ab []), (10, K.val Ty.bool (bif v10 then true else bif decide (el ae v20 v22 = Prod.fst b1) then !decide (el ae v20 v22 = v2) else false)), (14, K.val (Ty.slc ab) v14), (15, K.val ae v15), (16, K.val ae v16), (20, K.val (Ty.slc ae) v20), (21, K.val ae v21), (22, K.val ae (IntKind.wrap IntKind.i64 (v22 + 1)))] [(0, Bx.row ab b0), (0 + 1, Bx.cell ab b1)])) (af.ite (!v10) (af.req (List.length (b0 ++ List.set (List.replicate 1 (zero ab)) 0 b1) ≤ bF) (af.loop [] cm (lp cj 3) [(1, K.val (Ty.slc ae) v1), (2, K.val ae v2), (7, K.sl 0 ab), (14, K.val (Ty.slc ab) v14), (15, K.val ae v15), (16, K.val ae (IntKind.wrap IntKind.i64 (v16 + 1)))] [(0, Bx.row ab (b0 ++ List.set (List.replicate 1 (zero ab)) 0 b1))])) (af.loop [] cm (lp cj 3) [(1, K.val (Ty.slc ae) v1), (2, K.val ae v2), (7, K.sl 0 ab), (14, K.val (Ty.slc ab) v14), (15, K.val ae v15), (16, K.val ae (IntKind.wrap IntKind.i64 (v16 + 1)))] [(0, Bx.row ab b0)]))
theorem nT (v1 : den (Ty.slc ae)) (v2 : den ae) (v10 : den Ty.bool) (v14 : den (Ty.slc ab)) (v15 : den ae) (v16 : den ae) (v20 : den (Ty.slc ae)) (v21 : den ae) (v22 : den ae) (b0 : List (den ab)) (b1 : den ab) : aj jm pW 5000 [] cm (lp cj 7) (sS v1 v2 v10 v14 v15 v16 v20 v21 v22 b0 b1) = Bo v1 v2 v10 v14 v15 v16 v20 v21 v22 b0 b1 := by kernel_rfl
noncomputable abbrev zz : Fx := { fn := vu, ann := { frz := [(1, [300002]), (7, [3002, 4002, 100002])], gy := true }, share := true }
noncomputable abbrev CB : a7 := { D := { T := a8, F := [(gC, gQ)], R := [(l7, pT)], ovl := [] }, inl := [] }
noncomputable abbrev Ko : bo := .data ub
theorem Kl (h_r09_None : ap prog [] gC gQ) (h_r09_without : lj prog [] l7 pT) : XOk prog CB := xok (au (aI aS aC) h_r09_None) (by kernel_rfl) (Hr h_r09_without aK) aW aV
noncomputable def BM (n : den ag) (nos : den (Ty.slc ae)) : af := af.req (List.length (Prod.fst (Prod.snd (Prod.snd n))) ≤ 1000000) (af.req (List.length (Prod.fst (Prod.snd (Prod.snd (Prod.snd n)))) ≤ 1000000) (af.ite (decide (lnx ab (List.filter (fun (m : den ab) ↦ !aJ (Prod.fst (Prod.fst n)) nos m) (Prod.fst (Prod.snd (Prod.snd n)))) = 0)) (af.req (List.length (List.filter (fun (m : den ab) ↦ !aJ (Prod.fst (Prod.fst n)) nos m) (Prod.fst (Prod.snd (Prod.snd n))) ++ List.set (List.replicate 1 (zero ab)) 0 (Prod.fst n)) ≤ bF) (af.req True (af.all (den Ty.bool) (fun (q2 : den Ty.bool) ↦ q2 = decide (Prod.fst (Prod.snd n) = noM)) fun (q2 : den Ty.bool) ↦ af.ite (!q2) (af.req (List.length (List.set (List.replicate 1 (zero ab)) 0 (Prod.fst (Prod.snd n))) ≤ 1000000) (af.ite (decide (lnx ab (List.filter (fun (m : den ab) ↦ !aJ (Prod.fst (Prod.fst n)) nos m) (List.set (List.replicate 1 (zero ab)) 0 (Prod.fst (Prod.snd n)))) = 0)) (af.ret (K.val (Ty.pair ag Ty.unit) ((Prod.fst n, (-1, zero (Ty.pair tId Ty.unit)), List.filter (fun (m : den ab) ↦ !aJ (Prod.fst (Prod.fst n)) nos m) (Prod.fst (Prod.snd (Prod.snd n))) ++ List.set (List.replicate 1 (zero ab)) 0 (Prod.fst n), List.filter (fun (m : den ab) ↦ !aJ (Prod.fst (Prod.fst n)) nos m) (Prod.fst (Prod.snd (Prod.snd (Prod.snd n)))), PUnit.unit), PUnit.unit))) (af.ret (K.val (Ty.pair ag Ty.unit) ((Prod.fst n, Prod.fst (Prod.snd n), List.filter (fun (m : den ab) ↦ !aJ (Prod.fst (Prod.fst n)) nos m) (Prod.fst (Prod.snd (Prod.snd n))) ++ List.set (List.replicate 1 (zero ab)) 0 (Prod.fst n), List.filter (fun (m : den ab) ↦ !aJ (Prod.fst (Prod.fst n)) nos m) (Prod.fst (Prod.snd (Prod.snd (Prod.snd n)))), PUnit.unit), PUnit.unit))))) (af.ret (K.val (Ty.pair ag Ty.unit) ((Prod.fst n, Prod.fst (Prod.snd n), List.filter (fun (m : den ab) ↦ !aJ (Prod.fst (Prod.fst n)) nos m) (Prod.fst (Prod.snd (Prod.snd n))) ++ List.set (List.replicate 1 (zero ab)) 0 (Prod.fst n), List.filter (fun (m : den ab) ↦ !aJ (Prod.fst (Prod.fst n)) nos m) (Prod.fst (Prod.snd (Prod.snd (Prod.snd n)))), PUnit.unit), PUnit.unit)))))) (af.req True (af.all (den Ty.bool) (fun (q2 : den Ty.bool) ↦ q2 = decide (Prod.fst (Prod.snd n) = noM)) fun (q2 : den Ty.bool) ↦ af.ite (!q2) (af.req (List.length (List.set (List.replicate 1 (zero ab)) 0 (Prod.fst (Prod.snd n))) ≤ 1000000) (af.ite (decide (lnx ab (List.filter (fun (m : den ab) ↦ !aJ (Prod.fst (Prod.fst n)) nos m) (List.set (List.replicate 1 (zero ab)) 0 (Prod.fst (Prod.snd n)))) = 0)) (af.ret (K.val (Ty.pair ag Ty.unit) ((Prod.fst n, (-1, zero (Ty.pair tId Ty.unit)), List.filter (fun (m : den ab) ↦ !aJ (Prod.fst (Prod.fst n)) nos m) (Prod.fst (Prod.snd (Prod.snd n))), List.filter (fun (m : den ab) ↦ !aJ (Prod.fst (Prod.fst n)) nos m) (Prod.fst (Prod.snd (Prod.snd (Prod.snd n)))), PUnit.unit), PUnit.unit))) (af.ret (K.val (Ty.pair ag Ty.unit) ((Prod.fst n, Prod.fst (Prod.snd n), List.filter (fun (m : den ab) ↦ !aJ (Prod.fst (Prod.fst n)) nos m) (Prod.fst (Prod.snd (Prod.snd n))), List.filter (fun (m : den ab) ↦ !aJ (Prod.fst (Prod.fst n)) nos m) (Prod.fst (Prod.snd (Prod.snd (Prod.snd n)))), PUnit.unit), PUnit.unit))))) (af.ret (K.val (Ty.pair ag Ty.unit) ((Prod.fst n, Prod.fst (Prod.snd n), List.filter (fun (m : den ab) ↦ !aJ (Prod.fst (Prod.fst n)) nos m) (Prod.fst (Prod.snd (Prod.snd n))), List.filter (fun (m : den ab) ↦ !aJ (Prod.fst (Prod.fst n)) nos m) (Prod.fst (Prod.snd (Prod.snd (Prod.snd n)))), PUnit.unit), PUnit.unit)))))))
theorem E3 (n : den ag) (nos : den (Ty.slc ae)) : aj CB Ko 5000 [] zz (az vu) (Env.of (aF Af (n, nos, ()) 0) []) = BM n nos := by kernel_rfl
noncomputable abbrev z9 : Fx := { fn := vp, ann := { }, own := [21], share := true }
noncomputable abbrev BG : a7 := { D := { T := a8, F := [(kC, mA), (mu, me)], R := [], ovl := [] }, inl := [] }
noncomputable abbrev J7 : bo := .data t6
theorem J9 (h_r01_In : ap prog [] kC mA) (h_r08_Closest : ap prog [] mu me) : XOk prog BG := xok (au (au (aI aS aC) h_r08_Closest) h_r01_In) (by kernel_rfl) aK aW aV
noncomputable def vH (n : den ag) (id : den tId) : af := af.req (inB 0 (lnx ab (Prod.fst (Prod.snd (Prod.snd n))))) (af.req True (af.all (den Ty.bool) (fun (q2 : den Ty.bool) ↦ q2 = fm id (Prod.fst (Prod.snd (Prod.fst n))) (Prod.fst (Prod.snd (el ab (Prod.fst (Prod.snd (Prod.snd n))) 0)))) fun (q2 : den Ty.bool) ↦ af.ite q2 (af.ret (K.val (Ty.pair ai Ty.unit) ((el ab (Prod.fst (Prod.snd (Prod.snd n))) 0, true, zero Ty.unit), PUnit.unit))) (af.req (List.length (List.replicate 0 (zero ab) ++ Prod.fst (Prod.snd (Prod.snd (Prod.snd n)))) ≤ bF) (af.req (List.length (List.replicate 0 (zero ab) ++ Prod.fst (Prod.snd (Prod.snd (Prod.snd n))) ++ Prod.fst (Prod.snd (Prod.snd n))) ≤ bF) (af.req True (af.all (den ab) (fun (q3 : den ab) ↦ q3 = fg id (Prod.fst (Prod.snd (Prod.fst n))) (List.replicate 0 (zero ab) ++ Prod.fst (Prod.snd (Prod.snd (Prod.snd n))) ++ Prod.fst (Prod.snd (Prod.snd n)))) fun (q3 : den ab) ↦ af.ite (decide (Prod.fst q3 < 0)) (af.ret (K.val (Ty.pair ai Ty.unit) ((el ab (Prod.fst (Prod.snd (Prod.snd n))) 0, zero (Ty.pair Ty.bool Ty.unit)), PUnit.unit))) (af.ret (K.val (Ty.pair ai Ty.unit) ((q3, zero (Ty.pair Ty.bool Ty.unit)), PUnit.unit)))))))))
theorem ES (n : den ag) (id : den tId) : aj BG J7 5000 [] z9 (az vp) (Env.of (aF zC (n, id, ()) 0) []) = vH n id := by kernel_rfl
noncomputable abbrev dk : Fx := { fn := dt, ann := { loops := [(3, { keep := [1, 3, 12, 13, 14] }), (8, { keep := [1, 3, 12, 13, 14, 41, 42, 43] })] }, share := true }
noncomputable abbrev jP : a7 := { D := { T := a8, F := [(gt, gA), (oR, oU), (jM, jJ), (lc, kY), (oK, oJ)], R := [], ovl := [] }, inl := [] }
noncomputable abbrev tP : bo := .data rC
theorem IP (h_r10_Members : ap prog [] gt gA) (h_r09_Right : ap prog [] oR oU) (h_r10_Known : ap prog [] jM jJ) (h_r07_Find : ap prog [] lc kY) (h_r07_Right : ap prog [] oK oJ) : XOk prog jP := xok (au (au (au (au (au (aI aS aC) h_r07_Right) h_r07_Find) h_r10_Known) h_r09_Right) h_r10_Members) (by kernel_rfl) aK aW aV
noncomputable def zX (o : den ah) : af := af.req (List.length (Prod.fst o) ≤ 1000000) (af.all (den (Ty.slc ab)) (fun (q1 : den (Ty.slc ab)) ↦ q1 = bH (Prod.fst o)) fun (q1 : den (Ty.slc ab)) ↦ af.loop [] dk (lp dt 3) [(1, K.ptr 0 ah []), (3, K.val (Ty.slc ab) q1), (12, K.val (Ty.slc ag) (Prod.fst o)), (13, K.val ae (lnx ag (Prod.fst o))), (14, K.val ae 0)] [(0, Bx.cell ah o)])
theorem Db (o : den ah) : aj jP tP 5000 [] dk (az dt) (Env.of (aF yL (o, ()) 0) []) = zX o := by kernel_rfl
noncomputable def pv (v3 : den (Ty.slc ab)) (v12 : den (Ty.slc ag)) (v13 : den ae) (v14 : den ae) (b0 : den ah) : Env := Env.of [(1, K.ptr 0 ah []), (3, K.val (Ty.slc ab) v3), (12, K.val (Ty.slc ag) v12), (13, K.val ae v13), (14, K.val ae v14)] [(0, Bx.cell ah b0)]
noncomputable def Dj (v3 : den (Ty.slc ab)) (v12 : den (Ty.slc ag)) (v13 : den ae) (v14 : den ae) (b0 : den ah) : af := af.ite (decide (v14 < v13)) (af.req (inB v14 (lnx ag v12)) (af.req True (af.req (cG [(!aO (el ag v12 v14), false), (decide (0 < v14), true)] (inB (IntKind.wrap IntKind.i64 (v14 - 1)) (lnx ag (Prod.fst b0)))) (af.all (den Ty.bool) (fun (q5 : den Ty.bool) ↦ q5 = aO (el ag v12 v14)) fun (q5 : den Ty.bool) ↦ af.ite (bif !aO (el ag v12 v14) then true else bif decide (0 < v14) then decide (Prod.fst (Prod.fst (el ag v12 v14)) ≤ Prod.fst (Prod.fst (el ag (Prod.fst b0) (IntKind.wrap IntKind.i64 (v14 - 1))))) else false) (af.ret (K.val (Ty.pair Ty.bool Ty.unit) (false, PUnit.unit))) (af.req (List.length (be (el ag v12 v14)) ≤ 1000000) (af.all (den (Ty.slc ab)) (fun (q6 : den (Ty.slc ab)) ↦ q6 = be (el ag v12 v14)) fun (q6 : den (Ty.slc ab)) ↦ af.loop [] dk (lp dt 8) [(1, K.ptr 0 ah []), (3, K.val (Ty.slc ab) v3), (12, K.val (Ty.slc ag) v12), (13, K.val ae v13), (14, K.val ae v14), (41, K.val (Ty.slc ab) q6), (42, K.val ae (lnx ab q6)), (43, K.val ae 0)] [(0, Bx.cell ah b0)])))))) (af.req True (af.all (den Ty.bool) (fun (q5 : den Ty.bool) ↦ q5 = cq v3) fun (q5 : den Ty.bool) ↦ af.ret (K.val (Ty.pair Ty.bool Ty.unit) (q5, PUnit.unit))))
theorem qc (v3 : den (Ty.slc ab)) (v12 : den (Ty.slc ag)) (v13 : den ae) (v14 : den ae) (b0 : den ah) : aj jP tP 5000 [] dk (lp dt 3) (pv v3 v12 v13 v14 b0) = Dj v3 v12 v13 v14 b0 := by kernel_rfl
noncomputable def wq (v3 : den (Ty.slc ab)) (v12 : den (Ty.slc ag)) (v13 : den ae) (v14 : den ae) (v41 : den (Ty.slc ab)) (v42 : den ae) (v43 : den ae) (b0 : den ah) : Env := Env.of [(1, K.ptr 0 ah []), (3, K.val (Ty.slc ab) v3), (12, K.val (Ty.slc ag) v12), (13, K.val ae v13), (14, K.val ae v14), (41, K.val (Ty.slc ab) v41), (42, K.val ae v42), (43, K.val ae v43)] [(0, Bx.cell ah b0)]
noncomputable def DC (v3 : den (Ty.slc ab)) (v12 : den (Ty.slc ag)) (v13 : den ae) (v14 : den ae) (v41 : den (Ty.slc ab)) (v42 : den ae) (v43 : den ae) (b0 : den ah) : af := af.ite (decide (v43 < v42)) (af.req (inB v43 (lnx ab v41)) (af.req True (af.all (den ab) (fun (q8 : den ab) ↦ q8 = ku v3 (Prod.fst (el ab v41 v43))) fun (q8 : den ab) ↦ af.ite (bif decide (0 ≤ Prod.fst q8) then !eqb ab q8 (el ab v41 v43) else false) (af.ret (K.val (Ty.pair Ty.bool Ty.unit) (false, PUnit.unit))) (af.loop [] dk (lp dt 8) [(1, K.ptr 0 ah []), (3, K.val (Ty.slc ab) v3), (12, K.val (Ty.slc ag) v12), (13, K.val ae v13), (14, K.val ae v14), (41, K.val (Ty.slc ab) v41), (42, K.val ae v42), (43, K.val ae (IntKind.wrap IntKind.i64 (v43 + 1)))] [(0, Bx.cell ah b0)])))) (af.loop [] dk (lp dt 3) [(1, K.ptr 0 ah []), (3, K.val (Ty.slc ab) v3), (12, K.val (Ty.slc ag) v12), (13, K.val ae v13), (14, K.val ae (IntKind.wrap IntKind.i64 (v14 + 1)))] [(0, Bx.cell ah b0)])
theorem p8 (v3 : den (Ty.slc ab)) (v12 : den (Ty.slc ag)) (v13 : den ae) (v14 : den ae) (v41 : den (Ty.slc ab)) (v42 : den ae) (v43 : den ae) (b0 : den ah) : aj jP tP 5000 [] dk (lp dt 8) (wq v3 v12 v13 v14 v41 v42 v43 b0) = DC v3 v12 v13 v14 v41 v42 v43 b0 := by kernel_rfl
noncomputable abbrev fJ : Fx := { fn := fo, ann := { loops := [(4, { keep := [3, 5, 6, 7, 8, 16, 17, 18] })], frz := [(9, [8])] }, own := [14], share := true }
noncomputable abbrev kS : a7 := { D := { T := a8, F := [(tn, th), (jM, jJ), (jN, jD), (qG, qi), (gC, gQ), (kC, mA), (qD, qg)], R := [], ovl := [] }, inl := [] }
noncomputable abbrev x9 : bo := .data mn
theorem Ga (h_r10_Get : ap prog [] tn th) (h_r10_Known : ap prog [] jM jJ) (h_r10_Lives : ap prog [] jN jD) (h_r09_Drop : ap prog [] qG qi) (h_r09_None : ap prog [] gC gQ) (h_r01_In : ap prog [] kC mA) (h_r09_Next : ap prog [] qD qg) : XOk prog kS := xok (au (au (au (au (au (au (au (aI aS aC) h_r09_Next) h_r01_In) h_r09_None) h_r09_Drop) h_r10_Lives) h_r10_Known) h_r10_Get) (by kernel_rfl) aK aW aV
noncomputable def yI (o : den ah) (no : den ae) (id : den tId) : af := af.req True (af.all (den ag) (fun (q3 : den ag) ↦ q3 = c8 (Prod.fst o) no) fun (q3 : den ag) ↦ af.req (List.length (be q3) ≤ 1000000) (af.all (den (Ty.slc ab)) (fun (q4 : den (Ty.slc ab)) ↦ q4 = be q3) fun (q4 : den (Ty.slc ab)) ↦ af.loop [] fJ (lp fo 4) [(3, K.ptr 0 ah []), (5, K.ptr (0 + 1) tId []), (6, K.ptr (0 + 1 + 1) ai []), (7, K.ptr (0 + 1 + 1 + 1) ag []), (8, K.sl (0 + 1 + 1 + 1 + 1) ae), (16, K.val (Ty.slc ab) q4), (17, K.val ae (lnx ab q4)), (18, K.val ae 0)] [(0, Bx.cell ah o), (0 + 1, Bx.cell tId id), (0 + 1 + 1, Bx.cell ai (zero ai)), (0 + 1 + 1 + 1, Bx.cell ag q3), (0 + 1 + 1 + 1 + 1, Bx.row ae (List.replicate 0 (zero ae)))]))
theorem BZ (o : den ah) (no : den ae) (id : den tId) : aj kS x9 5000 [] fJ (az fo) (Env.of (aF wm (o, no, id, ()) 0) []) = yI o no id := by kernel_rfl
noncomputable def uR (v16 : den (Ty.slc ab)) (v17 : den ae) (v18 : den ae) (b0 : den ah) (b1 : den tId) (b2 : den ai) (b3 : den ag) (b4 : List (den ae)) : Env := Env.of [(3, K.ptr 0 ah []), (5, K.ptr (0 + 1) tId []), (6, K.ptr (0 + 1 + 1) ai []), (7, K.ptr (0 + 1 + 1 + 1) ag []), (8, K.sl (0 + 1 + 1 + 1 + 1) ae), (16, K.val (Ty.slc ab) v16), (17, K.val ae v17), (18, K.val ae v18)] [(0, Bx.cell ah b0), (1, Bx.cell tId b1), (2, Bx.cell ai b2), (3, Bx.cell ag b3), (4, Bx.row ae b4)]
noncomputable def CL (v16 : den (Ty.slc ab)) (v17 : den ae) (v18 : den ae) (b0 : den ah) (b1 : den tId) (b2 : den ai) (b3 : den ag) (b4 : List (den ae)) : af := af.ite (decide (v18 < v17)) (af.req (inB v18 (lnx ab v16)) (af.req (List.length (Prod.fst b0) ≤ 1000000) (af.all (den Ty.bool) (fun (q8 : den Ty.bool) ↦ q8 = uI (Prod.fst b0) (Prod.fst (el ab v16 v18))) fun (q8 : den Ty.bool) ↦ af.ite (!q8) (af.req (List.length (b4 ++ List.set (List.replicate 1 (zero ae)) 0 (Prod.fst (el ab v16 v18))) ≤ bF) (af.loop [] fJ (lp fo 4) [(3, K.ptr 0 ah []), (5, K.ptr (0 + 1) tId []), (6, K.ptr (0 + 1 + 1) ai []), (7, K.ptr (0 + 1 + 1 + 1) ag []), (8, K.sl (0 + 1 + 1 + 1 + 1) ae), (16, K.val (Ty.slc ab) v16), (17, K.val ae v17), (18, K.val ae (IntKind.wrap IntKind.i64 (v18 + 1)))] [(0, Bx.cell ah b0), (0 + 1, Bx.cell tId b1), (0 + 1 + 1, Bx.cell ai b2), (0 + 1 + 1 + 1, Bx.cell ag b3), (0 + 1 + 1 + 1 + 1, Bx.row ae (b4 ++ List.set (List.replicate 1 (zero ae)) 0 (Prod.fst (el ab v16 v18))))])) (af.loop [] fJ (lp fo 4) [(3, K.ptr 0 ah []), (5, K.ptr (0 + 1) tId []), (6, K.ptr (0 + 1 + 1) ai []), (7, K.ptr (0 + 1 + 1 + 1) ag []), (8, K.sl (0 + 1 + 1 + 1 + 1) ae), (16, K.val (Ty.slc ab) v16), (17, K.val ae v17), (18, K.val ae (IntKind.wrap IntKind.i64 (v18 + 1)))] [(0, Bx.cell ah b0), (0 + 1, Bx.cell tId b1), (0 + 1 + 1, Bx.cell ai b2), (0 + 1 + 1 + 1, Bx.cell ag b3), (0 + 1 + 1 + 1 + 1, Bx.row ae b4)])))) (af.req (List.length (Prod.fst (Prod.snd (Prod.snd b3))) ≤ 1000000 ∧ List.length (Prod.fst (Prod.snd (Prod.snd (Prod.snd b3)))) ≤ 1000000) (af.all (den ag) (fun (q8 : den ag) ↦ q8 = eN b3 b4) fun (q8 : den ag) ↦ af.req True (af.all (den Ty.bool) (fun (q9 : den Ty.bool) ↦ q9 = decide (Prod.fst (Prod.snd q8) = noM)) fun (q9 : den Ty.bool) ↦ af.req (cG [(!q9, true)] True) (af.ite (bif !q9 then fm b1 (Prod.fst (Prod.snd (Prod.fst (Prod.snd q8)))) (Prod.fst (Prod.snd (Prod.fst q8))) else false) (af.ret (K.val (Ty.pair ai Ty.unit) ((Prod.fst q8, true, zero Ty.unit), PUnit.unit))) (af.req (1 ≤ List.length (Prod.fst (Prod.snd (Prod.snd q8))) ∧ List.length (Prod.fst (Prod.snd (Prod.snd q8))) ≤ 1000 ∧ List.length (Prod.fst (Prod.snd (Prod.snd (Prod.snd q8)))) ≤ 1000) (af.all (den ai) (fun (q10 : den ai) ↦ q10 = jG q8 b1) fun (q10 : den ai) ↦ af.ret (K.val (Ty.pair ai Ty.unit) (q10, PUnit.unit))))))))
theorem pf (v16 : den (Ty.slc ab)) (v17 : den ae) (v18 : den ae) (b0 : den ah) (b1 : den tId) (b2 : den ai) (b3 : den ag) (b4 : List (den ae)) : aj kS x9 5000 [] fJ (lp fo 4) (uR v16 v17 v18 b0 b1 b2 b3 b4) = CL v16 v17 v18 b0 b1 b2 b3 b4 := by kernel_rfl
noncomputable abbrev jK : Fx := { fn := i9, ann := { loops := [(5, { keep := [3, 4, 6, 8, 9, 10], own := [(9, (.mp (.arr 0 .bool) ae))] })], frz := [(12, [1009, 100009])] }, own := [9, 17], share := true }
noncomputable abbrev nC : a7 := { D := { T := a8, F := [(jN, jD), (nf, nl)], R := [], ovl := [] }, inl := [] }
noncomputable abbrev Cj : bo := .data jR
theorem KA (h_r10_Lives : ap prog [] jN jD) (h_r11_Answer : ap prog [] nf nl) : XOk prog nC := xok (au (au (aI aS aC) h_r11_Answer) h_r10_Lives) (by kernel_rfl) aK aW aV
noncomputable def B3 (o : den ah) (no : den ae) (id : den tId) (hops : den ae) : af := af.req (List.length (Prod.fst o) ≤ 1000000) (af.all (den Ty.bool) (fun (q4 : den Ty.bool) ↦ q4 = uI (Prod.fst o) no) fun (q4 : den Ty.bool) ↦ af.ite (!q4) (af.ret (K.val (Ty.pair ak Ty.unit) ((zero (Ty.slc ae), zero ab, 10, zero Ty.unit), PUnit.unit))) (af.loop [] jK (lp i9 5) [(3, K.val ae hops), (4, K.ptr 0 ah []), (6, K.ptr (0 + 1) tId []), (8, K.ptr (0 + 1 + 1) ak []), (9, K.ptr (0 + 1 + 1 + 1) ak []), (10, K.val ae no)] [(0, Bx.cell ah o), (0 + 1, Bx.cell tId id), (0 + 1 + 1, Bx.cell ak (zero ak)), (0 + 1 + 1 + 1, Bx.obj ak (K.agg (Ty.pair (Ty.slc ae) (Ty.pair ab (Ty.pair ae Ty.unit))) (K.kcons (K.sl (0 + 1 + 1 + 1 + 1) ae) (K.kcons (K.val ab (zero (Ty.pair ae (Ty.pair tId Ty.unit)))) (K.kcons (K.val ae (zero ae)) K.knil))))), (0 + 1 + 1 + 1 + 1, Bx.row ae [])]))
theorem EW (o : den ah) (no : den ae) (id : den tId) (hops : den ae) : aj nC Cj 5000 [] jK (az i9) (Env.of (aF zZ (o, no, id, hops, ()) 0) []) = B3 o no id hops := by kernel_rfl
noncomputable def yw (v3 : den ae) (v10 : den ae) (b0 : den ah) (b1 : den tId) (b2 : den ak) (b3 : den ab) (b3_1 : den ae) (b4 : List (den ae)) : Env := Env.of [(3, K.val ae v3), (4, K.ptr 0 ah []), (6, K.ptr (0 + 1) tId []), (8, K.ptr (0 + 1 + 1) ak []), (9, K.ptr (0 + 1 + 1 + 1) ak []), (10, K.val ae v10)] [(0, Bx.cell ah b0), (1, Bx.cell tId b1), (2, Bx.cell ak b2), (3, Bx.obj ak (K.agg (Ty.pair (Ty.slc ae) (Ty.pair ab (Ty.pair ae Ty.unit))) (K.kcons (K.sl (0 + 1 + 1 + 1 + 1) ae) (K.kcons (K.val ab b3) (K.kcons (K.val ae b3_1) K.knil))))), (4, Bx.row ae b4)]
noncomputable def E1 (v3 : den ae) (v10 : den ae) (b0 : den ah) (b1 : den tId) (b2 : den ak) (b3 : den ab) (b3_1 : den ae) (b4 : List (den ae)) : af := af.ite (decide (lnx ae b4 ≤ v3)) (af.req (List.length (b4 ++ List.set (List.replicate 1 (zero ae)) 0 v10) ≤ bF) (af.req (a5 (Prod.fst b0) = true ∧ bZ (Prod.fst b0) v10 = true ∧ List.length (Prod.fst b0) ≤ 1000000) (af.all (den ai) (fun (q8 : den ai) ↦ q8 = eV (Prod.fst b0) (c8 (Prod.fst b0) v10) b1) fun (q8 : den ai) ↦ af.ite (Prod.fst (Prod.snd q8)) (af.ite (!decide (Prod.fst (Prod.fst q8) = v10)) (af.req (List.length (b4 ++ List.set (List.replicate 1 (zero ae)) 0 v10 ++ List.set (List.replicate 1 (zero ae)) 0 (Prod.fst (Prod.fst q8))) ≤ bF) (af.ret (K.val (Ty.pair ak Ty.unit) ((b4 ++ List.set (List.replicate 1 (zero ae)) 0 v10 ++ List.set (List.replicate 1 (zero ae)) 0 (Prod.fst (Prod.fst q8)), Prod.fst q8, b3_1, PUnit.unit), PUnit.unit)))) (af.ret (K.val (Ty.pair ak Ty.unit) ((b4 ++ List.set (List.replicate 1 (zero ae)) 0 v10, Prod.fst q8, b3_1, PUnit.unit), PUnit.unit)))) (af.ite (decide (Prod.fst (Prod.fst q8) = v10)) (af.ret (K.val (Ty.pair ak Ty.unit) ((zero (Ty.slc ae), zero ab, 13, zero Ty.unit), PUnit.unit))) (af.loop [] jK (lp i9 5) [(3, K.val ae v3), (4, K.ptr 0 ah []), (6, K.ptr (0 + 1) tId []), (8, K.ptr (0 + 1 + 1) ak []), (9, K.ptr (0 + 1 + 1 + 1) ak []), (10, K.val ae (Prod.fst (Prod.fst q8)))] [(0, Bx.cell ah b0), (0 + 1, Bx.cell tId b1), (0 + 1 + 1, Bx.cell ak b2), (0 + 1 + 1 + 1, Bx.obj ak (K.agg (Ty.pair (Ty.slc ae) (Ty.pair ab (Ty.pair ae Ty.unit))) (K.kcons (K.sl (0 + 1 + 1 + 1 + 1) ae) (K.kcons (K.val ab b3) (K.kcons (K.val ae b3_1) K.knil))))), (0 + 1 + 1 + 1 + 1, Bx.row ae (b4 ++ List.set (List.replicate 1 (zero ae)) 0 v10))]))))) (af.ret (K.val (Ty.pair ak Ty.unit) ((zero (Ty.slc ae), zero ab, 9, zero Ty.unit), PUnit.unit)))
theorem Bn (v3 : den ae) (v10 : den ae) (b0 : den ah) (b1 : den tId) (b2 : den ak) (b3 : den ab) (b3_1 : den ae) (b4 : List (den ae)) : aj nC Cj 5000 [] jK (lp i9 5) (yw v3 v10 b0 b1 b2 b3 b3_1 b4) = E1 v3 v10 b0 b1 b2 b3 b3_1 b4 := by kernel_rfl
noncomputable abbrev dT : Fx := { fn := dy, ann := { loops := [(9, { keep := [9, 12, 79, 80] })] }, share := true }
noncomputable abbrev fL : a7 := { D := { T := a8, F := [(sO, sY), (gv, gr), (oI, oS), (oE, oH), (qh, qB)], R := [], ovl := [] }, inl := [] }
noncomputable abbrev p6 : bo := .data o5
theorem zq (h_l11_few : ap prog [] sO sY) (h_lookup_Walk : ap prog [] gv gr) (h_r10_Right : ap prog [] oI oS) (h_l11_alive : ap prog [] oE oH) (h_r11_Walk : ap prog [] qh qB) : XOk prog fL := xok (au (au (au (au (au (aI aS aC) h_r11_Walk) h_l11_alive) h_r10_Right) h_lookup_Walk) h_l11_few) (by kernel_rfl) aK aW aV
noncomputable def p5 (o : den ah) (no : den ae) (hops : den ae) (id : den tId) : af := af.req True (af.all (den ah) (fun (q4 : den ah) ↦ q4 = (yP (Prod.fst o), PUnit.unit)) fun (q4 : den ah) ↦ af.req (List.length (Prod.fst q4) ≤ 1000000) (af.all (den (Ty.pair (Ty.slc ae) (Ty.pair ab (Ty.pair ae Ty.unit)))) (fun (q5 : den (Ty.pair (Ty.slc ae) (Ty.pair ab (Ty.pair ae Ty.unit)))) ↦ q5 = (Prod.fst (aU (Prod.fst q4) no id hops), Prod.fst (Prod.snd (aU (Prod.fst q4) no id hops)), Prod.snd (Prod.snd (aU (Prod.fst q4) no id hops)), PUnit.unit)) fun (q5 : den (Ty.pair (Ty.slc ae) (Ty.pair ab (Ty.pair ae Ty.unit)))) ↦ af.req (List.length (Prod.fst q4) ≤ 1000000) (af.all (den Ty.bool) (fun (q6 : den Ty.bool) ↦ q6 = a5 (Prod.fst q4)) fun (q6 : den Ty.bool) ↦ af.ite (bif bif !q6 then true else decide (hops < 0) then true else decide (16 < hops)) (af.req True (af.all (den Ty.bool) (fun (q7 : den Ty.bool) ↦ q7 = true) fun (q7 : den Ty.bool) ↦ af.ret (K.val (Ty.pair Ty.bool Ty.unit) (bif bif bif q7 then decide (Prod.fst (Prod.snd (Prod.snd q5)) = 1) else false then decide (lnx ae (Prod.fst q5) = 0) else false then eqb ab (Prod.fst (Prod.snd q5)) (zero (Ty.pair ae (Ty.pair tId Ty.unit))) else false, PUnit.unit)))) (af.req (a5 (Prod.fst q4) = true ∧ 0 ≤ hops ∧ hops ≤ 16 ∧ List.length (Prod.fst q4) ≤ 1000000) (af.all (den ak) (fun (q7 : den ak) ↦ q7 = (Prod.fst (aU (Prod.fst q4) no id hops), Prod.fst (Prod.snd (aU (Prod.fst q4) no id hops)), Prod.snd (Prod.snd (aU (Prod.fst q4) no id hops)), PUnit.unit)) fun (q7 : den ak) ↦ af.req (cG [(bif bif !decide (Prod.fst (Prod.snd (Prod.snd q5)) = Prod.fst (Prod.snd (Prod.snd q7))) then true else !eqb ab (Prod.fst (Prod.snd q5)) (Prod.fst (Prod.snd q7)) then true else !decide (lnx ae (Prod.fst q5) = lnx ae (Prod.fst q7)), false)] True) (af.ite (bif bif bif !decide (Prod.fst (Prod.snd (Prod.snd q5)) = Prod.fst (Prod.snd (Prod.snd q7))) then true else !eqb ab (Prod.fst (Prod.snd q5)) (Prod.fst (Prod.snd q7)) then true else !decide (lnx ae (Prod.fst q5) = lnx ae (Prod.fst q7)) then true else !true) (af.ret (K.val (Ty.pair Ty.bool Ty.unit) (false, PUnit.unit))) (af.loop [] dT (lp dy 9) [(9, K.val (Ty.slc ae) (Prod.fst q5)), (12, K.ptr 0 ak []), (79, K.val ae (lnx ae (Prod.fst q5))), (80, K.val ae 0)] [(0, Bx.cell ak q7)])))))))
theorem vQ (o : den ah) (no : den ae) (hops : den ae) (id : den tId) : aj fL p6 5000 [] dT (az dy) (Env.of (aF dS (o, no, hops, id, ()) 0) []) = p5 o no hops id := by kernel_rfl
noncomputable def nN (v9 : den (Ty.slc ae)) (v79 : den ae) (v80 : den ae) (b0 : den ak) : Env := Env.of [(9, K.val (Ty.slc ae) v9), (12, K.ptr 0 ak []), (79, K.val ae v79), (80, K.val ae v80)] [(0, Bx.cell ak b0)]
noncomputable def vm (v9 : den (Ty.slc ae)) (v79 : den ae) (v80 : den ae) (b0 : den ak) : af := af.ite (decide (v80 < v79)) (af.req (inB v80 (lnx ae v9)) (af.req (inB v80 (lnx ae (Prod.fst b0))) (af.ite (!decide (el ae v9 v80 = el ae (Prod.fst b0) v80)) (af.ret (K.val (Ty.pair Ty.bool Ty.unit) (false, PUnit.unit))) (af.loop [] dT (lp dy 9) [(9, K.val (Ty.slc ae) v9), (12, K.ptr 0 ak []), (79, K.val ae v79), (80, K.val ae (IntKind.wrap IntKind.i64 (v80 + 1)))] [(0, Bx.cell ak b0)])))) (af.ret (K.val (Ty.pair Ty.bool Ty.unit) (true, PUnit.unit)))
theorem lz (v9 : den (Ty.slc ae)) (v79 : den ae) (v80 : den ae) (b0 : den ak) : aj fL p6 5000 [] dT (lp dy 9) (nN v9 v79 v80 b0) = vm v9 v79 v80 b0 := by kernel_rfl
end Go.Proofs.Ytimdnodkabnbfaa
namespace Go.Proofs.Ytimdnodkabnbfaa
open Go Go.RowKit
theorem E6 : ap prog [] mf mq :=
 bw (S := mq) (Fb AY) (fx := u5) DU (by kernel_rfl) (fun _ _ => trivial) (T := fun x => wF x.1 x.2.1 x.2.2.1) (fun x => Bs x.1 x.2.1 x.2.2.1) fun O w0 x _ _ => by
  obtain ⟨y, self, id, ⟨⟩⟩ := x
  refine ⟨fun _ => trivial, _, rfl, Prod.ext ?_ rfl⟩
  show _ = fB self id y
  unfold fB
  rw [mW, mW]
abbrev GC3 (O : Nat → Prop) (w0 : World) (y : Mem) := br prog ju (Cx.base O w0) (bP prog O w0 od fun z => z = (y, ()))
theorem n9 : XOk prog ju := Fg E6
def Ir (O : Nat → Prop) (w0 : World) (id self : List Int) (l : List Mem) (z : Mem) (hm : l.length ≤ maxLen) :=
 PLift.up <| bf (σ := Mem × Bool) l.length (fun i s => s = (l.take i).foldl (jF id self) (noM, false))
  (fun i s => GC3 O w0 (fg id self l) [] e9 (lp eH 4) (sQ s.2 l (lnx ab l) (i : Nat) id self z s.1))
  (fun i s hi hs ih => aB n9 (nK s.2 l _ _ id self z s.1) (by
   have e : (l.take (i + 1)).foldl (jF id self) (noM, false) = jF id self s l[i] := by
    rw [List.take_succ_eq_append_getElem hi, List.foldl_append, ← hs]; rfl
   refine ⟨fun _ => ⟨a6 hi, trivial, fun _ _ => trivial, ?_⟩, fun hc => absurd hi (by rw [bB] at hc; exact of_decide_eq_false hc)⟩
   rw [bM hi, bG hi hm]
   refine ⟨fun hc => ih (l[i], true) ?_, fun hc => ih s ?_⟩
   ·have hc : (bif fB self id l[i].2.1 then bif !s.2 then true else fB self l[i].2.1 s.1.2.1 else false) = true := hc
    rw [e]; unfold jF; rw [hc]; rfl
   ·have hc : (bif fB self id l[i].2.1 then bif !s.2 then true else fB self l[i].2.1 s.1.2.1 else false) = false := hc
    rw [e]; unfold jF; rw [hc]; rfl))
  (fun s hs => aB n9 (nK s.2 l _ _ id self z s.1) ⟨fun hc => absurd (of_decide_eq_true hc) (Int.lt_irrefl _), fun _ => ⟨_, rfl, by
   rw [List.take_length] at hs
   show (s.1, ()) = (fg id self l, ())
   unfold fg
   rw [hs]⟩⟩)
theorem Fu : ap prog [] mu me :=
 bw (S := me) n9 (fx := e9) Dv (by kernel_rfl) (fun _ _ => trivial) (T := fun x => wG x.1 x.2.1 x.2.2.1) (fun x => Bd x.1 x.2.1 x.2.2.1) fun O w0 x hk _ =>
  (Ir O w0 x.1 x.2.1 x.2.2.1 (zero ab) hk.2.2.1.1).down 0 (noM, false) (Nat.zero_le _) rfl
theorem MT (self : Int) (nos : List Int) (m : Mem) : (nos.any fun x => bif decide (x = m.1) then !decide (x = self) else false) = aJ self nos m := by
 unfold aJ
 by_cases h : m.1 = self
 ·rw [decide_eq_true h]
  refine List.any_eq_false.2 fun x _ => ?_
  by_cases hx : x = m.1
  ·rw [decide_eq_true hx, decide_eq_true (hx.trans h)]; decide
  ·rw [decide_eq_false hx]; exact fun h => Bool.noConfusion h
 ·rw [decide_eq_false h]
  show _ = nos.any fun x => decide (x = m.1)
  congr 1
  funext x
  by_cases hx : x = m.1
  ·rw [decide_eq_true hx, decide_eq_false (fun e : x = self => h (hx.symm.trans e))]; rfl
  ·rw [decide_eq_false hx]; rfl
abbrev GWo (O : Nat → Prop) (w0 : World) (bk : Option Nat) (s : List Mem) := br prog jm (rcx O w0 bk) (qx prog O w0 bk ab s)
def MD (O : Nat → Prop) (w0 : World) (bk : Option Nat) (l : List Mem) (nos : List Int) (self : Int) (i : Nat) (m : Mem) (b y : List Mem) (hn : nos.length ≤ maxLen) (hb : b.length ≤ 1000000)
    (next : GWo O w0 bk y [] cm (lp cj 3) (nB nos self l (lnx ab l) (IntKind.wrap .i64 (((i : Nat) : Int) + 1)) (b ++ [m].filter fun m => !aJ self nos m))) :=
  PLift.up <| bf (σ := Bool) nos.length (fun j g => g = (nos.take j).any fun x => bif decide (x = m.1) then !decide (x = self) else false)
    (fun j g => GWo O w0 bk y [] cm (lp cj 7) (sS nos self g l (lnx ab l) (i : Nat) nos (lnx ae nos) (j : Nat) b m))
    (fun j g hj hs ih => fE jA (nT nos self g l _ _ nos _ _ b m) (by
      refine ⟨fun _ => ⟨a6 hj, ?_⟩, fun hc => absurd hj (by rw [bB (e := ae)] at hc; exact of_decide_eq_false hc)⟩
      rw [bM (e := ae) hj, bG hj hn]
      refine ih _ ?_
      rw [List.take_succ_eq_append_getElem hj, List.any_append, ← hs]
      cases g <;> simp))
    (fun g hs => fE jA (nT nos self g l _ _ nos _ _ b m) (by
      rw [List.take_length, MT] at hs
      refine ⟨fun hc => absurd (of_decide_eq_true hc) (Int.lt_irrefl _), fun _ => ⟨fun hc => ⟨?_, ?_⟩, fun hc => ?_⟩⟩
      · rw [List.length_append]; exact Nat.le_trans (show b.length + 1 ≤ 1000001 by omega) (by decide)
      · have hc : (!g) = true := hc
        rw [hs] at hc
        have e : [m].filter (fun m => !aJ self nos m) = [m] := List.filter_cons_of_pos (p := fun m : Mem => !aJ self nos m) hc
        rw [e] at next
        exact next
      · have hc : (!g) = false := hc
        rw [hs] at hc
        have e : [m].filter (fun m => !aJ self nos m) = [] := List.filter_cons_of_neg (p := fun m : Mem => !aJ self nos m) (by rw [hc]; decide)
        rw [e, List.append_nil] at next
        exact next))
def JD (O : Nat → Prop) (w0 : World) (bk : Option Nat) (l : List Mem) (nos : List Int) (self : Int) (hl : l.length ≤ 1000000) (hn : nos.length ≤ maxLen) :=
 PLift.up <| bf (σ := List Mem) l.length (fun i b => b = (l.take i).filter fun m => !aJ self nos m)
  (fun i b => GWo O w0 bk (l.filter fun m => !aJ self nos m) [] cm (lp cj 3) (nB nos self l (lnx ab l) (i : Nat) b))
  (fun i b hi hs ih => fE jA (nQ nos self l _ _ b) (by
   refine ⟨fun _ => ⟨a6 hi, ?_⟩, fun hc => absurd hi (by rw [bB] at hc; exact of_decide_eq_false hc)⟩
   rw [bM hi]
   have hbl : b.length ≤ 1000000 := by
    rw [hs]; exact Nat.le_trans (List.length_filter_le _ _) (by rw [List.length_take]; omega)
   refine (MD O w0 bk l nos self i l[i] b _ hn hbl ?_).down 0 false (Nat.zero_le _) rfl
   rw [bG hi (Nat.le_trans hl (by decide))]
   refine ih _ ?_
   rw [List.take_succ_eq_append_getElem hi, List.filter_append, ← hs]))
  (fun b hs => fE jA (nQ nos self l _ _ b) ⟨fun hc => absurd (of_decide_eq_true hc) (Int.lt_irrefl _), fun _ => ⟨(by simp [vok]), by
   show K.val (.slc ab) (ml ab b 0 (List.length b)) = K.val (.slc ab) (l.filter fun m => !aJ self nos m)
   rw [xq _ rfl, hs, List.take_length]⟩⟩)
theorem C7 : lj prog [] l7 pT :=
 DE jA (fx := cm) rfl DP (by kernel_rfl) (T := fun _ y => ww y.1 y.2.1 y.2.2.1) (fun xs y _ => A2 y.1 y.2.1 y.2.2.1) fun O w0 bk xs y hxl hy hp => by
  obtain ⟨l, nos, self, ⟨⟩⟩ := y
  exact (JD O w0 bk l nos self hp hy.2.1.1).down 0 [] (Nat.zero_le _) rfl
theorem Hb {l : List Mem} {c : Bool} (h : decide (lnx ab l = 0) = c) : c = true ↔ l = [] := by
 rw [← h]
 constructor
 ·intro h
  have h : ((l.length : Nat) : Int) = 0 := of_decide_eq_true h
  exact List.eq_nil_of_length_eq_zero (by omega)
 ·intro h
  rw [h]; rfl
theorem JH : ap prog [] qG qi :=
 bw (S := qi) (Kl wa C7) (fx := zz) ID (by kernel_rfl) (fun h => by cases h) (T := fun x => BM x.1 x.2.1) (fun x => E3 x.1 x.2.1) fun O w0 x _ hp => by
  obtain ⟨n, nos, ⟨⟩⟩ := x
  obtain ⟨p1, p2⟩ : n.2.2.1.length ≤ 1000000 ∧ n.2.2.2.1.length ≤ 1000000 := hp
  have leaf : ∀ {p : Nd}, eN n nos = p → ∃ z, bq ub (K.val (Ty.pair ag Ty.unit) (p, PUnit.unit)) = some z ∧ z = (eN n nos, ()) := fun {p} e => ⟨_, rfl, by rw [e]⟩
  have hpr : ∀ c : Bool, decide (lnx ab (List.filter (fun m => !aJ n.1.1 nos m) [n.2.1]) = 0) = c → aJ n.1.1 nos n.2.1 = c := fun c h => by
   have := Hb h
   cases hg : aJ n.1.1 nos n.2.1 with
   | true =>
    rw [List.filter_cons_of_neg (p := fun m : Mem => !aJ n.1.1 nos m) (by rw [hg]; decide)] at this
    exact (this.2 rfl).symm
   | false =>
    rw [List.filter_cons_of_pos (p := fun m : Mem => !aJ n.1.1 nos m) (by rw [hg]; rfl)] at this
    cases hc : c with
    | false => rfl
    | true => cases this.1 hc
  refine ⟨p1, p2, fun h1 => ⟨?_, trivial, bg ⟨fun h2 => ⟨(show 1 ≤ 1000000 by decide), fun h3 => leaf ?_, fun h3 => leaf ?_⟩, fun h2 => leaf ?_⟩⟩, fun h1 => ⟨trivial, bg ⟨fun h2 => ⟨(show 1 ≤ 1000000 by decide), fun h3 => leaf ?_, fun h3 => leaf ?_⟩, fun h2 => leaf ?_⟩⟩⟩
  ·have := (Hb h1).1 rfl
   rw [this]; exact (show 1 ≤ bF by decide)
  all_goals unfold eN
  ·have := (Hb h1).1 rfl
   rw [this, hpr true h3, h2]; rfl
  ·have := (Hb h1).1 rfl
   rw [this, hpr false h3, h2]; rfl
  ·have := (Hb h1).1 rfl
   rw [this, h2]; rfl
  ·have h1 : decide (lnx ab (n.2.2.1.filter fun m => !aJ n.1.1 nos m) = 0) = false := h1
   unfold k8
   rw [h1, hpr true h3, h2]; rfl
  ·have h1 : decide (lnx ab (n.2.2.1.filter fun m => !aJ n.1.1 nos m) = 0) = false := h1
   unfold k8
   rw [h1, hpr false h3, h2]; rfl
  ·have h1 : decide (lnx ab (n.2.2.1.filter fun m => !aJ n.1.1 nos m) = 0) = false := h1
   unfold k8
   rw [h1, h2]; rfl
theorem JF : ap prog [] qD qg :=
 bw (S := qg) (J9 AY Fu) (fx := z9) Io (by kernel_rfl) (fun h => by cases h) (T := fun x => vH x.1 x.2.1) (fun x => ES x.1 x.2.1) fun O w0 x _ hp => by
  obtain ⟨n, id, ⟨⟩⟩ := x
  obtain ⟨p1, p2, p3⟩ : 1 ≤ n.2.2.1.length ∧ n.2.2.1.length ≤ 1000 ∧ n.2.2.2.1.length ≤ 1000 := hp
  have leaf : ∀ {p : Ans}, jG n id = p → ∃ z, bq t6 (K.val (Ty.pair ai Ty.unit) (p, PUnit.unit)) = some z ∧ z = (jG n id, ()) := fun {p} e => ⟨_, rfl, by rw [e]⟩
  have e0 : List.replicate 0 (zero ab) ++ n.2.2.2.1 = n.2.2.2.1 := rfl
  rw [vH, e0]
  refine ⟨a6 p1, trivial, bg ⟨fun h1 => leaf ?_, fun h1 => ⟨Nat.le_trans p3 (by decide), ?_, trivial, bg ⟨fun h2 => leaf ?_, fun h2 => leaf ?_⟩⟩⟩⟩
  ·unfold jG; rw [h1]; rfl
  ·rw [List.length_append]; exact Nat.le_trans (show n.2.2.2.1.length + n.2.2.1.length ≤ 2000 by omega) (by decide)
  ·unfold jG; rw [h1]
   have h2 : decide ((fg id n.1.2.1 (n.2.2.2.1 ++ n.2.2.1)).1 < 0) = true := h2
   rw [h2]; rfl
  ·unfold jG; rw [h1]
   have h2 : decide ((fg id n.1.2.1 (n.2.2.2.1 ++ n.2.2.1)).1 < 0) = false := h2
   rw [h2]; rfl
end Go.Proofs.Ytimdnodkabnbfaa
namespace Go.Proofs.Ytimdnodkabnbfaa
open Go Go.RowKit
theorem gY {a : List Int} (h : kP a) : 0 ≤ vB a ∧ vB a < fQ := by
 have := ia h.2
 rw [h.1] at this
 exact this
theorem Oh {x a b : List Int} (hx : kP x) (ha : kP a) (hb : kP b) (hab : a ≠ b) : fm x a b = true ↔ 0 < rky fQ (vB a) (vB x) ∧ rky fQ (vB a) (vB x) ≤ rky fQ (vB a) (vB b) := by
 have rx := gY hx
 have ra := gY ha
 have rb := gY hb
 have hne : vB a ≠ vB b := fun e => hab (uQ (ha.1.trans hb.1.symm) ha.2 hb.2 e)
 unfold fm rky
 rw [if_neg hab]
 generalize fQ = W at *
 by_cases h : vB a < vB b
 ·rw [if_pos h]
  by_cases h1 : vB a ≤ vB x <;> by_cases h2 : vB a ≤ vB b <;> simp [h1, h2] <;> omega
 ·rw [if_neg h]
  by_cases h1 : vB a ≤ vB x <;> by_cases h2 : vB a ≤ vB b <;> simp [h1, h2] <;> omega
theorem LW {self id x : List Int} (hs : kP self) (hi : kP id) (hx : kP x) (hne : self ≠ id) : fB self id x = true ↔ 0 < rky fQ (vB self) (vB x) ∧ rky fQ (vB self) (vB x) < rky fQ (vB self) (vB id) := by
 have ik := Oh hx hs hi hne
 unfold fB
 by_cases h1 : x = self
 ·rw [decide_eq_true h1, h1, Jz]; simp
 rw [decide_eq_false h1]
 by_cases h2 : x = id
 ·rw [decide_eq_true h2, h2]; simp
 rw [decide_eq_false h2]
 show fm x self id = true ↔ _
 rw [ik]
 have hn : rky fQ (vB self) (vB x) ≠ rky fQ (vB self) (vB id) := fun e => h2 (uQ (hx.1.trans hi.1.symm) hx.2 hi.2 (LD (gY hs) (gY hx) (gY hi) e))
 omega
theorem Jx {self id x : List Int} (h : fB self id x = true) : x ≠ self := fun e => by
 unfold fB at h
 rw [decide_eq_true e] at h
 cases h
def FT (self id : List Int) (s : Mem × Int) (t : Mem × Bool) : Prop := (s = (zero ab, 6) ∧ t = (noM, false)) ∨ (s.2 = 0 ∧ t.2 = true ∧ t.1 = s.1 ∧ hH self id s.1 = true ∧ okT ab s.1)
theorem Kw {self id : List Int} (hs : kP self) (hi : kP id) {s : Mem × Int} {t : Mem × Bool} (h : FT self id s t) {m : Mem} (hm : okT ab m) : FT self id (if hH self id m = true then eC self s m else s) (jF id self t m) := by
 have eb : hH self id m = fB self id m.2.1 := rfl
 unfold jF
 rw [← eb]
 cases hb : hH self id m with
 | false => rw [if_neg (by decide)]; exact h
 | true =>
  rw [if_pos rfl]
  rcases h with ⟨rfl, rfl⟩ | ⟨h1, h2, h3, h4, h5⟩
  ·exact .inr ⟨rfl, rfl, rfl, hb, hm⟩
  ·have hmi := o3 hm
   have hsi := o3 h5
   have nz := Jx (show fB self id m.2.1 = true from hb)
   have hiff : fB self m.2.1 s.1.2.1 = decide (cY (cf self s.1.2.1) (cf self m.2.1) < 0) := by
    refine Bool.eq_iff_iff.2 ?_
    rw [LW hs hmi hsi (Ne.symm nz), decide_eq_true_iff, xJ, Jk hs hsi, Jk hs hmi]
    have nz2 := Jx (show fB self id s.1.2.1 = true from h4)
    have r1 := AP (gY hs) (gY hsi)
    have : rky fQ (vB self) (vB s.1.2.1) ≠ 0 := fun e => nz2 (uQ (hsi.1.trans hs.1.symm) hsi.2 hs.2 (Nx (gY hs) (gY hsi) e))
    omega
   unfold eC
   rw [h1, h2, h3, hiff]
   show FT self id (bif decide (cY (cf self s.1.2.1) (cf self m.2.1) < 0) then (m, 0) else s) (bif decide (cY (cf self s.1.2.1) (cf self m.2.1) < 0) then (m, true) else t)
   cases decide (cY (cf self s.1.2.1) (cf self m.2.1) < 0) with
   | true => exact .inr ⟨rfl, rfl, rfl, hb, hm⟩
   | false => exact .inr ⟨h1, h2, h3, h4, h5⟩
theorem v4 {self id : List Int} (hs : kP self) (hi : kP id) : ∀ (l : List Mem) (s : Mem × Int) (t : Mem × Bool), OkM l → FT self id s t → FT self id ((l.filter (hH self id)).foldl (eC self) s) (l.foldl (jF id self) t)
 | [], _, _, _, h => h
 | m :: l, s, t, hk, h => by
  have h' := Kw hs hi h (hk m List.mem_cons_self)
  rw [List.foldl_cons]
  cases hb : hH self id m with
  | false =>
   rw [hb, if_neg (by decide)] at h'
   rw [List.filter_cons_of_neg (by rw [hb]; decide)]
   exact v4 hs hi l s _ (fun x hx => hk x (List.mem_cons_of_mem _ hx)) h'
  | true =>
   rw [hb, if_pos rfl] at h'
   rw [List.filter_cons_of_pos hb, List.foldl_cons]
   exact v4 hs hi l _ _ (fun x hx => hk x (List.mem_cons_of_mem _ hx)) h'
abbrev OkN (n : Nd) : Prop := okT ag n
theorem I6 {n : Nd} (h : OkN n) : okT ab n.1 ∧ okT ab n.2.1 ∧ OkM n.2.2.1 ∧ OkM n.2.2.2.1 := ⟨h.1, h.2.1, h.2.2.1.2, h.2.2.2.1.2⟩
theorem xU {m : Mem} (h : co m = true) : 0 ≤ (m.1 : Int) ∧ (m.1 : Int) < 16 := by
 unfold co at h
 by_cases h1 : (0 : Int) ≤ m.1
 ·rw [decide_eq_true h1] at h
  exact ⟨h1, of_decide_eq_true h⟩
 ·rw [decide_eq_false h1] at h; cases h
theorem N9 {n : Nd} (h : NOk n) {m : Mem} (hm : m ∈ n.2.2.2.1 ++ n.2.2.1) : 0 ≤ (m.1 : Int) := by
 rcases List.mem_append.1 hm with hm | hm
 ·exact (xU (((vq _ _).1 h.fing).1 m hm).1).1
 ·rcases h.succs with hs | hs
  ·rw [hs] at hm
   rw [List.mem_singleton.1 hm]
   exact (xU h.self).1
  ·exact (xU (((vq _ _).1 hs).1 m hm).1).1
theorem MR {n : Nd} (h : NOk n) (hk : OkN n) {id : List Int} (hid : kP id) : jG n id = ((cU n id).1, (cU n id).2.1, ()) := by
 obtain ⟨k1, k2, k3, k4⟩ := I6 hk
 have hkm : OkM (n.2.2.2.1 ++ n.2.2.1) := fun m hm => (List.mem_append.1 hm).elim (k4 m) (k3 m)
 have hc := v4 (o3 k1) hid (n.2.2.2.1 ++ n.2.2.1) (zero ab, 6) (noM, false) hkm (.inl ⟨rfl, rfl⟩)
 unfold jG cU
 rw [(kX n).2 h]
 cases fm id n.1.2.1 (el ab n.2.2.1 0).2.1 with
 | true => rfl
 | false =>
  have e3 : fg id n.1.2.1 (n.2.2.2.1 ++ n.2.2.1) = ((n.2.2.2.1 ++ n.2.2.1).foldl (jF id n.1.2.1) (noM, false)).1 := rfl
  have e1 : cC id n.1.2.1 (n.2.2.2.1 ++ n.2.2.1) = ((n.2.2.2.1 ++ n.2.2.1).filter (hH n.1.2.1 id)).foldl (eC n.1.2.1) (zero ab, 6) := rfl
  rw [← e1] at hc
  rcases hc with ⟨c1, c2⟩ | ⟨c1, c2, c3, c4, c5⟩
  ·rw [e3, c2, c1]; rfl
  ·have hin := CA c1
   have hno := N9 h hin
   rw [e3, c3, c1, decide_eq_false (show ¬ ((cC id n.1.2.1 (n.2.2.2.1 ++ n.2.2.1)).1.1 : Int) < 0 from Int.not_lt.2 hno)]
   rfl
theorem Ef (l : List Nd) (no : Int) : ((dJ l no).2 = true ∧ ku (bH l) no = (dJ l no).1 ∧ (dJ l no).1.1 = no ∧ ∃ n ∈ l, n.1 = (dJ l no).1) ∨ ((dJ l no).2 = false ∧ ku (bH l) no = noM) := by
 unfold dJ ku bH
 rw [List.find?_map]
 cases h : l.find? ((fun m : Mem => decide (m.1 = no)) ∘ sfN) with
 | none =>
  have h' : l.find? (fun n => decide (n.1.1 = no)) = none := h
  rw [h']; exact .inr ⟨rfl, rfl⟩
 | some n =>
  have h' : l.find? (fun n => decide (n.1.1 = no)) = some n := h
  rw [h']
  exact .inl ⟨rfl, rfl, of_decide_eq_true (List.find?_some (p := fun n : Nd => decide (n.1.1 = no)) h'), n, List.mem_of_find?_eq_some h', rfl⟩
def kN (l : List Nd) (m : Mem) : Bool := bif decide (0 ≤ (ku (bH l) m.1).1) then !decide (ku (bH l) m.1 = m) else false
theorem EJ {l : List Nd} (hr : ∀ n ∈ l, aO n = true) (m : Mem) : kN l m = kd l m := by
 unfold kN kd
 rcases Ef l m.1 with ⟨h1, h2, h3, n, hn, hnm⟩ | ⟨h1, h2⟩
 ·have hno := (xU ((kX n).1 (hr n hn)).self).1
  rw [hnm] at hno
  rw [h2, h1, decide_eq_true hno]
 ·rw [h1, h2]; rfl
abbrev GR3 (O : Nat → Prop) (w0 : World) (y : Bool) := br prog jP (Cx.base O w0) (bP prog O w0 rC fun z => z = (y, ()))
theorem kE : XOk prog jP := IP wQ II zE Cv H7
def GP (O : Nat → Prop) (w0 : World) (o : Ov) (i : Nat) (K : List Mem) (y : Bool) (hm : K.length ≤ maxLen) (hbad : (K.all fun m => !kN o.1 m) = false → y = false)
    (hnext : (K.all fun m => !kN o.1 m) = true → GR3 O w0 y [] dk (lp dt 3) (pv (bH o.1) o.1 (lnx ag o.1) (IntKind.wrap .i64 (((i : Nat) : Int) + 1)) o)) :=
  PLift.up <| bf (σ := Unit) K.length (fun j _ => ((K.take j).all fun m => !kN o.1 m) = true)
    (fun j _ => GR3 O w0 y [] dk (lp dt 8) (wq (bH o.1) o.1 (lnx ag o.1) (i : Nat) K (lnx ab K) (j : Nat) o))
    (fun j _ hj hs ih => aB kE (p8 _ _ _ _ K _ _ o) (by
      refine ⟨fun _ => ⟨a6 hj, trivial, bg ?_⟩, fun hc => absurd hj (by rw [bB] at hc; exact of_decide_eq_false hc)⟩
      rw [bM hj, bG hj hm]
      have key : ∀ c : Bool, (bif decide (0 ≤ (ku (bH o.1) K[j].1).1) then !eqb ab (ku (bH o.1) K[j].1) K[j] else false) = c → kN o.1 K[j] = c := fun c h => by
        unfold kN; rw [iI] at h; exact h
      refine ⟨fun hc => ⟨_, rfl, ?_⟩, fun hc => ih () ?_⟩
      · have hk := key true hc
        have : (K.all fun m => !kN o.1 m) = false := List.all_eq_false.2 ⟨K[j], List.getElem_mem hj, by rw [hk]; decide⟩
        rw [hbad this]
      · have hk := key false hc
        rw [List.take_succ_eq_append_getElem hj, List.all_append, hs]
        simp [hk]))
    (fun _ hs => aB kE (p8 _ _ _ _ K _ _ o) ⟨fun hc => absurd (of_decide_eq_true hc) (Int.lt_irrefl _), fun _ => hnext (by rw [List.take_length] at hs; exact hs)⟩)
theorem vg {l : List Nd} (h : a5 l = true) : ∀ n ∈ l, aO n = true := fun _ hn => vX h hn
def K2 (O : Nat → Prop) (w0 : World) (o : Ov) (hm : o.1.length ≤ 1000000) :=
 PLift.up <| bf (σ := Unit) o.1.length (fun i _ => ∀ j, j < i → xR o.1 (j : Nat) = false ∧ ((be (el ag o.1 (j : Nat))).all fun m => !kN o.1 m) = true)
  (fun i _ => GR3 O w0 (a5 o.1) [] dk (lp dt 3) (pv (bH o.1) o.1 (lnx ag o.1) (i : Nat) o))
  (fun i _ hi hs ih => aB kE (qc _ o.1 _ _ o) (by
   have hw : i < 1000000 := Nat.lt_of_lt_of_le hi hm
   have hsm : IntKind.wrap .i64 (((i : Nat) : Int) - 1) = (i : Int) - 1 := cB (n := (i : Int) - 1) (by omega)
   refine ⟨fun _ => ⟨a6 hi, trivial, fun _ h0 => ?_, bg ?_⟩, fun hc => absurd hi (by rw [bB (e := ag)] at hc; exact of_decide_eq_false hc)⟩
   ·have h0 : (0 : Int) < (i : Nat) := of_decide_eq_true h0
    rw [hsm]
    exact ⟨by omega, show (i : Int) - 1 < ((o.1.length : Nat) : Int) by omega⟩
   ·rw [hsm]
    have hb : ∀ c : Bool, (bif !aO (el ag o.1 (i : Nat)) then true else bif decide ((0 : Int) < (i : Nat)) then decide ((el ag o.1 (i : Nat)).1.1 ≤ (el ag o.1 ((i : Nat) - 1)).1.1) else false) = c → xR o.1 (i : Nat) = c := fun c h => h
    refine ⟨fun hc => ⟨_, rfl, ?_⟩, fun hc => ?_⟩
    ·have := hb true hc
     rw [nh hi (by unfold fM; rw [this]; rfl)]
    ·have hbn := hb false hc
     have hr : aO (el ag o.1 (i : Nat)) = true := by
      cases hn : aO (el ag o.1 (i : Nat)) with
      | true => rfl
      | false => unfold xR at hbn; rw [hn] at hbn; cases hbn
     have hkl := tl hr
     refine ⟨Nat.le_trans hkl (by decide), bg ((GP O w0 o i (be (el ag o.1 (i : Nat))) (a5 o.1) (Nat.le_trans hkl (by decide)) (fun h => ?_) (fun h => ?_)).down 0 () (Nat.zero_le _) rfl)⟩
     ·cases hg : a5 o.1 with
      | false => rfl
      | true =>
       exfalso
       have hno := zY hg hi
       unfold fM at hno
       rw [hbn] at hno
       have hno : ((be (el ag o.1 (i : Nat))).all fun m => !kd o.1 m) = true := hno
       have e : (fun m => !kN o.1 m) = fun m => !kd o.1 m := by funext m; rw [EJ (vg hg)]
       rw [e, hno] at h
       cases h
     ·rw [bG hi (Nat.le_trans hm (by decide))]
      refine ih () fun j hj => ?_
      rcases Nat.lt_succ_iff_lt_or_eq.1 hj with h1 | h1
      ·exact hs j h1
      ·subst h1; exact ⟨hbn, h⟩))
  (fun _ hs => aB kE (qc _ o.1 _ _ o) ⟨fun hc => absurd (of_decide_eq_true hc) (Int.lt_irrefl _), fun _ => ⟨trivial, bg ⟨_, rfl, by
   show (cq (bH o.1), ()) = (a5 o.1, ())
   have hr : ∀ n ∈ o.1, aO n = true := fun n hn => by
    obtain ⟨i, hi, rfl⟩ := List.getElem_of_mem hn
    have hb := (hs i hi).1
    unfold xR at hb
    rw [bM (e := ag) hi] at hb
    cases hq : aO o.1[i] with
    | true => rfl
    | false => rw [hq] at hb; cases hb
   unfold a5
   rw [show (List.range o.1.length).all (fun i => fM o.1 (i : Nat)) = true from List.all_eq_true.2 fun i hi => by
    obtain ⟨h1, h2⟩ := hs i (List.mem_range.1 hi)
    unfold fM
    rw [h1]
    show ((be (el ag o.1 (i : Nat))).all fun m => !kd o.1 m) = true
    have e : (fun m => !kd o.1 m) = fun m => !kN o.1 m := by funext m; rw [EJ hr]
    rw [e]; exact h2]
   rfl⟩⟩⟩)
theorem IQ : ap prog [] oI oS :=
 bw (S := oS) kE (fx := dk) G5 (by kernel_rfl) (fun h => by cases h) (T := fun x => zX x.1) (fun x => Db x.1) fun O w0 x _ hp =>
  ⟨hp, bg ((K2 O w0 x.1 hp).down 0 () (Nat.zero_le _) (fun j hj => absurd hj (Nat.not_lt_zero _)))⟩
theorem F1 {l : List Nd} (hr : ∀ n ∈ l, aO n = true) (no : Int) : uI l no = bZ l no := by
 unfold uI
 rcases Ef l no with ⟨h1, h2, h3, n, hn, hnm⟩ | ⟨h1, h2⟩
 ·have hno := (xU ((kX n).1 (hr n hn)).self).1
  rw [hnm, h3] at hno
  rw [h2, decide_eq_true h3, decide_eq_true hno]
  have : bZ l no = true := List.any_eq_true.2 ⟨n, hn, decide_eq_true (by rw [hnm]; exact h3)⟩
  rw [this]; rfl
 ·rw [h2]
  have : bZ l no = false := List.any_eq_false.2 fun n hn hd => by
   have hno : n.1.1 = no := of_decide_eq_true hd
   unfold dJ at h1
   cases hf : l.find? (fun n => decide (n.1.1 = no)) with
   | none => exact absurd hd (List.find?_eq_none.1 hf n hn)
   | some x => rw [hf] at h1; cases h1
  rw [this]
  by_cases hn : noM.1 = no
  ·rw [decide_eq_true hn, ← hn]; rfl
  ·rw [decide_eq_false hn]; rfl
theorem LF {l : List Nd} {no : Int} (h : bZ l no = true) : ∃ n, l.find? (fun n => decide (n.1.1 = no)) = some n ∧ c8 l no = n ∧ n ∈ l ∧ n.1.1 = no := by
 cases hf : l.find? (fun n => decide (n.1.1 = no)) with
 | none =>
  obtain ⟨n, hn, hd⟩ := List.any_eq_true.1 h
  exact absurd hd (List.find?_eq_none.1 hf n hn)
 | some n => exact ⟨n, rfl, by unfold c8; rw [hf]; rfl, List.mem_of_find?_eq_some hf, of_decide_eq_true (List.find?_some (p := fun n : Nd => decide (n.1.1 = no)) hf)⟩
theorem M0 {l : List Nd} {no : Int} (id : List Int) (h : bZ l no = true) : ax l no id = (eV l (c8 l no) id, true) := by
 obtain ⟨n, h1, h2, _⟩ := LF h
 rw [xn id h1, h2]
theorem Od : okT ab noM := ⟨(show (-9223372036854775808 : Int) ≤ -1 ∧ (-1 : Int) ≤ 9223372036854775807 by decide), ⟨rfl, fun x hx => by
 rw [List.eq_of_mem_replicate (show x ∈ List.replicate 32 (zero (Ty.int IntKind.u8)) from hx)]
 exact (show (0 : Int) ≤ 0 ∧ (0 : Int) ≤ 255 by decide)⟩, trivial⟩
theorem No {n : Nd} (h : OkN n) (nos : List Int) (hr : NOk n) : OkN (eN n nos) := by
 obtain ⟨k1, k2, k3, k4⟩ := I6 h
 have hd := DI hr nos
 have s1 : (eN n nos).2.2.1.length ≤ maxLen := Nat.le_trans hd.four (by decide)
 have s2 : (eN n nos).2.2.2.1.length ≤ maxLen := Nat.le_trans hd.many (by decide)
 refine ⟨k1, ?_, ⟨s1, fun m hm => ?_⟩, ⟨s2, fun m hm => k4 m (List.mem_filter.1 hm).1⟩, trivial⟩
 ·show okT ab (bif _ then noM else n.2.1)
  cases (bif !decide (n.2.1 = noM) then aJ n.1.1 nos n.2.1 else false)
  ·exact k2
  ·exact Od
 ·have hm : m ∈ k8 n (n.2.2.1.filter fun m => !aJ n.1.1 nos m) := hm
  cases hq : (n.2.2.1.filter fun m => !aJ n.1.1 nos m) with
  | nil => rw [hq, Ep] at hm; rw [List.mem_singleton.1 hm]; exact k1
  | cons x t => rw [hq, vI, ← hq] at hm; exact k3 m (List.mem_filter.1 hm).1
abbrev GAn (O : Nat → Prop) (w0 : World) (y : Ans) := br prog kS (Cx.base O w0) (bP prog O w0 mn fun z => z = (y, ()))
theorem pN : XOk prog kS := Ga LU zE zH JH wa AY JF
def LY (O : Nat → Prop) (w0 : World) (o : Ov) (n : Nd) (id : List Int) (z : Ans) (hm : (be n).length ≤ 1000) (ho : o.1.length ≤ 1000000) (hr : ∀ n ∈ o.1, aO n = true) (hn : aO n = true) (hk : OkN n) (hid : kP id) :=
 PLift.up <| bf (σ := List Int) (be n).length (fun i b => b = (((be n).take i).filter fun m => !bZ o.1 m.1).map fun m => m.1)
  (fun i b => GAn O w0 (eV o.1 n id) [] fJ (lp fo 4) (uR (be n) (lnx ab (be n)) (i : Nat) o id z n b))
  (fun i b hi hs ih => aB pN (pf _ _ _ o id z n b) (by
   refine ⟨fun _ => ⟨a6 hi, ho, bg ?_⟩, fun hc => absurd hi (by rw [bB] at hc; exact of_decide_eq_false hc)⟩
   rw [bM hi, bG hi (Nat.le_trans hm (by decide)), F1 hr]
   refine ⟨fun hc => ⟨?_, ih _ ?_⟩, fun hc => ih _ ?_⟩
   ·have h1 := List.length_filter_le (fun m : Mem => !bZ o.1 m.1) ((be n).take i)
    rw [List.length_append, hs, List.length_map]
    rw [List.length_take] at h1
    exact Nat.le_trans (show _ + 1 ≤ 1001 by omega) (by decide)
   ·have hc : (!bZ o.1 (be n)[i].1) = true := hc
    rw [List.take_succ_eq_append_getElem hi, List.filter_append, List.map_append, ← hs, List.filter_cons_of_pos (p := fun m : Mem => !bZ o.1 m.1) hc]
    rfl
   ·have hc : (!bZ o.1 (be n)[i].1) = false := hc
    rw [List.take_succ_eq_append_getElem hi, List.filter_append, List.map_append, ← hs, List.filter_cons_of_neg (p := fun m : Mem => !bZ o.1 m.1) (by rw [hc]; decide)]
    simp))
  (fun b hs => aB pN (pf _ _ _ o id z n b) (by
   rw [List.take_length] at hs
   have hb : b = fP o.1 n := hs
   rw [hb]
   have hok := (kX n).1 hn
   have hd := DI hok (fP o.1 n)
   have hkd := No hk (fP o.1 n) hok
   have ha : tY o.1 n = eN n (fP o.1 n) := Ji hn
   have hrd := (kX _).2 hd
   refine ⟨fun hc => absurd (of_decide_eq_true hc) (Int.lt_irrefl _), fun _ => ⟨⟨Nat.le_trans hok.four (by decide), Nat.le_trans hok.many (by decide)⟩, bg ⟨trivial, bg ⟨fun _ => trivial, fun h => ⟨_, rfl, ?_⟩, fun h => ⟨⟨hd.one, Nat.le_trans hd.four (by decide), Nat.le_trans hd.many (by decide)⟩, bg ⟨_, rfl, ?_⟩⟩⟩⟩⟩⟩
   ·have ho : jL (tY o.1 n) id = true := by unfold jL; rw [ha, hrd]; exact h
    show (_, _) = (eV o.1 n id, ())
    unfold eV
    rw [ho, ha]; rfl
   ·have ho : jL (tY o.1 n) id = false := by unfold jL; rw [ha, hrd]; exact h
    show (jG (eN n (fP o.1 n)) id, ()) = (eV o.1 n id, ())
    rw [MR hd hkd hid]
    unfold eV
    rw [ho, ha]; rfl))
theorem GZ : ap prog [] nf nl :=
 bw (S := nl) pN (fx := fJ) Fd (by kernel_rfl) (fun h => by cases h) (T := fun x => yI x.1 x.2.1 x.2.2.1) (fun x => BZ x.1 x.2.1 x.2.2.1) fun O w0 x hk hp => by
  obtain ⟨o, no, id, ⟨⟩⟩ := x
  obtain ⟨p1, p2, p3⟩ : a5 o.1 = true ∧ bZ o.1 no = true ∧ o.1.length ≤ 1000000 := hp
  obtain ⟨n, h1, h2, h3, h4⟩ := LF p2
  have hr := vg p1
  have hkl := tl (hr n h3)
  refine ⟨trivial, bg ?_⟩
  rw [h2]
  refine ⟨Nat.le_trans hkl (by decide), bg ?_⟩
  show br _ _ _ (bP prog O w0 mn fun z => z = (eV o.1 (c8 o.1 no) id, ())) _ _ _ _
  rw [h2]
  exact (LY O w0 o n id (zero ai) (Nat.le_trans hkl (by decide)) p3 hr (hr n h3) (hk.1.1.2 n h3) (I5 hk.2.2.1)).down 0 [] (Nat.zero_le _) rfl
abbrev Tee := den ak
abbrev GW3 (O : Nat → Prop) (w0 : World) (y : WR) := br prog nC (Cx.base O w0) (bP prog O w0 jR fun z => z = ((y.1, y.2.1, y.2.2, ()), ()))
theorem Ai : XOk prog nC := KA zH GZ
theorem Nb (O : Nat → Prop) (w0 : World) (o : Ov) (id : List Int) (hops : Int) (z : Tee) (hr : a5 o.1 = true) (ho : o.1.length ≤ 1000000) (hh : hops ≤ 16) : ∀ (n : Nat) (path : List Int) (no : Int), ((path.length : Nat) : Int) + n = hops + 1 → bZ o.1 no = true →
    GW3 O w0 (bK o.1 id n path no) [] jK (lp i9 5) (yw hops no o id z (zero ab) 0 path)
  | n, path, no, hn, hlv => aB Ai (Bn hops no o id z (zero ab) 0 path) (by
    have e := ou o.1 id n path no
    have hag := M0 id hlv
    have ha2 : (ax o.1 no id).2 = true := by rw [hag]
    have hlv2 := (xY hr id ha2).2
    have leaf : ∀ {p : WR}, bK o.1 id n path no = p → ∃ q, bq jR (K.val (Ty.pair ak Ty.unit) ((p.1, p.2.1, p.2.2, PUnit.unit), PUnit.unit)) = some q ∧ q = (((bK o.1 id n path no).1, (bK o.1 id n path no).2.1, (bK o.1 id n path no).2.2, ()), ()) := fun {p} e =>
      ⟨_, rfl, by rw [e]⟩
    have hl : path.length ≤ 17 := by omega
    rw [ha2] at e
    rw [hag] at e hlv2
    refine ⟨fun h1 => ⟨?_, ⟨hr, hlv, ho⟩, bg ⟨fun h2 => ⟨fun h3 => ⟨?_, leaf (p := (_, _, _)) ?_⟩, fun h3 => leaf (p := (_, _, _)) ?_⟩, fun h2 => ⟨fun h3 => leaf (p := (_, _, _)) ?_, fun h3 => ?_⟩⟩⟩, fun h1 => leaf (p := (_, _, _)) ?_⟩
    · rw [List.length_append]
      exact Nat.le_trans (show path.length + 1 ≤ 18 by omega) (by decide)
    · rw [List.length_append, List.length_append]
      exact Nat.le_trans (show path.length + 1 + 1 ≤ 19 by omega) (by decide)
    rotate_right
    · have h1 : ¬ ((path.length : Nat) : Int) ≤ hops := of_decide_eq_false h1
      have : n = 0 := by omega
      subst this
      rw [e]; rfl
    all_goals
      have h1 : ((path.length : Nat) : Int) ≤ hops := of_decide_eq_true h1
      obtain ⟨n, rfl⟩ : ∃ m, n = m + 1 := ⟨n - 1, by omega⟩
    · have h2 : (eV o.1 (c8 o.1 no) id).2.1 = true := h2
      have h3 : (!decide ((eV o.1 (c8 o.1 no) id).1.1 = no)) = true := h3
      have h3 : decide ((eV o.1 (c8 o.1 no) id).1.1 = no) = false := by simpa using h3
      rw [e, h2, h3]; rfl
    · have h2 : (eV o.1 (c8 o.1 no) id).2.1 = true := h2
      have h3 : (!decide ((eV o.1 (c8 o.1 no) id).1.1 = no)) = false := h3
      have h3 : decide ((eV o.1 (c8 o.1 no) id).1.1 = no) = true := by simpa using h3
      rw [e, h2, h3]; rfl
    · have h2 : (eV o.1 (c8 o.1 no) id).2.1 = false := h2
      have h3 : decide ((eV o.1 (c8 o.1 no) id).1.1 = no) = true := h3
      rw [e, h2, h3]; rfl
    · have h2 : (eV o.1 (c8 o.1 no) id).2.1 = false := h2
      have h3 : decide ((eV o.1 (c8 o.1 no) id).1.1 = no) = false := h3
      have e' : bK o.1 id (n + 1) path no = bK o.1 id n (path ++ [no]) (eV o.1 (c8 o.1 no) id).1.1 := by rw [e, h2, h3]; rfl
      show br _ _ _ (bP prog O w0 jR fun z => z = (((bK o.1 id (n + 1) path no).1, (bK o.1 id (n + 1) path no).2.1, (bK o.1 id (n + 1) path no).2.2, ()), ())) _ _ _ _
      rw [e']
      exact Nb O w0 o id hops z hr ho hh n (path ++ [no]) _ (by rw [List.length_append]; simp; omega) hlv2)
theorem JL : ap prog [] qh qB :=
 bw (S := qB) Ai (fx := jK) HW (by kernel_rfl) (fun h => by cases h) (T := fun x => B3 x.1 x.2.1 x.2.2.1 x.2.2.2.1) (fun x => EW x.1 x.2.1 x.2.2.1 x.2.2.2.1) fun O w0 x _ hp => by
  obtain ⟨o, no, id, hops, ⟨⟩⟩ := x
  obtain ⟨p1, p2, p3, p4⟩ : a5 o.1 = true ∧ (0 : Int) ≤ hops ∧ (hops : Int) ≤ 16 ∧ o.1.length ≤ 1000000 := hp
  have e : aU o.1 no id hops = bK o.1 id ((hops : Int).toNat + 1) [] no := by
   unfold aU
   rw [p1, decide_eq_false (Int.not_lt.2 p2), decide_eq_false (Int.not_lt.2 p3)]; rfl
  refine ⟨p4, bg ?_⟩
  rw [F1 (vg p1)]
  refine ⟨fun h => ⟨_, rfl, ?_⟩, fun h => ?_⟩
  ·have h : (!bZ o.1 no) = true := h
   have h : bZ o.1 no = false := by simpa using h
   have ha : (ax o.1 no id).2 = false := by
    cases hq : (ax o.1 no id).2 with
    | false => rfl
    | true => have := (xY p1 id hq).1; rw [h] at this; cases this
   show _ = (((aU o.1 no id hops).1, (aU o.1 no id hops).2.1, (aU o.1 no id hops).2.2, ()), ())
   rw [e, ou, ha]; rfl
  ·have h : (!bZ o.1 no) = false := h
   have h : bZ o.1 no = true := by simpa using h
   show br _ _ _ (bP prog O w0 jR fun z => z = (((aU o.1 no id hops).1, (aU o.1 no id hops).2.1, (aU o.1 no id hops).2.2, ()), ())) _ _ _ _
   rw [e]
   exact Nb O w0 o id hops (zero ak) p1 p4 p3 ((hops : Int).toNat + 1) [] no (by show (0 : Int) + _ = _; omega) h
abbrev GLw (O : Nat → Prop) (w0 : World) := br prog fL (Cx.base O w0) (bP prog O w0 o5 fun z => z = (true, ()))
theorem kf : XOk prog fL := zq KW wV IQ Iq JL
def Mi (O : Nat → Prop) (w0 : World) (t : Tee) (hm : t.1.length ≤ maxLen) :=
 PLift.up <| bf (σ := Unit) t.1.length (fun _ _ => True)
  (fun i _ => GLw O w0 [] dT (lp dy 9) (nN t.1 (lnx ae t.1) (i : Nat) t))
  (fun i _ hi _ ih => aB kf (lz t.1 _ _ t) (by
   refine ⟨fun _ => ⟨a6 hi, a6 hi, fun hc => ?_, fun _ => ?_⟩, fun hc => absurd hi (by rw [bB (e := ae)] at hc; exact of_decide_eq_false hc)⟩
   ·have hc : (!decide (el ae t.1 (i : Nat) = el ae t.1 (i : Nat))) = true := hc
    rw [decide_eq_true rfl] at hc
    cases hc
   ·rw [bG hi hm]
    exact ih () trivial))
  (fun _ _ => aB kf (lz t.1 _ _ t) ⟨fun hc => absurd (of_decide_eq_true hc) (Int.lt_irrefl _), fun _ => ⟨_, rfl, rfl⟩⟩)
theorem JE (l : List Nd) (hr : a5 l = true) (id : List Int) (n : Nat) (no : Int) (hn : n ≤ 17) : (bK l id n [] no).1.length ≤ 20 := by
 by_cases h : (bK l id n [] no).2.2 = 0
 ·obtain ⟨rest, b1, b2, _, _⟩ := (Gi hr id n [] no h).way
  rw [b1]
  show rest.length + 1 ≤ 20
  omega
 ·rw [(EM l id n [] no h).1]; exact Nat.zero_le _
theorem zu : ap prog [] qb (MA dS) :=
 bw (S := MA dS) kf (fx := dT) yn (by kernel_rfl) (fun _ _ => trivial) (T := fun x => p5 x.1 x.2.1 x.2.2.1 x.2.2.2.1) (fun x => vQ x.1 x.2.1 x.2.2.1 x.2.2.2.1) fun O w0 x _ _ => by
  obtain ⟨o, no, hops, id, ⟨⟩⟩ := x
  refine ⟨trivial, bg ?_⟩
  have hql := MC o.1
  generalize (yP o.1 : List Nd) = q at hql ⊢
  have hq : q.length ≤ 1000000 := Nat.le_trans hql (by decide)
  refine ⟨hq, bg ⟨hq, bg ⟨fun h => ⟨trivial, bg ⟨_, rfl, Prod.ext ?_ rfl⟩⟩, fun h => ?_⟩⟩⟩
  ·have h : (bif bif !a5 q then true else decide ((hops : Int) < 0) then true else decide ((16 : Int) < hops)) = true := h
   have e : aU q no id hops = ([], zero ab, 1) := by unfold aU; rw [h]; rfl
   show (bif bif bif true then decide ((aU q no id hops).2.2 = 1) else false then decide (lnx ae (aU q no id hops).1 = 0) else false then eqb ab (aU q no id hops).2.1 (zero (Ty.pair ae (Ty.pair tId Ty.unit))) else false) = true
   rw [e, iI, decide_eq_true (show (zero ab : Mem) = zero (Ty.pair ae (Ty.pair tId Ty.unit)) from rfl)]
   rfl
  ·have h : (bif bif !a5 q then true else decide ((hops : Int) < 0) then true else decide ((16 : Int) < hops)) = false := h
   have h1 : a5 q = true := by
    cases hq : a5 q <;> rw [hq] at h
    cases h
   rw [h1] at h
   have h2 : decide ((hops : Int) < 0) = false := by
    cases hq : decide ((hops : Int) < 0) <;> rw [hq] at h
    cases h
   rw [h2] at h
   have p2 := Int.not_lt.1 (of_decide_eq_false h2)
   have p3 := Int.not_lt.1 (of_decide_eq_false h)
   have e : aU q no id hops = bK q id ((hops : Int).toNat + 1) [] no := by
    unfold aU
    rw [h1, h2, show decide ((16 : Int) < hops) = false from h]; rfl
   refine ⟨⟨h1, p2, p3, hq⟩, bg ⟨fun _ => trivial, fun hc => ?_, fun _ => ?_⟩⟩
   ·exfalso
    have hc : (bif bif bif !decide ((aU q no id hops).2.2 = (aU q no id hops).2.2) then true else !eqb ab (aU q no id hops).2.1 (aU q no id hops).2.1 then true else !decide (lnx ae (aU q no id hops).1 = lnx ae (aU q no id hops).1) then true else !true) = true := hc
    rw [iI, decide_eq_true (show (aU q no id hops).2.2 = (aU q no id hops).2.2 from rfl), decide_eq_true (show (aU q no id hops).2.1 = (aU q no id hops).2.1 from rfl), decide_eq_true (show lnx ae (aU q no id hops).1 = lnx ae (aU q no id hops).1 from rfl)] at hc
    cases hc
   ·refine (Mi O w0 ((aU q no id hops).1, (aU q no id hops).2.1, (aU q no id hops).2.2, ()) ?_).down 0 () (Nat.zero_le _) trivial
    show (aU q no id hops).1.length ≤ maxLen
    rw [e]
    exact Nat.le_trans (JE q h1 id _ no (by omega)) (by decide)
end Go.Proofs.Ytimdnodkabnbfaa
