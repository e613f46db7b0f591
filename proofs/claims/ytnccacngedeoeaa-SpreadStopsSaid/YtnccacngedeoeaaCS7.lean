/- Part 7 of 8 of what this claim's proof stands on: a theory of programs on data, and the contracts of the functions that the law reaches. It holds no condition of its own. -/
import Derived.Test.YtnccacngedeoeaaCS6
namespace Go.Proofs.Ytnccacngedeoeaa
open Go Go.RowKit
noncomputable abbrev cL : Fx := { fn := ce, ann := { } }
noncomputable abbrev cv : Fx := { fn := bV, ann := { loops := [(2, { keep := [0, 1, 7, 8] })] } }
noncomputable abbrev xt : Fx := { fn := sg, ann := { } }
noncomputable abbrev iW : Fx := { fn := g9, ann := { } }
noncomputable abbrev mr : bS := { D := { T := bG, F := [(jp, kC)], R := [], ovl := [] }, inl := [(gl, cL), (iU, cv), (sa, xt)] }
noncomputable abbrev uN : dC := .data n7
theorem pP (h_stack_Is : aP prog [] jp kC) : XOk prog mr := xok (aV (bg bt aW) h_stack_Is) (by kernel_rfl) cp (fl l9 (by kernel_rfl) (fl nx (by kernel_rfl) (fl xn (by kernel_rfl) cY))) cZ
noncomputable def uW (l : den (Ty.slc ai)) : af := af.loop [{ fx := cL, todo := bv ce 1 2, dst := some 7, s := ofS [] }, { fx := iW, todo := bv g9 1 1, dst := some 4, s := ofS [] }] cv (lp bV 2) [(0, K.val (Ty.slc ai) l), (1, K.fnc 95), (7, K.val ae (lnx ai l)), (8, K.val ae 0)] []
theorem xw (l : den (Ty.slc ai)) : aM mr uN 5000 [] iW (aN g9) (Env.of (aS tH (l, ()) 0) []) = uW l := by kernel_rfl
noncomputable def dX (v0 : den (Ty.slc ai)) (v7 : den ae) (v8 : den ae) : List bN := [{ fx := cL, todo := bv ce 1 2, dst := some 7, s := ofS [] }, { fx := iW, todo := bv g9 1 1, dst := some 4, s := ofS [] }]
noncomputable def d5 (v0 : den (Ty.slc ai)) (v7 : den ae) (v8 : den ae) : Env := Env.of [(0, K.val (Ty.slc ai) v0), (1, K.fnc 95), (7, K.val ae v7), (8, K.val ae v8)] []
noncomputable def iG (v0 : den (Ty.slc ai)) (v7 : den ae) (v8 : den ae) : af := af.ite (decide (v8 < v7)) (af.req (inB v8 (lnx ai v0)) (af.req True (af.ite (!j2 (el ai v0 v8)) (af.ret (K.val (Ty.pair Ty.bool Ty.unit) (!decide (0 ≤ v8), PUnit.unit))) (af.loop [{ fx := cL, todo := bv ce 1 2, dst := some 7, s := ofS [] }, { fx := iW, todo := bv g9 1 1, dst := some 4, s := ofS [] }] cv (lp bV 2) [(0, K.val (Ty.slc ai) v0), (1, K.fnc 95), (7, K.val ae v7), (8, K.val ae (IntKind.wrap IntKind.i64 (v8 + 1)))] [])))) (af.ret (K.val (Ty.pair Ty.bool Ty.unit) (!decide (0 ≤ -1), PUnit.unit)))
theorem dB (v0 : den (Ty.slc ai)) (v7 : den ae) (v8 : den ae) : aM mr uN 5000 (dX v0 v7 v8) cv (lp bV 2) (d5 v0 v7 v8) = iG v0 v7 v8 := by kernel_rfl
noncomputable abbrev qp : Fx := { fn := mX, ann := { } }
noncomputable abbrev sd : bS := { D := { T := bG, F := [(ia, hH)], R := [], ovl := [] }, inl := [] }
noncomputable abbrev yM : dC := .data qP
theorem yz (h_stack_all : aP prog [] ia hH) : XOk prog sd := xok (aV (bg bt aW) h_stack_all) (by kernel_rfl) cp cY cZ
noncomputable def r6 (l : den (Ty.slc ai)) : af := af.req (m3 [(bif decide (1 ≤ lnx ai l) then decide (lnx ai l ≤ 4) else false, true)] (List.length l ≤ 1000000)) (af.ret (K.val (Ty.pair Ty.bool Ty.unit) (bif bif decide (1 ≤ lnx ai l) then decide (lnx ai l ≤ 4) else false then bM l else false, PUnit.unit)))
theorem vz (l : den (Ty.slc ai)) : aM sd yM 5000 [] qp (aN mX) (Env.of (aS qv (l, ()) 0) []) = r6 l := by kernel_rfl
noncomputable abbrev bh : Fx := { fn := a9, ann := { loops := [(3, { keep := [0, 3, 9, 10, 11] }), (11, { keep := [6, 25, 26, 27], own := [(6, ai)] })] } }
noncomputable abbrev rc : Fx := { fn := lG, ann := { }, own := [20, 25] }
noncomputable abbrev c9 : Fx := { fn := c5, ann := { } }
noncomputable abbrev ff : bS := { D := { T := bG, F := [(ia, hH)], R := [], ovl := [] }, inl := [(ku, bh), (lP, rc)] }
noncomputable abbrev oA : dC := .data gV
theorem fa (h_stack_all : aP prog [] ia hH) : XOk prog ff := xok (aV (bg bt aW) h_stack_all) (by kernel_rfl) cp (fl pT (by kernel_rfl) (fl qV (by kernel_rfl) cY)) cZ
noncomputable def to (l : den (Ty.slc ai)) (front : den (Ty.slc ai)) : af := af.req (List.length l ≤ 1000000) (af.req (m3 [(!bM l, false)] (List.length front ≤ 1000000)) (af.ite (bif !bM l then true else !bM front) (af.ret (K.val (Ty.pair (Ty.slc ai) (Ty.pair ae Ty.unit)) ([], 1, PUnit.unit))) (af.ite (decide (4 < IntKind.wrap IntKind.i64 (lnx ai l + lnx ai front))) (af.ret (K.val (Ty.pair (Ty.slc ai) (Ty.pair ae Ty.unit)) ([], 12, PUnit.unit))) (af.loop [{ fx := c9, todo := bv c5 5 3, dst := some 25, s := ofS [] }] bh (lp a9 3) [(0, K.val (Ty.slc (Ty.slc ai)) (List.set (List.set (List.replicate 2 (zero (Ty.slc ai))) 0 front) 1 l)), (3, K.val ae 0), (9, K.val (Ty.slc (Ty.slc ai)) (List.set (List.set (List.replicate 2 (zero (Ty.slc ai))) 0 front) 1 l)), (10, K.val ae (lnx (Ty.slc ai) (List.set (List.set (List.replicate 2 (zero (Ty.slc ai))) 0 front) 1 l))), (11, K.val ae 0)] []))))
theorem w6 (l : den (Ty.slc ai)) (front : den (Ty.slc ai)) : aM ff oA 5000 [] c9 (aN c5) (Env.of (aS rY (l, front, ()) 0) []) = to l front := by kernel_rfl
noncomputable def cQ (v0 : den (Ty.slc (Ty.slc ai))) (v3 : den ae) (v9 : den (Ty.slc (Ty.slc ai))) (v10 : den ae) (v11 : den ae) : List bN := [{ fx := c9, todo := bv c5 5 3, dst := some 25, s := ofS [] }]
noncomputable def cR (v0 : den (Ty.slc (Ty.slc ai))) (v3 : den ae) (v9 : den (Ty.slc (Ty.slc ai))) (v10 : den ae) (v11 : den ae) : Env := Env.of [(0, K.val (Ty.slc (Ty.slc ai)) v0), (3, K.val ae v3), (9, K.val (Ty.slc (Ty.slc ai)) v9), (10, K.val ae v10), (11, K.val ae v11)] []
noncomputable def jk (v0 : den (Ty.slc (Ty.slc ai))) (v3 : den ae) (v9 : den (Ty.slc (Ty.slc ai))) (v10 : den ae) (v11 : den ae) : af := af.ite (decide (v11 < v10)) (af.req (inB v11 (lnx (Ty.slc ai) v9)) (af.ite (decide (IntKind.wrap IntKind.i64 (v3 + lnx ai (el (Ty.slc ai) v9 v11)) < 0)) (af.bad (100000 + 1000 * 0 + 0)) (af.loop [{ fx := c9, todo := bv c5 5 3, dst := some 25, s := ofS [] }] bh (lp a9 3) [(0, K.val (Ty.slc (Ty.slc ai)) v0), (3, K.val ae (IntKind.wrap IntKind.i64 (v3 + lnx ai (el (Ty.slc ai) v9 v11)))), (9, K.val (Ty.slc (Ty.slc ai)) v9), (10, K.val ae v10), (11, K.val ae (IntKind.wrap IntKind.i64 (v11 + 1)))] []))) (af.ite (decide (v3 < 0)) (af.bad (100000 + 1000 * 0 + 0)) (af.ite (decide (0 < IntKind.wrap IntKind.i64 (v3 - IntKind.wrap IntKind.i64 (0 - 0)))) (af.req (bK 0 0 0) (af.req (0 < IntKind.wrap IntKind.i64 (v3 - IntKind.wrap IntKind.i64 (0 - 0))) (af.req (Int.toNat (IntKind.wrap IntKind.i64 (v3 - IntKind.wrap IntKind.i64 (0 - 0))) ≤ bQ) (af.req (bK 0 0 (lnx ai (List.replicate (Int.toNat (IntKind.wrap IntKind.i64 (v3 - IntKind.wrap IntKind.i64 (0 - 0)))) (zero ai)))) (af.loop [{ fx := c9, todo := bv c5 5 3, dst := some 25, s := ofS [] }] bh (lp a9 11) [(6, K.sl 0 ai), (25, K.val (Ty.slc (Ty.slc ai)) v0), (26, K.val ae (lnx (Ty.slc ai) v0)), (27, K.val ae 0)] [(0, Bx.row ai (List.take (Int.toNat 0) (List.replicate (Int.toNat (IntKind.wrap IntKind.i64 (v3 - IntKind.wrap IntKind.i64 (0 - 0)))) (zero ai))))]))))) (af.loop [{ fx := c9, todo := bv c5 5 3, dst := some 25, s := ofS [] }] bh (lp a9 11) [(6, K.sl 0 ai), (25, K.val (Ty.slc (Ty.slc ai)) v0), (26, K.val ae (lnx (Ty.slc ai) v0)), (27, K.val ae 0)] [(0, Bx.row ai [])])))
theorem cq (v0 : den (Ty.slc (Ty.slc ai))) (v3 : den ae) (v9 : den (Ty.slc (Ty.slc ai))) (v10 : den ae) (v11 : den ae) : aM ff oA 5000 (cQ v0 v3 v9 v10 v11) bh (lp a9 3) (cR v0 v3 v9 v10 v11) = jk v0 v3 v9 v10 v11 := by kernel_rfl
noncomputable def d8 (v25 : den (Ty.slc (Ty.slc ai))) (v26 : den ae) (v27 : den ae) (b0 : List (den ai)) : List bN := [{ fx := c9, todo := bv c5 5 3, dst := some 25, s := ofS [] }]
noncomputable def ep (v25 : den (Ty.slc (Ty.slc ai))) (v26 : den ae) (v27 : den ae) (b0 : List (den ai)) : Env := Env.of [(6, K.sl 0 ai), (25, K.val (Ty.slc (Ty.slc ai)) v25), (26, K.val ae v26), (27, K.val ae v27)] [(0, Bx.row ai b0)]
noncomputable def iS (v25 : den (Ty.slc (Ty.slc ai))) (v26 : den ae) (v27 : den ae) (b0 : List (den ai)) : af := af.ite (decide (v27 < v26)) (af.req (inB v27 (lnx (Ty.slc ai) v25)) (af.req (List.length (b0 ++ el (Ty.slc ai) v25 v27) ≤ bQ) (af.loop [{ fx := c9, todo := bv c5 5 3, dst := some 25, s := ofS [] }] bh (lp a9 11) [(6, K.sl 0 ai), (25, K.val (Ty.slc (Ty.slc ai)) v25), (26, K.val ae v26), (27, K.val ae (IntKind.wrap IntKind.i64 (v27 + 1)))] [(0, Bx.row ai (b0 ++ el (Ty.slc ai) v25 v27))]))) (af.ret (K.val (Ty.pair (Ty.slc ai) (Ty.pair ae Ty.unit)) (b0, 0, PUnit.unit)))
theorem cj (v25 : den (Ty.slc (Ty.slc ai))) (v26 : den ae) (v27 : den ae) (b0 : List (den ai)) : aM ff oA 5000 (d8 v25 v26 v27 b0) bh (lp a9 11) (ep v25 v26 v27 b0) = iS v25 v26 v27 b0 := by kernel_rfl
noncomputable abbrev oH : Fx := { fn := ly, ann := { } }
noncomputable abbrev o0 : bS := { D := { T := bG, F := [(jW, jO)], R := [], ovl := [] }, inl := [] }
noncomputable abbrev wU : dC := .data nT
theorem vX (h_stack_Right : aP prog [] jW jO) : XOk prog o0 := xok (aV (bg bt aW) h_stack_Right) (by kernel_rfl) cp cY cZ
noncomputable def pd (p : den ag) : af := af.req (List.length (Prod.fst p) ≤ 1000000) (af.ret (K.val (Ty.pair Ty.bool Ty.unit) (bif bif bif cE (Prod.fst p) then decide (0 ≤ Prod.fst (Prod.snd p)) else false then decide (Prod.fst (Prod.snd p) ≤ 64) else false then decide (fQ (Prod.fst (Prod.snd (Prod.snd p))) ≤ 64) else false, PUnit.unit)))
theorem sM (p : den ag) : aM o0 wU 5000 [] oH (aN ly) (Env.of (aS oG (p, ()) 0) []) = pd p := by kernel_rfl
noncomputable abbrev oU : Fx := { fn := mc, ann := { } }
noncomputable abbrev qa : bS := { D := { T := bG, F := [], R := [], ovl := [] }, inl := [] }
noncomputable abbrev xS : dC := .data py
theorem xu : XOk prog qa := xok ((bg bt aW)) (by kernel_rfl) cp cY cZ
noncomputable def qo (why : den ae) : af := af.ret (K.val (Ty.pair (Ty.slc bn) Ty.unit) (List.set (List.replicate 1 (zero bn)) 0 (3, Prod.fst (Prod.snd (zero (Ty.pair ae (Ty.pair ae (Ty.pair ag (Ty.pair ab (Ty.pair ae Ty.unit))))))), Prod.fst (Prod.snd (Prod.snd (zero (Ty.pair ae (Ty.pair ae (Ty.pair ag (Ty.pair ab (Ty.pair ae Ty.unit)))))))), Prod.fst (Prod.snd (Prod.snd (Prod.snd (zero (Ty.pair ae (Ty.pair ae (Ty.pair ag (Ty.pair ab (Ty.pair ae Ty.unit))))))))), why, Prod.snd (Prod.snd (Prod.snd (Prod.snd (Prod.snd (zero (Ty.pair ae (Ty.pair ae (Ty.pair ag (Ty.pair ab (Ty.pair ae Ty.unit))))))))))), PUnit.unit))
theorem uu (why : den ae) : aM qa xS 5000 [] oU (aN mc) (Env.of (aS pf (why, ()) 0) []) = qo why := by kernel_rfl
noncomputable abbrev rZ : Fx := { fn := oK, ann := { } }
noncomputable abbrev sV : bS := { D := { T := bG, F := [(ll, iM)], R := [], ovl := [] }, inl := [] }
noncomputable abbrev zQ : dC := .data sh
theorem zI (h_stack_Push : aP prog [] ll iM) : XOk prog sV := xok (aV (bg bt aW) h_stack_Push) (by kernel_rfl) cp cY cZ
noncomputable def s9 (p : den ag) (tr : den ab) (front : den (Ty.slc ai)) : af := af.req (bK 1 (lnx ai (Prod.fst p)) (lnx ai (Prod.fst p))) (af.req (List.length (f5 ai (Prod.fst p) 1 (lnx ai (Prod.fst p))) ≤ 1000000 ∧ List.length front ≤ 1000000) (af.ret (K.val (Ty.pair bn Ty.unit) ((2, Prod.fst (Prod.snd (zero (Ty.pair ae (Ty.pair ae (Ty.pair ag (Ty.pair ab (Ty.pair ae Ty.unit))))))), (Prod.fst (bO (f5 ai (Prod.fst p) 1 (lnx ai (Prod.fst p))) front), IntKind.wrap IntKind.i64 (Prod.fst (Prod.snd p) - 1), Prod.snd (Prod.snd p)), tr, Prod.snd (Prod.snd (Prod.snd (Prod.snd (zero (Ty.pair ae (Ty.pair ae (Ty.pair ag (Ty.pair ab (Ty.pair ae Ty.unit)))))))))), PUnit.unit))))
theorem wn (p : den ag) (tr : den ab) (front : den (Ty.slc ai)) : aM sV zQ 5000 [] rZ (aN oK) (Env.of (aS r9 (p, tr, front, ()) 0) []) = s9 p tr front := by kernel_rfl
end Go.Proofs.Ytnccacngedeoeaa
namespace Go.Proofs.Ytnccacngedeoeaa
open Go Go.RowKit
noncomputable abbrev du : Fx := { fn := c8, ann := { loops := [(5, { keep := [0, 3, 6, 7, 17, 18, 19] })], frz := [(13, [7])] } }
noncomputable abbrev gU : bS := { D := { T := bG, F := [(cG, c7), (im, kE), (dT, fO), (je, l8)], R := [], ovl := [] }, inl := [] }
noncomputable abbrev sf : dC := .data jc
theorem mT (h_table_Right : aP prog [] cG c7) (h_table_Match_1 : aP prog [] im kE) (h_table_parted_Trigger : aP prog [] dT fO) (h_ident_Common : aP prog [] je l8) : XOk prog gU := xok (aV (aV (aV (aV (bg bt aW) h_ident_Common) h_table_parted_Trigger) h_table_Match_1) h_table_Right) (by kernel_rfl) cp cY cZ
noncomputable def r8 (t : den (Ty.slc ab)) (id : den tId) : af := af.req (List.length t ≤ 1000000) (af.ite (!aT t) (af.ret (K.val (Ty.pair (Ty.slc ab) (Ty.pair ae Ty.unit)) ([], 1, PUnit.unit))) (af.loop [] du (lp c8 5) [(0, K.val (Ty.slc ab) t), (3, K.ptr 0 tId []), (6, K.val ae 127), (7, K.ptr (0 + 1) tId []), (17, K.val (Ty.slc ab) t), (18, K.val ae (lnx ab t)), (19, K.val ae 0)] [(0, Bx.cell tId id), (0 + 1, Bx.cell tId (List.replicate 32 (zero (Ty.int IntKind.u8))))]))
theorem vI (t : den (Ty.slc ab)) (id : den tId) : aM gU sf 5000 [] du (aN c8) (Env.of (aS qQ (t, id, ()) 0) []) = r8 t id := by kernel_rfl
noncomputable def lc (v0 : den (Ty.slc ab)) (v6 : den ae) (v17 : den (Ty.slc ab)) (v18 : den ae) (v19 : den ae) (b0 : den tId) (b1 : den tId) : Env := Env.of [(0, K.val (Ty.slc ab) v0), (3, K.ptr 0 tId []), (6, K.val ae v6), (7, K.ptr (0 + 1) tId []), (17, K.val (Ty.slc ab) v17), (18, K.val ae v18), (19, K.val ae v19)] [(0, Bx.cell tId b0), (1, Bx.cell tId b1)]
noncomputable def ve (v0 : den (Ty.slc ab)) (v6 : den ae) (v17 : den (Ty.slc ab)) (v18 : den ae) (v19 : den ae) (b0 : den tId) (b1 : den tId) : af := af.ite (decide (v19 < v18)) (af.req (inB v19 (lnx ab v17)) (af.req True (af.ite (decide (v6 < da (Prod.fst (el ab v17 v19)) b0)) (af.loop [] du (lp c8 5) [(0, K.val (Ty.slc ab) v0), (3, K.ptr 0 tId []), (6, K.val ae (da (Prod.fst (el ab v17 v19)) b0)), (7, K.ptr (0 + 1) tId []), (17, K.val (Ty.slc ab) v17), (18, K.val ae v18), (19, K.val ae (IntKind.wrap IntKind.i64 (v19 + 1)))] [(0, Bx.cell tId b0), (0 + 1, Bx.cell tId (Prod.fst (el ab v17 v19)))]) (af.loop [] du (lp c8 5) [(0, K.val (Ty.slc ab) v0), (3, K.ptr 0 tId []), (6, K.val ae v6), (7, K.ptr (0 + 1) tId []), (17, K.val (Ty.slc ab) v17), (18, K.val ae v18), (19, K.val ae (IntKind.wrap IntKind.i64 (v19 + 1)))] [(0, Bx.cell tId b0), (0 + 1, Bx.cell tId b1)])))) (af.ite (decide (v6 < 128)) (af.ret (K.val (Ty.pair (Ty.slc ab) (Ty.pair ae Ty.unit)) ([], 6, PUnit.unit))) (af.req (∀ (y : den (Ty.pair ab Ty.unit)), True) (af.req (List.length v0 ≤ 1000000 ∧ yZ (Ty.pair ab Ty.unit) (Ty.pair Ty.bool Ty.unit) (some fun (y : den (Ty.pair ab Ty.unit)) ↦ (decide (Prod.fst (Prod.fst y) = b1), PUnit.unit))) (af.ret (K.val (Ty.pair (Ty.slc ab) (Ty.pair ae Ty.unit)) (List.filter (isT (some fun (y : den (Ty.pair ab Ty.unit)) ↦ (decide (Prod.fst (Prod.fst y) = b1), PUnit.unit))) v0, 0, PUnit.unit))))))
theorem lH (v0 : den (Ty.slc ab)) (v6 : den ae) (v17 : den (Ty.slc ab)) (v18 : den ae) (v19 : den ae) (b0 : den tId) (b1 : den tId) : aM gU sf 5000 [] du (lp c8 5) (lc v0 v6 v17 v18 v19 b0 b1) = ve v0 v6 v17 v18 v19 b0 b1 := by kernel_rfl
end Go.Proofs.Ytnccacngedeoeaa
namespace Go.Proofs.Ytnccacngedeoeaa
open Go Go.RowKit
noncomputable abbrev cW : aG := { T := bG, F := [(fB, iN), (eP, gx), (eT, gJ), (eS, gQ)], n := (bm).ntmps }
noncomputable abbrev lh : Ann := { loops := [(2, { keep := [2, 3, 8, 9, 10] })] }
theorem pt (h_table_trigger_id : aP prog [] fB iN) (h_table_trigger_kind : aP prog [] eP gx) (h_table_trigger_goes : aP prog [] eT gJ) (h_table_trigger_host : aP prog [] eS gQ) : bH prog cW := gS (aV (aV (aV (aV (bg bt aW) h_table_trigger_host) h_table_trigger_goes) h_table_trigger_kind) h_table_trigger_id)
theorem j3 : bW cW = true := by kernel_rfl
noncomputable def o9 (a : den ab) (b : den ab) : ao := ao.loop (lp bm 2) [(2, K.ptr 2 ab []), (3, K.ptr 3 ab []), (8, K.val (Ty.slc (Ty.fn (Ty.pair ab (Ty.pair ab Ty.unit)) (Ty.pair ae Ty.unit))) [some fun x ↦ (gO (Prod.fst (Prod.fst x)) (Prod.fst (Prod.fst (Prod.snd x))), PUnit.unit), some fun x ↦ (bX (Prod.fst (Prod.fst (Prod.snd (Prod.fst x)))) (Prod.fst (Prod.fst (Prod.snd (Prod.fst (Prod.snd x))))), PUnit.unit), some fun x ↦ (gO (Prod.fst (Prod.snd (Prod.fst (Prod.snd (Prod.fst x))))) (Prod.fst (Prod.snd (Prod.fst (Prod.snd (Prod.fst (Prod.snd x)))))), PUnit.unit), some fun x ↦ (bX (Prod.fst (Prod.snd (Prod.snd (Prod.fst (Prod.snd (Prod.fst x)))))) (Prod.fst (Prod.snd (Prod.snd (Prod.fst (Prod.snd (Prod.fst (Prod.snd x))))))), PUnit.unit)]), (9, K.val ae (lnx (Ty.fn (Ty.pair ab (Ty.pair ab Ty.unit)) (Ty.pair ae Ty.unit)) [some fun x ↦ (gO (Prod.fst (Prod.fst x)) (Prod.fst (Prod.fst (Prod.snd x))), PUnit.unit), some fun x ↦ (bX (Prod.fst (Prod.fst (Prod.snd (Prod.fst x)))) (Prod.fst (Prod.fst (Prod.snd (Prod.fst (Prod.snd x))))), PUnit.unit), some fun x ↦ (gO (Prod.fst (Prod.snd (Prod.fst (Prod.snd (Prod.fst x))))) (Prod.fst (Prod.snd (Prod.fst (Prod.snd (Prod.fst (Prod.snd x)))))), PUnit.unit), some fun x ↦ (bX (Prod.fst (Prod.snd (Prod.snd (Prod.fst (Prod.snd (Prod.fst x)))))) (Prod.fst (Prod.snd (Prod.snd (Prod.fst (Prod.snd (Prod.fst (Prod.snd x))))))), PUnit.unit)])), (10, K.val ae 0)] [(2, Bx.cell ab a), (3, Bx.cell ab b)]
theorem s4 (a : den ab) (b : den ab) : bZ cW lh db bm 1000 (aN bm) (Env.of (aS nY (a, b, ()) 0) []) = o9 a b := by kernel_rfl
noncomputable def eH (v8 : den (Ty.slc (Ty.fn (Ty.pair ab (Ty.pair ab Ty.unit)) (Ty.pair ae Ty.unit)))) (v9 : den ae) (v10 : den ae) (b2 : den ab) (b3 : den ab) : Env := Env.of [(2, K.ptr 2 ab []), (3, K.ptr 3 ab []), (8, K.val (Ty.slc (Ty.fn (Ty.pair ab (Ty.pair ab Ty.unit)) (Ty.pair ae Ty.unit))) v8), (9, K.val ae v9), (10, K.val ae v10)] [(2, Bx.cell ab b2), (3, Bx.cell ab b3)]
noncomputable def s5 (v8 : den (Ty.slc (Ty.fn (Ty.pair ab (Ty.pair ab Ty.unit)) (Ty.pair ae Ty.unit)))) (v9 : den ae) (v10 : den ae) (b2 : den ab) (b3 : den ab) : ao := ao.ite (decide (v10 < v9)) (ao.req (inB v10 (lnx (Ty.fn (Ty.pair ab (Ty.pair ab Ty.unit)) (Ty.pair ae Ty.unit)) v8)) (ao.req (yZ (Ty.pair ab (Ty.pair ab Ty.unit)) (Ty.pair ae Ty.unit) (el (Ty.fn (Ty.pair ab (Ty.pair ab Ty.unit)) (Ty.pair ae Ty.unit)) v8 v10)) (ao.ite (!decide (Prod.fst (qJ (Ty.pair ab (Ty.pair ab Ty.unit)) (Ty.pair ae Ty.unit) (el (Ty.fn (Ty.pair ab (Ty.pair ab Ty.unit)) (Ty.pair ae Ty.unit)) v8 v10) (b2, b3, PUnit.unit)) = 0)) (ao.ret (K.val (Ty.pair ae Ty.unit) (Prod.fst (qJ (Ty.pair ab (Ty.pair ab Ty.unit)) (Ty.pair ae Ty.unit) (el (Ty.fn (Ty.pair ab (Ty.pair ab Ty.unit)) (Ty.pair ae Ty.unit)) v8 v10) (b2, b3, PUnit.unit)), PUnit.unit))) (ao.loop (lp bm 2) [(2, K.ptr 2 ab []), (3, K.ptr 3 ab []), (8, K.val (Ty.slc (Ty.fn (Ty.pair ab (Ty.pair ab Ty.unit)) (Ty.pair ae Ty.unit))) v8), (9, K.val ae v9), (10, K.val ae (IntKind.wrap IntKind.i64 (v10 + 1)))] [(2, Bx.cell ab b2), (3, Bx.cell ab b3)])))) (ao.ret (K.val (Ty.pair ae Ty.unit) (0, PUnit.unit)))
theorem kf (v8 : den (Ty.slc (Ty.fn (Ty.pair ab (Ty.pair ab Ty.unit)) (Ty.pair ae Ty.unit)))) (v9 : den ae) (v10 : den ae) (b2 : den ab) (b3 : den ab) : bZ cW lh db bm 1000 (lp bm 2) (eH v8 v9 v10 b2 b3) = s5 v8 v9 v10 b2 b3 := by kernel_rfl
noncomputable abbrev g7 : aG := { T := bG, F := [(mv, pS), (iF, kU)], n := (cI).ntmps }
noncomputable abbrev mS : Ann := { loops := [(2, { keep := [0, 5, 6, 7] })] }
theorem m4 (h_table_may : aP prog [] mv pS) (h_table_compare : aP prog [] iF kU) : bH prog g7 := gS (aV (aV (bg bt aW) h_table_compare) h_table_may)
theorem lW : bW g7 = true := by kernel_rfl
noncomputable def sj (t : den (Ty.slc ab)) : ao := ao.loop (lp cI 2) [(0, K.val (Ty.slc ab) t), (5, K.val (Ty.slc ab) t), (6, K.val ae (lnx ab t)), (7, K.val ae 0)] []
theorem va (t : den (Ty.slc ab)) : bZ g7 mS jj cI 1000 (aN cI) (Env.of (aS p9 (t, ()) 0) []) = sj t := by kernel_rfl
noncomputable def pq (v0 : den (Ty.slc ab)) (v5 : den (Ty.slc ab)) (v6 : den ae) (v7 : den ae) : Env := Env.of [(0, K.val (Ty.slc ab) v0), (5, K.val (Ty.slc ab) v5), (6, K.val ae v6), (7, K.val ae v7)] []
noncomputable def vj (v0 : den (Ty.slc ab)) (v5 : den (Ty.slc ab)) (v6 : den ae) (v7 : den ae) : ao := ao.ite (decide (v7 < v6)) (ao.req (inB v7 (lnx ab v5)) (ao.req True (ao.req (m3 [(!li (el ab v5 v7), false), (decide (0 < v7), true)] (inB (IntKind.wrap IntKind.i64 (v7 - 1)) (lnx ab v0))) (ao.req (m3 [(!li (el ab v5 v7), false), (decide (0 < v7), true)] True) (ao.ite (bif !li (el ab v5 v7) then true else bif decide (0 < v7) then decide (0 ≤ mM (el ab v0 (IntKind.wrap IntKind.i64 (v7 - 1))) (el ab v5 v7)) else false) (ao.ret (K.val (Ty.pair Ty.bool Ty.unit) (false, PUnit.unit))) (ao.loop (lp cI 2) [(0, K.val (Ty.slc ab) v0), (5, K.val (Ty.slc ab) v5), (6, K.val ae v6), (7, K.val ae (IntKind.wrap IntKind.i64 (v7 + 1)))] [])))))) (ao.ret (K.val (Ty.pair Ty.bool Ty.unit) (decide (lnx ab v0 ≤ 32), PUnit.unit)))
theorem lR (v0 : den (Ty.slc ab)) (v5 : den (Ty.slc ab)) (v6 : den ae) (v7 : den ae) : bZ g7 mS jj cI 1000 (lp cI 2) (pq v0 v5 v6 v7) = vj v0 v5 v6 v7 := by kernel_rfl
end Go.Proofs.Ytnccacngedeoeaa
namespace Go.Proofs.Ytnccacngedeoeaa
open Go Go.RowKit
abbrev zO : Ty := .fn (.pair ab (.pair ab .unit)) (.pair ae .unit)
def pG : List (den zO) := [some fun x => (gO x.1.1 x.2.1.1, ()), some fun x => (bX x.1.2.1.1 x.2.1.2.1.1, ()), some fun x => (gO x.1.2.1.2.1 x.2.1.2.1.2.1, ()), some fun x => (bX x.1.2.1.2.2.1 x.2.1.2.1.2.2.1, ())]
theorem vA (O : Nat → Prop) (w0 : World) (a b : den ab) : dH prog cW O w0 bm (bR prog O w0 db fun y => y = (mM a b, ())) (lp bm 2) (eH pG 4 0 a b) := by
  have hD := pt mC kK lC kF
  have c4 : dH prog cW O w0 bm (bR prog O w0 db fun y => y = ((0 : Int), ())) (lp bm 2) (eH pG 4 4 a b) :=
    jF hD j3 (kf pG 4 4 a b) ⟨fun h => (by cases h), fun _ => ⟨_, rfl, rfl⟩⟩
  have step : ∀ (i c r : Int), inB i 4 → yZ (.pair ab (.pair ab .unit)) (.pair ae .unit) (el zO pG i) → (qJ (.pair ab (.pair ab .unit)) (.pair ae .unit) (el zO pG i) (a, b, ())).1 = c →
      dH prog cW O w0 bm (bR prog O w0 db fun y => y = (r, ())) (lp bm 2) (eH pG 4 (i + 1) a b) →
      dH prog cW O w0 bm (bR prog O w0 db fun y => y = (orC c r, ())) (lp bm 2) (eH pG 4 i a b) := by
    intro i c r hi hf hc hg
    refine jF hD j3 (kf pG 4 i a b) ⟨fun _ => ⟨hi, hf, fun h => ⟨_, rfl, ?_⟩, fun h => ?_⟩, fun h => ?_⟩
    · have h : ¬ (qJ (.pair ab (.pair ab .unit)) (.pair ae .unit) (el zO pG i) (a, b, ())).1 = (0 : Int) := by simpa using h
      rw [hc] at h
      have : orC c r = c := if_neg h
      rw [this, ← hc]
    · have h : (qJ (.pair ab (.pair ab .unit)) (.pair ae .unit) (el zO pG i) (a, b, ())).1 = (0 : Int) := by simpa using h
      rw [hc] at h
      have : orC c r = r := if_pos h
      rw [this]
      obtain ⟨h1, h2⟩ := hi
      rw [cB (by omega)]
      exact hg
    · have h : ¬ i < 4 := of_decide_eq_false h
      exact absurd hi.2 h
  have c3 := step 3 _ _ ⟨by decide, by decide⟩ ⟨_, rfl⟩ rfl c4
  have c2 := step 2 _ _ ⟨by decide, by decide⟩ ⟨_, rfl⟩ rfl c3
  have c1 := step 1 _ _ ⟨by decide, by decide⟩ ⟨_, rfl⟩ rfl c2
  have c0 := step 0 _ _ ⟨by decide, by decide⟩ ⟨_, rfl⟩ rfl c1
  refine dH.mono (fun y hy => ?_) c0
  rw [hy]
  have h0 : ∀ x : Int, orC x 0 = x := fun x => by unfold orC; split <;> omega
  rw [h0]
  rfl
theorem kR : aP prog [] iF kU :=
 gz (pt mC kK lC kF) j3 vq (by kernel_rfl) (fun _ _ => trivial) (A := lh) (T := fun x => o9 x.1 x.2.1) (fun x => s4 x.1 x.2.1) fun O w0 x _ _ =>
  vA O w0 x.1 x.2.1
def xK (O : Nat → Prop) (w0 : World) (t : List (den ab)) (ht : t.length ≤ 1000000) :=
 PLift.up <| rG (P := prog) (D := g7) (fn := cI) (rs := jj) (O := O) (w0 := w0) (todo := lp cI 2) (σ := Unit) t.length
  (fun i _ => pq t t (lnx ab t) i) (fun i _ => True)
  (fun i _ y => y = (kQ t i && decide (t.length ≤ 32), ()))
  (fun i s hi _ ih => jF (m4 pU kR) lW (lR t t _ _) ⟨fun _ => by
   have e1 : IntKind.wrap .i64 ((i : Int) - 1) = (i : Int) - 1 := cB (by omega)
   have e2 : ∀ x y, decide (0 ≤ mM x y) = !w8 x y := fun x y => by
    rw [w8, ← decide_not]; congr 1; exact propext (by omega)
   have hc : (bif !li (el ab t (i : Nat)) then true else bif decide (0 < (i : Int)) then decide (0 ≤ mM (el ab t (IntKind.wrap IntKind.i64 ((i : Int) - 1))) (el ab t (i : Nat))) else false) = !pY t i := by
    rw [e1, pY, e2]
    cases li (el ab t (i : Nat))
    ·rfl
    ·by_cases h : i = 0
     ·simp [h]
     ·have : (0 : Int) < (i : Int) := by omega
      rw [decide_eq_true this, decide_eq_false h]
      rfl
   refine ⟨cO hi, trivial, fun _ h => ?_, fun _ _ => trivial, ?_⟩
   ·have h : (0 : Int) < (i : Int) := of_decide_eq_true h
    rw [e1]
    show 0 ≤ (i : Int) - 1 ∧ (i : Int) - 1 < (t.length : Int)
    omega
   ·rw [hc, dz hi (by omega)]
    refine ⟨fun h => ⟨_, rfl, ?_⟩, fun h => ?_⟩
    ·rw [uL hi]
     have : pY t i = false := by simpa using h
     rw [this]; rfl
    ·refine dH.mono (fun y hy => ?_) (ih () trivial)
     have : pY t i = true := by simpa using h
     rw [hy, uL hi, this, Bool.true_and], fun h => by
   have h : ¬ (i : Int) < (t.length : Int) := of_decide_eq_false h
   omega⟩)
  (fun s _ => jF (m4 pU kR) lW (lR t t _ _) ⟨fun h => by
   have h : (t.length : Int) < (t.length : Int) := of_decide_eq_true h
   omega, fun _ => ⟨_, rfl, by
    rw [Ck]
    have : (lnx ab t ≤ 32) ↔ t.length ≤ 32 := ⟨fun h => by have h : (t.length : Int) ≤ 32 := h; omega, fun h => by show (t.length : Int) ≤ 32; omega⟩
    simp [this]⟩⟩)
theorem cH : aP prog [] cG c7 :=
 gz (m4 pU kR) lW xk (by kernel_rfl) (fun h => by cases h) (A := mS) (T := fun x => sj x.1) (fun x => va x.1) fun O w0 x _ hp =>
  (xK O w0 x.1 hp).down 0 () (Nat.zero_le _) trivial
end Go.Proofs.Ytnccacngedeoeaa
namespace Go.Proofs.Ytnccacngedeoeaa
open Go Go.RowKit
theorem dZ {σ : Type} (n : Nat) (Inv : Nat → σ → Prop) (Q : Nat → σ → Prop) (step : ∀ i s, i < n → Inv i s → (∀ s', Inv (i + 1) s' → Q (i + 1) s') → Q i s) (last : ∀ s, Inv n s → Q n s) : ∀ (i : Nat) (s : σ), i ≤ n → Inv i s → Q i s := by
 intro i s hi
 obtain ⟨k, hk⟩ : ∃ k, k + i = n := ⟨n - i, by omega⟩
 induction k generalizing i s with
 | zero =>
  have e : i = n := by omega
  subst e
  exact last s
 | succ k ih =>
  intro hI
  exact step i s (by omega) hI fun s' h' => ih (i + 1) s' (by omega) (by omega) h'
theorem dn {e : Ty} (t : List (den e)) {i : Nat} : (decide ((i : Int) < lnx e t)) = decide (i < t.length) := by
 rw [Bool.eq_iff_iff, decide_eq_true_eq, decide_eq_true_eq]
 exact ⟨fun h => by have h : (i : Int) < (t.length : Int) := h; omega, fun h => by show (i : Int) < (t.length : Int); omega⟩
theorem Bt (n : Nat) : vok 0 n n := by unfold vok; omega
def xz (O : Nat → Prop) (w0 : World) (t : List (den ab)) (id : den tId) (ht : t.length ≤ 1000000) :=
 PLift.up <| dZ (σ := Int × den tId) t.length (fun _ _ => True)
  (fun i s => bD prog gU (Cx.base O w0) (bR prog O w0 jc fun y => y = ((if (bE id (t.drop i) s.1 s.2).1 < 128 then ([] : List (den ab)) else t.filter fun x => decide (x.1 = (bE id (t.drop i) s.1 s.2).2)), (if (bE id (t.drop i) s.1 s.2).1 < 128 then (6 : Int) else 0), ())) [] du (lp c8 5) (lc t s.1 t (lnx ab t) (i : Nat) id s.2))
  (fun i s hi _ ih => aZ (mT cH kD fT lT) (lH t s.1 t _ _ id s.2) (by
   refine ⟨fun _ => ⟨cO hi, trivial, ?_⟩, fun h => ?_⟩
   ·rw [cV hi, dz hi (by omega), List.drop_eq_getElem_cons hi]
    refine ⟨fun h => ?_, fun h => ?_⟩
    ·have h : s.1 < da t[i].1 id := of_decide_eq_true h
     rw [bE, if_pos h]
     exact ih (da t[i].1 id, t[i].1) trivial
    ·have h : ¬ s.1 < da t[i].1 id := of_decide_eq_false h
     rw [bE, if_neg h]
     exact ih s trivial
   ·rw [dn] at h
    exact absurd hi (of_decide_eq_false h)))
  (fun s _ => aZ (mT cH kD fT lT) (lH t s.1 t _ _ id s.2) (by
   rw [List.drop_length]
   refine ⟨fun h => ?_, fun _ => ⟨fun h => ⟨_, rfl, ?_⟩, fun h => ⟨fun _ => trivial, ⟨ht, _, rfl⟩, _, rfl, ?_⟩⟩⟩
   ·rw [dn] at h
    exact absurd (of_decide_eq_true h) (Nat.lt_irrefl _)
   ·have h : s.1 < 128 := of_decide_eq_true h
    rw [bE, if_pos h, if_pos h]
   ·have h : ¬ s.1 < 128 := of_decide_eq_false h
    rw [bE, if_neg h, if_neg h]
    rfl))
theorem mZ : aP prog [] jM jV :=
 fu (S := jV) (mT cH kD fT lT) (fx := du) xI (by kernel_rfl) (fun h => by cases h) (T := fun x => r8 x.1 x.2.1) (fun x => vI x.1 x.2.1) fun O w0 x hk hp => by
  obtain ⟨t, id, ⟨⟩⟩ := x
  have hp : t.length ≤ 1000000 := hp
  refine ⟨hp, fun h => ⟨_, rfl, ?_⟩, fun h => ?_⟩
  ·have hr : aT t = false := by simpa using h
   have : aY t id = ([], 1) := by unfold aY; rw [if_neg (by rw [hr]; simp)]
   show (([] : List (den ab)), (1 : Int), ()) = ((aY t id).1, (aY t id).2, ())
   rw [this]
  ·have hr : aT t = true := by simpa using h
   have := (xz O w0 t id hp).down 0 (127, zero tId) (Nat.zero_le _) trivial
   have e : ((if (bE id t 127 (zero tId)).1 < 128 then ([] : List (den ab)) else t.filter fun x => decide (x.1 = (bE id t 127 (zero tId)).2)), (if (bE id t 127 (zero tId)).1 < 128 then (6 : Int) else 0), ()) = ((aY t id).1, (aY t id).2, ()) := by
    unfold aY
    rw [if_pos hr]
    split <;> rfl
   have this : bD prog gU (Cx.base O w0) (bR prog O w0 jc fun y => y = ((if (bE id t 127 (zero tId)).1 < 128 then ([] : List (den ab)) else t.filter fun x => decide (x.1 = (bE id t 127 (zero tId)).2)), (if (bE id t 127 (zero tId)).1 < 128 then (6 : Int) else 0), ())) [] du (lp c8 5) (lc t 127 t (lnx ab t) (0 : Nat) id (zero tId)) := this
   rw [e] at this
   exact this
end Go.Proofs.Ytnccacngedeoeaa
namespace Go.Proofs.Ytnccacngedeoeaa
open Go Go.RowKit
theorem Eh {l : List Ent} {i : Nat} (hi : i < l.length) (h : bM (l.take i) = true) : bM (l.take (i + 1)) = j2 l[i] := by
 unfold bM at h ⊢
 rw [List.take_succ_eq_append_getElem hi, List.all_append, h, List.all_cons, List.all_nil, Bool.and_true, Bool.true_and]
theorem Fp {l : List Ent} {i : Nat} (hi : i < l.length) (h : j2 l[i] = false) : bM l = false := by
 unfold bM
 rw [List.all_eq_false]
 exact ⟨l[i], List.getElem_mem hi, by rw [h]; simp⟩
def zr (O : Nat → Prop) (w0 : World) (l : List Ent) (hl : l.length ≤ 1000000) :=
 PLift.up <| dZ (σ := Unit) l.length (fun i _ => bM (l.take i) = true)
  (fun i _ => bD prog mr (Cx.base O w0) (bR prog O w0 n7 fun y => y = (bM l, ())) (dX l (lnx ai l) (i : Nat)) cv (lp bV 2) (d5 l (lnx ai l) (i : Nat)))
  (fun i s hi hb ih => aZ (pP nt) (dB l _ _) (by
   refine ⟨fun _ => ⟨cO hi, trivial, fun h => ⟨_, rfl, ?_⟩, fun h => ?_⟩, fun h => ?_⟩
   ·rw [cV hi] at h
    have h1 : j2 l[i] = false := by simpa using h
    rw [Fp hi h1, decide_eq_true (Int.natCast_nonneg i)]
    rfl
   ·rw [cV hi] at h
    rw [dz hi (by omega)]
    refine ih () ?_
    rw [Eh hi hb]
    simpa using h
   ·rw [dn] at h
    exact absurd hi (of_decide_eq_false h)))
  (fun s hb => aZ (pP nt) (dB l _ _) (by
   refine ⟨fun h => ?_, fun _ => ⟨_, rfl, ?_⟩⟩
   ·rw [dn] at h
    exact absurd (of_decide_eq_true h) (Nat.lt_irrefl _)
   ·rw [List.take_length] at hb
    rw [hb]
    rfl))
theorem eV : aP prog [] ia hH :=
 fu (S := hH) (pP nt) (fx := iW) Aj (by kernel_rfl) (fun h => by cases h) (T := fun x => uW x.1) (fun x => xw x.1) fun O w0 x _ hp =>
  (zr O w0 x.1 hp).down 0 () (Nat.zero_le _) rfl
theorem EN (l : List Ent) {a b : Bool} (ha : a = decide (1 ≤ l.length)) (hb : b = decide (l.length ≤ 4)) : (bif bif a then b else false then bM l else false) = cE l := by
 unfold cE
 rw [ha, hb]
 cases decide (1 ≤ l.length) <;> cases decide (l.length ≤ 4) <;> cases bM l <;> rfl
theorem Bv (l : List Ent) : decide ((1 : Int) ≤ lnx ai l) = decide (1 ≤ l.length) ∧ decide (lnx ai l ≤ 4) = decide (l.length ≤ 4) ∧ decide ((0 : Int) < lnx ai l) = decide (1 ≤ l.length) ∧ decide (lnx ai l < 5) = decide (l.length ≤ 4) := by
 have h : lnx ai l = (l.length : Int) := rfl
 rw [h]
 refine ⟨?_, ?_, ?_, ?_⟩ <;> (rw [Bool.eq_iff_iff, decide_eq_true_eq, decide_eq_true_eq]; omega)
theorem yB : aP prog [] jW jO :=
 fu (S := jO) (yz eV) (fx := qp) xr (by kernel_rfl) (fun h => by cases h) (T := fun x => r6 x.1) (fun x => vz x.1) fun O w0 x _ hp =>
  ⟨fun _ => hp, _, rfl, Prod.ext (EN x.1 (Bv x.1).1 (Bv x.1).2.1) rfl⟩
theorem DL (p : Pk) : (bif bif bif cE p.1 then decide ((0 : Int) ≤ p.2.1) else false then decide ((p.2.1 : Int) ≤ 64) else false then decide (fQ p.2.2.1 ≤ 64) else false) = am p := by
 unfold am
 have h : decide (fQ p.2.2.1 ≤ 64) = decide (ByteArray.size p.2.2.1 ≤ 64) := by
  rw [Bool.eq_iff_iff, decide_eq_true_eq, decide_eq_true_eq]
  unfold fQ
  omega
 rw [h]
 cases cE p.1 <;> cases decide ((0 : Int) ≤ p.2.1) <;> cases decide ((p.2.1 : Int) ≤ 64) <;> cases decide (ByteArray.size p.2.2.1 ≤ 64) <;> rfl
theorem iw : aP prog [] d6 d7 :=
 fu (S := d7) (vX yB) (fx := oH) vD (by kernel_rfl) (fun h => by cases h) (T := fun x => pd x.1) (fun x => sM x.1) fun O w0 x _ hp =>
  ⟨hp, _, rfl, Prod.ext (DL x.1) rfl⟩
theorem l6 : aP prog [] jb jd :=
 fu (S := jd) xu (fx := oU) wP (by kernel_rfl) (fun _ _ => trivial) (T := fun x => qo x.1) (fun x => uu x.1) fun O w0 x _ _ =>
  ⟨_, rfl, rfl⟩
theorem yd (O : Nat → Prop) (w0 : World) (l front : List Ent) (hl : l.length + front.length ≤ 4) :
    bD prog ff (Cx.base O w0) (bR prog O w0 gV fun y => y = (front ++ l, 0, ())) (d8 [front, l] 2 0 []) bh (lp a9 11) (ep [front, l] 2 0 []) :=
  aZ (fa eV) (cj _ _ _ _) (by
    refine ⟨fun _ => ⟨⟨by decide, show (0 : Int) < 2 by decide⟩, ?_, ?_⟩, fun h => by cases h⟩
    · show ([] ++ front).length ≤ bQ
      rw [List.nil_append]
      exact Nat.le_trans (show front.length ≤ 4 by omega) (by decide)
    · exact aZ (fa eV) (cj [front, l] 2 1 ([] ++ front)) (by
        refine ⟨fun _ => ⟨⟨by decide, show (1 : Int) < 2 by decide⟩, ?_, ?_⟩, fun h => by cases h⟩
        · show ([] ++ front ++ l).length ≤ bQ
          rw [List.nil_append, List.length_append]
          exact Nat.le_trans (show front.length + l.length ≤ 4 by omega) (by decide)
        · exact aZ (fa eV) (cj [front, l] 2 2 ([] ++ front ++ l)) ⟨(fun h => by cases h), fun _ => ⟨_, rfl, rfl⟩⟩))
theorem Am (l : List Ent) : lnx ai l = (l.length : Int) := rfl
theorem AD (O : Nat → Prop) (w0 : World) (l front : List Ent) (hl : l.length + front.length ≤ 4) :
    bD prog ff (Cx.base O w0) (bR prog O w0 gV fun y => y = (front ++ l, 0, ())) (cQ [front, l] ((front.length + l.length : Nat) : Int) [front, l] 2 2) bh (lp a9 3) (cR [front, l] ((front.length + l.length : Nat) : Int) [front, l] 2 2) :=
  aZ (fa eV) (cq _ _ _ _ _) (by
    have e : IntKind.wrap .i64 (((front.length + l.length : Nat) : Int) - IntKind.wrap .i64 (0 - 0)) = ((front.length + l.length : Nat) : Int) := by
      have : IntKind.wrap .i64 (0 - 0) = 0 := by decide
      rw [this]
      exact cB (by omega)
    refine ⟨(fun h => by cases h), fun _ => ⟨fun h => ?_, fun _ => ⟨fun h => ?_, fun _ => yd O w0 l front hl⟩⟩⟩
    · have h : ((front.length + l.length : Nat) : Int) < 0 := of_decide_eq_true h
      exact absurd h (Int.not_lt.2 (Int.natCast_nonneg _))
    · have h := of_decide_eq_true h
      rw [e] at h ⊢
      refine ⟨⟨by decide, by decide, by decide⟩, h, ?_, ⟨by decide, by decide, Int.natCast_nonneg _⟩, yd O w0 l front hl⟩
      rw [Int.toNat_natCast]
      exact Nat.le_trans (show front.length + l.length ≤ 4 by omega) (by decide))
theorem Fm (O : Nat → Prop) (w0 : World) (l front : List Ent) (hl : l.length + front.length ≤ 4) :
    bD prog ff (Cx.base O w0) (bR prog O w0 gV fun y => y = (front ++ l, 0, ())) (cQ [front, l] 0 [front, l] 2 0) bh (lp a9 3) (cR [front, l] 0 [front, l] 2 0) :=
  aZ (fa eV) (cq _ _ _ _ _) (by
    have e1 : IntKind.wrap .i64 (0 + lnx ai (el (.slc ai) [front, l] 0)) = ((front.length : Nat) : Int) := by
      show IntKind.wrap .i64 (0 + (front.length : Int)) = _
      rw [Int.zero_add]
      exact cB (by omega)
    have e2 : IntKind.wrap .i64 (((front.length : Nat) : Int) + lnx ai (el (.slc ai) [front, l] 1)) = ((front.length + l.length : Nat) : Int) := by
      show IntKind.wrap .i64 ((front.length : Int) + (l.length : Int)) = _
      rw [cB (by omega)]
      omega
    refine ⟨fun _ => ⟨⟨by decide, show (0 : Int) < 2 by decide⟩, fun h => ?_, fun _ => ?_⟩, fun h => by cases h⟩
    · rw [e1] at h
      exact absurd (of_decide_eq_true h) (by omega)
    · rw [e1]
      exact aZ (fa eV) (cq [front, l] ((front.length : Nat) : Int) [front, l] 2 1) (by
        refine ⟨fun _ => ⟨⟨by decide, show (1 : Int) < 2 by decide⟩, fun h => ?_, fun _ => ?_⟩, fun h => by cases h⟩
        · rw [e2] at h
          exact absurd (of_decide_eq_true h) (by omega)
        · rw [e2]
          exact AD O w0 l front hl))
theorem AB : aP prog [] ll iM :=
 fu (S := iM) (fa eV) (fx := c9) yF (by kernel_rfl) (fun h => by cases h) (T := fun x => to x.1 x.2.1) (fun x => w6 x.1 x.2.1) fun O w0 x _ hp => by
  obtain ⟨l, front, ⟨⟩⟩ := x
  have h1 : l.length ≤ 1000000 := hp.1
  have h2 : front.length ≤ 1000000 := hp.2
  have hc : (bif !bM l then true else !bM front) = !(bM l && bM front) := by cases bM l <;> cases bM front <;> rfl
  have hs : decide ((4 : Int) < IntKind.wrap .i64 (lnx ai l + lnx ai front)) = decide (4 < l.length + front.length) := by
   rw [Am, Am, cB (by omega), Bool.eq_iff_iff, decide_eq_true_eq, decide_eq_true_eq]
   omega
  refine ⟨h1, fun _ => h2, fun h => ⟨_, rfl, ?_⟩, fun h => ⟨fun h4 => ⟨_, rfl, ?_⟩, fun h4 => ?_⟩⟩
  ·rw [hc] at h
   have hn : ¬ (bM l = true ∧ bM front = true) := fun ⟨a, b⟩ => by rw [a, b] at h; cases h
   have e : bO l front = ([], 1) := by unfold bO; rw [if_neg hn]
   show (([] : List Ent), (1 : Int), ()) = ((bO l front).1, (bO l front).2, ())
   rw [e]
  ·rw [hc] at h
   rw [hs] at h4
   have hy : bM l = true ∧ bM front = true := by cases ha : bM l <;> cases hb : bM front <;> rw [ha, hb] at h <;> first | exact ⟨rfl, rfl⟩ | cases h
   have e : bO l front = ([], 12) := by unfold bO; rw [if_pos hy, if_neg (by have := of_decide_eq_true h4; omega)]
   show (([] : List Ent), (12 : Int), ()) = ((bO l front).1, (bO l front).2, ())
   rw [e]
  ·rw [hc] at h
   rw [hs] at h4
   have hy : bM l = true ∧ bM front = true := by cases ha : bM l <;> cases hb : bM front <;> rw [ha, hb] at h <;> first | exact ⟨rfl, rfl⟩ | cases h
   have h4 := of_decide_eq_false h4
   have e : bO l front = (front ++ l, 0) := by unfold bO; rw [if_pos hy, if_pos (by omega)]
   have he : iM.g (l, front, ()) = (front ++ l, 0, ()) := by show ((bO l front).1, (bO l front).2, ()) = _; rw [e]
   rw [he]
   exact Fm O w0 l front (by omega)
theorem drop_one (l : List Ent) : f5 ai l 1 (lnx ai l) = List.drop 1 l := by
 unfold f5 f9 lnx ln
 rw [Int.toNat_natCast, List.take_length]
 rfl
theorem nV : aP prog [] kL kP :=
 fu (S := kP) (zI AB) (fx := rZ) yA (by kernel_rfl) (fun h => by cases h) (T := fun x => s9 x.1 x.2.1 x.2.2.1) (fun x => wn x.1 x.2.1 x.2.2.1) fun O w0 x _ hp => by
  obtain ⟨p, tr, front, ⟨⟩⟩ := x
  have h1 : 1 ≤ p.1.length := hp.1
  have h2 : p.1.length ≤ 1000000 := hp.2.1
  have h3 : front.length ≤ 1000000 := hp.2.2
  refine ⟨⟨by decide, by rw [Am]; omega, Int.le_refl _⟩, ⟨?_, h3⟩, _, rfl, ?_⟩
  ·rw [drop_one, List.length_drop]; omega
  ·rw [drop_one]
   rfl
end Go.Proofs.Ytnccacngedeoeaa
namespace Go.Proofs.Ytnccacngedeoeaa
open Go Go.RowKit
noncomputable abbrev d9 : Fx := { fn := dS, ann := { loops := [(15, { keep := [3, 9, 62, 63, 64], own := [(9, bn)] })] } }
noncomputable abbrev i9 : bS := { D := { T := bG, F := [(d6, d7), (cG, c7), (jM, jV), (jb, jd), (kL, kP)], R := [], ovl := [] }, inl := [] }
noncomputable abbrev qw : dC := .data kN
theorem me (h_rewrite_Right : aP prog [] d6 d7) (h_table_Right : aP prog [] cG c7) (h_table_Match : aP prog [] jM jV) (h_rewrite_dead : aP prog [] jb jd) (h_rewrite_on : aP prog [] kL kP) : XOk prog i9 := xok (aV (aV (aV (aV (aV (bg bt aW) h_rewrite_on) h_rewrite_dead) h_table_Match) h_table_Right) h_rewrite_Right) (by kernel_rfl) cp cY cZ
noncomputable def p8 (t : den (Ty.slc ab)) (p : den ag) : af := af.req (List.length (Prod.fst p) ≤ 1000000) (af.req (m3 [(!am p, false)] (List.length t ≤ 1000000)) (af.ite (bif !am p then true else !aT t) (af.ret (K.val (Ty.pair (Ty.slc bn) (Ty.pair ae Ty.unit)) ([], 1, PUnit.unit))) (af.req (inB 0 (lnx ai (Prod.fst p))) (af.req (List.length t ≤ 1000000) (af.ite (decide (Prod.fst (el ai (Prod.fst p) 0) = 2)) (af.ret (K.val (Ty.pair (Ty.slc bn) (Ty.pair ae Ty.unit)) (List.set (List.replicate 1 (zero bn)) 0 (1, Prod.fst (Prod.snd (Prod.snd (el ai (Prod.fst p) 0))), p, Prod.snd (Prod.snd (Prod.snd (zero (Ty.pair ae (Ty.pair ae (Ty.pair ag (Ty.pair ab (Ty.pair ae Ty.unit))))))))), 0, PUnit.unit))) (af.ite (decide (Prod.fst (Prod.snd p) = 0)) (af.req True (af.ret (K.val (Ty.pair (Ty.slc bn) (Ty.pair ae Ty.unit)) (gT 9, 0, PUnit.unit)))) (af.ite (bif !decide (Prod.snd (aY t (Prod.fst (Prod.snd (el ai (Prod.fst p) 0)))) = 0) then decide (1 < lnx ai (Prod.fst p)) else false) (af.req (1 ≤ List.length (Prod.fst p) ∧ List.length (Prod.fst p) ≤ 1000000 ∧ (0 : Nat) ≤ 1000000) (af.ret (K.val (Ty.pair (Ty.slc bn) (Ty.pair ae Ty.unit)) (List.set (List.replicate 1 (zero bn)) 0 (eK p (zero (Ty.pair tId (Ty.pair ai (Ty.pair ae Ty.unit)))) []), 0, PUnit.unit)))) (af.ite (!decide (Prod.snd (aY t (Prod.fst (Prod.snd (el ai (Prod.fst p) 0)))) = 0)) (af.req True (af.ret (K.val (Ty.pair (Ty.slc bn) (Ty.pair ae Ty.unit)) (gT 6, 0, PUnit.unit)))) (af.loop [] d9 (lp dS 15) [(3, K.ptr 0 ag []), (9, K.sl (0 + 1) bn), (62, K.val (Ty.slc ab) (Prod.fst (aY t (Prod.fst (Prod.snd (el ai (Prod.fst p) 0)))))), (63, K.val ae (lnx ab (Prod.fst (aY t (Prod.fst (Prod.snd (el ai (Prod.fst p) 0))))))), (64, K.val ae 0)] [(0, Bx.cell ag p), (0 + 1, Bx.row bn [])])))))))))
theorem ut (t : den (Ty.slc ab)) (p : den ag) : aM i9 qw 5000 [] d9 (aN dS) (Env.of (aS o3 (t, p, ()) 0) []) = p8 t p := by kernel_rfl
noncomputable def ng (v62 : den (Ty.slc ab)) (v63 : den ae) (v64 : den ae) (b0 : den ag) (b1 : List (den bn)) : Env := Env.of [(3, K.ptr 0 ag []), (9, K.sl (0 + 1) bn), (62, K.val (Ty.slc ab) v62), (63, K.val ae v63), (64, K.val ae v64)] [(0, Bx.cell ag b0), (1, Bx.row bn b1)]
noncomputable def tn (v62 : den (Ty.slc ab)) (v63 : den ae) (v64 : den ae) (b0 : den ag) (b1 : List (den bn)) : af := af.ite (decide (v64 < v63)) (af.req (inB v64 (lnx ab v62)) (af.req (1 ≤ List.length (Prod.fst b0) ∧ List.length (Prod.fst b0) ≤ 1000000 ∧ List.length (List.set (List.replicate 1 (zero ai)) 0 (Prod.fst (Prod.snd (el ab v62 v64)))) ≤ 1000000) (af.req (List.length (b1 ++ List.set (List.replicate 1 (zero bn)) 0 (eK b0 (el ab v62 v64) (List.set (List.replicate 1 (zero ai)) 0 (Prod.fst (Prod.snd (el ab v62 v64)))))) ≤ bQ) (af.loop [] d9 (lp dS 15) [(3, K.ptr 0 ag []), (9, K.sl (0 + 1) bn), (62, K.val (Ty.slc ab) v62), (63, K.val ae v63), (64, K.val ae (IntKind.wrap IntKind.i64 (v64 + 1)))] [(0, Bx.cell ag b0), (0 + 1, Bx.row bn (b1 ++ List.set (List.replicate 1 (zero bn)) 0 (eK b0 (el ab v62 v64) (List.set (List.replicate 1 (zero ai)) 0 (Prod.fst (Prod.snd (el ab v62 v64)))))))])))) (af.ret (K.val (Ty.pair (Ty.slc bn) (Ty.pair ae Ty.unit)) (b1, 0, PUnit.unit)))
theorem kg (v62 : den (Ty.slc ab)) (v63 : den ae) (v64 : den ae) (b0 : den ag) (b1 : List (den bn)) : aM i9 qw 5000 [] d9 (lp dS 15) (ng v62 v63 v64 b0 b1) = tn v62 v63 v64 b0 b1 := by kernel_rfl
noncomputable abbrev m0 : Fx := { fn := iD, ann := { }, share := true }
noncomputable abbrev mz : Fx := { fn := g8, ann := { }, share := true }
noncomputable abbrev az : Fx := { fn := aB, ann := { loops := [(8, { keep := [0, 4, 6, 7, 8, 9, 10] }), (15, { keep := [0, 4, 6, 7, 8, 9, 52, 53, 54] }), (28, { keep := [4, 6, 90, 91], own := [(6, (.mp (.arr 0 .bool) ae))] }), (31, { keep := [4, 6, 15, 90, 91, 95, 96], own := [(6, (.mp (.arr 0 .bool) ae))] })], frz := [(35, [1006, 100006])] }, own := [6, 8], share := true }
noncomputable abbrev bc : bS := { D := { T := bG, F := [(cG, c7), (d6, d7), (jq, gi)], R := [], ovl := [] }, inl := [(ip, m0), (g6, mz)] }
noncomputable abbrev fb : dC := .data bJ
theorem vK (h_table_Right : aP prog [] cG c7) (h_rewrite_Right : aP prog [] d6 d7) (h_rewrite_Step : aP prog [] jq gi) : XOk prog bc := xok (aV (aV (aV (bg bt aW) h_rewrite_Step) h_rewrite_Right) h_table_Right) (by kernel_rfl) cp (fl mQ (by kernel_rfl) (fl mD (by kernel_rfl) cY)) cZ
noncomputable def oy (t : den (Ty.slc ab)) (p : den ag) : af := af.req (List.length t ≤ 1000000) (af.all (den Ty.bool) (fun (q2 : den Ty.bool) ↦ q2 = aT t) fun (q2 : den Ty.bool) ↦ af.req (m3 [(!q2, false)] (List.length (Prod.fst p) ≤ 1000000)) (af.ite (bif !q2 then true else !am p) (af.ret (K.val (Ty.pair aj (Ty.pair ae Ty.unit)) (zero (Ty.pair (Ty.slc ae) (Ty.pair ae (Ty.pair ae (Ty.pair ae Ty.unit)))), 1, PUnit.unit))) (af.req (List.length (List.set (List.replicate 1 (zero ag)) 0 p) ≤ bQ) (af.ite (decide (lnx ag (List.set (List.replicate 1 (zero ag)) 0 p) = 0)) (af.loop [] az (lp aB 8) [(0, K.val (Ty.slc ab) t), (4, K.ptr 0 aj []), (6, K.ptr (0 + 1) aj []), (7, K.ptr (0 + 1 + 1) (Ty.arr 16 ae) []), (8, K.ptr (0 + 1 + 1 + 1) aC []), (9, K.ptr (0 + 1 + 1 + 1 + 1) ag []), (10, K.val Ty.bool false)] [(0, Bx.cell aj (zero aj)), (0 + 1, Bx.obj aj (K.agg (Ty.pair (Ty.slc ae) (Ty.pair ae (Ty.pair ae (Ty.pair ae Ty.unit)))) (K.kcons K.nilsl (K.kcons (K.val ae (zero ae)) (K.kcons (K.val ae (zero ae)) (K.kcons (K.val ae (zero ae)) K.knil)))))), (0 + 1 + 1, Bx.cell (Ty.arr 16 ae) (zero (Ty.arr 16 ae))), (0 + 1 + 1 + 1, Bx.obj aC (K.agg (Ty.pair (Ty.slc ag) Ty.unit) (K.kcons (K.sl (0 + 1 + 1 + 1 + 1 + 1) ag) K.knil))), (0 + 1 + 1 + 1 + 1, Bx.cell ag (zero ag)), (0 + 1 + 1 + 1 + 1 + 1, Bx.row ag (List.set (List.replicate 1 (zero ag)) 0 p))]) (af.req (inB 0 (lnx ag (List.set (List.replicate 1 (zero ag)) 0 p))) (af.req (inB 0 (lnx ag (List.set (List.replicate 1 (zero ag)) 0 p))) (af.req (vok 0 (List.length (List.set (List.replicate 1 (zero ag)) 0 p)) (List.length (List.set (List.replicate 1 (zero ag)) 0 p))) (af.req (bK 1 (↑(List.length (List.set (List.replicate 1 (zero ag)) 0 p)) : Int) (↑(List.length (List.set (List.replicate 1 (zero ag)) 0 p) - 0) : Int)) (af.req (0 + Int.toNat 1 + (Int.toNat (↑(List.length (List.set (List.replicate 1 (zero ag)) 0 p)) : Int) - Int.toNat 1) ≤ List.length (List.set (List.replicate 1 (zero ag)) 0 p)) (af.loop [] az (lp aB 8) [(0, K.val (Ty.slc ab) t), (4, K.ptr 0 aj []), (6, K.ptr (0 + 1) aj []), (7, K.ptr (0 + 1 + 1) (Ty.arr 16 ae) []), (8, K.ptr (0 + 1 + 1 + 1) aC []), (9, K.ptr (0 + 1 + 1 + 1 + 1) ag []), (10, K.val Ty.bool true)] [(0, Bx.cell aj (zero aj)), (0 + 1, Bx.obj aj (K.agg (Ty.pair (Ty.slc ae) (Ty.pair ae (Ty.pair ae (Ty.pair ae Ty.unit)))) (K.kcons K.nilsl (K.kcons (K.val ae (zero ae)) (K.kcons (K.val ae (zero ae)) (K.kcons (K.val ae (zero ae)) K.knil)))))), (0 + 1 + 1, Bx.cell (Ty.arr 16 ae) (zero (Ty.arr 16 ae))), (0 + 1 + 1 + 1, Bx.obj aC (K.agg (Ty.pair (Ty.slc ag) Ty.unit) (K.kcons (K.sl (0 + 1 + 1 + 1 + 1 + 1) ag) K.knil))), (0 + 1 + 1 + 1 + 1, Bx.cell ag (el ag (List.set (List.replicate 1 (zero ag)) 0 p) 0)), (0 + 1 + 1 + 1 + 1 + 1, Bx.row ag (List.take (Int.toNat (↑(List.length (List.set (List.replicate 1 (zero ag)) 0 p)) : Int) - Int.toNat 1) (List.drop (0 + Int.toNat 1) (List.set (List.replicate 1 (zero ag)) 0 p))))]))))))))))
theorem so (t : den (Ty.slc ab)) (p : den ag) : aM bc fb 5000 [] az (aN aB) (Env.of (aS m8 (t, p, ()) 0) []) = oy t p := by kernel_rfl
noncomputable def fo (v0 : den (Ty.slc ab)) (v10 : den Ty.bool) (b0 : den aj) (b1 : den ae) (b1_1 : den ae) (b1_2 : den ae) (b2 : den (Ty.arr 16 ae)) (b4 : den ag) (b5 : List (den ag)) : Env := Env.of [(0, K.val (Ty.slc ab) v0), (4, K.ptr 0 aj []), (6, K.ptr (0 + 1) aj []), (7, K.ptr (0 + 1 + 1) (Ty.arr 16 ae) []), (8, K.ptr (0 + 1 + 1 + 1) aC []), (9, K.ptr (0 + 1 + 1 + 1 + 1) ag []), (10, K.val Ty.bool v10)] [(0, Bx.cell aj b0), (1, Bx.obj aj (K.agg (Ty.pair (Ty.slc ae) (Ty.pair ae (Ty.pair ae (Ty.pair ae Ty.unit)))) (K.kcons K.nilsl (K.kcons (K.val ae b1) (K.kcons (K.val ae b1_1) (K.kcons (K.val ae b1_2) K.knil)))))), (2, Bx.cell (Ty.arr 16 ae) b2), (3, Bx.obj aC (K.agg (Ty.pair (Ty.slc ag) Ty.unit) (K.kcons (K.sl (0 + 1 + 1 + 1 + 1 + 1) ag) K.knil))), (4, Bx.cell ag b4), (5, Bx.row ag b5)]
noncomputable def ss (v0 : den (Ty.slc ab)) (v10 : den Ty.bool) (b0 : den aj) (b1 : den ae) (b1_1 : den ae) (b1_2 : den ae) (b2 : den (Ty.arr 16 ae)) (b4 : den ag) (b5 : List (den ag)) : af := af.ite v10 (af.ite (decide (1000 < IntKind.wrap IntKind.i64 (b1_2 + 1))) (af.ret (K.val (Ty.pair aj (Ty.pair ae Ty.unit)) (zero (Ty.pair (Ty.slc ae) (Ty.pair ae (Ty.pair ae (Ty.pair ae Ty.unit)))), 8, PUnit.unit))) (af.req (List.length v0 ≤ 1000000 ∧ List.length (Prod.fst b4) ≤ 1000000) (af.all (den (Ty.pair (Ty.slc bn) (Ty.pair ae Ty.unit))) (fun (q9 : den (Ty.pair (Ty.slc bn) (Ty.pair ae Ty.unit))) ↦ q9 = (Prod.fst (aO v0 b4), Prod.snd (aO v0 b4), PUnit.unit)) fun (q9 : den (Ty.pair (Ty.slc bn) (Ty.pair ae Ty.unit))) ↦ af.loop [] az (lp aB 15) [(0, K.val (Ty.slc ab) v0), (4, K.ptr 0 aj []), (6, K.ptr (0 + 1) aj []), (7, K.ptr (0 + 1 + 1) (Ty.arr 16 ae) []), (8, K.ptr (0 + 1 + 1 + 1) aC []), (9, K.ptr (0 + 1 + 1 + 1 + 1) ag []), (52, K.val (Ty.slc bn) (Prod.fst q9)), (53, K.val ae (lnx bn (Prod.fst q9))), (54, K.val ae 0)] [(0, Bx.cell aj b0), (0 + 1, Bx.obj aj (K.agg (Ty.pair (Ty.slc ae) (Ty.pair ae (Ty.pair ae (Ty.pair ae Ty.unit)))) (K.kcons K.nilsl (K.kcons (K.val ae b1) (K.kcons (K.val ae b1_1) (K.kcons (K.val ae (IntKind.wrap IntKind.i64 (b1_2 + 1))) K.knil)))))), (0 + 1 + 1, Bx.cell (Ty.arr 16 ae) b2), (0 + 1 + 1 + 1, Bx.obj aC (K.agg (Ty.pair (Ty.slc ag) Ty.unit) (K.kcons (K.sl (0 + 1 + 1 + 1 + 1 + 1) ag) K.knil))), (0 + 1 + 1 + 1 + 1, Bx.cell ag b4), (0 + 1 + 1 + 1 + 1 + 1, Bx.row ag b5)]))) (af.loop [] az (lp aB 28) [(4, K.ptr 0 aj []), (6, K.ptr (0 + 1) aj []), (90, K.val (Ty.arr 16 ae) b2), (91, K.val ae 0)] [(0, Bx.cell aj b0), (0 + 1, Bx.obj aj (K.agg (Ty.pair (Ty.slc ae) (Ty.pair ae (Ty.pair ae (Ty.pair ae Ty.unit)))) (K.kcons (K.sl (0 + 1 + 1) ae) (K.kcons (K.val ae b1) (K.kcons (K.val ae b1_1) (K.kcons (K.val ae b1_2) K.knil)))))), (0 + 1 + 1, Bx.row ae [])])
theorem fK (v0 : den (Ty.slc ab)) (v10 : den Ty.bool) (b0 : den aj) (b1 : den ae) (b1_1 : den ae) (b1_2 : den ae) (b2 : den (Ty.arr 16 ae)) (b4 : den ag) (b5 : List (den ag)) : aM bc fb 5000 [] az (lp aB 8) (fo v0 v10 b0 b1 b1_1 b1_2 b2 b4 b5) = ss v0 v10 b0 b1 b1_1 b1_2 b2 b4 b5 := by kernel_rfl
noncomputable def ig (v0 : den (Ty.slc ab)) (v52 : den (Ty.slc bn)) (v53 : den ae) (v54 : den ae) (b0 : den aj) (b1 : den ae) (b1_1 : den ae) (b1_2 : den ae) (b2 : den (Ty.arr 16 ae)) (b4 : den ag) (b5 : List (den ag)) : Env := Env.of [(0, K.val (Ty.slc ab) v0), (4, K.ptr 0 aj []), (6, K.ptr (0 + 1) aj []), (7, K.ptr (0 + 1 + 1) (Ty.arr 16 ae) []), (8, K.ptr (0 + 1 + 1 + 1) aC []), (9, K.ptr (0 + 1 + 1 + 1 + 1) ag []), (52, K.val (Ty.slc bn) v52), (53, K.val ae v53), (54, K.val ae v54)] [(0, Bx.cell aj b0), (1, Bx.obj aj (K.agg (Ty.pair (Ty.slc ae) (Ty.pair ae (Ty.pair ae (Ty.pair ae Ty.unit)))) (K.kcons K.nilsl (K.kcons (K.val ae b1) (K.kcons (K.val ae b1_1) (K.kcons (K.val ae b1_2) K.knil)))))), (2, Bx.cell (Ty.arr 16 ae) b2), (3, Bx.obj aC (K.agg (Ty.pair (Ty.slc ag) Ty.unit) (K.kcons (K.sl (0 + 1 + 1 + 1 + 1 + 1) ag) K.knil))), (4, Bx.cell ag b4), (5, Bx.row ag b5)]
noncomputable def rW (v0 : den (Ty.slc ab)) (v52 : den (Ty.slc bn)) (v53 : den ae) (v54 : den ae) (b0 : den aj) (b1 : den ae) (b1_1 : den ae) (b1_2 : den ae) (b2 : den (Ty.arr 16 ae)) (b4 : den ag) (b5 : List (den ag)) : af := af.ite (decide (v54 < v53)) (af.req (inB v54 (lnx bn v52)) (af.ite (decide (Prod.fst (el bn v52 v54) = 1)) (af.req (inB (Prod.fst (Prod.snd (el bn v52 v54))) (↑16 : Int)) (af.req (inB (Prod.fst (Prod.snd (el bn v52 v54))) (↑16 : Int)) (af.loop [] az (lp aB 15) [(0, K.val (Ty.slc ab) v0), (4, K.ptr 0 aj []), (6, K.ptr (0 + 1) aj []), (7, K.ptr (0 + 1 + 1) (Ty.arr 16 ae) []), (8, K.ptr (0 + 1 + 1 + 1) aC []), (9, K.ptr (0 + 1 + 1 + 1 + 1) ag []), (52, K.val (Ty.slc bn) v52), (53, K.val ae v53), (54, K.val ae (IntKind.wrap IntKind.i64 (v54 + 1)))] [(0, Bx.cell aj b0), (0 + 1, Bx.obj aj (K.agg (Ty.pair (Ty.slc ae) (Ty.pair ae (Ty.pair ae (Ty.pair ae Ty.unit)))) (K.kcons K.nilsl (K.kcons (K.val ae b1) (K.kcons (K.val ae b1_1) (K.kcons (K.val ae b1_2) K.knil)))))), (0 + 1 + 1, Bx.cell (Ty.arr 16 ae) (kG ae b2 (Prod.fst (Prod.snd (el bn v52 v54))) (IntKind.wrap IntKind.i64 (el ae b2 (Prod.fst (Prod.snd (el bn v52 v54))) + 1)))), (0 + 1 + 1 + 1, Bx.obj aC (K.agg (Ty.pair (Ty.slc ag) Ty.unit) (K.kcons (K.sl (0 + 1 + 1 + 1 + 1 + 1) ag) K.knil))), (0 + 1 + 1 + 1 + 1, Bx.cell ag b4), (0 + 1 + 1 + 1 + 1 + 1, Bx.row ag b5)]))) (af.ite (decide (Prod.fst (el bn v52 v54) = 2)) (af.req (List.length (b5 ++ List.set (List.replicate 1 (zero ag)) 0 (Prod.fst (Prod.snd (Prod.snd (el bn v52 v54))))) ≤ bQ) (af.loop [] az (lp aB 15) [(0, K.val (Ty.slc ab) v0), (4, K.ptr 0 aj []), (6, K.ptr (0 + 1) aj []), (7, K.ptr (0 + 1 + 1) (Ty.arr 16 ae) []), (8, K.ptr (0 + 1 + 1 + 1) aC []), (9, K.ptr (0 + 1 + 1 + 1 + 1) ag []), (52, K.val (Ty.slc bn) v52), (53, K.val ae v53), (54, K.val ae (IntKind.wrap IntKind.i64 (v54 + 1)))] [(0, Bx.cell aj b0), (0 + 1, Bx.obj aj (K.agg (Ty.pair (Ty.slc ae) (Ty.pair ae (Ty.pair ae (Ty.pair ae Ty.unit)))) (K.kcons K.nilsl (K.kcons (K.val ae b1) (K.kcons (K.val ae b1_1) (K.kcons (K.val ae b1_2) K.knil)))))), (0 + 1 + 1, Bx.cell (Ty.arr 16 ae) b2), (0 + 1 + 1 + 1, Bx.obj aC (K.agg (Ty.pair (Ty.slc ag) Ty.unit) (K.kcons (K.sl (0 + 1 + 1 + 1 + 1 + 1) ag) K.knil))), (0 + 1 + 1 + 1 + 1, Bx.cell ag b4), (0 + 1 + 1 + 1 + 1 + 1, Bx.row ag (b5 ++ List.set (List.replicate 1 (zero ag)) 0 (Prod.fst (Prod.snd (Prod.snd (el bn v52 v54))))))])) (af.ite (decide (Prod.fst (Prod.snd (Prod.snd (Prod.snd (Prod.snd (el bn v52 v54))))) = 9)) (af.loop [] az (lp aB 15) [(0, K.val (Ty.slc ab) v0), (4, K.ptr 0 aj []), (6, K.ptr (0 + 1) aj []), (7, K.ptr (0 + 1 + 1) (Ty.arr 16 ae) []), (8, K.ptr (0 + 1 + 1 + 1) aC []), (9, K.ptr (0 + 1 + 1 + 1 + 1) ag []), (52, K.val (Ty.slc bn) v52), (53, K.val ae v53), (54, K.val ae (IntKind.wrap IntKind.i64 (v54 + 1)))] [(0, Bx.cell aj b0), (0 + 1, Bx.obj aj (K.agg (Ty.pair (Ty.slc ae) (Ty.pair ae (Ty.pair ae (Ty.pair ae Ty.unit)))) (K.kcons K.nilsl (K.kcons (K.val ae b1) (K.kcons (K.val ae (IntKind.wrap IntKind.i64 (b1_1 + 1))) (K.kcons (K.val ae b1_2) K.knil)))))), (0 + 1 + 1, Bx.cell (Ty.arr 16 ae) b2), (0 + 1 + 1 + 1, Bx.obj aC (K.agg (Ty.pair (Ty.slc ag) Ty.unit) (K.kcons (K.sl (0 + 1 + 1 + 1 + 1 + 1) ag) K.knil))), (0 + 1 + 1 + 1 + 1, Bx.cell ag b4), (0 + 1 + 1 + 1 + 1 + 1, Bx.row ag b5)]) (af.loop [] az (lp aB 15) [(0, K.val (Ty.slc ab) v0), (4, K.ptr 0 aj []), (6, K.ptr (0 + 1) aj []), (7, K.ptr (0 + 1 + 1) (Ty.arr 16 ae) []), (8, K.ptr (0 + 1 + 1 + 1) aC []), (9, K.ptr (0 + 1 + 1 + 1 + 1) ag []), (52, K.val (Ty.slc bn) v52), (53, K.val ae v53), (54, K.val ae (IntKind.wrap IntKind.i64 (v54 + 1)))] [(0, Bx.cell aj b0), (0 + 1, Bx.obj aj (K.agg (Ty.pair (Ty.slc ae) (Ty.pair ae (Ty.pair ae (Ty.pair ae Ty.unit)))) (K.kcons K.nilsl (K.kcons (K.val ae (IntKind.wrap IntKind.i64 (b1 + 1))) (K.kcons (K.val ae b1_1) (K.kcons (K.val ae b1_2) K.knil)))))), (0 + 1 + 1, Bx.cell (Ty.arr 16 ae) b2), (0 + 1 + 1 + 1, Bx.obj aC (K.agg (Ty.pair (Ty.slc ag) Ty.unit) (K.kcons (K.sl (0 + 1 + 1 + 1 + 1 + 1) ag) K.knil))), (0 + 1 + 1 + 1 + 1, Bx.cell ag b4), (0 + 1 + 1 + 1 + 1 + 1, Bx.row ag b5)]))))) (af.ite (decide (lnx ag b5 = 0)) (af.loop [] az (lp aB 8) [(0, K.val (Ty.slc ab) v0), (4, K.ptr 0 aj []), (6, K.ptr (0 + 1) aj []), (7, K.ptr (0 + 1 + 1) (Ty.arr 16 ae) []), (8, K.ptr (0 + 1 + 1 + 1) aC []), (9, K.ptr (0 + 1 + 1 + 1 + 1) ag []), (10, K.val Ty.bool false)] [(0, Bx.cell aj b0), (0 + 1, Bx.obj aj (K.agg (Ty.pair (Ty.slc ae) (Ty.pair ae (Ty.pair ae (Ty.pair ae Ty.unit)))) (K.kcons K.nilsl (K.kcons (K.val ae b1) (K.kcons (K.val ae b1_1) (K.kcons (K.val ae b1_2) K.knil)))))), (0 + 1 + 1, Bx.cell (Ty.arr 16 ae) b2), (0 + 1 + 1 + 1, Bx.obj aC (K.agg (Ty.pair (Ty.slc ag) Ty.unit) (K.kcons (K.sl (0 + 1 + 1 + 1 + 1 + 1) ag) K.knil))), (0 + 1 + 1 + 1 + 1, Bx.cell ag (zero ag)), (0 + 1 + 1 + 1 + 1 + 1, Bx.row ag b5)]) (af.req (inB 0 (lnx ag b5)) (af.req (inB 0 (lnx ag b5)) (af.req (vok 0 (List.length b5) (List.length b5)) (af.req (bK 1 (↑(List.length b5) : Int) (↑(List.length b5 - 0) : Int)) (af.req (0 + Int.toNat 1 + (Int.toNat (↑(List.length b5) : Int) - Int.toNat 1) ≤ List.length b5) (af.loop [] az (lp aB 8) [(0, K.val (Ty.slc ab) v0), (4, K.ptr 0 aj []), (6, K.ptr (0 + 1) aj []), (7, K.ptr (0 + 1 + 1) (Ty.arr 16 ae) []), (8, K.ptr (0 + 1 + 1 + 1) aC []), (9, K.ptr (0 + 1 + 1 + 1 + 1) ag []), (10, K.val Ty.bool true)] [(0, Bx.cell aj b0), (0 + 1, Bx.obj aj (K.agg (Ty.pair (Ty.slc ae) (Ty.pair ae (Ty.pair ae (Ty.pair ae Ty.unit)))) (K.kcons K.nilsl (K.kcons (K.val ae b1) (K.kcons (K.val ae b1_1) (K.kcons (K.val ae b1_2) K.knil)))))), (0 + 1 + 1, Bx.cell (Ty.arr 16 ae) b2), (0 + 1 + 1 + 1, Bx.obj aC (K.agg (Ty.pair (Ty.slc ag) Ty.unit) (K.kcons (K.sl (0 + 1 + 1 + 1 + 1 + 1) ag) K.knil))), (0 + 1 + 1 + 1 + 1, Bx.cell ag (el ag b5 0)), (0 + 1 + 1 + 1 + 1 + 1, Bx.row ag (List.take (Int.toNat (↑(List.length b5) : Int) - Int.toNat 1) (List.drop (0 + Int.toNat 1) b5)))])))))))
theorem jz (v0 : den (Ty.slc ab)) (v52 : den (Ty.slc bn)) (v53 : den ae) (v54 : den ae) (b0 : den aj) (b1 : den ae) (b1_1 : den ae) (b1_2 : den ae) (b2 : den (Ty.arr 16 ae)) (b4 : den ag) (b5 : List (den ag)) : aM bc fb 5000 [] az (lp aB 15) (ig v0 v52 v53 v54 b0 b1 b1_1 b1_2 b2 b4 b5) = rW v0 v52 v53 v54 b0 b1 b1_1 b1_2 b2 b4 b5 := by kernel_rfl
noncomputable def ij (v90 : den (Ty.arr 16 ae)) (v91 : den ae) (b0 : den aj) (b1 : den ae) (b1_1 : den ae) (b1_2 : den ae) (b2 : List (den ae)) : Env := Env.of [(4, K.ptr 0 aj []), (6, K.ptr (0 + 1) aj []), (90, K.val (Ty.arr 16 ae) v90), (91, K.val ae v91)] [(0, Bx.cell aj b0), (1, Bx.obj aj (K.agg (Ty.pair (Ty.slc ae) (Ty.pair ae (Ty.pair ae (Ty.pair ae Ty.unit)))) (K.kcons (K.sl (0 + 1 + 1) ae) (K.kcons (K.val ae b1) (K.kcons (K.val ae b1_1) (K.kcons (K.val ae b1_2) K.knil)))))), (2, Bx.row ae b2)]
noncomputable def ry (v90 : den (Ty.arr 16 ae)) (v91 : den ae) (b0 : den aj) (b1 : den ae) (b1_1 : den ae) (b1_2 : den ae) (b2 : List (den ae)) : af := af.ite (decide (v91 < 16)) (af.req (inB v91 (↑16 : Int)) (af.loop [] az (lp aB 31) [(4, K.ptr 0 aj []), (6, K.ptr (0 + 1) aj []), (15, K.val ae v91), (90, K.val (Ty.arr 16 ae) v90), (91, K.val ae v91), (95, K.val ae (el ae v90 v91)), (96, K.val ae 0)] [(0, Bx.cell aj b0), (0 + 1, Bx.obj aj (K.agg (Ty.pair (Ty.slc ae) (Ty.pair ae (Ty.pair ae (Ty.pair ae Ty.unit)))) (K.kcons (K.sl (0 + 1 + 1) ae) (K.kcons (K.val ae b1) (K.kcons (K.val ae b1_1) (K.kcons (K.val ae b1_2) K.knil)))))), (0 + 1 + 1, Bx.row ae b2)])) (af.ret (K.val (Ty.pair aj (Ty.pair ae Ty.unit)) ((b2, b1, b1_1, b1_2, PUnit.unit), 0, PUnit.unit)))
theorem jv (v90 : den (Ty.arr 16 ae)) (v91 : den ae) (b0 : den aj) (b1 : den ae) (b1_1 : den ae) (b1_2 : den ae) (b2 : List (den ae)) : aM bc fb 5000 [] az (lp aB 28) (ij v90 v91 b0 b1 b1_1 b1_2 b2) = ry v90 v91 b0 b1 b1_1 b1_2 b2 := by kernel_rfl
noncomputable def lQ (v15 : den ae) (v90 : den (Ty.arr 16 ae)) (v91 : den ae) (v95 : den ae) (v96 : den ae) (b0 : den aj) (b1 : den ae) (b1_1 : den ae) (b1_2 : den ae) (b2 : List (den ae)) : Env := Env.of [(4, K.ptr 0 aj []), (6, K.ptr (0 + 1) aj []), (15, K.val ae v15), (90, K.val (Ty.arr 16 ae) v90), (91, K.val ae v91), (95, K.val ae v95), (96, K.val ae v96)] [(0, Bx.cell aj b0), (1, Bx.obj aj (K.agg (Ty.pair (Ty.slc ae) (Ty.pair ae (Ty.pair ae (Ty.pair ae Ty.unit)))) (K.kcons (K.sl (0 + 1 + 1) ae) (K.kcons (K.val ae b1) (K.kcons (K.val ae b1_1) (K.kcons (K.val ae b1_2) K.knil)))))), (2, Bx.row ae b2)]
noncomputable def qX (v15 : den ae) (v90 : den (Ty.arr 16 ae)) (v91 : den ae) (v95 : den ae) (v96 : den ae) (b0 : den aj) (b1 : den ae) (b1_1 : den ae) (b1_2 : den ae) (b2 : List (den ae)) : af := af.ite (decide (v96 < v95)) (af.req (List.length (b2 ++ List.set (List.replicate 1 (zero ae)) 0 v15) ≤ bQ) (af.loop [] az (lp aB 31) [(4, K.ptr 0 aj []), (6, K.ptr (0 + 1) aj []), (15, K.val ae v15), (90, K.val (Ty.arr 16 ae) v90), (91, K.val ae v91), (95, K.val ae v95), (96, K.val ae (IntKind.wrap IntKind.i64 (v96 + 1)))] [(0, Bx.cell aj b0), (0 + 1, Bx.obj aj (K.agg (Ty.pair (Ty.slc ae) (Ty.pair ae (Ty.pair ae (Ty.pair ae Ty.unit)))) (K.kcons (K.sl (0 + 1 + 1) ae) (K.kcons (K.val ae b1) (K.kcons (K.val ae b1_1) (K.kcons (K.val ae b1_2) K.knil)))))), (0 + 1 + 1, Bx.row ae (b2 ++ List.set (List.replicate 1 (zero ae)) 0 v15))])) (af.loop [] az (lp aB 28) [(4, K.ptr 0 aj []), (6, K.ptr (0 + 1) aj []), (90, K.val (Ty.arr 16 ae) v90), (91, K.val ae (IntKind.wrap IntKind.i64 (v91 + 1)))] [(0, Bx.cell aj b0), (0 + 1, Bx.obj aj (K.agg (Ty.pair (Ty.slc ae) (Ty.pair ae (Ty.pair ae (Ty.pair ae Ty.unit)))) (K.kcons (K.sl (0 + 1 + 1) ae) (K.kcons (K.val ae b1) (K.kcons (K.val ae b1_1) (K.kcons (K.val ae b1_2) K.knil)))))), (0 + 1 + 1, Bx.row ae b2)])
theorem ju (v15 : den ae) (v90 : den (Ty.arr 16 ae)) (v91 : den ae) (v95 : den ae) (v96 : den ae) (b0 : den aj) (b1 : den ae) (b1_1 : den ae) (b1_2 : den ae) (b2 : List (den ae)) : aM bc fb 5000 [] az (lp aB 31) (lQ v15 v90 v91 v95 v96 b0 b1 b1_1 b1_2 b2) = qX v15 v90 v91 v95 v96 b0 b1 b1_1 b1_2 b2 := by kernel_rfl
noncomputable abbrev dI : Fx := { fn := dr, ann := { loops := [(5, { keep := [4, 10, 11, 12], own := [(4, ah)] })] } }
noncomputable abbrev i8 : bS := { D := { T := bG, F := [(cG, c7)], R := [], ovl := [] }, inl := [] }
noncomputable abbrev qO : dC := .data lB
theorem lU (h_table_Right : aP prog [] cG c7) : XOk prog i8 := xok (aV (bg bt aW) h_table_Right) (by kernel_rfl) cp cY cZ
noncomputable def qb (t : den (Ty.slc ab)) : af := af.req (List.length t ≤ 1000000) (af.ite (!aT t) (af.ret (K.val (Ty.pair (Ty.slc ah) (Ty.pair ae Ty.unit)) ([], 1, PUnit.unit))) (af.loop [] dI (lp dr 5) [(4, K.sl 0 ah), (10, K.val (Ty.slc ab) t), (11, K.val ae (lnx ab t)), (12, K.val ae 0)] [(0, Bx.row ah [])]))
theorem ux (t : den (Ty.slc ab)) : aM i8 qO 5000 [] dI (aN dr) (Env.of (aS pv (t, ()) 0) []) = qb t := by kernel_rfl
noncomputable def nW (v10 : den (Ty.slc ab)) (v11 : den ae) (v12 : den ae) (b0 : List (den ah)) : Env := Env.of [(4, K.sl 0 ah), (10, K.val (Ty.slc ab) v10), (11, K.val ae v11), (12, K.val ae v12)] [(0, Bx.row ah b0)]
noncomputable def ul (v10 : den (Ty.slc ab)) (v11 : den ae) (v12 : den ae) (b0 : List (den ah)) : af := af.ite (decide (v12 < v11)) (af.req (inB v12 (lnx ab v10)) (af.ite (decide (Prod.fst (Prod.fst (Prod.snd (el ab v10 v12))) = 1)) (af.req (List.length (b0 ++ List.set (List.replicate 1 (zero ah)) 0 (Prod.fst (el ab v10 v12), Prod.fst (Prod.snd (Prod.fst (Prod.snd (el ab v10 v12)))), Prod.snd (Prod.snd (zero (Ty.pair tId (Ty.pair tId Ty.unit)))))) ≤ bQ) (af.loop [] dI (lp dr 5) [(4, K.sl 0 ah), (10, K.val (Ty.slc ab) v10), (11, K.val ae v11), (12, K.val ae (IntKind.wrap IntKind.i64 (v12 + 1)))] [(0, Bx.row ah (b0 ++ List.set (List.replicate 1 (zero ah)) 0 (Prod.fst (el ab v10 v12), Prod.fst (Prod.snd (Prod.fst (Prod.snd (el ab v10 v12)))), Prod.snd (Prod.snd (zero (Ty.pair tId (Ty.pair tId Ty.unit)))))))])) (af.loop [] dI (lp dr 5) [(4, K.sl 0 ah), (10, K.val (Ty.slc ab) v10), (11, K.val ae v11), (12, K.val ae (IntKind.wrap IntKind.i64 (v12 + 1)))] [(0, Bx.row ah b0)]))) (af.ret (K.val (Ty.pair (Ty.slc ah) (Ty.pair ae Ty.unit)) (b0, 0, PUnit.unit)))
theorem lk (v10 : den (Ty.slc ab)) (v11 : den ae) (v12 : den ae) (b0 : List (den ah)) : aM i8 qO 5000 [] dI (lp dr 5) (nW v10 v11 v12 b0) = ul v10 v11 v12 b0 := by kernel_rfl
noncomputable abbrev hY : Fx := { fn := gv, ann := { loops := [(4, { keep := [2, 3, 36, 37] })] } }
noncomputable abbrev ns : bS := { D := { T := bG, F := [], R := [], ovl := [] }, inl := [] }
noncomputable abbrev wT : dC := .data pF
theorem rt : XOk prog ns := xok ((bg bt aW)) (by kernel_rfl) cp cY cZ
noncomputable def vS (a : den aj) (b : den aj) : af := af.ite (bif bif bif !decide (lnx ae (Prod.fst a) = lnx ae (Prod.fst b)) then true else !decide (Prod.fst (Prod.snd a) = Prod.fst (Prod.snd b)) then true else !decide (Prod.fst (Prod.snd (Prod.snd a)) = Prod.fst (Prod.snd (Prod.snd b))) then true else !decide (Prod.fst (Prod.snd (Prod.snd (Prod.snd a))) = Prod.fst (Prod.snd (Prod.snd (Prod.snd b))))) (af.ret (K.val (Ty.pair Ty.bool Ty.unit) (false, PUnit.unit))) (af.loop [] hY (lp gv 4) [(2, K.ptr 0 aj []), (3, K.ptr (0 + 1) aj []), (36, K.val ae (lnx ae (Prod.fst a))), (37, K.val ae 0)] [(0, Bx.cell aj a), (0 + 1, Bx.cell aj b)])
theorem yN (a : den aj) (b : den aj) : aM ns wT 5000 [] hY (aN gv) (Env.of (aS uR (a, b, ()) 0) []) = vS a b := by kernel_rfl
noncomputable def s6 (v36 : den ae) (v37 : den ae) (b0 : den aj) (b1 : den aj) : Env := Env.of [(2, K.ptr 0 aj []), (3, K.ptr (0 + 1) aj []), (36, K.val ae v36), (37, K.val ae v37)] [(0, Bx.cell aj b0), (1, Bx.cell aj b1)]
noncomputable def yO (v36 : den ae) (v37 : den ae) (b0 : den aj) (b1 : den aj) : af := af.ite (decide (v37 < v36)) (af.req (inB v37 (lnx ae (Prod.fst b0))) (af.req (inB v37 (lnx ae (Prod.fst b1))) (af.ite (!decide (el ae (Prod.fst b0) v37 = el ae (Prod.fst b1) v37)) (af.ret (K.val (Ty.pair Ty.bool Ty.unit) (false, PUnit.unit))) (af.loop [] hY (lp gv 4) [(2, K.ptr 0 aj []), (3, K.ptr (0 + 1) aj []), (36, K.val ae v36), (37, K.val ae (IntKind.wrap IntKind.i64 (v37 + 1)))] [(0, Bx.cell aj b0), (0 + 1, Bx.cell aj b1)])))) (af.ret (K.val (Ty.pair Ty.bool Ty.unit) (true, PUnit.unit)))
theorem oa (v36 : den ae) (v37 : den ae) (b0 : den aj) (b1 : den aj) : aM ns wT 5000 [] hY (lp gv 4) (s6 v36 v37 b0 b1) = yO v36 v37 b0 b1 := by kernel_rfl
noncomputable abbrev we : Fx := { fn := sB, ann := { } }
noncomputable abbrev yq : bS := { D := { T := bG, F := [], R := [], ovl := [] }, inl := [] }
noncomputable abbrev CS : dC := .data vY
theorem CU : XOk prog yq := xok ((bg bt aW)) (by kernel_rfl) cp cY cZ
noncomputable def yp (p : den ag) : af := af.req (bK 0 (jB (lnx ai (Prod.fst p)) 6) (lnx ai (Prod.fst p))) (af.req (bK 0 (jB (fQ (Prod.fst (Prod.snd (Prod.snd p)))) 70) (fQ (Prod.fst (Prod.snd (Prod.snd p))))) (af.ret (K.val (Ty.pair ag Ty.unit) ((f5 ai (Prod.fst p) 0 (jB (lnx ai (Prod.fst p)) 6), Prod.fst (Prod.snd p), vE (Prod.fst (Prod.snd (Prod.snd p))) 0 (jB (fQ (Prod.fst (Prod.snd (Prod.snd p)))) 70), Prod.snd (Prod.snd (Prod.snd (zero (Ty.pair (Ty.slc ai) (Ty.pair ae (Ty.pair Ty.str Ty.unit))))))), PUnit.unit))))
theorem AA (p : den ag) : aM yq CS 5000 [] we (aN sB) (Env.of (aS wR (p, ()) 0) []) = yp p := by kernel_rfl
noncomputable abbrev wl : Fx := { fn := sH, ann := { } }
noncomputable abbrev yu : bS := { D := { T := bG, F := [], R := [], ovl := [] }, inl := [] }
noncomputable abbrev Dg : dC := .data ws
theorem Dn : XOk prog yu := xok ((bg bt aW)) (by kernel_rfl) cp cY cZ
noncomputable def yr (t : den (Ty.slc ab)) : af := af.req (bK 0 (jB (lnx ab t) 34) (lnx ab t)) (af.ret (K.val (Ty.pair (Ty.slc ab) Ty.unit) (f5 ab t 0 (jB (lnx ab t) 34), PUnit.unit)))
theorem Ax (t : den (Ty.slc ab)) : aM yu Dg 5000 [] wl (aN sH) (Env.of (aS wM (t, ()) 0) []) = yr t := by kernel_rfl
end Go.Proofs.Ytnccacngedeoeaa
namespace Go.Proofs.Ytnccacngedeoeaa
open Go Go.RowKit
theorem ga {P : af → Prop} {A : Type} {e : A} {f : A → af} (h : P (f e)) : ∀ q, q = e → P (f q) := fun q hq => by cases hq; exact h
abbrev Sx := List Int × Int × Int
def elI (l : List Int) (n : Int) : Int := el ae l n
def jP (o : Ou) : Int := o.1
def f0 (o : Ou) : Int := o.2.1
def oPk (o : Ou) : Pk := o.2.2.1
def D6 (o : Ou) : Int := o.2.2.2.2.1
def dg (s : Sx) (o : Ou) : Sx :=
 if jP o = 1 then (kG ae s.1 (f0 o) (elI s.1 (f0 o) + 1), s.2)
 else if jP o = 2 then s
 else if D6 o = 9 then (s.1, s.2.1, s.2.2 + 1)
 else (s.1, s.2.1 + 1, s.2.2)
def cx (o : Ou) : List Pk := if jP o = 1 then [] else if jP o = 2 then [oPk o] else []
def fU (t : List Tg) : Nat → Sx → Nat → List Pk → Option (Sx × Nat)
 | _, s, k, [] => some (s, k)
 | 0, _, _, _ :: _ => none
 | n + 1, s, k, p :: q => fU t n ((aO t p).1.foldl dg s) (k + 1) (q ++ (aO t p).1.flatMap cx)
def d3 (o : List Int) : Nat → List Int
 | 0 => []
 | n + 1 => d3 o n ++ List.replicate (Int.toNat (elI o (n : Int))) (n : Int)
def sO : Option (Sx × Nat) → den aj × Int × Unit
 | none => (zero aj, 8, ())
 | some (s, k) => ((d3 s.1 16, s.2.1, s.2.2, (k : Int), ()), 0, ())
def s0 : Sx := (List.replicate 16 0, 0, 0)
def bf (t : List Tg) (p : Pk) : den aj × Int × Unit :=
 if aT t = true ∧ am p = true then sO (fU t 1000 s0 0 [p]) else (zero aj, 1, ())
noncomputable abbrev de : bI := ⟨m8, bJ, fun x => bf x.1 x.2.1, fun x => x.1.length ≤ 1000000 ∧ x.2.1.1.length ≤ 1000000, false⟩
def i6 (m : Nat) (s : Sx) : Prop := s.1.length = 16 ∧ (∀ i : Nat, i < 16 → 0 ≤ elI s.1 (i : Int) ∧ elI s.1 (i : Int) ≤ (m : Int)) ∧ 0 ≤ s.2.1 ∧ s.2.1 ≤ (m : Int) ∧ 0 ≤ s.2.2 ∧ s.2.2 ≤ (m : Int)
theorem Dc : i6 0 s0 := ⟨rfl, by decide, by decide, by decide, by decide, by decide⟩
theorem i6.mono {m n : Nat} {s : Sx} (h : i6 m s) (hm : m ≤ n) : i6 n s :=
 ⟨h.1, fun i hi => ⟨(h.2.1 i hi).1, Int.le_trans (h.2.1 i hi).2 (Int.ofNat_le.2 hm)⟩, h.2.2.1, Int.le_trans h.2.2.2.1 (Int.ofNat_le.2 hm), h.2.2.2.2.1, Int.le_trans h.2.2.2.2.2 (Int.ofNat_le.2 hm)⟩
theorem FJ {l : List Int} {i j : Nat} (x : Int) (hj : j < l.length) : elI (kG ae l (i : Int) x) (j : Int) = if i = j then x else elI l (j : Int) := by
 show ((l.set (Int.toNat (i : Int)) x).getD (Int.toNat (j : Int)) 0) = _
 rw [Int.toNat_natCast]
 unfold elI el
 rw [Int.toNat_natCast, List.getD_eq_getElem?_getD, List.getD_eq_getElem?_getD, List.getElem?_set]
 by_cases h : i = j
 ·subst h
  rw [if_pos rfl, if_pos hj, if_pos rfl]
  rfl
 ·rw [if_neg h, if_neg h]
  rfl
theorem Ej {m : Nat} {s : Sx} {o : Ou} (h : i6 m s) (ho : jP o = 1 → 0 ≤ f0 o ∧ f0 o < 16) : i6 (m + 1) (dg s o) := by
 obtain ⟨h1, h2, h3, h4, h5, h6⟩ := h
 unfold dg
 split
 ·rename_i e
  obtain ⟨i, hi⟩ : ∃ i : Nat, (i : Int) = f0 o := ⟨Int.toNat (f0 o), Int.toNat_of_nonneg (ho e).1⟩
  have hi16 : i < 16 := by have := (ho e).2; omega
  refine ⟨?_, fun j hj => ?_, h3, by show s.2.1 ≤ _; omega, h5, by show s.2.2 ≤ _; omega⟩
  ·show (s.1.set _ _).length = 16
   rw [List.length_set]
   exact h1
  ·rw [← hi]
   show 0 ≤ elI (kG ae s.1 (i : Int) _) (j : Int) ∧ elI (kG ae s.1 (i : Int) _) (j : Int) ≤ _
   rw [FJ _ (by omega)]
   split
   ·have := h2 i hi16
    omega
   ·have := h2 j hj
    omega
 ·split
  ·exact ⟨h1, fun i hi => ⟨(h2 i hi).1, by have := (h2 i hi).2; omega⟩, h3, by omega, h5, by omega⟩
  ·split
   ·exact ⟨h1, fun i hi => ⟨(h2 i hi).1, by have := (h2 i hi).2; show elI s.1 (i : Int) ≤ ((m + 1 : Nat) : Int); omega⟩, h3, by show s.2.1 ≤ _; omega, by show 0 ≤ s.2.2 + 1; omega, by show s.2.2 + 1 ≤ _; omega⟩
   ·exact ⟨h1, fun i hi => ⟨(h2 i hi).1, by have := (h2 i hi).2; show elI s.1 (i : Int) ≤ ((m + 1 : Nat) : Int); omega⟩, by show 0 ≤ s.2.1 + 1; omega, by show s.2.1 + 1 ≤ _; omega, h5, by show s.2.2 ≤ _; omega⟩
def uf (o : Ou) : Prop := (jP o = 1 → 0 ≤ f0 o ∧ f0 o < 16) ∧ (oPk o).1.length ≤ 4
theorem Er (l front : List Ent) : (bO l front).1.length ≤ 4 := by
 unfold bO
 split
 ·split
  ·show (front ++ l).length ≤ 4
   rw [List.length_append]; omega
  ·exact Nat.zero_le _
 ·exact Nat.zero_le _
theorem EX (p : Pk) (x : Tg) (f : List Ent) : uf (eK p x f) := ⟨fun h => absurd h (by show ¬ (2 : Int) = 1; decide), Er _ _⟩
theorem Bs (w : Int) : ∀ o ∈ gT w, uf o := fun o ho => by
 rw [List.mem_singleton.1 ho]
 exact ⟨fun h => absurd h (by show ¬ (3 : Int) = 1; decide), Nat.zero_le _⟩
theorem gn {p : Pk} (h : am p = true) : 1 ≤ p.1.length ∧ p.1.length ≤ 4 ∧ bM p.1 = true := by
 unfold am cE at h
 simp only [Bool.and_eq_true, decide_eq_true_eq] at h
 exact ⟨h.1.1.1.1.1, h.1.1.1.1.2, h.1.1.1.2⟩
theorem z0 {p : Pk} (h : am p = true) : j2 (aK p) = true := by
 obtain ⟨h1, _, h3⟩ := gn h
 unfold aK
 have hlt : 0 < p.1.length := h1
 have e : el ai p.1 0 = p.1[0] := cV (e := ai) (i := 0) hlt
 rw [e]
 exact List.all_eq_true.1 h3 _ (List.getElem_mem hlt)
theorem yv (t : List Tg) (id : den tId) : (aY t id).1.length ≤ 32 := by
 unfold aY
 split
 ·rename_i h
  split
  ·exact Nat.zero_le _
  ·refine Nat.le_trans (List.length_filter_le _ _) ?_
   unfold aT at h
   rw [Bool.and_eq_true, decide_eq_true_eq] at h
   exact h.2
 ·exact Nat.zero_le _
theorem BE (t : List Tg) (p : Pk) : (aO t p).1.length ≤ 32 ∧ ∀ o ∈ (aO t p).1, uf o := by
 by_cases h : am p = true ∧ aT t = true
 ·have hr := h.1
  by_cases hk : (aK p).1 = (2 : Int)
  ·have e : (aO t p).1 = [(1, (aK p).2.2.1, p, zero ab, 0, ())] := by unfold aO; rw [if_pos h, if_pos hk]
   rw [e]
   refine ⟨by show 1 ≤ 32; decide, fun o ho => ?_⟩
   rw [List.mem_singleton.1 ho]
   refine ⟨fun _ => ?_, (gn hr).2.1⟩
   have hi := z0 hr
   unfold j2 at hi
   have hk1 : ¬ (aK p).1 = (1 : Int) := fun h1 => absurd (h1.symm.trans hk) (by decide)
   rw [if_neg hk1, if_pos hk] at hi
   simp only [Bool.and_eq_true, decide_eq_true_eq] at hi
   exact ⟨hi.1.2, hi.2⟩
  ·by_cases h0 : (p.2.1 : Int) = 0
   ·have e : (aO t p).1 = gT 9 := by unfold aO; rw [if_pos h, if_neg hk, if_pos h0]
    rw [e]
    exact ⟨by show 1 ≤ 32; decide, Bs 9⟩
   ·by_cases hm : (aY t (aK p).2.1).2 = 0
    ·have e : (aO t p).1 = (aY t (aK p).2.1).1.map fun x => eK p x [x.2.1] := by unfold aO; rw [if_pos h, if_neg hk, if_neg h0, if_pos hm]
     rw [e]
     refine ⟨by rw [List.length_map]; exact yv _ _, fun o ho => ?_⟩
     obtain ⟨x, _, rfl⟩ := List.mem_map.1 ho
     exact EX _ _ _
    ·by_cases h1 : 1 < p.1.length
     ·have e : (aO t p).1 = [eK p (zero ab) []] := by unfold aO; rw [if_pos h, if_neg hk, if_neg h0, if_neg hm, if_pos h1]
      rw [e]
      refine ⟨by show 1 ≤ 32; decide, fun o ho => ?_⟩
      rw [List.mem_singleton.1 ho]
      exact EX _ _ _
     ·have e : (aO t p).1 = gT 6 := by unfold aO; rw [if_pos h, if_neg hk, if_neg h0, if_neg hm, if_neg h1]
      rw [e]
      exact ⟨by show 1 ≤ 32; decide, Bs 6⟩
 ·have e : aO t p = ([], 1) := by unfold aO; rw [if_neg h]
  rw [e]
  exact ⟨Nat.zero_le _, fun o ho => by cases ho⟩
end Go.Proofs.Ytnccacngedeoeaa
namespace Go.Proofs.Ytnccacngedeoeaa
open Go Go.RowKit
def tl (O : Nat → Prop) (w0 : World) (p : Pk) (h1 : 1 ≤ p.1.length) (h2 : p.1.length ≤ 1000000) (l : List Tg) (hl : l.length ≤ 1000000) :=
 PLift.up <| dZ (σ := List Ou) l.length (fun i b => b = (l.take i).map fun x => eK p x [x.2.1])
  (fun i b => bD prog i9 (Cx.base O w0) (bR prog O w0 kN fun y => y = (l.map (fun x => eK p x [x.2.1]), 0, ())) [] d9 (lp dS 15) (ng l (lnx ab l) (i : Nat) p b))
  (fun i b hi hb ih => aZ (me iw cH mZ l6 nV) (kg l _ _ p b) (by
   refine ⟨fun _ => ⟨cO hi, ⟨h1, h2, by show 1 ≤ 1000000; decide⟩, ?_, ?_⟩, fun h => ?_⟩
   ·rw [hb, List.length_append, List.length_map, List.length_take]
    exact Nat.le_trans (show _ + 1 ≤ 1000002 by omega) (by decide)
   ·rw [dz hi (by omega)]
    refine ih _ ?_
    rw [cV hi, hb, List.take_succ_eq_append_getElem hi, List.map_append]
    rfl
   ·rw [dn] at h
    exact absurd hi (of_decide_eq_false h)))
  (fun b hb => aZ (me iw cH mZ l6 nV) (kg l _ _ p b) (by
   refine ⟨fun h => ?_, fun _ => ⟨_, rfl, ?_⟩⟩
   ·rw [dn] at h
    exact absurd (of_decide_eq_true h) (Nat.lt_irrefl _)
   ·rw [List.take_length] at hb
    rw [hb]))
theorem xl : aP prog [] jq gi :=
 fu (S := gi) (me iw cH mZ l6 nV) (fx := d9) wq (by kernel_rfl) (fun h => by cases h) (T := fun x => p8 x.1 x.2.1) (fun x => ut x.1 x.2.1) fun O w0 x _ hp => by
  obtain ⟨t, p, ⟨⟩⟩ := x
  have ht : t.length ≤ 1000000 := hp.1
  have hpl : p.1.length ≤ 1000000 := hp.2
  have hgoal : ∀ y : List Ou × Int, aO t p = y → gi.g (t, p, ()) = (y.1, y.2, ()) := fun y hy => by
   show ((aO t p).1, (aO t p).2, ()) = _
   rw [hy]
  have hc : (bif !am p then true else !aT t) = !(am p && aT t) := by cases am p <;> cases aT t <;> rfl
  refine ⟨hpl, fun _ => ht, fun h => ⟨_, rfl, ?_⟩, fun h => ?_⟩
  ·rw [hc] at h
   have hn : ¬ (am p = true ∧ aT t = true) := fun ⟨a, b⟩ => by rw [a, b] at h; cases h
   exact (hgoal ([], 1) (by unfold aO; rw [if_neg hn])).symm
  ·rw [hc] at h
   have hy : am p = true ∧ aT t = true := by cases ha : am p <;> cases hb : aT t <;> rw [ha, hb] at h <;> first | exact ⟨rfl, rfl⟩ | cases h
   obtain ⟨hl1, hl4, _⟩ := gn hy.1
   refine ⟨⟨by decide, show (0 : Int) < (p.1.length : Int) by omega⟩, ht, fun hk => ⟨_, rfl, ?_⟩, fun hk => ⟨fun h0 => ⟨trivial, _, rfl, ?_⟩, fun h0 => ⟨fun hm => ⟨⟨hl1, hpl, Nat.zero_le _⟩, _, rfl, ?_⟩, fun hm => ⟨fun hm2 => ⟨trivial, _, rfl, ?_⟩, fun hm2 => ?_⟩⟩⟩⟩
   ·have hk : (aK p).1 = (2 : Int) := of_decide_eq_true hk
    exact (hgoal ([(1, (aK p).2.2.1, p, zero ab, 0, ())], 0) (by unfold aO; rw [if_pos hy, if_pos hk])).symm
   all_goals have hk : ¬ (aK p).1 = (2 : Int) := of_decide_eq_false hk
   ·have h0 : (p.2.1 : Int) = 0 := of_decide_eq_true h0
    exact (hgoal (gT 9, 0) (by unfold aO; rw [if_pos hy, if_neg hk, if_pos h0])).symm
   all_goals have h0 : ¬ (p.2.1 : Int) = 0 := of_decide_eq_false h0
   ·have hm : (bif !decide ((aY t (aK p).2.1).2 = (0 : Int)) then decide ((1 : Int) < lnx ai p.1) else false) = true := hm
    have hn : ¬ (aY t (aK p).2.1).2 = 0 := fun e => by rw [decide_eq_true e] at hm; cases hm
    rw [decide_eq_false hn] at hm
    have h1 : 1 < p.1.length := Int.ofNat_lt.1 (of_decide_eq_true hm)
    exact (hgoal ([eK p (zero ab) []], 0) (by unfold aO; rw [if_pos hy, if_neg hk, if_neg h0, if_neg hn, if_pos h1])).symm
   ·have hm : (bif !decide ((aY t (aK p).2.1).2 = (0 : Int)) then decide ((1 : Int) < lnx ai p.1) else false) = false := hm
    have hm2 : (!decide ((aY t (aK p).2.1).2 = (0 : Int))) = true := hm2
    have hn : ¬ (aY t (aK p).2.1).2 = 0 := fun e => by rw [decide_eq_true e] at hm2; cases hm2
    rw [decide_eq_false hn] at hm
    have h1 : ¬ 1 < p.1.length := fun h => of_decide_eq_false hm (Int.ofNat_lt.2 h)
    exact (hgoal (gT 6, 0) (by unfold aO; rw [if_pos hy, if_neg hk, if_neg h0, if_neg hn, if_neg h1])).symm
   ·have hm2 : (!decide ((aY t (aK p).2.1).2 = (0 : Int))) = false := hm2
    have hn : (aY t (aK p).2.1).2 = 0 := by
     by_cases e : (aY t (aK p).2.1).2 = 0
     ·exact e
     ·rw [decide_eq_false e] at hm2; cases hm2
    have e := hgoal ((aY t (aK p).2.1).1.map fun x => eK p x [x.2.1], 0) (by unfold aO; rw [if_pos hy, if_neg hk, if_neg h0, if_pos hn])
    rw [e]
    exact (tl O w0 p hl1 hpl (aY t (aK p).2.1).1 (Nat.le_trans (yv _ _) (by decide))).down 0 [] (Nat.zero_le _) rfl
theorem dU : XOk prog bc := vK cH iw xl
theorem rq {m : Nat} {o : List Int} (h : ∀ i : Nat, i < 16 → 0 ≤ elI o (i : Int) ∧ elI o (i : Int) ≤ (m : Int)) : ∀ n : Nat, n ≤ 16 → (d3 o n).length ≤ n * m
 | 0, _ => by simp [d3]
 | n + 1, hn => by
  show (d3 o n ++ List.replicate _ _).length ≤ _
  have h1 := rq h n (by omega)
  have h2 := h n (by omega)
  rw [List.length_append, List.length_replicate, Nat.add_mul, Nat.one_mul]
  omega
def yP (O : Nat → Prop) (w0 : World) (b0 : den aj) (o : List Int) (lost hops work : Int) (i : Nat) (y : den aj × Int × Unit) (c : Nat)
    (hdone : ∀ b : List Int, b = d3 o i ++ List.replicate c (i : Int) → bD prog bc (Cx.base O w0) (bR prog O w0 bJ fun z => z = y) [] az (lp aB 28) (ij o (IntKind.wrap .i64 ((i : Int) + 1)) b0 lost hops work b))
    (hle : (d3 o i).length + c ≤ 1000000) :=
  PLift.up <| dZ (σ := List Int) c (fun j b => b = d3 o i ++ List.replicate j (i : Int))
    (fun j b => bD prog bc (Cx.base O w0) (bR prog O w0 bJ fun z => z = y) [] az (lp aB 31) (lQ (i : Int) o (i : Int) (c : Int) (j : Nat) b0 lost hops work b))
    (fun j b hj hb ih => aZ dU (ju _ _ _ _ _ _ _ _ _ b) (by
      refine ⟨fun _ => ⟨?_, ?_⟩, fun h => ?_⟩
      · rw [hb, List.length_append, List.length_append, List.length_replicate]
        exact Nat.le_trans (show _ + 1 ≤ 1000001 by omega) (by decide)
      · rw [dz hj (by omega)]
        refine ih _ ?_
        rw [hb, List.append_assoc]
        congr 1
        exact (List.replicate_succ' ..).symm
      · exact absurd (Int.ofNat_lt.2 hj) (of_decide_eq_false h)))
    (fun b hb => aZ dU (ju _ _ _ _ _ _ _ _ _ b) (by
      refine ⟨fun h => ?_, fun _ => hdone b hb⟩
      exact absurd (Int.ofNat_lt.1 (of_decide_eq_true h)) (Nat.lt_irrefl _)))
def yC (O : Nat → Prop) (w0 : World) (b0 : den aj) (s : Sx) (k m : Nat) (hs : i6 m s) (hm : m ≤ 40000) :=
  PLift.up <| dZ (σ := List Int) 16 (fun i b => b = d3 s.1 i)
    (fun i b => bD prog bc (Cx.base O w0) (bR prog O w0 bJ fun z => z = sO (some (s, k))) [] az (lp aB 28) (ij s.1 (i : Nat) b0 s.2.1 s.2.2 (k : Int) b))
    (fun i b hi hb ih => aZ dU (jv _ _ _ _ _ _ b) (by
      have he := hs.2.1 i hi
      have hlen := rq hs.2.1 i (by omega)
      have hmul : i * m ≤ 15 * 40000 := Nat.mul_le_mul (by omega) hm
      have hc : ((Int.toNat (elI s.1 (i : Int)) : Nat) : Int) = elI s.1 (i : Int) := Int.toNat_of_nonneg he.1
      refine ⟨fun _ => ⟨cO hi, ?_⟩, fun h => ?_⟩
      · have := (yP O w0 b0 s.1 s.2.1 s.2.2 (k : Int) i (sO (some (s, k))) (Int.toNat (elI s.1 (i : Int))) (fun b' hb' => by
          rw [dz hi (by omega)]
          exact ih b' hb') (by omega)).down 0 b (Nat.zero_le _) (by rw [hb, List.replicate_zero, List.append_nil])
        rw [hc] at this
        exact this
      · exact absurd (Int.ofNat_lt.2 hi) (of_decide_eq_false h)))
    (fun b hb => aZ dU (jv _ _ _ _ _ _ b) (by
      refine ⟨fun h => ?_, fun _ => ⟨_, rfl, ?_⟩⟩
      · exact absurd (of_decide_eq_true h) (by decide)
      · rw [hb]
        rfl))
end Go.Proofs.Ytnccacngedeoeaa
namespace Go.Proofs.Ytnccacngedeoeaa
open Go Go.RowKit
noncomputable def E8 (t : List Tg) (b0 : den aj) (s : Sx) (k : Nat) : List Pk → Env
 | [] => fo t false b0 s.2.1 s.2.2 (k : Int) s.1 (zero ag) []
 | p :: q => fo t true b0 s.2.1 s.2.2 (k : Int) s.1 p q
theorem rv {m : Nat} : ∀ {l : List Ou} {s : Sx}, i6 m s → (∀ o ∈ l, uf o) → i6 (m + l.length) (l.foldl dg s)
 | [], s, h, _ => h
 | o :: l, s, h, ho => by
  have h1 := Ej h (ho o List.mem_cons_self).1
  have h2 := rv (l := l) h1 fun x hx => ho x (List.mem_cons_of_mem _ hx)
  rw [List.length_cons]
  exact h2.mono (by omega)
theorem Di (o : Ou) : (cx o).length ≤ 1 := by
 unfold cx
 split
 ·exact Nat.zero_le _
 ·split
  ·exact Nat.le_refl _
  ·exact Nat.zero_le _
theorem tV : ∀ l : List Ou, (l.flatMap cx).length ≤ l.length
 | [] => Nat.le_refl _
 | o :: l => by
  rw [List.flatMap_cons, List.length_append, List.length_cons]
  have h1 := Di o
  have h2 := tV l
  omega
theorem Fy {l : List Ou} (h : ∀ o ∈ l, uf o) : ∀ p ∈ l.flatMap cx, p.1.length ≤ 4 := fun p hp => by
 obtain ⟨o, ho, hp⟩ := List.mem_flatMap.1 hp
 unfold cx at hp
 split at hp
 ·cases hp
 ·split at hp
  ·rw [List.mem_singleton.1 hp]
   exact (h o ho).2
  ·cases hp
theorem qN {n : Int} (h : 0 ≤ n) (h1 : n ≤ 100000) : IntKind.wrap .i64 (n + 1) = n + 1 := cB (by omega)
def yI (O : Nat → Prop) (w0 : World) (t : List Tg) (b0 : den aj) (s : Sx) (k m : Nat) (p : Pk) (q : List Pk) (l : List Ou) (y : den aj × Int × Unit) (hs : i6 m s) (hm : m + l.length ≤ 40000) (hl : ∀ o ∈ l, uf o) (hq : q.length + l.length ≤ 40000)
    (hdone : bD prog bc (Cx.base O w0) (bR prog O w0 bJ fun z => z = y) [] az (lp aB 8) (E8 t b0 (l.foldl dg s) k (q ++ l.flatMap cx))) :=
  PLift.up <| dZ (σ := Sx × List Pk) l.length (fun i b => b = ((l.take i).foldl dg s, q ++ (l.take i).flatMap cx))
    (fun i b => bD prog bc (Cx.base O w0) (bR prog O w0 bJ fun z => z = y) [] az (lp aB 15) (ig t l (lnx bn l) (i : Nat) b0 b.1.2.1 b.1.2.2 (k : Int) b.1.1 p b.2))
    (fun i b hi hb ih => aZ dU (jz t l _ _ b0 _ _ _ _ p b.2) (by
      have ho := hl _ (List.getElem_mem hi)
      have hI : i6 (m + i) b.1 := by
        rw [hb]
        have := rv (l := l.take i) hs fun o h => hl o (List.mem_of_mem_take h)
        rw [List.length_take, Nat.min_eq_left (Nat.le_of_lt hi)] at this
        exact this
      have hql : b.2.length ≤ q.length + i := by
        rw [hb, List.length_append]
        have := tV (l.take i)
        rw [List.length_take, Nat.min_eq_left (Nat.le_of_lt hi)] at this
        omega
      have e : el bn l (i : Nat) = l[i] := cV hi
      have hnext : ∀ s' q', s' = dg b.1 l[i] → q' = b.2 ++ cx l[i] → bD prog bc (Cx.base O w0) (bR prog O w0 bJ fun z => z = y) [] az (lp aB 15) (ig t l (lnx bn l) (IntKind.wrap .i64 ((i : Int) + 1)) b0 s'.2.1 s'.2.2 (k : Int) s'.1 p q') := by
        intro s' q' e1 e2
        rw [dz hi (by omega)]
        refine ih (s', q') ?_
        rw [e1, e2, hb, List.take_succ_eq_append_getElem hi, List.foldl_append, List.flatMap_append, List.append_assoc]
        simp only [List.foldl_cons, List.foldl_nil, List.flatMap_cons, List.flatMap_nil, List.append_nil]
      refine ⟨fun _ => ⟨cO hi, fun h1 => ?_, fun h1 => ⟨fun h2 => ?_, fun h2 => ⟨fun h9 => ?_, fun h9 => ?_⟩⟩⟩, fun h => ?_⟩
      · rw [e] at h1 ⊢
        have h1 : jP l[i] = 1 := of_decide_eq_true h1
        have hh := ho.1 h1
        refine ⟨hh, hh, ?_⟩
        obtain ⟨j, hj⟩ : ∃ j : Nat, (j : Int) = f0 l[i] := ⟨Int.toNat (f0 l[i]), Int.toNat_of_nonneg hh.1⟩
        have hj16 : j < 16 := by have := hh.2; omega
        have hw : IntKind.wrap .i64 (elI b.1.1 (f0 l[i]) + 1) = elI b.1.1 (f0 l[i]) + 1 := by
          rw [← hj]
          have := hI.2.1 j hj16
          exact qN this.1 (by omega)
        have hb1 : dg b.1 l[i] = (kG ae b.1.1 (f0 l[i]) (elI b.1.1 (f0 l[i]) + 1), b.1.2) := by unfold dg; rw [if_pos h1]
        have hp1 : cx l[i] = [] := by unfold cx; rw [if_pos h1]
        have := hnext (kG ae b.1.1 (f0 l[i]) (IntKind.wrap .i64 (elI b.1.1 (f0 l[i]) + 1)), b.1.2) b.2 (by rw [hb1, hw]) (by rw [hp1, List.append_nil])
        exact this
      rotate_left 3
      · rw [dn] at h
        exact absurd hi (of_decide_eq_false h)
      all_goals rw [e] at h1
      all_goals have h1 : ¬ jP l[i] = 1 := of_decide_eq_false h1
      · rw [e] at h2 ⊢
        have h2 : jP l[i] = 2 := of_decide_eq_true h2
        have hb1 : dg b.1 l[i] = b.1 := by unfold dg; rw [if_neg h1, if_pos h2]
        have hp1 : cx l[i] = [oPk l[i]] := by unfold cx; rw [if_neg h1, if_pos h2]
        refine ⟨?_, ?_⟩
        · rw [List.length_append]
          exact Nat.le_trans (show _ + 1 ≤ 80001 by omega) (by decide)
        · exact hnext b.1 (b.2 ++ [oPk l[i]]) hb1.symm (by rw [hp1])
      all_goals rw [e] at h2
      all_goals have h2 : ¬ jP l[i] = 2 := of_decide_eq_false h2
      · rw [e] at h9
        have h9 : D6 l[i] = 9 := of_decide_eq_true h9
        have hb1 : dg b.1 l[i] = (b.1.1, b.1.2.1, b.1.2.2 + 1) := by unfold dg; rw [if_neg h1, if_neg h2, if_pos h9]
        have hp1 : cx l[i] = [] := by unfold cx; rw [if_neg h1, if_neg h2]
        have hw : IntKind.wrap .i64 (b.1.2.2 + 1) = b.1.2.2 + 1 := qN hI.2.2.2.2.1 (by have := hI.2.2.2.2.2; omega)
        exact hnext (b.1.1, b.1.2.1, IntKind.wrap .i64 (b.1.2.2 + 1)) b.2 (by rw [hb1, hw]) (by rw [hp1, List.append_nil])
      · rw [e] at h9
        have h9 : ¬ D6 l[i] = 9 := of_decide_eq_false h9
        have hb1 : dg b.1 l[i] = (b.1.1, b.1.2.1 + 1, b.1.2.2) := by unfold dg; rw [if_neg h1, if_neg h2, if_neg h9]
        have hp1 : cx l[i] = [] := by unfold cx; rw [if_neg h1, if_neg h2]
        have hw : IntKind.wrap .i64 (b.1.2.1 + 1) = b.1.2.1 + 1 := qN hI.2.2.1 (by have := hI.2.2.2.1; omega)
        exact hnext (b.1.1, IntKind.wrap .i64 (b.1.2.1 + 1), b.1.2.2) b.2 (by rw [hb1, hw]) (by rw [hp1, List.append_nil])))
    (fun b hb => aZ dU (jz t l _ _ b0 _ _ _ _ p b.2) (by
      rw [List.take_length] at hb
      have hb1 : b.1 = l.foldl dg s := by rw [hb]
      have hb2 : b.2 = q ++ l.flatMap cx := by rw [hb]
      rw [← hb1, ← hb2] at hdone
      refine ⟨fun h => ?_, fun _ => ⟨fun h => ?_, fun h => ?_⟩⟩
      · rw [dn] at h
        exact absurd (of_decide_eq_true h) (Nat.lt_irrefl _)
      · have h : ((b.2.length : Nat) : Int) = 0 := of_decide_eq_true h
        have hn : b.2 = [] := List.eq_nil_of_length_eq_zero (by omega)
        rw [hn] at hdone ⊢
        exact hdone
      · have h : ¬ ((b.2.length : Nat) : Int) = 0 := of_decide_eq_false h
        cases hc : b.2 with
        | nil => rw [hc] at h; exact absurd rfl h
        | cons x r =>
          rw [hc] at hdone
          have hlen : 0 < (x :: r).length := Nat.succ_pos _
          refine ⟨⟨by decide, Int.ofNat_lt.2 hlen⟩, ⟨by decide, Int.ofNat_lt.2 hlen⟩, Bt _, ⟨by decide, ?_, ?_⟩, ?_, ?_⟩
          · show (1 : Int) ≤ ((x :: r).length : Int); omega
          · show ((x :: r).length : Int) ≤ (((x :: r).length - 0 : Nat) : Int); omega
          · show 0 + 1 + ((x :: r).length - 1) ≤ (x :: r).length
            omega
          · have e1 : List.take (Int.toNat ((x :: r).length : Int) - Int.toNat 1) (List.drop (0 + Int.toNat 1) (x :: r)) = r := by
              show List.take ((x :: r).length - 1) (List.drop 1 (x :: r)) = r
              rw [List.length_cons, Nat.add_sub_cancel, List.drop_one, List.tail_cons, List.take_length]
            show bD prog bc (Cx.base O w0) (bR prog O w0 bJ fun z => z = y) [] az (lp aB 8) (fo t true b0 b.1.2.1 b.1.2.2 (k : Int) b.1.1 x (List.take (Int.toNat ((x :: r).length : Int) - Int.toNat 1) (List.drop (0 + Int.toNat 1) (x :: r))))
            rw [e1]
            exact hdone))
theorem zW (O : Nat → Prop) (w0 : World) (t : List Tg) (ht : t.length ≤ 1000000) (b0 : den aj) (n : Nat) : ∀ (k : Nat) (s : Sx) (q : List Pk), n + k = 1000 → i6 (32 * k) s → (∀ p ∈ q, p.1.length ≤ 4) → q.length ≤ 1 + 32 * k →
    bD prog bc (Cx.base O w0) (bR prog O w0 bJ fun z => z = sO (fU t n s k q)) [] az (lp aB 8) (E8 t b0 s k q) := by
  have hnil : ∀ (n k : Nat) (s : Sx), k ≤ 1000 → i6 (32 * k) s → bD prog bc (Cx.base O w0) (bR prog O w0 bJ fun z => z = sO (some (s, k))) [] az (lp aB 8) (E8 t b0 s k []) := by
    intro n k s hk hs
    exact aZ dU (fK t false b0 s.2.1 s.2.2 (k : Int) s.1 (zero ag) []) ⟨(fun h => by cases h), fun _ => (yC O w0 b0 s k (32 * k) hs (by omega)).down 0 [] (Nat.zero_le _) rfl⟩
  induction n with
  | zero =>
    intro k s q hk hs hq hl
    cases q with
    | nil => exact hnil 0 k s (by omega) hs
    | cons p q =>
      refine aZ dU (fK t true b0 s.2.1 s.2.2 (k : Int) s.1 p q) ⟨fun _ => ⟨fun _ => ⟨_, rfl, rfl⟩, fun h => ?_⟩, (fun h => by cases h)⟩
      have h := of_decide_eq_false h
      rw [qN (by omega) (by omega)] at h
      omega
  | succ n ih =>
    intro k s q hk hs hq hl
    cases q with
    | nil => exact hnil 0 k s (by omega) hs
    | cons p q =>
      have hw : IntKind.wrap .i64 ((k : Int) + 1) = ((k + 1 : Nat) : Int) := by
        rw [qN (by omega) (by omega)]; omega
      obtain ⟨h32, hok⟩ := BE t p
      rw [List.length_cons] at hl
      have hpl : p.1.length ≤ 4 := hq p List.mem_cons_self
      refine aZ dU (fK t true b0 s.2.1 s.2.2 (k : Int) s.1 p q) ⟨fun _ => ⟨fun h => ?_, fun _ => ⟨⟨ht, by omega⟩, ga ?_⟩⟩, (fun h => by cases h)⟩
      · have h := of_decide_eq_true h
        rw [qN (by omega) (by omega)] at h
        omega
      · rw [hw]
        refine (yI O w0 t b0 s (k + 1) (32 * k) p q (aO t p).1 _ hs (by omega) hok (by omega) ?_).down 0 (s, q) (Nat.zero_le _) (by rw [List.take_zero]; exact Prod.ext rfl (List.append_nil q).symm)
        refine ih (k + 1) _ _ (by omega) ((rv hs hok).mono (by omega)) (fun x hx => ?_) ?_
        · rcases List.mem_append.1 hx with hx | hx
          · exact hq x (List.mem_cons_of_mem _ hx)
          · exact Fy hok x hx
        · rw [List.length_append]
          have := tV (aO t p).1
          omega
theorem nO : aP prog [] dR de :=
 fu (S := de) dU (fx := az) uv (by kernel_rfl) (fun h => by cases h) (T := fun x => oy x.1 x.2.1) (fun x => so x.1 x.2.1) fun O w0 x _ hp => by
  obtain ⟨t, p, ⟨⟩⟩ := x
  have ht : t.length ≤ 1000000 := hp.1
  have hpl : p.1.length ≤ 1000000 := hp.2
  have hc : (bif !aT t then true else !am p) = !(aT t && am p) := by cases am p <;> cases aT t <;> rfl
  refine ⟨ht, ga ⟨fun _ => hpl, fun h => ⟨_, rfl, ?_⟩, fun h => ⟨(by show 1 ≤ bQ; decide), fun h0 => ?_, fun _ => ⟨⟨by decide, (by show (0 : Int) < 1; decide)⟩, ⟨by decide, (by show (0 : Int) < 1; decide)⟩, (by show 0 + 1 ≤ 1; decide), ⟨by decide, (by show (1 : Int) ≤ 1; decide), (by show (1 : Int) ≤ ((1 - 0 : Nat) : Int); decide)⟩, (by show 0 + 1 + (1 - 1) ≤ 1; decide), ?_⟩⟩⟩⟩
  ·rw [hc] at h
   have hn : ¬ (aT t = true ∧ am p = true) := fun ⟨a, b⟩ => by rw [a, b] at h; cases h
   show _ = bf t p
   unfold bf
   rw [if_neg hn]
   rfl
  ·cases h0
  ·rw [hc] at h
   have hy : aT t = true ∧ am p = true := by cases ha : am p <;> cases hb : aT t <;> rw [ha, hb] at h <;> first | exact ⟨rfl, rfl⟩ | cases h
   have e : de.g (t, p, ()) = sO (fU t 1000 s0 0 [p]) := by show bf t p = _; unfold bf; rw [if_pos hy]
   rw [e]
   exact zW O w0 t ht (zero aj) 1000 0 s0 [p] rfl Dc (fun x hx => by rw [List.mem_singleton.1 hx]; exact (gn hy.2).2.1) (by show 1 ≤ 1; decide)
end Go.Proofs.Ytnccacngedeoeaa
namespace Go.Proofs.Ytnccacngedeoeaa
open Go Go.RowKit
abbrev Sp := den aj
abbrev Lk := den ah
theorem y4 {e : Ty} (l : List (den e)) (n : Nat) : f5 e l 0 (jB (lnx e l) (n : Int)) = l.take n ∧ bK 0 (jB (lnx e l) (n : Int)) (lnx e l) := by
 have h : lnx e l = (l.length : Int) := rfl
 unfold f5 f9 jB bK
 rw [h]
 have h0 : Int.toNat 0 = 0 := rfl
 rw [h0, List.drop_zero]
 split
 ·rw [Int.toNat_natCast]
  exact ⟨rfl, by omega, by omega, by omega⟩
 ·rw [Int.toNat_natCast, List.take_length, List.take_of_length_le (by omega)]
  exact ⟨rfl, by omega, by omega, by omega⟩
theorem FU (s : ByteArray) (n : Nat) : bK 0 (jB (fQ s) (n : Int)) (fQ s) := by
 unfold jB bK fQ
 split <;> omega
def gy (t : List Tg) : List Tg := t.take 34
def F6 (s : ByteArray) : ByteArray := vE s 0 (jB (fQ s) 70)
def il (p : Pk) : Pk := (List.take 6 p.1, p.2.1, F6 p.2.2.1, ())
def fm (a b : Sp) : Bool := decide (a.1 = b.1) && decide ((a.2.1 : Int) = b.2.1) && decide ((a.2.2.1 : Int) = b.2.2.1) && decide ((a.2.2.2.1 : Int) = b.2.2.2.1)
def jL (x : Tg) : Lk := (x.1, x.2.1.2.1, ())
def eZ (t : List Tg) : List Lk × Int := if aT t then ((t.filter fun x => decide (x.2.1.1 = (1 : Int))).map jL, 0) else ([], 1)
noncomputable abbrev o6 : bI := ⟨wM, ws, fun x => (gy x.1, ()), fun _ => True, true⟩
theorem Dp : aP prog [] oZ o6 :=
 fu (S := o6) Dn (fx := wl) CL (by kernel_rfl) (fun _ _ => trivial) (T := fun x => yr x.1) (fun x => Ax x.1) fun O w0 x _ _ =>
  ⟨(y4 (e := ab) x.1 34).2, _, rfl, Prod.ext (y4 (e := ab) x.1 34).1 rfl⟩
noncomputable abbrev oS : bI := ⟨wR, vY, fun x => (il x.1, ()), fun _ => True, true⟩
theorem DP : aP prog [] pe oS :=
 fu (S := oS) CU (fx := we) Cu (by kernel_rfl) (fun _ _ => trivial) (T := fun x => yp x.1) (fun x => AA x.1) fun O w0 x _ _ =>
  ⟨(y4 (e := ai) x.1.1 6).2, FU _ 70, _, rfl, Prod.ext (Prod.ext (y4 (e := ai) x.1.1 6).1 rfl) rfl⟩
noncomputable abbrev nk : bI := ⟨uR, pF, fun x => (fm x.1 x.2.1, ()), fun x => x.1.1.length ≤ 1000000, false⟩
theorem CI {l m : List Int} (h : l.length = m.length) (hi : l.take l.length = m.take l.length) : l = m := by
 rw [List.take_length, h, List.take_length] at hi
 exact hi
theorem zK {l m : List Int} {i : Nat} (h : i < l.length) (h' : i < m.length) (ht : l.take i = m.take i) (he : l[i] = m[i]) : l.take (i + 1) = m.take (i + 1) := by
 rw [List.take_succ_eq_append_getElem h, List.take_succ_eq_append_getElem h', ht, he]
def AJ (O : Nat → Prop) (w0 : World) (a b : Sp) (hl : a.1.length = b.1.length) (h1 : (a.2.1 : Int) = b.2.1) (h2 : (a.2.2.1 : Int) = b.2.2.1) (h3 : (a.2.2.2.1 : Int) = b.2.2.2.1) (ha : a.1.length ≤ 1000000) :=
 PLift.up <| dZ (σ := Unit) a.1.length (fun i _ => List.take i a.1 = List.take i b.1)
  (fun i _ => bD prog ns (Cx.base O w0) (bR prog O w0 pF fun y => y = (fm a b, ())) [] hY (lp gv 4) (s6 (lnx ae a.1) (i : Nat) a b))
  (fun i s hi hb ih => aZ rt (oa _ _ a b) (by
   have hi' : i < b.1.length := by omega
   have ea : el ae a.1 (i : Nat) = a.1[i] := cV hi
   have eb : el ae b.1 (i : Nat) = b.1[i] := cV hi'
   refine ⟨fun _ => ⟨cO hi, cO hi', fun h => ⟨_, rfl, ?_⟩, fun h => ?_⟩, fun h => ?_⟩
   ·rw [ea, eb] at h
    have hn : ¬ a.1[i] = b.1[i] := fun e => by rw [e, decide_eq_true rfl] at h; cases h
    have : ¬ a.1 = b.1 := fun e => hn (by simp only [e])
    show (false, ()) = (fm a b, ())
    unfold fm
    rw [decide_eq_false this]
    rfl
   ·rw [ea, eb] at h
    have he : a.1[i] = b.1[i] := by
     by_cases e : a.1[i] = b.1[i]
     ·exact e
     ·rw [decide_eq_false e] at h; cases h
    rw [dz hi (by omega)]
    exact ih () (zK hi hi' hb he)
   ·rw [dn] at h
    exact absurd hi (of_decide_eq_false h)))
  (fun s hb => aZ rt (oa _ _ a b) (by
   refine ⟨fun h => ?_, fun _ => ⟨_, rfl, ?_⟩⟩
   ·rw [dn] at h
    exact absurd (of_decide_eq_true h) (Nat.lt_irrefl _)
   ·show (true, ()) = (fm a b, ())
    have e : a.1 = b.1 := CI hl hb
    unfold fm
    rw [decide_eq_true e, decide_eq_true h1, decide_eq_true h2, decide_eq_true h3]
    rfl))
theorem Eu (c1 c2 c3 c4 : Bool) : (bif bif bif !c1 then true else !c2 then true else !c3 then true else !c4) = !(c1 && c2 && c3 && c4) := by
 cases c1 <;> cases c2 <;> cases c3 <;> cases c4 <;> rfl
theorem Cj : aP prog [] ny nk :=
 fu (S := nk) rt (fx := hY) AX (by kernel_rfl) (fun h => by cases h) (T := fun x => vS x.1 x.2.1) (fun x => yN x.1 x.2.1) fun O w0 x _ hp => by
  obtain ⟨a, b, ⟨⟩⟩ := x
  have hp : a.1.length ≤ 1000000 := hp
  have hpre := Eu (decide (lnx ae a.1 = lnx ae b.1)) (decide ((a.2.1 : Int) = b.2.1)) (decide ((a.2.2.1 : Int) = b.2.2.1)) (decide ((a.2.2.2.1 : Int) = b.2.2.2.1))
  refine ⟨fun h => ⟨_, rfl, ?_⟩, fun h => ?_⟩
  ·have h := hpre.symm.trans h
   show (false, ()) = (fm a b, ())
   unfold fm
   have hd : decide (a.1 = b.1) = true → decide (lnx ae a.1 = lnx ae b.1) = true := fun h => by
    rw [of_decide_eq_true h]
    exact decide_eq_true rfl
   cases hd1 : decide (a.1 = b.1)
   ·rfl
   ·rw [hd hd1] at h
    cases h2 : decide ((a.2.1 : Int) = b.2.1) <;> cases h3 : decide ((a.2.2.1 : Int) = b.2.2.1) <;> cases h4 : decide ((a.2.2.2.1 : Int) = b.2.2.2.1) <;> first | rfl | (rw [h2, h3, h4] at h; cases h)
  ·have h := hpre.symm.trans h
   cases h1 : decide (lnx ae a.1 = lnx ae b.1) <;> cases h2 : decide ((a.2.1 : Int) = b.2.1) <;> cases h3 : decide ((a.2.2.1 : Int) = b.2.2.1) <;> cases h4 : decide ((a.2.2.2.1 : Int) = b.2.2.2.1) <;> rw [h1, h2, h3, h4] at h <;> first | (cases h; done) | skip
   have hl : ((a.1.length : Nat) : Int) = ((b.1.length : Nat) : Int) := of_decide_eq_true h1
   exact (AJ O w0 a b (by omega) (of_decide_eq_true h2) (of_decide_eq_true h3) (of_decide_eq_true h4) hp).down 0 () (Nat.zero_le _) rfl
noncomputable abbrev ge : bI := ⟨pv, lB, fun x => ((eZ x.1).1, (eZ x.1).2, ()), fun x => x.1.length ≤ 1000000, false⟩
theorem B1 {t : List Tg} {i : Nat} (hi : i < t.length) : ((t.take (i + 1)).filter fun x => decide (x.2.1.1 = (1 : Int))).map jL = ((t.take i).filter fun x => decide (x.2.1.1 = (1 : Int))).map jL ++ (if t[i].2.1.1 = (1 : Int) then [jL t[i]] else []) := by
 rw [List.take_succ_eq_append_getElem hi, List.filter_append, List.map_append, List.filter_cons, List.filter_nil]
 by_cases h : t[i].2.1.1 = (1 : Int)
 ·rw [if_pos h, if_pos (decide_eq_true h)]
  rfl
 ·rw [if_neg h, if_neg (by rw [decide_eq_false h]; simp)]
  rfl
theorem C6 (t : List Tg) (i : Nat) : (((t.take i).filter fun x => decide (x.2.1.1 = (1 : Int))).map jL).length ≤ i := by
 rw [List.length_map]
 refine Nat.le_trans (List.length_filter_le _ _) ?_
 rw [List.length_take]
 omega
def wH (O : Nat → Prop) (w0 : World) (t : List Tg) (ht : t.length ≤ 1000000) :=
 PLift.up <| dZ (σ := List Lk) t.length (fun i b => b = ((t.take i).filter fun x => decide (x.2.1.1 = (1 : Int))).map jL)
  (fun i b => bD prog i8 (Cx.base O w0) (bR prog O w0 lB fun y => y = ((t.filter fun x => decide (x.2.1.1 = (1 : Int))).map jL, 0, ())) [] dI (lp dr 5) (nW t (lnx ab t) (i : Nat) b))
  (fun i b hi hb ih => aZ (lU cH) (lk t _ _ b) (by
   have e : el ab t (i : Nat) = t[i] := cV hi
   have hs := B1 hi
   refine ⟨fun _ => ⟨cO hi, fun h => ⟨?_, ?_⟩, fun h => ?_⟩, fun h => ?_⟩
   ·have := C6 t i
    rw [hb, List.length_append]
    exact Nat.le_trans (show _ + 1 ≤ 1000001 by omega) (by decide)
   ·rw [e] at h ⊢
    rw [dz hi (by omega)]
    refine ih _ ?_
    rw [hb, hs, if_pos (of_decide_eq_true h)]
    rfl
   ·rw [e] at h
    rw [dz hi (by omega)]
    refine ih _ ?_
    rw [hb, hs, if_neg (of_decide_eq_false h), List.append_nil]
   ·rw [dn] at h
    exact absurd hi (of_decide_eq_false h)))
  (fun b hb => aZ (lU cH) (lk t _ _ b) (by
   refine ⟨fun h => ?_, fun _ => ⟨_, rfl, ?_⟩⟩
   ·rw [dn] at h
    exact absurd (of_decide_eq_true h) (Nat.lt_irrefl _)
   ·rw [List.take_length] at hb
    rw [hb]))
theorem xQ : aP prog [] jf ge :=
 fu (S := ge) (lU cH) (fx := dI) wN (by kernel_rfl) (fun h => by cases h) (T := fun x => qb x.1) (fun x => ux x.1) fun O w0 x _ hp => by
  obtain ⟨t, ⟨⟩⟩ := x
  have hp : t.length ≤ 1000000 := hp
  refine ⟨hp, fun h => ⟨_, rfl, ?_⟩, fun h => ?_⟩
  ·have hr : aT t = false := by simpa using h
   show (([] : List Lk), (1 : Int), ()) = ((eZ t).1, (eZ t).2, ())
   unfold eZ
   rw [hr]
   rfl
  ·have hr : aT t = true := by simpa using h
   have e : ge.g (t, ()) = ((t.filter fun x => decide (x.2.1.1 = (1 : Int))).map jL, 0, ()) := by
    show ((eZ t).1, (eZ t).2, ()) = _
    unfold eZ
    rw [hr]
    rfl
   rw [e]
   exact (wH O w0 t hp).down 0 [] (Nat.zero_le _) rfl
noncomputable abbrev mu : bI := ⟨sC, tE, fun _ => (true, ()), fun _ => True, true⟩
end Go.Proofs.Ytnccacngedeoeaa
namespace Go.Proofs.Ytnccacngedeoeaa
open Go Go.RowKit
noncomputable abbrev tL : Fx := { fn := p5, ann := { }, share := true }
noncomputable abbrev uF : bS := { D := { T := bG, F := [(dR, de)], R := [], ovl := [] }, inl := [] }
noncomputable abbrev Bb : dC := .data tE
theorem AL (h_spread_Deliver : aP prog [] dR de) : XOk prog uF := xok (aV (bg bt aW) h_spread_Deliver) (by kernel_rfl) cp cY cZ
noncomputable def uy : af := af.req ((0 : Nat) ≤ 1000000 ∧ List.length (List.set (List.replicate 1 (zero ai)) 0 (2, Prod.fst (Prod.snd (zero (Ty.pair ae (Ty.pair tId (Ty.pair ae Ty.unit))))), 3, Prod.snd (Prod.snd (Prod.snd (zero (Ty.pair ae (Ty.pair tId (Ty.pair ae Ty.unit)))))))) ≤ 1000000) (af.all (den (Ty.pair aj (Ty.pair ae Ty.unit))) (fun (q0 : den (Ty.pair aj (Ty.pair ae Ty.unit))) ↦ q0 = bf [] (List.set (List.replicate 1 (zero ai)) 0 (2, Prod.fst (Prod.snd (zero (Ty.pair ae (Ty.pair tId (Ty.pair ae Ty.unit))))), 3, Prod.snd (Prod.snd (Prod.snd (zero (Ty.pair ae (Ty.pair tId (Ty.pair ae Ty.unit))))))), Prod.snd (zero (Ty.pair (Ty.slc ai) (Ty.pair ae (Ty.pair Ty.str Ty.unit)))))) fun (q0 : den (Ty.pair aj (Ty.pair ae Ty.unit))) ↦ af.req (m3 [(bif decide (Prod.fst (Prod.snd q0) = 0) then decide (lnx ae (Prod.fst (Prod.fst q0)) = 1) else false, true)] (inB 0 (lnx ae (Prod.fst (Prod.fst q0))))) (af.ret (K.val (Ty.pair Ty.bool Ty.unit) (bif bif bif decide (Prod.fst (Prod.snd q0) = 0) then decide (lnx ae (Prod.fst (Prod.fst q0)) = 1) else false then decide (el ae (Prod.fst (Prod.fst q0)) 0 = 3) else false then decide (Prod.fst (Prod.snd (Prod.snd (Prod.snd (Prod.fst q0)))) = 1) else false, PUnit.unit))))
theorem xO : aM uF Bb 5000 [] tL (aN p5) (Env.of (aS sC () 0) []) = uy := by kernel_rfl
end Go.Proofs.Ytnccacngedeoeaa
namespace Go.Proofs.Ytnccacngedeoeaa
open Go Go.RowKit
def BP : Pk := ([((2 : Int), List.replicate 32 (0 : Int), (3 : Int), ())], (0 : Int), { data := { toList := [] } }, ())
theorem Eg : bf [] BP = (([3], 0, 0, 1, ()), 0, ()) := by kernel_rfl
theorem AT : aP prog [] mm mu :=
 fu (S := mu) (AL nO) (fx := tL) Al (by kernel_rfl) (fun _ _ => trivial) (T := fun _ => uy) (fun _ => xO) fun O w0 x _ _ => by
  refine ⟨⟨Nat.zero_le _, by show 1 ≤ 1000000; decide⟩, fun q hq => ?_⟩
  have hq : q = bf [] BP := hq
  rw [Eg] at hq
  subst hq
  exact ⟨fun _ => ⟨by decide, by decide⟩, _, rfl, rfl⟩
theorem w7 (t : List Tg) : ∀ (n k : Nat) (s : Sx) (q : List Pk) (s' : Sx) (w : Nat), fU t n s (k + 1) q = some (s', w) → ∃ w', w = w' + 1 ∧ ∀ m, n ≤ m → fU t m s k q = some (s', w')
 | n, k, s, [], s', w, h => by
  have h : some (s, k + 1) = some (s', w) := by cases n <;> exact h
  have h := Option.some.inj h
  injection h with h1 h2
  subst h1; subst h2
  exact ⟨k, rfl, fun m _ => by cases m <;> rfl⟩
 | 0, k, s, p :: q, s', w, h => by cases h
 | n + 1, k, s, p :: q, s', w, h => by
  obtain ⟨w', e, hm⟩ := w7 t n (k + 1) _ _ s' w h
  refine ⟨w', e, fun m hnm => ?_⟩
  cases m with
  | zero => omega
  | succ m => exact hm m (by omega)
theorem Ac (t : List Tg) : ∀ (n k : Nat) (s : Sx) (q : List Pk) (s' : Sx) (w : Nat), fU t n s k q = some (s', w) → i6 (32 * k) s → i6 (32 * w) s' ∧ w ≤ n + k
 | n, k, s, [], s', w, h, hs => by
  have h : some (s, k) = some (s', w) := by cases n <;> exact h
  have h := Option.some.inj h
  injection h with h1 h2
  subst h1; subst h2
  exact ⟨hs, by omega⟩
 | 0, k, s, p :: q, s', w, h, hs => by cases h
 | n + 1, k, s, p :: q, s', w, h, hs => by
  obtain ⟨h32, hok⟩ := BE t p
  obtain ⟨h1, h2⟩ := Ac t n (k + 1) _ _ s' w h ((rv hs hok).mono (by omega))
  exact ⟨h1, by omega⟩
theorem w9 {t : List Tg} {p : Pk} (h : (bf t p).2.1 = (0 : Int)) : aT t = true ∧ am p = true ∧ ∃ (s : Sx) (w : Nat), fU t 1000 s0 0 [p] = some (s, w) ∧ bf t p = ((d3 s.1 16, s.2.1, s.2.2, (w : Int), ()), 0, ()) ∧ i6 (32 * w) s ∧ w ≤ 1000 := by
 by_cases hy : aT t = true ∧ am p = true
 ·have e : bf t p = sO (fU t 1000 s0 0 [p]) := by unfold bf; rw [if_pos hy]
  rw [e] at h ⊢
  cases hr : fU t 1000 s0 0 [p] with
  | none =>
   rw [hr] at h
   exact absurd (show (8 : Int) = 0 from h) (by decide)
  | some x =>
   obtain ⟨s, w⟩ := x
   obtain ⟨h1, h2⟩ := Ac t 1000 0 s0 [p] s w hr Dc
   exact ⟨hy.1, hy.2, s, w, rfl, rfl, h1, by omega⟩
 ·have e : bf t p = (zero aj, 1, ()) := by unfold bf; rw [if_neg hy]
  rw [e] at h
  exact absurd (show (1 : Int) = 0 from h) (by decide)
theorem zZ {s : Sx} {w : Nat} (h : i6 (32 * w) s) (hw : w ≤ 1000) : (d3 s.1 16).length ≤ 1000000 := by
 have := rq h.2.1 16 (Nat.le_refl _)
 omega
def uh (p : Pk) : Pk := (List.drop 1 p.1, cX p.2.1, p.2.2)
theorem y8 {l : List Ent} (h : bM l = true) (n : Nat) : bM (l.drop n) = true := by
 unfold bM at h ⊢
 rw [List.all_eq_true] at h ⊢
 exact fun x hx => h x (List.mem_of_mem_drop hx)
theorem tq {p : Pk} (h : am p = true) : 0 ≤ (p.2.1 : Int) ∧ (p.2.1 : Int) ≤ 64 ∧ ByteArray.size p.2.2.1 ≤ 64 := by
 unfold am at h
 simp only [Bool.and_eq_true, decide_eq_true_eq] at h
 exact ⟨h.1.1.2, h.1.2, h.2⟩
theorem wI {n : Int} (h0 : 0 ≤ n) (h1 : n ≤ 64) : cX n = n - 1 := cB (by omega)
theorem FP {n : Int} (h0 : 0 ≤ n) (h1 : n ≤ 64) (hz : ¬ n = 0) : decide ((0 : Int) ≤ cX n) = true ∧ decide (cX n ≤ (64 : Int)) = true := by
 rw [wI h0 h1]
 exact ⟨decide_eq_true (by omega), decide_eq_true (by omega)⟩
theorem CC {p : Pk} (h : am p = true) (hl : 2 ≤ p.1.length) (h0 : ¬ (p.2.1 : Int) = 0) : am (uh p) = true := by
 obtain ⟨_, h4, ha⟩ := gn h
 obtain ⟨hh0, hh1, hd⟩ := tq h
 obtain ⟨e1, e2⟩ := FP hh0 hh1 h0
 unfold am cE uh
 rw [decide_eq_true (show 1 ≤ (List.drop 1 p.1).length by rw [List.length_drop]; omega), decide_eq_true (show (List.drop 1 p.1).length ≤ 4 by rw [List.length_drop]; omega), y8 ha 1]
 have e3 : decide (ByteArray.size p.2.2.1 ≤ 64) = true := decide_eq_true hd
 show (true && true && true && decide ((0 : Int) ≤ cX p.2.1) && decide (cX p.2.1 ≤ (64 : Int)) && decide (ByteArray.size p.2.2.1 ≤ 64)) = true
 rw [e1, e2, e3]
 rfl
theorem CZ {t : List Tg} {p : Pk} (ht : aT t = true) (hp : am p = true) (hl : 2 ≤ p.1.length) (h0 : ¬ (p.2.1 : Int) = 0) (hk : (aK p).1 = (1 : Int)) (hm : (aY t (aK p).2.1).2 = 6) :
    (aO t p).1 = [eK p (zero ab) []] ∧ cx (eK p (zero ab) []) = [uh p] ∧ ∀ s, dg s (eK p (zero ab) []) = s := by
  obtain ⟨_, h4, ha⟩ := gn hp
  have e : bO (List.drop 1 p.1) [] = (List.drop 1 p.1, 0) := by
    unfold bO
    rw [if_pos ⟨y8 ha 1, rfl⟩, if_pos (by rw [List.length_drop]; show p.1.length - 1 + 0 ≤ 4; omega)]
    rfl
  have hk2 : ¬ (aK p).1 = (2 : Int) := by rw [hk]; decide
  have hm0 : ¬ (aY t (aK p).2.1).2 = 0 := by rw [hm]; decide
  refine ⟨by unfold aO; rw [if_pos ⟨hp, ht⟩, if_neg hk2, if_neg h0, if_neg hm0, if_pos (by omega)], ?_, fun s => ?_⟩
  · unfold cx
    rw [if_neg (by show ¬ (2 : Int) = 1; decide), if_pos (show jP (eK p (zero ab) []) = 2 from rfl)]
    show [((bO (List.drop 1 p.1) []).1, cX p.2.1, p.2.2.1, ())] = [uh p]
    rw [e]
    rfl
  · unfold dg
    rw [if_neg (by show ¬ (2 : Int) = 1; decide), if_pos (show jP (eK p (zero ab) []) = 2 from rfl)]
theorem bp {t : List Tg} {p : Pk} (h : (bf t p).2.1 = (0 : Int)) (hl : 2 ≤ p.1.length) (h0 : ¬ (p.2.1 : Int) = 0) (hk : (aK p).1 = (1 : Int)) (hm : (aY t (aK p).2.1).2 = 6) :
    ∃ (s : Sx) (w : Nat), bf t p = ((d3 s.1 16, s.2.1, s.2.2, ((w + 1 : Nat) : Int), ()), 0, ()) ∧ bf t (uh p) = ((d3 s.1 16, s.2.1, s.2.2, (w : Int), ()), 0, ()) ∧ (d3 s.1 16).length ≤ 1000000 ∧ w ≤ 1000 := by
  obtain ⟨ht, hp, s, w, hr, e, hI, hw⟩ := w9 h
  obtain ⟨e1, e2, e3⟩ := CZ ht hp hl h0 hk hm
  have hr : fU t 999 ((aO t p).1.foldl dg s0) 1 ([] ++ (aO t p).1.flatMap cx) = some (s, w) := hr
  rw [e1, List.foldl_cons, List.foldl_nil, e3, List.flatMap_cons, List.flatMap_nil, e2] at hr
  obtain ⟨w', ew, hm⟩ := w7 t 999 0 s0 [uh p] s w hr
  subst ew
  refine ⟨s, w', e, ?_, zZ hI hw, by omega⟩
  unfold bf
  rw [if_pos ⟨ht, CC hp hl h0⟩, hm 1000 (by decide)]
  rfl
theorem DW (a : Sp) : fm a a = true := by
 unfold fm
 rw [decide_eq_true rfl, decide_eq_true rfl, decide_eq_true rfl, decide_eq_true rfl]
 rfl
end Go.Proofs.Ytnccacngedeoeaa
namespace Go.Proofs.Ytnccacngedeoeaa
open Go Go.RowKit
noncomputable abbrev qt : Fx := { fn := mU, ann := { frz := [(1, [1])] } }
noncomputable abbrev sc : bS := { D := { T := bG, F := [], R := [], ovl := [] }, inl := [] }
noncomputable abbrev yH : dC := .data qF
theorem yE : XOk prog sc := xok ((bg bt aW)) (by kernel_rfl) cp cY cZ
noncomputable def si (id : den tId) : af := af.req (bK 0 16 (↑32 : Int)) (af.req (16 ≤ List.length (f5 (Ty.int IntKind.u8) id 0 16)) (af.ret (K.val (Ty.pair ar Ty.unit) (List.take 16 (f5 (Ty.int IntKind.u8) id 0 16), PUnit.unit))))
theorem vg (id : den tId) : aM sc yH 5000 [] qt (aN mU) (Env.of (aS qE (id, ()) 0) []) = si id := by kernel_rfl
noncomputable abbrev lq : Fx := { fn := ii, ann := { }, own := [5] }
noncomputable abbrev lO : bS := { D := { T := bG, F := [], R := [], ovl := [] }, inl := [] }
noncomputable abbrev sn : dC := .row (ah)
theorem sr : XOk prog lO := xok ((bg bt aW)) (by kernel_rfl) cp cY cZ
noncomputable def lD (s : den (Ty.slc ah)) : af := af.all Bool (fun (c : Bool) ↦ c = true → s = []) fun (q1 : Bool) ↦ af.ite q1 (af.ret (K.val (Ty.slc ah) [])) (af.req (List.length (List.replicate 0 (zero ah) ++ s) ≤ bQ) (af.req (vok 0 (List.length (List.replicate 0 (zero ah) ++ s)) (List.length (List.replicate 0 (zero ah) ++ s))) (af.ret (K.val (Ty.slc ah) (y3 ah (List.replicate 0 (zero ah) ++ s) 0 (List.length (List.replicate 0 (zero ah) ++ s)))))))
theorem pI (s : den (Ty.slc ah)) : aM lO sn 5000 [] lq (aN ii) (Env.of (aS (Ty.pair (Ty.slc ah) Ty.unit) (s, ()) 0) []) = lD s := by kernel_rfl
end Go.Proofs.Ytnccacngedeoeaa
namespace Go.Proofs.Ytnccacngedeoeaa
open Go Go.RowKit
def a6 (id : List Int) : List Int := List.take 16 id
noncomputable abbrev jZ : bI := ⟨qE, qF, fun x => (a6 x.1, ()), fun _ => True, true⟩
theorem yJ : aP prog [] jY jZ :=
 fu (S := jZ) yE (fx := qt) xY (by kernel_rfl) (fun _ _ => trivial) (T := fun x => si x.1) (fun x => vg x.1) fun O w0 x hk _ => by
  obtain ⟨id, ⟨⟩⟩ := x
  have hl : List.length id = 32 := hk.1.1
  have e : f5 (Ty.int IntKind.u8) id 0 16 = List.take 16 id := rfl
  refine ⟨⟨by decide, by decide, by decide⟩, ?_, _, rfl, ?_⟩
  ·rw [e]
   show 16 ≤ (List.take 16 id).length
   rw [List.length_take]
   omega
  ·rw [e]
   show (List.take 16 (List.take 16 id), ()) = (List.take 16 id, ())
   rw [List.take_take]; rfl
@[reducible] def ie : jN := ⟨ah, false, .pair (.slc ah) .unit, true, fun _ y => y.1.length ≤ bQ, fun _ y => y.1⟩
theorem qW : pE prog [] fj ie :=
 FF sr (fx := lq) rfl rE (by kernel_rfl) (T := fun _ y => lD y.1) (fun xs y _ => pI y.1) fun O w0 bk xs y hxl hy hp => by
  obtain ⟨s, ⟨⟩⟩ := y
  refine fun c hc => ⟨fun hx => ?_, fun hx => ?_⟩
  ·show K.val _ _ = K.val _ s
   rw [show s = [] from hc hx]
  ·refine ⟨?_, ?_, ?_⟩
   ·simpa using hp
   ·simp [vok]
   ·show K.val (.slc ah) (y3 ah (List.replicate 0 (zero ah) ++ s) 0 (List.length (List.replicate 0 (zero ah) ++ s))) = K.val _ s
    rw [Dh _ rfl]; rfl
end Go.Proofs.Ytnccacngedeoeaa
namespace Go.Proofs.Ytnccacngedeoeaa
open Go Go.RowKit
noncomputable abbrev rF : Fx := { fn := lN, ann := { } }
noncomputable abbrev rR : Fx := { fn := lJ, ann := { } }
noncomputable abbrev sQ : Fx := { fn := nd, ann := { } }
noncomputable abbrev aJ : Fx := { fn := aH, ann := { loops := [(5, { keep := [0, 1, 5, 6] })], frz := [(1000005, [4, 5])] }, own := [41] }
noncomputable abbrev bB : Fx := { fn := bw, ann := { loops := [(2, { keep := [0, 1, 7, 8] })], frz := [(1000002, [0, 1]), (2000002, [4, 5])] } }
noncomputable abbrev ap : Fx := { fn := aq, ann := { loops := [(4, { keep := [4], own := [(4, (.ref ah))] }), (6, { keep := [4, 5, 14, 15, 16] })] }, own := [5] }
noncomputable abbrev bP : bS := { D := { T := bG, F := [(jY, jZ)], R := [(fj, ie)], ovl := [] }, inl := [(lF, rF), (lL, rR), (m9, sQ), (iV, aJ), (jt, bB)] }
noncomputable abbrev dG : dC := .data fe
theorem wm (h_proof_keyOf : aP prog [] jY jZ) (h_slices_Clone_Link : pE prog [] fj ie) : XOk prog bP := xok (aV (bg bt aW) h_proof_keyOf) (by kernel_rfl) (EB h_slices_Clone_Link cp) (fl rh (by kernel_rfl) (fl rD (by kernel_rfl) (fl sR (by kernel_rfl) (fl nj (by kernel_rfl) (fl oB (by kernel_rfl) cY))))) cZ
noncomputable def pC (l : den (Ty.slc ah)) : af := af.ite (decide (64 < lnx ah l)) (af.ret (K.val (Ty.pair Ty.bool (Ty.pair ae Ty.unit)) (false, 2, PUnit.unit))) (af.req (List.length l ≤ bQ) (af.loop [] ap (lp aq 4) [(4, K.val (Ty.slc ah) l)] []))
theorem tG (l : den (Ty.slc ah)) : aM bP dG 5000 [] ap (aN aq) (Env.of (aS n8 (l, ()) 0) []) = pC l := by kernel_rfl
noncomputable def fZ (v4 : den (Ty.slc ah)) : Env := Env.of [(4, K.val (Ty.slc ah) v4)] []
noncomputable def tt (v4 : den (Ty.slc ah)) : af := af.loop [] ap (lp aq 6) [(4, K.val (Ty.slc ah) v4), (5, K.ptr 0 ak []), (14, K.val (Ty.slc ah) v4), (15, K.val ae (lnx ah v4)), (16, K.val ae 0)] [(0, Bx.obj ak (K.agg (Ty.pair (Ty.mp ar Ty.bool) Ty.unit) (K.kcons K.nilmp K.knil)))]
theorem qe (v4 : den (Ty.slc ah)) : aM bP dG 5000 [] ap (lp aq 4) (fZ v4) = tt v4 := by kernel_rfl
noncomputable def nh (v4 : den (Ty.slc ah)) (v14 : den (Ty.slc ah)) (v15 : den ae) (v16 : den ae) : Env := Env.of [(4, K.val (Ty.slc ah) v4), (5, K.ptr 0 ak []), (14, K.val (Ty.slc ah) v14), (15, K.val ae v15), (16, K.val ae v16)] [(0, Bx.obj ak (K.agg (Ty.pair (Ty.mp ar Ty.bool) Ty.unit) (K.kcons K.nilmp K.knil)))]
noncomputable def tu (v4 : den (Ty.slc ah)) (v14 : den (Ty.slc ah)) (v15 : den ae) (v16 : den ae) : af := af.ite (decide (v16 < v15)) (af.req (inB v16 (lnx ah v14)) (af.req True (af.ite true (af.loop [] ap (lp aq 6) [(4, K.val (Ty.slc ah) v4), (5, K.ptr 0 ak []), (14, K.val (Ty.slc ah) v14), (15, K.val ae v15), (16, K.val ae (IntKind.wrap IntKind.i64 (v16 + 1)))] [(0, Bx.obj ak (K.agg (Ty.pair (Ty.mp ar Ty.bool) Ty.unit) (K.kcons (K.pm (0 + 1)) K.knil))), (0 + 1, Bx.mpd ar Ty.bool (fy [] (a6 (Prod.fst (el ah v14 v16))) true))]) (af.bad (1000 + 3))))) (af.req (List.length v4 ≤ bQ) (af.loop [{ fx := aJ, todo := bv aH 1 2, dst := some 10, s := ofS [(0, K.sl 0 ah), (1, K.clo 69 (K.kcons (K.ptr (0 + 1) ak []) K.knil))] }, { fx := ap, todo := bv aq 10 3, dst := some 28, s := ofS [(4, K.val (Ty.slc ah) v4), (5, K.ptr (0 + 1) ak [])] }] bB (lp bw 2) [(0, K.sl 0 ah), (1, K.clo 69 (K.kcons (K.ptr (0 + 1) ak []) K.knil)), (7, K.val ae (lnx ah v4)), (8, K.val ae 0)] [(0, Bx.row ah v4), (0 + 1, Bx.obj ak (K.agg (Ty.pair (Ty.mp ar Ty.bool) Ty.unit) (K.kcons K.nilmp K.knil)))]))
theorem kh (v4 : den (Ty.slc ah)) (v14 : den (Ty.slc ah)) (v15 : den ae) (v16 : den ae) : aM bP dG 5000 [] ap (lp aq 6) (nh v4 v14 v15 v16) = tu v4 v14 v15 v16 := by kernel_rfl
noncomputable def lS (v4 : den (Ty.slc ah)) (v14 : den (Ty.slc ah)) (v15 : den ae) (v16 : den ae) (b1 : List (den ar × den Ty.bool)) : Env := Env.of [(4, K.val (Ty.slc ah) v4), (5, K.ptr 0 ak []), (14, K.val (Ty.slc ah) v14), (15, K.val ae v15), (16, K.val ae v16)] [(0, Bx.obj ak (K.agg (Ty.pair (Ty.mp ar Ty.bool) Ty.unit) (K.kcons (K.pm (0 + 1)) K.knil))), (1, Bx.mpd ar Ty.bool b1)]
noncomputable def rJ (v4 : den (Ty.slc ah)) (v14 : den (Ty.slc ah)) (v15 : den ae) (v16 : den ae) (b1 : List (den ar × den Ty.bool)) : af := af.ite (decide (v16 < v15)) (af.req (inB v16 (lnx ah v14)) (af.req True (af.ite false (af.loop [] ap (lp aq 6) [(4, K.val (Ty.slc ah) v4), (5, K.ptr 0 ak []), (14, K.val (Ty.slc ah) v14), (15, K.val ae v15), (16, K.val ae (IntKind.wrap IntKind.i64 (v16 + 1)))] [(0, Bx.obj ak (K.agg (Ty.pair (Ty.mp ar Ty.bool) Ty.unit) (K.kcons (K.pm (0 + 1)) K.knil))), (0 + 1, Bx.mpd ar Ty.bool (fy [] (a6 (Prod.fst (el ah v14 v16))) true))]) (af.loop [] ap (lp aq 6) [(4, K.val (Ty.slc ah) v4), (5, K.ptr 0 ak []), (14, K.val (Ty.slc ah) v14), (15, K.val ae v15), (16, K.val ae (IntKind.wrap IntKind.i64 (v16 + 1)))] [(0, Bx.obj ak (K.agg (Ty.pair (Ty.mp ar Ty.bool) Ty.unit) (K.kcons (K.pm (0 + 1)) K.knil))), (0 + 1, Bx.mpd ar Ty.bool (fy b1 (a6 (Prod.fst (el ah v14 v16))) true))])))) (af.req (List.length v4 ≤ bQ) (af.loop [{ fx := aJ, todo := bv aH 1 2, dst := some 10, s := ofS [(0, K.sl 0 ah), (1, K.clo 69 (K.kcons (K.ptr (0 + 1) ak []) K.knil))] }, { fx := ap, todo := bv aq 10 3, dst := some 28, s := ofS [(4, K.val (Ty.slc ah) v4), (5, K.ptr (0 + 1) ak [])] }] bB (lp bw 2) [(0, K.sl 0 ah), (1, K.clo 69 (K.kcons (K.ptr (0 + 1) ak []) K.knil)), (7, K.val ae (lnx ah v4)), (8, K.val ae 0)] [(0, Bx.row ah v4), (0 + 1, Bx.obj ak (K.agg (Ty.pair (Ty.mp ar Ty.bool) Ty.unit) (K.kcons (K.pm (0 + 1 + 1)) K.knil))), (0 + 1 + 1, Bx.mpd ar Ty.bool b1)]))
theorem jw (v4 : den (Ty.slc ah)) (v14 : den (Ty.slc ah)) (v15 : den ae) (v16 : den ae) (b1 : List (den ar × den Ty.bool)) : aM bP dG 5000 [] ap (lp aq 6) (lS v4 v14 v15 v16 b1) = rJ v4 v14 v15 v16 b1 := by kernel_rfl
noncomputable def gW (w1_4 : den (Ty.slc ah)) (v7 : den ae) (v8 : den ae) (b0 : List (den ah)) : List bN := [{ fx := aJ, todo := bv aH 1 2, dst := some 10, s := ofS [(0, K.sl 0 ah), (1, K.clo 69 (K.kcons (K.ptr (0 + 1) ak []) K.knil))] }, { fx := ap, todo := bv aq 10 3, dst := some 28, s := ofS [(4, K.val (Ty.slc ah) w1_4), (5, K.ptr (0 + 1) ak [])] }]
noncomputable def g0 (w1_4 : den (Ty.slc ah)) (v7 : den ae) (v8 : den ae) (b0 : List (den ah)) : Env := Env.of [(0, K.sl 0 ah), (1, K.clo 69 (K.kcons (K.ptr (0 + 1) ak []) K.knil)), (7, K.val ae v7), (8, K.val ae v8)] [(0, Bx.row ah b0), (1, Bx.obj ak (K.agg (Ty.pair (Ty.mp ar Ty.bool) Ty.unit) (K.kcons K.nilmp K.knil)))]
noncomputable def gN (w1_4 : den (Ty.slc ah)) (v7 : den ae) (v8 : den ae) (b0 : List (den ah)) : af := af.ite (decide (v8 < v7)) (af.req (inB v8 (lnx ah b0)) (af.req (inB v8 (lnx ah b0)) (af.req True (af.ite (!jg (k := ar) (v := Ty.bool) [] (a6 (Prod.fst (Prod.snd (el ah b0 v8))))) (af.ite (decide (v8 = -1)) (af.ite (decide (lnx ah b0 = lnx ah w1_4)) (af.ret (K.val (Ty.pair Ty.bool (Ty.pair ae Ty.unit)) (decide (lnx ah w1_4 = 0), 0, PUnit.unit))) (af.loop [] ap (lp aq 4) [(4, K.val (Ty.slc ah) b0)] [])) (af.loop [{ fx := ap, todo := bv aq 10 3, dst := some 28, s := ofS [(4, K.val (Ty.slc ah) w1_4), (5, K.ptr (0 + 1) ak [])] }] aJ (lp aH 5) [(0, K.sl 0 ah), (1, K.clo 69 (K.kcons (K.ptr (0 + 1) ak []) K.knil)), (5, K.val ae v8), (6, K.val ae (IntKind.wrap IntKind.i64 (v8 + 1)))] [(0, Bx.row ah b0), (0 + 1, Bx.obj ak (K.agg (Ty.pair (Ty.mp ar Ty.bool) Ty.unit) (K.kcons K.nilmp K.knil)))])) (af.loop [{ fx := aJ, todo := bv aH 1 2, dst := some 10, s := ofS [(0, K.sl 0 ah), (1, K.clo 69 (K.kcons (K.ptr (0 + 1) ak []) K.knil))] }, { fx := ap, todo := bv aq 10 3, dst := some 28, s := ofS [(4, K.val (Ty.slc ah) w1_4), (5, K.ptr (0 + 1) ak [])] }] bB (lp bw 2) [(0, K.sl 0 ah), (1, K.clo 69 (K.kcons (K.ptr (0 + 1) ak []) K.knil)), (7, K.val ae v7), (8, K.val ae (IntKind.wrap IntKind.i64 (v8 + 1)))] [(0, Bx.row ah b0), (0 + 1, Bx.obj ak (K.agg (Ty.pair (Ty.mp ar Ty.bool) Ty.unit) (K.kcons K.nilmp K.knil)))]))))) (af.ite (decide (-1 = -1)) (af.ite (decide (lnx ah b0 = lnx ah w1_4)) (af.ret (K.val (Ty.pair Ty.bool (Ty.pair ae Ty.unit)) (decide (lnx ah w1_4 = 0), 0, PUnit.unit))) (af.loop [] ap (lp aq 4) [(4, K.val (Ty.slc ah) b0)] [])) (af.loop [{ fx := ap, todo := bv aq 10 3, dst := some 28, s := ofS [(4, K.val (Ty.slc ah) w1_4), (5, K.ptr (0 + 1) ak [])] }] aJ (lp aH 5) [(0, K.sl 0 ah), (1, K.clo 69 (K.kcons (K.ptr (0 + 1) ak []) K.knil)), (5, K.val ae (-1)), (6, K.val ae (IntKind.wrap IntKind.i64 (-1 + 1)))] [(0, Bx.row ah b0), (0 + 1, Bx.obj ak (K.agg (Ty.pair (Ty.mp ar Ty.bool) Ty.unit) (K.kcons K.nilmp K.knil)))]))
theorem fV (w1_4 : den (Ty.slc ah)) (v7 : den ae) (v8 : den ae) (b0 : List (den ah)) : aM bP dG 5000 (gW w1_4 v7 v8 b0) bB (lp bw 2) (g0 w1_4 v7 v8 b0) = gN w1_4 v7 v8 b0 := by kernel_rfl
noncomputable def dx (w1_4 : den (Ty.slc ah)) (v7 : den ae) (v8 : den ae) (b0 : List (den ah)) (b2 : List (den ar × den Ty.bool)) : List bN := [{ fx := aJ, todo := bv aH 1 2, dst := some 10, s := ofS [(0, K.sl 0 ah), (1, K.clo 69 (K.kcons (K.ptr (0 + 1) ak []) K.knil))] }, { fx := ap, todo := bv aq 10 3, dst := some 28, s := ofS [(4, K.val (Ty.slc ah) w1_4), (5, K.ptr (0 + 1) ak [])] }]
noncomputable def dw (w1_4 : den (Ty.slc ah)) (v7 : den ae) (v8 : den ae) (b0 : List (den ah)) (b2 : List (den ar × den Ty.bool)) : Env := Env.of [(0, K.sl 0 ah), (1, K.clo 69 (K.kcons (K.ptr (0 + 1) ak []) K.knil)), (7, K.val ae v7), (8, K.val ae v8)] [(0, Bx.row ah b0), (1, Bx.obj ak (K.agg (Ty.pair (Ty.mp ar Ty.bool) Ty.unit) (K.kcons (K.pm (0 + 1 + 1)) K.knil))), (2, Bx.mpd ar Ty.bool b2)]
noncomputable def gd (w1_4 : den (Ty.slc ah)) (v7 : den ae) (v8 : den ae) (b0 : List (den ah)) (b2 : List (den ar × den Ty.bool)) : af := af.ite (decide (v8 < v7)) (af.req (inB v8 (lnx ah b0)) (af.req (inB v8 (lnx ah b0)) (af.req True (af.ite (!jg b2 (a6 (Prod.fst (Prod.snd (el ah b0 v8))))) (af.ite (decide (v8 = -1)) (af.ite (decide (lnx ah b0 = lnx ah w1_4)) (af.ret (K.val (Ty.pair Ty.bool (Ty.pair ae Ty.unit)) (decide (lnx ah w1_4 = 0), 0, PUnit.unit))) (af.loop [] ap (lp aq 4) [(4, K.val (Ty.slc ah) b0)] [])) (af.loop [{ fx := ap, todo := bv aq 10 3, dst := some 28, s := ofS [(4, K.val (Ty.slc ah) w1_4), (5, K.ptr (0 + 1) ak [])] }] aJ (lp aH 5) [(0, K.sl 0 ah), (1, K.clo 69 (K.kcons (K.ptr (0 + 1) ak []) K.knil)), (5, K.val ae v8), (6, K.val ae (IntKind.wrap IntKind.i64 (v8 + 1)))] [(0, Bx.row ah b0), (0 + 1, Bx.obj ak (K.agg (Ty.pair (Ty.mp ar Ty.bool) Ty.unit) (K.kcons (K.pm (0 + 1 + 1)) K.knil))), (0 + 1 + 1, Bx.mpd ar Ty.bool b2)])) (af.loop [{ fx := aJ, todo := bv aH 1 2, dst := some 10, s := ofS [(0, K.sl 0 ah), (1, K.clo 69 (K.kcons (K.ptr (0 + 1) ak []) K.knil))] }, { fx := ap, todo := bv aq 10 3, dst := some 28, s := ofS [(4, K.val (Ty.slc ah) w1_4), (5, K.ptr (0 + 1) ak [])] }] bB (lp bw 2) [(0, K.sl 0 ah), (1, K.clo 69 (K.kcons (K.ptr (0 + 1) ak []) K.knil)), (7, K.val ae v7), (8, K.val ae (IntKind.wrap IntKind.i64 (v8 + 1)))] [(0, Bx.row ah b0), (0 + 1, Bx.obj ak (K.agg (Ty.pair (Ty.mp ar Ty.bool) Ty.unit) (K.kcons (K.pm (0 + 1 + 1)) K.knil))), (0 + 1 + 1, Bx.mpd ar Ty.bool b2)]))))) (af.ite (decide (-1 = -1)) (af.ite (decide (lnx ah b0 = lnx ah w1_4)) (af.ret (K.val (Ty.pair Ty.bool (Ty.pair ae Ty.unit)) (decide (lnx ah w1_4 = 0), 0, PUnit.unit))) (af.loop [] ap (lp aq 4) [(4, K.val (Ty.slc ah) b0)] [])) (af.loop [{ fx := ap, todo := bv aq 10 3, dst := some 28, s := ofS [(4, K.val (Ty.slc ah) w1_4), (5, K.ptr (0 + 1) ak [])] }] aJ (lp aH 5) [(0, K.sl 0 ah), (1, K.clo 69 (K.kcons (K.ptr (0 + 1) ak []) K.knil)), (5, K.val ae (-1)), (6, K.val ae (IntKind.wrap IntKind.i64 (-1 + 1)))] [(0, Bx.row ah b0), (0 + 1, Bx.obj ak (K.agg (Ty.pair (Ty.mp ar Ty.bool) Ty.unit) (K.kcons (K.pm (0 + 1 + 1)) K.knil))), (0 + 1 + 1, Bx.mpd ar Ty.bool b2)]))
theorem cT (w1_4 : den (Ty.slc ah)) (v7 : den ae) (v8 : den ae) (b0 : List (den ah)) (b2 : List (den ar × den Ty.bool)) : aM bP dG 5000 (dx w1_4 v7 v8 b0 b2) bB (lp bw 2) (dw w1_4 v7 v8 b0 b2) = gd w1_4 v7 v8 b0 b2 := by kernel_rfl
noncomputable def dh (w0_4 : den (Ty.slc ah)) (v5 : den ae) (v6 : den ae) (b0 : List (den ah)) (b2 : List (den ar × den Ty.bool)) : List bN := [{ fx := ap, todo := bv aq 10 3, dst := some 28, s := ofS [(4, K.val (Ty.slc ah) w0_4), (5, K.ptr (0 + 1) ak [])] }]
noncomputable def dt (w0_4 : den (Ty.slc ah)) (v5 : den ae) (v6 : den ae) (b0 : List (den ah)) (b2 : List (den ar × den Ty.bool)) : Env := Env.of [(0, K.sl 0 ah), (1, K.clo 69 (K.kcons (K.ptr (0 + 1) ak []) K.knil)), (5, K.val ae v5), (6, K.val ae v6)] [(0, Bx.row ah b0), (1, Bx.obj ak (K.agg (Ty.pair (Ty.mp ar Ty.bool) Ty.unit) (K.kcons (K.pm (0 + 1 + 1)) K.knil))), (2, Bx.mpd ar Ty.bool b2)]
noncomputable def fW (w0_4 : den (Ty.slc ah)) (v5 : den ae) (v6 : den ae) (b0 : List (den ah)) (b2 : List (den ar × den Ty.bool)) : af := af.ite (decide (v6 < lnx ah b0)) (af.req (inB v6 (lnx ah b0)) (af.req (inB v6 (lnx ah b0)) (af.req True (af.ite (!!jg b2 (a6 (Prod.fst (Prod.snd (el ah b0 v6))))) (af.req (inB v5 (lnx ah b0)) (af.req (inB v5 (lnx ah b0)) (af.loop [{ fx := ap, todo := bv aq 10 3, dst := some 28, s := ofS [(4, K.val (Ty.slc ah) w0_4), (5, K.ptr (0 + 1) ak [])] }] aJ (lp aH 5) [(0, K.sl 0 ah), (1, K.clo 69 (K.kcons (K.ptr (0 + 1) ak []) K.knil)), (5, K.val ae (IntKind.wrap IntKind.i64 (v5 + 1))), (6, K.val ae (IntKind.wrap IntKind.i64 (v6 + 1)))] [(0, Bx.row ah (kG ah b0 v5 (el ah b0 v6))), (0 + 1, Bx.obj ak (K.agg (Ty.pair (Ty.mp ar Ty.bool) Ty.unit) (K.kcons (K.pm (0 + 1 + 1)) K.knil))), (0 + 1 + 1, Bx.mpd ar Ty.bool b2)]))) (af.loop [{ fx := ap, todo := bv aq 10 3, dst := some 28, s := ofS [(4, K.val (Ty.slc ah) w0_4), (5, K.ptr (0 + 1) ak [])] }] aJ (lp aH 5) [(0, K.sl 0 ah), (1, K.clo 69 (K.kcons (K.ptr (0 + 1) ak []) K.knil)), (5, K.val ae v5), (6, K.val ae (IntKind.wrap IntKind.i64 (v6 + 1)))] [(0, Bx.row ah b0), (0 + 1, Bx.obj ak (K.agg (Ty.pair (Ty.mp ar Ty.bool) Ty.unit) (K.kcons (K.pm (0 + 1 + 1)) K.knil))), (0 + 1 + 1, Bx.mpd ar Ty.bool b2)]))))) (af.req (vok 0 (List.length b0) (List.length b0)) (af.req (bK v5 (↑(List.length b0) : Int) (↑(List.length b0 - 0) : Int)) (af.req (vok (0 + Int.toNat v5) (Int.toNat (↑(List.length b0) : Int) - Int.toNat v5) (List.length b0)) (af.req (bK 0 v5 (lnx ah (over b0 (0 + Int.toNat v5) (List.replicate (Int.toNat (↑(List.length b0) : Int) - Int.toNat v5) (zero ah))))) (af.ite (decide (lnx ah (List.take (Int.toNat v5) (over b0 (0 + Int.toNat v5) (List.replicate (Int.toNat (↑(List.length b0) : Int) - Int.toNat v5) (zero ah)))) = lnx ah w0_4)) (af.ret (K.val (Ty.pair Ty.bool (Ty.pair ae Ty.unit)) (decide (lnx ah w0_4 = 0), 0, PUnit.unit))) (af.loop [] ap (lp aq 4) [(4, K.val (Ty.slc ah) (List.take (Int.toNat v5) (over b0 (0 + Int.toNat v5) (List.replicate (Int.toNat (↑(List.length b0) : Int) - Int.toNat v5) (zero ah)))))] []))))))
theorem cN (w0_4 : den (Ty.slc ah)) (v5 : den ae) (v6 : den ae) (b0 : List (den ah)) (b2 : List (den ar × den Ty.bool)) : aM bP dG 5000 (dh w0_4 v5 v6 b0 b2) aJ (lp aH 5) (dt w0_4 v5 v6 b0 b2) = fW w0_4 v5 v6 b0 b2 := by kernel_rfl
end Go.Proofs.Ytnccacngedeoeaa
namespace Go.Proofs.Ytnccacngedeoeaa
open Go Go.RowKit
abbrev tv := List (den ar × den Ty.bool)
def sN (m : tv) (k : List Int) : Bool := jg (k := ar) (v := Ty.bool) m k
def B4 (m : tv) (k : List Int) : tv := fy (k := ar) (v := Ty.bool) m k true
theorem eqK (a b : List Int) : eqb ar a b = decide (a = b) := by
 have := qy (t := ar) rfl a b
 cases h : eqb ar a b
 ·exact (decide_eq_false fun e => by rw [this.2 e] at h; cases h).symm
 ·exact (decide_eq_true (this.1 h)).symm
theorem Fv (k : List Int) : sN [] k = false := rfl
theorem FG : ∀ (m : tv) (a c : List Int), sN (B4 m a) c = if c = a then true else sN m c := by
 intro m a c
 unfold sN B4 jg mF
 induction m with
 | nil =>
  rw [fy]
  by_cases h : c = a
  ·rw [if_pos h, List.find?_cons_of_pos (by rw [eqK]; exact decide_eq_true h)]
   rfl
  ·rw [if_neg h, List.find?_cons_of_neg (by rw [eqK, decide_eq_false h]; simp)]
 | cons q m ih =>
  rw [fy]
  by_cases hq : eqb ar a q.1 = true
  ·have hq' : a = q.1 := by rw [eqK] at hq; exact of_decide_eq_true hq
   rw [if_pos hq]
   by_cases h : c = a
   ·rw [if_pos h, List.find?_cons_of_pos (by rw [eqK]; exact decide_eq_true h)]
    rfl
   ·rw [if_neg h, List.find?_cons_of_neg (by rw [eqK, decide_eq_false h]; simp), List.find?_cons_of_neg (by rw [eqK, decide_eq_false (by rw [← hq']; exact h)]; simp)]
  ·rw [if_neg hq]
   by_cases hc : c = q.1
   ·have h : ¬ c = a := fun e => hq (by rw [eqK]; exact decide_eq_true (by rw [← e, hc]))
    rw [if_neg h, List.find?_cons_of_pos (by rw [eqK]; exact decide_eq_true hc), List.find?_cons_of_pos (by rw [eqK]; exact decide_eq_true hc)]
   ·rw [List.find?_cons_of_neg (by rw [eqK, decide_eq_false hc]; simp), List.find?_cons_of_neg (by rw [eqK, decide_eq_false hc]; simp)]
    exact ih
def dv (l : List Lk) : tv := l.foldl (fun m x => B4 m (a6 x.1)) []
theorem Ak (k : List Int) : ∀ (l : List Lk) (m : tv), sN (l.foldl (fun m x => B4 m (a6 x.1)) m) k = (sN m k || decide (k ∈ l.map fun x => a6 x.1))
 | [], m => by simp
 | x :: l, m => by
  rw [List.foldl_cons, Ak k l, FG, List.map_cons]
  by_cases h : k = a6 x.1
  ·rw [if_pos h, decide_eq_true (show k ∈ a6 x.1 :: _ by rw [h]; exact List.mem_cons_self)]
   simp
  ·rw [if_neg h]
   congr 1
   rw [decide_eq_decide, List.mem_cons]
   exact ⟨.inr, fun h' => h'.resolve_left h⟩
theorem EL (l : List Lk) (k : List Int) : sN (dv l) k = decide (k ∈ l.map fun x => a6 x.1) := by
 unfold dv
 rw [Ak, Fv, Bool.false_or]
def fq (m : tv) (x : Lk) : Bool := sN m (a6 x.2.1)
def le : Nat → List Lk → Bool
 | 0, _ => false
 | n + 1, l => if (l.filter (fq (dv l))).length = l.length then decide (l.length = 0) else le n (l.filter (fq (dv l)))
def cS (l : List Lk) : Bool × Int := if 64 < l.length then (false, 2) else (le (l.length + 1) l, 0)
noncomputable abbrev fH : bI := ⟨n8, fe, fun x => ((cS x.1).1, (cS x.1).2, ()), fun x => x.1.length ≤ 1000000, false⟩
theorem dE : XOk prog bP := wm yJ qW
abbrev GA (O : Nat → Prop) (w0 : World) (y : Bool) := bD prog bP (Cx.base O w0) (bR prog O w0 fe fun z => z = (y, 0, ()))
theorem DM (O : Nat → Prop) (w0 : World) (l : List Lk) (y : Bool) (r : List Lk) (hr : r = l.filter (fq (dv l)))
    (hsame : r.length = l.length → y = decide (l.length = 0)) (hnext : r.length ≠ l.length → GA O w0 y [] ap (lp aq 4) (fZ r)) {b : List Lk} (hb : b = r) :
    aU prog bP (Cx.base O w0) (bR prog O w0 fe fun z => z = (y, 0, ())) (fun k => ∃ x, bz fe k = some x ∧ x = (y, 0, ()))
      (af.ite (decide (lnx ah b = lnx ah l)) (af.ret (K.val (Ty.pair Ty.bool (Ty.pair ae Ty.unit)) (decide (lnx ah l = 0), 0, PUnit.unit)))
        (af.loop [] ap (lp aq 4) [(4, K.val (Ty.slc ah) b)] [])) := by
  subst hb
  refine ⟨fun h => ⟨_, rfl, ?_⟩, fun h => ?_⟩
  · have h : ((b.length : Nat) : Int) = ((l.length : Nat) : Int) := of_decide_eq_true h
    rw [hsame (by omega)]
    have e : decide (lnx ah l = 0) = decide (l.length = 0) := by
      rw [decide_eq_decide]
      show ((l.length : Nat) : Int) = 0 ↔ _
      omega
    rw [e]
  · have h : ¬ ((b.length : Nat) : Int) = ((l.length : Nat) : Int) := of_decide_eq_false h
    exact hnext (by omega)
end Go.Proofs.Ytnccacngedeoeaa
