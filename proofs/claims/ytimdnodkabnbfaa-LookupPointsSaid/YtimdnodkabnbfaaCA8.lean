/- Part 8 of 10 of what this claim's proof stands on: a theory of programs on data, and the contracts of the functions that the law reaches. It holds no condition of its own. -/
import Derived.Test.YtimdnodkabnbfaaCA7
namespace Go.Proofs.Ytimdnodkabnbfaa
open Go Go.RowKit
noncomputable abbrev jo : Fx := { fn := fZ, ann := { } }
noncomputable abbrev jG : a8 := { D := { T := bg, F := [(cw, cT)], R := [], ovl := [] }, inl := [] }
noncomputable abbrev pH : bu := .data js
theorem pV (h_slices_IndexFunc_Member : ap prog [] cw cT) : XOk prog jG := xok (an (aL aS aE) h_slices_IndexFunc_Member) (by kernel_rfl) aN aW aV
noncomputable def jS (s : den (Ty.slc ab)) (f : den (Ty.fn (Ty.pair ab Ty.unit) (Ty.pair Ty.bool Ty.unit))) : af := af.req (∃ (h : den (Ty.pair ab Ty.unit) → den (Ty.pair Ty.bool Ty.unit)), f = some h) (af.ret (K.val (Ty.pair Ty.bool Ty.unit) (decide (0 ≤ ixP (prM f) s 0), PUnit.unit)))
theorem oz (s : den (Ty.slc ab)) (f : den (Ty.fn (Ty.pair ab Ty.unit) (Ty.pair Ty.bool Ty.unit))) : aj jG pH 5000 [] jo (aA fZ) (Env.of (aF jp (s, f, ()) 0) []) = jS s f := by kernel_rfl
noncomputable abbrev mS : Fx := { fn := jf, ann := { frz := [(1, [1])] } }
noncomputable abbrev m5 : a8 := { D := { T := bg, F := [], R := [], ovl := [] }, inl := [] }
noncomputable abbrev vl : bu := .data lN
theorem vM : XOk prog m5 := xok ((aL aS aE)) (by kernel_rfl) aN aW aV
noncomputable def m6 (s : den (Ty.slc ab)) : af := af.ret (K.val (Ty.pair (Ty.clo co (Ty.pair (Ty.ref (Ty.slc ab)) Ty.unit)) Ty.unit) ((s, PUnit.unit), PUnit.unit))
theorem sd (s : den (Ty.slc ab)) : aj m5 vl 5000 [] mS (aA jf) (Env.of (aF mP (s, ()) 0) []) = m6 s := by kernel_rfl
noncomputable abbrev z7 : Fx := { fn := vA, ann := { frz := [(1, [1])] } }
noncomputable abbrev BJ : a8 := { D := { T := bg, F := [(nH, nr)], R := [], ovl := [] }, inl := [] }
noncomputable abbrev JU : bu := .data z6
theorem JV (h_ring_from_1 : ap prog [] nH nr) : XOk prog BJ := xok (an (aL aS aE) h_ring_from_1) (by kernel_rfl) aN aW aV
noncomputable def Bw (id : den tId) : af := af.req (∀ (y : den (Ty.pair ab (Ty.pair ab Ty.unit))), True) (af.ret (K.val (Ty.pair (Ty.fn (Ty.pair ab (Ty.pair ab Ty.unit)) (Ty.pair ae Ty.unit)) Ty.unit) (some fun (y : den (Ty.pair ab (Ty.pair ab Ty.unit))) ↦ (gO (a7 id (Prod.fst (Prod.snd (Prod.fst y)))) (a7 id (Prod.fst (Prod.snd (Prod.fst (Prod.snd y))))), PUnit.unit), PUnit.unit)))
theorem E8 (id : den tId) : aj BJ JU 5000 [] z7 (aA vA) (Env.of (aF zg (id, ()) 0) []) = Bw id := by kernel_rfl
noncomputable abbrev iM : Fx := { fn := ig, ann := { loops := [(2, { keep := [0, 6, 7, 8] })], frz := [(4, [4])] } }
noncomputable abbrev l9 : a8 := { D := { T := bg, F := [(bH, bI), (mF, mt)], R := [], ovl := [] }, inl := [] }
noncomputable abbrev zd : bu := .data rh
theorem Hl (h_slices_ContainsFunc_Member : ap prog [] bH bI) (h_ring_Right_1 : ap prog [] mF mt) : XOk prog l9 := xok (an (an (aL aS aE) h_ring_Right_1) h_slices_ContainsFunc_Member) (by kernel_rfl) aN aW aV
noncomputable def Az (l : den (Ty.slc ab)) : af := af.loop [] iM (lp ig 2) [(0, K.val (Ty.slc ab) l), (6, K.val (Ty.slc ab) l), (7, K.val ae (lnx ab l)), (8, K.val ae 0)] []
theorem Eo (l : den (Ty.slc ab)) : aj l9 zd 5000 [] iM (aA ig) (Env.of (aF yv (l, ()) 0) []) = Az l := by kernel_rfl
noncomputable def vX (v0 : den (Ty.slc ab)) (v6 : den (Ty.slc ab)) (v7 : den ae) (v8 : den ae) : Env := Env.of [(0, K.val (Ty.slc ab) v0), (6, K.val (Ty.slc ab) v6), (7, K.val ae v7), (8, K.val ae v8)] []
noncomputable def Et (v0 : den (Ty.slc ab)) (v6 : den (Ty.slc ab)) (v7 : den ae) (v8 : den ae) : af := af.ite (decide (v8 < v7)) (af.req (inB v8 (lnx ab v6)) (af.req (bQ 0 v8 (lnx ab v0)) (af.req (∀ (y : den (Ty.pair ab Ty.unit)), True) (af.req (∃ (h : den (Ty.pair ab Ty.unit) → den (Ty.pair Ty.bool Ty.unit)), (some fun (y : den (Ty.pair ab Ty.unit)) ↦ (k7 (Prod.fst y) (el ab v6 v8), PUnit.unit)) = some h) (af.ite (bif bif List.any (dS ab v0 0 v8) (prM (some fun (y : den (Ty.pair ab Ty.unit)) ↦ (k7 (Prod.fst y) (el ab v6 v8), PUnit.unit))) then true else decide (Prod.fst (el ab v6 v8) < 0) then true else decide (16 ≤ Prod.fst (el ab v6 v8))) (af.ret (K.val (Ty.pair Ty.bool Ty.unit) (false, PUnit.unit))) (af.loop [] iM (lp ig 2) [(0, K.val (Ty.slc ab) v0), (6, K.val (Ty.slc ab) v6), (7, K.val ae v7), (8, K.val ae (IntKind.wrap IntKind.i64 (v8 + 1)))] [])))))) (af.ret (K.val (Ty.pair Ty.bool Ty.unit) (decide (lnx ab v0 ≤ 16), PUnit.unit)))
theorem qE (v0 : den (Ty.slc ab)) (v6 : den (Ty.slc ab)) (v7 : den ae) (v8 : den ae) : aj l9 zd 5000 [] iM (lp ig 2) (vX v0 v6 v7 v8) = Et v0 v6 v7 v8 := by kernel_rfl
noncomputable abbrev yP : Fx := { fn := sI, ann := { } }
noncomputable abbrev AS : a8 := { D := { T := bg, F := [(gf, gi), (kV, kU), (fH, fL)], R := [], ovl := [] }, inl := [] }
noncomputable abbrev H7 : bu := .data rG
theorem Hg (h_ring_Right : ap prog [] gf gi) (h_ring_from : ap prog [] kV kU) (h_slices_MinFunc_Member : ap prog [] fH fL) : XOk prog AS := xok (an (an (an (aL aS aE) h_slices_MinFunc_Member) h_ring_from) h_ring_Right) (by kernel_rfl) aN aW aV
noncomputable def zh (l : den (Ty.slc ab)) (id : den tId) : af := af.req True (af.ite (!bv l) (af.ret (K.val (Ty.pair ab (Ty.pair ae Ty.unit)) (zero (Ty.pair ae (Ty.pair tId Ty.unit)), 1, PUnit.unit))) (af.ite (decide (lnx ab l = 0)) (af.ret (K.val (Ty.pair ab (Ty.pair ae Ty.unit)) (zero (Ty.pair ae (Ty.pair tId Ty.unit)), 6, PUnit.unit))) (af.req True (af.req ((∃ (h : den (Ty.pair ab (Ty.pair ab Ty.unit)) → den (Ty.pair ae Ty.unit)), c5 id = some h) ∧ 0 < List.length l) (af.ret (K.val (Ty.pair ab (Ty.pair ae Ty.unit)) (HA (cmM (c5 id)) l, 0, PUnit.unit)))))))
theorem Dy (l : den (Ty.slc ab)) (id : den tId) : aj AS H7 5000 [] yP (aA sI) (Env.of (aF yW (l, id, ()) 0) []) = zh l id := by kernel_rfl
noncomputable abbrev wP : Fx := { fn := qS, ann := { frz := [(3, [3])] } }
noncomputable abbrev yN : a8 := { D := { T := bg, F := [(gf, gi), (cw, cT), (lJ, lu), (dz, dA), (kV, kU), (eD, eE)], R := [], ovl := [] }, inl := [] }
noncomputable abbrev G7 : bu := .data pP
theorem G2 (h_ring_Right : ap prog [] gf gi) (h_slices_IndexFunc_Member : ap prog [] cw cT) (h_ring_turned_1 : ap prog [] lJ lu) (h_slices_Values_Member : ap prog [] dz dA) (h_ring_from : ap prog [] kV kU) (h_slices_SortedFunc_Member : ap prog [] eD eE) : XOk prog yN := xok (an (an (an (an (an (an (aL aS aE) h_slices_SortedFunc_Member) h_ring_from) h_slices_Values_Member) h_ring_turned_1) h_slices_IndexFunc_Member) h_ring_Right) (by kernel_rfl) aN aW aV
noncomputable def yk (l : den (Ty.slc ab)) (no : den ae) : af := af.req True (af.ite (!bv l) (af.ret (K.val (Ty.pair (Ty.slc ab) (Ty.pair ae Ty.unit)) ([], 1, PUnit.unit))) (af.req (∀ (y : den (Ty.pair ab Ty.unit)), True) (af.req (∃ (h : den (Ty.pair ab Ty.unit) → den (Ty.pair Ty.bool Ty.unit)), (some fun (y : den (Ty.pair ab Ty.unit)) ↦ (decide (Prod.fst (Prod.fst y) = no), PUnit.unit)) = some h) (af.ite (decide (ixP (prM (some fun (y : den (Ty.pair ab Ty.unit)) ↦ (decide (Prod.fst (Prod.fst y) = no), PUnit.unit))) l 0 < 0)) (af.ret (K.val (Ty.pair (Ty.slc ab) (Ty.pair ae Ty.unit)) ([], 6, PUnit.unit))) (af.req True (af.req (inB (ixP (prM (some fun (y : den (Ty.pair ab Ty.unit)) ↦ (decide (Prod.fst (Prod.fst y) = no), PUnit.unit))) l 0) (lnx ab l)) (af.req True (af.req (jN ab (c5 (Prod.fst (Prod.snd (el ab l (ixP (prM (some fun (y : den (Ty.pair ab Ty.unit)) ↦ (decide (Prod.fst (Prod.fst y) = no), PUnit.unit))) l 0))))) l) (af.ret (K.val (Ty.pair (Ty.slc ab) (Ty.pair ae Ty.unit)) (ge ab (c5 (Prod.fst (Prod.snd (el ab l (ixP (prM (some fun (y : den (Ty.pair ab Ty.unit)) ↦ (decide (Prod.fst (Prod.fst y) = no), PUnit.unit))) l 0))))) l, 0, PUnit.unit)))))))))))
theorem Cp (l : den (Ty.slc ab)) (no : den ae) : aj yN G7 5000 [] wP (aA qS) (Env.of (aF xc (l, no, ()) 0) []) = yk l no := by kernel_rfl
noncomputable abbrev iI : Fx := { fn := ic, ann := { loops := [(8, { keep := [8, 10, 27, 28], own := [(10, ab)] })] }, share := true }
noncomputable abbrev pg : a8 := { D := { T := bg, F := [(iG, gC)], R := [], ovl := [] }, inl := [] }
noncomputable abbrev zG : bu := .data kO
theorem s8 (h_ring_turned : ap prog [] iG gC) : XOk prog pg := xok (an (aL aS aE) h_ring_turned) (by kernel_rfl) aN aW aV
noncomputable def zI (l : den (Ty.slc ab)) (no : den ae) (many : den ae) : af := af.ite (bif decide (many < 0) then true else decide (16 < many)) (af.ret (K.val (Ty.pair (Ty.slc ab) (Ty.pair ae Ty.unit)) ([], 1, PUnit.unit))) (af.req True (af.all (den (Ty.pair (Ty.slc ab) (Ty.pair ae Ty.unit))) (fun (q3 : den (Ty.pair (Ty.slc ab) (Ty.pair ae Ty.unit))) ↦ q3 = (Prod.fst (br l no), Prod.snd (br l no), PUnit.unit)) fun (q3 : den (Ty.pair (Ty.slc ab) (Ty.pair ae Ty.unit))) ↦ af.ite (!decide (Prod.fst (Prod.snd q3) = 0)) (af.ret (K.val (Ty.pair (Ty.slc ab) (Ty.pair ae Ty.unit)) ([], Prod.fst (Prod.snd q3), PUnit.unit))) (af.loop [] iI (lp ic 8) [(8, K.val (Ty.slc ab) (Prod.fst q3)), (10, K.sl 0 ab), (27, K.val ae many), (28, K.val ae 0)] [(0, Bx.row ab [])])))
theorem DW (l : den (Ty.slc ab)) (no : den ae) (many : den ae) : aj pg zG 5000 [] iI (aA ic) (Env.of (aF yn (l, no, many, ()) 0) []) = zI l no many := by kernel_rfl
noncomputable def wJ (v8 : den (Ty.slc ab)) (v27 : den ae) (v28 : den ae) (b0 : List (den ab)) : Env := Env.of [(8, K.val (Ty.slc ab) v8), (10, K.sl 0 ab), (27, K.val ae v27), (28, K.val ae v28)] [(0, Bx.row ab b0)]
noncomputable def Dw (v8 : den (Ty.slc ab)) (v27 : den ae) (v28 : den ae) (b0 : List (den ab)) : af := af.ite (decide (v28 < v27)) (af.req (nz (lnx ab v8)) (af.req (inB (Int.tmod (IntKind.wrap IntKind.i64 (v28 + 1)) (lnx ab v8)) (lnx ab v8)) (af.req (List.length (b0 ++ List.set (List.replicate 1 (zero ab)) 0 (el ab v8 (Int.tmod (IntKind.wrap IntKind.i64 (v28 + 1)) (lnx ab v8)))) ≤ bV) (af.loop [] iI (lp ic 8) [(8, K.val (Ty.slc ab) v8), (10, K.sl 0 ab), (27, K.val ae v27), (28, K.val ae (IntKind.wrap IntKind.i64 (v28 + 1)))] [(0, Bx.row ab (b0 ++ List.set (List.replicate 1 (zero ab)) 0 (el ab v8 (Int.tmod (IntKind.wrap IntKind.i64 (v28 + 1)) (lnx ab v8)))))])))) (af.ret (K.val (Ty.pair (Ty.slc ab) (Ty.pair ae Ty.unit)) (b0, 0, PUnit.unit)))
theorem qF (v8 : den (Ty.slc ab)) (v27 : den ae) (v28 : den ae) (b0 : List (den ab)) : aj pg zG 5000 [] iI (lp ic 8) (wJ v8 v27 v28 b0) = Dw v8 v27 v28 b0 := by kernel_rfl
noncomputable abbrev xh : Fx := { fn := rF, ann := { }, share := true }
noncomputable abbrev yB : a8 := { D := { T := bg, F := [(iG, gC)], R := [], ovl := [] }, inl := [] }
noncomputable abbrev GN : bu := .data pG
theorem GQ (h_ring_turned : ap prog [] iG gC) : XOk prog yB := xok (an (aL aS aE) h_ring_turned) (by kernel_rfl) aN aW aV
noncomputable def yV (l : den (Ty.slc ab)) (no : den ae) : af := af.req True (af.all (den (Ty.pair (Ty.slc ab) (Ty.pair ae Ty.unit))) (fun (q2 : den (Ty.pair (Ty.slc ab) (Ty.pair ae Ty.unit))) ↦ q2 = (Prod.fst (br l no), Prod.snd (br l no), PUnit.unit)) fun (q2 : den (Ty.pair (Ty.slc ab) (Ty.pair ae Ty.unit))) ↦ af.ite (!decide (Prod.fst (Prod.snd q2) = 0)) (af.ret (K.val (Ty.pair ab (Ty.pair ae Ty.unit)) (zero (Ty.pair ae (Ty.pair tId Ty.unit)), Prod.fst (Prod.snd q2), PUnit.unit))) (af.req (inB (IntKind.wrap IntKind.i64 (lnx ab (Prod.fst q2) - 1)) (lnx ab (Prod.fst q2))) (af.ret (K.val (Ty.pair ab (Ty.pair ae Ty.unit)) (el ab (Prod.fst q2) (IntKind.wrap IntKind.i64 (lnx ab (Prod.fst q2) - 1)), 0, PUnit.unit)))))
theorem Ce (l : den (Ty.slc ab)) (no : den ae) : aj yB GN 5000 [] xh (aA rF) (Env.of (aF xk (l, no, ()) 0) []) = yV l no := by kernel_rfl
noncomputable abbrev cW : Fx := { fn := cJ, ann := { } }
noncomputable abbrev cK : Fx := { fn := ax, ann := { }, own := [2] }
noncomputable abbrev cB : Fx := { fn := be, ann := { loops := [(1, { keep := [0, 5, 6, 7] })], frz := [(1000001, [2]), (3000001, [1])] } }
noncomputable abbrev cm : Fx := { fn := bU, ann := { } }
noncomputable abbrev cM : a8 := { D := { T := bg, F := [], R := [(fh, hY)], ovl := [] }, inl := [(mN, cW), (lr, cK), (co, cB)] }
noncomputable abbrev gB : bu := .data gk
theorem ru (h_slices_SortFunc_Member : sm prog [] fh hY) : XOk prog cM := xok ((aL aS aE)) (by kernel_rfl) (Og h_slices_SortFunc_Member aN) (gX t7 (by kernel_rfl) (gX rt (by kernel_rfl) (gX lz (by kernel_rfl) aW))) aV
noncomputable def kM (seq : den (Ty.clo co (Ty.pair (Ty.ref (Ty.slc ab)) Ty.unit))) (cmp : den (Ty.fn (Ty.pair ab (Ty.pair ab Ty.unit)) (Ty.pair ae Ty.unit))) : af := af.loop [{ fx := cK, todo := cF ax 3, dst := none, s := ofS [(2, K.ptr (0 + 1) (Ty.slc ab) [])], rng := some 0 }, { fx := cW, todo := bw cJ 1 1, dst := some 4, s := ofS [] }, { fx := cm, todo := bw bU 1 1, dst := some 7, s := ofS [(1, K.val (Ty.fn (Ty.pair ab (Ty.pair ab Ty.unit)) (Ty.pair ae Ty.unit)) cmp)] }] cB (lp be 1) [(0, K.yld 0), (5, K.val (Ty.slc ab) (Prod.fst seq)), (6, K.val ae (lnx ab (Prod.fst seq))), (7, K.val ae 0)] [(0, Bx.lop LoopState.ready none [(2, K.ptr (0 + 1) (Ty.slc ab) [])] 13 (k9 ax 3) (dC ax 3) (fR ax 3)), (0 + 1, Bx.obj (Ty.slc ab) K.nilsl)]
theorem pq (seq : den (Ty.clo co (Ty.pair (Ty.ref (Ty.slc ab)) Ty.unit))) (cmp : den (Ty.fn (Ty.pair ab (Ty.pair ab Ty.unit)) (Ty.pair ae Ty.unit))) : aj cM gB 5000 [] cm (aA bU) (Env.of (aF jM (seq, cmp, ()) 0) []) = kM seq cmp := by kernel_rfl
noncomputable def gI (w2_1 : den (Ty.fn (Ty.pair ab (Ty.pair ab Ty.unit)) (Ty.pair ae Ty.unit))) (v5 : den (Ty.slc ab)) (v6 : den ae) (v7 : den ae) : List cr := [{ fx := cK, todo := cF ax 3, dst := none, s := ofS [(2, K.ptr (0 + 1) (Ty.slc ab) [])], rng := some 0 }, { fx := cW, todo := bw cJ 1 1, dst := some 4, s := ofS [] }, { fx := cm, todo := bw bU 1 1, dst := some 7, s := ofS [(1, K.val (Ty.fn (Ty.pair ab (Ty.pair ab Ty.unit)) (Ty.pair ae Ty.unit)) w2_1)] }]
noncomputable def gL (w2_1 : den (Ty.fn (Ty.pair ab (Ty.pair ab Ty.unit)) (Ty.pair ae Ty.unit))) (v5 : den (Ty.slc ab)) (v6 : den ae) (v7 : den ae) : Env := Env.of [(0, K.yld 0), (5, K.val (Ty.slc ab) v5), (6, K.val ae v6), (7, K.val ae v7)] [(0, Bx.lop LoopState.ready none [(2, K.ptr (0 + 1) (Ty.slc ab) [])] 13 (k9 ax 3) (dC ax 3) (fR ax 3)), (1, Bx.obj (Ty.slc ab) K.nilsl)]
noncomputable def gF (w2_1 : den (Ty.fn (Ty.pair ab (Ty.pair ab Ty.unit)) (Ty.pair ae Ty.unit))) (v5 : den (Ty.slc ab)) (v6 : den ae) (v7 : den ae) : af := af.ite (decide (v7 < v6)) (af.req (inB v7 (lnx ab v5)) (af.req (List.length (List.set (List.replicate 1 (zero ab)) 0 (el ab v5 v7)) ≤ bV) (af.ite (!true) (af.req (jN ab w2_1 (List.set (List.replicate 1 (zero ab)) 0 (el ab v5 v7))) (af.ret (K.val (Ty.pair (Ty.slc ab) Ty.unit) (ge ab w2_1 (List.set (List.replicate 1 (zero ab)) 0 (el ab v5 v7)), PUnit.unit)))) (af.loop [{ fx := cK, todo := cF ax 3, dst := none, s := ofS [(2, K.ptr (0 + 1) (Ty.slc ab) [])], rng := some 0 }, { fx := cW, todo := bw cJ 1 1, dst := some 4, s := ofS [] }, { fx := cm, todo := bw bU 1 1, dst := some 7, s := ofS [(1, K.val (Ty.fn (Ty.pair ab (Ty.pair ab Ty.unit)) (Ty.pair ae Ty.unit)) w2_1)] }] cB (lp be 1) [(0, K.yld 0), (5, K.val (Ty.slc ab) v5), (6, K.val ae v6), (7, K.val ae (IntKind.wrap IntKind.i64 (v7 + 1)))] [(0, Bx.lop LoopState.ready none [(2, K.ptr (0 + 1) (Ty.slc ab) [])] 13 (k9 ax 3) (dC ax 3) (fR ax 3)), (0 + 1, Bx.obj (Ty.slc ab) (K.sl (0 + 1 + 1) ab)), (0 + 1 + 1, Bx.row ab (List.set (List.replicate 1 (zero ab)) 0 (el ab v5 v7)))])))) (af.req (jN ab w2_1 []) (af.ret (K.val (Ty.pair (Ty.slc ab) Ty.unit) ([], PUnit.unit))))
theorem gc (w2_1 : den (Ty.fn (Ty.pair ab (Ty.pair ab Ty.unit)) (Ty.pair ae Ty.unit))) (v5 : den (Ty.slc ab)) (v6 : den ae) (v7 : den ae) : aj cM gB 5000 (gI w2_1 v5 v6 v7) cB (lp be 1) (gL w2_1 v5 v6 v7) = gF w2_1 v5 v6 v7 := by kernel_rfl
noncomputable def dl (w2_1 : den (Ty.fn (Ty.pair ab (Ty.pair ab Ty.unit)) (Ty.pair ae Ty.unit))) (v5 : den (Ty.slc ab)) (v6 : den ae) (v7 : den ae) (b2 : List (den ab)) : List cr := [{ fx := cK, todo := cF ax 3, dst := none, s := ofS [(2, K.ptr (0 + 1) (Ty.slc ab) [])], rng := some 0 }, { fx := cW, todo := bw cJ 1 1, dst := some 4, s := ofS [] }, { fx := cm, todo := bw bU 1 1, dst := some 7, s := ofS [(1, K.val (Ty.fn (Ty.pair ab (Ty.pair ab Ty.unit)) (Ty.pair ae Ty.unit)) w2_1)] }]
noncomputable def dh (w2_1 : den (Ty.fn (Ty.pair ab (Ty.pair ab Ty.unit)) (Ty.pair ae Ty.unit))) (v5 : den (Ty.slc ab)) (v6 : den ae) (v7 : den ae) (b2 : List (den ab)) : Env := Env.of [(0, K.yld 0), (5, K.val (Ty.slc ab) v5), (6, K.val ae v6), (7, K.val ae v7)] [(0, Bx.lop LoopState.ready none [(2, K.ptr (0 + 1) (Ty.slc ab) [])] 13 (k9 ax 3) (dC ax 3) (fR ax 3)), (1, Bx.obj (Ty.slc ab) (K.sl (0 + 1 + 1) ab)), (2, Bx.row ab b2)]
noncomputable def gl (w2_1 : den (Ty.fn (Ty.pair ab (Ty.pair ab Ty.unit)) (Ty.pair ae Ty.unit))) (v5 : den (Ty.slc ab)) (v6 : den ae) (v7 : den ae) (b2 : List (den ab)) : af := af.ite (decide (v7 < v6)) (af.req (inB v7 (lnx ab v5)) (af.req (List.length (b2 ++ List.set (List.replicate 1 (zero ab)) 0 (el ab v5 v7)) ≤ bV) (af.ite (!true) (af.req (jN ab w2_1 (b2 ++ List.set (List.replicate 1 (zero ab)) 0 (el ab v5 v7))) (af.ret (K.val (Ty.pair (Ty.slc ab) Ty.unit) (ge ab w2_1 (b2 ++ List.set (List.replicate 1 (zero ab)) 0 (el ab v5 v7)), PUnit.unit)))) (af.loop [{ fx := cK, todo := cF ax 3, dst := none, s := ofS [(2, K.ptr (0 + 1) (Ty.slc ab) [])], rng := some 0 }, { fx := cW, todo := bw cJ 1 1, dst := some 4, s := ofS [] }, { fx := cm, todo := bw bU 1 1, dst := some 7, s := ofS [(1, K.val (Ty.fn (Ty.pair ab (Ty.pair ab Ty.unit)) (Ty.pair ae Ty.unit)) w2_1)] }] cB (lp be 1) [(0, K.yld 0), (5, K.val (Ty.slc ab) v5), (6, K.val ae v6), (7, K.val ae (IntKind.wrap IntKind.i64 (v7 + 1)))] [(0, Bx.lop LoopState.ready none [(2, K.ptr (0 + 1) (Ty.slc ab) [])] 13 (k9 ax 3) (dC ax 3) (fR ax 3)), (0 + 1, Bx.obj (Ty.slc ab) (K.sl (0 + 1 + 1) ab)), (0 + 1 + 1, Bx.row ab (b2 ++ List.set (List.replicate 1 (zero ab)) 0 (el ab v5 v7)))])))) (af.req (jN ab w2_1 b2) (af.ret (K.val (Ty.pair (Ty.slc ab) Ty.unit) (ge ab w2_1 b2, PUnit.unit))))
theorem cU (w2_1 : den (Ty.fn (Ty.pair ab (Ty.pair ab Ty.unit)) (Ty.pair ae Ty.unit))) (v5 : den (Ty.slc ab)) (v6 : den ae) (v7 : den ae) (b2 : List (den ab)) : aj cM gB 5000 (dl w2_1 v5 v6 v7 b2) cB (lp be 1) (dh w2_1 v5 v6 v7 b2) = gl w2_1 v5 v6 v7 b2 := by kernel_rfl
end Go.Proofs.Ytimdnodkabnbfaa
namespace Go.Proofs.Ytimdnodkabnbfaa
open Go Go.RowKit
theorem f5 : ap prog [] bH bI :=
 bL (S := bI) (pV lI) (fx := jo) pp (by kernel_rfl) (fun h => by cases h) (T := fun x => jS x.1 x.2.1) (fun x => oz x.1 x.2.1) fun O w0 x _ hp =>
  ⟨hp, _, rfl, by show (decide (0 ≤ ixP (prM x.2.1) x.1 0), ()) = (x.1.any (prM x.2.1), ()); rw [OP]⟩
theorem m9 : ap prog [] dz dA :=
 bL (S := dA) vM (fx := mS) uf (by kernel_rfl) (fun h => by cases h) (T := fun x => m6 x.1) (fun x => sd x.1) fun O w0 x _ _ => ⟨_, rfl, rfl⟩
theorem BC : ap prog [] kV kU :=
 bL (S := kU) (JV GU) (fx := z7) HD (by kernel_rfl) (fun _ _ => trivial) (T := fun x => Bw x.1) (fun x => E8 x.1) fun O w0 x _ _ => ⟨fun _ => trivial, _, rfl, rfl⟩
abbrev GRi (O : Nat → Prop) (w0 : World) (y : Bool) := bG prog l9 (Cx.base O w0) (cG prog O w0 rh fun z => z = (y, ()))
theorem rE : XOk prog l9 := Hl f5 EX
theorem F7 (pre : List Mem) (m : Mem) (l : List Mem) : AL pre (m :: l) = ((!(pre.any fun x => k7 x m)) && decide (0 ≤ m.1) && decide (m.1 < 16) && AL (pre ++ [m]) l) := rfl
theorem HI {e : Ty} (xs : List (den e)) (i : Nat) : dS e xs 0 (i : Nat) = xs.take i := by
 unfold dS kb
 rw [Int.toNat_natCast]
 exact List.drop_zero
def Gu (O : Nat → Prop) (w0 : World) (l : List Mem) (hm : l.length ≤ maxLen) :=
 PLift.up <| bN (σ := Unit) l.length (fun i _ => AL (l.take i) (l.drop i) = AL [] l)
  (fun i _ => GRi O w0 (bv l) [] iM (lp ig 2) (vX l l (lnx ab l) (i : Nat)))
  (fun i _ hi hs ih => aM rE (qE l l _ _) (by
   rw [List.drop_eq_getElem_cons hi, F7, ← List.take_succ_eq_append_getElem hi] at hs
   have hi' : i ≤ l.length := Nat.le_of_lt hi
   refine ⟨fun _ => ⟨bf hi, ⟨Int.le_refl _, Int.natCast_nonneg _, Int.ofNat_le.2 hi'⟩, fun _ => trivial, ⟨_, rfl⟩, ?_⟩, fun hc => absurd hi (by rw [cL] at hc; exact of_decide_eq_false hc)⟩
   rw [bS hi, cN hi hm, HI]
   have e1 : ∀ xs : List Mem, (xs.any (prM (some fun y => (k7 y.1 l[i], PUnit.unit)))) = xs.any fun x => k7 x l[i] := fun xs => rfl
   refine ⟨fun hc => ⟨_, rfl, ?_⟩, fun hc => ih () ?_⟩
   ·rw [e1] at hc
    show (false, ()) = (bv l, ())
    have : AL [] l = false := by
     rw [← hs]
     cases h1 : (l.take i).any (fun x => k7 x l[i]) with
     | true => rfl
     | false =>
      rw [h1] at hc
      by_cases h2 : (l[i].1 : Int) < 0
      ·rw [decide_eq_false (show ¬ (0 : Int) ≤ l[i].1 from fun h => absurd h2 (Int.not_lt.2 h))]; rfl
      ·rw [decide_eq_false h2] at hc
       have h3 : (16 : Int) ≤ l[i].1 := of_decide_eq_true hc
       rw [decide_eq_false (show ¬ (l[i].1 : Int) < 16 from Int.not_lt.2 h3)]
       cases decide (0 ≤ l[i].1) <;> rfl
    unfold bv
    rw [this]
    rfl
   ·rw [e1] at hc
    rw [← hs]
    cases h1 : (l.take i).any (fun x => k7 x l[i]) with
    | true => rw [h1] at hc; cases hc
    | false =>
     rw [h1] at hc
     by_cases h2 : (l[i].1 : Int) < 0
     ·rw [decide_eq_true h2] at hc; cases hc
     ·rw [decide_eq_false h2] at hc
      have h3 : ¬ (16 : Int) ≤ l[i].1 := of_decide_eq_false hc
      rw [decide_eq_true (show (0 : Int) ≤ l[i].1 from Int.not_lt.1 h2), decide_eq_true (show (l[i].1 : Int) < 16 from Int.not_le.1 h3)]
      rfl))
  (fun _ hs => aM rE (qE l l _ _) (by
   refine ⟨fun hc => absurd (of_decide_eq_true hc) (Int.lt_irrefl _), fun _ => ⟨_, rfl, ?_⟩⟩
   rw [List.drop_length] at hs
   show (decide ((l.length : Int) ≤ 16), ()) = (bv l, ())
   unfold bv
   rw [← hs]
   have : decide ((l.length : Int) ≤ 16) = decide (l.length ≤ 16) := decide_eq_decide.2 (by omega)
   rw [this]
   rfl))
theorem tW : ap prog [] gf gi :=
 bL (S := gi) rE (fx := iM) Gr (by kernel_rfl) (fun _ _ => trivial) (T := fun x => Az x.1) (fun x => Eo x.1) fun O w0 x hk _ =>
  (Gu O w0 x.1 hk.1.1).down 0 () (Nat.zero_le _) rfl
theorem I8 (b : List Mem) (x : Mem) : b ++ List.set (List.replicate 1 (zero ab)) 0 x = b ++ [x] := rfl
abbrev GSo (O : Nat → Prop) (w0 : World) (y : List Mem) := bG prog cM (Cx.base O w0) (cG prog O w0 gk fun z => z = (y, ()))
theorem nA : XOk prog cM := ru qU
def GH (O : Nat → Prop) (w0 : World) (xs : List Mem) (f : den (uS ab)) (hp : jN ab f xs) :=
 PLift.up <| bN (σ := List Mem) xs.length (fun i b => b = xs.take i)
  (fun i b => GSo O w0 (ge ab f xs) (dl f xs (lnx ab xs) (i : Nat) b) cB (lp be 1) (dh f xs (lnx ab xs) (i : Nat) b))
  (fun i b hi hb ih => aM nA (cU f xs _ _ b) (by
   have hlen := hp.len
   refine ⟨fun _ => ⟨bf hi, ?_⟩, fun hc => absurd hi (by rw [cL] at hc; exact of_decide_eq_false hc)⟩
   rw [bS hi, cN hi (by omega), I8, hb, ← List.take_succ_eq_append_getElem hi]
   have hl : (xs.take (i + 1)).length ≤ 1000000 := by rw [List.length_take]; omega
   refine ⟨Nat.le_trans hl (by decide), (fun hc => by cases hc), fun _ => ih _ rfl⟩))
  (fun b hb => aM nA (cU f xs _ _ b) (by
   rw [List.take_length] at hb
   subst hb
   exact ⟨fun hc => absurd (of_decide_eq_true hc) (Int.lt_irrefl _), fun _ => ⟨hp, _, rfl, rfl⟩⟩))
theorem rB : ap prog [] eD eE :=
 bL (S := eE) nA (fx := cm) qz (by kernel_rfl) (fun h => by cases h) (T := fun x => kM x.1 x.2.1) (fun x => pq x.1 x.2.1) fun O w0 x _ hp => by
  obtain ⟨⟨xs, ⟨⟩⟩, f, ⟨⟩⟩ := x
  have hp : jN ab f xs := hp
  have hlen := hp.len
  refine aM nA (gc f xs (lnx ab xs) 0) ?_
  refine ⟨fun hc => ?_, fun hc => ?_⟩
  ·have h0 : 0 < xs.length := Int.ofNat_lt.1 (of_decide_eq_true hc)
   refine ⟨bf (i := 0) h0, ?_⟩
   rw [show (0 : Int) = ((0 : Nat) : Int) from rfl, bS h0, cN h0 (by omega)]
   refine ⟨show 1 ≤ bV by decide, (fun hc => by cases hc), fun _ => ?_⟩
   refine (GH O w0 xs f hp).down 1 _ h0 ?_
   rw [List.take_succ_eq_append_getElem h0]
   rfl
  ·have h0 : xs = [] := List.eq_nil_of_length_eq_zero (by have := of_decide_eq_false hc; have h2 : ¬ (0 : Int) < (xs.length : Int) := this; omega)
   subst h0
   refine ⟨hp, _, rfl, ?_⟩
   show (([] : List Mem), ()) = (List.mergeSort [] _, ())
   rw [List.mergeSort_nil]
end Go.Proofs.Ytimdnodkabnbfaa
namespace Go.Proofs.Ytimdnodkabnbfaa
open Go Go.RowKit
abbrev ce (m : Mem) : Int := vB m.2.1
abbrev OkM (l : List Mem) : Prop := ∀ m ∈ l, okT ab m
theorem ff {m : Mem} (h : okT ab m) : f9 m.2.1 := Km h.2.1
theorem FZ : ∀ (l pre : List Mem), AL pre l = true → (∀ m ∈ l, 0 ≤ (m.1 : Int) ∧ (m.1 : Int) < 16) ∧ (∀ m ∈ l, ∀ x ∈ pre, k7 x m = false) ∧ l.Pairwise fun x m => k7 x m = false
 | [], _, _ => ⟨fun _ h => (by cases h), fun _ h => (by cases h), List.Pairwise.nil⟩
 | m :: l, pre, h => by
  rw [F7] at h
  simp only [Bool.and_eq_true, Bool.not_eq_true', decide_eq_true_eq] at h
  obtain ⟨⟨⟨h1, h2⟩, h3⟩, h4⟩ := h
  obtain ⟨i1, i2, i3⟩ := FZ l (pre ++ [m]) h4
  have h1 : ∀ x ∈ pre, k7 x m = false := fun x hx => by
   have := List.any_eq_false.1 h1 x hx
   simpa using this
  refine ⟨fun z hz => ?_, fun z hz x hx => ?_, List.pairwise_cons.2 ⟨fun z hz => i2 z hz m (List.mem_append.2 (.inr List.mem_cons_self)), i3⟩⟩
  ·rcases List.mem_cons.1 hz with rfl | hz
   ·exact ⟨h2, h3⟩
   ·exact i1 z hz
  ·rcases List.mem_cons.1 hz with rfl | hz
   ·exact h1 x hx
   ·exact i2 z hz x (List.mem_append.2 (.inl hx))
theorem Fy {x m : Mem} (h : x.1 = m.1) : k7 x m = true := by unfold k7; rw [decide_eq_true h]; rfl
theorem Kk {x m : Mem} (h : x.2.1 = m.2.1) : k7 x m = true := by
 unfold k7
 have : eqb tId x.2.1 m.2.1 = true := (n8 (t := tId) rfl _ _).2 h
 rw [this]
 cases decide (x.1 = m.1) <;> rfl
structure RR (l : List Mem) : Prop where
 len : l.length ≤ 16
 no : ∀ m ∈ l, 0 ≤ (m.1 : Int) ∧ (m.1 : Int) < 16
 pw : l.Pairwise fun x m => k7 x m = false
theorem fJ {l : List Mem} (h : bv l = true) : RR l := by
 unfold bv at h
 simp only [Bool.and_eq_true, decide_eq_true_eq] at h
 obtain ⟨h1, h2⟩ := h
 obtain ⟨i1, _, i3⟩ := FZ l [] h1
 exact ⟨h2, i1, i3⟩
theorem RR.at {l : List Mem} (h : RR l) {i j : Nat} (hij : i < j) (hj : j < l.length) : k7 l[i] l[j] = false := List.pairwise_iff_getElem.1 h.pw i j (by omega) hj hij
theorem RR.inj {l : List Mem} (h : RR l) {x y : Mem} (hx : x ∈ l) (hy : y ∈ l) (e : x.1 = y.1 ∨ x.2.1 = y.2.1) : x = y := by
 obtain ⟨i, hi, rfl⟩ := List.getElem_of_mem hx
 obtain ⟨j, hj, rfl⟩ := List.getElem_of_mem hy
 rcases Nat.lt_trichotomy i j with h1 | h1 | h1
 ·have := h.at h1 hj
  rcases e with e | e
  ·rw [Fy e] at this; cases this
  ·rw [Kk e] at this; cases this
 ·subst h1; rfl
 ·have := h.at h1 hi
  rcases e with e | e
  ·rw [Fy e.symm] at this; cases this
  ·rw [Kk e.symm] at this; cases this
theorem RR.nodup {l : List Mem} (h : RR l) : l.Nodup := List.Pairwise.imp (fun {x m} hf e => by rw [e, Fy rfl] at hf; cases hf) h.pw
theorem RR.rng {l : List Mem} (h : RR l) (hk : OkM l) : HS ce aT l :=
 ⟨fun m hm => ly (ff (hk m hm)), fun x hx y hy e => h.inj hx hy (.inr (AB (by rw [(ff (hk x hx)).1, (ff (hk y hy)).1]) (ff (hk x hx)).2 (ff (hk y hy)).2 e))⟩
theorem oc {a b : List Int} (ha : f9 a) (hb : f9 b) : vB (a7 a b) = rky aT (vB a) (vB b) := DV ha hb
theorem OY (id : List Int) (x y : Mem) : cfD ab (c5 id) x y = gO (a7 id x.2.1) (a7 id y.2.1) := rfl
theorem vW (id : List Int) (x y : Mem) : ltD ab (c5 id) x y = decide (vB (a7 id x.2.1) < vB (a7 id y.2.1)) := by
 unfold ltD
 rw [OY]
 exact decide_eq_decide.2 Dk
theorem Oq {l : List Mem} (h : RR l) (hk : OkM l) {id : List Int} (hid : f9 id) : jN ab (c5 id) l := by
 refine ⟨⟨_, rfl⟩, ⟨fun x => ?_, fun x y z h1 h2 => ?_, fun x y z h1 h2 => ?_⟩, fun x hx y hy h1 h2 => ?_, Nat.le_trans h.len (by decide)⟩
 ·rw [vW]; exact decide_eq_false (Int.lt_irrefl _)
 ·rw [vW] at *; exact decide_eq_true (Int.lt_trans (of_decide_eq_true h1) (of_decide_eq_true h2))
 ·rw [vW] at *
  have h1 := of_decide_eq_false h1
  have h2 := of_decide_eq_false h2
  exact decide_eq_false (by omega)
 ·rw [vW] at *
  have h1 := of_decide_eq_false h1
  have h2 := of_decide_eq_false h2
  have e : vB (a7 id x.2.1) = vB (a7 id y.2.1) := by omega
  rw [oc hid (ff (hk x hx)), oc hid (ff (hk y hy))] at e
  exact (h.rng hk).inj x hx y hy (Do (ly hid) ((h.rng hk).in' x hx) ((h.rng hk).in' y hy) e)
theorem NM {l : List Mem} (h : RR l) (hk : OkM l) {id : List Int} (hid : f9 id) : nR ce aT (vB id) l (ge ab (c5 id) l) ∧ (ge ab (c5 id) l).length = l.length := by
 have hl : (ge ab (c5 id) l).length = l.length := List.length_mergeSort ..
 have hmem : ∀ x, x ∈ ge ab (c5 id) l ↔ x ∈ l := fun x => List.mem_mergeSort
 refine ⟨⟨hmem, ?_⟩, hl⟩
 have hle : ∀ x y : Mem, (!ltD ab (c5 id) y x) = true ↔ vB (a7 id x.2.1) ≤ vB (a7 id y.2.1) := fun x y => by
  rw [vW, Bool.not_eq_true', decide_eq_false_iff_not]
  omega
 have hs := List.pairwise_mergeSort (le := fun x y => !ltD ab (c5 id) y x) (fun a b c h1 h2 => (hle a c).2 (Int.le_trans ((hle a b).1 h1) ((hle b c).1 h2))) (fun a b => by
  rw [Bool.or_eq_true, hle, hle]
  exact Int.le_total _ _) l
 have hnd : (ge ab (c5 id) l).Nodup := (List.mergeSort_perm l _).nodup_iff.2 h.nodup
 refine List.pairwise_iff_getElem.2 fun i j hi hj hij => ?_
 have h1 := (hle _ _).1 (List.pairwise_iff_getElem.1 hs i j hi hj hij)
 have mi := (hmem _).1 (List.getElem_mem hi)
 have mj := (hmem _).1 (List.getElem_mem hj)
 have k1 := oc hid (ff (hk _ mi))
 have k2 := oc hid (ff (hk _ mj))
 show rky aT (vB id) (vB (ge ab (c5 id) l)[i].2.1) < rky aT (vB id) (vB (ge ab (c5 id) l)[j].2.1)
 rw [← k1, ← k2]
 refine Int.lt_iff_le_and_ne.2 ⟨h1, fun e => ?_⟩
 rw [k1, k2] at e
 have := (h.rng hk).inj _ mi _ mj (Do (ly hid) ((h.rng hk).in' _ mi) ((h.rng hk).in' _ mj) e)
 exact List.pairwise_iff_getElem.1 hnd i j hi hj hij this
theorem Il : ap prog [] o5 lY :=
 bL (S := lY) (Hg tW BC uh) (fx := yP) GV (by kernel_rfl) (fun _ _ => trivial) (T := fun x => zh x.1 x.2.1) (fun x => Dy x.1 x.2.1) fun O w0 x _ _ => by
  obtain ⟨l, id, ⟨⟩⟩ := x
  have leaf : ∀ {p : Mem × Int}, gq l id = p → ∃ z, bt rG (K.val (Ty.pair ab (Ty.pair ae Ty.unit)) (p.1, p.2, ())) = some z ∧ z = lY.g (l, id, ()) := fun {p} e =>
   ⟨_, rfl, by show (p.1, p.2, ()) = ((gq l id).1, (gq l id).2, ()); rw [e]⟩
  refine ⟨trivial, fun h => leaf (p := (_, _)) ?_, fun h => ⟨fun h2 => leaf (p := (_, _)) ?_, fun h2 => ⟨trivial, ⟨⟨_, rfl⟩, ?_⟩, leaf (p := (_, _)) ?_⟩⟩⟩
  ·unfold gq; rw [h]; rfl
  ·unfold gq; rw [h, h2]; rfl
  ·have h2 : ¬ ((List.length l : Nat) : Int) = 0 := of_decide_eq_false h2
   exact Nat.pos_of_ne_zero fun e => h2 (by rw [e]; rfl)
  ·unfold gq; rw [h, h2]; rfl
theorem CL {l : List Mem} {no : Int} (h : ¬ mX l no < 0) : ∃ k : Nat, ∃ hk : k < l.length, mX l no = (k : Int) ∧ l[k].1 = no := by
 have ha : l.any (fun m => decide (m.1 = no)) = true := by
  cases e : l.any (fun m => decide (m.1 = no)) with
  | true => rfl
  | false => exact absurd (by unfold mX; rw [(vd _ l 0 (Int.le_refl _)).2 e]; decide) h
 obtain ⟨k, hk, e1, e2⟩ := Nr _ l 0 ha
 exact ⟨k, hk, by unfold mX; rw [e1]; omega, of_decide_eq_true e2⟩
theorem nI : ap prog [] iG gC :=
 bL (S := gC) (G2 tW lI D1 m9 BC rB) (fx := wP) ER (by kernel_rfl) (fun _ _ => trivial) (T := fun x => yk x.1 x.2.1) (fun x => Cp x.1 x.2.1) fun O w0 x hk _ => by
  obtain ⟨l, no, ⟨⟩⟩ := x
  have leaf : ∀ {p : List Mem × Int}, br l no = p → ∃ z, bt pP (K.val (Ty.pair (Ty.slc ab) (Ty.pair ae Ty.unit)) (p.1, p.2, ())) = some z ∧ z = gC.g (l, no, ()) := fun {p} e =>
   ⟨_, rfl, by show (p.1, p.2, ()) = ((br l no).1, (br l no).2, ()); rw [e]⟩
  refine ⟨trivial, fun h => leaf (p := (_, _)) ?_, fun h => ⟨fun _ => trivial, ⟨_, rfl⟩, fun h2 => leaf (p := (_, _)) ?_, fun h2 => ?_⟩⟩
  ·unfold br; rw [h]; rfl
  ·have h2 : decide (mX l no < 0) = true := h2
   unfold br; rw [h, h2]; rfl
  ·have h2 : decide (mX l no < 0) = false := h2
   obtain ⟨k, hkl, e1, e2⟩ := CL (of_decide_eq_false h2)
   have hin : inB (mX l no) (lnx ab l) := by rw [e1]; exact bf hkl
   have hel : el ab l (mX l no) = l[k] := by rw [e1]; exact bS hkl
   refine ⟨trivial, hin, trivial, ?_, leaf (p := (_, _)) ?_⟩
   ·show jN ab (c5 (el ab l (mX l no)).2.1) l
    rw [hel]
    exact Oq (fJ (by simpa using h)) hk.1.2 (ff (hk.1.2 _ (List.getElem_mem hkl)))
   ·unfold br; rw [h, h2]; rfl
theorem Er {l : List Mem} {no : Int} (h : (br l no).2 = 0) : (br l no).1.length = l.length ∧ 0 < l.length ∧ bv l = true ∧ ¬ mX l no < 0 := by
 unfold br at h ⊢
 cases hr : bv l with
 | false => rw [hr] at h; cases h
 | true =>
  rw [hr] at h
  by_cases h2 : mX l no < 0
  ·rw [decide_eq_true h2] at h; cases h
  ·rw [decide_eq_false h2]
   obtain ⟨k, hk, _⟩ := CL h2
   exact ⟨List.length_mergeSort .., by omega, rfl, h2⟩
abbrev GAf (O : Nat → Prop) (w0 : World) (y : List Mem) := bG prog pg (Cx.base O w0) (cG prog O w0 kO fun z => z = (y, 0, ()))
def GB (O : Nat → Prop) (w0 : World) (all : List Mem) (n : Nat) (h0 : 0 < all.length) (hl : all.length ≤ 1000000) (hn : n ≤ 16) :=
 PLift.up <| bN (σ := List Mem) n (fun i b => b = vr all i ∧ b.length = i)
  (fun i b => GAf O w0 (vr all n) [] iI (lp ic 8) (wJ all (n : Int) (i : Nat) b))
  (fun i b hi hb ih => aM (s8 nI) (qF all _ _ b) (by
   obtain ⟨h1, h2⟩ := hb
   have hlen : lnx ab all = (all.length : Int) := rfl
   have e1 : IntKind.wrap .i64 ((i : Int) + 1) = (i : Int) + 1 := cP (by omega)
   have hm : 0 ≤ Int.tmod ((i : Int) + 1) all.length ∧ Int.tmod ((i : Int) + 1) all.length < all.length := ⟨Int.tmod_nonneg _ (by omega), Int.tmod_lt_of_pos _ (by omega)⟩
   refine ⟨fun _ => ?_, fun hc => absurd (Int.ofNat_lt.2 hi) (of_decide_eq_false hc)⟩
   rw [e1, hlen, I8]
   refine ⟨(show (all.length : Int) ≠ 0 by omega), hm, ?_, ?_⟩
   ·rw [List.length_append, h2]
    exact show i + 1 ≤ 1073741824 by omega
   ·rw [show (i : Int) + 1 = ((i + 1 : Nat) : Int) by omega]
    refine ih _ ⟨?_, by rw [List.length_append, h2]; rfl⟩
    rw [h1]
    rfl))
  (fun b hb => aM (s8 nI) (qF all _ _ b) ⟨fun hc => absurd (of_decide_eq_true hc) (Int.lt_irrefl _), fun _ => ⟨_, rfl, by rw [hb.1]⟩⟩)
theorem IV : ap prog [] o6 md :=
 bL (S := md) (s8 nI) (fx := iI) GO (by kernel_rfl) (fun _ _ => trivial) (T := fun x => zI x.1 x.2.1 x.2.2.1) (fun x => DW x.1 x.2.1 x.2.2.1) fun O w0 x hk _ => by
  obtain ⟨l, no, many, ⟨⟩⟩ := x
  have leaf : ∀ {p : List Mem × Int}, eQ l no many = p → ∃ z, bt kO (K.val (Ty.pair (Ty.slc ab) (Ty.pair ae Ty.unit)) (p.1, p.2, ())) = some z ∧ z = md.g (l, no, many, ()) := fun {p} e =>
   ⟨_, rfl, by show (p.1, p.2, ()) = ((eQ l no many).1, (eQ l no many).2, ()); rw [e]⟩
  refine ⟨fun h => leaf (p := (_, _)) ?_, fun h => ⟨trivial, bn ⟨fun h2 => leaf (p := (_, _)) ?_, fun h2 => ?_⟩⟩⟩
  ·unfold eQ; rw [h]; rfl
  ·have h2 : (!decide ((br l no).2 = 0)) = true := h2
   unfold eQ; rw [h, h2]; rfl
  ·have h2 : (!decide ((br l no).2 = 0)) = false := h2
   have h3 : (br l no).2 = 0 := by simpa using h2
   obtain ⟨t1, t2, t3, _⟩ := Er h3
   have hln := (fJ t3).len
   have hmany : 0 ≤ (many : Int) ∧ (many : Int) ≤ 16 := by
    by_cases h4 : many < (0 : Int)
    ·rw [decide_eq_true h4] at h; cases h
    ·rw [decide_eq_false h4] at h
     have h5 : ¬ (16 : Int) < many := of_decide_eq_false h
     exact ⟨Int.not_lt.1 h4, Int.not_lt.1 h5⟩
   obtain ⟨n, hn⟩ : ∃ n : Nat, (n : Int) = many := ⟨Int.toNat many, Int.toNat_of_nonneg hmany.1⟩
   subst hn
   have e : eQ l no (n : Int) = (vr (br l no).1 n, 0) := by unfold eQ; rw [h, h2]; rfl
   show bG _ _ _ (cG prog O w0 kO fun z => z = ((eQ l no (n : Int)).1, (eQ l no (n : Int)).2, ())) _ _ _ _
   rw [e]
   exact (GB O w0 (br l no).1 n (by omega) (by omega) (Int.ofNat_le.1 hmany.2)).down 0 [] (Nat.zero_le _) ⟨rfl, rfl⟩
theorem GI : ap prog [] nE kE :=
 bL (S := kE) (GQ nI) (fx := xh) EU (by kernel_rfl) (fun _ _ => trivial) (T := fun x => yV x.1 x.2.1) (fun x => Ce x.1 x.2.1) fun O w0 x hk _ => by
  obtain ⟨l, no, ⟨⟩⟩ := x
  have leaf : ∀ {p : Mem × Int}, fe l no = p → ∃ z, bt pG (K.val (Ty.pair ab (Ty.pair ae Ty.unit)) (p.1, p.2, ())) = some z ∧ z = kE.g (l, no, ()) := fun {p} e =>
   ⟨_, rfl, by show (p.1, p.2, ()) = ((fe l no).1, (fe l no).2, ()); rw [e]⟩
  refine ⟨trivial, bn ⟨fun h2 => leaf (p := (_, _)) ?_, fun h2 => ?_⟩⟩
  ·have h2 : (!decide ((br l no).2 = 0)) = true := h2
   unfold fe; rw [h2]; rfl
  ·have h2 : (!decide ((br l no).2 = 0)) = false := h2
   have h3 : (br l no).2 = 0 := by simpa using h2
   obtain ⟨t1, t2, t3, _⟩ := Er h3
   have hln := (fJ t3).len
   have e1 : lnx ab (br l no).1 = ((br l no).1.length : Int) := rfl
   have e2 : IntKind.wrap .i64 (lnx ab (br l no).1 - 1) = ((br l no).1.length : Int) - 1 := by rw [e1]; exact cP (by omega)
   rw [e2]
   refine ⟨⟨by omega, by rw [e1]; omega⟩, leaf (p := (_, _)) ?_⟩
   unfold fe; rw [h2]; rfl
end Go.Proofs.Ytimdnodkabnbfaa
namespace Go.Proofs.Ytimdnodkabnbfaa
open Go Go.RowKit
section
variable {l : List Mem}
theorem MF (hk : OkM l) {id : List Int} (hid : f9 id) {x : Mem} (hx : x ∈ l) (h : ∀ y ∈ l, vB (a7 id x.2.1) ≤ vB (a7 id y.2.1)) : fG ce aT (vB id) l x :=
 ⟨hx, fun y hy => by
  have := h y hy
  rw [oc hid (ff (hk x hx)), oc hid (ff (hk y hy))] at this
  exact this⟩
theorem H2 (id : List Int) : ∀ (t : List Mem) (b : Mem), xY (cmM (c5 id)) b t = mA (fun m => vB (a7 id m.2.1)) b t
 | [], _ => rfl
 | x :: t, b => by
  have e : (cmM (c5 id) x b < 0) = (vB (a7 id x.2.1) < vB (a7 id b.2.1)) := propext (Dk (a := a7 id x.2.1) (b := a7 id b.2.1))
  show xY (cmM (c5 id)) (if cmM (c5 id) x b < 0 then x else b) t = mA (fun m => vB (a7 id m.2.1)) (if vB (a7 id x.2.1) < vB (a7 id b.2.1) then x else b) t
  simp only [e]
  exact H2 id t _
theorem xv {k : Mem → Int} {b : Mem} {t : List Mem} : mA k b t ∈ b :: t ∧ ∀ y ∈ b :: t, k (mA k b t) ≤ k y := by
 obtain ⟨h1, h2, h3⟩ := x8 k t b
 refine ⟨h1, fun y hy => ?_⟩
 rcases List.mem_cons.1 hy with rfl | hy
 ·exact h2
 ·exact h3 y hy
theorem LC (hr : bv l = true) (hk : OkM l) (h0 : 0 < l.length) {id : List Int} (hid : f9 id) : ∃ o, gq l id = (o, 0) ∧ fG ce aT (vB id) l o := by
 refine ⟨HA (cmM (c5 id)) l, ?_, ?_⟩
 ·unfold gq
  rw [hr, decide_eq_false (show ¬ (lnx ab l = 0) from fun h => by have h : (l.length : Int) = 0 := h; omega)]
  rfl
 ·cases l with
  | nil => cases h0
  | cons b t =>
   show fG ce aT (vB id) (b :: t) (xY (cmM (c5 id)) b t)
   rw [H2]
   exact MF hk hid xv.1 xv.2
theorem FW (id : List Int) : ∀ (t : List Mem) (b : Mem), 0 ≤ (b.1 : Int) → (∀ x ∈ t, 0 ≤ (x.1 : Int)) → t.foldl (vg id) b = mA (fun m => vB (a7 id m.2.1)) b t
 | [], _, _, _ => rfl
 | x :: t, b, hb, ht => by
  have hx := ht x List.mem_cons_self
  have e : vg id b x = if vB (a7 id x.2.1) < vB (a7 id b.2.1) then x else b := by
   unfold vg
   rw [decide_eq_false (Int.not_lt.2 hb), cond_false]
   by_cases h : vB (a7 id x.2.1) < vB (a7 id b.2.1)
   ·rw [decide_eq_true (Dk.2 h), if_pos h]; rfl
   ·rw [decide_eq_false (fun h' => h (Dk.1 h')), if_neg h]; rfl
  show t.foldl (vg id) (vg id b x) = mA (fun m => vB (a7 id m.2.1)) (if vB (a7 id x.2.1) < vB (a7 id b.2.1) then x else b) t
  rw [e]
  refine FW id t _ ?_ fun y hy => ht y (List.mem_cons_of_mem _ hy)
  split
  ·exact hx
  ·exact hb
theorem Ni (hr : bv l = true) (hk : OkM l) (h0 : 0 < l.length) {id : List Int} (hid : f9 id) : fG ce aT (vB id) l (Ik l id) := by
 have hno := (fJ hr).no
 cases l with
 | nil => cases h0
 | cons b t =>
  have e : Ik (b :: t) id = mA (fun m => vB (a7 id m.2.1)) b t := by
   show t.foldl (vg id) (vg id noM b) = _
   have : vg id noM b = b := by unfold vg; rfl
   rw [this]
   exact FW id t b (hno b List.mem_cons_self).1 fun x hx => (hno x (List.mem_cons_of_mem _ hx)).1
  rw [e]
  exact MF hk hid xv.1 xv.2
theorem OZ {a : List Int} (ha : f9 a) : f9 (He a pw0) ∧ vB (He a pw0) = rup aT (vB a) := by
 have hr := ly ha
 have hs := xW 32 (v := (vB a + vB pw0) % aT) (Int.emod_nonneg _ (by decide)) (Int.emod_lt_of_pos _ (by decide))
 refine ⟨⟨ss _ _, hs.1⟩, ?_⟩
 unfold He
 rw [hs.2, PN]
 unfold rup
 split
 ·rename_i h; rw [h, Int.emod_self]
 ·exact Int.emod_eq_of_lt (by omega) (by omega)
theorem sv (hr : bv l = true) (hk : OkM l) {m : Mem} (hm : m ∈ l) : fG ce aT (rup aT (ce m)) l (bX l m) := by
 have h0 : 0 < l.length := List.length_pos_of_mem hm
 obtain ⟨a1, a2⟩ := OZ (ff (hk m hm))
 have := Ni hr hk h0 a1
 rw [a2] at this
 exact this
theorem PY (hr : bv l = true) {m : Mem} (hm : m ∈ l) : ¬ mX l m.1 < 0 ∧ ∃ k : Nat, ∃ hk : k < l.length, mX l m.1 = (k : Int) ∧ l[k] = m := by
 have ha : l.any (fun x => decide (x.1 = m.1)) = true := List.any_eq_true.2 ⟨m, hm, decide_eq_true rfl⟩
 have h0 := (vd (fun x => decide (x.1 = m.1)) l 0 (Int.le_refl _)).1 ha
 have hn : ¬ mX l m.1 < 0 := Int.not_lt.2 h0.1
 obtain ⟨k, hk, e1, e2⟩ := CL hn
 exact ⟨hn, k, hk, e1, (fJ hr).inj (List.getElem_mem hk) hm (.inl e2)⟩
def srt (l : List Mem) (m : Mem) : List Mem := ge ab (c5 m.2.1) l
theorem BN (hr : bv l = true) {m : Mem} (hm : m ∈ l) : br l m.1 = (srt l m, 0) := by
 obtain ⟨h1, k, hk, e1, e2⟩ := PY hr hm
 unfold br
 rw [hr, decide_eq_false h1, e1, bS hk, e2]
 rfl
theorem xQ (hr : bv l = true) (hk : OkM l) {m : Mem} (hm : m ∈ l) : nR ce aT (ce m) l (srt l m) ∧ (srt l m).length = l.length := NM (fJ hr) hk (ff (hk m hm))
theorem IH (hr : bv l = true) (hk : OkM l) {m : Mem} (hm : m ∈ l) (h : 0 < (srt l m).length) : (srt l m)[0] = m := nR.self ((fJ hr).rng hk) hm (xQ hr hk hm).1 h
theorem Jw (hr : bv l = true) (hk : OkM l) {m : Mem} (hm : m ∈ l) : ∃ h : (srt l m).length - 1 < (srt l m).length, fe l m.1 = ((srt l m)[(srt l m).length - 1], 0) := by
 have hl := (xQ hr hk hm).2
 have h0 : 0 < l.length := List.length_pos_of_mem hm
 have hlt : (srt l m).length - 1 < (srt l m).length := by omega
 refine ⟨hlt, ?_⟩
 unfold fe
 rw [BN hr hm]
 show (el ab (srt l m) (((srt l m).length : Int) - 1), (0 : Int)) = _
 rw [show ((srt l m).length : Int) - 1 = (((srt l m).length - 1 : Nat) : Int) by omega, bS hlt]
theorem K3 (hr : bv l = true) {m : Mem} (hm : m ∈ l) {n : Nat} (hn : n ≤ 16) : eQ l m.1 (n : Int) = (vr (srt l m) n, 0) := by
 unfold eQ
 rw [BN hr hm, decide_eq_false (show ¬ ((n : Nat) : Int) < 0 by omega), decide_eq_false (show ¬ (16 : Int) < ((n : Nat) : Int) by omega)]
 rfl
theorem PU {s : List Mem} (h0 : 0 < s.length) (i : Nat) : el ab s (Int.tmod ((i : Int) + 1) s.length) = s[(i + 1) % s.length]'(Nat.mod_lt _ h0) := by
 have e : Int.tmod ((i : Int) + 1) s.length = (((i + 1) % s.length : Nat) : Int) := by
  rw [show (i : Int) + 1 = ((i + 1 : Nat) : Int) by omega]
  exact (Int.ofNat_tmod _ _).symm
 rw [e, bS (Nat.mod_lt _ h0)]
theorem Kh (hr : bv l = true) (hk : OkM l) {a : Int} (ha : 0 ≤ a ∧ a < aT) {s : List Mem} (hs : nR ce aT a l s) {i : Nat} (hi : i < s.length) : bX l s[i] = s[(i + 1) % s.length]'(Nat.mod_lt _ (by omega)) := by
 have hm : s[i] ∈ l := (hs.mem _).1 (List.getElem_mem hi)
 have hrng := (fJ hr).rng hk
 exact fG.uniq hrng (Mw (hrng.in' _ hm)) (sv hr hk hm) (hs.next hrng ha hi)
theorem D8 (hr : bv l = true) (hk : OkM l) {a : Int} (ha : 0 ≤ a ∧ a < aT) {s : List Mem} (hs : nR ce aT a l s) (h0 : 0 < s.length) : ∀ i : Nat, k6 l s[0] i = (vr s i, s[i % s.length]'(Nat.mod_lt _ h0))
 | 0 => by
  show ([], s[0]) = ([], s[0 % s.length]'(Nat.mod_lt _ h0))
  simp only [Nat.zero_mod]
 | i + 1 => by
  have ih := D8 hr hk ha hs h0 i
  have hn := Kh hr hk ha hs (Nat.mod_lt i h0)
  have e : (i % s.length + 1) % s.length = (i + 1) % s.length := by rw [Nat.mod_add_mod]
  simp only [e] at hn
  show ((k6 l s[0] i).1 ++ [bX l (k6 l s[0] i).2], bX l (k6 l s[0] i).2) = (vr s i ++ [el ab s (Int.tmod ((i : Int) + 1) s.length)], _)
  rw [ih]
  show (vr s i ++ [bX l (s[i % s.length]'(Nat.mod_lt _ h0))], bX l (s[i % s.length]'(Nat.mod_lt _ h0))) = _
  rw [hn, PU h0]
theorem ML (hr : bv l = true) (hk : OkM l) {m : Mem} (hm : m ∈ l) (n : Nat) : (k6 l m n).1 = vr (srt l m) n := by
 obtain ⟨h1, h2⟩ := xQ hr hk hm
 have h0 : 0 < (srt l m).length := by rw [h2]; exact List.length_pos_of_mem hm
 have := D8 hr hk (((fJ hr).rng hk).in' m hm) h1 h0 n
 rw [IH hr hk hm h0] at this
 rw [this]
end
end Go.Proofs.Ytimdnodkabnbfaa
namespace Go.Proofs.Ytimdnodkabnbfaa
open Go Go.RowKit
section
variable {l : List Mem}
theorem RR.sub {l l' : List Mem} (h : RR l) (hs : l'.Sublist l) : RR l' := ⟨Nat.le_trans hs.length_le h.len, fun m hm => h.no m (hs.subset hm), h.pw.sublist hs⟩
theorem nQ (hr : bv l = true) (hk : OkM l) {m : Mem} (hm : m ∈ l) : bX l m ∈ l := (sv hr hk hm).1
theorem F5 (hr : bv l = true) (hk : OkM l) {m : Mem} (hm : m ∈ l) : ∃ b, fe l m.1 = (b, 0) ∧ b ∈ l ∧ bX l b = m := by
 obtain ⟨h1, h2⟩ := xQ hr hk hm
 have h0 : 0 < (srt l m).length := by rw [h2]; exact List.length_pos_of_mem hm
 obtain ⟨hlt, e⟩ := Jw hr hk hm
 refine ⟨_, e, (h1.mem _).1 (List.getElem_mem hlt), ?_⟩
 rw [Kh hr hk (((fJ hr).rng hk).in' m hm) h1 hlt]
 have e : ((srt l m).length - 1 + 1) % (srt l m).length = 0 := by rw [Nat.sub_add_cancel h0, Nat.mod_self]
 simp only [e]
 exact IH hr hk hm h0
theorem IN (hr : bv l = true) (hk : OkM l) {id : List Int} (hid : f9 id) {o b m : Mem} (ho : fG ce aT (vB id) l o) (hb : b ∈ l) (hm : m ∈ l) (hn : bX l b = m) : gD id b.2.1 m.2.1 = decide (m = o) := by
 have hrng := (fJ hr).rng hk
 have hnx := sv hr hk hb
 rw [hn] at hnx
 have ha := ly hid
 by_cases e : b = m
 ·subst e
  have h1 : gD id b.2.1 b.2.1 = true := by simp [gD]
  rw [h1]
  refine (decide_eq_true ?_).symm
  refine hrng.inj b hb o ho.1 ?_
  refine Decidable.byContradiction fun hne => ?_
  have h2 := hnx.2 o ho.1
  have rb := hrng.in' b hb
  have ro := hrng.in' o ho.1
  rw [xG rb rb, xG rb ro, if_pos rfl, if_neg (fun h => hne h.symm)] at h2
  have := jg rb ro
  omega
 ·have ib := ff (hk b hb)
  have im := ff (hk m hm)
  have hne : ¬ b.2.1 = m.2.1 := fun h => e ((fJ hr).inj hb hm (.inr h))
  rw [← MX hid ib im hne]
  have k1 : (0 < rky aT (vB b.2.1) (vB id) ∧ rky aT (vB b.2.1) (vB id) ≤ rky aT (vB b.2.1) (vB m.2.1)) ↔ m = o :=
   (ND hrng ha hb hnx e).trans ⟨fun h => fG.uniq hrng ha h ho, fun h => by rw [h]; exact ho⟩
  have hfar := oc ib hid
  have hfm := oc ib im
  have hz : (a7 b.2.1 id = List.replicate 32 (0 : Int)) ↔ rky aT (vB b.2.1) (vB id) = 0 := by
   rw [H8 ib hid]
   have rb := ly ib
   constructor
   ·intro h; rw [h]; exact sA
   ·intro h; exact (sy rb ha h).symm
  have hnn := (jg (W := aT) (ly ib) ha).1
  by_cases h0 : a7 b.2.1 id = List.replicate 32 (0 : Int)
  ·rw [decide_eq_true h0]
   symm
   refine decide_eq_false fun h => ?_
   have := (k1.2 h).1
   rw [hz.1 h0] at this
   omega
  ·rw [decide_eq_false h0]
   refine decide_eq_decide.2 ?_
   rw [Mz, hfar, hfm, ← k1]
   have : ¬ rky aT (vB b.2.1) (vB id) = 0 := fun h => h0 (hz.2 h)
   constructor
   ·intro h; exact ⟨by omega, h⟩
   ·intro h; exact h.2
end
end Go.Proofs.Ytimdnodkabnbfaa
namespace Go.Proofs.Ytimdnodkabnbfaa
open Go Go.RowKit
end Go.Proofs.Ytimdnodkabnbfaa
namespace Go.Proofs.Ytimdnodkabnbfaa
open Go Go.RowKit
abbrev Nd := den ag
abbrev sfN (n : Nd) : Mem := n.1
abbrev fiN (n : Nd) : List Mem := n.2.2.2.1
def dY (m : Mem) : Bool := bif decide (0 ≤ m.1) then decide (m.1 < 16) else false
def EN (no : Int) : List Mem → List Mem → Bool
 | _, [] => true
 | pre, m :: l => bif (bif (bif !dY m then true else decide (m.1 = no)) then true else pre.any fun x => decide (x.1 = m.1)) then false else EN no (pre ++ [m]) l
def eK (l : List Mem) (no : Int) : Bool := EN no [] l
def zu (n : Nd) : Bool := bif decide (n.2.1 = noM) then true else bif dY n.2.1 then !decide (n.2.1.1 = n.1.1) else false
def wc (n : Nd) : Bool := bif (bif decide (1 ≤ lnx ab n.2.2.1) then decide (lnx ab n.2.2.1 ≤ 4) else false) then (bif decide (n.2.2.1 = [n.1]) then true else eK n.2.2.1 n.1.1) else false
def aZ (n : Nd) : Bool := bif (bif (bif (bif dY n.1 then zu n else false) then wc n else false) then decide (lnx ab n.2.2.2.1 ≤ 16) else false) then eK n.2.2.2.1 n.1.1 else false
def mC (n : Nd) (id : List Int) : Bool := bif (bif aZ n then !decide (n.2.1 = noM) else false) then gD id n.2.1.2.1 n.1.2.1 else false
def ku (self id : List Int) (m : Mem) : Bool := bif (bif !decide (m.2.1 = self) then !decide (m.2.1 = id) else false) then gD m.2.1 self id else false
def gJ (self : List Int) (b : Mem × Int) (m : Mem) : Mem × Int := bif (bif !decide (b.2 = 0) then true else decide (gO (a7 self b.1.2.1) (a7 self m.2.1) < 0)) then (m, 0) else b
def cC (id self : List Int) (l : List Mem) : Mem × Int := (l.filter (ku self id)).foldl (gJ self) (zero ab, 6)
def c7 (n : Nd) (id : List Int) : Mem × Bool × Int :=
 bif !aZ n then (zero ab, false, 1) else
 bif gD id n.1.2.1 (el ab n.2.2.1 0).2.1 then (el ab n.2.2.1 0, true, 0) else
 bif !decide ((cC id n.1.2.1 (n.2.2.2.1 ++ n.2.2.1)).2 = 0) then (el ab n.2.2.1 0, false, 0) else
 ((cC id n.1.2.1 (n.2.2.2.1 ++ n.2.2.1)).1, false, 0)
def bF (self : Int) (nos : List Int) (m : Mem) : Bool := bif !decide (m.1 = self) then nos.any (fun x => decide (x = m.1)) else false
def u5 (n : Nd) (l : List Mem) : List Mem := bif decide (lnx ab l = 0) then [n.1] else l
def nN (n : Nd) (nos : List Int) : Nd :=
 (n.1, (bif (bif !decide (n.2.1 = noM) then bF n.1.1 nos n.2.1 else false) then noM else n.2.1),
  u5 n (n.2.2.1.filter fun m => !bF n.1.1 nos m), n.2.2.2.1.filter (fun m => !bF n.1.1 nos m), ())
def g6 (n : Nd) (nos : List Int) : Nd × Int := bif !aZ n then (zero ag, 1) else (nN n nos, 0)
def bW (n : Nd) (m : Mem) : Nd × Int :=
 bif (bif (bif !aZ n then true else !dY m) then true else decide (m.1 = n.1.1)) then (zero ag, 1) else
 bif n.2.2.2.1.any (fun x => decide (x.1 = m.1)) then (n, 0) else
 bif decide (lnx ab n.2.2.2.1 = 16) then (zero ag, 8) else ((n.1, n.2.1, n.2.2.1, n.2.2.2.1 ++ [m], ()), 0)
def Cw (no : Int) : den (.fn (.pair ab .unit) (.pair .bool .unit)) := some fun y => (decide (y.1.1 = no), ())
noncomputable abbrev gV : bq := ⟨AG, zF, fun _ => (noM, ()), fun _ => True, true⟩
noncomputable abbrev iR : bq := ⟨BX, B5, fun x => (dY x.1, ()), fun _ => True, true⟩
noncomputable abbrev qo : bq := ⟨AM, zb, fun x => (decide (x.1.1 = x.2.1), ()), fun _ => True, true⟩
noncomputable abbrev ov : bq := ⟨Ey, Dz, fun x => (Cw x.1, ()), fun _ => True, true⟩
noncomputable abbrev nB : bq := ⟨xm, p6, fun x => (eK x.1 x.2.1, ()), fun _ => True, true⟩
noncomputable abbrev dH : bq := ⟨nq, jh, fun x => (decide (x.1 = x.2.1), ()), fun _ => True, true⟩
def ixI (n : Int) : List Int → Int → Int
 | [], _ => -1
 | x :: l, i => bif decide (n = x) then i else ixI n l (i + 1)
noncomputable abbrev iT : bq := ⟨pE, pC, fun x => (ixI x.2.1 x.1 0, ()), fun _ => True, true⟩
noncomputable abbrev gr : bq := ⟨m4, m8, fun x => (List.any x.1 (fun y => decide (y = x.2.1)), ()), fun _ => True, true⟩
noncomputable abbrev du : bq := ⟨yR, ym, fun x => (aZ x.1, ()), fun _ => True, true⟩
noncomputable abbrev qp : bq := ⟨An, zV, fun x => (mC x.1 x.2.1, ()), fun _ => True, true⟩
noncomputable abbrev nw : bq := ⟨w9, w7, fun x => (bF (sfN x.2.1).1 x.2.2.1 x.1, ()), fun _ => True, true⟩
noncomputable abbrev qb : bq := ⟨zw, jP, fun x => ((g6 x.1 x.2.1).1, (g6 x.1 x.2.1).2, ()), fun _ => True, true⟩
noncomputable abbrev oZ : bq := ⟨yr, yC, fun x => ((bW x.1 x.2.1).1, (bW x.1 x.2.1).2, ()), fun x => List.length (fiN x.1) ≤ 1000000, false⟩
noncomputable abbrev na : bq := ⟨zK, tV, fun x => ((c7 x.1 x.2.1).1, (c7 x.1 x.2.1).2.1, (c7 x.1 x.2.1).2.2, ()), fun _ => True, true⟩
noncomputable abbrev iZ : bq := ⟨pD, px, fun x => (ku x.2.1 x.2.2.1 x.1, ()), fun _ => True, true⟩
noncomputable abbrev kd : bq := ⟨rV, m0, fun x => ((cC x.1 x.2.1 x.2.2.1).1, (cC x.1 x.2.1 x.2.2.1).2, ()), fun _ => True, true⟩
@[reducible] def jy : d6 := ⟨ab, false, .pair (.slc ab) .unit, true, fun _ y => y.1.length ≤ bV, fun _ y => y.1⟩
@[reducible] def vq : d6 := ⟨ab, false, .pair (.slc (.slc ab)) .unit, true, fun _ y => (y.1.flatten : List Mem).length ≤ bV, fun _ y => (y.1.flatten : List Mem)⟩
end Go.Proofs.Ytimdnodkabnbfaa
namespace Go.Proofs.Ytimdnodkabnbfaa
open Go Go.RowKit
noncomputable abbrev AO : Fx := { fn := vp, ann := { } }
noncomputable abbrev B1 : a8 := { D := { T := bg, F := [], R := [], ovl := [] }, inl := [] }
noncomputable abbrev JE : bu := .data zF
theorem Jd : XOk prog B1 := xok ((aL aS aE)) (by kernel_rfl) aN aW aV
noncomputable def Bu : af := af.ret (K.val (Ty.pair ab Ty.unit) ((-1, zero (Ty.pair tId Ty.unit)), PUnit.unit))
theorem Fk : aj B1 JE 5000 [] AO (aA vp) (Env.of (aF AG () 0) []) = Bu := by kernel_rfl
noncomputable abbrev B0 : Fx := { fn := xr, ann := { } }
noncomputable abbrev Dn : a8 := { D := { T := bg, F := [], R := [], ovl := [] }, inl := [] }
noncomputable abbrev LS : bu := .data B5
theorem LG : XOk prog Dn := xok ((aL aS aE)) (by kernel_rfl) aN aW aV
noncomputable def Ed (m : den ab) : af := af.ret (K.val (Ty.pair Ty.bool Ty.unit) (bif decide (0 ≤ Prod.fst m) then decide (Prod.fst m < 16) else false, PUnit.unit))
theorem Gv (m : den ab) : aj Dn LS 5000 [] B0 (aA xr) (Env.of (aF BX (m, ()) 0) []) = Ed m := by kernel_rfl
noncomputable abbrev zD : Fx := { fn := vS, ann := { } }
noncomputable abbrev BM : a8 := { D := { T := bg, F := [], R := [], ovl := [] }, inl := [] }
noncomputable abbrev JH : bu := .data zb
theorem Kd : XOk prog BM := xok ((aL aS aE)) (by kernel_rfl) aN aW aV
noncomputable def BA (m : den ab) (no : den (Ty.ref ae)) : af := af.ret (K.val (Ty.pair Ty.bool Ty.unit) (decide (Prod.fst m = no), PUnit.unit))
theorem Fp (m : den ab) (no : den (Ty.ref ae)) : aj BM JH 5000 [] zD (aA vS) (Env.of (aF AM (m, no, ()) 0) []) = BA m no := by kernel_rfl
noncomputable abbrev El : Fx := { fn := zl, ann := { frz := [(1, [1])] } }
noncomputable abbrev FV : a8 := { D := { T := bg, F := [(qf, qo)], R := [], ovl := [] }, inl := [] }
noncomputable abbrev Nq : bu := .data Dz
theorem MW (h_node_of_1 : ap prog [] qf qo) : XOk prog FV := xok (an (aL aS aE) h_node_of_1) (by kernel_rfl) aN aW aV
noncomputable def FP (no : den ae) : af := af.req (∀ (y : den (Ty.pair ab Ty.unit)), True) (af.ret (K.val (Ty.pair (Ty.fn (Ty.pair ab Ty.unit) (Ty.pair Ty.bool Ty.unit)) Ty.unit) (some fun (y : den (Ty.pair ab Ty.unit)) ↦ (decide (Prod.fst (Prod.fst y) = no), PUnit.unit), PUnit.unit)))
theorem Ig (no : den ae) : aj FV Nq 5000 [] El (aA zl) (Env.of (aF Ey (no, ()) 0) []) = FP no := by kernel_rfl
noncomputable abbrev g7 : Fx := { fn := gA, ann := { loops := [(2, { keep := [0, 1, 7, 8, 9] })] } }
noncomputable abbrev kK : a8 := { D := { T := bg, F := [(jb, iR), (ot, ov), (bH, bI)], R := [], ovl := [] }, inl := [] }
noncomputable abbrev yX : bu := .data p6
theorem Gt (h_node_may : ap prog [] jb iR) (h_node_of : ap prog [] ot ov) (h_slices_ContainsFunc_Member : ap prog [] bH bI) : XOk prog kK := xok (an (an (an (aL aS aE) h_slices_ContainsFunc_Member) h_node_of) h_node_may) (by kernel_rfl) aN aW aV
noncomputable def yI (l : den (Ty.slc ab)) (no : den ae) : af := af.loop [] g7 (lp gA 2) [(0, K.val (Ty.slc ab) l), (1, K.val ae no), (7, K.val (Ty.slc ab) l), (8, K.val ae (lnx ab l)), (9, K.val ae 0)] []
theorem Cq (l : den (Ty.slc ab)) (no : den ae) : aj kK yX 5000 [] g7 (aA gA) (Env.of (aF xm (l, no, ()) 0) []) = yI l no := by kernel_rfl
noncomputable def ve (v0 : den (Ty.slc ab)) (v1 : den ae) (v7 : den (Ty.slc ab)) (v8 : den ae) (v9 : den ae) : Env := Env.of [(0, K.val (Ty.slc ab) v0), (1, K.val ae v1), (7, K.val (Ty.slc ab) v7), (8, K.val ae v8), (9, K.val ae v9)] []
noncomputable def Cz (v0 : den (Ty.slc ab)) (v1 : den ae) (v7 : den (Ty.slc ab)) (v8 : den ae) (v9 : den ae) : af := af.ite (decide (v9 < v8)) (af.req (inB v9 (lnx ab v7)) (af.req True (af.req (dV [(bif !dY (el ab v7 v9) then true else decide (Prod.fst (el ab v7 v9) = v1), false)] (bQ 0 v9 (lnx ab v0))) (af.req (dV [(bif !dY (el ab v7 v9) then true else decide (Prod.fst (el ab v7 v9) = v1), false)] True) (af.req (dV [(bif !dY (el ab v7 v9) then true else decide (Prod.fst (el ab v7 v9) = v1), false)] (∃ (h : den (Ty.pair ab Ty.unit) → den (Ty.pair Ty.bool Ty.unit)), Cw (Prod.fst (el ab v7 v9)) = some h)) (af.ite (bif bif !dY (el ab v7 v9) then true else decide (Prod.fst (el ab v7 v9) = v1) then true else List.any (dS ab v0 0 v9) (prM (Cw (Prod.fst (el ab v7 v9))))) (af.ret (K.val (Ty.pair Ty.bool Ty.unit) (false, PUnit.unit))) (af.loop [] g7 (lp gA 2) [(0, K.val (Ty.slc ab) v0), (1, K.val ae v1), (7, K.val (Ty.slc ab) v7), (8, K.val ae v8), (9, K.val ae (IntKind.wrap IntKind.i64 (v9 + 1)))] []))))))) (af.ret (K.val (Ty.pair Ty.bool Ty.unit) (true, PUnit.unit)))
theorem pt (v0 : den (Ty.slc ab)) (v1 : den ae) (v7 : den (Ty.slc ab)) (v8 : den ae) (v9 : den ae) : aj kK yX 5000 [] g7 (lp gA 2) (ve v0 v1 v7 v8 v9) = Cz v0 v1 v7 v8 v9 := by kernel_rfl
noncomputable abbrev dv : Fx := { fn := c4, ann := { loops := [(4, { keep := [0, 1, 12, 13] })] } }
noncomputable abbrev gv : a8 := { D := { T := bg, F := [], R := [], ovl := [] }, inl := [] }
noncomputable abbrev n9 : bu := .data jh
theorem jB : XOk prog gv := xok ((aL aS aE)) (by kernel_rfl) aN aW aV
noncomputable def om (a : den (Ty.slc ab)) (b : den (Ty.slc ab)) : af := af.ite (!decide (lnx ab a = lnx ab b)) (af.ret (K.val (Ty.pair Ty.bool Ty.unit) (false, PUnit.unit))) (af.loop [] dv (lp c4 4) [(0, K.val (Ty.slc ab) a), (1, K.val (Ty.slc ab) b), (12, K.val ae (lnx ab a)), (13, K.val ae 0)] [])
theorem sY (a : den (Ty.slc ab)) (b : den (Ty.slc ab)) : aj gv n9 5000 [] dv (aA c4) (Env.of (aF nq (a, b, ()) 0) []) = om a b := by kernel_rfl
noncomputable def mO (v0 : den (Ty.slc ab)) (v1 : den (Ty.slc ab)) (v12 : den ae) (v13 : den ae) : Env := Env.of [(0, K.val (Ty.slc ab) v0), (1, K.val (Ty.slc ab) v1), (12, K.val ae v12), (13, K.val ae v13)] []
noncomputable def sL (v0 : den (Ty.slc ab)) (v1 : den (Ty.slc ab)) (v12 : den ae) (v13 : den ae) : af := af.ite (decide (v13 < v12)) (af.req (inB v13 (lnx ab v0)) (af.req (inB v13 (lnx ab v1)) (af.ite (!eqb ab (el ab v0 v13) (el ab v1 v13)) (af.ret (K.val (Ty.pair Ty.bool Ty.unit) (false, PUnit.unit))) (af.loop [] dv (lp c4 4) [(0, K.val (Ty.slc ab) v0), (1, K.val (Ty.slc ab) v1), (12, K.val ae v12), (13, K.val ae (IntKind.wrap IntKind.i64 (v13 + 1)))] [])))) (af.ret (K.val (Ty.pair Ty.bool Ty.unit) (true, PUnit.unit)))
theorem jV (v0 : den (Ty.slc ab)) (v1 : den (Ty.slc ab)) (v12 : den ae) (v13 : den ae) : aj gv n9 5000 [] dv (lp c4 4) (mO v0 v1 v12 v13) = sL v0 v1 v12 v13 := by kernel_rfl
noncomputable abbrev er : Fx := { fn := dM, ann := { loops := [(2, { keep := [0, 1, 7, 8] })] } }
noncomputable abbrev ml : a8 := { D := { T := bg, F := [], R := [], ovl := [] }, inl := [] }
noncomputable abbrev qM : bu := .data pC
theorem mg : XOk prog ml := xok ((aL aS aE)) (by kernel_rfl) aN aW aV
noncomputable def qD (s : den (Ty.slc ae)) (v : den ae) : af := af.loop [] er (lp dM 2) [(0, K.val (Ty.slc ae) s), (1, K.val ae v), (7, K.val ae (lnx ae s)), (8, K.val ae 0)] []
theorem wR (s : den (Ty.slc ae)) (v : den ae) : aj ml qM 5000 [] er (aA dM) (Env.of (aF pE (s, v, ()) 0) []) = qD s v := by kernel_rfl
noncomputable def pl (v0 : den (Ty.slc ae)) (v1 : den ae) (v7 : den ae) (v8 : den ae) : Env := Env.of [(0, K.val (Ty.slc ae) v0), (1, K.val ae v1), (7, K.val ae v7), (8, K.val ae v8)] []
noncomputable def ws (v0 : den (Ty.slc ae)) (v1 : den ae) (v7 : den ae) (v8 : den ae) : af := af.ite (decide (v8 < v7)) (af.req (inB v8 (lnx ae v0)) (af.ite (decide (v1 = el ae v0 v8)) (af.ret (K.val (Ty.pair ae Ty.unit) (v8, PUnit.unit))) (af.loop [] er (lp dM 2) [(0, K.val (Ty.slc ae) v0), (1, K.val ae v1), (7, K.val ae v7), (8, K.val ae (IntKind.wrap IntKind.i64 (v8 + 1)))] []))) (af.ret (K.val (Ty.pair ae Ty.unit) (-1, PUnit.unit)))
theorem mf (v0 : den (Ty.slc ae)) (v1 : den ae) (v7 : den ae) (v8 : den ae) : aj ml qM 5000 [] er (lp dM 2) (pl v0 v1 v7 v8) = ws v0 v1 v7 v8 := by kernel_rfl
noncomputable abbrev nj : Fx := { fn := jD, ann := { } }
noncomputable abbrev n7 : a8 := { D := { T := bg, F := [(i6, iT)], R := [], ovl := [] }, inl := [] }
noncomputable abbrev wl : bu := .data m8
theorem wb (h_slices_Index_int : ap prog [] i6 iT) : XOk prog n7 := xok (an (aL aS aE) h_slices_Index_int) (by kernel_rfl) aN aW aV
noncomputable def ob (s : den (Ty.slc ae)) (v : den ae) : af := af.req True (af.ret (K.val (Ty.pair Ty.bool Ty.unit) (decide (0 ≤ ixI v s 0), PUnit.unit)))
theorem sZ (s : den (Ty.slc ae)) (v : den ae) : aj n7 wl 5000 [] nj (aA jD) (Env.of (aF m4 (s, v, ()) 0) []) = ob s v := by kernel_rfl
noncomputable abbrev yM : Fx := { fn := sJ, ann := { } }
noncomputable abbrev AQ : a8 := { D := { T := bg, F := [(gT, gV), (jb, iR), (ny, nB), (dG, dH)], R := [], ovl := [] }, inl := [] }
noncomputable abbrev Ix : bu := .data ym
theorem I5 (h_node_none : ap prog [] gT gV) (h_node_may : ap prog [] jb iR) (h_node_unlike : ap prog [] ny nB) (h_slices_Equal_Member : ap prog [] dG dH) : XOk prog AQ := xok (an (an (an (an (aL aS aE) h_slices_Equal_Member) h_node_unlike) h_node_may) h_node_none) (by kernel_rfl) aN aW aV
noncomputable def AD (n : den ag) : af := af.req True (af.req (dV [(eqb ab (Prod.fst (Prod.snd n)) noM, false)] True) (af.req True (af.req (dV [(bif decide (1 ≤ lnx ab (Prod.fst (Prod.snd (Prod.snd n)))) then decide (lnx ab (Prod.fst (Prod.snd (Prod.snd n))) ≤ 4) else false, true), (decide (Prod.fst (Prod.snd (Prod.snd n)) = List.set (List.replicate 1 (zero ab)) 0 (Prod.fst n)), false)] True) (af.req True (af.req (dV [(bif bif bif dY (Prod.fst n) then bif eqb ab (Prod.fst (Prod.snd n)) noM then true else bif dY (Prod.fst (Prod.snd n)) then !decide (Prod.fst (Prod.fst (Prod.snd n)) = Prod.fst (Prod.fst n)) else false else false then bif bif decide (1 ≤ lnx ab (Prod.fst (Prod.snd (Prod.snd n)))) then decide (lnx ab (Prod.fst (Prod.snd (Prod.snd n))) ≤ 4) else false then bif decide (Prod.fst (Prod.snd (Prod.snd n)) = List.set (List.replicate 1 (zero ab)) 0 (Prod.fst n)) then true else eK (Prod.fst (Prod.snd (Prod.snd n))) (Prod.fst (Prod.fst n)) else false else false then decide (lnx ab (Prod.fst (Prod.snd (Prod.snd (Prod.snd n)))) ≤ 16) else false, true)] True) (af.ret (K.val (Ty.pair Ty.bool Ty.unit) (bif bif bif bif dY (Prod.fst n) then bif eqb ab (Prod.fst (Prod.snd n)) noM then true else bif dY (Prod.fst (Prod.snd n)) then !decide (Prod.fst (Prod.fst (Prod.snd n)) = Prod.fst (Prod.fst n)) else false else false then bif bif decide (1 ≤ lnx ab (Prod.fst (Prod.snd (Prod.snd n)))) then decide (lnx ab (Prod.fst (Prod.snd (Prod.snd n))) ≤ 4) else false then bif decide (Prod.fst (Prod.snd (Prod.snd n)) = List.set (List.replicate 1 (zero ab)) 0 (Prod.fst n)) then true else eK (Prod.fst (Prod.snd (Prod.snd n))) (Prod.fst (Prod.fst n)) else false else false then decide (lnx ab (Prod.fst (Prod.snd (Prod.snd (Prod.snd n)))) ≤ 16) else false then eK (Prod.fst (Prod.snd (Prod.snd (Prod.snd n)))) (Prod.fst (Prod.fst n)) else false, PUnit.unit))))))))
theorem C7 (n : den ag) : aj AQ Ix 5000 [] yM (aA sJ) (Env.of (aF yR (n, ()) 0) []) = AD n := by kernel_rfl
noncomputable abbrev zO : Fx := { fn := vG, ann := { } }
noncomputable abbrev By : a8 := { D := { T := bg, F := [(dn, du), (gT, gV), (i8, kw)], R := [], ovl := [] }, inl := [] }
noncomputable abbrev JZ : bu := .data zV
theorem J3 (h_node_Right : ap prog [] dn du) (h_node_none : ap prog [] gT gV) (h_ident_In : ap prog [] i8 kw) : XOk prog By := xok (an (an (an (aL aS aE) h_ident_In) h_node_none) h_node_Right) (by kernel_rfl) aN aW aV
noncomputable def BP (n : den ag) (id : den tId) : af := af.req True (af.req (dV [(aZ n, true)] True) (af.req (dV [(bif aZ n then !eqb ab (Prod.fst (Prod.snd n)) noM else false, true)] True) (af.ret (K.val (Ty.pair Ty.bool Ty.unit) (bif bif aZ n then !eqb ab (Prod.fst (Prod.snd n)) noM else false then gD id (Prod.fst (Prod.snd (Prod.fst (Prod.snd n)))) (Prod.fst (Prod.snd (Prod.fst n))) else false, PUnit.unit)))))
theorem EM (n : den ag) (id : den tId) : aj By JZ 5000 [] zO (aA vG) (Env.of (aF An (n, id, ()) 0) []) = BP n id := by kernel_rfl
noncomputable abbrev xa : Fx := { fn := rv, ann := { } }
noncomputable abbrev yo : a8 := { D := { T := bg, F := [(gp, gr)], R := [], ovl := [] }, inl := [] }
noncomputable abbrev GW : bu := .data w7
theorem GM (h_slices_Contains_int : ap prog [] gp gr) : XOk prog yo := xok (an (aL aS aE) h_slices_Contains_int) (by kernel_rfl) aN aW aV
noncomputable def yw (m : den ab) (n : den (Ty.ref ag)) (nos : den (Ty.ref (Ty.slc ae))) : af := af.req (dV [(!decide (Prod.fst m = Prod.fst (Prod.fst n)), true)] True) (af.ret (K.val (Ty.pair Ty.bool Ty.unit) (bif !decide (Prod.fst m = Prod.fst (Prod.fst n)) then List.any nos fun (y : den (Ty.int IntKind.i64)) ↦ decide (y = Prod.fst m) else false, PUnit.unit)))
theorem Ck (m : den ab) (n : den (Ty.ref ag)) (nos : den (Ty.ref (Ty.slc ae))) : aj yo GW 5000 [] xa (aA rv) (Env.of (aF w9 (m, n, nos, ()) 0) []) = yw m n nos := by kernel_rfl
noncomputable abbrev pr : Fx := { fn := mr, ann := { } }
noncomputable abbrev qC : a8 := { D := { T := bg, F := [(i8, kw)], R := [], ovl := [] }, inl := [] }
noncomputable abbrev zq : bu := .data px
theorem zm (h_ident_In : ap prog [] i8 kw) : XOk prog qC := xok (an (aL aS aE) h_ident_In) (by kernel_rfl) aN aW aV
noncomputable def qG (m : den ab) (self : den (Ty.ref tId)) (id : den (Ty.ref tId)) : af := af.req (dV [(bif !eqb tId (Prod.fst (Prod.snd m)) self then !eqb tId (Prod.fst (Prod.snd m)) id else false, true)] True) (af.ret (K.val (Ty.pair Ty.bool Ty.unit) (bif bif !eqb tId (Prod.fst (Prod.snd m)) self then !eqb tId (Prod.fst (Prod.snd m)) id else false then gD (Prod.fst (Prod.snd m)) self id else false, PUnit.unit)))
theorem xb (m : den ab) (self : den (Ty.ref tId)) (id : den (Ty.ref tId)) : aj qC zq 5000 [] pr (aA mr) (Env.of (aF pD (m, self, id, ()) 0) []) = qG m self id := by kernel_rfl
noncomputable abbrev nh : Fx := { fn := jL, ann := { }, own := [5] }
noncomputable abbrev ou : a8 := { D := { T := bg, F := [], R := [], ovl := [] }, inl := [] }
noncomputable abbrev wY : bu := .row (ab)
theorem wC : XOk prog ou := xok ((aL aS aE)) (by kernel_rfl) aN aW aV
noncomputable def n5 (s : den (Ty.slc ab)) : af := af.all Bool (fun (c : Bool) ↦ c = true → s = []) fun (q1 : Bool) ↦ af.ite q1 (af.ret (K.val (Ty.slc ab) [])) (af.req (List.length (List.replicate 0 (zero ab) ++ s) ≤ bV) (af.req (vok 0 (List.length (List.replicate 0 (zero ab) ++ s)) (List.length (List.replicate 0 (zero ab) ++ s))) (af.ret (K.val (Ty.slc ab) (nv ab (List.replicate 0 (zero ab) ++ s) 0 (List.length (List.replicate 0 (zero ab) ++ s)))))))
theorem tG (s : den (Ty.slc ab)) : aj ou wY 5000 [] nh (aA jL) (Env.of (aF (Ty.pair (Ty.slc ab) Ty.unit) (s, ()) 0) []) = n5 s := by kernel_rfl
end Go.Proofs.Ytimdnodkabnbfaa
namespace Go.Proofs.Ytimdnodkabnbfaa
open Go Go.RowKit
theorem vu : ap prog [] gT gV :=
 bL (S := gV) Jd (fx := AO) I3 (by kernel_rfl) (fun _ _ => trivial) (T := fun _ => Bu) (fun _ => Fk) fun O w0 x _ _ => ⟨_, rfl, rfl⟩
theorem xP : ap prog [] jb iR :=
 bL (S := iR) LG (fx := B0) Jn (by kernel_rfl) (fun _ _ => trivial) (T := fun x => Ed x.1) (fun x => Gv x.1) fun O w0 x _ _ => ⟨_, rfl, rfl⟩
theorem J4 : ap prog [] qf qo :=
 bL (S := qo) Kd (fx := zD) Ia (by kernel_rfl) (fun _ _ => trivial) (T := fun x => BA x.1 x.2.1) (fun x => Fp x.1 x.2.1) fun O w0 x _ _ => ⟨_, rfl, rfl⟩
theorem FL : ap prog [] ot ov :=
 bL (S := ov) (MW J4) (fx := El) KZ (by kernel_rfl) (fun _ _ => trivial) (T := fun x => FP x.1) (fun x => Ig x.1) fun O w0 x _ _ => ⟨fun _ => trivial, _, rfl, rfl⟩
abbrev GUl (O : Nat → Prop) (w0 : World) (y : Bool) := bG prog kK (Cx.base O w0) (cG prog O w0 p6 fun z => z = (y, ()))
theorem Ge (no : Int) (pre : List Mem) (m : Mem) (l : List Mem) : EN no pre (m :: l) = bif (bif (bif !dY m then true else decide (m.1 = no)) then true else pre.any fun x => decide (x.1 = m.1)) then false else EN no (pre ++ [m]) l := rfl
theorem pL : XOk prog kK := Gt xP FL f5
def Fn (O : Nat → Prop) (w0 : World) (l : List Mem) (no : Int) (hm : l.length ≤ maxLen) :=
 PLift.up <| bN (σ := Unit) l.length (fun i _ => EN no (l.take i) (l.drop i) = eK l no)
  (fun i _ => GUl O w0 (eK l no) [] g7 (lp gA 2) (ve l no l (lnx ab l) (i : Nat)))
  (fun i _ hi hs ih => aM pL (pt l no l _ _) (by
   rw [List.drop_eq_getElem_cons hi, Ge, ← List.take_succ_eq_append_getElem hi] at hs
   have hi' : i ≤ l.length := Nat.le_of_lt hi
   refine ⟨fun _ => ⟨bf hi, trivial, fun _ => ⟨Int.le_refl _, Int.natCast_nonneg _, Int.ofNat_le.2 hi'⟩, fun _ => trivial, fun _ => ⟨_, rfl⟩, ?_⟩, fun hc => absurd hi (by rw [cL] at hc; exact of_decide_eq_false hc)⟩
   rw [bS hi, cN hi hm, HI]
   refine ⟨fun hc => ⟨_, rfl, ?_⟩, fun hc => ih () ?_⟩
   ·have hc : (bif (bif !dY l[i] then true else decide (l[i].1 = no)) then true else (l.take i).any fun x => decide (x.1 = l[i].1)) = true := hc
    rw [hc] at hs
    exact Prod.ext hs rfl
   ·have hc : (bif (bif !dY l[i] then true else decide (l[i].1 = no)) then true else (l.take i).any fun x => decide (x.1 = l[i].1)) = false := hc
    rw [hc] at hs
    exact hs))
  (fun _ hs => aM pL (pt l no l _ _) (by
   refine ⟨fun hc => absurd (of_decide_eq_true hc) (Int.lt_irrefl _), fun _ => ⟨_, rfl, Prod.ext ?_ rfl⟩⟩
   rw [List.drop_length] at hs
   exact hs))
theorem GC : ap prog [] ny nB :=
 bL (S := nB) pL (fx := g7) E0 (by kernel_rfl) (fun _ _ => trivial) (T := fun x => yI x.1 x.2.1) (fun x => Cq x.1 x.2.1) fun O w0 x hk _ =>
  (Fn O w0 x.1 x.2.1 hk.1.1).down 0 () (Nat.zero_le _) rfl
abbrev GEq (O : Nat → Prop) (w0 : World) (y : Bool) := bG prog gv (Cx.base O w0) (cG prog O w0 jh fun z => z = (y, ()))
def vE (O : Nat → Prop) (w0 : World) (a b : List Mem) (hl : a.length = b.length) (hm : a.length ≤ maxLen) :=
 PLift.up <| bN (σ := Unit) a.length (fun i _ => decide (a.drop i = b.drop i) = decide (a = b))
  (fun i _ => GEq O w0 (decide (a = b)) [] dv (lp c4 4) (mO a b (lnx ab a) (i : Nat)))
  (fun i _ hi hs ih => aM jB (jV a b _ _) (by
   have hi2 : i < b.length := by omega
   rw [List.drop_eq_getElem_cons hi, List.drop_eq_getElem_cons hi2] at hs
   refine ⟨fun _ => ⟨bf hi, bf hi2, ?_⟩, fun hc => absurd hi (by rw [cL] at hc; exact of_decide_eq_false hc)⟩
   rw [bS hi, bS hi2, cN hi hm, kW]
   refine ⟨fun hc => ⟨_, rfl, Prod.ext ?_ rfl⟩, fun hc => ih () ?_⟩
   ·have hne : ¬ a[i] = b[i] := by simpa using hc
    rw [← hs]
    exact (decide_eq_false fun e => hne (List.cons.inj e).1).symm
   ·have he : a[i] = b[i] := by simpa using hc
    rw [← hs]
    exact decide_eq_decide.2 ⟨fun e => by rw [he, e], fun e => (List.cons.inj e).2⟩))
  (fun _ hs => aM jB (jV a b _ _) (by
   refine ⟨fun hc => absurd (of_decide_eq_true hc) (Int.lt_irrefl _), fun _ => ⟨_, rfl, Prod.ext ?_ rfl⟩⟩
   rw [List.drop_length, hl, List.drop_length] at hs
   rw [← hs]
   rfl))
theorem oa : ap prog [] dG dH :=
 bL (S := dH) jB (fx := dv) vf (by kernel_rfl) (fun _ _ => trivial) (T := fun x => om x.1 x.2.1) (fun x => sY x.1 x.2.1) fun O w0 x hk _ => by
  obtain ⟨a, b, ⟨⟩⟩ := x
  refine ⟨fun h => ⟨_, rfl, Prod.ext ?_ rfl⟩, fun h => ?_⟩
  ·have h : (!decide (((a.length : Nat) : Int) = (b.length : Nat))) = true := h
   have hne : ¬ a.length = b.length := fun e => by rw [e] at h; simp at h
   exact (decide_eq_false fun e => hne (congrArg List.length e)).symm
  ·have h : (!decide (((a.length : Nat) : Int) = (b.length : Nat))) = false := h
   have hl : a.length = b.length := by
    have : decide (((a.length : Nat) : Int) = (b.length : Nat)) = true := by simpa using h
    exact Int.ofNat.inj (of_decide_eq_true this)
   exact (vE O w0 a b hl hk.1.1).down 0 () (Nat.zero_le _) rfl
theorem Kr (n : Int) : ∀ (l : List Int) (i : Int), 0 ≤ i → decide (0 ≤ ixI n l i) = l.any fun y => decide (y = n)
 | [], _, _ => rfl
 | x :: l, i, hi => by
  show decide (0 ≤ (bif decide (n = x) then i else ixI n l (i + 1))) = (decide (x = n) || l.any fun y => decide (y = n))
  by_cases h : n = x
  ·rw [decide_eq_true h, decide_eq_true h.symm]
   exact decide_eq_true hi
  ·rw [decide_eq_false h, decide_eq_false (show ¬ x = n from fun e => h e.symm), Bool.false_or]
   exact Kr n l (i + 1) (by omega)
def yZ (O : Nat → Prop) (w0 : World) (l : List Int) (n y : Int) (hm : l.length ≤ maxLen) :=
 PLift.up <| bN (σ := Unit) l.length (fun i _ => ixI n (l.drop i) (i : Nat) = y)
  (fun i _ => GIx O w0 y [] er (lp dM 2) (pl l n (lnx ae l) (i : Nat)))
  (fun i _ hi hs ih => aM mg (mf l n _ _) (by
   rw [List.drop_eq_getElem_cons hi] at hs
   have hs : (bif decide (n = l[i]) then ((i : Nat) : Int) else ixI n (l.drop (i + 1)) ((i : Nat) + 1)) = y := hs
   refine ⟨fun _ => ⟨bf hi, ?_⟩, fun hc => absurd hi (by rw [cL (e := ae)] at hc; exact of_decide_eq_false hc)⟩
   rw [bS (e := ae) hi, cN hi hm]
   refine ⟨fun hc => ⟨_, rfl, Prod.ext ?_ rfl⟩, fun hc => ih () ?_⟩
   ·have hc : decide (n = l[i]) = true := hc
    rw [hc] at hs
    exact hs
   ·have hc : decide (n = l[i]) = false := hc
    rw [hc] at hs
    exact hs))
  (fun _ hs => aM mg (mf l n _ _) (by
   refine ⟨fun hc => absurd (of_decide_eq_true hc) (Int.lt_irrefl _), fun _ => ⟨_, rfl, Prod.ext ?_ rfl⟩⟩
   rw [List.drop_length] at hs
   exact hs))
theorem AC : ap prog [] i6 iT :=
 bL (S := iT) mg (fx := er) y9 (by kernel_rfl) (fun _ _ => trivial) (T := fun x => qD x.1 x.2.1) (fun x => wR x.1 x.2.1) fun O w0 x hk _ =>
  (yZ O w0 x.1 x.2.1 _ hk.1.1).down 0 () (Nat.zero_le _) rfl
theorem xd : ap prog [] gp gr :=
 bL (S := gr) (wb AC) (fx := nj) vo (by kernel_rfl) (fun _ _ => trivial) (T := fun x => ob x.1 x.2.1) (fun x => sZ x.1 x.2.1) fun O w0 x _ _ =>
  ⟨trivial, _, rfl, Prod.ext (Kr x.2.1 x.1 0 (Int.le_refl _)) rfl⟩
theorem lM : ap prog [] dn du :=
 bL (S := du) (I5 vu xP GC oa) (fx := yM) GG (by kernel_rfl) (fun _ _ => trivial) (T := fun x => AD x.1) (fun x => C7 x.1) fun O w0 x _ _ => by
  obtain ⟨n, ⟨⟩⟩ := x
  refine ⟨trivial, fun _ => trivial, trivial, fun _ _ => trivial, trivial, fun _ => trivial, _, rfl, Prod.ext ?_ rfl⟩
  show _ = aZ n
  unfold aZ zu wc
  simp only [kW]
  rfl
theorem JX : ap prog [] qe qp :=
 bL (S := qp) (J3 lM vu yg) (fx := zO) IX (by kernel_rfl) (fun _ _ => trivial) (T := fun x => BP x.1 x.2.1) (fun x => EM x.1 x.2.1) fun O w0 x _ _ => by
  obtain ⟨n, id, ⟨⟩⟩ := x
  refine ⟨trivial, fun _ => trivial, fun _ => trivial, _, rfl, Prod.ext ?_ rfl⟩
  show _ = mC n id
  unfold mC
  simp only [kW]
theorem GP : ap prog [] al nw :=
 bL (S := nw) (GM xd) (fx := xa) Fz (by kernel_rfl) (fun _ _ => trivial) (T := fun x => yw x.1 x.2.1 x.2.2.1) (fun x => Ck x.1 x.2.1 x.2.2.1) fun O w0 x _ _ =>
  ⟨fun _ => trivial, _, rfl, rfl⟩
theorem Am : ap prog [] i4 iZ :=
 bL (S := iZ) (zm yg) (fx := pr) yY (by kernel_rfl) (fun _ _ => trivial) (T := fun x => qG x.1 x.2.1 x.2.2.1) (fun x => xb x.1 x.2.1 x.2.2.1) fun O w0 x _ _ => by
  obtain ⟨m, self, id, ⟨⟩⟩ := x
  refine ⟨fun _ => trivial, _, rfl, Prod.ext ?_ rfl⟩
  show _ = ku self id m
  unfold ku
  rw [A6, A6]
theorem vN : mB prog [] gu jy :=
 Fv wC (fx := nh) rfl vH (by kernel_rfl) (T := fun _ y => n5 y.1) (fun xs y _ => tG y.1) fun O w0 bk xs y hxl hy hp => by
  obtain ⟨s, ⟨⟩⟩ := y
  refine fun c hc => ⟨fun hx => ?_, fun hx => ?_⟩
  ·show K.val _ _ = K.val _ s
   rw [show s = [] from hc hx]
  ·refine ⟨?_, ?_, ?_⟩
   ·simpa using hp
   ·simp [vok]
   ·show K.val (.slc ab) (nv ab (List.replicate 0 (zero ab) ++ s) 0 (List.length (List.replicate 0 (zero ab) ++ s))) = K.val _ s
    rw [zX _ rfl]; rfl
end Go.Proofs.Ytimdnodkabnbfaa
namespace Go.Proofs.Ytimdnodkabnbfaa
open Go Go.RowKit
noncomputable abbrev wH : Fx := { fn := oC, ann := { } }
noncomputable abbrev aP : Fx := { fn := aO, ann := { loops := [(3, { keep := [0, 3, 9, 10, 11] }), (11, { keep := [6, 25, 26, 27] })] } }
noncomputable abbrev cR : a8 := { D := { T := bg, F := [], R := [], ovl := [] }, inl := [(pe, wH)] }
noncomputable abbrev eC : bu := .row (ab)
theorem cD : XOk prog cR := xok ((aL aS aE)) (by kernel_rfl) aN (gX vZ (by kernel_rfl) aW) aV
noncomputable def np (s : den (Ty.slc (Ty.slc ab))) : af := af.loop [] aP (lp aO 3) [(0, K.val (Ty.slc (Ty.slc ab)) s), (3, K.val ae 0), (9, K.val (Ty.slc (Ty.slc ab)) s), (10, K.val ae (lnx (Ty.slc ab) s)), (11, K.val ae 0)] []
theorem sr (s : den (Ty.slc (Ty.slc ab))) : aj cR eC 5000 [] aP (aA aO) (Env.of (aF (Ty.pair (Ty.slc (Ty.slc ab)) Ty.unit) (s, ()) 0) []) = np s := by kernel_rfl
noncomputable def me (v0 : den (Ty.slc (Ty.slc ab))) (v3 : den ae) (v9 : den (Ty.slc (Ty.slc ab))) (v10 : den ae) (v11 : den ae) : Env := Env.of [(0, K.val (Ty.slc (Ty.slc ab)) v0), (3, K.val ae v3), (9, K.val (Ty.slc (Ty.slc ab)) v9), (10, K.val ae v10), (11, K.val ae v11)] []
noncomputable def sa (v0 : den (Ty.slc (Ty.slc ab))) (v3 : den ae) (v9 : den (Ty.slc (Ty.slc ab))) (v10 : den ae) (v11 : den ae) : af := af.ite (decide (v11 < v10)) (af.req (inB v11 (lnx (Ty.slc ab) v9)) (af.ite (decide (IntKind.wrap IntKind.i64 (v3 + lnx ab (el (Ty.slc ab) v9 v11)) < 0)) (af.bad (100000 + 1000 * 0 + 0)) (af.loop [] aP (lp aO 3) [(0, K.val (Ty.slc (Ty.slc ab)) v0), (3, K.val ae (IntKind.wrap IntKind.i64 (v3 + lnx ab (el (Ty.slc ab) v9 v11)))), (9, K.val (Ty.slc (Ty.slc ab)) v9), (10, K.val ae v10), (11, K.val ae (IntKind.wrap IntKind.i64 (v11 + 1)))] []))) (af.ite (decide (v3 < 0)) (af.bad (100000 + 1000 * 0 + 0)) (af.ite (decide (0 < IntKind.wrap IntKind.i64 (v3 - IntKind.wrap IntKind.i64 (0 - 0)))) (af.req (bQ 0 0 0) (af.req (0 < IntKind.wrap IntKind.i64 (v3 - IntKind.wrap IntKind.i64 (0 - 0))) (af.req (Int.toNat (IntKind.wrap IntKind.i64 (v3 - IntKind.wrap IntKind.i64 (0 - 0))) ≤ bV) (af.req (vok 0 (List.length (List.replicate (Int.toNat (IntKind.wrap IntKind.i64 (v3 - IntKind.wrap IntKind.i64 (0 - 0)))) (zero ab))) (List.length (List.replicate (Int.toNat (IntKind.wrap IntKind.i64 (v3 - IntKind.wrap IntKind.i64 (0 - 0)))) (zero ab)))) (af.req (bQ 0 0 (↑(List.length (List.replicate (Int.toNat (IntKind.wrap IntKind.i64 (v3 - IntKind.wrap IntKind.i64 (0 - 0)))) (zero ab)) - 0) : Int)) (af.loop [] aP (lp aO 11) [(6, K.vw 0 ab (0 + Int.toNat 0) (Int.toNat 0 - Int.toNat 0)), (25, K.val (Ty.slc (Ty.slc ab)) v0), (26, K.val ae (lnx (Ty.slc ab) v0)), (27, K.val ae 0)] [(0, Bx.row ab (List.replicate (Int.toNat (IntKind.wrap IntKind.i64 (v3 - IntKind.wrap IntKind.i64 (0 - 0)))) (zero ab)))])))))) (af.loop [] aP (lp aO 11) [(6, K.nilsl), (25, K.val (Ty.slc (Ty.slc ab)) v0), (26, K.val ae (lnx (Ty.slc ab) v0)), (27, K.val ae 0)] [])))
theorem jC (v0 : den (Ty.slc (Ty.slc ab))) (v3 : den ae) (v9 : den (Ty.slc (Ty.slc ab))) (v10 : den ae) (v11 : den ae) : aj cR eC 5000 [] aP (lp aO 3) (me v0 v3 v9 v10 v11) = sa v0 v3 v9 v10 v11 := by kernel_rfl
noncomputable def lC (v6 : Nat) (v6_1 : Nat) (v25 : den (Ty.slc (Ty.slc ab))) (v26 : den ae) (v27 : den ae) (b0 : List (den ab)) : Env := Env.of [(6, K.vw 0 ab v6 v6_1), (25, K.val (Ty.slc (Ty.slc ab)) v25), (26, K.val ae v26), (27, K.val ae v27)] [(0, Bx.row ab b0)]
noncomputable def rz (v6 : Nat) (v6_1 : Nat) (v25 : den (Ty.slc (Ty.slc ab))) (v26 : den ae) (v27 : den ae) (b0 : List (den ab)) : af := af.ite (decide (v27 < v26)) (af.req (inB v27 (lnx (Ty.slc ab) v25)) (af.req (vok v6 v6_1 (List.length b0)) (af.req (v6 + v6_1 + List.length (el (Ty.slc ab) v25 v27) ≤ List.length b0) (af.loop [] aP (lp aO 11) [(6, K.vw 0 ab v6 (v6_1 + List.length (el (Ty.slc ab) v25 v27))), (25, K.val (Ty.slc (Ty.slc ab)) v25), (26, K.val ae v26), (27, K.val ae (IntKind.wrap IntKind.i64 (v27 + 1)))] [(0, Bx.row ab (over b0 (v6 + v6_1) (el (Ty.slc ab) v25 v27)))])))) (af.req (vok v6 v6_1 (List.length b0)) (af.ret (K.val (Ty.slc ab) (nv ab b0 v6 v6_1))))
theorem jr (v6 : Nat) (v6_1 : Nat) (v25 : den (Ty.slc (Ty.slc ab))) (v26 : den ae) (v27 : den ae) (b0 : List (den ab)) : aj cR eC 5000 [] aP (lp aO 11) (lC v6 v6_1 v25 v26 v27 b0) = rz v6 v6_1 v25 v26 v27 b0 := by kernel_rfl
noncomputable def jU (v25 : den (Ty.slc (Ty.slc ab))) (v26 : den ae) (v27 : den ae) : Env := Env.of [(6, K.nilsl), (25, K.val (Ty.slc (Ty.slc ab)) v25), (26, K.val ae v26), (27, K.val ae v27)] []
noncomputable def pY (v25 : den (Ty.slc (Ty.slc ab))) (v26 : den ae) (v27 : den ae) : af := af.ite (decide (v27 < v26)) (af.req (inB v27 (lnx (Ty.slc ab) v25)) (af.req (List.length (el (Ty.slc ab) v25 v27) ≤ bV) (af.loop [] aP (lp aO 11) [(6, K.sl 0 ab), (25, K.val (Ty.slc (Ty.slc ab)) v25), (26, K.val ae v26), (27, K.val ae (IntKind.wrap IntKind.i64 (v27 + 1)))] [(0, Bx.row ab (el (Ty.slc ab) v25 v27))]))) (af.ret (K.val (Ty.slc ab) []))
theorem oA (v25 : den (Ty.slc (Ty.slc ab))) (v26 : den ae) (v27 : den ae) : aj cR eC 5000 [] aP (lp aO 11) (jU v25 v26 v27) = pY v25 v26 v27 := by kernel_rfl
noncomputable def jX (v25 : den (Ty.slc (Ty.slc ab))) (v26 : den ae) (v27 : den ae) (b0 : List (den ab)) : Env := Env.of [(6, K.sl 0 ab), (25, K.val (Ty.slc (Ty.slc ab)) v25), (26, K.val ae v26), (27, K.val ae v27)] [(0, Bx.row ab b0)]
noncomputable def p8 (v25 : den (Ty.slc (Ty.slc ab))) (v26 : den ae) (v27 : den ae) (b0 : List (den ab)) : af := af.ite (decide (v27 < v26)) (af.req (inB v27 (lnx (Ty.slc ab) v25)) (af.req (List.length (b0 ++ el (Ty.slc ab) v25 v27) ≤ bV) (af.loop [] aP (lp aO 11) [(6, K.sl 0 ab), (25, K.val (Ty.slc (Ty.slc ab)) v25), (26, K.val ae v26), (27, K.val ae (IntKind.wrap IntKind.i64 (v27 + 1)))] [(0, Bx.row ab (b0 ++ el (Ty.slc ab) v25 v27))]))) (af.req (vok 0 (List.length b0) (List.length b0)) (af.ret (K.val (Ty.slc ab) (nv ab b0 0 (List.length b0)))))
theorem iz (v25 : den (Ty.slc (Ty.slc ab))) (v26 : den ae) (v27 : den ae) (b0 : List (den ab)) : aj cR eC 5000 [] aP (lp aO 11) (jX v25 v26 v27 b0) = p8 v25 v26 v27 b0 := by kernel_rfl
noncomputable abbrev au : Fx := { fn := ar, ann := { loops := [(5, { keep := [0, 1, 5, 6] })], frz := [(1000005, [2, 3, 4, 6])] }, own := [28, 41], share := true }
noncomputable abbrev bJ : Fx := { fn := bO, ann := { }, own := [40], share := true }
noncomputable abbrev gR : a8 := { D := { T := bg, F := [(dn, du), (gT, gV), (al, nw)], R := [(gu, jy)], ovl := [] }, inl := [(kJ, au), (cw, aD)] }
noncomputable abbrev ng : bu := .data jP
theorem Jx (h_node_Right : ap prog [] dn du) (h_node_none : ap prog [] gT gV) (h_node_Drop_1 : ap prog [] al nw) (h_slices_Clone_Member : mB prog [] gu jy) : XOk prog gR := xok (an (an (an (aL aS aE) h_node_Drop_1) h_node_none) h_node_Right) (by kernel_rfl) (Ht h_slices_Clone_Member aN) (gX qK (by kernel_rfl) (gX kG (by kernel_rfl) aW)) aV
noncomputable def Bv (n : den ag) (nos : den (Ty.slc ae)) : af := af.req True (af.all (den Ty.bool) (fun (q2 : den Ty.bool) ↦ q2 = aZ n) fun (q2 : den Ty.bool) ↦ af.ite (!q2) (af.ret (K.val (Ty.pair ag (Ty.pair ae Ty.unit)) (zero (Ty.pair ab (Ty.pair ab (Ty.pair (Ty.slc ab) (Ty.pair (Ty.slc ab) Ty.unit)))), 1, PUnit.unit))) (af.req (List.length (Prod.fst (Prod.snd (Prod.snd n))) ≤ bV) (af.loop [{ fx := au, todo := bw ar 1 2, dst := some 10, s := ofS [(0, K.sl 0 ab), (1, K.clo al (K.kcons (K.ptr (0 + 1) ag []) (K.kcons (K.ptr (0 + 1 + 1) (Ty.slc ae) []) K.knil)))] }, { fx := bJ, todo := bw bO 4 4, dst := some 16, s := ofS [(2, K.ptr (0 + 1) ag []), (3, K.ptr (0 + 1 + 1) (Ty.slc ae) []), (4, K.ptr (0 + 1 + 1 + 1) ag []), (6, K.clo al (K.kcons (K.ptr (0 + 1) ag []) (K.kcons (K.ptr (0 + 1 + 1) (Ty.slc ae) []) K.knil)))] }] aD (lp aH 2) [(0, K.sl 0 ab), (1, K.clo al (K.kcons (K.ptr (0 + 1) ag []) (K.kcons (K.ptr (0 + 1 + 1) (Ty.slc ae) []) K.knil))), (7, K.val ae (lnx ab (Prod.fst (Prod.snd (Prod.snd n))))), (8, K.val ae 0)] [(0, Bx.row ab (Prod.fst (Prod.snd (Prod.snd n)))), (0 + 1, Bx.cell ag n), (0 + 1 + 1, Bx.cell (Ty.slc ae) nos), (0 + 1 + 1 + 1, Bx.cell ag (zero ag))])))
theorem Fo (n : den ag) (nos : den (Ty.slc ae)) : aj gR ng 5000 [] bJ (aA bO) (Env.of (aF zw (n, nos, ()) 0) []) = Bv n nos := by kernel_rfl
noncomputable def ga (v7 : den ae) (v8 : den ae) (b0 : List (den ab)) (b1 : den ag) (b2 : den (Ty.slc ae)) (b3 : den ag) : List cr := [{ fx := au, todo := bw ar 1 2, dst := some 10, s := ofS [(0, K.sl 0 ab), (1, K.clo al (K.kcons (K.ptr (0 + 1) ag []) (K.kcons (K.ptr (0 + 1 + 1) (Ty.slc ae) []) K.knil)))] }, { fx := bJ, todo := bw bO 4 4, dst := some 16, s := ofS [(2, K.ptr (0 + 1) ag []), (3, K.ptr (0 + 1 + 1) (Ty.slc ae) []), (4, K.ptr (0 + 1 + 1 + 1) ag []), (6, K.clo al (K.kcons (K.ptr (0 + 1) ag []) (K.kcons (K.ptr (0 + 1 + 1) (Ty.slc ae) []) K.knil)))] }]
noncomputable def gb (v7 : den ae) (v8 : den ae) (b0 : List (den ab)) (b1 : den ag) (b2 : den (Ty.slc ae)) (b3 : den ag) : Env := Env.of [(0, K.sl 0 ab), (1, K.clo al (K.kcons (K.ptr (0 + 1) ag []) (K.kcons (K.ptr (0 + 1 + 1) (Ty.slc ae) []) K.knil))), (7, K.val ae v7), (8, K.val ae v8)] [(0, Bx.row ab b0), (1, Bx.cell ag b1), (2, Bx.cell (Ty.slc ae) b2), (3, Bx.cell ag b3)]
noncomputable def lc (v7 : den ae) (v8 : den ae) (b0 : List (den ab)) (b1 : den ag) (b2 : den (Ty.slc ae)) (b3 : den ag) : af := af.ite (decide (v8 < v7)) (af.req (inB v8 (lnx ab b0)) (af.req (inB v8 (lnx ab b0)) (af.req True (af.ite (bF (Prod.fst (Prod.fst b1)) b2 (el ab b0 v8)) (af.ite (decide (v8 = -1)) (af.req (List.length (Prod.fst (Prod.snd (Prod.snd (Prod.snd b1)))) ≤ bV) (af.loop [{ fx := au, todo := bw ar 1 2, dst := some 10, s := ofS [(0, K.sl 0 ab), (1, K.clo al (K.kcons (K.ptr (0 + 1) ag []) (K.kcons (K.ptr (0 + 1 + 1) (Ty.slc ae) []) K.knil)))] }, { fx := bJ, todo := bw bO 5 4, dst := some 22, s := ofS [(2, K.ptr (0 + 1) ag []), (3, K.ptr (0 + 1 + 1) (Ty.slc ae) []), (4, K.ptr (0 + 1 + 1 + 1) ag []), (6, K.clo al (K.kcons (K.ptr (0 + 1) ag []) (K.kcons (K.ptr (0 + 1 + 1) (Ty.slc ae) []) K.knil)))] }] aD (lp aH 2) [(0, K.sl 0 ab), (1, K.clo al (K.kcons (K.ptr (0 + 1) ag []) (K.kcons (K.ptr (0 + 1 + 1) (Ty.slc ae) []) K.knil))), (7, K.val ae (lnx ab (Prod.fst (Prod.snd (Prod.snd (Prod.snd b1)))))), (8, K.val ae 0)] [(0, Bx.row ab (Prod.fst (Prod.snd (Prod.snd (Prod.snd b1))))), (0 + 1, Bx.cell ag (Prod.fst b1, Prod.fst (Prod.snd b1), b0, Prod.snd (Prod.snd (Prod.snd b1)))), (0 + 1 + 1, Bx.cell (Ty.slc ae) b2), (0 + 1 + 1 + 1, Bx.cell ag b3)])) (af.loop [{ fx := bJ, todo := bw bO 4 4, dst := some 16, s := ofS [(2, K.ptr (0 + 1) ag []), (3, K.ptr (0 + 1 + 1) (Ty.slc ae) []), (4, K.ptr (0 + 1 + 1 + 1) ag []), (6, K.clo al (K.kcons (K.ptr (0 + 1) ag []) (K.kcons (K.ptr (0 + 1 + 1) (Ty.slc ae) []) K.knil)))] }] au (lp ar 5) [(0, K.sl 0 ab), (1, K.clo al (K.kcons (K.ptr (0 + 1) ag []) (K.kcons (K.ptr (0 + 1 + 1) (Ty.slc ae) []) K.knil))), (5, K.val ae v8), (6, K.val ae (IntKind.wrap IntKind.i64 (v8 + 1)))] [(0, Bx.row ab b0), (0 + 1, Bx.cell ag b1), (0 + 1 + 1, Bx.cell (Ty.slc ae) b2), (0 + 1 + 1 + 1, Bx.cell ag b3)])) (af.loop [{ fx := au, todo := bw ar 1 2, dst := some 10, s := ofS [(0, K.sl 0 ab), (1, K.clo al (K.kcons (K.ptr (0 + 1) ag []) (K.kcons (K.ptr (0 + 1 + 1) (Ty.slc ae) []) K.knil)))] }, { fx := bJ, todo := bw bO 4 4, dst := some 16, s := ofS [(2, K.ptr (0 + 1) ag []), (3, K.ptr (0 + 1 + 1) (Ty.slc ae) []), (4, K.ptr (0 + 1 + 1 + 1) ag []), (6, K.clo al (K.kcons (K.ptr (0 + 1) ag []) (K.kcons (K.ptr (0 + 1 + 1) (Ty.slc ae) []) K.knil)))] }] aD (lp aH 2) [(0, K.sl 0 ab), (1, K.clo al (K.kcons (K.ptr (0 + 1) ag []) (K.kcons (K.ptr (0 + 1 + 1) (Ty.slc ae) []) K.knil))), (7, K.val ae v7), (8, K.val ae (IntKind.wrap IntKind.i64 (v8 + 1)))] [(0, Bx.row ab b0), (0 + 1, Bx.cell ag b1), (0 + 1 + 1, Bx.cell (Ty.slc ae) b2), (0 + 1 + 1 + 1, Bx.cell ag b3)]))))) (af.ite (decide (-1 = -1)) (af.req (List.length (Prod.fst (Prod.snd (Prod.snd (Prod.snd b1)))) ≤ bV) (af.loop [{ fx := au, todo := bw ar 1 2, dst := some 10, s := ofS [(0, K.sl 0 ab), (1, K.clo al (K.kcons (K.ptr (0 + 1) ag []) (K.kcons (K.ptr (0 + 1 + 1) (Ty.slc ae) []) K.knil)))] }, { fx := bJ, todo := bw bO 5 4, dst := some 22, s := ofS [(2, K.ptr (0 + 1) ag []), (3, K.ptr (0 + 1 + 1) (Ty.slc ae) []), (4, K.ptr (0 + 1 + 1 + 1) ag []), (6, K.clo al (K.kcons (K.ptr (0 + 1) ag []) (K.kcons (K.ptr (0 + 1 + 1) (Ty.slc ae) []) K.knil)))] }] aD (lp aH 2) [(0, K.sl 0 ab), (1, K.clo al (K.kcons (K.ptr (0 + 1) ag []) (K.kcons (K.ptr (0 + 1 + 1) (Ty.slc ae) []) K.knil))), (7, K.val ae (lnx ab (Prod.fst (Prod.snd (Prod.snd (Prod.snd b1)))))), (8, K.val ae 0)] [(0, Bx.row ab (Prod.fst (Prod.snd (Prod.snd (Prod.snd b1))))), (0 + 1, Bx.cell ag (Prod.fst b1, Prod.fst (Prod.snd b1), b0, Prod.snd (Prod.snd (Prod.snd b1)))), (0 + 1 + 1, Bx.cell (Ty.slc ae) b2), (0 + 1 + 1 + 1, Bx.cell ag b3)])) (af.loop [{ fx := bJ, todo := bw bO 4 4, dst := some 16, s := ofS [(2, K.ptr (0 + 1) ag []), (3, K.ptr (0 + 1 + 1) (Ty.slc ae) []), (4, K.ptr (0 + 1 + 1 + 1) ag []), (6, K.clo al (K.kcons (K.ptr (0 + 1) ag []) (K.kcons (K.ptr (0 + 1 + 1) (Ty.slc ae) []) K.knil)))] }] au (lp ar 5) [(0, K.sl 0 ab), (1, K.clo al (K.kcons (K.ptr (0 + 1) ag []) (K.kcons (K.ptr (0 + 1 + 1) (Ty.slc ae) []) K.knil))), (5, K.val ae (-1)), (6, K.val ae (IntKind.wrap IntKind.i64 (-1 + 1)))] [(0, Bx.row ab b0), (0 + 1, Bx.cell ag b1), (0 + 1 + 1, Bx.cell (Ty.slc ae) b2), (0 + 1 + 1 + 1, Bx.cell ag b3)]))
theorem fa (v7 : den ae) (v8 : den ae) (b0 : List (den ab)) (b1 : den ag) (b2 : den (Ty.slc ae)) (b3 : den ag) : aj gR ng 5000 (ga v7 v8 b0 b1 b2 b3) aD (lp aH 2) (gb v7 v8 b0 b1 b2 b3) = lc v7 v8 b0 b1 b2 b3 := by kernel_rfl
noncomputable def dm (v7 : den ae) (v8 : den ae) (b0 : List (den ab)) (b1 : den ag) (b2 : den (Ty.slc ae)) (b3 : den ag) : List cr := [{ fx := au, todo := bw ar 1 2, dst := some 10, s := ofS [(0, K.sl 0 ab), (1, K.clo al (K.kcons (K.ptr (0 + 1) ag []) (K.kcons (K.ptr (0 + 1 + 1) (Ty.slc ae) []) K.knil)))] }, { fx := bJ, todo := bw bO 5 4, dst := some 22, s := ofS [(2, K.ptr (0 + 1) ag []), (3, K.ptr (0 + 1 + 1) (Ty.slc ae) []), (4, K.ptr (0 + 1 + 1 + 1) ag []), (6, K.clo al (K.kcons (K.ptr (0 + 1) ag []) (K.kcons (K.ptr (0 + 1 + 1) (Ty.slc ae) []) K.knil)))] }]
noncomputable def dt (v7 : den ae) (v8 : den ae) (b0 : List (den ab)) (b1 : den ag) (b2 : den (Ty.slc ae)) (b3 : den ag) : Env := Env.of [(0, K.sl 0 ab), (1, K.clo al (K.kcons (K.ptr (0 + 1) ag []) (K.kcons (K.ptr (0 + 1 + 1) (Ty.slc ae) []) K.knil))), (7, K.val ae v7), (8, K.val ae v8)] [(0, Bx.row ab b0), (1, Bx.cell ag b1), (2, Bx.cell (Ty.slc ae) b2), (3, Bx.cell ag b3)]
noncomputable def j8 (v7 : den ae) (v8 : den ae) (b0 : List (den ab)) (b1 : den ag) (b2 : den (Ty.slc ae)) (b3 : den ag) : af := af.ite (decide (v8 < v7)) (af.req (inB v8 (lnx ab b0)) (af.req (inB v8 (lnx ab b0)) (af.req True (af.ite (bF (Prod.fst (Prod.fst b1)) b2 (el ab b0 v8)) (af.ite (decide (v8 = -1)) (af.ite (decide (lnx ab (Prod.fst (Prod.snd (Prod.snd b1))) = 0)) (af.req True (af.req (dV [(!eqb ab (Prod.fst (Prod.snd b1)) noM, true)] True) (af.all (den ab) (fun (q6 : den ab) ↦ q6 = noM) fun (q6 : den ab) ↦ af.ite (bif !eqb ab (Prod.fst (Prod.snd b1)) noM then bF (Prod.fst (Prod.fst b1)) b2 (Prod.fst (Prod.snd b1)) else false) (af.req True (af.all (den ab) (fun (q7 : den ab) ↦ q7 = noM) fun (q7 : den ab) ↦ af.ret (K.val (Ty.pair ag (Ty.pair ae Ty.unit)) ((Prod.fst b1, q7, List.set (List.replicate 1 (zero ab)) 0 (Prod.fst b1), b0, Prod.snd (Prod.snd (Prod.snd (Prod.snd b1)))), 0, PUnit.unit)))) (af.ret (K.val (Ty.pair ag (Ty.pair ae Ty.unit)) ((Prod.fst b1, Prod.fst (Prod.snd b1), List.set (List.replicate 1 (zero ab)) 0 (Prod.fst b1), b0, Prod.snd (Prod.snd (Prod.snd (Prod.snd b1)))), 0, PUnit.unit)))))) (af.req True (af.req (dV [(!eqb ab (Prod.fst (Prod.snd b1)) noM, true)] True) (af.all (den ab) (fun (q6 : den ab) ↦ q6 = noM) fun (q6 : den ab) ↦ af.ite (bif !eqb ab (Prod.fst (Prod.snd b1)) noM then bF (Prod.fst (Prod.fst b1)) b2 (Prod.fst (Prod.snd b1)) else false) (af.req True (af.all (den ab) (fun (q7 : den ab) ↦ q7 = noM) fun (q7 : den ab) ↦ af.ret (K.val (Ty.pair ag (Ty.pair ae Ty.unit)) ((Prod.fst b1, q7, Prod.fst (Prod.snd (Prod.snd b1)), b0, Prod.snd (Prod.snd (Prod.snd (Prod.snd b1)))), 0, PUnit.unit)))) (af.ret (K.val (Ty.pair ag (Ty.pair ae Ty.unit)) ((Prod.fst b1, Prod.fst (Prod.snd b1), Prod.fst (Prod.snd (Prod.snd b1)), b0, Prod.snd (Prod.snd (Prod.snd (Prod.snd b1)))), 0, PUnit.unit))))))) (af.loop [{ fx := bJ, todo := bw bO 5 4, dst := some 22, s := ofS [(2, K.ptr (0 + 1) ag []), (3, K.ptr (0 + 1 + 1) (Ty.slc ae) []), (4, K.ptr (0 + 1 + 1 + 1) ag []), (6, K.clo al (K.kcons (K.ptr (0 + 1) ag []) (K.kcons (K.ptr (0 + 1 + 1) (Ty.slc ae) []) K.knil)))] }] au (lp ar 5) [(0, K.sl 0 ab), (1, K.clo al (K.kcons (K.ptr (0 + 1) ag []) (K.kcons (K.ptr (0 + 1 + 1) (Ty.slc ae) []) K.knil))), (5, K.val ae v8), (6, K.val ae (IntKind.wrap IntKind.i64 (v8 + 1)))] [(0, Bx.row ab b0), (0 + 1, Bx.cell ag b1), (0 + 1 + 1, Bx.cell (Ty.slc ae) b2), (0 + 1 + 1 + 1, Bx.cell ag b3)])) (af.loop [{ fx := au, todo := bw ar 1 2, dst := some 10, s := ofS [(0, K.sl 0 ab), (1, K.clo al (K.kcons (K.ptr (0 + 1) ag []) (K.kcons (K.ptr (0 + 1 + 1) (Ty.slc ae) []) K.knil)))] }, { fx := bJ, todo := bw bO 5 4, dst := some 22, s := ofS [(2, K.ptr (0 + 1) ag []), (3, K.ptr (0 + 1 + 1) (Ty.slc ae) []), (4, K.ptr (0 + 1 + 1 + 1) ag []), (6, K.clo al (K.kcons (K.ptr (0 + 1) ag []) (K.kcons (K.ptr (0 + 1 + 1) (Ty.slc ae) []) K.knil)))] }] aD (lp aH 2) [(0, K.sl 0 ab), (1, K.clo al (K.kcons (K.ptr (0 + 1) ag []) (K.kcons (K.ptr (0 + 1 + 1) (Ty.slc ae) []) K.knil))), (7, K.val ae v7), (8, K.val ae (IntKind.wrap IntKind.i64 (v8 + 1)))] [(0, Bx.row ab b0), (0 + 1, Bx.cell ag b1), (0 + 1 + 1, Bx.cell (Ty.slc ae) b2), (0 + 1 + 1 + 1, Bx.cell ag b3)]))))) (af.ite (decide (-1 = -1)) (af.ite (decide (lnx ab (Prod.fst (Prod.snd (Prod.snd b1))) = 0)) (af.req True (af.req (dV [(!eqb ab (Prod.fst (Prod.snd b1)) noM, true)] True) (af.all (den ab) (fun (q6 : den ab) ↦ q6 = noM) fun (q6 : den ab) ↦ af.ite (bif !eqb ab (Prod.fst (Prod.snd b1)) noM then bF (Prod.fst (Prod.fst b1)) b2 (Prod.fst (Prod.snd b1)) else false) (af.req True (af.all (den ab) (fun (q7 : den ab) ↦ q7 = noM) fun (q7 : den ab) ↦ af.ret (K.val (Ty.pair ag (Ty.pair ae Ty.unit)) ((Prod.fst b1, q7, List.set (List.replicate 1 (zero ab)) 0 (Prod.fst b1), b0, Prod.snd (Prod.snd (Prod.snd (Prod.snd b1)))), 0, PUnit.unit)))) (af.ret (K.val (Ty.pair ag (Ty.pair ae Ty.unit)) ((Prod.fst b1, Prod.fst (Prod.snd b1), List.set (List.replicate 1 (zero ab)) 0 (Prod.fst b1), b0, Prod.snd (Prod.snd (Prod.snd (Prod.snd b1)))), 0, PUnit.unit)))))) (af.req True (af.req (dV [(!eqb ab (Prod.fst (Prod.snd b1)) noM, true)] True) (af.all (den ab) (fun (q6 : den ab) ↦ q6 = noM) fun (q6 : den ab) ↦ af.ite (bif !eqb ab (Prod.fst (Prod.snd b1)) noM then bF (Prod.fst (Prod.fst b1)) b2 (Prod.fst (Prod.snd b1)) else false) (af.req True (af.all (den ab) (fun (q7 : den ab) ↦ q7 = noM) fun (q7 : den ab) ↦ af.ret (K.val (Ty.pair ag (Ty.pair ae Ty.unit)) ((Prod.fst b1, q7, Prod.fst (Prod.snd (Prod.snd b1)), b0, Prod.snd (Prod.snd (Prod.snd (Prod.snd b1)))), 0, PUnit.unit)))) (af.ret (K.val (Ty.pair ag (Ty.pair ae Ty.unit)) ((Prod.fst b1, Prod.fst (Prod.snd b1), Prod.fst (Prod.snd (Prod.snd b1)), b0, Prod.snd (Prod.snd (Prod.snd (Prod.snd b1)))), 0, PUnit.unit))))))) (af.loop [{ fx := bJ, todo := bw bO 5 4, dst := some 22, s := ofS [(2, K.ptr (0 + 1) ag []), (3, K.ptr (0 + 1 + 1) (Ty.slc ae) []), (4, K.ptr (0 + 1 + 1 + 1) ag []), (6, K.clo al (K.kcons (K.ptr (0 + 1) ag []) (K.kcons (K.ptr (0 + 1 + 1) (Ty.slc ae) []) K.knil)))] }] au (lp ar 5) [(0, K.sl 0 ab), (1, K.clo al (K.kcons (K.ptr (0 + 1) ag []) (K.kcons (K.ptr (0 + 1 + 1) (Ty.slc ae) []) K.knil))), (5, K.val ae (-1)), (6, K.val ae (IntKind.wrap IntKind.i64 (-1 + 1)))] [(0, Bx.row ab b0), (0 + 1, Bx.cell ag b1), (0 + 1 + 1, Bx.cell (Ty.slc ae) b2), (0 + 1 + 1 + 1, Bx.cell ag b3)]))
theorem eJ (v7 : den ae) (v8 : den ae) (b0 : List (den ab)) (b1 : den ag) (b2 : den (Ty.slc ae)) (b3 : den ag) : aj gR ng 5000 (dm v7 v8 b0 b1 b2 b3) aD (lp aH 2) (dt v7 v8 b0 b1 b2 b3) = j8 v7 v8 b0 b1 b2 b3 := by kernel_rfl
noncomputable def fT (v5 : den ae) (v6 : den ae) (b0 : List (den ab)) (b1 : den ag) (b2 : den (Ty.slc ae)) (b3 : den ag) : List cr := [{ fx := bJ, todo := bw bO 4 4, dst := some 16, s := ofS [(2, K.ptr (0 + 1) ag []), (3, K.ptr (0 + 1 + 1) (Ty.slc ae) []), (4, K.ptr (0 + 1 + 1 + 1) ag []), (6, K.clo al (K.kcons (K.ptr (0 + 1) ag []) (K.kcons (K.ptr (0 + 1 + 1) (Ty.slc ae) []) K.knil)))] }]
noncomputable def fP (v5 : den ae) (v6 : den ae) (b0 : List (den ab)) (b1 : den ag) (b2 : den (Ty.slc ae)) (b3 : den ag) : Env := Env.of [(0, K.sl 0 ab), (1, K.clo al (K.kcons (K.ptr (0 + 1) ag []) (K.kcons (K.ptr (0 + 1 + 1) (Ty.slc ae) []) K.knil))), (5, K.val ae v5), (6, K.val ae v6)] [(0, Bx.row ab b0), (1, Bx.cell ag b1), (2, Bx.cell (Ty.slc ae) b2), (3, Bx.cell ag b3)]
noncomputable def kP (v5 : den ae) (v6 : den ae) (b0 : List (den ab)) (b1 : den ag) (b2 : den (Ty.slc ae)) (b3 : den ag) : af := af.ite (decide (v6 < lnx ab b0)) (af.req (inB v6 (lnx ab b0)) (af.req (inB v6 (lnx ab b0)) (af.req True (af.all (den Ty.bool) (fun (q6 : den Ty.bool) ↦ q6 = bF (Prod.fst (Prod.fst b1)) b2 (el ab b0 v6)) fun (q6 : den Ty.bool) ↦ af.ite (!q6) (af.req (inB v5 (lnx ab b0)) (af.req (inB v5 (lnx ab b0)) (af.loop [{ fx := bJ, todo := bw bO 4 4, dst := some 16, s := ofS [(2, K.ptr (0 + 1) ag []), (3, K.ptr (0 + 1 + 1) (Ty.slc ae) []), (4, K.ptr (0 + 1 + 1 + 1) ag []), (6, K.clo al (K.kcons (K.ptr (0 + 1) ag []) (K.kcons (K.ptr (0 + 1 + 1) (Ty.slc ae) []) K.knil)))] }] au (lp ar 5) [(0, K.sl 0 ab), (1, K.clo al (K.kcons (K.ptr (0 + 1) ag []) (K.kcons (K.ptr (0 + 1 + 1) (Ty.slc ae) []) K.knil))), (5, K.val ae (IntKind.wrap IntKind.i64 (v5 + 1))), (6, K.val ae (IntKind.wrap IntKind.i64 (v6 + 1)))] [(0, Bx.row ab (we ab b0 v5 (el ab b0 v6))), (0 + 1, Bx.cell ag b1), (0 + 1 + 1, Bx.cell (Ty.slc ae) b2), (0 + 1 + 1 + 1, Bx.cell ag b3)]))) (af.loop [{ fx := bJ, todo := bw bO 4 4, dst := some 16, s := ofS [(2, K.ptr (0 + 1) ag []), (3, K.ptr (0 + 1 + 1) (Ty.slc ae) []), (4, K.ptr (0 + 1 + 1 + 1) ag []), (6, K.clo al (K.kcons (K.ptr (0 + 1) ag []) (K.kcons (K.ptr (0 + 1 + 1) (Ty.slc ae) []) K.knil)))] }] au (lp ar 5) [(0, K.sl 0 ab), (1, K.clo al (K.kcons (K.ptr (0 + 1) ag []) (K.kcons (K.ptr (0 + 1 + 1) (Ty.slc ae) []) K.knil))), (5, K.val ae v5), (6, K.val ae (IntKind.wrap IntKind.i64 (v6 + 1)))] [(0, Bx.row ab b0), (0 + 1, Bx.cell ag b1), (0 + 1 + 1, Bx.cell (Ty.slc ae) b2), (0 + 1 + 1 + 1, Bx.cell ag b3)]))))) (af.req (vok 0 (List.length b0) (List.length b0)) (af.req (bQ v5 (↑(List.length b0) : Int) (↑(List.length b0 - 0) : Int)) (af.req (vok (0 + Int.toNat v5) (Int.toNat (↑(List.length b0) : Int) - Int.toNat v5) (List.length b0)) (af.req (bQ 0 v5 (lnx ab (over b0 (0 + Int.toNat v5) (List.replicate (Int.toNat (↑(List.length b0) : Int) - Int.toNat v5) (zero ab))))) (af.req (List.length (Prod.fst (Prod.snd (Prod.snd (Prod.snd b1)))) ≤ bV) (af.loop [{ fx := au, todo := bw ar 1 2, dst := some 10, s := ofS [(0, K.sl 0 ab), (1, K.clo al (K.kcons (K.ptr (0 + 1) ag []) (K.kcons (K.ptr (0 + 1 + 1) (Ty.slc ae) []) K.knil)))] }, { fx := bJ, todo := bw bO 5 4, dst := some 22, s := ofS [(2, K.ptr (0 + 1) ag []), (3, K.ptr (0 + 1 + 1) (Ty.slc ae) []), (4, K.ptr (0 + 1 + 1 + 1) ag []), (6, K.clo al (K.kcons (K.ptr (0 + 1) ag []) (K.kcons (K.ptr (0 + 1 + 1) (Ty.slc ae) []) K.knil)))] }] aD (lp aH 2) [(0, K.sl 0 ab), (1, K.clo al (K.kcons (K.ptr (0 + 1) ag []) (K.kcons (K.ptr (0 + 1 + 1) (Ty.slc ae) []) K.knil))), (7, K.val ae (lnx ab (Prod.fst (Prod.snd (Prod.snd (Prod.snd b1)))))), (8, K.val ae 0)] [(0, Bx.row ab (Prod.fst (Prod.snd (Prod.snd (Prod.snd b1))))), (0 + 1, Bx.cell ag (Prod.fst b1, Prod.fst (Prod.snd b1), List.take (Int.toNat v5) (over b0 (0 + Int.toNat v5) (List.replicate (Int.toNat (↑(List.length b0) : Int) - Int.toNat v5) (zero ab))), Prod.snd (Prod.snd (Prod.snd b1)))), (0 + 1 + 1, Bx.cell (Ty.slc ae) b2), (0 + 1 + 1 + 1, Bx.cell ag b3)]))))))
theorem eS (v5 : den ae) (v6 : den ae) (b0 : List (den ab)) (b1 : den ag) (b2 : den (Ty.slc ae)) (b3 : den ag) : aj gR ng 5000 (fT v5 v6 b0 b1 b2 b3) au (lp ar 5) (fP v5 v6 b0 b1 b2 b3) = kP v5 v6 b0 b1 b2 b3 := by kernel_rfl
noncomputable def fl (v5 : den ae) (v6 : den ae) (b0 : List (den ab)) (b1 : den ag) (b2 : den (Ty.slc ae)) (b3 : den ag) : List cr := [{ fx := bJ, todo := bw bO 5 4, dst := some 22, s := ofS [(2, K.ptr (0 + 1) ag []), (3, K.ptr (0 + 1 + 1) (Ty.slc ae) []), (4, K.ptr (0 + 1 + 1 + 1) ag []), (6, K.clo al (K.kcons (K.ptr (0 + 1) ag []) (K.kcons (K.ptr (0 + 1 + 1) (Ty.slc ae) []) K.knil)))] }]
noncomputable def fw (v5 : den ae) (v6 : den ae) (b0 : List (den ab)) (b1 : den ag) (b2 : den (Ty.slc ae)) (b3 : den ag) : Env := Env.of [(0, K.sl 0 ab), (1, K.clo al (K.kcons (K.ptr (0 + 1) ag []) (K.kcons (K.ptr (0 + 1 + 1) (Ty.slc ae) []) K.knil))), (5, K.val ae v5), (6, K.val ae v6)] [(0, Bx.row ab b0), (1, Bx.cell ag b1), (2, Bx.cell (Ty.slc ae) b2), (3, Bx.cell ag b3)]
noncomputable def jT (v5 : den ae) (v6 : den ae) (b0 : List (den ab)) (b1 : den ag) (b2 : den (Ty.slc ae)) (b3 : den ag) : af := af.ite (decide (v6 < lnx ab b0)) (af.req (inB v6 (lnx ab b0)) (af.req (inB v6 (lnx ab b0)) (af.req True (af.all (den Ty.bool) (fun (q6 : den Ty.bool) ↦ q6 = bF (Prod.fst (Prod.fst b1)) b2 (el ab b0 v6)) fun (q6 : den Ty.bool) ↦ af.ite (!q6) (af.req (inB v5 (lnx ab b0)) (af.req (inB v5 (lnx ab b0)) (af.loop [{ fx := bJ, todo := bw bO 5 4, dst := some 22, s := ofS [(2, K.ptr (0 + 1) ag []), (3, K.ptr (0 + 1 + 1) (Ty.slc ae) []), (4, K.ptr (0 + 1 + 1 + 1) ag []), (6, K.clo al (K.kcons (K.ptr (0 + 1) ag []) (K.kcons (K.ptr (0 + 1 + 1) (Ty.slc ae) []) K.knil)))] }] au (lp ar 5) [(0, K.sl 0 ab), (1, K.clo al (K.kcons (K.ptr (0 + 1) ag []) (K.kcons (K.ptr (0 + 1 + 1) (Ty.slc ae) []) K.knil))), (5, K.val ae (IntKind.wrap IntKind.i64 (v5 + 1))), (6, K.val ae (IntKind.wrap IntKind.i64 (v6 + 1)))] [(0, Bx.row ab (we ab b0 v5 (el ab b0 v6))), (0 + 1, Bx.cell ag b1), (0 + 1 + 1, Bx.cell (Ty.slc ae) b2), (0 + 1 + 1 + 1, Bx.cell ag b3)]))) (af.loop [{ fx := bJ, todo := bw bO 5 4, dst := some 22, s := ofS [(2, K.ptr (0 + 1) ag []), (3, K.ptr (0 + 1 + 1) (Ty.slc ae) []), (4, K.ptr (0 + 1 + 1 + 1) ag []), (6, K.clo al (K.kcons (K.ptr (0 + 1) ag []) (K.kcons (K.ptr (0 + 1 + 1) (Ty.slc ae) []) K.knil)))] }] au (lp ar 5) [(0, K.sl 0 ab), (1, K.clo al (K.kcons (K.ptr (0 + 1) ag []) (K.kcons (K.ptr (0 + 1 + 1) (Ty.slc ae) []) K.knil))), (5, K.val ae v5), (6, K.val ae (IntKind.wrap IntKind.i64 (v6 + 1)))] [(0, Bx.row ab b0), (0 + 1, Bx.cell ag b1), (0 + 1 + 1, Bx.cell (Ty.slc ae) b2), (0 + 1 + 1 + 1, Bx.cell ag b3)]))))) (af.req (vok 0 (List.length b0) (List.length b0)) (af.req (bQ v5 (↑(List.length b0) : Int) (↑(List.length b0 - 0) : Int)) (af.req (vok (0 + Int.toNat v5) (Int.toNat (↑(List.length b0) : Int) - Int.toNat v5) (List.length b0)) (af.req (bQ 0 v5 (lnx ab (over b0 (0 + Int.toNat v5) (List.replicate (Int.toNat (↑(List.length b0) : Int) - Int.toNat v5) (zero ab))))) (af.ite (decide (lnx ab (Prod.fst (Prod.snd (Prod.snd b1))) = 0)) (af.req True (af.req (dV [(!eqb ab (Prod.fst (Prod.snd b1)) noM, true)] True) (af.all (den ab) (fun (q6 : den ab) ↦ q6 = noM) fun (q6 : den ab) ↦ af.ite (bif !eqb ab (Prod.fst (Prod.snd b1)) noM then bF (Prod.fst (Prod.fst b1)) b2 (Prod.fst (Prod.snd b1)) else false) (af.req True (af.all (den ab) (fun (q7 : den ab) ↦ q7 = noM) fun (q7 : den ab) ↦ af.ret (K.val (Ty.pair ag (Ty.pair ae Ty.unit)) ((Prod.fst b1, q7, List.set (List.replicate 1 (zero ab)) 0 (Prod.fst b1), List.take (Int.toNat v5) (over b0 (0 + Int.toNat v5) (List.replicate (Int.toNat (↑(List.length b0) : Int) - Int.toNat v5) (zero ab))), Prod.snd (Prod.snd (Prod.snd (Prod.snd b1)))), 0, PUnit.unit)))) (af.ret (K.val (Ty.pair ag (Ty.pair ae Ty.unit)) ((Prod.fst b1, Prod.fst (Prod.snd b1), List.set (List.replicate 1 (zero ab)) 0 (Prod.fst b1), List.take (Int.toNat v5) (over b0 (0 + Int.toNat v5) (List.replicate (Int.toNat (↑(List.length b0) : Int) - Int.toNat v5) (zero ab))), Prod.snd (Prod.snd (Prod.snd (Prod.snd b1)))), 0, PUnit.unit)))))) (af.req True (af.req (dV [(!eqb ab (Prod.fst (Prod.snd b1)) noM, true)] True) (af.all (den ab) (fun (q6 : den ab) ↦ q6 = noM) fun (q6 : den ab) ↦ af.ite (bif !eqb ab (Prod.fst (Prod.snd b1)) noM then bF (Prod.fst (Prod.fst b1)) b2 (Prod.fst (Prod.snd b1)) else false) (af.req True (af.all (den ab) (fun (q7 : den ab) ↦ q7 = noM) fun (q7 : den ab) ↦ af.ret (K.val (Ty.pair ag (Ty.pair ae Ty.unit)) ((Prod.fst b1, q7, Prod.fst (Prod.snd (Prod.snd b1)), List.take (Int.toNat v5) (over b0 (0 + Int.toNat v5) (List.replicate (Int.toNat (↑(List.length b0) : Int) - Int.toNat v5) (zero ab))), Prod.snd (Prod.snd (Prod.snd (Prod.snd b1)))), 0, PUnit.unit)))) (af.ret (K.val (Ty.pair ag (Ty.pair ae Ty.unit)) ((Prod.fst b1, Prod.fst (Prod.snd b1), Prod.fst (Prod.snd (Prod.snd b1)), List.take (Int.toNat v5) (over b0 (0 + Int.toNat v5) (List.replicate (Int.toNat (↑(List.length b0) : Int) - Int.toNat v5) (zero ab))), Prod.snd (Prod.snd (Prod.snd (Prod.snd b1)))), 0, PUnit.unit)))))))))))
theorem eB (v5 : den ae) (v6 : den ae) (b0 : List (den ab)) (b1 : den ag) (b2 : den (Ty.slc ae)) (b3 : den ag) : aj gR ng 5000 (fl v5 v6 b0 b1 b2 b3) au (lp ar 5) (fw v5 v6 b0 b1 b2 b3) = jT v5 v6 b0 b1 b2 b3 := by kernel_rfl
end Go.Proofs.Ytimdnodkabnbfaa
namespace Go.Proofs.Ytimdnodkabnbfaa
open Go Go.RowKit
abbrev LL := List (List Mem)
abbrev GCc (O : Nat → Prop) (w0 : World) (bk : Option Nat) (s : LL) := bG prog cR (rcx O w0 bk) (uM prog O w0 bk ab (s.flatten : List Mem))
theorem uo (s : LL) {i : Nat} (hi : i < s.length) : (s.take (i + 1)).flatten = (s.take i).flatten ++ s[i] := by
 rw [List.take_succ_eq_append_getElem hi, List.flatten_append, List.flatten_cons, List.flatten_nil, List.append_nil]
theorem wG (s : LL) (i : Nat) : (s.take i).flatten.length ≤ s.flatten.length := by
 have h : s.flatten = (s.take i).flatten ++ (s.drop i).flatten := by rw [← List.flatten_append, List.take_append_drop]
 rw [h, List.length_append]; omega
def G6 (O : Nat → Prop) (w0 : World) (bk : Option Nat) (s : LL) (hm : s.length ≤ maxLen) (ht : s.flatten.length ≤ 1073741824) :=
 PLift.up <| bN (σ := List Mem) s.length (fun i b => b = (s.take i).flatten)
  (fun i b => GCc O w0 bk s [] aP (lp aO 11) (jX s (lnx (Ty.slc ab) s) (i : Nat) b))
  (fun i b hi hs ih => lS cD (iz s _ _ b) (by
   have e := uo s hi
   have hle := wG s (i + 1)
   refine ⟨fun _ => ⟨bf hi, ?_⟩, fun hc => absurd hi (by rw [cL (e := Ty.slc ab)] at hc; exact of_decide_eq_false hc)⟩
   rw [bS (e := Ty.slc ab) hi, cN hi hm, hs, ← e]
   exact ⟨Nat.le_trans hle ht, ih _ rfl⟩))
  (fun b hs => lS cD (iz s _ _ b) ⟨fun hc => absurd (of_decide_eq_true hc) (Int.lt_irrefl _), fun _ => ⟨(by simp [vok]), by
   show K.val (.slc ab) (nv ab b 0 (List.length b)) = K.val (.slc ab) (s.flatten : List Mem)
   rw [zX _ rfl, hs, List.take_length]⟩⟩)
theorem Gw (O : Nat → Prop) (w0 : World) (bk : Option Nat) (s : LL) (hm : s.length ≤ maxLen) (ht : s.flatten.length ≤ 1073741824) : GCc O w0 bk s [] aP (lp aO 11) (jU s (lnx (Ty.slc ab) s) 0) :=
  lS cD (oA s _ _) (by
    have hle := wG s (0 + 1)
    refine ⟨fun hc => ?_, fun hc => ?_⟩
    · have hi : 0 < s.length := Int.ofNat_lt.1 (of_decide_eq_true hc)
      have e := uo s hi
      refine ⟨bf hi, ?_⟩
      have e0 : el (Ty.slc ab) s 0 = s[0] := bS (e := Ty.slc ab) hi
      have e1 : (s.take (0 + 1)).flatten = s[0] := by rw [e]; rfl
      rw [e0, show IntKind.wrap .i64 ((0 : Int) + 1) = ((0 + 1 : Nat) : Int) from rfl, ← e1]
      exact ⟨Nat.le_trans hle ht, (G6 O w0 bk s hm ht).down 1 _ hi rfl⟩
    · have hi : s.length = 0 := by
        have : ¬ (0 : Int) < ((s.length : Nat) : Int) := of_decide_eq_false hc
        omega
      show K.val (.slc ab) [] = K.val (.slc ab) (s.flatten : List Mem)
      rw [List.eq_nil_of_length_eq_zero hi]
      rfl)
theorem Nc {α : Type} {zs pre ys : List α} (h : zs.take pre.length = pre) (hl : pre.length + ys.length ≤ zs.length) : (over zs pre.length ys).take (pre ++ ys).length = pre ++ ys := by
 rw [List.length_append, Mm (by omega), h]
def HX (O : Nat → Prop) (w0 : World) (bk : Option Nat) (s : LL) (hm : s.length ≤ maxLen) :=
 PLift.up <| bN (σ := List Mem) s.length (fun i b => b.length = s.flatten.length ∧ b.take (s.take i).flatten.length = (s.take i).flatten)
  (fun i b => GCc O w0 bk s [] aP (lp aO 11) (lC 0 (s.take i).flatten.length s (lnx (Ty.slc ab) s) (i : Nat) b))
  (fun i b hi hs ih => lS cD (jr 0 _ s _ _ b) (by
   obtain ⟨h1, h2⟩ := hs
   have e := uo s hi
   have el' : (s.take (i + 1)).flatten.length = (s.take i).flatten.length + s[i].length := by rw [e, List.length_append]
   have hle := wG s (i + 1)
   have hle0 := wG s i
   refine ⟨fun _ => ⟨bf hi, ?_⟩, fun hc => absurd hi (by rw [cL (e := Ty.slc ab)] at hc; exact of_decide_eq_false hc)⟩
   rw [bS (e := Ty.slc ab) hi, cN hi hm, Nat.zero_add, ← el', h1]
   refine ⟨(by unfold vok; omega), hle, ih _ ⟨?_, ?_⟩⟩
   ·show (over b (s.take i).flatten.length s[i]).length = _
    rw [B9 (by omega), h1]
   ·have := Nc (ys := s[i]) h2 (by omega)
    rw [← e] at this
    exact this))
  (fun b hs => lS cD (jr 0 _ s _ _ b) ⟨fun hc => absurd (of_decide_eq_true hc) (Int.lt_irrefl _), fun _ => by
   obtain ⟨h1, h2⟩ := hs
   rw [List.take_length] at h2 ⊢
   refine ⟨(by unfold vok; omega), ?_⟩
   show K.val (.slc ab) (nv ab b 0 (s.flatten : List Mem).length) = K.val (.slc ab) (s.flatten : List Mem)
   rw [LF, h2]⟩)
def MD (O : Nat → Prop) (w0 : World) (bk : Option Nat) (s : LL) (hm : s.length ≤ maxLen) (ht : s.flatten.length ≤ 1073741824) :=
 PLift.up <| bN (σ := Unit) s.length (fun _ _ => True)
  (fun i _ => GCc O w0 bk s [] aP (lp aO 3) (me s ((s.take i).flatten.length : Nat) s (lnx (Ty.slc ab) s) (i : Nat)))
  (fun i _ hi _ ih => lS cD (jC s _ s _ _) (by
   have e := uo s hi
   have el' : (s.take (i + 1)).flatten.length = (s.take i).flatten.length + s[i].length := by rw [e, List.length_append]
   have hle := wG s (i + 1)
   refine ⟨fun _ => ⟨bf hi, ?_⟩, fun hc => absurd hi (by rw [cL (e := Ty.slc ab)] at hc; exact of_decide_eq_false hc)⟩
   have e2 : IntKind.wrap .i64 ((((s.take i).flatten.length : Nat) : Int) + lnx ab s[i]) = (((s.take (i + 1)).flatten.length : Nat) : Int) := by
    rw [el', show lnx ab s[i] = ((s[i].length : Nat) : Int) from rfl, cP (by omega)]; omega
   rw [bS (e := Ty.slc ab) hi, cN hi hm, e2]
   exact ⟨fun hc => absurd (of_decide_eq_true hc) (by omega), fun _ => ih () trivial⟩))
  (fun _ _ => lS cD (jC s _ s _ _) ⟨fun hc => absurd (of_decide_eq_true hc) (Int.lt_irrefl _), fun _ => by
   rw [List.take_length]
   have e0 : IntKind.wrap .i64 ((((s.flatten : List Mem).length : Nat) : Int) - IntKind.wrap .i64 (0 - 0)) = (((s.flatten : List Mem).length : Nat) : Int) := by
    rw [show IntKind.wrap .i64 ((0 : Int) - 0) = 0 from rfl, cP (by omega)]; omega
   rw [e0]
   refine ⟨fun hc => absurd (of_decide_eq_true hc) (Int.not_lt.2 (Int.natCast_nonneg _)), fun _ => ⟨fun hc => ?_, fun hc => Gw O w0 bk s hm ht⟩⟩
   have hc := of_decide_eq_true hc
   rw [Int.toNat_natCast]
   refine ⟨⟨Int.le_refl _, Int.le_refl _, Int.le_refl _⟩, hc, ht, (by simp [vok]), ⟨Int.le_refl _, Int.le_refl _, Int.natCast_nonneg _⟩, ?_⟩
   exact (HX O w0 bk s hm).down 0 _ (Nat.zero_le _) ⟨List.length_replicate .., rfl⟩⟩)
theorem ud : mB prog [] ci vq :=
 Fv cD (fx := aP) rfl ug (by kernel_rfl) (T := fun _ y => np y.1) (fun xs y _ => sr y.1) fun O w0 bk xs y hxl hy hp =>
  (MD O w0 bk y.1 hy.1.1 hp).down 0 () (Nat.zero_le _) trivial
end Go.Proofs.Ytimdnodkabnbfaa
namespace Go.Proofs.Ytimdnodkabnbfaa
open Go Go.RowKit
structure lg (g : Mem → Bool) (l : List Mem) (k i : Nat) (b : List Mem) : Prop where
 le : k ≤ i
 il : i ≤ l.length
 len : b.length = l.length
 pre : b.take k = (l.take i).filter (fun m => !g m)
 post : b.drop i = l.drop i
theorem lg.at {g : Mem → Bool} {l b : List Mem} {k i : Nat} (h : lg g l k i b) (hi : i < l.length) (hb : i < b.length) : b[i] = l[i] := by
 have h1 := h.post
 rw [List.drop_eq_getElem_cons hb, List.drop_eq_getElem_cons hi] at h1
 exact (List.cons.inj h1).1
theorem lg.keep {g : Mem → Bool} {l b : List Mem} {k i : Nat} (h : lg g l k i b) (hi : i < l.length) (hg : g l[i] = false) : lg g l (k + 1) (i + 1) (b.set k l[i]) := by
 have h0 := h.le
 have h3 := h.len
 refine ⟨by omega, hi, by rw [List.length_set, h3], ?_, ?_⟩
 ·rw [List.take_succ_eq_append_getElem hi, List.filter_append, ← h.pre, List.take_succ_eq_append_getElem (by rw [List.length_set]; omega), List.getElem_set_self, List.take_set_of_le (Nat.le_refl _)]
  simp [hg]
 ·rw [List.drop_set_of_lt (by omega)]
  have h1 := h.post
  rw [List.drop_eq_getElem_cons (show i < b.length by omega), List.drop_eq_getElem_cons hi] at h1
  exact (List.cons.inj h1).2
theorem lg.skip {g : Mem → Bool} {l b : List Mem} {k i : Nat} (h : lg g l k i b) (hi : i < l.length) (hg : g l[i] = true) : lg g l k (i + 1) b := by
 have h0 := h.le
 have h3 := h.len
 refine ⟨by omega, hi, h3, ?_, ?_⟩
 ·rw [List.take_succ_eq_append_getElem hi, List.filter_append, ← h.pre]
  simp [hg]
 ·have h1 := h.post
  rw [List.drop_eq_getElem_cons (show i < b.length by omega), List.drop_eq_getElem_cons hi] at h1
  exact (List.cons.inj h1).2
theorem lg.first {g : Mem → Bool} {l : List Mem} {i : Nat} (hi : i < l.length) (h0 : ∀ m ∈ l.take i, g m = false) (hg : g l[i] = true) : lg g l i (i + 1) l :=
 ⟨Nat.le_succ _, hi, rfl, by
  rw [List.take_succ_eq_append_getElem hi, List.filter_append, List.filter_eq_self.2 (fun m hm => by simp [h0 m hm])]
  simp [hg], rfl⟩
theorem lg.done {g : Mem → Bool} {l b : List Mem} {k : Nat} (h : lg g l k l.length b) {z : Mem} {n : Nat} : (over b k (List.replicate n z)).take k = l.filter (fun m => !g m) := by
 have h0 := h.le
 have h3 := h.len
 rw [Jl (Nat.le_refl _) (by omega), h.pre, List.take_length]
theorem HV {g : Mem → Bool} {l : List Mem} (h0 : ∀ m ∈ l, g m = false) : l.filter (fun m => !g m) = l := List.filter_eq_self.2 (fun m hm => by simp [h0 m hm])
end Go.Proofs.Ytimdnodkabnbfaa
namespace Go.Proofs.Ytimdnodkabnbfaa
open Go Go.RowKit
abbrev GDr (O : Nat → Prop) (w0 : World) (y : Nd) := bG prog gR (Cx.base O w0) (cG prog O w0 jP fun z => z = (y, 0, ()))
theorem fk : XOk prog gR := Jx lM vu GP vN
def mJ (n : Nd) (nos : List Int) (f : List Mem) : Nd := (n.1, (bif (bif !decide (n.2.1 = noM) then bF n.1.1 nos n.2.1 else false) then noM else n.2.1), u5 n n.2.2.1, f, ())
def Nu (O : Nat → Prop) (w0 : World) (n r : Nd) (nos : List Int) (l : List Mem) (hm : l.length ≤ maxLen) :=
  PLift.up <| bN (σ := Nat × List Mem) l.length (fun i s => lg (bF n.1.1 nos) l s.1 i s.2)
    (fun i s => GDr O w0 (mJ n nos (l.filter fun m => !bF n.1.1 nos m)) (fl (s.1 : Nat) (i : Nat) s.2 n nos r) au (lp ar 5) (fw (s.1 : Nat) (i : Nat) s.2 n nos r))
    (fun i s hi hs ih => aM fk (eB _ _ s.2 n nos r) (by
      obtain ⟨k, b⟩ := s
      have hs : lg (bF n.1.1 nos) l k i b := hs
      have hb : i < b.length := by rw [hs.len]; exact hi
      have hk : k < b.length := by have := hs.le; omega
      have hat := hs.at hi hb
      refine ⟨fun _ => ⟨bf hb, bf hb, trivial, ?_⟩, fun hc => absurd hb (by rw [cL] at hc; exact of_decide_eq_false hc)⟩
      rw [bS hb, hat, cN hi hm, cN (show k < l.length by rw [← hs.len]; exact hk) hm]
      refine bn ⟨fun hc => ⟨bf hk, bf hk, ih (k + 1, b.set k l[i]) (hs.keep hi ?_)⟩, fun hc => ih (k, b) (hs.skip hi ?_)⟩
      · have hc : (!bF n.1.1 nos l[i]) = true := hc
        simpa using hc
      · have hc : (!bF n.1.1 nos l[i]) = false := hc
        simpa using hc))
    (fun s hs => aM fk (eB _ _ s.2 n nos r) (by
      obtain ⟨k, b⟩ := s
      have hs : lg (bF n.1.1 nos) l k l.length b := hs
      have hl := hs.len
      have hle := hs.le
      refine ⟨fun hc => absurd (of_decide_eq_true hc) (by rw [show lnx ab b = ((l.length : Nat) : Int) from congrArg Nat.cast hl]; exact Int.lt_irrefl _), fun _ => ⟨(by simp [vok]), (show bQ ((k : Nat) : Int) ((b.length : Nat) : Int) ((b.length - 0 : Nat) : Int) from ⟨by omega, by omega, by omega⟩), (by simp [vok]; omega), ?_, ?_⟩⟩
      · have : lnx ab (over b (0 + Int.toNat ((k : Nat) : Int)) (List.replicate (Int.toNat ((b.length : Nat) : Int) - Int.toNat ((k : Nat) : Int)) (zero ab))) = ((b.length : Nat) : Int) := congrArg Nat.cast (B9 (by rw [List.length_replicate]; simp only [Int.toNat_natCast]; omega))
        show bQ 0 ((k : Nat) : Int) (lnx ab (over b (0 + Int.toNat ((k : Nat) : Int)) (List.replicate (Int.toNat ((b.length : Nat) : Int) - Int.toNat ((k : Nat) : Int)) (zero ab))))
        rw [this]
        exact ⟨Int.le_refl _, by omega, by omega⟩
      · have hF : List.take (Int.toNat ((k : Nat) : Int)) (over b (0 + Int.toNat ((k : Nat) : Int)) (List.replicate (Int.toNat ((b.length : Nat) : Int) - Int.toNat ((k : Nat) : Int)) (zero ab))) = l.filter fun m => !bF n.1.1 nos m := by
          simp only [Int.toNat_natCast, Nat.zero_add]
          exact hs.done
        have fin : ∀ {p : Nd}, mJ n nos (l.filter fun m => !bF n.1.1 nos m) = p → ∃ z, bt jP (K.val (Ty.pair ag (Ty.pair ae Ty.unit)) (p, 0, ())) = some z ∧ z = (mJ n nos (l.filter fun m => !bF n.1.1 nos m), 0, ()) := fun {p} e => ⟨_, rfl, by rw [e]⟩
        rw [← hF] at fin ⊢
        have cases2 : ∀ {su : List Mem}, u5 n n.2.2.1 = su → True := fun _ => trivial
        refine ⟨fun h => ⟨trivial, fun _ => trivial, bn ⟨fun h2 => ⟨trivial, bn (fin ?_)⟩, fun h2 => fin ?_⟩⟩, fun h => ⟨trivial, fun _ => trivial, bn ⟨fun h2 => ⟨trivial, bn (fin ?_)⟩, fun h2 => fin ?_⟩⟩⟩
        all_goals
          rw [kW] at h2
          unfold mJ u5
          rw [h, h2]
          rfl))
theorem Ga {g : Mem → Bool} {l : List Mem} {i : Nat} (hi : i < l.length) (h : ∀ m ∈ l.take i, g m = false) (hg : g l[i] = false) : ∀ m ∈ l.take (i + 1), g m = false := fun m hm => by
 rw [List.take_succ_eq_append_getElem hi] at hm
 rcases List.mem_append.1 hm with hm | hm
 ·exact h m hm
 ·rw [List.mem_singleton.1 hm]; exact hg
def MQ (O : Nat → Prop) (w0 : World) (n r : Nd) (nos : List Int) (l : List Mem) (hm : l.length ≤ maxLen) :=
 PLift.up <| bN (σ := Unit) l.length (fun i _ => ∀ m ∈ l.take i, bF n.1.1 nos m = false)
  (fun i _ => GDr O w0 (mJ n nos (l.filter fun m => !bF n.1.1 nos m)) (dm (lnx ab l) (i : Nat) l n nos r) aD (lp aH 2) (dt (lnx ab l) (i : Nat) l n nos r))
  (fun i _ hi hs ih => aM fk (eJ _ _ l n nos r) (by
   refine ⟨fun _ => ⟨bf hi, bf hi, trivial, ?_⟩, fun hc => absurd hi (by rw [cL] at hc; exact of_decide_eq_false hc)⟩
   rw [bS hi, cN hi hm]
   refine ⟨fun hg => ⟨fun hc => ?_, fun _ => (Nu O w0 n r nos l hm).down (i + 1) (i, l) hi (.first hi hs hg)⟩, fun hg => ih () (Ga hi hs hg)⟩
   have hc : ((i : Nat) : Int) = -1 := of_decide_eq_true hc
   omega))
  (fun _ hs => aM fk (eJ _ _ l n nos r) (by
   rw [List.take_length] at hs
   have hF := HV hs
   refine ⟨fun hc => absurd (of_decide_eq_true hc) (Int.lt_irrefl _), fun _ => ⟨fun _ => ?_, fun hc => (by cases hc)⟩⟩
   rw [hF]
   have fin : ∀ {p : Nd}, mJ n nos l = p → ∃ z, bt jP (K.val (Ty.pair ag (Ty.pair ae Ty.unit)) (p, 0, ())) = some z ∧ z = (mJ n nos l, 0, ()) := fun {p} e => ⟨_, rfl, by rw [e]⟩
   refine ⟨fun h => ⟨trivial, fun _ => trivial, bn ⟨fun h2 => ⟨trivial, bn (fin ?_)⟩, fun h2 => fin ?_⟩⟩, fun h => ⟨trivial, fun _ => trivial, bn ⟨fun h2 => ⟨trivial, bn (fin ?_)⟩, fun h2 => fin ?_⟩⟩⟩
   all_goals
    rw [kW] at h2
    unfold mJ u5
    rw [h, h2]
    rfl))
theorem O2 (n : Nd) (nos : List Int) : mJ (n.1, n.2.1, n.2.2.1.filter (fun m => !bF n.1.1 nos m), n.2.2.2) nos (n.2.2.2.1.filter fun m => !bF n.1.1 nos m) = nN n nos := rfl
theorem Gb (O : Nat → Prop) (w0 : World) (n r : Nd) (nos : List Int) (su : List Mem) (hsu : su = n.2.2.1.filter (fun m => !bF n.1.1 nos m)) (hf : n.2.2.2.1.length ≤ 16) :
    GDr O w0 (nN n nos) (dm (lnx ab n.2.2.2.1) 0 n.2.2.2.1 (n.1, n.2.1, su, n.2.2.2) nos r) aD (lp aH 2) (dt (lnx ab n.2.2.2.1) 0 n.2.2.2.1 (n.1, n.2.1, su, n.2.2.2) nos r) := by
  subst hsu
  rw [← O2]
  exact (MQ O w0 (n.1, n.2.1, n.2.2.1.filter (fun m => !bF n.1.1 nos m), n.2.2.2) r nos n.2.2.2.1 (Nat.le_trans hf (by decide))).down 0 () (Nat.zero_le _) (fun m hm => by cases hm)
def Nf (O : Nat → Prop) (w0 : World) (n r : Nd) (nos : List Int) (hm : n.2.2.1.length ≤ maxLen) (hf : n.2.2.2.1.length ≤ 16) :=
 PLift.up <| bN (σ := Nat × List Mem) n.2.2.1.length (fun i s => lg (bF n.1.1 nos) n.2.2.1 s.1 i s.2)
  (fun i s => GDr O w0 (nN n nos) (fT (s.1 : Nat) (i : Nat) s.2 n nos r) au (lp ar 5) (fP (s.1 : Nat) (i : Nat) s.2 n nos r))
  (fun i s hi hs ih => aM fk (eS _ _ s.2 n nos r) (by
   obtain ⟨k, b⟩ := s
   have hs : lg (bF n.1.1 nos) n.2.2.1 k i b := hs
   have hb : i < b.length := by rw [hs.len]; exact hi
   have hk : k < b.length := by have := hs.le; omega
   have hat := hs.at hi hb
   refine ⟨fun _ => ⟨bf hb, bf hb, trivial, ?_⟩, fun hc => absurd hb (by rw [cL] at hc; exact of_decide_eq_false hc)⟩
   rw [bS hb, hat, cN hi hm, cN (show k < n.2.2.1.length by rw [← hs.len]; exact hk) hm]
   refine bn ⟨fun hc => ⟨bf hk, bf hk, ih (k + 1, b.set k n.2.2.1[i]) (hs.keep hi ?_)⟩, fun hc => ih (k, b) (hs.skip hi ?_)⟩
   ·have hc : (!bF n.1.1 nos n.2.2.1[i]) = true := hc
    simpa using hc
   ·have hc : (!bF n.1.1 nos n.2.2.1[i]) = false := hc
    simpa using hc))
  (fun s hs => aM fk (eS _ _ s.2 n nos r) (by
   obtain ⟨k, b⟩ := s
   have hs : lg (bF n.1.1 nos) n.2.2.1 k n.2.2.1.length b := hs
   have hl := hs.len
   have hle := hs.le
   refine ⟨fun hc => absurd (of_decide_eq_true hc) (by rw [show lnx ab b = ((n.2.2.1.length : Nat) : Int) from congrArg Nat.cast hl]; exact Int.lt_irrefl _), fun _ => ⟨(by simp [vok]), (show bQ ((k : Nat) : Int) ((b.length : Nat) : Int) ((b.length - 0 : Nat) : Int) from ⟨by omega, by omega, by omega⟩), (by simp [vok]; omega), ?_, Nat.le_trans hf (by decide), ?_⟩⟩
   ·have : lnx ab (over b (0 + Int.toNat ((k : Nat) : Int)) (List.replicate (Int.toNat ((b.length : Nat) : Int) - Int.toNat ((k : Nat) : Int)) (zero ab))) = ((b.length : Nat) : Int) := congrArg Nat.cast (B9 (by rw [List.length_replicate]; simp only [Int.toNat_natCast]; omega))
    show bQ 0 ((k : Nat) : Int) (lnx ab (over b (0 + Int.toNat ((k : Nat) : Int)) (List.replicate (Int.toNat ((b.length : Nat) : Int) - Int.toNat ((k : Nat) : Int)) (zero ab))))
    rw [this]
    exact ⟨Int.le_refl _, by omega, by omega⟩
   ·refine Gb O w0 n r nos _ ?_ hf
    simp only [Int.toNat_natCast, Nat.zero_add]
    exact hs.done))
def Nm (O : Nat → Prop) (w0 : World) (n r : Nd) (nos : List Int) (hm : n.2.2.1.length ≤ maxLen) (hf : n.2.2.2.1.length ≤ 16) :=
 PLift.up <| bN (σ := Unit) n.2.2.1.length (fun i _ => ∀ m ∈ n.2.2.1.take i, bF n.1.1 nos m = false)
  (fun i _ => GDr O w0 (nN n nos) (ga (lnx ab n.2.2.1) (i : Nat) n.2.2.1 n nos r) aD (lp aH 2) (gb (lnx ab n.2.2.1) (i : Nat) n.2.2.1 n nos r))
  (fun i _ hi hs ih => aM fk (fa _ _ n.2.2.1 n nos r) (by
   refine ⟨fun _ => ⟨bf hi, bf hi, trivial, ?_⟩, fun hc => absurd hi (by rw [cL] at hc; exact of_decide_eq_false hc)⟩
   rw [bS hi, cN hi hm]
   refine ⟨fun hg => ⟨fun hc => ?_, fun _ => (Nf O w0 n r nos hm hf).down (i + 1) (i, n.2.2.1) hi (.first hi hs hg)⟩, fun hg => ih () (Ga hi hs hg)⟩
   have hc : ((i : Nat) : Int) = -1 := of_decide_eq_true hc
   omega))
  (fun _ hs => aM fk (fa _ _ n.2.2.1 n nos r) (by
   rw [List.take_length] at hs
   exact ⟨fun hc => absurd (of_decide_eq_true hc) (Int.lt_irrefl _), fun _ => ⟨fun _ => ⟨Nat.le_trans hf (by decide), Gb O w0 n r nos n.2.2.1 (HV hs).symm hf⟩, fun hc => (by cases hc)⟩⟩))
theorem Hq {n : Nd} (h : aZ n = true) : n.2.2.1.length ≤ 4 ∧ 1 ≤ n.2.2.1.length ∧ n.2.2.2.1.length ≤ 16 := by
 unfold aZ wc at h
 simp only [Bool.cond_eq_ite, Bool.ite_eq_true_distrib] at h
 have e1 : lnx ab n.2.2.1 = ((n.2.2.1.length : Nat) : Int) := rfl
 have e2 : lnx ab n.2.2.2.1 = ((n.2.2.2.1.length : Nat) : Int) := rfl
 rw [e1, e2] at h
 by_cases h1 : (1 : Int) ≤ ((n.2.2.1.length : Nat) : Int) <;> by_cases h2 : ((n.2.2.1.length : Nat) : Int) ≤ 4 <;> by_cases h3 : ((n.2.2.2.1.length : Nat) : Int) ≤ 16 <;> simp [h1, h2, h3] at h
 exact ⟨by omega, by omega, by omega⟩
theorem J9 : ap prog [] qj qb :=
 bL (S := qb) fk (fx := bJ) Hm (by kernel_rfl) (fun _ _ => trivial) (T := fun x => Bv x.1 x.2.1) (fun x => Fo x.1 x.2.1) fun O w0 x _ _ => by
  obtain ⟨n, nos, ⟨⟩⟩ := x
  refine ⟨trivial, bn ⟨fun h => ⟨_, rfl, ?_⟩, fun h => ?_⟩⟩
  ·have h : (!aZ n) = true := h
   show _ = ((g6 n nos).1, (g6 n nos).2, ())
   unfold g6
   rw [h]
   rfl
  ·have h : (!aZ n) = false := h
   have hr : aZ n = true := by simpa using h
   obtain ⟨l1, l2, l3⟩ := Hq hr
   refine ⟨Nat.le_trans l1 (by decide), ?_⟩
   have e : g6 n nos = (nN n nos, 0) := by unfold g6; rw [h]; rfl
   show bG _ _ _ (cG prog O w0 jP fun z => z = ((g6 n nos).1, (g6 n nos).2, ())) _ _ _ _
   rw [e]
   exact (Nm O w0 n (zero ag) nos (Nat.le_trans l1 (by decide)) l3).down 0 () (Nat.zero_le _) (fun m hm => by cases hm)
end Go.Proofs.Ytimdnodkabnbfaa
namespace Go.Proofs.Ytimdnodkabnbfaa
open Go Go.RowKit
def ai (l : List Nd) : List Mem := l.map sfN
def cg (n : Nd) : List Mem := [n.2.1] ++ n.2.2.1 ++ n.2.2.2.1
def fN (l : List Nd) (no : Int) : Bool := l.any fun n => decide (n.1.1 = no)
def A1 (l : List Nd) (no : Int) : Bool := bif decide ((C3 (ai l) no).1 = no) then decide (0 ≤ no) else false
def noN : Nd := (noM, zero (Ty.pair ab (Ty.pair (Ty.slc ab) (Ty.pair (Ty.slc ab) Ty.unit))))
def Lj (l : List Nd) (no : Int) : Nd := (l.find? fun n => decide (n.1.1 = no)).getD noN
end Go.Proofs.Ytimdnodkabnbfaa
