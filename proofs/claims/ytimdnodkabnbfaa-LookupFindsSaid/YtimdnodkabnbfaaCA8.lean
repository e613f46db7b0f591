/- Part 8 of 10 of what this claim's proof stands on: a theory of programs on data, and the contracts of the functions that the law reaches. It holds no condition of its own. -/
import Derived.Test.YtimdnodkabnbfaaCA7
namespace Go.Proofs.Ytimdnodkabnbfaa
open Go Go.RowKit
noncomputable abbrev i9 : Fx := { fn := fL, ann := { } }
noncomputable abbrev ju : bg := { D := { T := br, F := [(co, cK)], R := [], ovl := [] }, inl := [] }
noncomputable abbrev oZ : bF := .data i7
theorem oW (h_slices_IndexFunc_Member : ay prog [] co cK) : XOk prog ju := xok (ax (aU aY aM) h_slices_IndexFunc_Member) (by kernel_rfl) aS a6 aZ
noncomputable def jz (s : den (Ty.slc ab)) (f : den (Ty.fn (Ty.pair ab Ty.unit) (Ty.pair Ty.bool Ty.unit))) : af := af.req (∃ (h : den (Ty.pair ab Ty.unit) → den (Ty.pair Ty.bool Ty.unit)), f = some h) (af.ret (K.val (Ty.pair Ty.bool Ty.unit) (decide (0 ≤ ixP (prM f) s 0), PUnit.unit)))
theorem nK (s : den (Ty.slc ab)) (f : den (Ty.fn (Ty.pair ab Ty.unit) (Ty.pair Ty.bool Ty.unit))) : ak ju oZ 5000 [] i9 (aF fL) (Env.of (aK i6 (s, f, ()) 0) []) = jz s f := by kernel_rfl
noncomputable abbrev mn : Fx := { fn := iU, ann := { frz := [(1, [1])] } }
noncomputable abbrev mG : bg := { D := { T := br, F := [], R := [], ovl := [] }, inl := [] }
noncomputable abbrev uc : bF := .data lJ
theorem ul : XOk prog mG := xok ((aU aY aM)) (by kernel_rfl) aS a6 aZ
noncomputable def mH (s : den (Ty.slc ab)) : af := af.ret (K.val (Ty.pair (Ty.clo bW (Ty.pair (Ty.ref (Ty.slc ab)) Ty.unit)) Ty.unit) ((s, PUnit.unit), PUnit.unit))
theorem qM (s : den (Ty.slc ab)) : ak mG uc 5000 [] mn (aF iU) (Env.of (aK mv (s, ()) 0) []) = mH s := by kernel_rfl
noncomputable abbrev yk : Fx := { fn := ua, ann := { frz := [(1, [1])] } }
noncomputable abbrev zJ : bg := { D := { T := br, F := [(m0, mW)], R := [], ovl := [] }, inl := [] }
noncomputable abbrev HN : bF := .data xV
theorem HL (h_ring_from_1 : ay prog [] m0 mW) : XOk prog zJ := xok (ax (aU aY aM) h_ring_from_1) (by kernel_rfl) aS a6 aZ
noncomputable def zP (id : den tId) : af := af.req (∀ (y : den (Ty.pair ab (Ty.pair ab Ty.unit))), True) (af.ret (K.val (Ty.pair (Ty.fn (Ty.pair ab (Ty.pair ab Ty.unit)) (Ty.pair ae Ty.unit)) Ty.unit) (some fun (y : den (Ty.pair ab (Ty.pair ab Ty.unit))) ↦ (fQ (aW id (Prod.fst (Prod.snd (Prod.fst y)))) (aW id (Prod.fst (Prod.snd (Prod.fst (Prod.snd y))))), PUnit.unit), PUnit.unit)))
theorem Di (id : den tId) : ak zJ HN 5000 [] yk (aF ua) (Env.of (aK yx (id, ()) 0) []) = zP id := by kernel_rfl
noncomputable abbrev it : Fx := { fn := gM, ann := { loops := [(2, { keep := [0, 6, 7, 8] })], frz := [(4, [4])] } }
noncomputable abbrev li : bg := { D := { T := br, F := [(cv, cu), (lU, lV)], R := [], ovl := [] }, inl := [] }
noncomputable abbrev ya : bF := .data qi
theorem Fl (h_slices_ContainsFunc_Member : ay prog [] cv cu) (h_ring_Right_1 : ay prog [] lU lV) : XOk prog li := xok (ax (ax (aU aY aM) h_ring_Right_1) h_slices_ContainsFunc_Member) (by kernel_rfl) aS a6 aZ
noncomputable def xN (l : den (Ty.slc ab)) : af := af.loop [] it (lp gM 2) [(0, K.val (Ty.slc ab) l), (6, K.val (Ty.slc ab) l), (7, K.val ae (lnx ab l)), (8, K.val ae 0)] []
theorem Ba (l : den (Ty.slc ab)) : ak li ya 5000 [] it (aF gM) (Env.of (aK xe (l, ()) 0) []) = xN l := by kernel_rfl
noncomputable def vI (v0 : den (Ty.slc ab)) (v6 : den (Ty.slc ab)) (v7 : den ae) (v8 : den ae) : Env := Env.of [(0, K.val (Ty.slc ab) v0), (6, K.val (Ty.slc ab) v6), (7, K.val ae v7), (8, K.val ae v8)] []
noncomputable def Bg (v0 : den (Ty.slc ab)) (v6 : den (Ty.slc ab)) (v7 : den ae) (v8 : den ae) : af := af.ite (decide (v8 < v7)) (af.req (inB v8 (lnx ab v6)) (af.req (bP 0 v8 (lnx ab v0)) (af.req (∀ (y : den (Ty.pair ab Ty.unit)), True) (af.req (∃ (h : den (Ty.pair ab Ty.unit) → den (Ty.pair Ty.bool Ty.unit)), (some fun (y : den (Ty.pair ab Ty.unit)) ↦ (kG (Prod.fst y) (el ab v6 v8), PUnit.unit)) = some h) (af.ite (bif bif List.any (gd ab v0 0 v8) (prM (some fun (y : den (Ty.pair ab Ty.unit)) ↦ (kG (Prod.fst y) (el ab v6 v8), PUnit.unit))) then true else decide (Prod.fst (el ab v6 v8) < 0) then true else decide (16 ≤ Prod.fst (el ab v6 v8))) (af.ret (K.val (Ty.pair Ty.bool Ty.unit) (false, PUnit.unit))) (af.loop [] it (lp gM 2) [(0, K.val (Ty.slc ab) v0), (6, K.val (Ty.slc ab) v6), (7, K.val ae v7), (8, K.val ae (IntKind.wrap IntKind.i64 (v8 + 1)))] [])))))) (af.ret (K.val (Ty.pair Ty.bool Ty.unit) (decide (lnx ab v0 ≤ 16), PUnit.unit)))
theorem pR (v0 : den (Ty.slc ab)) (v6 : den (Ty.slc ab)) (v7 : den ae) (v8 : den ae) : ak li ya 5000 [] it (lp gM 2) (vI v0 v6 v7 v8) = Bg v0 v6 v7 v8 := by kernel_rfl
noncomputable abbrev wD : Fx := { fn := rK, ann := { } }
noncomputable abbrev xA : bg := { D := { T := br, F := [(fV, fW), (kz, kD), (fw, fA)], R := [], ovl := [] }, inl := [] }
noncomputable abbrev FL : bF := .data qd
theorem E4 (h_ring_Right : ay prog [] fV fW) (h_ring_from : ay prog [] kz kD) (h_slices_MinFunc_Member : ay prog [] fw fA) : XOk prog xA := xok (ax (ax (ax (aU aY aM) h_slices_MinFunc_Member) h_ring_from) h_ring_Right) (by kernel_rfl) aS a6 aZ
noncomputable def xG (l : den (Ty.slc ab)) (id : den tId) : af := af.req True (af.ite (!bp l) (af.ret (K.val (Ty.pair ab (Ty.pair ae Ty.unit)) (zero (Ty.pair ae (Ty.pair tId Ty.unit)), 1, PUnit.unit))) (af.ite (decide (lnx ab l = 0)) (af.ret (K.val (Ty.pair ab (Ty.pair ae Ty.unit)) (zero (Ty.pair ae (Ty.pair tId Ty.unit)), 6, PUnit.unit))) (af.req True (af.req ((∃ (h : den (Ty.pair ab (Ty.pair ab Ty.unit)) → den (Ty.pair ae Ty.unit)), cT id = some h) ∧ 0 < List.length l) (af.ret (K.val (Ty.pair ab (Ty.pair ae Ty.unit)) (E5 (cmM (cT id)) l, 0, PUnit.unit)))))))
theorem BG (l : den (Ty.slc ab)) (id : den tId) : ak xA FL 5000 [] wD (aF rK) (Env.of (aK wN (l, id, ()) 0) []) = xG l id := by kernel_rfl
noncomputable abbrev uZ : Fx := { fn := ql, ann := { frz := [(3, [3])] } }
noncomputable abbrev wW : bg := { D := { T := br, F := [(fV, fW), (co, cK), (kY, k6), (dp, dh), (kz, kD), (ed, ef)], R := [], ovl := [] }, inl := [] }
noncomputable abbrev EN : bF := .data oP
theorem Ef (h_ring_Right : ay prog [] fV fW) (h_slices_IndexFunc_Member : ay prog [] co cK) (h_ring_turned_1 : ay prog [] kY k6) (h_slices_Values_Member : ay prog [] dp dh) (h_ring_from : ay prog [] kz kD) (h_slices_SortedFunc_Member : ay prog [] ed ef) : XOk prog wW := xok (ax (ax (ax (ax (ax (ax (aU aY aM) h_slices_SortedFunc_Member) h_ring_from) h_slices_Values_Member) h_ring_turned_1) h_slices_IndexFunc_Member) h_ring_Right) (by kernel_rfl) aS a6 aZ
noncomputable def wT (l : den (Ty.slc ab)) (no : den ae) : af := af.req True (af.ite (!bp l) (af.ret (K.val (Ty.pair (Ty.slc ab) (Ty.pair ae Ty.unit)) ([], 1, PUnit.unit))) (af.req (∀ (y : den (Ty.pair ab Ty.unit)), True) (af.req (∃ (h : den (Ty.pair ab Ty.unit) → den (Ty.pair Ty.bool Ty.unit)), (some fun (y : den (Ty.pair ab Ty.unit)) ↦ (decide (Prod.fst (Prod.fst y) = no), PUnit.unit)) = some h) (af.ite (decide (ixP (prM (some fun (y : den (Ty.pair ab Ty.unit)) ↦ (decide (Prod.fst (Prod.fst y) = no), PUnit.unit))) l 0 < 0)) (af.ret (K.val (Ty.pair (Ty.slc ab) (Ty.pair ae Ty.unit)) ([], 6, PUnit.unit))) (af.req True (af.req (inB (ixP (prM (some fun (y : den (Ty.pair ab Ty.unit)) ↦ (decide (Prod.fst (Prod.fst y) = no), PUnit.unit))) l 0) (lnx ab l)) (af.req True (af.req (ji ab (cT (Prod.fst (Prod.snd (el ab l (ixP (prM (some fun (y : den (Ty.pair ab Ty.unit)) ↦ (decide (Prod.fst (Prod.fst y) = no), PUnit.unit))) l 0))))) l) (af.ret (K.val (Ty.pair (Ty.slc ab) (Ty.pair ae Ty.unit)) (fT ab (cT (Prod.fst (Prod.snd (el ab l (ixP (prM (some fun (y : den (Ty.pair ab Ty.unit)) ↦ (decide (Prod.fst (Prod.fst y) = no), PUnit.unit))) l 0))))) l, 0, PUnit.unit)))))))))))
theorem AI (l : den (Ty.slc ab)) (no : den ae) : ak wW EN 5000 [] uZ (aF ql) (Env.of (aK uU (l, no, ()) 0) []) = wT l no := by kernel_rfl
noncomputable abbrev ip : Fx := { fn := gV, ann := { loops := [(8, { keep := [8, 10, 27, 28], own := [(10, ab)] })] }, share := true }
noncomputable abbrev nT : bg := { D := { T := br, F := [(iv, gg)], R := [], ovl := [] }, inl := [] }
noncomputable abbrev xQ : bF := .data ko
theorem rJ (h_ring_turned : ay prog [] iv gg) : XOk prog nT := xok (ax (aU aY aM) h_ring_turned) (by kernel_rfl) aS a6 aZ
noncomputable def xO (l : den (Ty.slc ab)) (no : den ae) (many : den ae) : af := af.ite (bif decide (many < 0) then true else decide (16 < many)) (af.ret (K.val (Ty.pair (Ty.slc ab) (Ty.pair ae Ty.unit)) ([], 1, PUnit.unit))) (af.req True (af.all (den (Ty.pair (Ty.slc ab) (Ty.pair ae Ty.unit))) (fun (q3 : den (Ty.pair (Ty.slc ab) (Ty.pair ae Ty.unit))) ↦ q3 = (Prod.fst (bn l no), Prod.snd (bn l no), PUnit.unit)) fun (q3 : den (Ty.pair (Ty.slc ab) (Ty.pair ae Ty.unit))) ↦ af.ite (!decide (Prod.fst (Prod.snd q3) = 0)) (af.ret (K.val (Ty.pair (Ty.slc ab) (Ty.pair ae Ty.unit)) ([], Prod.fst (Prod.snd q3), PUnit.unit))) (af.loop [] ip (lp gV 8) [(8, K.val (Ty.slc ab) (Prod.fst q3)), (10, K.sl 0 ab), (27, K.val ae many), (28, K.val ae 0)] [(0, Bx.row ab [])])))
theorem BX (l : den (Ty.slc ab)) (no : den ae) (many : den ae) : ak nT xQ 5000 [] ip (aF gV) (Env.of (aK wQ (l, no, many, ()) 0) []) = xO l no many := by kernel_rfl
noncomputable def uN (v8 : den (Ty.slc ab)) (v27 : den ae) (v28 : den ae) (b0 : List (den ab)) : Env := Env.of [(8, K.val (Ty.slc ab) v8), (10, K.sl 0 ab), (27, K.val ae v27), (28, K.val ae v28)] [(0, Bx.row ab b0)]
noncomputable def BJ (v8 : den (Ty.slc ab)) (v27 : den ae) (v28 : den ae) (b0 : List (den ab)) : af := af.ite (decide (v28 < v27)) (af.req (nz (lnx ab v8)) (af.req (inB (Int.tmod (IntKind.wrap IntKind.i64 (v28 + 1)) (lnx ab v8)) (lnx ab v8)) (af.req (List.length (b0 ++ List.set (List.replicate 1 (zero ab)) 0 (el ab v8 (Int.tmod (IntKind.wrap IntKind.i64 (v28 + 1)) (lnx ab v8)))) ≤ bY) (af.loop [] ip (lp gV 8) [(8, K.val (Ty.slc ab) v8), (10, K.sl 0 ab), (27, K.val ae v27), (28, K.val ae (IntKind.wrap IntKind.i64 (v28 + 1)))] [(0, Bx.row ab (b0 ++ List.set (List.replicate 1 (zero ab)) 0 (el ab v8 (Int.tmod (IntKind.wrap IntKind.i64 (v28 + 1)) (lnx ab v8)))))])))) (af.ret (K.val (Ty.pair (Ty.slc ab) (Ty.pair ae Ty.unit)) (b0, 0, PUnit.unit)))
theorem p0 (v8 : den (Ty.slc ab)) (v27 : den ae) (v28 : den ae) (b0 : List (den ab)) : ak nT xQ 5000 [] ip (lp gV 8) (uN v8 v27 v28 b0) = BJ v8 v27 v28 b0 := by kernel_rfl
noncomputable abbrev vd : Fx := { fn := qp, ann := { }, share := true }
noncomputable abbrev wG : bg := { D := { T := br, F := [(iv, gg)], R := [], ovl := [] }, inl := [] }
noncomputable abbrev Eg : bF := .data o4
theorem Ev (h_ring_turned : ay prog [] iv gg) : XOk prog wG := xok (ax (aU aY aM) h_ring_turned) (by kernel_rfl) aS a6 aZ
noncomputable def wH (l : den (Ty.slc ab)) (no : den ae) : af := af.req True (af.all (den (Ty.pair (Ty.slc ab) (Ty.pair ae Ty.unit))) (fun (q2 : den (Ty.pair (Ty.slc ab) (Ty.pair ae Ty.unit))) ↦ q2 = (Prod.fst (bn l no), Prod.snd (bn l no), PUnit.unit)) fun (q2 : den (Ty.pair (Ty.slc ab) (Ty.pair ae Ty.unit))) ↦ af.ite (!decide (Prod.fst (Prod.snd q2) = 0)) (af.ret (K.val (Ty.pair ab (Ty.pair ae Ty.unit)) (zero (Ty.pair ae (Ty.pair tId Ty.unit)), Prod.fst (Prod.snd q2), PUnit.unit))) (af.req (inB (IntKind.wrap IntKind.i64 (lnx ab (Prod.fst q2) - 1)) (lnx ab (Prod.fst q2))) (af.ret (K.val (Ty.pair ab (Ty.pair ae Ty.unit)) (el ab (Prod.fst q2) (IntKind.wrap IntKind.i64 (lnx ab (Prod.fst q2) - 1)), 0, PUnit.unit)))))
theorem A1 (l : den (Ty.slc ab)) (no : den ae) : ak wG Eg 5000 [] vd (aF qp) (Env.of (aK uH (l, no, ()) 0) []) = wH l no := by kernel_rfl
noncomputable abbrev cS : Fx := { fn := cE, ann := { } }
noncomputable abbrev cH : Fx := { fn := au, ann := { }, own := [2] }
noncomputable abbrev cj : Fx := { fn := aX, ann := { loops := [(1, { keep := [0, 5, 6, 7] })], frz := [(1000001, [2]), (3000001, [1])] } }
noncomputable abbrev bT : Fx := { fn := bM, ann := { } }
noncomputable abbrev cG : bg := { D := { T := br, F := [], R := [(fa, gR)], ovl := [] }, inl := [(mm, cS), (kR, cH), (bW, cj)] }
noncomputable abbrev gn : bF := .data fY
theorem qb (h_slices_SortFunc_Member : qZ prog [] fa gR) : XOk prog cG := xok ((aU aY aM)) (by kernel_rfl) (Lr h_slices_SortFunc_Member aS) (jg sk (by kernel_rfl) (jg qc (by kernel_rfl) (jg kN (by kernel_rfl) a6))) aZ
noncomputable def ke (seq : den (Ty.clo bW (Ty.pair (Ty.ref (Ty.slc ab)) Ty.unit))) (cmp : den (Ty.fn (Ty.pair ab (Ty.pair ab Ty.unit)) (Ty.pair ae Ty.unit))) : af := af.loop [{ fx := cH, todo := cx au 3, dst := none, s := ofS [(2, K.ptr (0 + 1) (Ty.slc ab) [])], rng := some 0 }, { fx := cS, todo := bC cE 1 1, dst := some 4, s := ofS [] }, { fx := bT, todo := bC bM 1 1, dst := some 7, s := ofS [(1, K.val (Ty.fn (Ty.pair ab (Ty.pair ab Ty.unit)) (Ty.pair ae Ty.unit)) cmp)] }] cj (lp aX 1) [(0, K.yld 0), (5, K.val (Ty.slc ab) (Prod.fst seq)), (6, K.val ae (lnx ab (Prod.fst seq))), (7, K.val ae 0)] [(0, Bx.lop LoopState.ready none [(2, K.ptr (0 + 1) (Ty.slc ab) [])] 13 (kI au 3) (du au 3) (fC au 3)), (0 + 1, Bx.obj (Ty.slc ab) K.nilsl)]
theorem oB (seq : den (Ty.clo bW (Ty.pair (Ty.ref (Ty.slc ab)) Ty.unit))) (cmp : den (Ty.fn (Ty.pair ab (Ty.pair ab Ty.unit)) (Ty.pair ae Ty.unit))) : ak cG gn 5000 [] bT (aF bM) (Env.of (aK jf (seq, cmp, ()) 0) []) = ke seq cmp := by kernel_rfl
noncomputable def gu (w2_1 : den (Ty.fn (Ty.pair ab (Ty.pair ab Ty.unit)) (Ty.pair ae Ty.unit))) (v5 : den (Ty.slc ab)) (v6 : den ae) (v7 : den ae) : List cg := [{ fx := cH, todo := cx au 3, dst := none, s := ofS [(2, K.ptr (0 + 1) (Ty.slc ab) [])], rng := some 0 }, { fx := cS, todo := bC cE 1 1, dst := some 4, s := ofS [] }, { fx := bT, todo := bC bM 1 1, dst := some 7, s := ofS [(1, K.val (Ty.fn (Ty.pair ab (Ty.pair ab Ty.unit)) (Ty.pair ae Ty.unit)) w2_1)] }]
noncomputable def gt (w2_1 : den (Ty.fn (Ty.pair ab (Ty.pair ab Ty.unit)) (Ty.pair ae Ty.unit))) (v5 : den (Ty.slc ab)) (v6 : den ae) (v7 : den ae) : Env := Env.of [(0, K.yld 0), (5, K.val (Ty.slc ab) v5), (6, K.val ae v6), (7, K.val ae v7)] [(0, Bx.lop LoopState.ready none [(2, K.ptr (0 + 1) (Ty.slc ab) [])] 13 (kI au 3) (du au 3) (fC au 3)), (1, Bx.obj (Ty.slc ab) K.nilsl)]
noncomputable def gh (w2_1 : den (Ty.fn (Ty.pair ab (Ty.pair ab Ty.unit)) (Ty.pair ae Ty.unit))) (v5 : den (Ty.slc ab)) (v6 : den ae) (v7 : den ae) : af := af.ite (decide (v7 < v6)) (af.req (inB v7 (lnx ab v5)) (af.req (List.length (List.set (List.replicate 1 (zero ab)) 0 (el ab v5 v7)) ≤ bY) (af.ite (!true) (af.req (ji ab w2_1 (List.set (List.replicate 1 (zero ab)) 0 (el ab v5 v7))) (af.ret (K.val (Ty.pair (Ty.slc ab) Ty.unit) (fT ab w2_1 (List.set (List.replicate 1 (zero ab)) 0 (el ab v5 v7)), PUnit.unit)))) (af.loop [{ fx := cH, todo := cx au 3, dst := none, s := ofS [(2, K.ptr (0 + 1) (Ty.slc ab) [])], rng := some 0 }, { fx := cS, todo := bC cE 1 1, dst := some 4, s := ofS [] }, { fx := bT, todo := bC bM 1 1, dst := some 7, s := ofS [(1, K.val (Ty.fn (Ty.pair ab (Ty.pair ab Ty.unit)) (Ty.pair ae Ty.unit)) w2_1)] }] cj (lp aX 1) [(0, K.yld 0), (5, K.val (Ty.slc ab) v5), (6, K.val ae v6), (7, K.val ae (IntKind.wrap IntKind.i64 (v7 + 1)))] [(0, Bx.lop LoopState.ready none [(2, K.ptr (0 + 1) (Ty.slc ab) [])] 13 (kI au 3) (du au 3) (fC au 3)), (0 + 1, Bx.obj (Ty.slc ab) (K.sl (0 + 1 + 1) ab)), (0 + 1 + 1, Bx.row ab (List.set (List.replicate 1 (zero ab)) 0 (el ab v5 v7)))])))) (af.req (ji ab w2_1 []) (af.ret (K.val (Ty.pair (Ty.slc ab) Ty.unit) ([], PUnit.unit))))
theorem fU (w2_1 : den (Ty.fn (Ty.pair ab (Ty.pair ab Ty.unit)) (Ty.pair ae Ty.unit))) (v5 : den (Ty.slc ab)) (v6 : den ae) (v7 : den ae) : ak cG gn 5000 (gu w2_1 v5 v6 v7) cj (lp aX 1) (gt w2_1 v5 v6 v7) = gh w2_1 v5 v6 v7 := by kernel_rfl
noncomputable def c8 (w2_1 : den (Ty.fn (Ty.pair ab (Ty.pair ab Ty.unit)) (Ty.pair ae Ty.unit))) (v5 : den (Ty.slc ab)) (v6 : den ae) (v7 : den ae) (b2 : List (den ab)) : List cg := [{ fx := cH, todo := cx au 3, dst := none, s := ofS [(2, K.ptr (0 + 1) (Ty.slc ab) [])], rng := some 0 }, { fx := cS, todo := bC cE 1 1, dst := some 4, s := ofS [] }, { fx := bT, todo := bC bM 1 1, dst := some 7, s := ofS [(1, K.val (Ty.fn (Ty.pair ab (Ty.pair ab Ty.unit)) (Ty.pair ae Ty.unit)) w2_1)] }]
noncomputable def c9 (w2_1 : den (Ty.fn (Ty.pair ab (Ty.pair ab Ty.unit)) (Ty.pair ae Ty.unit))) (v5 : den (Ty.slc ab)) (v6 : den ae) (v7 : den ae) (b2 : List (den ab)) : Env := Env.of [(0, K.yld 0), (5, K.val (Ty.slc ab) v5), (6, K.val ae v6), (7, K.val ae v7)] [(0, Bx.lop LoopState.ready none [(2, K.ptr (0 + 1) (Ty.slc ab) [])] 13 (kI au 3) (du au 3) (fC au 3)), (1, Bx.obj (Ty.slc ab) (K.sl (0 + 1 + 1) ab)), (2, Bx.row ab b2)]
noncomputable def fZ (w2_1 : den (Ty.fn (Ty.pair ab (Ty.pair ab Ty.unit)) (Ty.pair ae Ty.unit))) (v5 : den (Ty.slc ab)) (v6 : den ae) (v7 : den ae) (b2 : List (den ab)) : af := af.ite (decide (v7 < v6)) (af.req (inB v7 (lnx ab v5)) (af.req (List.length (b2 ++ List.set (List.replicate 1 (zero ab)) 0 (el ab v5 v7)) ≤ bY) (af.ite (!true) (af.req (ji ab w2_1 (b2 ++ List.set (List.replicate 1 (zero ab)) 0 (el ab v5 v7))) (af.ret (K.val (Ty.pair (Ty.slc ab) Ty.unit) (fT ab w2_1 (b2 ++ List.set (List.replicate 1 (zero ab)) 0 (el ab v5 v7)), PUnit.unit)))) (af.loop [{ fx := cH, todo := cx au 3, dst := none, s := ofS [(2, K.ptr (0 + 1) (Ty.slc ab) [])], rng := some 0 }, { fx := cS, todo := bC cE 1 1, dst := some 4, s := ofS [] }, { fx := bT, todo := bC bM 1 1, dst := some 7, s := ofS [(1, K.val (Ty.fn (Ty.pair ab (Ty.pair ab Ty.unit)) (Ty.pair ae Ty.unit)) w2_1)] }] cj (lp aX 1) [(0, K.yld 0), (5, K.val (Ty.slc ab) v5), (6, K.val ae v6), (7, K.val ae (IntKind.wrap IntKind.i64 (v7 + 1)))] [(0, Bx.lop LoopState.ready none [(2, K.ptr (0 + 1) (Ty.slc ab) [])] 13 (kI au 3) (du au 3) (fC au 3)), (0 + 1, Bx.obj (Ty.slc ab) (K.sl (0 + 1 + 1) ab)), (0 + 1 + 1, Bx.row ab (b2 ++ List.set (List.replicate 1 (zero ab)) 0 (el ab v5 v7)))])))) (af.req (ji ab w2_1 b2) (af.ret (K.val (Ty.pair (Ty.slc ab) Ty.unit) (fT ab w2_1 b2, PUnit.unit))))
theorem cM (w2_1 : den (Ty.fn (Ty.pair ab (Ty.pair ab Ty.unit)) (Ty.pair ae Ty.unit))) (v5 : den (Ty.slc ab)) (v6 : den ae) (v7 : den ae) (b2 : List (den ab)) : ak cG gn 5000 (c8 w2_1 v5 v6 v7 b2) cj (lp aX 1) (c9 w2_1 v5 v6 v7 b2) = fZ w2_1 v5 v6 v7 b2 := by kernel_rfl
end Go.Proofs.Ytimdnodkabnbfaa
namespace Go.Proofs.Ytimdnodkabnbfaa
open Go Go.RowKit
theorem jB : ay prog [] cv cu :=
 bR (S := cu) (oW lh) (fx := i9) oA (by kernel_rfl) (fun h => by cases h) (T := fun x => jz x.1 x.2.1) (fun x => nK x.1 x.2.1) fun O w0 x _ hp =>
  ⟨hp, _, rfl, by show (decide (0 ≤ ixP (prM x.2.1) x.1 0), ()) = (x.1.any (prM x.2.1), ()); rw [MW]⟩
theorem mO : ay prog [] dp dh :=
 bR (S := dh) ul (fx := mn) sV (by kernel_rfl) (fun h => by cases h) (T := fun x => mH x.1) (fun x => qM x.1) fun O w0 x _ _ => ⟨_, rfl, rfl⟩
theorem zU : ay prog [] kz kD :=
 bR (S := kD) (HL Eb) (fx := yk) GB (by kernel_rfl) (fun _ _ => trivial) (T := fun x => zP x.1) (fun x => Di x.1) fun O w0 x _ _ => ⟨fun _ => trivial, _, rfl, rfl⟩
abbrev GRi (O : Nat → Prop) (w0 : World) (y : Bool) := bI prog li (Cx.base O w0) (cC prog O w0 qi fun z => z = (y, ()))
theorem p8 : XOk prog li := Fl jB CU
theorem DS (pre : List Mem) (m : Mem) (l : List Mem) : xu pre (m :: l) = ((!(pre.any fun x => kG x m)) && decide (0 ≤ m.1) && decide (m.1 < 16) && xu (pre ++ [m]) l) := rfl
theorem F3 {e : Ty} (xs : List (den e)) (i : Nat) : gd e xs 0 (i : Nat) = xs.take i := by
 unfold gd j3
 rw [Int.toNat_natCast]
 exact List.drop_zero
def EG (O : Nat → Prop) (w0 : World) (l : List Mem) (hm : l.length ≤ maxLen) :=
 PLift.up <| bG (σ := Unit) l.length (fun i _ => xu (l.take i) (l.drop i) = xu [] l)
  (fun i _ => GRi O w0 (bp l) [] it (lp gM 2) (vI l l (lnx ab l) (i : Nat)))
  (fun i _ hi hs ih => aI p8 (pR l l _ _) (by
   rw [List.drop_eq_getElem_cons hi, DS, ← List.take_succ_eq_append_getElem hi] at hs
   have hi' : i ≤ l.length := Nat.le_of_lt hi
   refine ⟨fun _ => ⟨a8 hi, ⟨Int.le_refl _, Int.natCast_nonneg _, Int.ofNat_le.2 hi'⟩, fun _ => trivial, ⟨_, rfl⟩, ?_⟩, fun hc => absurd hi (by rw [cF] at hc; exact of_decide_eq_false hc)⟩
   rw [bX hi, cz hi hm, F3]
   have e1 : ∀ xs : List Mem, (xs.any (prM (some fun y => (kG y.1 l[i], PUnit.unit)))) = xs.any fun x => kG x l[i] := fun xs => rfl
   refine ⟨fun hc => ⟨_, rfl, ?_⟩, fun hc => ih () ?_⟩
   ·rw [e1] at hc
    show (false, ()) = (bp l, ())
    have : xu [] l = false := by
     rw [← hs]
     cases h1 : (l.take i).any (fun x => kG x l[i]) with
     | true => rfl
     | false =>
      rw [h1] at hc
      by_cases h2 : (l[i].1 : Int) < 0
      ·rw [decide_eq_false (show ¬ (0 : Int) ≤ l[i].1 from fun h => absurd h2 (Int.not_lt.2 h))]; rfl
      ·rw [decide_eq_false h2] at hc
       have h3 : (16 : Int) ≤ l[i].1 := of_decide_eq_true hc
       rw [decide_eq_false (show ¬ (l[i].1 : Int) < 16 from Int.not_lt.2 h3)]
       cases decide (0 ≤ l[i].1) <;> rfl
    unfold bp
    rw [this]
    rfl
   ·rw [e1] at hc
    rw [← hs]
    cases h1 : (l.take i).any (fun x => kG x l[i]) with
    | true => rw [h1] at hc; cases hc
    | false =>
     rw [h1] at hc
     by_cases h2 : (l[i].1 : Int) < 0
     ·rw [decide_eq_true h2] at hc; cases hc
     ·rw [decide_eq_false h2] at hc
      have h3 : ¬ (16 : Int) ≤ l[i].1 := of_decide_eq_false hc
      rw [decide_eq_true (show (0 : Int) ≤ l[i].1 from Int.not_lt.1 h2), decide_eq_true (show (l[i].1 : Int) < 16 from Int.not_le.1 h3)]
      rfl))
  (fun _ hs => aI p8 (pR l l _ _) (by
   refine ⟨fun hc => absurd (of_decide_eq_true hc) (Int.lt_irrefl _), fun _ => ⟨_, rfl, ?_⟩⟩
   rw [List.drop_length] at hs
   show (decide ((l.length : Int) ≤ 16), ()) = (bp l, ())
   unfold bp
   rw [← hs]
   have : decide ((l.length : Int) ≤ 16) = decide (l.length ≤ 16) := decide_eq_decide.2 (by omega)
   rw [this]
   rfl))
theorem sO : ay prog [] fV fW :=
 bR (S := fW) p8 (fx := it) EI (by kernel_rfl) (fun _ _ => trivial) (T := fun x => xN x.1) (fun x => Ba x.1) fun O w0 x hk _ =>
  (EG O w0 x.1 hk.1.1).down 0 () (Nat.zero_le _) rfl
theorem Gu (b : List Mem) (x : Mem) : b ++ List.set (List.replicate 1 (zero ab)) 0 x = b ++ [x] := rfl
abbrev GSo (O : Nat → Prop) (w0 : World) (y : List Mem) := bI prog cG (Cx.base O w0) (cC prog O w0 fY fun z => z = (y, ()))
theorem mZ : XOk prog cG := qb p6
def EC (O : Nat → Prop) (w0 : World) (xs : List Mem) (f : den (tN ab)) (hp : ji ab f xs) :=
 PLift.up <| bG (σ := List Mem) xs.length (fun i b => b = xs.take i)
  (fun i b => GSo O w0 (fT ab f xs) (c8 f xs (lnx ab xs) (i : Nat) b) cj (lp aX 1) (c9 f xs (lnx ab xs) (i : Nat) b))
  (fun i b hi hb ih => aI mZ (cM f xs _ _ b) (by
   have hlen := hp.len
   refine ⟨fun _ => ⟨a8 hi, ?_⟩, fun hc => absurd hi (by rw [cF] at hc; exact of_decide_eq_false hc)⟩
   rw [bX hi, cz hi (by omega), Gu, hb, ← List.take_succ_eq_append_getElem hi]
   have hl : (xs.take (i + 1)).length ≤ 1000000 := by rw [List.length_take]; omega
   refine ⟨Nat.le_trans hl (by decide), (fun hc => by cases hc), fun _ => ih _ rfl⟩))
  (fun b hb => aI mZ (cM f xs _ _ b) (by
   rw [List.take_length] at hb
   subst hb
   exact ⟨fun hc => absurd (of_decide_eq_true hc) (Int.lt_irrefl _), fun _ => ⟨hp, _, rfl, rfl⟩⟩))
theorem qx : ay prog [] ed ef :=
 bR (S := ef) mZ (fx := bT) pH (by kernel_rfl) (fun h => by cases h) (T := fun x => ke x.1 x.2.1) (fun x => oB x.1 x.2.1) fun O w0 x _ hp => by
  obtain ⟨⟨xs, ⟨⟩⟩, f, ⟨⟩⟩ := x
  have hp : ji ab f xs := hp
  have hlen := hp.len
  refine aI mZ (fU f xs (lnx ab xs) 0) ?_
  refine ⟨fun hc => ?_, fun hc => ?_⟩
  ·have h0 : 0 < xs.length := Int.ofNat_lt.1 (of_decide_eq_true hc)
   refine ⟨a8 (i := 0) h0, ?_⟩
   rw [show (0 : Int) = ((0 : Nat) : Int) from rfl, bX h0, cz h0 (by omega)]
   refine ⟨show 1 ≤ bY by decide, (fun hc => by cases hc), fun _ => ?_⟩
   refine (EC O w0 xs f hp).down 1 _ h0 ?_
   rw [List.take_succ_eq_append_getElem h0]
   rfl
  ·have h0 : xs = [] := List.eq_nil_of_length_eq_zero (by have := of_decide_eq_false hc; have h2 : ¬ (0 : Int) < (xs.length : Int) := this; omega)
   subst h0
   refine ⟨hp, _, rfl, ?_⟩
   show (([] : List Mem), ()) = (List.mergeSort [] _, ())
   rw [List.mergeSort_nil]
end Go.Proofs.Ytimdnodkabnbfaa
namespace Go.Proofs.Ytimdnodkabnbfaa
open Go Go.RowKit
abbrev bU (m : Mem) : Int := vB m.2.1
abbrev OkM (l : List Mem) : Prop := ∀ m ∈ l, okT ab m
theorem dX {m : Mem} (h : okT ab m) : gx m.2.1 := Is h.2.1
theorem D0 : ∀ (l pre : List Mem), xu pre l = true → (∀ m ∈ l, 0 ≤ (m.1 : Int) ∧ (m.1 : Int) < 16) ∧ (∀ m ∈ l, ∀ x ∈ pre, kG x m = false) ∧ l.Pairwise fun x m => kG x m = false
 | [], _, _ => ⟨fun _ h => (by cases h), fun _ h => (by cases h), List.Pairwise.nil⟩
 | m :: l, pre, h => by
  rw [DS] at h
  simp only [Bool.and_eq_true, Bool.not_eq_true', decide_eq_true_eq] at h
  obtain ⟨⟨⟨h1, h2⟩, h3⟩, h4⟩ := h
  obtain ⟨i1, i2, i3⟩ := D0 l (pre ++ [m]) h4
  have h1 : ∀ x ∈ pre, kG x m = false := fun x hx => by
   have := List.any_eq_false.1 h1 x hx
   simpa using this
  refine ⟨fun z hz => ?_, fun z hz x hx => ?_, List.pairwise_cons.2 ⟨fun z hz => i2 z hz m (List.mem_append.2 (.inr List.mem_cons_self)), i3⟩⟩
  ·rcases List.mem_cons.1 hz with rfl | hz
   ·exact ⟨h2, h3⟩
   ·exact i1 z hz
  ·rcases List.mem_cons.1 hz with rfl | hz
   ·exact h1 x hx
   ·exact i2 z hz x (List.mem_append.2 (.inl hx))
theorem Df {x m : Mem} (h : x.1 = m.1) : kG x m = true := by unfold kG; rw [decide_eq_true h]; rfl
theorem H7 {x m : Mem} (h : x.2.1 = m.2.1) : kG x m = true := by
 unfold kG
 have : eqb tId x.2.1 m.2.1 = true := (nC (t := tId) rfl _ _).2 h
 rw [this]
 cases decide (x.1 = m.1) <;> rfl
structure RR (l : List Mem) : Prop where
 len : l.length ≤ 16
 no : ∀ m ∈ l, 0 ≤ (m.1 : Int) ∧ (m.1 : Int) < 16
 pw : l.Pairwise fun x m => kG x m = false
theorem fy {l : List Mem} (h : bp l = true) : RR l := by
 unfold bp at h
 simp only [Bool.and_eq_true, decide_eq_true_eq] at h
 obtain ⟨h1, h2⟩ := h
 obtain ⟨i1, _, i3⟩ := D0 l [] h1
 exact ⟨h2, i1, i3⟩
theorem RR.at {l : List Mem} (h : RR l) {i j : Nat} (hij : i < j) (hj : j < l.length) : kG l[i] l[j] = false := List.pairwise_iff_getElem.1 h.pw i j (by omega) hj hij
theorem RR.inj {l : List Mem} (h : RR l) {x y : Mem} (hx : x ∈ l) (hy : y ∈ l) (e : x.1 = y.1 ∨ x.2.1 = y.2.1) : x = y := by
 obtain ⟨i, hi, rfl⟩ := List.getElem_of_mem hx
 obtain ⟨j, hj, rfl⟩ := List.getElem_of_mem hy
 rcases Nat.lt_trichotomy i j with h1 | h1 | h1
 ·have := h.at h1 hj
  rcases e with e | e
  ·rw [Df e] at this; cases this
  ·rw [H7 e] at this; cases this
 ·subst h1; rfl
 ·have := h.at h1 hi
  rcases e with e | e
  ·rw [Df e.symm] at this; cases this
  ·rw [H7 e.symm] at this; cases this
theorem RR.nodup {l : List Mem} (h : RR l) : l.Nodup := List.Pairwise.imp (fun {x m} hf e => by rw [e, Df rfl] at hf; cases hf) h.pw
theorem RR.rng {l : List Mem} (h : RR l) (hk : OkM l) : Ge bU aT l :=
 ⟨fun m hm => kW (dX (hk m hm)), fun x hx y hy e => h.inj hx hy (.inr (xo (by rw [(dX (hk x hx)).1, (dX (hk y hy)).1]) (dX (hk x hx)).2 (dX (hk y hy)).2 e))⟩
theorem kF {a b : List Int} (ha : gx a) (hb : gx b) : vB (aW a b) = rky aT (vB a) (vB b) := Cv ha hb
theorem Mm (id : List Int) (x y : Mem) : cfD ab (cT id) x y = fQ (aW id x.2.1) (aW id y.2.1) := rfl
theorem vv (id : List Int) (x y : Mem) : ltD ab (cT id) x y = decide (vB (aW id x.2.1) < vB (aW id y.2.1)) := by
 unfold ltD
 rw [Mm]
 exact decide_eq_decide.2 yD
theorem LO {l : List Mem} (h : RR l) (hk : OkM l) {id : List Int} (hid : gx id) : ji ab (cT id) l := by
 refine ⟨⟨_, rfl⟩, ⟨fun x => ?_, fun x y z h1 h2 => ?_, fun x y z h1 h2 => ?_⟩, fun x hx y hy h1 h2 => ?_, Nat.le_trans h.len (by decide)⟩
 ·rw [vv]; exact decide_eq_false (Int.lt_irrefl _)
 ·rw [vv] at *; exact decide_eq_true (Int.lt_trans (of_decide_eq_true h1) (of_decide_eq_true h2))
 ·rw [vv] at *
  have h1 := of_decide_eq_false h1
  have h2 := of_decide_eq_false h2
  exact decide_eq_false (by omega)
 ·rw [vv] at *
  have h1 := of_decide_eq_false h1
  have h2 := of_decide_eq_false h2
  have e : vB (aW id x.2.1) = vB (aW id y.2.1) := by omega
  rw [kF hid (dX (hk x hx)), kF hid (dX (hk y hy))] at e
  exact (h.rng hk).inj x hx y hy (Cl (kW hid) ((h.rng hk).in' x hx) ((h.rng hk).in' y hy) e)
theorem LI {l : List Mem} (h : RR l) (hk : OkM l) {id : List Int} (hid : gx id) : nm bU aT (vB id) l (fT ab (cT id) l) ∧ (fT ab (cT id) l).length = l.length := by
 have hl : (fT ab (cT id) l).length = l.length := List.length_mergeSort ..
 have hmem : ∀ x, x ∈ fT ab (cT id) l ↔ x ∈ l := fun x => List.mem_mergeSort
 refine ⟨⟨hmem, ?_⟩, hl⟩
 have hle : ∀ x y : Mem, (!ltD ab (cT id) y x) = true ↔ vB (aW id x.2.1) ≤ vB (aW id y.2.1) := fun x y => by
  rw [vv, Bool.not_eq_true', decide_eq_false_iff_not]
  omega
 have hs := List.pairwise_mergeSort (le := fun x y => !ltD ab (cT id) y x) (fun a b c h1 h2 => (hle a c).2 (Int.le_trans ((hle a b).1 h1) ((hle b c).1 h2))) (fun a b => by
  rw [Bool.or_eq_true, hle, hle]
  exact Int.le_total _ _) l
 have hnd : (fT ab (cT id) l).Nodup := (List.mergeSort_perm l _).nodup_iff.2 h.nodup
 refine List.pairwise_iff_getElem.2 fun i j hi hj hij => ?_
 have h1 := (hle _ _).1 (List.pairwise_iff_getElem.1 hs i j hi hj hij)
 have mi := (hmem _).1 (List.getElem_mem hi)
 have mj := (hmem _).1 (List.getElem_mem hj)
 have k1 := kF hid (dX (hk _ mi))
 have k2 := kF hid (dX (hk _ mj))
 show rky aT (vB id) (vB (fT ab (cT id) l)[i].2.1) < rky aT (vB id) (vB (fT ab (cT id) l)[j].2.1)
 rw [← k1, ← k2]
 refine Int.lt_iff_le_and_ne.2 ⟨h1, fun e => ?_⟩
 rw [k1, k2] at e
 have := (h.rng hk).inj _ mi _ mj (Cl (kW hid) ((h.rng hk).in' _ mi) ((h.rng hk).in' _ mj) e)
 exact List.pairwise_iff_getElem.1 hnd i j hi hj hij this
theorem FX : ay prog [] nZ lH :=
 bR (S := lH) (E4 sO zU sW) (fx := wD) EL (by kernel_rfl) (fun _ _ => trivial) (T := fun x => xG x.1 x.2.1) (fun x => BG x.1 x.2.1) fun O w0 x _ _ => by
  obtain ⟨l, id, ⟨⟩⟩ := x
  have leaf : ∀ {p : Mem × Int}, io l id = p → ∃ z, bo qd (K.val (Ty.pair ab (Ty.pair ae Ty.unit)) (p.1, p.2, ())) = some z ∧ z = lH.g (l, id, ()) := fun {p} e =>
   ⟨_, rfl, by show (p.1, p.2, ()) = ((io l id).1, (io l id).2, ()); rw [e]⟩
  refine ⟨trivial, fun h => leaf (p := (_, _)) ?_, fun h => ⟨fun h2 => leaf (p := (_, _)) ?_, fun h2 => ⟨trivial, ⟨⟨_, rfl⟩, ?_⟩, leaf (p := (_, _)) ?_⟩⟩⟩
  ·unfold io; rw [h]; rfl
  ·unfold io; rw [h, h2]; rfl
  ·have h2 : ¬ ((List.length l : Nat) : Int) = 0 := of_decide_eq_false h2
   exact Nat.pos_of_ne_zero fun e => h2 (by rw [e]; rfl)
  ·unfold io; rw [h, h2]; rfl
theorem AH {l : List Mem} {no : Int} (h : ¬ mA l no < 0) : ∃ k : Nat, ∃ hk : k < l.length, mA l no = (k : Int) ∧ l[k].1 = no := by
 have ha : l.any (fun m => decide (m.1 = no)) = true := by
  cases e : l.any (fun m => decide (m.1 = no)) with
  | true => rfl
  | false => exact absurd (by unfold mA; rw [(tI _ l 0 (Int.le_refl _)).2 e]; decide) h
 obtain ⟨k, hk, e1, e2⟩ := Kb _ l 0 ha
 exact ⟨k, hk, by unfold mA; rw [e1]; omega, of_decide_eq_true e2⟩
theorem m4 : ay prog [] iv gg :=
 bR (S := gg) (Ef sO lh Bq mO zU qx) (fx := uZ) CI (by kernel_rfl) (fun _ _ => trivial) (T := fun x => wT x.1 x.2.1) (fun x => AI x.1 x.2.1) fun O w0 x hk _ => by
  obtain ⟨l, no, ⟨⟩⟩ := x
  have leaf : ∀ {p : List Mem × Int}, bn l no = p → ∃ z, bo oP (K.val (Ty.pair (Ty.slc ab) (Ty.pair ae Ty.unit)) (p.1, p.2, ())) = some z ∧ z = gg.g (l, no, ()) := fun {p} e =>
   ⟨_, rfl, by show (p.1, p.2, ()) = ((bn l no).1, (bn l no).2, ()); rw [e]⟩
  refine ⟨trivial, fun h => leaf (p := (_, _)) ?_, fun h => ⟨fun _ => trivial, ⟨_, rfl⟩, fun h2 => leaf (p := (_, _)) ?_, fun h2 => ?_⟩⟩
  ·unfold bn; rw [h]; rfl
  ·have h2 : decide (mA l no < 0) = true := h2
   unfold bn; rw [h, h2]; rfl
  ·have h2 : decide (mA l no < 0) = false := h2
   obtain ⟨k, hkl, e1, e2⟩ := AH (of_decide_eq_false h2)
   have hin : inB (mA l no) (lnx ab l) := by rw [e1]; exact a8 hkl
   have hel : el ab l (mA l no) = l[k] := by rw [e1]; exact bX hkl
   refine ⟨trivial, hin, trivial, ?_, leaf (p := (_, _)) ?_⟩
   ·show ji ab (cT (el ab l (mA l no)).2.1) l
    rw [hel]
    exact LO (fy (by simpa using h)) hk.1.2 (dX (hk.1.2 _ (List.getElem_mem hkl)))
   ·unfold bn; rw [h, h2]; rfl
theorem Bc {l : List Mem} {no : Int} (h : (bn l no).2 = 0) : (bn l no).1.length = l.length ∧ 0 < l.length ∧ bp l = true ∧ ¬ mA l no < 0 := by
 unfold bn at h ⊢
 cases hr : bp l with
 | false => rw [hr] at h; cases h
 | true =>
  rw [hr] at h
  by_cases h2 : mA l no < 0
  ·rw [decide_eq_true h2] at h; cases h
  ·rw [decide_eq_false h2]
   obtain ⟨k, hk, _⟩ := AH h2
   exact ⟨List.length_mergeSort .., by omega, rfl, h2⟩
abbrev GAf (O : Nat → Prop) (w0 : World) (y : List Mem) := bI prog nT (Cx.base O w0) (cC prog O w0 ko fun z => z = (y, 0, ()))
def Ea (O : Nat → Prop) (w0 : World) (all : List Mem) (n : Nat) (h0 : 0 < all.length) (hl : all.length ≤ 1000000) (hn : n ≤ 16) :=
 PLift.up <| bG (σ := List Mem) n (fun i b => b = ud all i ∧ b.length = i)
  (fun i b => GAf O w0 (ud all n) [] ip (lp gV 8) (uN all (n : Int) (i : Nat) b))
  (fun i b hi hb ih => aI (rJ m4) (p0 all _ _ b) (by
   obtain ⟨h1, h2⟩ := hb
   have hlen : lnx ab all = (all.length : Int) := rfl
   have e1 : IntKind.wrap .i64 ((i : Int) + 1) = (i : Int) + 1 := dr (by omega)
   have hm : 0 ≤ Int.tmod ((i : Int) + 1) all.length ∧ Int.tmod ((i : Int) + 1) all.length < all.length := ⟨Int.tmod_nonneg _ (by omega), Int.tmod_lt_of_pos _ (by omega)⟩
   refine ⟨fun _ => ?_, fun hc => absurd (Int.ofNat_lt.2 hi) (of_decide_eq_false hc)⟩
   rw [e1, hlen, Gu]
   refine ⟨(show (all.length : Int) ≠ 0 by omega), hm, ?_, ?_⟩
   ·rw [List.length_append, h2]
    exact show i + 1 ≤ 1073741824 by omega
   ·rw [show (i : Int) + 1 = ((i + 1 : Nat) : Int) by omega]
    refine ih _ ⟨?_, by rw [List.length_append, h2]; rfl⟩
    rw [h1]
    rfl))
  (fun b hb => aI (rJ m4) (p0 all _ _ b) ⟨fun hc => absurd (of_decide_eq_true hc) (Int.lt_irrefl _), fun _ => ⟨_, rfl, by rw [hb.1]⟩⟩)
theorem FF : ay prog [] oh lF :=
 bR (S := lF) (rJ m4) (fx := ip) Ei (by kernel_rfl) (fun _ _ => trivial) (T := fun x => xO x.1 x.2.1 x.2.2.1) (fun x => BX x.1 x.2.1 x.2.2.1) fun O w0 x hk _ => by
  obtain ⟨l, no, many, ⟨⟩⟩ := x
  have leaf : ∀ {p : List Mem × Int}, eJ l no many = p → ∃ z, bo ko (K.val (Ty.pair (Ty.slc ab) (Ty.pair ae Ty.unit)) (p.1, p.2, ())) = some z ∧ z = lF.g (l, no, many, ()) := fun {p} e =>
   ⟨_, rfl, by show (p.1, p.2, ()) = ((eJ l no many).1, (eJ l no many).2, ()); rw [e]⟩
  refine ⟨fun h => leaf (p := (_, _)) ?_, fun h => ⟨trivial, bD ⟨fun h2 => leaf (p := (_, _)) ?_, fun h2 => ?_⟩⟩⟩
  ·unfold eJ; rw [h]; rfl
  ·have h2 : (!decide ((bn l no).2 = 0)) = true := h2
   unfold eJ; rw [h, h2]; rfl
  ·have h2 : (!decide ((bn l no).2 = 0)) = false := h2
   have h3 : (bn l no).2 = 0 := by simpa using h2
   obtain ⟨t1, t2, t3, _⟩ := Bc h3
   have hln := (fy t3).len
   have hmany : 0 ≤ (many : Int) ∧ (many : Int) ≤ 16 := by
    by_cases h4 : many < (0 : Int)
    ·rw [decide_eq_true h4] at h; cases h
    ·rw [decide_eq_false h4] at h
     have h5 : ¬ (16 : Int) < many := of_decide_eq_false h
     exact ⟨Int.not_lt.1 h4, Int.not_lt.1 h5⟩
   obtain ⟨n, hn⟩ : ∃ n : Nat, (n : Int) = many := ⟨Int.toNat many, Int.toNat_of_nonneg hmany.1⟩
   subst hn
   have e : eJ l no (n : Int) = (ud (bn l no).1 n, 0) := by unfold eJ; rw [h, h2]; rfl
   show bI _ _ _ (cC prog O w0 ko fun z => z = ((eJ l no (n : Int)).1, (eJ l no (n : Int)).2, ())) _ _ _ _
   rw [e]
   exact (Ea O w0 (bn l no).1 n (by omega) (by omega) (Int.ofNat_le.1 hmany.2)).down 0 [] (Nat.zero_le _) ⟨rfl, rfl⟩
theorem Ew : ay prog [] m6 j6 :=
 bR (S := j6) (Ev m4) (fx := vd) Dh (by kernel_rfl) (fun _ _ => trivial) (T := fun x => wH x.1 x.2.1) (fun x => A1 x.1 x.2.1) fun O w0 x hk _ => by
  obtain ⟨l, no, ⟨⟩⟩ := x
  have leaf : ∀ {p : Mem × Int}, fh l no = p → ∃ z, bo o4 (K.val (Ty.pair ab (Ty.pair ae Ty.unit)) (p.1, p.2, ())) = some z ∧ z = j6.g (l, no, ()) := fun {p} e =>
   ⟨_, rfl, by show (p.1, p.2, ()) = ((fh l no).1, (fh l no).2, ()); rw [e]⟩
  refine ⟨trivial, bD ⟨fun h2 => leaf (p := (_, _)) ?_, fun h2 => ?_⟩⟩
  ·have h2 : (!decide ((bn l no).2 = 0)) = true := h2
   unfold fh; rw [h2]; rfl
  ·have h2 : (!decide ((bn l no).2 = 0)) = false := h2
   have h3 : (bn l no).2 = 0 := by simpa using h2
   obtain ⟨t1, t2, t3, _⟩ := Bc h3
   have hln := (fy t3).len
   have e1 : lnx ab (bn l no).1 = ((bn l no).1.length : Int) := rfl
   have e2 : IntKind.wrap .i64 (lnx ab (bn l no).1 - 1) = ((bn l no).1.length : Int) - 1 := by rw [e1]; exact dr (by omega)
   rw [e2]
   refine ⟨⟨by omega, by rw [e1]; omega⟩, leaf (p := (_, _)) ?_⟩
   unfold fh; rw [h2]; rfl
end Go.Proofs.Ytimdnodkabnbfaa
namespace Go.Proofs.Ytimdnodkabnbfaa
open Go Go.RowKit
section
variable {l : List Mem}
theorem JK (hk : OkM l) {id : List Int} (hid : gx id) {x : Mem} (hx : x ∈ l) (h : ∀ y ∈ l, vB (aW id x.2.1) ≤ vB (aW id y.2.1)) : gr bU aT (vB id) l x :=
 ⟨hx, fun y hy => by
  have := h y hy
  rw [kF hid (dX (hk x hx)), kF hid (dX (hk y hy))] at this
  exact this⟩
theorem FW (id : List Int) : ∀ (t : List Mem) (b : Mem), vL (cmM (cT id)) b t = lW (fun m => vB (aW id m.2.1)) b t
 | [], _ => rfl
 | x :: t, b => by
  have e : (cmM (cT id) x b < 0) = (vB (aW id x.2.1) < vB (aW id b.2.1)) := propext (yD (a := aW id x.2.1) (b := aW id b.2.1))
  show vL (cmM (cT id)) (if cmM (cT id) x b < 0 then x else b) t = lW (fun m => vB (aW id m.2.1)) (if vB (aW id x.2.1) < vB (aW id b.2.1) then x else b) t
  simp only [e]
  exact FW id t _
theorem wC {k : Mem → Int} {b : Mem} {t : List Mem} : lW k b t ∈ b :: t ∧ ∀ y ∈ b :: t, k (lW k b t) ≤ k y := by
 obtain ⟨h1, h2, h3⟩ := wr k t b
 refine ⟨h1, fun y hy => ?_⟩
 rcases List.mem_cons.1 hy with rfl | hy
 ·exact h2
 ·exact h3 y hy
theorem IM (hr : bp l = true) (hk : OkM l) (h0 : 0 < l.length) {id : List Int} (hid : gx id) : ∃ o, io l id = (o, 0) ∧ gr bU aT (vB id) l o := by
 refine ⟨E5 (cmM (cT id)) l, ?_, ?_⟩
 ·unfold io
  rw [hr, decide_eq_false (show ¬ (lnx ab l = 0) from fun h => by have h : (l.length : Int) = 0 := h; omega)]
  rfl
 ·cases l with
  | nil => cases h0
  | cons b t =>
   show gr bU aT (vB id) (b :: t) (vL (cmM (cT id)) b t)
   rw [FW]
   exact JK hk hid wC.1 wC.2
theorem DT (id : List Int) : ∀ (t : List Mem) (b : Mem), 0 ≤ (b.1 : Int) → (∀ x ∈ t, 0 ≤ (x.1 : Int)) → t.foldl (ux id) b = lW (fun m => vB (aW id m.2.1)) b t
 | [], _, _, _ => rfl
 | x :: t, b, hb, ht => by
  have hx := ht x List.mem_cons_self
  have e : ux id b x = if vB (aW id x.2.1) < vB (aW id b.2.1) then x else b := by
   unfold ux
   rw [decide_eq_false (Int.not_lt.2 hb), cond_false]
   by_cases h : vB (aW id x.2.1) < vB (aW id b.2.1)
   ·rw [decide_eq_true (yD.2 h), if_pos h]; rfl
   ·rw [decide_eq_false (fun h' => h (yD.1 h')), if_neg h]; rfl
  show t.foldl (ux id) (ux id b x) = lW (fun m => vB (aW id m.2.1)) (if vB (aW id x.2.1) < vB (aW id b.2.1) then x else b) t
  rw [e]
  refine DT id t _ ?_ fun y hy => ht y (List.mem_cons_of_mem _ hy)
  split
  ·exact hx
  ·exact hb
theorem KN (hr : bp l = true) (hk : OkM l) (h0 : 0 < l.length) {id : List Int} (hid : gx id) : gr bU aT (vB id) l (Gp l id) := by
 have hno := (fy hr).no
 cases l with
 | nil => cases h0
 | cons b t =>
  have e : Gp (b :: t) id = lW (fun m => vB (aW id m.2.1)) b t := by
   show t.foldl (ux id) (ux id noM b) = _
   have : ux id noM b = b := by unfold ux; rfl
   rw [this]
   exact DT id t b (hno b List.mem_cons_self).1 fun x hx => (hno x (List.mem_cons_of_mem _ hx)).1
  rw [e]
  exact JK hk hid wC.1 wC.2
theorem Mw {a : List Int} (ha : gx a) : gx (ES a pw0) ∧ vB (ES a pw0) = rup aT (vB a) := by
 have hr := kW ha
 have hs := vX 32 (v := (vB a + vB pw0) % aT) (Int.emod_nonneg _ (by decide)) (Int.emod_lt_of_pos _ (by decide))
 refine ⟨⟨qQ _ _, hs.1⟩, ?_⟩
 unfold ES
 rw [hs.2, Nv]
 unfold rup
 split
 ·rename_i h; rw [h, Int.emod_self]
 ·exact Int.emod_eq_of_lt (by omega) (by omega)
theorem qJ (hr : bp l = true) (hk : OkM l) {m : Mem} (hm : m ∈ l) : gr bU aT (rup aT (bU m)) l (bN l m) := by
 have h0 : 0 < l.length := List.length_pos_of_mem hm
 obtain ⟨a1, a2⟩ := Mw (dX (hk m hm))
 have := KN hr hk h0 a1
 rw [a2] at this
 exact this
theorem Na (hr : bp l = true) {m : Mem} (hm : m ∈ l) : ¬ mA l m.1 < 0 ∧ ∃ k : Nat, ∃ hk : k < l.length, mA l m.1 = (k : Int) ∧ l[k] = m := by
 have ha : l.any (fun x => decide (x.1 = m.1)) = true := List.any_eq_true.2 ⟨m, hm, decide_eq_true rfl⟩
 have h0 := (tI (fun x => decide (x.1 = m.1)) l 0 (Int.le_refl _)).1 ha
 have hn : ¬ mA l m.1 < 0 := Int.not_lt.2 h0.1
 obtain ⟨k, hk, e1, e2⟩ := AH hn
 exact ⟨hn, k, hk, e1, (fy hr).inj (List.getElem_mem hk) hm (.inl e2)⟩
def srt (l : List Mem) (m : Mem) : List Mem := fT ab (cT m.2.1) l
theorem zM (hr : bp l = true) {m : Mem} (hm : m ∈ l) : bn l m.1 = (srt l m, 0) := by
 obtain ⟨h1, k, hk, e1, e2⟩ := Na hr hm
 unfold bn
 rw [hr, decide_eq_false h1, e1, bX hk, e2]
 rfl
theorem wg (hr : bp l = true) (hk : OkM l) {m : Mem} (hm : m ∈ l) : nm bU aT (bU m) l (srt l m) ∧ (srt l m).length = l.length := LI (fy hr) hk (dX (hk m hm))
theorem Gg (hr : bp l = true) (hk : OkM l) {m : Mem} (hm : m ∈ l) (h : 0 < (srt l m).length) : (srt l m)[0] = m := nm.self ((fy hr).rng hk) hm (wg hr hk hm).1 h
theorem Hf (hr : bp l = true) (hk : OkM l) {m : Mem} (hm : m ∈ l) : ∃ h : (srt l m).length - 1 < (srt l m).length, fh l m.1 = ((srt l m)[(srt l m).length - 1], 0) := by
 have hl := (wg hr hk hm).2
 have h0 : 0 < l.length := List.length_pos_of_mem hm
 have hlt : (srt l m).length - 1 < (srt l m).length := by omega
 refine ⟨hlt, ?_⟩
 unfold fh
 rw [zM hr hm]
 show (el ab (srt l m) (((srt l m).length : Int) - 1), (0 : Int)) = _
 rw [show ((srt l m).length : Int) - 1 = (((srt l m).length - 1 : Nat) : Int) by omega, bX hlt]
theorem IF (hr : bp l = true) {m : Mem} (hm : m ∈ l) {n : Nat} (hn : n ≤ 16) : eJ l m.1 (n : Int) = (ud (srt l m) n, 0) := by
 unfold eJ
 rw [zM hr hm, decide_eq_false (show ¬ ((n : Nat) : Int) < 0 by omega), decide_eq_false (show ¬ (16 : Int) < ((n : Nat) : Int) by omega)]
 rfl
theorem M9 {s : List Mem} (h0 : 0 < s.length) (i : Nat) : el ab s (Int.tmod ((i : Int) + 1) s.length) = s[(i + 1) % s.length]'(Nat.mod_lt _ h0) := by
 have e : Int.tmod ((i : Int) + 1) s.length = (((i + 1) % s.length : Nat) : Int) := by
  rw [show (i : Int) + 1 = ((i + 1 : Nat) : Int) by omega]
  exact (Int.ofNat_tmod _ _).symm
 rw [e, bX (Nat.mod_lt _ h0)]
theorem Ia (hr : bp l = true) (hk : OkM l) {a : Int} (ha : 0 ≤ a ∧ a < aT) {s : List Mem} (hs : nm bU aT a l s) {i : Nat} (hi : i < s.length) : bN l s[i] = s[(i + 1) % s.length]'(Nat.mod_lt _ (by omega)) := by
 have hm : s[i] ∈ l := (hs.mem _).1 (List.getElem_mem hi)
 have hrng := (fy hr).rng hk
 exact gr.uniq hrng (Km (hrng.in' _ hm)) (qJ hr hk hm) (hs.next hrng ha hi)
theorem BN (hr : bp l = true) (hk : OkM l) {a : Int} (ha : 0 ≤ a ∧ a < aT) {s : List Mem} (hs : nm bU aT a l s) (h0 : 0 < s.length) : ∀ i : Nat, kH l s[0] i = (ud s i, s[i % s.length]'(Nat.mod_lt _ h0))
 | 0 => by
  show ([], s[0]) = ([], s[0 % s.length]'(Nat.mod_lt _ h0))
  simp only [Nat.zero_mod]
 | i + 1 => by
  have ih := BN hr hk ha hs h0 i
  have hn := Ia hr hk ha hs (Nat.mod_lt i h0)
  have e : (i % s.length + 1) % s.length = (i + 1) % s.length := by rw [Nat.mod_add_mod]
  simp only [e] at hn
  show ((kH l s[0] i).1 ++ [bN l (kH l s[0] i).2], bN l (kH l s[0] i).2) = (ud s i ++ [el ab s (Int.tmod ((i : Int) + 1) s.length)], _)
  rw [ih]
  show (ud s i ++ [bN l (s[i % s.length]'(Nat.mod_lt _ h0))], bN l (s[i % s.length]'(Nat.mod_lt _ h0))) = _
  rw [hn, M9 h0]
theorem J4 (hr : bp l = true) (hk : OkM l) {m : Mem} (hm : m ∈ l) (n : Nat) : (kH l m n).1 = ud (srt l m) n := by
 obtain ⟨h1, h2⟩ := wg hr hk hm
 have h0 : 0 < (srt l m).length := by rw [h2]; exact List.length_pos_of_mem hm
 have := BN hr hk (((fy hr).rng hk).in' m hm) h1 h0 n
 rw [Gg hr hk hm h0] at this
 rw [this]
end
end Go.Proofs.Ytimdnodkabnbfaa
namespace Go.Proofs.Ytimdnodkabnbfaa
open Go Go.RowKit
section
variable {l : List Mem}
theorem RR.sub {l l' : List Mem} (h : RR l) (hs : l'.Sublist l) : RR l' := ⟨Nat.le_trans hs.length_le h.len, fun m hm => h.no m (hs.subset hm), h.pw.sublist hs⟩
theorem nk (hr : bp l = true) (hk : OkM l) {m : Mem} (hm : m ∈ l) : bN l m ∈ l := (qJ hr hk hm).1
theorem D9 (hr : bp l = true) (hk : OkM l) {m : Mem} (hm : m ∈ l) : ∃ b, fh l m.1 = (b, 0) ∧ b ∈ l ∧ bN l b = m := by
 obtain ⟨h1, h2⟩ := wg hr hk hm
 have h0 : 0 < (srt l m).length := by rw [h2]; exact List.length_pos_of_mem hm
 obtain ⟨hlt, e⟩ := Hf hr hk hm
 refine ⟨_, e, (h1.mem _).1 (List.getElem_mem hlt), ?_⟩
 rw [Ia hr hk (((fy hr).rng hk).in' m hm) h1 hlt]
 have e : ((srt l m).length - 1 + 1) % (srt l m).length = 0 := by rw [Nat.sub_add_cancel h0, Nat.mod_self]
 simp only [e]
 exact Gg hr hk hm h0
theorem Ga (hr : bp l = true) (hk : OkM l) {id : List Int} (hid : gx id) {o b m : Mem} (ho : gr bU aT (vB id) l o) (hb : b ∈ l) (hm : m ∈ l) (hn : bN l b = m) : gk id b.2.1 m.2.1 = decide (m = o) := by
 have hrng := (fy hr).rng hk
 have hnx := qJ hr hk hb
 rw [hn] at hnx
 have ha := kW hid
 by_cases e : b = m
 ·subst e
  have h1 : gk id b.2.1 b.2.1 = true := by simp [gk]
  rw [h1]
  refine (decide_eq_true ?_).symm
  refine hrng.inj b hb o ho.1 ?_
  refine Decidable.byContradiction fun hne => ?_
  have h2 := hnx.2 o ho.1
  have rb := hrng.in' b hb
  have ro := hrng.in' o ho.1
  rw [wx rb rb, wx rb ro, if_pos rfl, if_neg (fun h => hne h.symm)] at h2
  have := iX rb ro
  omega
 ·have ib := dX (hk b hb)
  have im := dX (hk m hm)
  have hne : ¬ b.2.1 = m.2.1 := fun h => e ((fy hr).inj hb hm (.inr h))
  rw [← Kn hid ib im hne]
  have k1 : (0 < rky aT (vB b.2.1) (vB id) ∧ rky aT (vB b.2.1) (vB id) ≤ rky aT (vB b.2.1) (vB m.2.1)) ↔ m = o :=
   (Lh hrng ha hb hnx e).trans ⟨fun h => gr.uniq hrng ha h ho, fun h => by rw [h]; exact ho⟩
  have hfar := kF ib hid
  have hfm := kF ib im
  have hz : (aW b.2.1 id = List.replicate 32 (0 : Int)) ↔ rky aT (vB b.2.1) (vB id) = 0 := by
   rw [Gj ib hid]
   have rb := kW ib
   constructor
   ·intro h; rw [h]; exact rq
   ·intro h; exact (rr rb ha h).symm
  have hnn := (iX (W := aT) (kW ib) ha).1
  by_cases h0 : aW b.2.1 id = List.replicate 32 (0 : Int)
  ·rw [decide_eq_true h0]
   symm
   refine decide_eq_false fun h => ?_
   have := (k1.2 h).1
   rw [hz.1 h0] at this
   omega
  ·rw [decide_eq_false h0]
   refine decide_eq_decide.2 ?_
   rw [Ka, hfar, hfm, ← k1]
   have : ¬ rky aT (vB b.2.1) (vB id) = 0 := fun h => h0 (hz.2 h)
   constructor
   ·intro h; exact ⟨by omega, h⟩
   ·intro h; exact h.2
end
end Go.Proofs.Ytimdnodkabnbfaa
namespace Go.Proofs.Ytimdnodkabnbfaa
open Go Go.RowKit
end Go.Proofs.Ytimdnodkabnbfaa
namespace Go.Proofs.Ytimdnodkabnbfaa
open Go Go.RowKit
abbrev Nd := den ag
abbrev sfN (n : Nd) : Mem := n.1
def fM (m : Mem) : Bool := bif decide (0 ≤ m.1) then decide (m.1 < 16) else false
def CC (no : Int) : List Mem → List Mem → Bool
 | _, [] => true
 | pre, m :: l => bif (bif (bif !fM m then true else decide (m.1 = no)) then true else pre.any fun x => decide (x.1 = m.1)) then false else CC no (pre ++ [m]) l
def eB (l : List Mem) (no : Int) : Bool := CC no [] l
def yP (n : Nd) : Bool := bif decide (n.2.1 = noM) then true else bif fM n.2.1 then !decide (n.2.1.1 = n.1.1) else false
def u6 (n : Nd) : Bool := bif (bif decide (1 ≤ lnx ab n.2.2.1) then decide (lnx ab n.2.2.1 ≤ 4) else false) then (bif decide (n.2.2.1 = [n.1]) then true else eB n.2.2.1 n.1.1) else false
def bt (n : Nd) : Bool := bif (bif (bif (bif fM n.1 then yP n else false) then u6 n else false) then decide (lnx ab n.2.2.2.1 ≤ 16) else false) then eB n.2.2.2.1 n.1.1 else false
def mf (n : Nd) (id : List Int) : Bool := bif (bif bt n then !decide (n.2.1 = noM) else false) then gk id n.2.1.2.1 n.1.2.1 else false
def jT (self id : List Int) (m : Mem) : Bool := bif (bif !decide (m.2.1 = self) then !decide (m.2.1 = id) else false) then gk m.2.1 self id else false
def gv (self : List Int) (b : Mem × Int) (m : Mem) : Mem × Int := bif (bif !decide (b.2 = 0) then true else decide (fQ (aW self b.1.2.1) (aW self m.2.1) < 0)) then (m, 0) else b
def cr (id self : List Int) (l : List Mem) : Mem × Int := (l.filter (jT self id)).foldl (gv self) (zero ab, 6)
def cY (n : Nd) (id : List Int) : Mem × Bool × Int :=
 bif !bt n then (zero ab, false, 1) else
 bif gk id n.1.2.1 (el ab n.2.2.1 0).2.1 then (el ab n.2.2.1 0, true, 0) else
 bif !decide ((cr id n.1.2.1 (n.2.2.2.1 ++ n.2.2.1)).2 = 0) then (el ab n.2.2.1 0, false, 0) else
 ((cr id n.1.2.1 (n.2.2.2.1 ++ n.2.2.1)).1, false, 0)
def bB (self : Int) (nos : List Int) (m : Mem) : Bool := bif !decide (m.1 = self) then nos.any (fun x => decide (x = m.1)) else false
def tQ (n : Nd) (l : List Mem) : List Mem := bif decide (lnx ab l = 0) then [n.1] else l
def ne (n : Nd) (nos : List Int) : Nd :=
 (n.1, (bif (bif !decide (n.2.1 = noM) then bB n.1.1 nos n.2.1 else false) then noM else n.2.1),
  tQ n (n.2.2.1.filter fun m => !bB n.1.1 nos m), n.2.2.2.1.filter (fun m => !bB n.1.1 nos m), ())
def gH (n : Nd) (nos : List Int) : Nd × Int := bif !bt n then (zero ag, 1) else (ne n nos, 0)
def Lm (no : Int) : den (.fn (.pair ab .unit) (.pair .bool .unit)) := some fun y => (decide (y.1.1 = no), ())
noncomputable abbrev gB : bA := ⟨yO, yM, fun _ => (noM, ()), fun _ => True, true⟩
noncomputable abbrev mb : bA := ⟨z6, zQ, fun x => (fM x.1, ()), fun _ => True, true⟩
noncomputable abbrev px : bA := ⟨yz, xL, fun x => (decide (x.1.1 = x.2.1), ()), fun _ => True, true⟩
noncomputable abbrev tt : bA := ⟨Bn, Bi, fun x => (Lm x.1, ()), fun _ => True, true⟩
noncomputable abbrev m9 : bA := ⟨uI, oT, fun x => (eB x.1 x.2.1, ()), fun _ => True, true⟩
noncomputable abbrev dB : bA := ⟨mK, iR, fun x => (decide (x.1 = x.2.1), ()), fun _ => True, true⟩
def ixI (n : Int) : List Int → Int → Int
 | [], _ => -1
 | x :: l, i => bif decide (n = x) then i else ixI n l (i + 1)
noncomputable abbrev iz : bA := ⟨oJ, oK, fun x => (ixI x.2.1 x.1 0, ()), fun _ => True, true⟩
noncomputable abbrev ge : bA := ⟨mI, mM, fun x => (List.any x.1 (fun y => decide (y = x.2.1)), ()), fun _ => True, true⟩
noncomputable abbrev dY : bA := ⟨wE, wU, fun x => (bt x.1, ()), fun _ => True, true⟩
noncomputable abbrev pn : bA := ⟨yv, xX, fun x => (mf x.1 x.2.1, ()), fun _ => True, true⟩
noncomputable abbrev m8 : bA := ⟨vH, vj, fun x => (bB (sfN x.2.1).1 x.2.2.1 x.1, ()), fun _ => True, true⟩
noncomputable abbrev pF : bA := ⟨xW, jp, fun x => ((gH x.1 x.2.1).1, (gH x.1 x.2.1).2, ()), fun _ => True, true⟩
noncomputable abbrev mP : bA := ⟨yC, r6, fun x => ((cY x.1 x.2.1).1, (cY x.1 x.2.1).2.1, (cY x.1 x.2.1).2.2, ()), fun _ => True, true⟩
noncomputable abbrev iF : bA := ⟨oI, oM, fun x => (jT x.2.1 x.2.2.1 x.1, ()), fun _ => True, true⟩
noncomputable abbrev j2 : bA := ⟨qC, mw, fun x => ((cr x.1 x.2.1 x.2.2.1).1, (cr x.1 x.2.1 x.2.2.1).2, ()), fun _ => True, true⟩
@[reducible] def jm : eN := ⟨ab, false, .pair (.slc ab) .unit, true, fun _ y => y.1.length ≤ bY, fun _ y => y.1⟩
@[reducible] def uv : eN := ⟨ab, false, .pair (.slc (.slc ab)) .unit, true, fun _ y => (y.1.flatten : List Mem).length ≤ bY, fun _ y => (y.1.flatten : List Mem)⟩
end Go.Proofs.Ytimdnodkabnbfaa
namespace Go.Proofs.Ytimdnodkabnbfaa
open Go Go.RowKit
noncomputable abbrev xH : Fx := { fn := tZ, ann := { } }
noncomputable abbrev zO : bg := { D := { T := br, F := [], R := [], ovl := [] }, inl := [] }
noncomputable abbrev GU : bF := .data yM
theorem GV : XOk prog zO := xok ((aU aY aM)) (by kernel_rfl) aS a6 aZ
noncomputable def zz : af := af.ret (K.val (Ty.pair ab Ty.unit) ((-1, zero (Ty.pair tId Ty.unit)), PUnit.unit))
theorem Dq : ak zO GU 5000 [] xH (aF tZ) (Env.of (aK yO () 0) []) = zz := by kernel_rfl
noncomputable abbrev zF : Fx := { fn := vO, ann := { } }
noncomputable abbrev Cn : bg := { D := { T := br, F := [], R := [], ovl := [] }, inl := [] }
noncomputable abbrev I3 : bF := .data zQ
theorem IE : XOk prog Cn := xok ((aU aY aM)) (by kernel_rfl) aS a6 aZ
noncomputable def Cq (m : den ab) : af := af.ret (K.val (Ty.pair Ty.bool Ty.unit) (bif decide (0 ≤ Prod.fst m) then decide (Prod.fst m < 16) else false, PUnit.unit))
theorem EK (m : den ab) : ak Cn I3 5000 [] zF (aF vO) (Env.of (aK z6 (m, ()) 0) []) = Cq m := by kernel_rfl
noncomputable abbrev yj : Fx := { fn := uw, ann := { } }
noncomputable abbrev zZ : bg := { D := { T := br, F := [], R := [], ovl := [] }, inl := [] }
noncomputable abbrev G5 : bF := .data xL
theorem GY : XOk prog zZ := xok ((aU aY aM)) (by kernel_rfl) aS a6 aZ
noncomputable def zE (m : den ab) (no : den (Ty.ref ae)) : af := af.ret (K.val (Ty.pair Ty.bool Ty.unit) (decide (Prod.fst m = no), PUnit.unit))
theorem Cz (m : den ab) (no : den (Ty.ref ae)) : ak zZ G5 5000 [] yj (aF uw) (Env.of (aK yz (m, no, ()) 0) []) = zE m no := by kernel_rfl
noncomputable abbrev B9 : Fx := { fn := yL, ann := { frz := [(1, [1])] } }
noncomputable abbrev DO : bg := { D := { T := br, F := [(pD, px)], R := [], ovl := [] }, inl := [] }
noncomputable abbrev KZ : bF := .data Bi
theorem K1 (h_node_of_1 : ay prog [] pD px) : XOk prog DO := xok (ax (aU aY aM) h_node_of_1) (by kernel_rfl) aS a6 aZ
noncomputable def DR (no : den ae) : af := af.req (∀ (y : den (Ty.pair ab Ty.unit)), True) (af.ret (K.val (Ty.pair (Ty.fn (Ty.pair ab Ty.unit) (Ty.pair Ty.bool Ty.unit)) Ty.unit) (some fun (y : den (Ty.pair ab Ty.unit)) ↦ (decide (Prod.fst (Prod.fst y) = no), PUnit.unit), PUnit.unit)))
theorem E6 (no : den ae) : ak DO KZ 5000 [] B9 (aF yL) (Env.of (aK Bn (no, ()) 0) []) = DR no := by kernel_rfl
noncomputable abbrev gI : Fx := { fn := gl, ann := { loops := [(2, { keep := [0, 1, 7, 8, 9] })] } }
noncomputable abbrev j4 : bg := { D := { T := br, F := [(md, mb), (s6, tt), (cv, cu)], R := [], ovl := [] }, inl := [] }
noncomputable abbrev xc : bF := .data oT
theorem EA (h_node_may : ay prog [] md mb) (h_node_of : ay prog [] s6 tt) (h_slices_ContainsFunc_Member : ay prog [] cv cu) : XOk prog j4 := xok (ax (ax (ax (aU aY aM) h_slices_ContainsFunc_Member) h_node_of) h_node_may) (by kernel_rfl) aS a6 aZ
noncomputable def wM (l : den (Ty.slc ab)) (no : den ae) : af := af.loop [] gI (lp gl 2) [(0, K.val (Ty.slc ab) l), (1, K.val ae no), (7, K.val (Ty.slc ab) l), (8, K.val ae (lnx ab l)), (9, K.val ae 0)] []
theorem A4 (l : den (Ty.slc ab)) (no : den ae) : ak j4 xc 5000 [] gI (aF gl) (Env.of (aK uI (l, no, ()) 0) []) = wM l no := by kernel_rfl
noncomputable def tJ (v0 : den (Ty.slc ab)) (v1 : den ae) (v7 : den (Ty.slc ab)) (v8 : den ae) (v9 : den ae) : Env := Env.of [(0, K.val (Ty.slc ab) v0), (1, K.val ae v1), (7, K.val (Ty.slc ab) v7), (8, K.val ae v8), (9, K.val ae v9)] []
noncomputable def AM (v0 : den (Ty.slc ab)) (v1 : den ae) (v7 : den (Ty.slc ab)) (v8 : den ae) (v9 : den ae) : af := af.ite (decide (v9 < v8)) (af.req (inB v9 (lnx ab v7)) (af.req True (af.req (dy [(bif !fM (el ab v7 v9) then true else decide (Prod.fst (el ab v7 v9) = v1), false)] (bP 0 v9 (lnx ab v0))) (af.req (dy [(bif !fM (el ab v7 v9) then true else decide (Prod.fst (el ab v7 v9) = v1), false)] True) (af.req (dy [(bif !fM (el ab v7 v9) then true else decide (Prod.fst (el ab v7 v9) = v1), false)] (∃ (h : den (Ty.pair ab Ty.unit) → den (Ty.pair Ty.bool Ty.unit)), Lm (Prod.fst (el ab v7 v9)) = some h)) (af.ite (bif bif !fM (el ab v7 v9) then true else decide (Prod.fst (el ab v7 v9) = v1) then true else List.any (gd ab v0 0 v9) (prM (Lm (Prod.fst (el ab v7 v9))))) (af.ret (K.val (Ty.pair Ty.bool Ty.unit) (false, PUnit.unit))) (af.loop [] gI (lp gl 2) [(0, K.val (Ty.slc ab) v0), (1, K.val ae v1), (7, K.val (Ty.slc ab) v7), (8, K.val ae v8), (9, K.val ae (IntKind.wrap IntKind.i64 (v9 + 1)))] []))))))) (af.ret (K.val (Ty.pair Ty.bool Ty.unit) (true, PUnit.unit)))
theorem oL (v0 : den (Ty.slc ab)) (v1 : den ae) (v7 : den (Ty.slc ab)) (v8 : den ae) (v9 : den ae) : ak j4 xc 5000 [] gI (lp gl 2) (tJ v0 v1 v7 v8 v9) = AM v0 v1 v7 v8 v9 := by kernel_rfl
noncomputable abbrev dl : Fx := { fn := cO, ann := { loops := [(4, { keep := [0, 1, 12, 13] })] } }
noncomputable abbrev ga : bg := { D := { T := br, F := [], R := [], ovl := [] }, inl := [] }
noncomputable abbrev nx : bF := .data iR
theorem jD : XOk prog ga := xok ((aU aY aM)) (by kernel_rfl) aS a6 aZ
noncomputable def nu (a : den (Ty.slc ab)) (b : den (Ty.slc ab)) : af := af.ite (!decide (lnx ab a = lnx ab b)) (af.ret (K.val (Ty.pair Ty.bool Ty.unit) (false, PUnit.unit))) (af.loop [] dl (lp cO 4) [(0, K.val (Ty.slc ab) a), (1, K.val (Ty.slc ab) b), (12, K.val ae (lnx ab a)), (13, K.val ae 0)] [])
theorem sF (a : den (Ty.slc ab)) (b : den (Ty.slc ab)) : ak ga nx 5000 [] dl (aF cO) (Env.of (aK mK (a, b, ()) 0) []) = nu a b := by kernel_rfl
noncomputable def mh (v0 : den (Ty.slc ab)) (v1 : den (Ty.slc ab)) (v12 : den ae) (v13 : den ae) : Env := Env.of [(0, K.val (Ty.slc ab) v0), (1, K.val (Ty.slc ab) v1), (12, K.val ae v12), (13, K.val ae v13)] []
noncomputable def rV (v0 : den (Ty.slc ab)) (v1 : den (Ty.slc ab)) (v12 : den ae) (v13 : den ae) : af := af.ite (decide (v13 < v12)) (af.req (inB v13 (lnx ab v0)) (af.req (inB v13 (lnx ab v1)) (af.ite (!eqb ab (el ab v0 v13) (el ab v1 v13)) (af.ret (K.val (Ty.pair Ty.bool Ty.unit) (false, PUnit.unit))) (af.loop [] dl (lp cO 4) [(0, K.val (Ty.slc ab) v0), (1, K.val (Ty.slc ab) v1), (12, K.val ae v12), (13, K.val ae (IntKind.wrap IntKind.i64 (v13 + 1)))] [])))) (af.ret (K.val (Ty.pair Ty.bool Ty.unit) (true, PUnit.unit)))
theorem jH (v0 : den (Ty.slc ab)) (v1 : den (Ty.slc ab)) (v12 : den ae) (v13 : den ae) : ak ga nx 5000 [] dl (lp cO 4) (mh v0 v1 v12 v13) = rV v0 v1 v12 v13 := by kernel_rfl
noncomputable abbrev dW : Fx := { fn := dC, ann := { loops := [(2, { keep := [0, 1, 7, 8] })] } }
noncomputable abbrev lz : bg := { D := { T := br, F := [], R := [], ovl := [] }, inl := [] }
noncomputable abbrev pT : bF := .data oK
theorem lm : XOk prog lz := xok ((aU aY aM)) (by kernel_rfl) aS a6 aZ
noncomputable def pL (s : den (Ty.slc ae)) (v : den ae) : af := af.loop [] dW (lp dC 2) [(0, K.val (Ty.slc ae) s), (1, K.val ae v), (7, K.val ae (lnx ae s)), (8, K.val ae 0)] []
theorem vl (s : den (Ty.slc ae)) (v : den ae) : ak lz pT 5000 [] dW (aF dC) (Env.of (aK oJ (s, v, ()) 0) []) = pL s v := by kernel_rfl
noncomputable def n9 (v0 : den (Ty.slc ae)) (v1 : den ae) (v7 : den ae) (v8 : den ae) : Env := Env.of [(0, K.val (Ty.slc ae) v0), (1, K.val ae v1), (7, K.val ae v7), (8, K.val ae v8)] []
noncomputable def u5 (v0 : den (Ty.slc ae)) (v1 : den ae) (v7 : den ae) (v8 : den ae) : af := af.ite (decide (v8 < v7)) (af.req (inB v8 (lnx ae v0)) (af.ite (decide (v1 = el ae v0 v8)) (af.ret (K.val (Ty.pair ae Ty.unit) (v8, PUnit.unit))) (af.loop [] dW (lp dC 2) [(0, K.val (Ty.slc ae) v0), (1, K.val ae v1), (7, K.val ae v7), (8, K.val ae (IntKind.wrap IntKind.i64 (v8 + 1)))] []))) (af.ret (K.val (Ty.pair ae Ty.unit) (-1, PUnit.unit)))
theorem lr (v0 : den (Ty.slc ae)) (v1 : den ae) (v7 : den ae) (v8 : den ae) : ak lz pT 5000 [] dW (lp dC 2) (n9 v0 v1 v7 v8) = u5 v0 v1 v7 v8 := by kernel_rfl
noncomputable abbrev mJ : Fx := { fn := jo, ann := { } }
noncomputable abbrev nJ : bg := { D := { T := br, F := [(iO, iz)], R := [], ovl := [] }, inl := [] }
noncomputable abbrev u9 : bF := .data mM
theorem uP (h_slices_Index_int : ay prog [] iO iz) : XOk prog nJ := xok (ax (aU aY aM) h_slices_Index_int) (by kernel_rfl) aS a6 aZ
noncomputable def nv (s : den (Ty.slc ae)) (v : den ae) : af := af.req True (af.ret (K.val (Ty.pair Ty.bool Ty.unit) (decide (0 ≤ ixI v s 0), PUnit.unit)))
theorem rN (s : den (Ty.slc ae)) (v : den ae) : ak nJ u9 5000 [] mJ (aF jo) (Env.of (aK mI (s, v, ()) 0) []) = nv s v := by kernel_rfl
noncomputable abbrev xb : Fx := { fn := rC, ann := { } }
noncomputable abbrev xM : bg := { D := { T := br, F := [(gE, gB), (md, mb), (mY, m9), (dA, dB)], R := [], ovl := [] }, inl := [] }
noncomputable abbrev Fd : bF := .data wU
theorem Fp (h_node_none : ay prog [] gE gB) (h_node_may : ay prog [] md mb) (h_node_unlike : ay prog [] mY m9) (h_slices_Equal_Member : ay prog [] dA dB) : XOk prog xM := xok (ax (ax (ax (ax (aU aY aM) h_slices_Equal_Member) h_node_unlike) h_node_may) h_node_none) (by kernel_rfl) aS a6 aZ
noncomputable def xB (n : den ag) : af := af.req True (af.req (dy [(eqb ab (Prod.fst (Prod.snd n)) noM, false)] True) (af.req True (af.req (dy [(bif decide (1 ≤ lnx ab (Prod.fst (Prod.snd (Prod.snd n)))) then decide (lnx ab (Prod.fst (Prod.snd (Prod.snd n))) ≤ 4) else false, true), (decide (Prod.fst (Prod.snd (Prod.snd n)) = List.set (List.replicate 1 (zero ab)) 0 (Prod.fst n)), false)] True) (af.req True (af.req (dy [(bif bif bif fM (Prod.fst n) then bif eqb ab (Prod.fst (Prod.snd n)) noM then true else bif fM (Prod.fst (Prod.snd n)) then !decide (Prod.fst (Prod.fst (Prod.snd n)) = Prod.fst (Prod.fst n)) else false else false then bif bif decide (1 ≤ lnx ab (Prod.fst (Prod.snd (Prod.snd n)))) then decide (lnx ab (Prod.fst (Prod.snd (Prod.snd n))) ≤ 4) else false then bif decide (Prod.fst (Prod.snd (Prod.snd n)) = List.set (List.replicate 1 (zero ab)) 0 (Prod.fst n)) then true else eB (Prod.fst (Prod.snd (Prod.snd n))) (Prod.fst (Prod.fst n)) else false else false then decide (lnx ab (Prod.fst (Prod.snd (Prod.snd (Prod.snd n)))) ≤ 16) else false, true)] True) (af.ret (K.val (Ty.pair Ty.bool Ty.unit) (bif bif bif bif fM (Prod.fst n) then bif eqb ab (Prod.fst (Prod.snd n)) noM then true else bif fM (Prod.fst (Prod.snd n)) then !decide (Prod.fst (Prod.fst (Prod.snd n)) = Prod.fst (Prod.fst n)) else false else false then bif bif decide (1 ≤ lnx ab (Prod.fst (Prod.snd (Prod.snd n)))) then decide (lnx ab (Prod.fst (Prod.snd (Prod.snd n))) ≤ 4) else false then bif decide (Prod.fst (Prod.snd (Prod.snd n)) = List.set (List.replicate 1 (zero ab)) 0 (Prod.fst n)) then true else eB (Prod.fst (Prod.snd (Prod.snd n))) (Prod.fst (Prod.fst n)) else false else false then decide (lnx ab (Prod.fst (Prod.snd (Prod.snd (Prod.snd n)))) ≤ 16) else false then eB (Prod.fst (Prod.snd (Prod.snd (Prod.snd n)))) (Prod.fst (Prod.fst n)) else false, PUnit.unit))))))))
theorem Be (n : den ag) : ak xM Fd 5000 [] xb (aF rC) (Env.of (aK wE (n, ()) 0) []) = xB n := by kernel_rfl
noncomputable abbrev yB : Fx := { fn := uh, ann := { } }
noncomputable abbrev Ah : bg := { D := { T := br, F := [(d6, dY), (gE, gB), (iC, jV)], R := [], ovl := [] }, inl := [] }
noncomputable abbrev Hm : bF := .data xX
theorem GO (h_node_Right : ay prog [] d6 dY) (h_node_none : ay prog [] gE gB) (h_ident_In : ay prog [] iC jV) : XOk prog Ah := xok (ax (ax (ax (aU aY aM) h_ident_In) h_node_none) h_node_Right) (by kernel_rfl) aS a6 aZ
noncomputable def zH (n : den ag) (id : den tId) : af := af.req True (af.req (dy [(bt n, true)] True) (af.req (dy [(bif bt n then !eqb ab (Prod.fst (Prod.snd n)) noM else false, true)] True) (af.ret (K.val (Ty.pair Ty.bool Ty.unit) (bif bif bt n then !eqb ab (Prod.fst (Prod.snd n)) noM else false then gk id (Prod.fst (Prod.snd (Prod.fst (Prod.snd n)))) (Prod.fst (Prod.snd (Prod.fst n))) else false, PUnit.unit)))))
theorem Dw (n : den ag) (id : den tId) : ak Ah Hm 5000 [] yB (aF uh) (Env.of (aK yv (n, id, ()) 0) []) = zH n id := by kernel_rfl
noncomputable abbrev vJ : Fx := { fn := qz, ann := { } }
noncomputable abbrev wL : bg := { D := { T := br, F := [(gc, ge)], R := [], ovl := [] }, inl := [] }
noncomputable abbrev Ex : bF := .data vj
theorem EJ (h_slices_Contains_int : ay prog [] gc ge) : XOk prog wL := xok (ax (aU aY aM) h_slices_Contains_int) (by kernel_rfl) aS a6 aZ
noncomputable def w8 (m : den ab) (n : den (Ty.ref ag)) (nos : den (Ty.ref (Ty.slc ae))) : af := af.req (dy [(!decide (Prod.fst m = Prod.fst (Prod.fst n)), true)] True) (af.ret (K.val (Ty.pair Ty.bool Ty.unit) (bif !decide (Prod.fst m = Prod.fst (Prod.fst n)) then List.any nos fun (y : den (Ty.int IntKind.i64)) ↦ decide (y = Prod.fst m) else false, PUnit.unit)))
theorem Ax (m : den ab) (n : den (Ty.ref ag)) (nos : den (Ty.ref (Ty.slc ae))) : ak wL Ex 5000 [] vJ (aF qz) (Env.of (aK vH (m, n, nos, ()) 0) []) = w8 m n nos := by kernel_rfl
noncomputable abbrev oE : Fx := { fn := lB, ann := { } }
noncomputable abbrev p4 : bg := { D := { T := br, F := [(iC, jV)], R := [], ovl := [] }, inl := [] }
noncomputable abbrev xx : bF := .data oM
theorem yd (h_ident_In : ay prog [] iC jV) : XOk prog p4 := xok (ax (aU aY aM) h_ident_In) (by kernel_rfl) aS a6 aZ
noncomputable def pQ (m : den ab) (self : den (Ty.ref tId)) (id : den (Ty.ref tId)) : af := af.req (dy [(bif !eqb tId (Prod.fst (Prod.snd m)) self then !eqb tId (Prod.fst (Prod.snd m)) id else false, true)] True) (af.ret (K.val (Ty.pair Ty.bool Ty.unit) (bif bif !eqb tId (Prod.fst (Prod.snd m)) self then !eqb tId (Prod.fst (Prod.snd m)) id else false then gk (Prod.fst (Prod.snd m)) self id else false, PUnit.unit)))
theorem vA (m : den ab) (self : den (Ty.ref tId)) (id : den (Ty.ref tId)) : ak p4 xx 5000 [] oE (aF lB) (Env.of (aK oI (m, self, id, ()) 0) []) = pQ m self id := by kernel_rfl
noncomputable abbrev mB : Fx := { fn := jk, ann := { }, own := [5] }
noncomputable abbrev ny : bg := { D := { T := br, F := [], R := [], ovl := [] }, inl := [] }
noncomputable abbrev uC : bF := .row (ab)
theorem vF : XOk prog ny := xok ((aU aY aM)) (by kernel_rfl) aS a6 aZ
noncomputable def nG (s : den (Ty.slc ab)) : af := af.all Bool (fun (c : Bool) ↦ c = true → s = []) fun (q1 : Bool) ↦ af.ite q1 (af.ret (K.val (Ty.slc ab) [])) (af.req (List.length (List.replicate 0 (zero ab) ++ s) ≤ bY) (af.req (vok 0 (List.length (List.replicate 0 (zero ab) ++ s)) (List.length (List.replicate 0 (zero ab) ++ s))) (af.ret (K.val (Ty.slc ab) (pz ab (List.replicate 0 (zero ab) ++ s) 0 (List.length (List.replicate 0 (zero ab) ++ s)))))))
theorem sn (s : den (Ty.slc ab)) : ak ny uC 5000 [] mB (aF jk) (Env.of (aK (Ty.pair (Ty.slc ab) Ty.unit) (s, ()) 0) []) = nG s := by kernel_rfl
end Go.Proofs.Ytimdnodkabnbfaa
namespace Go.Proofs.Ytimdnodkabnbfaa
open Go Go.RowKit
theorem uf : ay prog [] gE gB :=
 bR (S := gB) GV (fx := xH) Fb (by kernel_rfl) (fun _ _ => trivial) (T := fun _ => zz) (fun _ => Dq) fun O w0 x _ _ => ⟨_, rfl, rfl⟩
theorem Ce : ay prog [] md mb :=
 bR (S := mb) IE (fx := zF) Ht (by kernel_rfl) (fun _ _ => trivial) (T := fun x => Cq x.1) (fun x => EK x.1) fun O w0 x _ _ => ⟨_, rfl, rfl⟩
theorem Hn : ay prog [] pD px :=
 bR (S := px) GY (fx := yj) GC (by kernel_rfl) (fun _ _ => trivial) (T := fun x => zE x.1 x.2.1) (fun x => Cz x.1 x.2.1) fun O w0 x _ _ => ⟨_, rfl, rfl⟩
theorem KA : ay prog [] s6 tt :=
 bR (S := tt) (K1 Hn) (fx := B9) Jx (by kernel_rfl) (fun _ _ => trivial) (T := fun x => DR x.1) (fun x => E6 x.1) fun O w0 x _ _ => ⟨fun _ => trivial, _, rfl, rfl⟩
abbrev GUl (O : Nat → Prop) (w0 : World) (y : Bool) := bI prog j4 (Cx.base O w0) (cC prog O w0 oT fun z => z = (y, ()))
theorem DF (no : Int) (pre : List Mem) (m : Mem) (l : List Mem) : CC no pre (m :: l) = bif (bif (bif !fM m then true else decide (m.1 = no)) then true else pre.any fun x => decide (x.1 = m.1)) then false else CC no (pre ++ [m]) l := rfl
theorem oS : XOk prog j4 := EA Ce KA jB
def Dm (O : Nat → Prop) (w0 : World) (l : List Mem) (no : Int) (hm : l.length ≤ maxLen) :=
 PLift.up <| bG (σ := Unit) l.length (fun i _ => CC no (l.take i) (l.drop i) = eB l no)
  (fun i _ => GUl O w0 (eB l no) [] gI (lp gl 2) (tJ l no l (lnx ab l) (i : Nat)))
  (fun i _ hi hs ih => aI oS (oL l no l _ _) (by
   rw [List.drop_eq_getElem_cons hi, DF, ← List.take_succ_eq_append_getElem hi] at hs
   have hi' : i ≤ l.length := Nat.le_of_lt hi
   refine ⟨fun _ => ⟨a8 hi, trivial, fun _ => ⟨Int.le_refl _, Int.natCast_nonneg _, Int.ofNat_le.2 hi'⟩, fun _ => trivial, fun _ => ⟨_, rfl⟩, ?_⟩, fun hc => absurd hi (by rw [cF] at hc; exact of_decide_eq_false hc)⟩
   rw [bX hi, cz hi hm, F3]
   refine ⟨fun hc => ⟨_, rfl, ?_⟩, fun hc => ih () ?_⟩
   ·have hc : (bif (bif !fM l[i] then true else decide (l[i].1 = no)) then true else (l.take i).any fun x => decide (x.1 = l[i].1)) = true := hc
    rw [hc] at hs
    exact Prod.ext hs rfl
   ·have hc : (bif (bif !fM l[i] then true else decide (l[i].1 = no)) then true else (l.take i).any fun x => decide (x.1 = l[i].1)) = false := hc
    rw [hc] at hs
    exact hs))
  (fun _ hs => aI oS (oL l no l _ _) (by
   refine ⟨fun hc => absurd (of_decide_eq_true hc) (Int.lt_irrefl _), fun _ => ⟨_, rfl, Prod.ext ?_ rfl⟩⟩
   rw [List.drop_length] at hs
   exact hs))
theorem Et : ay prog [] mY m9 :=
 bR (S := m9) oS (fx := gI) C0 (by kernel_rfl) (fun _ _ => trivial) (T := fun x => wM x.1 x.2.1) (fun x => A4 x.1 x.2.1) fun O w0 x hk _ =>
  (Dm O w0 x.1 x.2.1 hk.1.1).down 0 () (Nat.zero_le _) rfl
abbrev GEq (O : Nat → Prop) (w0 : World) (y : Bool) := bI prog ga (Cx.base O w0) (cC prog O w0 iR fun z => z = (y, ()))
def uq (O : Nat → Prop) (w0 : World) (a b : List Mem) (hl : a.length = b.length) (hm : a.length ≤ maxLen) :=
 PLift.up <| bG (σ := Unit) a.length (fun i _ => decide (a.drop i = b.drop i) = decide (a = b))
  (fun i _ => GEq O w0 (decide (a = b)) [] dl (lp cO 4) (mh a b (lnx ab a) (i : Nat)))
  (fun i _ hi hs ih => aI jD (jH a b _ _) (by
   have hi2 : i < b.length := by omega
   rw [List.drop_eq_getElem_cons hi, List.drop_eq_getElem_cons hi2] at hs
   refine ⟨fun _ => ⟨a8 hi, a8 hi2, ?_⟩, fun hc => absurd hi (by rw [cF] at hc; exact of_decide_eq_false hc)⟩
   rw [bX hi, bX hi2, cz hi hm, lS]
   refine ⟨fun hc => ⟨_, rfl, Prod.ext ?_ rfl⟩, fun hc => ih () ?_⟩
   ·have hne : ¬ a[i] = b[i] := by simpa using hc
    rw [← hs]
    exact (decide_eq_false fun e => hne (List.cons.inj e).1).symm
   ·have he : a[i] = b[i] := by simpa using hc
    rw [← hs]
    exact decide_eq_decide.2 ⟨fun e => by rw [he, e], fun e => (List.cons.inj e).2⟩))
  (fun _ hs => aI jD (jH a b _ _) (by
   refine ⟨fun hc => absurd (of_decide_eq_true hc) (Int.lt_irrefl _), fun _ => ⟨_, rfl, Prod.ext ?_ rfl⟩⟩
   rw [List.drop_length, hl, List.drop_length] at hs
   rw [← hs]
   rfl))
theorem nD : ay prog [] dA dB :=
 bR (S := dB) jD (fx := dl) ut (by kernel_rfl) (fun _ _ => trivial) (T := fun x => nu x.1 x.2.1) (fun x => sF x.1 x.2.1) fun O w0 x hk _ => by
  obtain ⟨a, b, ⟨⟩⟩ := x
  refine ⟨fun h => ⟨_, rfl, Prod.ext ?_ rfl⟩, fun h => ?_⟩
  ·have h : (!decide (((a.length : Nat) : Int) = (b.length : Nat))) = true := h
   have hne : ¬ a.length = b.length := fun e => by rw [e] at h; simp at h
   exact (decide_eq_false fun e => hne (congrArg List.length e)).symm
  ·have h : (!decide (((a.length : Nat) : Int) = (b.length : Nat))) = false := h
   have hl : a.length = b.length := by
    have : decide (((a.length : Nat) : Int) = (b.length : Nat)) = true := by simpa using h
    exact Int.ofNat.inj (of_decide_eq_true this)
   exact (uq O w0 a b hl hk.1.1).down 0 () (Nat.zero_le _) rfl
theorem Ib (n : Int) : ∀ (l : List Int) (i : Int), 0 ≤ i → decide (0 ≤ ixI n l i) = l.any fun y => decide (y = n)
 | [], _, _ => rfl
 | x :: l, i, hi => by
  show decide (0 ≤ (bif decide (n = x) then i else ixI n l (i + 1))) = (decide (x = n) || l.any fun y => decide (y = n))
  by_cases h : n = x
  ·rw [decide_eq_true h, decide_eq_true h.symm]
   exact decide_eq_true hi
  ·rw [decide_eq_false h, decide_eq_false (show ¬ x = n from fun e => h e.symm), Bool.false_or]
   exact Ib n l (i + 1) (by omega)
def xm (O : Nat → Prop) (w0 : World) (l : List Int) (n y : Int) (hm : l.length ≤ maxLen) :=
 PLift.up <| bG (σ := Unit) l.length (fun i _ => ixI n (l.drop i) (i : Nat) = y)
  (fun i _ => GIx O w0 y [] dW (lp dC 2) (n9 l n (lnx ae l) (i : Nat)))
  (fun i _ hi hs ih => aI lm (lr l n _ _) (by
   rw [List.drop_eq_getElem_cons hi] at hs
   have hs : (bif decide (n = l[i]) then ((i : Nat) : Int) else ixI n (l.drop (i + 1)) ((i : Nat) + 1)) = y := hs
   refine ⟨fun _ => ⟨a8 hi, ?_⟩, fun hc => absurd hi (by rw [cF (e := ae)] at hc; exact of_decide_eq_false hc)⟩
   rw [bX (e := ae) hi, cz hi hm]
   refine ⟨fun hc => ⟨_, rfl, Prod.ext ?_ rfl⟩, fun hc => ih () ?_⟩
   ·have hc : decide (n = l[i]) = true := hc
    rw [hc] at hs
    exact hs
   ·have hc : decide (n = l[i]) = false := hc
    rw [hc] at hs
    exact hs))
  (fun _ hs => aI lm (lr l n _ _) (by
   refine ⟨fun hc => absurd (of_decide_eq_true hc) (Int.lt_irrefl _), fun _ => ⟨_, rfl, Prod.ext ?_ rfl⟩⟩
   rw [List.drop_length] at hs
   exact hs))
theorem yf : ay prog [] iO iz :=
 bR (S := iz) lm (fx := dW) xj (by kernel_rfl) (fun _ _ => trivial) (T := fun x => pL x.1 x.2.1) (fun x => vl x.1 x.2.1) fun O w0 x hk _ =>
  (xm O w0 x.1 x.2.1 _ hk.1.1).down 0 () (Nat.zero_le _) rfl
theorem u7 : ay prog [] gc ge :=
 bR (S := ge) (uP yf) (fx := mJ) uo (by kernel_rfl) (fun _ _ => trivial) (T := fun x => nv x.1 x.2.1) (fun x => rN x.1 x.2.1) fun O w0 x _ _ =>
  ⟨trivial, _, rfl, Prod.ext (Ib x.2.1 x.1 0 (Int.le_refl _)) rfl⟩
theorem ot : ay prog [] d6 dY :=
 bR (S := dY) (Fp uf Ce Et nD) (fx := xb) EM (by kernel_rfl) (fun _ _ => trivial) (T := fun x => xB x.1) (fun x => Be x.1) fun O w0 x _ _ => by
  obtain ⟨n, ⟨⟩⟩ := x
  refine ⟨trivial, fun _ => trivial, trivial, fun _ _ => trivial, trivial, fun _ => trivial, _, rfl, Prod.ext ?_ rfl⟩
  show _ = bt n
  unfold bt yP u6
  simp only [lS]
  rfl
theorem GQ : ay prog [] pt pn :=
 bR (S := pn) (GO ot uf wd) (fx := yB) Fc (by kernel_rfl) (fun _ _ => trivial) (T := fun x => zH x.1 x.2.1) (fun x => Dw x.1 x.2.1) fun O w0 x _ _ => by
  obtain ⟨n, id, ⟨⟩⟩ := x
  refine ⟨trivial, fun _ => trivial, fun _ => trivial, _, rfl, Prod.ext ?_ rfl⟩
  show _ = mf n id
  unfold mf
  simp only [lS]
theorem EH : ay prog [] al m8 :=
 bR (S := m8) (EJ u7) (fx := vJ) Dx (by kernel_rfl) (fun _ _ => trivial) (T := fun x => w8 x.1 x.2.1 x.2.2.1) (fun x => Ax x.1 x.2.1 x.2.2.1) fun O w0 x _ _ =>
  ⟨fun _ => trivial, _, rfl, rfl⟩
theorem xZ : ay prog [] iE iF :=
 bR (S := iF) (yd wd) (fx := oE) xi (by kernel_rfl) (fun _ _ => trivial) (T := fun x => pQ x.1 x.2.1 x.2.2.1) (fun x => vA x.1 x.2.1 x.2.2.1) fun O w0 x _ _ => by
  obtain ⟨m, self, id, ⟨⟩⟩ := x
  refine ⟨fun _ => trivial, _, rfl, Prod.ext ?_ rfl⟩
  show _ = jT self id m
  unfold jT
  rw [zl, zl]
theorem tY : n5 prog [] gb jm :=
 Ic vF (fx := mB) rfl uu (by kernel_rfl) (T := fun _ y => nG y.1) (fun xs y _ => sn y.1) fun O w0 bk xs y hxl hy hp => by
  obtain ⟨s, ⟨⟩⟩ := y
  refine fun c hc => ⟨fun hx => ?_, fun hx => ?_⟩
  ·show K.val _ _ = K.val _ s
   rw [show s = [] from hc hx]
  ·refine ⟨?_, ?_, ?_⟩
   ·simpa using hp
   ·simp [vok]
   ·show K.val (.slc ab) (pz ab (List.replicate 0 (zero ab) ++ s) 0 (List.length (List.replicate 0 (zero ab) ++ s))) = K.val _ s
    rw [Dz _ rfl]; rfl
end Go.Proofs.Ytimdnodkabnbfaa
namespace Go.Proofs.Ytimdnodkabnbfaa
open Go Go.RowKit
noncomputable abbrev uY : Fx := { fn := od, ann := { } }
noncomputable abbrev aN : Fx := { fn := aL, ann := { loops := [(3, { keep := [0, 3, 9, 10, 11] }), (11, { keep := [6, 25, 26, 27] })] } }
noncomputable abbrev cJ : bg := { D := { T := br, F := [], R := [], ovl := [] }, inl := [(nU, uY)] }
noncomputable abbrev dZ : bF := .row (ab)
theorem cq : XOk prog cJ := xok ((aU aY aM)) (by kernel_rfl) aS (jg vq (by kernel_rfl) a6) aZ
noncomputable def mF (s : den (Ty.slc (Ty.slc ab))) : af := af.loop [] aN (lp aL 3) [(0, K.val (Ty.slc (Ty.slc ab)) s), (3, K.val ae 0), (9, K.val (Ty.slc (Ty.slc ab)) s), (10, K.val ae (lnx (Ty.slc ab) s)), (11, K.val ae 0)] []
theorem qW (s : den (Ty.slc (Ty.slc ab))) : ak cJ dZ 5000 [] aN (aF aL) (Env.of (aK (Ty.pair (Ty.slc (Ty.slc ab)) Ty.unit) (s, ()) 0) []) = mF s := by kernel_rfl
noncomputable def lQ (v0 : den (Ty.slc (Ty.slc ab))) (v3 : den ae) (v9 : den (Ty.slc (Ty.slc ab))) (v10 : den ae) (v11 : den ae) : Env := Env.of [(0, K.val (Ty.slc (Ty.slc ab)) v0), (3, K.val ae v3), (9, K.val (Ty.slc (Ty.slc ab)) v9), (10, K.val ae v10), (11, K.val ae v11)] []
noncomputable def qO (v0 : den (Ty.slc (Ty.slc ab))) (v3 : den ae) (v9 : den (Ty.slc (Ty.slc ab))) (v10 : den ae) (v11 : den ae) : af := af.ite (decide (v11 < v10)) (af.req (inB v11 (lnx (Ty.slc ab) v9)) (af.ite (decide (IntKind.wrap IntKind.i64 (v3 + lnx ab (el (Ty.slc ab) v9 v11)) < 0)) (af.bad (100000 + 1000 * 0 + 0)) (af.loop [] aN (lp aL 3) [(0, K.val (Ty.slc (Ty.slc ab)) v0), (3, K.val ae (IntKind.wrap IntKind.i64 (v3 + lnx ab (el (Ty.slc ab) v9 v11)))), (9, K.val (Ty.slc (Ty.slc ab)) v9), (10, K.val ae v10), (11, K.val ae (IntKind.wrap IntKind.i64 (v11 + 1)))] []))) (af.ite (decide (v3 < 0)) (af.bad (100000 + 1000 * 0 + 0)) (af.ite (decide (0 < IntKind.wrap IntKind.i64 (v3 - IntKind.wrap IntKind.i64 (0 - 0)))) (af.req (bP 0 0 0) (af.req (0 < IntKind.wrap IntKind.i64 (v3 - IntKind.wrap IntKind.i64 (0 - 0))) (af.req (Int.toNat (IntKind.wrap IntKind.i64 (v3 - IntKind.wrap IntKind.i64 (0 - 0))) ≤ bY) (af.req (vok 0 (List.length (List.replicate (Int.toNat (IntKind.wrap IntKind.i64 (v3 - IntKind.wrap IntKind.i64 (0 - 0)))) (zero ab))) (List.length (List.replicate (Int.toNat (IntKind.wrap IntKind.i64 (v3 - IntKind.wrap IntKind.i64 (0 - 0)))) (zero ab)))) (af.req (bP 0 0 (↑(List.length (List.replicate (Int.toNat (IntKind.wrap IntKind.i64 (v3 - IntKind.wrap IntKind.i64 (0 - 0)))) (zero ab)) - 0) : Int)) (af.loop [] aN (lp aL 11) [(6, K.vw 0 ab (0 + Int.toNat 0) (Int.toNat 0 - Int.toNat 0)), (25, K.val (Ty.slc (Ty.slc ab)) v0), (26, K.val ae (lnx (Ty.slc ab) v0)), (27, K.val ae 0)] [(0, Bx.row ab (List.replicate (Int.toNat (IntKind.wrap IntKind.i64 (v3 - IntKind.wrap IntKind.i64 (0 - 0)))) (zero ab)))])))))) (af.loop [] aN (lp aL 11) [(6, K.nilsl), (25, K.val (Ty.slc (Ty.slc ab)) v0), (26, K.val ae (lnx (Ty.slc ab) v0)), (27, K.val ae 0)] [])))
theorem jh (v0 : den (Ty.slc (Ty.slc ab))) (v3 : den ae) (v9 : den (Ty.slc (Ty.slc ab))) (v10 : den ae) (v11 : den ae) : ak cJ dZ 5000 [] aN (lp aL 3) (lQ v0 v3 v9 v10 v11) = qO v0 v3 v9 v10 v11 := by kernel_rfl
noncomputable def k5 (v6 : Nat) (v6_1 : Nat) (v25 : den (Ty.slc (Ty.slc ab))) (v26 : den ae) (v27 : den ae) (b0 : List (den ab)) : Env := Env.of [(6, K.vw 0 ab v6 v6_1), (25, K.val (Ty.slc (Ty.slc ab)) v25), (26, K.val ae v26), (27, K.val ae v27)] [(0, Bx.row ab b0)]
noncomputable def qy (v6 : Nat) (v6_1 : Nat) (v25 : den (Ty.slc (Ty.slc ab))) (v26 : den ae) (v27 : den ae) (b0 : List (den ab)) : af := af.ite (decide (v27 < v26)) (af.req (inB v27 (lnx (Ty.slc ab) v25)) (af.req (vok v6 v6_1 (List.length b0)) (af.req (v6 + v6_1 + List.length (el (Ty.slc ab) v25 v27) ≤ List.length b0) (af.loop [] aN (lp aL 11) [(6, K.vw 0 ab v6 (v6_1 + List.length (el (Ty.slc ab) v25 v27))), (25, K.val (Ty.slc (Ty.slc ab)) v25), (26, K.val ae v26), (27, K.val ae (IntKind.wrap IntKind.i64 (v27 + 1)))] [(0, Bx.row ab (over b0 (v6 + v6_1) (el (Ty.slc ab) v25 v27)))])))) (af.req (vok v6 v6_1 (List.length b0)) (af.ret (K.val (Ty.slc ab) (pz ab b0 v6 v6_1))))
theorem i8 (v6 : Nat) (v6_1 : Nat) (v25 : den (Ty.slc (Ty.slc ab))) (v26 : den ae) (v27 : den ae) (b0 : List (den ab)) : ak cJ dZ 5000 [] aN (lp aL 11) (k5 v6 v6_1 v25 v26 v27 b0) = qy v6 v6_1 v25 v26 v27 b0 := by kernel_rfl
noncomputable def jJ (v25 : den (Ty.slc (Ty.slc ab))) (v26 : den ae) (v27 : den ae) : Env := Env.of [(6, K.nilsl), (25, K.val (Ty.slc (Ty.slc ab)) v25), (26, K.val ae v26), (27, K.val ae v27)] []
noncomputable def oV (v25 : den (Ty.slc (Ty.slc ab))) (v26 : den ae) (v27 : den ae) : af := af.ite (decide (v27 < v26)) (af.req (inB v27 (lnx (Ty.slc ab) v25)) (af.req (List.length (el (Ty.slc ab) v25 v27) ≤ bY) (af.loop [] aN (lp aL 11) [(6, K.sl 0 ab), (25, K.val (Ty.slc (Ty.slc ab)) v25), (26, K.val ae v26), (27, K.val ae (IntKind.wrap IntKind.i64 (v27 + 1)))] [(0, Bx.row ab (el (Ty.slc ab) v25 v27))]))) (af.ret (K.val (Ty.slc ab) []))
theorem nM (v25 : den (Ty.slc (Ty.slc ab))) (v26 : den ae) (v27 : den ae) : ak cJ dZ 5000 [] aN (lp aL 11) (jJ v25 v26 v27) = oV v25 v26 v27 := by kernel_rfl
noncomputable def jI (v25 : den (Ty.slc (Ty.slc ab))) (v26 : den ae) (v27 : den ae) (b0 : List (den ab)) : Env := Env.of [(6, K.sl 0 ab), (25, K.val (Ty.slc (Ty.slc ab)) v25), (26, K.val ae v26), (27, K.val ae v27)] [(0, Bx.row ab b0)]
noncomputable def o9 (v25 : den (Ty.slc (Ty.slc ab))) (v26 : den ae) (v27 : den ae) (b0 : List (den ab)) : af := af.ite (decide (v27 < v26)) (af.req (inB v27 (lnx (Ty.slc ab) v25)) (af.req (List.length (b0 ++ el (Ty.slc ab) v25 v27) ≤ bY) (af.loop [] aN (lp aL 11) [(6, K.sl 0 ab), (25, K.val (Ty.slc (Ty.slc ab)) v25), (26, K.val ae v26), (27, K.val ae (IntKind.wrap IntKind.i64 (v27 + 1)))] [(0, Bx.row ab (b0 ++ el (Ty.slc ab) v25 v27))]))) (af.req (vok 0 (List.length b0) (List.length b0)) (af.ret (K.val (Ty.slc ab) (pz ab b0 0 (List.length b0)))))
theorem g8 (v25 : den (Ty.slc (Ty.slc ab))) (v26 : den ae) (v27 : den ae) (b0 : List (den ab)) : ak cJ dZ 5000 [] aN (lp aL 11) (jI v25 v26 v27 b0) = o9 v25 v26 v27 b0 := by kernel_rfl
noncomputable abbrev aq : Fx := { fn := ap, ann := { loops := [(5, { keep := [0, 1, 5, 6] })], frz := [(1000005, [2, 3, 4, 6])] }, own := [28, 41], share := true }
noncomputable abbrev bH : Fx := { fn := bK, ann := { }, own := [40], share := true }
noncomputable abbrev gD : bg := { D := { T := br, F := [(d6, dY), (gE, gB), (al, m8)], R := [(gb, jm)], ovl := [] }, inl := [(kf, aq), (co, aC)] }
noncomputable abbrev mU : bF := .data jp
theorem Hs (h_node_Right : ay prog [] d6 dY) (h_node_none : ay prog [] gE gB) (h_node_Drop_1 : ay prog [] al m8) (h_slices_Clone_Member : n5 prog [] gb jm) : XOk prog gD := xok (ax (ax (ax (aU aY aM) h_node_Drop_1) h_node_none) h_node_Right) (by kernel_rfl) (Lv h_slices_Clone_Member aS) (jg pV (by kernel_rfl) (jg kp (by kernel_rfl) a6)) aZ
noncomputable def zC (n : den ag) (nos : den (Ty.slc ae)) : af := af.req True (af.all (den Ty.bool) (fun (q2 : den Ty.bool) ↦ q2 = bt n) fun (q2 : den Ty.bool) ↦ af.ite (!q2) (af.ret (K.val (Ty.pair ag (Ty.pair ae Ty.unit)) (zero (Ty.pair ab (Ty.pair ab (Ty.pair (Ty.slc ab) (Ty.pair (Ty.slc ab) Ty.unit)))), 1, PUnit.unit))) (af.req (List.length (Prod.fst (Prod.snd (Prod.snd n))) ≤ bY) (af.loop [{ fx := aq, todo := bC ap 1 2, dst := some 10, s := ofS [(0, K.sl 0 ab), (1, K.clo al (K.kcons (K.ptr (0 + 1) ag []) (K.kcons (K.ptr (0 + 1 + 1) (Ty.slc ae) []) K.knil)))] }, { fx := bH, todo := bC bK 4 4, dst := some 16, s := ofS [(2, K.ptr (0 + 1) ag []), (3, K.ptr (0 + 1 + 1) (Ty.slc ae) []), (4, K.ptr (0 + 1 + 1 + 1) ag []), (6, K.clo al (K.kcons (K.ptr (0 + 1) ag []) (K.kcons (K.ptr (0 + 1 + 1) (Ty.slc ae) []) K.knil)))] }] aC (lp aE 2) [(0, K.sl 0 ab), (1, K.clo al (K.kcons (K.ptr (0 + 1) ag []) (K.kcons (K.ptr (0 + 1 + 1) (Ty.slc ae) []) K.knil))), (7, K.val ae (lnx ab (Prod.fst (Prod.snd (Prod.snd n))))), (8, K.val ae 0)] [(0, Bx.row ab (Prod.fst (Prod.snd (Prod.snd n)))), (0 + 1, Bx.cell ag n), (0 + 1 + 1, Bx.cell (Ty.slc ae) nos), (0 + 1 + 1 + 1, Bx.cell ag (zero ag))])))
theorem C1 (n : den ag) (nos : den (Ty.slc ae)) : ak gD mU 5000 [] bH (aF bK) (Env.of (aK xW (n, nos, ()) 0) []) = zC n nos := by kernel_rfl
noncomputable def fO (v7 : den ae) (v8 : den ae) (b0 : List (den ab)) (b1 : den ag) (b2 : den (Ty.slc ae)) (b3 : den ag) : List cg := [{ fx := aq, todo := bC ap 1 2, dst := some 10, s := ofS [(0, K.sl 0 ab), (1, K.clo al (K.kcons (K.ptr (0 + 1) ag []) (K.kcons (K.ptr (0 + 1 + 1) (Ty.slc ae) []) K.knil)))] }, { fx := bH, todo := bC bK 4 4, dst := some 16, s := ofS [(2, K.ptr (0 + 1) ag []), (3, K.ptr (0 + 1 + 1) (Ty.slc ae) []), (4, K.ptr (0 + 1 + 1 + 1) ag []), (6, K.clo al (K.kcons (K.ptr (0 + 1) ag []) (K.kcons (K.ptr (0 + 1 + 1) (Ty.slc ae) []) K.knil)))] }]
noncomputable def fN (v7 : den ae) (v8 : den ae) (b0 : List (den ab)) (b1 : den ag) (b2 : den (Ty.slc ae)) (b3 : den ag) : Env := Env.of [(0, K.sl 0 ab), (1, K.clo al (K.kcons (K.ptr (0 + 1) ag []) (K.kcons (K.ptr (0 + 1 + 1) (Ty.slc ae) []) K.knil))), (7, K.val ae v7), (8, K.val ae v8)] [(0, Bx.row ab b0), (1, Bx.cell ag b1), (2, Bx.cell (Ty.slc ae) b2), (3, Bx.cell ag b3)]
noncomputable def kL (v7 : den ae) (v8 : den ae) (b0 : List (den ab)) (b1 : den ag) (b2 : den (Ty.slc ae)) (b3 : den ag) : af := af.ite (decide (v8 < v7)) (af.req (inB v8 (lnx ab b0)) (af.req (inB v8 (lnx ab b0)) (af.req True (af.ite (bB (Prod.fst (Prod.fst b1)) b2 (el ab b0 v8)) (af.ite (decide (v8 = -1)) (af.req (List.length (Prod.fst (Prod.snd (Prod.snd (Prod.snd b1)))) ≤ bY) (af.loop [{ fx := aq, todo := bC ap 1 2, dst := some 10, s := ofS [(0, K.sl 0 ab), (1, K.clo al (K.kcons (K.ptr (0 + 1) ag []) (K.kcons (K.ptr (0 + 1 + 1) (Ty.slc ae) []) K.knil)))] }, { fx := bH, todo := bC bK 5 4, dst := some 22, s := ofS [(2, K.ptr (0 + 1) ag []), (3, K.ptr (0 + 1 + 1) (Ty.slc ae) []), (4, K.ptr (0 + 1 + 1 + 1) ag []), (6, K.clo al (K.kcons (K.ptr (0 + 1) ag []) (K.kcons (K.ptr (0 + 1 + 1) (Ty.slc ae) []) K.knil)))] }] aC (lp aE 2) [(0, K.sl 0 ab), (1, K.clo al (K.kcons (K.ptr (0 + 1) ag []) (K.kcons (K.ptr (0 + 1 + 1) (Ty.slc ae) []) K.knil))), (7, K.val ae (lnx ab (Prod.fst (Prod.snd (Prod.snd (Prod.snd b1)))))), (8, K.val ae 0)] [(0, Bx.row ab (Prod.fst (Prod.snd (Prod.snd (Prod.snd b1))))), (0 + 1, Bx.cell ag (Prod.fst b1, Prod.fst (Prod.snd b1), b0, Prod.snd (Prod.snd (Prod.snd b1)))), (0 + 1 + 1, Bx.cell (Ty.slc ae) b2), (0 + 1 + 1 + 1, Bx.cell ag b3)])) (af.loop [{ fx := bH, todo := bC bK 4 4, dst := some 16, s := ofS [(2, K.ptr (0 + 1) ag []), (3, K.ptr (0 + 1 + 1) (Ty.slc ae) []), (4, K.ptr (0 + 1 + 1 + 1) ag []), (6, K.clo al (K.kcons (K.ptr (0 + 1) ag []) (K.kcons (K.ptr (0 + 1 + 1) (Ty.slc ae) []) K.knil)))] }] aq (lp ap 5) [(0, K.sl 0 ab), (1, K.clo al (K.kcons (K.ptr (0 + 1) ag []) (K.kcons (K.ptr (0 + 1 + 1) (Ty.slc ae) []) K.knil))), (5, K.val ae v8), (6, K.val ae (IntKind.wrap IntKind.i64 (v8 + 1)))] [(0, Bx.row ab b0), (0 + 1, Bx.cell ag b1), (0 + 1 + 1, Bx.cell (Ty.slc ae) b2), (0 + 1 + 1 + 1, Bx.cell ag b3)])) (af.loop [{ fx := aq, todo := bC ap 1 2, dst := some 10, s := ofS [(0, K.sl 0 ab), (1, K.clo al (K.kcons (K.ptr (0 + 1) ag []) (K.kcons (K.ptr (0 + 1 + 1) (Ty.slc ae) []) K.knil)))] }, { fx := bH, todo := bC bK 4 4, dst := some 16, s := ofS [(2, K.ptr (0 + 1) ag []), (3, K.ptr (0 + 1 + 1) (Ty.slc ae) []), (4, K.ptr (0 + 1 + 1 + 1) ag []), (6, K.clo al (K.kcons (K.ptr (0 + 1) ag []) (K.kcons (K.ptr (0 + 1 + 1) (Ty.slc ae) []) K.knil)))] }] aC (lp aE 2) [(0, K.sl 0 ab), (1, K.clo al (K.kcons (K.ptr (0 + 1) ag []) (K.kcons (K.ptr (0 + 1 + 1) (Ty.slc ae) []) K.knil))), (7, K.val ae v7), (8, K.val ae (IntKind.wrap IntKind.i64 (v8 + 1)))] [(0, Bx.row ab b0), (0 + 1, Bx.cell ag b1), (0 + 1 + 1, Bx.cell (Ty.slc ae) b2), (0 + 1 + 1 + 1, Bx.cell ag b3)]))))) (af.ite (decide (-1 = -1)) (af.req (List.length (Prod.fst (Prod.snd (Prod.snd (Prod.snd b1)))) ≤ bY) (af.loop [{ fx := aq, todo := bC ap 1 2, dst := some 10, s := ofS [(0, K.sl 0 ab), (1, K.clo al (K.kcons (K.ptr (0 + 1) ag []) (K.kcons (K.ptr (0 + 1 + 1) (Ty.slc ae) []) K.knil)))] }, { fx := bH, todo := bC bK 5 4, dst := some 22, s := ofS [(2, K.ptr (0 + 1) ag []), (3, K.ptr (0 + 1 + 1) (Ty.slc ae) []), (4, K.ptr (0 + 1 + 1 + 1) ag []), (6, K.clo al (K.kcons (K.ptr (0 + 1) ag []) (K.kcons (K.ptr (0 + 1 + 1) (Ty.slc ae) []) K.knil)))] }] aC (lp aE 2) [(0, K.sl 0 ab), (1, K.clo al (K.kcons (K.ptr (0 + 1) ag []) (K.kcons (K.ptr (0 + 1 + 1) (Ty.slc ae) []) K.knil))), (7, K.val ae (lnx ab (Prod.fst (Prod.snd (Prod.snd (Prod.snd b1)))))), (8, K.val ae 0)] [(0, Bx.row ab (Prod.fst (Prod.snd (Prod.snd (Prod.snd b1))))), (0 + 1, Bx.cell ag (Prod.fst b1, Prod.fst (Prod.snd b1), b0, Prod.snd (Prod.snd (Prod.snd b1)))), (0 + 1 + 1, Bx.cell (Ty.slc ae) b2), (0 + 1 + 1 + 1, Bx.cell ag b3)])) (af.loop [{ fx := bH, todo := bC bK 4 4, dst := some 16, s := ofS [(2, K.ptr (0 + 1) ag []), (3, K.ptr (0 + 1 + 1) (Ty.slc ae) []), (4, K.ptr (0 + 1 + 1 + 1) ag []), (6, K.clo al (K.kcons (K.ptr (0 + 1) ag []) (K.kcons (K.ptr (0 + 1 + 1) (Ty.slc ae) []) K.knil)))] }] aq (lp ap 5) [(0, K.sl 0 ab), (1, K.clo al (K.kcons (K.ptr (0 + 1) ag []) (K.kcons (K.ptr (0 + 1 + 1) (Ty.slc ae) []) K.knil))), (5, K.val ae (-1)), (6, K.val ae (IntKind.wrap IntKind.i64 (-1 + 1)))] [(0, Bx.row ab b0), (0 + 1, Bx.cell ag b1), (0 + 1 + 1, Bx.cell (Ty.slc ae) b2), (0 + 1 + 1 + 1, Bx.cell ag b3)]))
theorem eT (v7 : den ae) (v8 : den ae) (b0 : List (den ab)) (b1 : den ag) (b2 : den (Ty.slc ae)) (b3 : den ag) : ak gD mU 5000 (fO v7 v8 b0 b1 b2 b3) aC (lp aE 2) (fN v7 v8 b0 b1 b2 b3) = kL v7 v8 b0 b1 b2 b3 := by kernel_rfl
noncomputable def dc (v7 : den ae) (v8 : den ae) (b0 : List (den ab)) (b1 : den ag) (b2 : den (Ty.slc ae)) (b3 : den ag) : List cg := [{ fx := aq, todo := bC ap 1 2, dst := some 10, s := ofS [(0, K.sl 0 ab), (1, K.clo al (K.kcons (K.ptr (0 + 1) ag []) (K.kcons (K.ptr (0 + 1 + 1) (Ty.slc ae) []) K.knil)))] }, { fx := bH, todo := bC bK 5 4, dst := some 22, s := ofS [(2, K.ptr (0 + 1) ag []), (3, K.ptr (0 + 1 + 1) (Ty.slc ae) []), (4, K.ptr (0 + 1 + 1 + 1) ag []), (6, K.clo al (K.kcons (K.ptr (0 + 1) ag []) (K.kcons (K.ptr (0 + 1 + 1) (Ty.slc ae) []) K.knil)))] }]
noncomputable def da (v7 : den ae) (v8 : den ae) (b0 : List (den ab)) (b1 : den ag) (b2 : den (Ty.slc ae)) (b3 : den ag) : Env := Env.of [(0, K.sl 0 ab), (1, K.clo al (K.kcons (K.ptr (0 + 1) ag []) (K.kcons (K.ptr (0 + 1 + 1) (Ty.slc ae) []) K.knil))), (7, K.val ae v7), (8, K.val ae v8)] [(0, Bx.row ab b0), (1, Bx.cell ag b1), (2, Bx.cell (Ty.slc ae) b2), (3, Bx.cell ag b3)]
noncomputable def jW (v7 : den ae) (v8 : den ae) (b0 : List (den ab)) (b1 : den ag) (b2 : den (Ty.slc ae)) (b3 : den ag) : af := af.ite (decide (v8 < v7)) (af.req (inB v8 (lnx ab b0)) (af.req (inB v8 (lnx ab b0)) (af.req True (af.ite (bB (Prod.fst (Prod.fst b1)) b2 (el ab b0 v8)) (af.ite (decide (v8 = -1)) (af.ite (decide (lnx ab (Prod.fst (Prod.snd (Prod.snd b1))) = 0)) (af.req True (af.req (dy [(!eqb ab (Prod.fst (Prod.snd b1)) noM, true)] True) (af.all (den ab) (fun (q6 : den ab) ↦ q6 = noM) fun (q6 : den ab) ↦ af.ite (bif !eqb ab (Prod.fst (Prod.snd b1)) noM then bB (Prod.fst (Prod.fst b1)) b2 (Prod.fst (Prod.snd b1)) else false) (af.req True (af.all (den ab) (fun (q7 : den ab) ↦ q7 = noM) fun (q7 : den ab) ↦ af.ret (K.val (Ty.pair ag (Ty.pair ae Ty.unit)) ((Prod.fst b1, q7, List.set (List.replicate 1 (zero ab)) 0 (Prod.fst b1), b0, Prod.snd (Prod.snd (Prod.snd (Prod.snd b1)))), 0, PUnit.unit)))) (af.ret (K.val (Ty.pair ag (Ty.pair ae Ty.unit)) ((Prod.fst b1, Prod.fst (Prod.snd b1), List.set (List.replicate 1 (zero ab)) 0 (Prod.fst b1), b0, Prod.snd (Prod.snd (Prod.snd (Prod.snd b1)))), 0, PUnit.unit)))))) (af.req True (af.req (dy [(!eqb ab (Prod.fst (Prod.snd b1)) noM, true)] True) (af.all (den ab) (fun (q6 : den ab) ↦ q6 = noM) fun (q6 : den ab) ↦ af.ite (bif !eqb ab (Prod.fst (Prod.snd b1)) noM then bB (Prod.fst (Prod.fst b1)) b2 (Prod.fst (Prod.snd b1)) else false) (af.req True (af.all (den ab) (fun (q7 : den ab) ↦ q7 = noM) fun (q7 : den ab) ↦ af.ret (K.val (Ty.pair ag (Ty.pair ae Ty.unit)) ((Prod.fst b1, q7, Prod.fst (Prod.snd (Prod.snd b1)), b0, Prod.snd (Prod.snd (Prod.snd (Prod.snd b1)))), 0, PUnit.unit)))) (af.ret (K.val (Ty.pair ag (Ty.pair ae Ty.unit)) ((Prod.fst b1, Prod.fst (Prod.snd b1), Prod.fst (Prod.snd (Prod.snd b1)), b0, Prod.snd (Prod.snd (Prod.snd (Prod.snd b1)))), 0, PUnit.unit))))))) (af.loop [{ fx := bH, todo := bC bK 5 4, dst := some 22, s := ofS [(2, K.ptr (0 + 1) ag []), (3, K.ptr (0 + 1 + 1) (Ty.slc ae) []), (4, K.ptr (0 + 1 + 1 + 1) ag []), (6, K.clo al (K.kcons (K.ptr (0 + 1) ag []) (K.kcons (K.ptr (0 + 1 + 1) (Ty.slc ae) []) K.knil)))] }] aq (lp ap 5) [(0, K.sl 0 ab), (1, K.clo al (K.kcons (K.ptr (0 + 1) ag []) (K.kcons (K.ptr (0 + 1 + 1) (Ty.slc ae) []) K.knil))), (5, K.val ae v8), (6, K.val ae (IntKind.wrap IntKind.i64 (v8 + 1)))] [(0, Bx.row ab b0), (0 + 1, Bx.cell ag b1), (0 + 1 + 1, Bx.cell (Ty.slc ae) b2), (0 + 1 + 1 + 1, Bx.cell ag b3)])) (af.loop [{ fx := aq, todo := bC ap 1 2, dst := some 10, s := ofS [(0, K.sl 0 ab), (1, K.clo al (K.kcons (K.ptr (0 + 1) ag []) (K.kcons (K.ptr (0 + 1 + 1) (Ty.slc ae) []) K.knil)))] }, { fx := bH, todo := bC bK 5 4, dst := some 22, s := ofS [(2, K.ptr (0 + 1) ag []), (3, K.ptr (0 + 1 + 1) (Ty.slc ae) []), (4, K.ptr (0 + 1 + 1 + 1) ag []), (6, K.clo al (K.kcons (K.ptr (0 + 1) ag []) (K.kcons (K.ptr (0 + 1 + 1) (Ty.slc ae) []) K.knil)))] }] aC (lp aE 2) [(0, K.sl 0 ab), (1, K.clo al (K.kcons (K.ptr (0 + 1) ag []) (K.kcons (K.ptr (0 + 1 + 1) (Ty.slc ae) []) K.knil))), (7, K.val ae v7), (8, K.val ae (IntKind.wrap IntKind.i64 (v8 + 1)))] [(0, Bx.row ab b0), (0 + 1, Bx.cell ag b1), (0 + 1 + 1, Bx.cell (Ty.slc ae) b2), (0 + 1 + 1 + 1, Bx.cell ag b3)]))))) (af.ite (decide (-1 = -1)) (af.ite (decide (lnx ab (Prod.fst (Prod.snd (Prod.snd b1))) = 0)) (af.req True (af.req (dy [(!eqb ab (Prod.fst (Prod.snd b1)) noM, true)] True) (af.all (den ab) (fun (q6 : den ab) ↦ q6 = noM) fun (q6 : den ab) ↦ af.ite (bif !eqb ab (Prod.fst (Prod.snd b1)) noM then bB (Prod.fst (Prod.fst b1)) b2 (Prod.fst (Prod.snd b1)) else false) (af.req True (af.all (den ab) (fun (q7 : den ab) ↦ q7 = noM) fun (q7 : den ab) ↦ af.ret (K.val (Ty.pair ag (Ty.pair ae Ty.unit)) ((Prod.fst b1, q7, List.set (List.replicate 1 (zero ab)) 0 (Prod.fst b1), b0, Prod.snd (Prod.snd (Prod.snd (Prod.snd b1)))), 0, PUnit.unit)))) (af.ret (K.val (Ty.pair ag (Ty.pair ae Ty.unit)) ((Prod.fst b1, Prod.fst (Prod.snd b1), List.set (List.replicate 1 (zero ab)) 0 (Prod.fst b1), b0, Prod.snd (Prod.snd (Prod.snd (Prod.snd b1)))), 0, PUnit.unit)))))) (af.req True (af.req (dy [(!eqb ab (Prod.fst (Prod.snd b1)) noM, true)] True) (af.all (den ab) (fun (q6 : den ab) ↦ q6 = noM) fun (q6 : den ab) ↦ af.ite (bif !eqb ab (Prod.fst (Prod.snd b1)) noM then bB (Prod.fst (Prod.fst b1)) b2 (Prod.fst (Prod.snd b1)) else false) (af.req True (af.all (den ab) (fun (q7 : den ab) ↦ q7 = noM) fun (q7 : den ab) ↦ af.ret (K.val (Ty.pair ag (Ty.pair ae Ty.unit)) ((Prod.fst b1, q7, Prod.fst (Prod.snd (Prod.snd b1)), b0, Prod.snd (Prod.snd (Prod.snd (Prod.snd b1)))), 0, PUnit.unit)))) (af.ret (K.val (Ty.pair ag (Ty.pair ae Ty.unit)) ((Prod.fst b1, Prod.fst (Prod.snd b1), Prod.fst (Prod.snd (Prod.snd b1)), b0, Prod.snd (Prod.snd (Prod.snd (Prod.snd b1)))), 0, PUnit.unit))))))) (af.loop [{ fx := bH, todo := bC bK 5 4, dst := some 22, s := ofS [(2, K.ptr (0 + 1) ag []), (3, K.ptr (0 + 1 + 1) (Ty.slc ae) []), (4, K.ptr (0 + 1 + 1 + 1) ag []), (6, K.clo al (K.kcons (K.ptr (0 + 1) ag []) (K.kcons (K.ptr (0 + 1 + 1) (Ty.slc ae) []) K.knil)))] }] aq (lp ap 5) [(0, K.sl 0 ab), (1, K.clo al (K.kcons (K.ptr (0 + 1) ag []) (K.kcons (K.ptr (0 + 1 + 1) (Ty.slc ae) []) K.knil))), (5, K.val ae (-1)), (6, K.val ae (IntKind.wrap IntKind.i64 (-1 + 1)))] [(0, Bx.row ab b0), (0 + 1, Bx.cell ag b1), (0 + 1 + 1, Bx.cell (Ty.slc ae) b2), (0 + 1 + 1 + 1, Bx.cell ag b3)]))
theorem er (v7 : den ae) (v8 : den ae) (b0 : List (den ab)) (b1 : den ag) (b2 : den (Ty.slc ae)) (b3 : den ag) : ak gD mU 5000 (dc v7 v8 b0 b1 b2 b3) aC (lp aE 2) (da v7 v8 b0 b1 b2 b3) = jW v7 v8 b0 b1 b2 b3 := by kernel_rfl
noncomputable def fB (v5 : den ae) (v6 : den ae) (b0 : List (den ab)) (b1 : den ag) (b2 : den (Ty.slc ae)) (b3 : den ag) : List cg := [{ fx := bH, todo := bC bK 4 4, dst := some 16, s := ofS [(2, K.ptr (0 + 1) ag []), (3, K.ptr (0 + 1 + 1) (Ty.slc ae) []), (4, K.ptr (0 + 1 + 1 + 1) ag []), (6, K.clo al (K.kcons (K.ptr (0 + 1) ag []) (K.kcons (K.ptr (0 + 1 + 1) (Ty.slc ae) []) K.knil)))] }]
noncomputable def fE (v5 : den ae) (v6 : den ae) (b0 : List (den ab)) (b1 : den ag) (b2 : den (Ty.slc ae)) (b3 : den ag) : Env := Env.of [(0, K.sl 0 ab), (1, K.clo al (K.kcons (K.ptr (0 + 1) ag []) (K.kcons (K.ptr (0 + 1 + 1) (Ty.slc ae) []) K.knil))), (5, K.val ae v5), (6, K.val ae v6)] [(0, Bx.row ab b0), (1, Bx.cell ag b1), (2, Bx.cell (Ty.slc ae) b2), (3, Bx.cell ag b3)]
noncomputable def kr (v5 : den ae) (v6 : den ae) (b0 : List (den ab)) (b1 : den ag) (b2 : den (Ty.slc ae)) (b3 : den ag) : af := af.ite (decide (v6 < lnx ab b0)) (af.req (inB v6 (lnx ab b0)) (af.req (inB v6 (lnx ab b0)) (af.req True (af.all (den Ty.bool) (fun (q6 : den Ty.bool) ↦ q6 = bB (Prod.fst (Prod.fst b1)) b2 (el ab b0 v6)) fun (q6 : den Ty.bool) ↦ af.ite (!q6) (af.req (inB v5 (lnx ab b0)) (af.req (inB v5 (lnx ab b0)) (af.loop [{ fx := bH, todo := bC bK 4 4, dst := some 16, s := ofS [(2, K.ptr (0 + 1) ag []), (3, K.ptr (0 + 1 + 1) (Ty.slc ae) []), (4, K.ptr (0 + 1 + 1 + 1) ag []), (6, K.clo al (K.kcons (K.ptr (0 + 1) ag []) (K.kcons (K.ptr (0 + 1 + 1) (Ty.slc ae) []) K.knil)))] }] aq (lp ap 5) [(0, K.sl 0 ab), (1, K.clo al (K.kcons (K.ptr (0 + 1) ag []) (K.kcons (K.ptr (0 + 1 + 1) (Ty.slc ae) []) K.knil))), (5, K.val ae (IntKind.wrap IntKind.i64 (v5 + 1))), (6, K.val ae (IntKind.wrap IntKind.i64 (v6 + 1)))] [(0, Bx.row ab (yT ab b0 v5 (el ab b0 v6))), (0 + 1, Bx.cell ag b1), (0 + 1 + 1, Bx.cell (Ty.slc ae) b2), (0 + 1 + 1 + 1, Bx.cell ag b3)]))) (af.loop [{ fx := bH, todo := bC bK 4 4, dst := some 16, s := ofS [(2, K.ptr (0 + 1) ag []), (3, K.ptr (0 + 1 + 1) (Ty.slc ae) []), (4, K.ptr (0 + 1 + 1 + 1) ag []), (6, K.clo al (K.kcons (K.ptr (0 + 1) ag []) (K.kcons (K.ptr (0 + 1 + 1) (Ty.slc ae) []) K.knil)))] }] aq (lp ap 5) [(0, K.sl 0 ab), (1, K.clo al (K.kcons (K.ptr (0 + 1) ag []) (K.kcons (K.ptr (0 + 1 + 1) (Ty.slc ae) []) K.knil))), (5, K.val ae v5), (6, K.val ae (IntKind.wrap IntKind.i64 (v6 + 1)))] [(0, Bx.row ab b0), (0 + 1, Bx.cell ag b1), (0 + 1 + 1, Bx.cell (Ty.slc ae) b2), (0 + 1 + 1 + 1, Bx.cell ag b3)]))))) (af.req (vok 0 (List.length b0) (List.length b0)) (af.req (bP v5 (↑(List.length b0) : Int) (↑(List.length b0 - 0) : Int)) (af.req (vok (0 + Int.toNat v5) (Int.toNat (↑(List.length b0) : Int) - Int.toNat v5) (List.length b0)) (af.req (bP 0 v5 (lnx ab (over b0 (0 + Int.toNat v5) (List.replicate (Int.toNat (↑(List.length b0) : Int) - Int.toNat v5) (zero ab))))) (af.req (List.length (Prod.fst (Prod.snd (Prod.snd (Prod.snd b1)))) ≤ bY) (af.loop [{ fx := aq, todo := bC ap 1 2, dst := some 10, s := ofS [(0, K.sl 0 ab), (1, K.clo al (K.kcons (K.ptr (0 + 1) ag []) (K.kcons (K.ptr (0 + 1 + 1) (Ty.slc ae) []) K.knil)))] }, { fx := bH, todo := bC bK 5 4, dst := some 22, s := ofS [(2, K.ptr (0 + 1) ag []), (3, K.ptr (0 + 1 + 1) (Ty.slc ae) []), (4, K.ptr (0 + 1 + 1 + 1) ag []), (6, K.clo al (K.kcons (K.ptr (0 + 1) ag []) (K.kcons (K.ptr (0 + 1 + 1) (Ty.slc ae) []) K.knil)))] }] aC (lp aE 2) [(0, K.sl 0 ab), (1, K.clo al (K.kcons (K.ptr (0 + 1) ag []) (K.kcons (K.ptr (0 + 1 + 1) (Ty.slc ae) []) K.knil))), (7, K.val ae (lnx ab (Prod.fst (Prod.snd (Prod.snd (Prod.snd b1)))))), (8, K.val ae 0)] [(0, Bx.row ab (Prod.fst (Prod.snd (Prod.snd (Prod.snd b1))))), (0 + 1, Bx.cell ag (Prod.fst b1, Prod.fst (Prod.snd b1), List.take (Int.toNat v5) (over b0 (0 + Int.toNat v5) (List.replicate (Int.toNat (↑(List.length b0) : Int) - Int.toNat v5) (zero ab))), Prod.snd (Prod.snd (Prod.snd b1)))), (0 + 1 + 1, Bx.cell (Ty.slc ae) b2), (0 + 1 + 1 + 1, Bx.cell ag b3)]))))))
theorem eM (v5 : den ae) (v6 : den ae) (b0 : List (den ab)) (b1 : den ag) (b2 : den (Ty.slc ae)) (b3 : den ag) : ak gD mU 5000 (fB v5 v6 b0 b1 b2 b3) aq (lp ap 5) (fE v5 v6 b0 b1 b2 b3) = kr v5 v6 b0 b1 b2 b3 := by kernel_rfl
noncomputable def fe (v5 : den ae) (v6 : den ae) (b0 : List (den ab)) (b1 : den ag) (b2 : den (Ty.slc ae)) (b3 : den ag) : List cg := [{ fx := bH, todo := bC bK 5 4, dst := some 22, s := ofS [(2, K.ptr (0 + 1) ag []), (3, K.ptr (0 + 1 + 1) (Ty.slc ae) []), (4, K.ptr (0 + 1 + 1 + 1) ag []), (6, K.clo al (K.kcons (K.ptr (0 + 1) ag []) (K.kcons (K.ptr (0 + 1 + 1) (Ty.slc ae) []) K.knil)))] }]
noncomputable def fg (v5 : den ae) (v6 : den ae) (b0 : List (den ab)) (b1 : den ag) (b2 : den (Ty.slc ae)) (b3 : den ag) : Env := Env.of [(0, K.sl 0 ab), (1, K.clo al (K.kcons (K.ptr (0 + 1) ag []) (K.kcons (K.ptr (0 + 1 + 1) (Ty.slc ae) []) K.knil))), (5, K.val ae v5), (6, K.val ae v6)] [(0, Bx.row ab b0), (1, Bx.cell ag b1), (2, Bx.cell (Ty.slc ae) b2), (3, Bx.cell ag b3)]
noncomputable def jE (v5 : den ae) (v6 : den ae) (b0 : List (den ab)) (b1 : den ag) (b2 : den (Ty.slc ae)) (b3 : den ag) : af := af.ite (decide (v6 < lnx ab b0)) (af.req (inB v6 (lnx ab b0)) (af.req (inB v6 (lnx ab b0)) (af.req True (af.all (den Ty.bool) (fun (q6 : den Ty.bool) ↦ q6 = bB (Prod.fst (Prod.fst b1)) b2 (el ab b0 v6)) fun (q6 : den Ty.bool) ↦ af.ite (!q6) (af.req (inB v5 (lnx ab b0)) (af.req (inB v5 (lnx ab b0)) (af.loop [{ fx := bH, todo := bC bK 5 4, dst := some 22, s := ofS [(2, K.ptr (0 + 1) ag []), (3, K.ptr (0 + 1 + 1) (Ty.slc ae) []), (4, K.ptr (0 + 1 + 1 + 1) ag []), (6, K.clo al (K.kcons (K.ptr (0 + 1) ag []) (K.kcons (K.ptr (0 + 1 + 1) (Ty.slc ae) []) K.knil)))] }] aq (lp ap 5) [(0, K.sl 0 ab), (1, K.clo al (K.kcons (K.ptr (0 + 1) ag []) (K.kcons (K.ptr (0 + 1 + 1) (Ty.slc ae) []) K.knil))), (5, K.val ae (IntKind.wrap IntKind.i64 (v5 + 1))), (6, K.val ae (IntKind.wrap IntKind.i64 (v6 + 1)))] [(0, Bx.row ab (yT ab b0 v5 (el ab b0 v6))), (0 + 1, Bx.cell ag b1), (0 + 1 + 1, Bx.cell (Ty.slc ae) b2), (0 + 1 + 1 + 1, Bx.cell ag b3)]))) (af.loop [{ fx := bH, todo := bC bK 5 4, dst := some 22, s := ofS [(2, K.ptr (0 + 1) ag []), (3, K.ptr (0 + 1 + 1) (Ty.slc ae) []), (4, K.ptr (0 + 1 + 1 + 1) ag []), (6, K.clo al (K.kcons (K.ptr (0 + 1) ag []) (K.kcons (K.ptr (0 + 1 + 1) (Ty.slc ae) []) K.knil)))] }] aq (lp ap 5) [(0, K.sl 0 ab), (1, K.clo al (K.kcons (K.ptr (0 + 1) ag []) (K.kcons (K.ptr (0 + 1 + 1) (Ty.slc ae) []) K.knil))), (5, K.val ae v5), (6, K.val ae (IntKind.wrap IntKind.i64 (v6 + 1)))] [(0, Bx.row ab b0), (0 + 1, Bx.cell ag b1), (0 + 1 + 1, Bx.cell (Ty.slc ae) b2), (0 + 1 + 1 + 1, Bx.cell ag b3)]))))) (af.req (vok 0 (List.length b0) (List.length b0)) (af.req (bP v5 (↑(List.length b0) : Int) (↑(List.length b0 - 0) : Int)) (af.req (vok (0 + Int.toNat v5) (Int.toNat (↑(List.length b0) : Int) - Int.toNat v5) (List.length b0)) (af.req (bP 0 v5 (lnx ab (over b0 (0 + Int.toNat v5) (List.replicate (Int.toNat (↑(List.length b0) : Int) - Int.toNat v5) (zero ab))))) (af.ite (decide (lnx ab (Prod.fst (Prod.snd (Prod.snd b1))) = 0)) (af.req True (af.req (dy [(!eqb ab (Prod.fst (Prod.snd b1)) noM, true)] True) (af.all (den ab) (fun (q6 : den ab) ↦ q6 = noM) fun (q6 : den ab) ↦ af.ite (bif !eqb ab (Prod.fst (Prod.snd b1)) noM then bB (Prod.fst (Prod.fst b1)) b2 (Prod.fst (Prod.snd b1)) else false) (af.req True (af.all (den ab) (fun (q7 : den ab) ↦ q7 = noM) fun (q7 : den ab) ↦ af.ret (K.val (Ty.pair ag (Ty.pair ae Ty.unit)) ((Prod.fst b1, q7, List.set (List.replicate 1 (zero ab)) 0 (Prod.fst b1), List.take (Int.toNat v5) (over b0 (0 + Int.toNat v5) (List.replicate (Int.toNat (↑(List.length b0) : Int) - Int.toNat v5) (zero ab))), Prod.snd (Prod.snd (Prod.snd (Prod.snd b1)))), 0, PUnit.unit)))) (af.ret (K.val (Ty.pair ag (Ty.pair ae Ty.unit)) ((Prod.fst b1, Prod.fst (Prod.snd b1), List.set (List.replicate 1 (zero ab)) 0 (Prod.fst b1), List.take (Int.toNat v5) (over b0 (0 + Int.toNat v5) (List.replicate (Int.toNat (↑(List.length b0) : Int) - Int.toNat v5) (zero ab))), Prod.snd (Prod.snd (Prod.snd (Prod.snd b1)))), 0, PUnit.unit)))))) (af.req True (af.req (dy [(!eqb ab (Prod.fst (Prod.snd b1)) noM, true)] True) (af.all (den ab) (fun (q6 : den ab) ↦ q6 = noM) fun (q6 : den ab) ↦ af.ite (bif !eqb ab (Prod.fst (Prod.snd b1)) noM then bB (Prod.fst (Prod.fst b1)) b2 (Prod.fst (Prod.snd b1)) else false) (af.req True (af.all (den ab) (fun (q7 : den ab) ↦ q7 = noM) fun (q7 : den ab) ↦ af.ret (K.val (Ty.pair ag (Ty.pair ae Ty.unit)) ((Prod.fst b1, q7, Prod.fst (Prod.snd (Prod.snd b1)), List.take (Int.toNat v5) (over b0 (0 + Int.toNat v5) (List.replicate (Int.toNat (↑(List.length b0) : Int) - Int.toNat v5) (zero ab))), Prod.snd (Prod.snd (Prod.snd (Prod.snd b1)))), 0, PUnit.unit)))) (af.ret (K.val (Ty.pair ag (Ty.pair ae Ty.unit)) ((Prod.fst b1, Prod.fst (Prod.snd b1), Prod.fst (Prod.snd (Prod.snd b1)), List.take (Int.toNat v5) (over b0 (0 + Int.toNat v5) (List.replicate (Int.toNat (↑(List.length b0) : Int) - Int.toNat v5) (zero ab))), Prod.snd (Prod.snd (Prod.snd (Prod.snd b1)))), 0, PUnit.unit)))))))))))
theorem d5 (v5 : den ae) (v6 : den ae) (b0 : List (den ab)) (b1 : den ag) (b2 : den (Ty.slc ae)) (b3 : den ag) : ak gD mU 5000 (fe v5 v6 b0 b1 b2 b3) aq (lp ap 5) (fg v5 v6 b0 b1 b2 b3) = jE v5 v6 b0 b1 b2 b3 := by kernel_rfl
end Go.Proofs.Ytimdnodkabnbfaa
namespace Go.Proofs.Ytimdnodkabnbfaa
open Go Go.RowKit
abbrev LL := List (List Mem)
abbrev GCc (O : Nat → Prop) (w0 : World) (bk : Option Nat) (s : LL) := bI prog cJ (rcx O w0 bk) (s8 prog O w0 bk ab (s.flatten : List Mem))
theorem tC (s : LL) {i : Nat} (hi : i < s.length) : (s.take (i + 1)).flatten = (s.take i).flatten ++ s[i] := by
 rw [List.take_succ_eq_append_getElem hi, List.flatten_append, List.flatten_cons, List.flatten_nil, List.append_nil]
theorem vr (s : LL) (i : Nat) : (s.take i).flatten.length ≤ s.flatten.length := by
 have h : s.flatten = (s.take i).flatten ++ (s.drop i).flatten := by rw [← List.flatten_append, List.take_append_drop]
 rw [h, List.length_append]; omega
def Er (O : Nat → Prop) (w0 : World) (bk : Option Nat) (s : LL) (hm : s.length ≤ maxLen) (ht : s.flatten.length ≤ 1073741824) :=
 PLift.up <| bG (σ := List Mem) s.length (fun i b => b = (s.take i).flatten)
  (fun i b => GCc O w0 bk s [] aN (lp aL 11) (jI s (lnx (Ty.slc ab) s) (i : Nat) b))
  (fun i b hi hs ih => lw cq (g8 s _ _ b) (by
   have e := tC s hi
   have hle := vr s (i + 1)
   refine ⟨fun _ => ⟨a8 hi, ?_⟩, fun hc => absurd hi (by rw [cF (e := Ty.slc ab)] at hc; exact of_decide_eq_false hc)⟩
   rw [bX (e := Ty.slc ab) hi, cz hi hm, hs, ← e]
   exact ⟨Nat.le_trans hle ht, ih _ rfl⟩))
  (fun b hs => lw cq (g8 s _ _ b) ⟨fun hc => absurd (of_decide_eq_true hc) (Int.lt_irrefl _), fun _ => ⟨(by simp [vok]), by
   show K.val (.slc ab) (pz ab b 0 (List.length b)) = K.val (.slc ab) (s.flatten : List Mem)
   rw [Dz _ rfl, hs, List.take_length]⟩⟩)
theorem Eu (O : Nat → Prop) (w0 : World) (bk : Option Nat) (s : LL) (hm : s.length ≤ maxLen) (ht : s.flatten.length ≤ 1073741824) : GCc O w0 bk s [] aN (lp aL 11) (jJ s (lnx (Ty.slc ab) s) 0) :=
  lw cq (nM s _ _) (by
    have hle := vr s (0 + 1)
    refine ⟨fun hc => ?_, fun hc => ?_⟩
    · have hi : 0 < s.length := Int.ofNat_lt.1 (of_decide_eq_true hc)
      have e := tC s hi
      refine ⟨a8 hi, ?_⟩
      have e0 : el (Ty.slc ab) s 0 = s[0] := bX (e := Ty.slc ab) hi
      have e1 : (s.take (0 + 1)).flatten = s[0] := by rw [e]; rfl
      rw [e0, show IntKind.wrap .i64 ((0 : Int) + 1) = ((0 + 1 : Nat) : Int) from rfl, ← e1]
      exact ⟨Nat.le_trans hle ht, (Er O w0 bk s hm ht).down 1 _ hi rfl⟩
    · have hi : s.length = 0 := by
        have : ¬ (0 : Int) < ((s.length : Nat) : Int) := of_decide_eq_false hc
        omega
      show K.val (.slc ab) [] = K.val (.slc ab) (s.flatten : List Mem)
      rw [List.eq_nil_of_length_eq_zero hi]
      rfl)
theorem KI {α : Type} {zs pre ys : List α} (h : zs.take pre.length = pre) (hl : pre.length + ys.length ≤ zs.length) : (over zs pre.length ys).take (pre ++ ys).length = pre ++ ys := by
 rw [List.length_append, JV (by omega), h]
def FI (O : Nat → Prop) (w0 : World) (bk : Option Nat) (s : LL) (hm : s.length ≤ maxLen) :=
 PLift.up <| bG (σ := List Mem) s.length (fun i b => b.length = s.flatten.length ∧ b.take (s.take i).flatten.length = (s.take i).flatten)
  (fun i b => GCc O w0 bk s [] aN (lp aL 11) (k5 0 (s.take i).flatten.length s (lnx (Ty.slc ab) s) (i : Nat) b))
  (fun i b hi hs ih => lw cq (i8 0 _ s _ _ b) (by
   obtain ⟨h1, h2⟩ := hs
   have e := tC s hi
   have el' : (s.take (i + 1)).flatten.length = (s.take i).flatten.length + s[i].length := by rw [e, List.length_append]
   have hle := vr s (i + 1)
   have hle0 := vr s i
   refine ⟨fun _ => ⟨a8 hi, ?_⟩, fun hc => absurd hi (by rw [cF (e := Ty.slc ab)] at hc; exact of_decide_eq_false hc)⟩
   rw [bX (e := Ty.slc ab) hi, cz hi hm, Nat.zero_add, ← el', h1]
   refine ⟨(by unfold vok; omega), hle, ih _ ⟨?_, ?_⟩⟩
   ·show (over b (s.take i).flatten.length s[i]).length = _
    rw [AV (by omega), h1]
   ·have := KI (ys := s[i]) h2 (by omega)
    rw [← e] at this
    exact this))
  (fun b hs => lw cq (i8 0 _ s _ _ b) ⟨fun hc => absurd (of_decide_eq_true hc) (Int.lt_irrefl _), fun _ => by
   obtain ⟨h1, h2⟩ := hs
   rw [List.take_length] at h2 ⊢
   refine ⟨(by unfold vok; omega), ?_⟩
   show K.val (.slc ab) (pz ab b 0 (s.flatten : List Mem).length) = K.val (.slc ab) (s.flatten : List Mem)
   rw [I8, h2]⟩)
def K3 (O : Nat → Prop) (w0 : World) (bk : Option Nat) (s : LL) (hm : s.length ≤ maxLen) (ht : s.flatten.length ≤ 1073741824) :=
 PLift.up <| bG (σ := Unit) s.length (fun _ _ => True)
  (fun i _ => GCc O w0 bk s [] aN (lp aL 3) (lQ s ((s.take i).flatten.length : Nat) s (lnx (Ty.slc ab) s) (i : Nat)))
  (fun i _ hi _ ih => lw cq (jh s _ s _ _) (by
   have e := tC s hi
   have el' : (s.take (i + 1)).flatten.length = (s.take i).flatten.length + s[i].length := by rw [e, List.length_append]
   have hle := vr s (i + 1)
   refine ⟨fun _ => ⟨a8 hi, ?_⟩, fun hc => absurd hi (by rw [cF (e := Ty.slc ab)] at hc; exact of_decide_eq_false hc)⟩
   have e2 : IntKind.wrap .i64 ((((s.take i).flatten.length : Nat) : Int) + lnx ab s[i]) = (((s.take (i + 1)).flatten.length : Nat) : Int) := by
    rw [el', show lnx ab s[i] = ((s[i].length : Nat) : Int) from rfl, dr (by omega)]; omega
   rw [bX (e := Ty.slc ab) hi, cz hi hm, e2]
   exact ⟨fun hc => absurd (of_decide_eq_true hc) (by omega), fun _ => ih () trivial⟩))
  (fun _ _ => lw cq (jh s _ s _ _) ⟨fun hc => absurd (of_decide_eq_true hc) (Int.lt_irrefl _), fun _ => by
   rw [List.take_length]
   have e0 : IntKind.wrap .i64 ((((s.flatten : List Mem).length : Nat) : Int) - IntKind.wrap .i64 (0 - 0)) = (((s.flatten : List Mem).length : Nat) : Int) := by
    rw [show IntKind.wrap .i64 ((0 : Int) - 0) = 0 from rfl, dr (by omega)]; omega
   rw [e0]
   refine ⟨fun hc => absurd (of_decide_eq_true hc) (Int.not_lt.2 (Int.natCast_nonneg _)), fun _ => ⟨fun hc => ?_, fun hc => Eu O w0 bk s hm ht⟩⟩
   have hc := of_decide_eq_true hc
   rw [Int.toNat_natCast]
   refine ⟨⟨Int.le_refl _, Int.le_refl _, Int.le_refl _⟩, hc, ht, (by simp [vok]), ⟨Int.le_refl _, Int.le_refl _, Int.natCast_nonneg _⟩, ?_⟩
   exact (FI O w0 bk s hm).down 0 _ (Nat.zero_le _) ⟨List.length_replicate .., rfl⟩⟩)
theorem sT : n5 prog [] bQ uv :=
 Ic cq (fx := aN) rfl sU (by kernel_rfl) (T := fun _ y => mF y.1) (fun xs y _ => qW y.1) fun O w0 bk xs y hxl hy hp =>
  (K3 O w0 bk y.1 hy.1.1 hp).down 0 () (Nat.zero_le _) trivial
end Go.Proofs.Ytimdnodkabnbfaa
namespace Go.Proofs.Ytimdnodkabnbfaa
open Go Go.RowKit
structure kM (g : Mem → Bool) (l : List Mem) (k i : Nat) (b : List Mem) : Prop where
 le : k ≤ i
 il : i ≤ l.length
 len : b.length = l.length
 pre : b.take k = (l.take i).filter (fun m => !g m)
 post : b.drop i = l.drop i
theorem kM.at {g : Mem → Bool} {l b : List Mem} {k i : Nat} (h : kM g l k i b) (hi : i < l.length) (hb : i < b.length) : b[i] = l[i] := by
 have h1 := h.post
 rw [List.drop_eq_getElem_cons hb, List.drop_eq_getElem_cons hi] at h1
 exact (List.cons.inj h1).1
theorem kM.keep {g : Mem → Bool} {l b : List Mem} {k i : Nat} (h : kM g l k i b) (hi : i < l.length) (hg : g l[i] = false) : kM g l (k + 1) (i + 1) (b.set k l[i]) := by
 have h0 := h.le
 have h3 := h.len
 refine ⟨by omega, hi, by rw [List.length_set, h3], ?_, ?_⟩
 ·rw [List.take_succ_eq_append_getElem hi, List.filter_append, ← h.pre, List.take_succ_eq_append_getElem (by rw [List.length_set]; omega), List.getElem_set_self, List.take_set_of_le (Nat.le_refl _)]
  simp [hg]
 ·rw [List.drop_set_of_lt (by omega)]
  have h1 := h.post
  rw [List.drop_eq_getElem_cons (show i < b.length by omega), List.drop_eq_getElem_cons hi] at h1
  exact (List.cons.inj h1).2
theorem kM.skip {g : Mem → Bool} {l b : List Mem} {k i : Nat} (h : kM g l k i b) (hi : i < l.length) (hg : g l[i] = true) : kM g l k (i + 1) b := by
 have h0 := h.le
 have h3 := h.len
 refine ⟨by omega, hi, h3, ?_, ?_⟩
 ·rw [List.take_succ_eq_append_getElem hi, List.filter_append, ← h.pre]
  simp [hg]
 ·have h1 := h.post
  rw [List.drop_eq_getElem_cons (show i < b.length by omega), List.drop_eq_getElem_cons hi] at h1
  exact (List.cons.inj h1).2
theorem kM.first {g : Mem → Bool} {l : List Mem} {i : Nat} (hi : i < l.length) (h0 : ∀ m ∈ l.take i, g m = false) (hg : g l[i] = true) : kM g l i (i + 1) l :=
 ⟨Nat.le_succ _, hi, rfl, by
  rw [List.take_succ_eq_append_getElem hi, List.filter_append, List.filter_eq_self.2 (fun m hm => by simp [h0 m hm])]
  simp [hg], rfl⟩
theorem kM.done {g : Mem → Bool} {l b : List Mem} {k : Nat} (h : kM g l k l.length b) {z : Mem} {n : Nat} : (over b k (List.replicate n z)).take k = l.filter (fun m => !g m) := by
 have h0 := h.le
 have h3 := h.len
 rw [GW (Nat.le_refl _) (by omega), h.pre, List.take_length]
theorem Fh {g : Mem → Bool} {l : List Mem} (h0 : ∀ m ∈ l, g m = false) : l.filter (fun m => !g m) = l := List.filter_eq_self.2 (fun m hm => by simp [h0 m hm])
end Go.Proofs.Ytimdnodkabnbfaa
namespace Go.Proofs.Ytimdnodkabnbfaa
open Go Go.RowKit
abbrev GDr (O : Nat → Prop) (w0 : World) (y : Nd) := bI prog gD (Cx.base O w0) (cC prog O w0 jp fun z => z = (y, 0, ()))
theorem eY : XOk prog gD := Hs ot uf EH tY
def lX (n : Nd) (nos : List Int) (f : List Mem) : Nd := (n.1, (bif (bif !decide (n.2.1 = noM) then bB n.1.1 nos n.2.1 else false) then noM else n.2.1), tQ n n.2.2.1, f, ())
def K2 (O : Nat → Prop) (w0 : World) (n r : Nd) (nos : List Int) (l : List Mem) (hm : l.length ≤ maxLen) :=
  PLift.up <| bG (σ := Nat × List Mem) l.length (fun i s => kM (bB n.1.1 nos) l s.1 i s.2)
    (fun i s => GDr O w0 (lX n nos (l.filter fun m => !bB n.1.1 nos m)) (fe (s.1 : Nat) (i : Nat) s.2 n nos r) aq (lp ap 5) (fg (s.1 : Nat) (i : Nat) s.2 n nos r))
    (fun i s hi hs ih => aI eY (d5 _ _ s.2 n nos r) (by
      obtain ⟨k, b⟩ := s
      have hs : kM (bB n.1.1 nos) l k i b := hs
      have hb : i < b.length := by rw [hs.len]; exact hi
      have hk : k < b.length := by have := hs.le; omega
      have hat := hs.at hi hb
      refine ⟨fun _ => ⟨a8 hb, a8 hb, trivial, ?_⟩, fun hc => absurd hb (by rw [cF] at hc; exact of_decide_eq_false hc)⟩
      rw [bX hb, hat, cz hi hm, cz (show k < l.length by rw [← hs.len]; exact hk) hm]
      refine bD ⟨fun hc => ⟨a8 hk, a8 hk, ih (k + 1, b.set k l[i]) (hs.keep hi ?_)⟩, fun hc => ih (k, b) (hs.skip hi ?_)⟩
      · have hc : (!bB n.1.1 nos l[i]) = true := hc
        simpa using hc
      · have hc : (!bB n.1.1 nos l[i]) = false := hc
        simpa using hc))
    (fun s hs => aI eY (d5 _ _ s.2 n nos r) (by
      obtain ⟨k, b⟩ := s
      have hs : kM (bB n.1.1 nos) l k l.length b := hs
      have hl := hs.len
      have hle := hs.le
      refine ⟨fun hc => absurd (of_decide_eq_true hc) (by rw [show lnx ab b = ((l.length : Nat) : Int) from congrArg Nat.cast hl]; exact Int.lt_irrefl _), fun _ => ⟨(by simp [vok]), (show bP ((k : Nat) : Int) ((b.length : Nat) : Int) ((b.length - 0 : Nat) : Int) from ⟨by omega, by omega, by omega⟩), (by simp [vok]; omega), ?_, ?_⟩⟩
      · have : lnx ab (over b (0 + Int.toNat ((k : Nat) : Int)) (List.replicate (Int.toNat ((b.length : Nat) : Int) - Int.toNat ((k : Nat) : Int)) (zero ab))) = ((b.length : Nat) : Int) := congrArg Nat.cast (AV (by rw [List.length_replicate]; simp only [Int.toNat_natCast]; omega))
        show bP 0 ((k : Nat) : Int) (lnx ab (over b (0 + Int.toNat ((k : Nat) : Int)) (List.replicate (Int.toNat ((b.length : Nat) : Int) - Int.toNat ((k : Nat) : Int)) (zero ab))))
        rw [this]
        exact ⟨Int.le_refl _, by omega, by omega⟩
      · have hF : List.take (Int.toNat ((k : Nat) : Int)) (over b (0 + Int.toNat ((k : Nat) : Int)) (List.replicate (Int.toNat ((b.length : Nat) : Int) - Int.toNat ((k : Nat) : Int)) (zero ab))) = l.filter fun m => !bB n.1.1 nos m := by
          simp only [Int.toNat_natCast, Nat.zero_add]
          exact hs.done
        have fin : ∀ {p : Nd}, lX n nos (l.filter fun m => !bB n.1.1 nos m) = p → ∃ z, bo jp (K.val (Ty.pair ag (Ty.pair ae Ty.unit)) (p, 0, ())) = some z ∧ z = (lX n nos (l.filter fun m => !bB n.1.1 nos m), 0, ()) := fun {p} e => ⟨_, rfl, by rw [e]⟩
        rw [← hF] at fin ⊢
        have cases2 : ∀ {su : List Mem}, tQ n n.2.2.1 = su → True := fun _ => trivial
        refine ⟨fun h => ⟨trivial, fun _ => trivial, bD ⟨fun h2 => ⟨trivial, bD (fin ?_)⟩, fun h2 => fin ?_⟩⟩, fun h => ⟨trivial, fun _ => trivial, bD ⟨fun h2 => ⟨trivial, bD (fin ?_)⟩, fun h2 => fin ?_⟩⟩⟩
        all_goals
          rw [lS] at h2
          unfold lX tQ
          rw [h, h2]
          rfl))
theorem DA {g : Mem → Bool} {l : List Mem} {i : Nat} (hi : i < l.length) (h : ∀ m ∈ l.take i, g m = false) (hg : g l[i] = false) : ∀ m ∈ l.take (i + 1), g m = false := fun m hm => by
 rw [List.take_succ_eq_append_getElem hi] at hm
 rcases List.mem_append.1 hm with hm | hm
 ·exact h m hm
 ·rw [List.mem_singleton.1 hm]; exact hg
def JR (O : Nat → Prop) (w0 : World) (n r : Nd) (nos : List Int) (l : List Mem) (hm : l.length ≤ maxLen) :=
 PLift.up <| bG (σ := Unit) l.length (fun i _ => ∀ m ∈ l.take i, bB n.1.1 nos m = false)
  (fun i _ => GDr O w0 (lX n nos (l.filter fun m => !bB n.1.1 nos m)) (dc (lnx ab l) (i : Nat) l n nos r) aC (lp aE 2) (da (lnx ab l) (i : Nat) l n nos r))
  (fun i _ hi hs ih => aI eY (er _ _ l n nos r) (by
   refine ⟨fun _ => ⟨a8 hi, a8 hi, trivial, ?_⟩, fun hc => absurd hi (by rw [cF] at hc; exact of_decide_eq_false hc)⟩
   rw [bX hi, cz hi hm]
   refine ⟨fun hg => ⟨fun hc => ?_, fun _ => (K2 O w0 n r nos l hm).down (i + 1) (i, l) hi (.first hi hs hg)⟩, fun hg => ih () (DA hi hs hg)⟩
   have hc : ((i : Nat) : Int) = -1 := of_decide_eq_true hc
   omega))
  (fun _ hs => aI eY (er _ _ l n nos r) (by
   rw [List.take_length] at hs
   have hF := Fh hs
   refine ⟨fun hc => absurd (of_decide_eq_true hc) (Int.lt_irrefl _), fun _ => ⟨fun _ => ?_, fun hc => (by cases hc)⟩⟩
   rw [hF]
   have fin : ∀ {p : Nd}, lX n nos l = p → ∃ z, bo jp (K.val (Ty.pair ag (Ty.pair ae Ty.unit)) (p, 0, ())) = some z ∧ z = (lX n nos l, 0, ()) := fun {p} e => ⟨_, rfl, by rw [e]⟩
   refine ⟨fun h => ⟨trivial, fun _ => trivial, bD ⟨fun h2 => ⟨trivial, bD (fin ?_)⟩, fun h2 => fin ?_⟩⟩, fun h => ⟨trivial, fun _ => trivial, bD ⟨fun h2 => ⟨trivial, bD (fin ?_)⟩, fun h2 => fin ?_⟩⟩⟩
   all_goals
    rw [lS] at h2
    unfold lX tQ
    rw [h, h2]
    rfl))
theorem M2 (n : Nd) (nos : List Int) : lX (n.1, n.2.1, n.2.2.1.filter (fun m => !bB n.1.1 nos m), n.2.2.2) nos (n.2.2.2.1.filter fun m => !bB n.1.1 nos m) = ne n nos := rfl
theorem DM (O : Nat → Prop) (w0 : World) (n r : Nd) (nos : List Int) (su : List Mem) (hsu : su = n.2.2.1.filter (fun m => !bB n.1.1 nos m)) (hf : n.2.2.2.1.length ≤ 16) :
    GDr O w0 (ne n nos) (dc (lnx ab n.2.2.2.1) 0 n.2.2.2.1 (n.1, n.2.1, su, n.2.2.2) nos r) aC (lp aE 2) (da (lnx ab n.2.2.2.1) 0 n.2.2.2.1 (n.1, n.2.1, su, n.2.2.2) nos r) := by
  subst hsu
  rw [← M2]
  exact (JR O w0 (n.1, n.2.1, n.2.2.1.filter (fun m => !bB n.1.1 nos m), n.2.2.2) r nos n.2.2.2.1 (Nat.le_trans hf (by decide))).down 0 () (Nat.zero_le _) (fun m hm => by cases hm)
def Ko (O : Nat → Prop) (w0 : World) (n r : Nd) (nos : List Int) (hm : n.2.2.1.length ≤ maxLen) (hf : n.2.2.2.1.length ≤ 16) :=
 PLift.up <| bG (σ := Nat × List Mem) n.2.2.1.length (fun i s => kM (bB n.1.1 nos) n.2.2.1 s.1 i s.2)
  (fun i s => GDr O w0 (ne n nos) (fB (s.1 : Nat) (i : Nat) s.2 n nos r) aq (lp ap 5) (fE (s.1 : Nat) (i : Nat) s.2 n nos r))
  (fun i s hi hs ih => aI eY (eM _ _ s.2 n nos r) (by
   obtain ⟨k, b⟩ := s
   have hs : kM (bB n.1.1 nos) n.2.2.1 k i b := hs
   have hb : i < b.length := by rw [hs.len]; exact hi
   have hk : k < b.length := by have := hs.le; omega
   have hat := hs.at hi hb
   refine ⟨fun _ => ⟨a8 hb, a8 hb, trivial, ?_⟩, fun hc => absurd hb (by rw [cF] at hc; exact of_decide_eq_false hc)⟩
   rw [bX hb, hat, cz hi hm, cz (show k < n.2.2.1.length by rw [← hs.len]; exact hk) hm]
   refine bD ⟨fun hc => ⟨a8 hk, a8 hk, ih (k + 1, b.set k n.2.2.1[i]) (hs.keep hi ?_)⟩, fun hc => ih (k, b) (hs.skip hi ?_)⟩
   ·have hc : (!bB n.1.1 nos n.2.2.1[i]) = true := hc
    simpa using hc
   ·have hc : (!bB n.1.1 nos n.2.2.1[i]) = false := hc
    simpa using hc))
  (fun s hs => aI eY (eM _ _ s.2 n nos r) (by
   obtain ⟨k, b⟩ := s
   have hs : kM (bB n.1.1 nos) n.2.2.1 k n.2.2.1.length b := hs
   have hl := hs.len
   have hle := hs.le
   refine ⟨fun hc => absurd (of_decide_eq_true hc) (by rw [show lnx ab b = ((n.2.2.1.length : Nat) : Int) from congrArg Nat.cast hl]; exact Int.lt_irrefl _), fun _ => ⟨(by simp [vok]), (show bP ((k : Nat) : Int) ((b.length : Nat) : Int) ((b.length - 0 : Nat) : Int) from ⟨by omega, by omega, by omega⟩), (by simp [vok]; omega), ?_, Nat.le_trans hf (by decide), ?_⟩⟩
   ·have : lnx ab (over b (0 + Int.toNat ((k : Nat) : Int)) (List.replicate (Int.toNat ((b.length : Nat) : Int) - Int.toNat ((k : Nat) : Int)) (zero ab))) = ((b.length : Nat) : Int) := congrArg Nat.cast (AV (by rw [List.length_replicate]; simp only [Int.toNat_natCast]; omega))
    show bP 0 ((k : Nat) : Int) (lnx ab (over b (0 + Int.toNat ((k : Nat) : Int)) (List.replicate (Int.toNat ((b.length : Nat) : Int) - Int.toNat ((k : Nat) : Int)) (zero ab))))
    rw [this]
    exact ⟨Int.le_refl _, by omega, by omega⟩
   ·refine DM O w0 n r nos _ ?_ hf
    simp only [Int.toNat_natCast, Nat.zero_add]
    exact hs.done))
def JL (O : Nat → Prop) (w0 : World) (n r : Nd) (nos : List Int) (hm : n.2.2.1.length ≤ maxLen) (hf : n.2.2.2.1.length ≤ 16) :=
 PLift.up <| bG (σ := Unit) n.2.2.1.length (fun i _ => ∀ m ∈ n.2.2.1.take i, bB n.1.1 nos m = false)
  (fun i _ => GDr O w0 (ne n nos) (fO (lnx ab n.2.2.1) (i : Nat) n.2.2.1 n nos r) aC (lp aE 2) (fN (lnx ab n.2.2.1) (i : Nat) n.2.2.1 n nos r))
  (fun i _ hi hs ih => aI eY (eT _ _ n.2.2.1 n nos r) (by
   refine ⟨fun _ => ⟨a8 hi, a8 hi, trivial, ?_⟩, fun hc => absurd hi (by rw [cF] at hc; exact of_decide_eq_false hc)⟩
   rw [bX hi, cz hi hm]
   refine ⟨fun hg => ⟨fun hc => ?_, fun _ => (Ko O w0 n r nos hm hf).down (i + 1) (i, n.2.2.1) hi (.first hi hs hg)⟩, fun hg => ih () (DA hi hs hg)⟩
   have hc : ((i : Nat) : Int) = -1 := of_decide_eq_true hc
   omega))
  (fun _ hs => aI eY (eT _ _ n.2.2.1 n nos r) (by
   rw [List.take_length] at hs
   exact ⟨fun hc => absurd (of_decide_eq_true hc) (Int.lt_irrefl _), fun _ => ⟨fun _ => ⟨Nat.le_trans hf (by decide), DM O w0 n r nos n.2.2.1 (Fh hs).symm hf⟩, fun hc => (by cases hc)⟩⟩))
theorem FG {n : Nd} (h : bt n = true) : n.2.2.1.length ≤ 4 ∧ 1 ≤ n.2.2.1.length ∧ n.2.2.2.1.length ≤ 16 := by
 unfold bt u6 at h
 simp only [Bool.cond_eq_ite, Bool.ite_eq_true_distrib] at h
 have e1 : lnx ab n.2.2.1 = ((n.2.2.1.length : Nat) : Int) := rfl
 have e2 : lnx ab n.2.2.2.1 = ((n.2.2.2.1.length : Nat) : Int) := rfl
 rw [e1, e2] at h
 by_cases h1 : (1 : Int) ≤ ((n.2.2.1.length : Nat) : Int) <;> by_cases h2 : ((n.2.2.1.length : Nat) : Int) ≤ 4 <;> by_cases h3 : ((n.2.2.2.1.length : Nat) : Int) ≤ 16 <;> simp [h1, h2, h3] at h
 exact ⟨by omega, by omega, by omega⟩
theorem GR : ay prog [] pl pF :=
 bR (S := pF) eY (fx := bH) E0 (by kernel_rfl) (fun _ _ => trivial) (T := fun x => zC x.1 x.2.1) (fun x => C1 x.1 x.2.1) fun O w0 x _ _ => by
  obtain ⟨n, nos, ⟨⟩⟩ := x
  refine ⟨trivial, bD ⟨fun h => ⟨_, rfl, ?_⟩, fun h => ?_⟩⟩
  ·have h : (!bt n) = true := h
   show _ = ((gH n nos).1, (gH n nos).2, ())
   unfold gH
   rw [h]
   rfl
  ·have h : (!bt n) = false := h
   have hr : bt n = true := by simpa using h
   obtain ⟨l1, l2, l3⟩ := FG hr
   refine ⟨Nat.le_trans l1 (by decide), ?_⟩
   have e : gH n nos = (ne n nos, 0) := by unfold gH; rw [h]; rfl
   show bI _ _ _ (cC prog O w0 jp fun z => z = ((gH n nos).1, (gH n nos).2, ())) _ _ _ _
   rw [e]
   exact (JL O w0 n (zero ag) nos (Nat.le_trans l1 (by decide)) l3).down 0 () (Nat.zero_le _) (fun m hm => by cases hm)
end Go.Proofs.Ytimdnodkabnbfaa
namespace Go.Proofs.Ytimdnodkabnbfaa
open Go Go.RowKit
def ai (l : List Nd) : List Mem := l.map sfN
def cy (n : Nd) : List Mem := [n.2.1] ++ n.2.2.1 ++ n.2.2.2.1
def ft (l : List Nd) (no : Int) : Bool := l.any fun n => decide (n.1.1 = no)
def zj (l : List Nd) (no : Int) : Bool := bif decide ((BA (ai l) no).1 = no) then decide (0 ≤ no) else false
def noN : Nd := (noM, zero (Ty.pair ab (Ty.pair (Ty.slc ab) (Ty.pair (Ty.slc ab) Ty.unit))))
def IC (l : List Nd) (no : Int) : Nd := (l.find? fun n => decide (n.1.1 = no)).getD noN
end Go.Proofs.Ytimdnodkabnbfaa
