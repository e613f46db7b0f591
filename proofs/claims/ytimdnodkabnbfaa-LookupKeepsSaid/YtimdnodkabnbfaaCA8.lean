/- Part 8 of 10 of what this claim's proof stands on: a theory of programs on data, and the contracts of the functions that the law reaches. It holds no condition of its own. -/
import Derived.Test.YtimdnodkabnbfaaCA7
namespace Go.Proofs.Ytimdnodkabnbfaa
open Go Go.RowKit
noncomputable abbrev iX : Fx := { fn := fC, ann := { } }
noncomputable abbrev jn : aZ := { D := { T := aX, F := [(ci, cJ)], R := [], ovl := [] }, inl := [] }
noncomputable abbrev px : bh := .data i6
theorem pH (h_slices_IndexFunc_Member : ak prog [] ci cJ) : XOk prog jn := xok (al (aF aK az) h_slices_IndexFunc_Member) (by kernel_rfl) aE aL aM
noncomputable def jp (s : den (Ty.slc ab)) (f : den (Ty.fn (Ty.pair ab Ty.unit) (Ty.pair Ty.bool Ty.unit))) : af := af.req (∃ (h : den (Ty.pair ab Ty.unit) → den (Ty.pair Ty.bool Ty.unit)), f = some h) (af.ret (K.val (Ty.pair Ty.bool Ty.unit) (decide (0 ≤ ixP (prM f) s 0), PUnit.unit)))
theorem nW (s : den (Ty.slc ab)) (f : den (Ty.fn (Ty.pair ab Ty.unit) (Ty.pair Ty.bool Ty.unit))) : ai jn px 5000 [] iX (aA fC) (Env.of (aC i5 (s, f, ()) 0) []) = jp s f := by kernel_rfl
noncomputable abbrev mB : Fx := { fn := iM, ann := { frz := [(1, [1])] } }
noncomputable abbrev mR : aZ := { D := { T := aX, F := [], R := [], ovl := [] }, inl := [] }
noncomputable abbrev wq : bh := .data lL
theorem vG : XOk prog mR := xok ((aF aK az)) (by kernel_rfl) aE aL aM
noncomputable def mJ (s : den (Ty.slc ab)) : af := af.ret (K.val (Ty.pair (Ty.clo bU (Ty.pair (Ty.ref (Ty.slc ab)) Ty.unit)) Ty.unit) ((s, PUnit.unit), PUnit.unit))
theorem sf (s : den (Ty.slc ab)) : ai mR wq 5000 [] mB (aA iM) (Env.of (aC mt (s, ()) 0) []) = mJ s := by kernel_rfl
noncomputable abbrev AE : Fx := { fn := vT, ann := { frz := [(1, [1])] } }
noncomputable abbrev CD : aZ := { D := { T := aX, F := [(ng, ne)], R := [], ovl := [] }, inl := [] }
noncomputable abbrev LI : bh := .data Ar
theorem KO (h_ring_from_1 : ak prog [] ng ne) : XOk prog CD := xok (al (aF aK az) h_ring_from_1) (by kernel_rfl) aE aL aM
noncomputable def Cq (id : den tId) : af := af.req (∀ (y : den (Ty.pair ab (Ty.pair ab Ty.unit))), True) (af.ret (K.val (Ty.pair (Ty.fn (Ty.pair ab (Ty.pair ab Ty.unit)) (Ty.pair ae Ty.unit)) Ty.unit) (some fun (y : den (Ty.pair ab (Ty.pair ab Ty.unit))) ↦ (dS (a7 id (Prod.fst (Prod.snd (Prod.fst y)))) (a7 id (Prod.fst (Prod.snd (Prod.fst (Prod.snd y))))), PUnit.unit), PUnit.unit)))
theorem FU (id : den tId) : ai CD LI 5000 [] AE (aA vT) (Env.of (aC Ak (id, ()) 0) []) = Cq id := by kernel_rfl
noncomputable abbrev ip : Fx := { fn := gG, ann := { loops := [(2, { keep := [0, 6, 7, 8] })], frz := [(4, [4])] } }
noncomputable abbrev lF : aZ := { D := { T := aX, F := [(cr, cq), (l6, ml)], R := [], ovl := [] }, inl := [] }
noncomputable abbrev Be : bh := .data qP
theorem Kv (h_slices_ContainsFunc_Member : ak prog [] cr cq) (h_ring_Right_1 : ak prog [] l6 ml) : XOk prog lF := xok (al (al (aF aK az) h_ring_Right_1) h_slices_ContainsFunc_Member) (by kernel_rfl) aE aL aM
noncomputable def Ag (l : den (Ty.slc ab)) : af := af.loop [] ip (lp gG 2) [(0, K.val (Ty.slc ab) l), (6, K.val (Ty.slc ab) l), (7, K.val ae (lnx ab l)), (8, K.val ae 0)] []
theorem EV (l : den (Ty.slc ab)) : ai lF Be 5000 [] ip (aA gG) (Env.of (aC yM (l, ()) 0) []) = Ag l := by kernel_rfl
noncomputable def xp (v0 : den (Ty.slc ab)) (v6 : den (Ty.slc ab)) (v7 : den ae) (v8 : den ae) : Env := Env.of [(0, K.val (Ty.slc ab) v0), (6, K.val (Ty.slc ab) v6), (7, K.val ae v7), (8, K.val ae v8)] []
noncomputable def Ea (v0 : den (Ty.slc ab)) (v6 : den (Ty.slc ab)) (v7 : den ae) (v8 : den ae) : af := af.ite (decide (v8 < v7)) (af.req (inB v8 (lnx ab v6)) (af.req (bL 0 v8 (lnx ab v0)) (af.req (∀ (y : den (Ty.pair ab Ty.unit)), True) (af.req (∃ (h : den (Ty.pair ab Ty.unit) → den (Ty.pair Ty.bool Ty.unit)), (some fun (y : den (Ty.pair ab Ty.unit)) ↦ (gd (Prod.fst y) (el ab v6 v8), PUnit.unit)) = some h) (af.ite (bif bif List.any (eK ab v0 0 v8) (prM (some fun (y : den (Ty.pair ab Ty.unit)) ↦ (gd (Prod.fst y) (el ab v6 v8), PUnit.unit))) then true else decide (Prod.fst (el ab v6 v8) < 0) then true else decide (16 ≤ Prod.fst (el ab v6 v8))) (af.ret (K.val (Ty.pair Ty.bool Ty.unit) (false, PUnit.unit))) (af.loop [] ip (lp gG 2) [(0, K.val (Ty.slc ab) v0), (6, K.val (Ty.slc ab) v6), (7, K.val ae v7), (8, K.val ae (IntKind.wrap IntKind.i64 (v8 + 1)))] [])))))) (af.ret (K.val (Ty.pair Ty.bool Ty.unit) (decide (lnx ab v0 ≤ 16), PUnit.unit)))
theorem qF (v0 : den (Ty.slc ab)) (v6 : den (Ty.slc ab)) (v7 : den ae) (v8 : den ae) : ai lF Be 5000 [] ip (lp gG 2) (xp v0 v6 v7 v8) = Ea v0 v6 v7 v8 := by kernel_rfl
noncomputable abbrev ym : Fx := { fn := s5, ann := { } }
noncomputable abbrev A4 : aZ := { D := { T := aX, F := [(fT, fQ), (kC, kD), (fj, fl)], R := [], ovl := [] }, inl := [] }
noncomputable abbrev Kr : bh := .data rF
theorem Jy (h_ring_Right : ak prog [] fT fQ) (h_ring_from : ak prog [] kC kD) (h_slices_MinFunc_Member : ak prog [] fj fl) : XOk prog A4 := xok (al (al (al (aF aK az) h_slices_MinFunc_Member) h_ring_from) h_ring_Right) (by kernel_rfl) aE aL aM
noncomputable def AI (l : den (Ty.slc ab)) (id : den tId) : af := af.req True (af.ite (!bf l) (af.ret (K.val (Ty.pair ab (Ty.pair ae Ty.unit)) (zero (Ty.pair ae (Ty.pair tId Ty.unit)), 1, PUnit.unit))) (af.ite (decide (lnx ab l = 0)) (af.ret (K.val (Ty.pair ab (Ty.pair ae Ty.unit)) (zero (Ty.pair ae (Ty.pair tId Ty.unit)), 6, PUnit.unit))) (af.req True (af.req ((∃ (h : den (Ty.pair ab (Ty.pair ab Ty.unit)) → den (Ty.pair ae Ty.unit)), cP id = some h) ∧ 0 < List.length l) (af.ret (K.val (Ty.pair ab (Ty.pair ae Ty.unit)) (JP (cmM (cP id)) l, 0, PUnit.unit)))))))
theorem D7 (l : den (Ty.slc ab)) (id : den tId) : ai A4 Kr 5000 [] ym (aA s5) (Env.of (aC yT (l, id, ()) 0) []) = AI l id := by kernel_rfl
noncomputable abbrev wP : Fx := { fn := rr, ann := { frz := [(3, [3])] } }
noncomputable abbrev yR : aZ := { D := { T := aX, F := [(fT, fQ), (ci, cJ), (lj, k5), (dp, dn), (kC, kD), (d7, d5)], R := [], ovl := [] }, inl := [] }
noncomputable abbrev HX : bh := .data pE
theorem Ie (h_ring_Right : ak prog [] fT fQ) (h_slices_IndexFunc_Member : ak prog [] ci cJ) (h_ring_turned_1 : ak prog [] lj k5) (h_slices_Values_Member : ak prog [] dp dn) (h_ring_from : ak prog [] kC kD) (h_slices_SortedFunc_Member : ak prog [] d7 d5) : XOk prog yR := xok (al (al (al (al (al (al (aF aK az) h_slices_SortedFunc_Member) h_ring_from) h_slices_Values_Member) h_ring_turned_1) h_slices_IndexFunc_Member) h_ring_Right) (by kernel_rfl) aE aL aM
noncomputable def yI (l : den (Ty.slc ab)) (no : den ae) : af := af.req True (af.ite (!bf l) (af.ret (K.val (Ty.pair (Ty.slc ab) (Ty.pair ae Ty.unit)) ([], 1, PUnit.unit))) (af.req (∀ (y : den (Ty.pair ab Ty.unit)), True) (af.req (∃ (h : den (Ty.pair ab Ty.unit) → den (Ty.pair Ty.bool Ty.unit)), (some fun (y : den (Ty.pair ab Ty.unit)) ↦ (decide (Prod.fst (Prod.fst y) = no), PUnit.unit)) = some h) (af.ite (decide (ixP (prM (some fun (y : den (Ty.pair ab Ty.unit)) ↦ (decide (Prod.fst (Prod.fst y) = no), PUnit.unit))) l 0 < 0)) (af.ret (K.val (Ty.pair (Ty.slc ab) (Ty.pair ae Ty.unit)) ([], 6, PUnit.unit))) (af.req True (af.req (inB (ixP (prM (some fun (y : den (Ty.pair ab Ty.unit)) ↦ (decide (Prod.fst (Prod.fst y) = no), PUnit.unit))) l 0) (lnx ab l)) (af.req True (af.req (jk ab (cP (Prod.fst (Prod.snd (el ab l (ixP (prM (some fun (y : den (Ty.pair ab Ty.unit)) ↦ (decide (Prod.fst (Prod.fst y) = no), PUnit.unit))) l 0))))) l) (af.ret (K.val (Ty.pair (Ty.slc ab) (Ty.pair ae Ty.unit)) (fL ab (cP (Prod.fst (Prod.snd (el ab l (ixP (prM (some fun (y : den (Ty.pair ab Ty.unit)) ↦ (decide (Prod.fst (Prod.fst y) = no), PUnit.unit))) l 0))))) l, 0, PUnit.unit)))))))))))
theorem Dg (l : den (Ty.slc ab)) (no : den ae) : ai yR HX 5000 [] wP (aA rr) (Env.of (aC xr (l, no, ()) 0) []) = yI l no := by kernel_rfl
noncomputable abbrev ie : Fx := { fn := gM, ann := { loops := [(8, { keep := [8, 10, 27, 28], own := [(10, ab)] })] }, share := true }
noncomputable abbrev oE : aZ := { D := { T := aX, F := [(na, j8)], R := [], ovl := [] }, inl := [] }
noncomputable abbrev zq : bh := .data kf
theorem tn (h_ring_turned : ak prog [] na j8) : XOk prog oE := xok (al (aF aK az) h_ring_turned) (by kernel_rfl) aE aL aM
noncomputable def zi (l : den (Ty.slc ab)) (no : den ae) (many : den ae) : af := af.ite (bif decide (many < 0) then true else decide (16 < many)) (af.ret (K.val (Ty.pair (Ty.slc ab) (Ty.pair ae Ty.unit)) ([], 1, PUnit.unit))) (af.req True (af.all (den (Ty.pair (Ty.slc ab) (Ty.pair ae Ty.unit))) (fun (q3 : den (Ty.pair (Ty.slc ab) (Ty.pair ae Ty.unit))) ↦ q3 = (Prod.fst (cg l no), Prod.snd (cg l no), PUnit.unit)) fun (q3 : den (Ty.pair (Ty.slc ab) (Ty.pair ae Ty.unit))) ↦ af.ite (!decide (Prod.fst (Prod.snd q3) = 0)) (af.ret (K.val (Ty.pair (Ty.slc ab) (Ty.pair ae Ty.unit)) ([], Prod.fst (Prod.snd q3), PUnit.unit))) (af.loop [] ie (lp gM 8) [(8, K.val (Ty.slc ab) (Prod.fst q3)), (10, K.sl 0 ab), (27, K.val ae many), (28, K.val ae 0)] [(0, Bx.row ab [])])))
theorem EW (l : den (Ty.slc ab)) (no : den ae) (many : den ae) : ai oE zq 5000 [] ie (aA gM) (Env.of (aC yS (l, no, many, ()) 0) []) = zi l no many := by kernel_rfl
noncomputable def xu (v8 : den (Ty.slc ab)) (v27 : den ae) (v28 : den ae) (b0 : List (den ab)) : Env := Env.of [(8, K.val (Ty.slc ab) v8), (10, K.sl 0 ab), (27, K.val ae v27), (28, K.val ae v28)] [(0, Bx.row ab b0)]
noncomputable def Fp (v8 : den (Ty.slc ab)) (v27 : den ae) (v28 : den ae) (b0 : List (den ab)) : af := af.ite (decide (v28 < v27)) (af.req (nz (lnx ab v8)) (af.req (inB (Int.tmod (IntKind.wrap IntKind.i64 (v28 + 1)) (lnx ab v8)) (lnx ab v8)) (af.req (List.length (b0 ++ List.set (List.replicate 1 (zero ab)) 0 (el ab v8 (Int.tmod (IntKind.wrap IntKind.i64 (v28 + 1)) (lnx ab v8)))) ≤ bH) (af.loop [] ie (lp gM 8) [(8, K.val (Ty.slc ab) v8), (10, K.sl 0 ab), (27, K.val ae v27), (28, K.val ae (IntKind.wrap IntKind.i64 (v28 + 1)))] [(0, Bx.row ab (b0 ++ List.set (List.replicate 1 (zero ab)) 0 (el ab v8 (Int.tmod (IntKind.wrap IntKind.i64 (v28 + 1)) (lnx ab v8)))))])))) (af.ret (K.val (Ty.pair (Ty.slc ab) (Ty.pair ae Ty.unit)) (b0, 0, PUnit.unit)))
theorem qv (v8 : den (Ty.slc ab)) (v27 : den ae) (v28 : den ae) (b0 : List (den ab)) : ai oE zq 5000 [] ie (lp gM 8) (xu v8 v27 v28 b0) = Fp v8 v27 v28 b0 := by kernel_rfl
noncomputable abbrev Fb : Fx := { fn := AQ, ann := { } }
noncomputable abbrev Hl : aZ := { D := { T := aX, F := [(nO, nN), (uJ, vm), (kH, kr)], R := [], ovl := [] }, inl := [] }
noncomputable abbrev Oy : bh := .data Eo
theorem Og (h_r01_Add : ak prog [] nO nN) (h_r01_Not : ak prog [] uJ vm) (h_r01_Power : ak prog [] kH kr) : XOk prog Hl := xok (al (al (al (aF aK az) h_r01_Power) h_r01_Not) h_r01_Add) (by kernel_rfl) aE aL aM
noncomputable def Hp (a : den tId) (b : den tId) : af := af.req True (af.req True (af.req ((0 : Int) = 0) (af.req True (af.ret (K.val (Ty.pair tId Ty.unit) (i8 (i8 b (fI a)) pw0, PUnit.unit))))))
theorem J3 (a : den tId) (b : den tId) : ai Hl Oy 5000 [] Fb (aA AQ) (Env.of (aC Ek (a, b, ()) 0) []) = Hp a b := by kernel_rfl
noncomputable abbrev gQ : Fx := { fn := gv, ann := { loops := [(3, { keep := [3, 4, 5, 9, 10, 11] })] } }
noncomputable abbrev p5 : aZ := { D := { T := aX, F := [(uK, uI), (nj, ry)], R := [], ovl := [] }, inl := [] }
noncomputable abbrev BT : bh := .data sZ
theorem wk (h_r01_Far : ak prog [] uK uI) (h_r01_Compare : ak prog [] nj ry) : XOk prog p5 := xok (al (al (aF aK az) h_r01_Compare) h_r01_Far) (by kernel_rfl) aE aL aM
noncomputable def B6 (l : den (Ty.slc ab)) (id : den tId) : af := af.loop [] gQ (lp gv 3) [(3, K.ptr 0 tId []), (4, K.ptr (0 + 1) ab []), (5, K.ptr (0 + 1 + 1) ab []), (9, K.val (Ty.slc ab) l), (10, K.val ae (lnx ab l)), (11, K.val ae 0)] [(0, Bx.cell tId id), (0 + 1, Bx.cell ab (zero ab)), (0 + 1 + 1, Bx.cell ab (-1, zero (Ty.pair tId Ty.unit)))]
theorem Gs (l : den (Ty.slc ab)) (id : den tId) : ai p5 BT 5000 [] gQ (aA gv) (Env.of (aC zW (l, id, ()) 0) []) = B6 l id := by kernel_rfl
noncomputable def yC (v9 : den (Ty.slc ab)) (v10 : den ae) (v11 : den ae) (b0 : den tId) (b1 : den ab) (b2 : den ab) : Env := Env.of [(3, K.ptr 0 tId []), (4, K.ptr (0 + 1) ab []), (5, K.ptr (0 + 1 + 1) ab []), (9, K.val (Ty.slc ab) v9), (10, K.val ae v10), (11, K.val ae v11)] [(0, Bx.cell tId b0), (1, Bx.cell ab b1), (2, Bx.cell ab b2)]
noncomputable def Gu (v9 : den (Ty.slc ab)) (v10 : den ae) (v11 : den ae) (b0 : den tId) (b1 : den ab) (b2 : den ab) : af := af.ite (decide (v11 < v10)) (af.req (inB v11 (lnx ab v9)) (af.req (da [(decide (Prod.fst b2 < 0), false)] True) (af.req (da [(decide (Prod.fst b2 < 0), false)] True) (af.req (da [(decide (Prod.fst b2 < 0), false)] True) (af.ite (bif decide (Prod.fst b2 < 0) then true else decide (dS (a7 b0 (Prod.fst (Prod.snd (el ab v9 v11)))) (a7 b0 (Prod.fst (Prod.snd b2))) < 0)) (af.loop [] gQ (lp gv 3) [(3, K.ptr 0 tId []), (4, K.ptr (0 + 1) ab []), (5, K.ptr (0 + 1 + 1) ab []), (9, K.val (Ty.slc ab) v9), (10, K.val ae v10), (11, K.val ae (IntKind.wrap IntKind.i64 (v11 + 1)))] [(0, Bx.cell tId b0), (0 + 1, Bx.cell ab b1), (0 + 1 + 1, Bx.cell ab (el ab v9 v11))]) (af.loop [] gQ (lp gv 3) [(3, K.ptr 0 tId []), (4, K.ptr (0 + 1) ab []), (5, K.ptr (0 + 1 + 1) ab []), (9, K.val (Ty.slc ab) v9), (10, K.val ae v10), (11, K.val ae (IntKind.wrap IntKind.i64 (v11 + 1)))] [(0, Bx.cell tId b0), (0 + 1, Bx.cell ab b1), (0 + 1 + 1, Bx.cell ab b2)])))))) (af.ret (K.val (Ty.pair ab Ty.unit) (b2, PUnit.unit)))
theorem rR (v9 : den (Ty.slc ab)) (v10 : den ae) (v11 : den ae) (b0 : den tId) (b1 : den ab) (b2 : den ab) : ai p5 BT 5000 [] gQ (lp gv 3) (yC v9 v10 v11 b0 b1 b2) = Gu v9 v10 v11 b0 b1 b2 := by kernel_rfl
noncomputable abbrev BO : Fx := { fn := xT, ann := { } }
noncomputable abbrev Eb : aZ := { D := { T := aX, F := [(kE, kp), (nO, nN), (kH, kr)], R := [], ovl := [] }, inl := [] }
noncomputable abbrev Nq : bh := .data CI
theorem NH (h_r07_Owner : ak prog [] kE kp) (h_r01_Add : ak prog [] nO nN) (h_r01_Power : ak prog [] kH kr) : XOk prog Eb := xok (al (al (al (aF aK az) h_r01_Power) h_r01_Add) h_r07_Owner) (by kernel_rfl) aE aL aM
noncomputable def EU (l : den (Ty.slc ab)) (m : den ab) : af := af.req ((0 : Int) = 0) (af.req True (af.req True (af.ret (K.val (Ty.pair ab Ty.unit) (gE l (i8 (Prod.fst (Prod.snd m)) pw0), PUnit.unit)))))
theorem HD (l : den (Ty.slc ab)) (m : den ab) : ai Eb Nq 5000 [] BO (aA xT) (Env.of (aC Cs (l, m, ()) 0) []) = EU l m := by kernel_rfl
noncomputable abbrev jg : Fx := { fn := iW, ann := { loops := [(3, { keep := [0, 2, 4, 7, 8] })] }, own := [9] }
noncomputable abbrev p4 : aZ := { D := { T := aX, F := [(rU, sg)], R := [], ovl := [] }, inl := [] }
noncomputable abbrev CB : bh := .data oo
theorem qe (h_r07_Next : ak prog [] rU sg) : XOk prog p4 := xok (al (aF aK az) h_r07_Next) (by kernel_rfl) aE aL aM
noncomputable def CC (l : den (Ty.slc ab)) (m : den ab) (many : den ae) : af := af.loop [] jg (lp iW 3) [(0, K.val (Ty.slc ab) l), (2, K.val ae many), (4, K.ptr 0 ab []), (7, K.sl (0 + 1) ab), (8, K.val ae 0)] [(0, Bx.cell ab m), (0 + 1, Bx.row ab (List.replicate 0 (zero ab)))]
theorem Gd (l : den (Ty.slc ab)) (m : den ab) (many : den ae) : ai p4 CB 5000 [] jg (aA iW) (Env.of (aC zY (l, m, many, ()) 0) []) = CC l m many := by kernel_rfl
noncomputable def yy (v0 : den (Ty.slc ab)) (v2 : den ae) (v8 : den ae) (b0 : den ab) (b1 : List (den ab)) : Env := Env.of [(0, K.val (Ty.slc ab) v0), (2, K.val ae v2), (4, K.ptr 0 ab []), (7, K.sl (0 + 1) ab), (8, K.val ae v8)] [(0, Bx.cell ab b0), (1, Bx.row ab b1)]
noncomputable def FG (v0 : den (Ty.slc ab)) (v2 : den ae) (v8 : den ae) (b0 : den ab) (b1 : List (den ab)) : af := af.ite (decide (v8 < v2)) (af.req True (af.req (List.length (b1 ++ List.set (List.replicate 1 (zero ab)) 0 (ik v0 b0)) ≤ bH) (af.loop [] jg (lp iW 3) [(0, K.val (Ty.slc ab) v0), (2, K.val ae v2), (4, K.ptr 0 ab []), (7, K.sl (0 + 1) ab), (8, K.val ae (IntKind.wrap IntKind.i64 (v8 + 1)))] [(0, Bx.cell ab (ik v0 b0)), (0 + 1, Bx.row ab (b1 ++ List.set (List.replicate 1 (zero ab)) 0 (ik v0 b0)))]))) (af.ret (K.val (Ty.pair (Ty.slc ab) Ty.unit) (b1, PUnit.unit)))
theorem mC (v0 : den (Ty.slc ab)) (v2 : den ae) (v8 : den ae) (b0 : den ab) (b1 : List (den ab)) : ai p4 CB 5000 [] jg (lp iW 3) (yy v0 v2 v8 b0 b1) = FG v0 v2 v8 b0 b1 := by kernel_rfl
noncomputable abbrev dF : Fx := { fn := dK, ann := { loops := [(2, { keep := [0, 7, 8, 9] }), (7, { keep := [0, 4, 7, 8, 9, 24, 25, 26] })] } }
noncomputable abbrev mU : aZ := { D := { T := aX, F := [], R := [], ovl := [] }, inl := [] }
noncomputable abbrev vR : bh := .data tt
theorem m4 : XOk prog mU := xok ((aF aK az)) (by kernel_rfl) aE aL aM
noncomputable def Cw (l : den (Ty.slc ab)) : af := af.loop [] dF (lp dK 2) [(0, K.val (Ty.slc ab) l), (7, K.val (Ty.slc ab) l), (8, K.val ae (lnx ab l)), (9, K.val ae 0)] []
theorem Ft (l : den (Ty.slc ab)) : ai mU vR 5000 [] dF (aA dK) (Env.of (aC AJ (l, ()) 0) []) = Cw l := by kernel_rfl
noncomputable def qY (v0 : den (Ty.slc ab)) (v7 : den (Ty.slc ab)) (v8 : den ae) (v9 : den ae) : Env := Env.of [(0, K.val (Ty.slc ab) v0), (7, K.val (Ty.slc ab) v7), (8, K.val ae v8), (9, K.val ae v9)] []
noncomputable def Gi (v0 : den (Ty.slc ab)) (v7 : den (Ty.slc ab)) (v8 : den ae) (v9 : den ae) : af := af.ite (decide (v9 < v8)) (af.req (inB v9 (lnx ab v7)) (af.ite (bif decide (Prod.fst (el ab v7 v9) < 0) then true else decide (15 < Prod.fst (el ab v7 v9))) (af.ret (K.val (Ty.pair Ty.bool Ty.unit) (false, PUnit.unit))) (af.req (bL 0 v9 (lnx ab v0)) (af.loop [] dF (lp dK 7) [(0, K.val (Ty.slc ab) v0), (4, K.ptr 0 ab []), (7, K.val (Ty.slc ab) v7), (8, K.val ae v8), (9, K.val ae v9), (24, K.val (Ty.slc ab) (eK ab v0 0 v9)), (25, K.val ae (lnx ab (eK ab v0 0 v9))), (26, K.val ae 0)] [(0, Bx.cell ab (el ab v7 v9))])))) (af.ret (K.val (Ty.pair Ty.bool Ty.unit) (decide (lnx ab v0 ≤ 16), PUnit.unit)))
theorem rJ (v0 : den (Ty.slc ab)) (v7 : den (Ty.slc ab)) (v8 : den ae) (v9 : den ae) : ai mU vR 5000 [] dF (lp dK 2) (qY v0 v7 v8 v9) = Gi v0 v7 v8 v9 := by kernel_rfl
noncomputable def yB (v0 : den (Ty.slc ab)) (v7 : den (Ty.slc ab)) (v8 : den ae) (v9 : den ae) (v24 : den (Ty.slc ab)) (v25 : den ae) (v26 : den ae) (b0 : den ab) : Env := Env.of [(0, K.val (Ty.slc ab) v0), (4, K.ptr 0 ab []), (7, K.val (Ty.slc ab) v7), (8, K.val ae v8), (9, K.val ae v9), (24, K.val (Ty.slc ab) v24), (25, K.val ae v25), (26, K.val ae v26)] [(0, Bx.cell ab b0)]
noncomputable def F7 (v0 : den (Ty.slc ab)) (v7 : den (Ty.slc ab)) (v8 : den ae) (v9 : den ae) (v24 : den (Ty.slc ab)) (v25 : den ae) (v26 : den ae) (b0 : den ab) : af := af.ite (decide (v26 < v25)) (af.req (inB v26 (lnx ab v24)) (af.ite (bif decide (Prod.fst (el ab v24 v26) = Prod.fst b0) then true else eqb tId (Prod.fst (Prod.snd (el ab v24 v26))) (Prod.fst (Prod.snd b0))) (af.ret (K.val (Ty.pair Ty.bool Ty.unit) (false, PUnit.unit))) (af.loop [] dF (lp dK 7) [(0, K.val (Ty.slc ab) v0), (4, K.ptr 0 ab []), (7, K.val (Ty.slc ab) v7), (8, K.val ae v8), (9, K.val ae v9), (24, K.val (Ty.slc ab) v24), (25, K.val ae v25), (26, K.val ae (IntKind.wrap IntKind.i64 (v26 + 1)))] [(0, Bx.cell ab b0)]))) (af.loop [] dF (lp dK 2) [(0, K.val (Ty.slc ab) v0), (7, K.val (Ty.slc ab) v7), (8, K.val ae v8), (9, K.val ae (IntKind.wrap IntKind.i64 (v9 + 1)))] [])
theorem rN (v0 : den (Ty.slc ab)) (v7 : den (Ty.slc ab)) (v8 : den ae) (v9 : den ae) (v24 : den (Ty.slc ab)) (v25 : den ae) (v26 : den ae) (b0 : den ab) : ai mU vR 5000 [] dF (lp dK 7) (yB v0 v7 v8 v9 v24 v25 v26 b0) = F7 v0 v7 v8 v9 v24 v25 v26 b0 := by kernel_rfl
noncomputable abbrev cR : Fx := { fn := cC, ann := { } }
noncomputable abbrev cD : Fx := { fn := ax, ann := { }, own := [2] }
noncomputable abbrev cm : Fx := { fn := bj, ann := { loops := [(1, { keep := [0, 5, 6, 7] })], frz := [(1000001, [2]), (3000001, [1])] } }
noncomputable abbrev bV : Fx := { fn := bN, ann := { } }
noncomputable abbrev cE : aZ := { D := { T := aX, F := [], R := [(eS, gF)], ovl := [] }, inl := [(mw, cR), (ld, cD), (bU, cm)] }
noncomputable abbrev gc : bh := .data fM
theorem rh (h_slices_SortFunc_Member : rT prog [] eS gF) : XOk prog cE := xok ((aF aK az)) (by kernel_rfl) (PS h_slices_SortFunc_Member aE) (jb tU (by kernel_rfl) (jb qV (by kernel_rfl) (jb lg (by kernel_rfl) aL))) aM
noncomputable def kd (seq : den (Ty.clo bU (Ty.pair (Ty.ref (Ty.slc ab)) Ty.unit))) (cmp : den (Ty.fn (Ty.pair ab (Ty.pair ab Ty.unit)) (Ty.pair ae Ty.unit))) : af := af.loop [{ fx := cD, todo := cx ax 3, dst := none, s := ofS [(2, K.ptr (0 + 1) (Ty.slc ab) [])], rng := some 0 }, { fx := cR, todo := bC cC 1 1, dst := some 4, s := ofS [] }, { fx := bV, todo := bC bN 1 1, dst := some 7, s := ofS [(1, K.val (Ty.fn (Ty.pair ab (Ty.pair ab Ty.unit)) (Ty.pair ae Ty.unit)) cmp)] }] cm (lp bj 1) [(0, K.yld 0), (5, K.val (Ty.slc ab) (Prod.fst seq)), (6, K.val ae (lnx ab (Prod.fst seq))), (7, K.val ae 0)] [(0, Bx.lop LoopState.ready none [(2, K.ptr (0 + 1) (Ty.slc ab) [])] 13 (kP ax 3) (du ax 3) (ft ax 3)), (0 + 1, Bx.obj (Ty.slc ab) K.nilsl)]
theorem oS (seq : den (Ty.clo bU (Ty.pair (Ty.ref (Ty.slc ab)) Ty.unit))) (cmp : den (Ty.fn (Ty.pair ab (Ty.pair ab Ty.unit)) (Ty.pair ae Ty.unit))) : ai cE gc 5000 [] bV (aA bN) (Env.of (aC jh (seq, cmp, ()) 0) []) = kd seq cmp := by kernel_rfl
noncomputable def gk (w2_1 : den (Ty.fn (Ty.pair ab (Ty.pair ab Ty.unit)) (Ty.pair ae Ty.unit))) (v5 : den (Ty.slc ab)) (v6 : den ae) (v7 : den ae) : List bY := [{ fx := cD, todo := cx ax 3, dst := none, s := ofS [(2, K.ptr (0 + 1) (Ty.slc ab) [])], rng := some 0 }, { fx := cR, todo := bC cC 1 1, dst := some 4, s := ofS [] }, { fx := bV, todo := bC bN 1 1, dst := some 7, s := ofS [(1, K.val (Ty.fn (Ty.pair ab (Ty.pair ab Ty.unit)) (Ty.pair ae Ty.unit)) w2_1)] }]
noncomputable def gn (w2_1 : den (Ty.fn (Ty.pair ab (Ty.pair ab Ty.unit)) (Ty.pair ae Ty.unit))) (v5 : den (Ty.slc ab)) (v6 : den ae) (v7 : den ae) : Env := Env.of [(0, K.yld 0), (5, K.val (Ty.slc ab) v5), (6, K.val ae v6), (7, K.val ae v7)] [(0, Bx.lop LoopState.ready none [(2, K.ptr (0 + 1) (Ty.slc ab) [])] 13 (kP ax 3) (du ax 3) (ft ax 3)), (1, Bx.obj (Ty.slc ab) K.nilsl)]
noncomputable def gi (w2_1 : den (Ty.fn (Ty.pair ab (Ty.pair ab Ty.unit)) (Ty.pair ae Ty.unit))) (v5 : den (Ty.slc ab)) (v6 : den ae) (v7 : den ae) : af := af.ite (decide (v7 < v6)) (af.req (inB v7 (lnx ab v5)) (af.req (List.length (List.set (List.replicate 1 (zero ab)) 0 (el ab v5 v7)) ≤ bH) (af.ite (!true) (af.req (jk ab w2_1 (List.set (List.replicate 1 (zero ab)) 0 (el ab v5 v7))) (af.ret (K.val (Ty.pair (Ty.slc ab) Ty.unit) (fL ab w2_1 (List.set (List.replicate 1 (zero ab)) 0 (el ab v5 v7)), PUnit.unit)))) (af.loop [{ fx := cD, todo := cx ax 3, dst := none, s := ofS [(2, K.ptr (0 + 1) (Ty.slc ab) [])], rng := some 0 }, { fx := cR, todo := bC cC 1 1, dst := some 4, s := ofS [] }, { fx := bV, todo := bC bN 1 1, dst := some 7, s := ofS [(1, K.val (Ty.fn (Ty.pair ab (Ty.pair ab Ty.unit)) (Ty.pair ae Ty.unit)) w2_1)] }] cm (lp bj 1) [(0, K.yld 0), (5, K.val (Ty.slc ab) v5), (6, K.val ae v6), (7, K.val ae (IntKind.wrap IntKind.i64 (v7 + 1)))] [(0, Bx.lop LoopState.ready none [(2, K.ptr (0 + 1) (Ty.slc ab) [])] 13 (kP ax 3) (du ax 3) (ft ax 3)), (0 + 1, Bx.obj (Ty.slc ab) (K.sl (0 + 1 + 1) ab)), (0 + 1 + 1, Bx.row ab (List.set (List.replicate 1 (zero ab)) 0 (el ab v5 v7)))])))) (af.req (jk ab w2_1 []) (af.ret (K.val (Ty.pair (Ty.slc ab) Ty.unit) ([], PUnit.unit))))
theorem fJ (w2_1 : den (Ty.fn (Ty.pair ab (Ty.pair ab Ty.unit)) (Ty.pair ae Ty.unit))) (v5 : den (Ty.slc ab)) (v6 : den ae) (v7 : den ae) : ai cE gc 5000 (gk w2_1 v5 v6 v7) cm (lp bj 1) (gn w2_1 v5 v6 v7) = gi w2_1 v5 v6 v7 := by kernel_rfl
noncomputable def c6 (w2_1 : den (Ty.fn (Ty.pair ab (Ty.pair ab Ty.unit)) (Ty.pair ae Ty.unit))) (v5 : den (Ty.slc ab)) (v6 : den ae) (v7 : den ae) (b2 : List (den ab)) : List bY := [{ fx := cD, todo := cx ax 3, dst := none, s := ofS [(2, K.ptr (0 + 1) (Ty.slc ab) [])], rng := some 0 }, { fx := cR, todo := bC cC 1 1, dst := some 4, s := ofS [] }, { fx := bV, todo := bC bN 1 1, dst := some 7, s := ofS [(1, K.val (Ty.fn (Ty.pair ab (Ty.pair ab Ty.unit)) (Ty.pair ae Ty.unit)) w2_1)] }]
noncomputable def c5 (w2_1 : den (Ty.fn (Ty.pair ab (Ty.pair ab Ty.unit)) (Ty.pair ae Ty.unit))) (v5 : den (Ty.slc ab)) (v6 : den ae) (v7 : den ae) (b2 : List (den ab)) : Env := Env.of [(0, K.yld 0), (5, K.val (Ty.slc ab) v5), (6, K.val ae v6), (7, K.val ae v7)] [(0, Bx.lop LoopState.ready none [(2, K.ptr (0 + 1) (Ty.slc ab) [])] 13 (kP ax 3) (du ax 3) (ft ax 3)), (1, Bx.obj (Ty.slc ab) (K.sl (0 + 1 + 1) ab)), (2, Bx.row ab b2)]
noncomputable def fU (w2_1 : den (Ty.fn (Ty.pair ab (Ty.pair ab Ty.unit)) (Ty.pair ae Ty.unit))) (v5 : den (Ty.slc ab)) (v6 : den ae) (v7 : den ae) (b2 : List (den ab)) : af := af.ite (decide (v7 < v6)) (af.req (inB v7 (lnx ab v5)) (af.req (List.length (b2 ++ List.set (List.replicate 1 (zero ab)) 0 (el ab v5 v7)) ≤ bH) (af.ite (!true) (af.req (jk ab w2_1 (b2 ++ List.set (List.replicate 1 (zero ab)) 0 (el ab v5 v7))) (af.ret (K.val (Ty.pair (Ty.slc ab) Ty.unit) (fL ab w2_1 (b2 ++ List.set (List.replicate 1 (zero ab)) 0 (el ab v5 v7)), PUnit.unit)))) (af.loop [{ fx := cD, todo := cx ax 3, dst := none, s := ofS [(2, K.ptr (0 + 1) (Ty.slc ab) [])], rng := some 0 }, { fx := cR, todo := bC cC 1 1, dst := some 4, s := ofS [] }, { fx := bV, todo := bC bN 1 1, dst := some 7, s := ofS [(1, K.val (Ty.fn (Ty.pair ab (Ty.pair ab Ty.unit)) (Ty.pair ae Ty.unit)) w2_1)] }] cm (lp bj 1) [(0, K.yld 0), (5, K.val (Ty.slc ab) v5), (6, K.val ae v6), (7, K.val ae (IntKind.wrap IntKind.i64 (v7 + 1)))] [(0, Bx.lop LoopState.ready none [(2, K.ptr (0 + 1) (Ty.slc ab) [])] 13 (kP ax 3) (du ax 3) (ft ax 3)), (0 + 1, Bx.obj (Ty.slc ab) (K.sl (0 + 1 + 1) ab)), (0 + 1 + 1, Bx.row ab (b2 ++ List.set (List.replicate 1 (zero ab)) 0 (el ab v5 v7)))])))) (af.req (jk ab w2_1 b2) (af.ret (K.val (Ty.pair (Ty.slc ab) Ty.unit) (fL ab w2_1 b2, PUnit.unit))))
theorem cK (w2_1 : den (Ty.fn (Ty.pair ab (Ty.pair ab Ty.unit)) (Ty.pair ae Ty.unit))) (v5 : den (Ty.slc ab)) (v6 : den ae) (v7 : den ae) (b2 : List (den ab)) : ai cE gc 5000 (c6 w2_1 v5 v6 v7 b2) cm (lp bj 1) (c5 w2_1 v5 v6 v7 b2) = fU w2_1 v5 v6 v7 b2 := by kernel_rfl
end Go.Proofs.Ytimdnodkabnbfaa
namespace Go.Proofs.Ytimdnodkabnbfaa
open Go Go.RowKit
theorem je : ak prog [] cr cq :=
 bq (S := cq) (pH li) (fx := iX) oR (by kernel_rfl) (fun h => by cases h) (T := fun x => jp x.1 x.2.1) (fun x => nW x.1 x.2.1) fun O w0 x _ hp =>
  ⟨hp, _, rfl, by show (decide (0 ≤ ixP (prM x.2.1) x.1 0), ()) = (x.1.any (prM x.2.1), ()); rw [Q5]⟩
theorem mP : ak prog [] dp dn :=
 bq (S := dn) vG (fx := mB) uj (by kernel_rfl) (fun h => by cases h) (T := fun x => mJ x.1) (fun x => sf x.1) fun O w0 x _ _ => ⟨_, rfl, rfl⟩
theorem B1 : ak prog [] kC kD :=
 bq (S := kD) (KO HS) (fx := AE) JG (by kernel_rfl) (fun _ _ => trivial) (T := fun x => Cq x.1) (fun x => FU x.1) fun O w0 x _ _ => ⟨fun _ => trivial, _, rfl, rfl⟩
theorem zt : ak prog [] uK uI :=
 bq (S := uI) (Og Hc NR BN) (fx := Fb) NC (by kernel_rfl) (fun _ _ => trivial) (T := fun x => Hp x.1 x.2.1) (fun x => J3 x.1 x.2.1) fun O w0 x hk _ => by
  obtain ⟨a, b, ⟨⟩⟩ := x
  obtain ⟨la, ba⟩ := fR hk.1
  obtain ⟨lb, bb⟩ := fR hk.2.1
  refine ⟨trivial, trivial, rfl, trivial, _, rfl, ?_⟩
  show (i8 (i8 b (fI a)) pw0, ()) = (a7 a b, ())
  have h1 := (NP ba).2
  rw [la] at h1
  have ra := k9 ⟨la, ba⟩
  have rb := k9 ⟨lb, bb⟩
  have e1 : vB (i8 b (fI a)) = (vB b + (co - 1 - vB a)) % co := by
   unfold i8
   rw [h1]
   exact (tK 32 (Int.emod_nonneg _ (by decide)) (Int.emod_lt_of_pos _ (by decide))).2
  unfold i8 a7
  have e2 : vB (toB 32 ((vB b + vB (fI a)) % co)) = (vB b + (co - 1 - vB a)) % co := e1
  rw [e2, O5]
  have e3 : ((vB b + (co - 1 - vB a)) % co + 1) % co = (vB b - vB a) % co := by
   rw [Int.emod_add_emod, show vB b + (co - 1 - vB a) + 1 = vB b - vB a + co by omega, Int.add_emod_right]
  rw [e3]
abbrev GRi (O : Nat → Prop) (w0 : World) (y : Bool) := bv prog lF (Cx.base O w0) (bR prog O w0 qP fun z => z = (y, ()))
theorem qJ : XOk prog lF := Kv je GI
theorem zV (pre : List Mem) (m : Mem) (l : List Mem) : tz pre (m :: l) = ((!(pre.any fun x => gd x m)) && decide (0 ≤ m.1) && decide (m.1 < 16) && tz (pre ++ [m]) l) := rfl
theorem xM {e : Ty} (xs : List (den e)) (i : Nat) : eK e xs 0 (i : Nat) = xs.take i := by
 unfold eK jS
 rw [Int.toNat_natCast]
 exact List.drop_zero
def Ii (O : Nat → Prop) (w0 : World) (l : List Mem) (hm : l.length ≤ maxLen) :=
 PLift.up <| bl (σ := Unit) l.length (fun i _ => tz (l.take i) (l.drop i) = tz [] l)
  (fun i _ => GRi O w0 (bf l) [] ip (lp gG 2) (xp l l (lnx ab l) (i : Nat)))
  (fun i _ hi hs ih => au qJ (qF l l _ _) (by
   rw [List.drop_eq_getElem_cons hi, zV, ← List.take_succ_eq_append_getElem hi] at hs
   have hi' : i ≤ l.length := Nat.le_of_lt hi
   refine ⟨fun _ => ⟨aU hi, ⟨Int.le_refl _, Int.natCast_nonneg _, Int.ofNat_le.2 hi'⟩, fun _ => trivial, ⟨_, rfl⟩, ?_⟩, fun hc => absurd hi (by rw [bO] at hc; exact of_decide_eq_false hc)⟩
   rw [bD hi, bK hi hm, xM]
   have e1 : ∀ xs : List Mem, (xs.any (prM (some fun y => (gd y.1 l[i], PUnit.unit)))) = xs.any fun x => gd x l[i] := fun xs => rfl
   refine ⟨fun hc => ⟨_, rfl, ?_⟩, fun hc => ih () ?_⟩
   ·rw [e1] at hc
    show (false, ()) = (bf l, ())
    have : tz [] l = false := by
     rw [← hs]
     cases h1 : (l.take i).any (fun x => gd x l[i]) with
     | true => rfl
     | false =>
      rw [h1] at hc
      by_cases h2 : (l[i].1 : Int) < 0
      ·rw [decide_eq_false (show ¬ (0 : Int) ≤ l[i].1 from fun h => absurd h2 (Int.not_lt.2 h))]; rfl
      ·rw [decide_eq_false h2] at hc
       have h3 : (16 : Int) ≤ l[i].1 := of_decide_eq_true hc
       rw [decide_eq_false (show ¬ (l[i].1 : Int) < 16 from Int.not_lt.2 h3)]
       cases decide (0 ≤ l[i].1) <;> rfl
    unfold bf
    rw [this]
    rfl
   ·rw [e1] at hc
    rw [← hs]
    cases h1 : (l.take i).any (fun x => gd x l[i]) with
    | true => rw [h1] at hc; cases hc
    | false =>
     rw [h1] at hc
     by_cases h2 : (l[i].1 : Int) < 0
     ·rw [decide_eq_true h2] at hc; cases hc
     ·rw [decide_eq_false h2] at hc
      have h3 : ¬ (16 : Int) ≤ l[i].1 := of_decide_eq_false hc
      rw [decide_eq_true (show (0 : Int) ≤ l[i].1 from Int.not_lt.1 h2), decide_eq_true (show (l[i].1 : Int) < 16 from Int.not_le.1 h3)]
      rfl))
  (fun _ hs => au qJ (qF l l _ _) (by
   refine ⟨fun hc => absurd (of_decide_eq_true hc) (Int.lt_irrefl _), fun _ => ⟨_, rfl, ?_⟩⟩
   rw [List.drop_length] at hs
   show (decide ((l.length : Int) ≤ 16), ()) = (bf l, ())
   unfold bf
   rw [← hs]
   have : decide ((l.length : Int) ≤ 16) = decide (l.length ≤ 16) := decide_eq_decide.2 (by omega)
   rw [this]
   rfl))
theorem tH : ak prog [] fT fQ :=
 bq (S := fQ) qJ (fx := ip) HM (by kernel_rfl) (fun _ _ => trivial) (T := fun x => Ag x.1) (fun x => EV x.1) fun O w0 x hk _ =>
  (Ii O w0 x.1 hk.1.1).down 0 () (Nat.zero_le _) rfl
abbrev GR7 (O : Nat → Prop) (w0 : World) (y : Bool) := bv prog mU (Cx.base O w0) (bR prog O w0 tt fun z => z = (y, ()))
def HE (O : Nat → Prop) (w0 : World) (l : List Mem) (hm : l.length ≤ maxLen) (i : Nat) (hi : i < l.length) (hfalse : ((l.take i).any fun x => gd x l[i]) = true → bf l = false)
    (hnext : ((l.take i).any fun x => gd x l[i]) = false → GR7 O w0 (bf l) [] dF (lp dK 2) (qY l l (lnx ab l) ((i + 1 : Nat) : Int))) :=
  PLift.up <| bl (σ := Unit) (l.take i).length (fun j _ => ((l.take i).take j).any (fun x => gd x l[i]) = false)
    (fun j _ => GR7 O w0 (bf l) [] dF (lp dK 7) (yB l l (lnx ab l) (i : Nat) (l.take i) (lnx ab (l.take i)) (j : Nat) l[i]))
    (fun j _ hj hs ih => au m4 (rN l l _ _ (l.take i) _ _ l[i]) (by
      have hmj : (l.take i).length ≤ maxLen := Nat.le_trans (by rw [List.length_take]; omega) hm
      refine ⟨fun _ => ⟨aU hj, ?_⟩, fun hc => absurd hj (by rw [bO] at hc; exact of_decide_eq_false hc)⟩
      rw [bD hj, bK hj hmj]
      refine ⟨fun hc => ⟨_, rfl, ?_⟩, fun hc => ih () ?_⟩
      · have hc : gd (l.take i)[j] l[i] = true := hc
        rw [hfalse (List.any_eq_true.2 ⟨_, List.getElem_mem hj, hc⟩)]
      · have hc : gd (l.take i)[j] l[i] = false := hc
        rw [List.take_succ_eq_append_getElem hj, List.any_append, hs, Bool.false_or, List.any_cons, hc]
        rfl))
    (fun _ hs => au m4 (rN l l _ _ (l.take i) _ _ l[i]) (by
      rw [List.take_length] at hs
      refine ⟨fun hc => absurd (of_decide_eq_true hc) (Int.lt_irrefl _), fun _ => ?_⟩
      rw [bK hi hm]
      exact hnext hs))
def Jw (O : Nat → Prop) (w0 : World) (l : List Mem) (hm : l.length ≤ maxLen) :=
  PLift.up <| bl (σ := Unit) l.length (fun i _ => tz (l.take i) (l.drop i) = tz [] l)
    (fun i _ => GR7 O w0 (bf l) [] dF (lp dK 2) (qY l l (lnx ab l) (i : Nat)))
    (fun i _ hi hs ih => au m4 (rJ l l _ _) (by
      rw [List.drop_eq_getElem_cons hi, zV, ← List.take_succ_eq_append_getElem hi] at hs
      have hi' : i ≤ l.length := Nat.le_of_lt hi
      refine ⟨fun _ => ⟨aU hi, ?_⟩, fun hc => absurd hi (by rw [bO] at hc; exact of_decide_eq_false hc)⟩
      rw [bD hi, xM]
      refine ⟨fun hc => ⟨_, rfl, ?_⟩, fun hc => ⟨⟨Int.le_refl _, Int.natCast_nonneg _, Int.ofNat_le.2 hi'⟩, ?_⟩⟩
      · show (false, ()) = (bf l, ())
        have : tz [] l = false := by
          rw [← hs]
          by_cases h2 : (l[i].1 : Int) < 0
          · rw [decide_eq_false (show ¬ (0 : Int) ≤ l[i].1 from fun h => absurd h2 (Int.not_lt.2 h))]
            cases (l.take i).any (fun x => gd x l[i]) <;> rfl
          · rw [decide_eq_false h2] at hc
            have h3 : (15 : Int) < l[i].1 := of_decide_eq_true hc
            rw [decide_eq_false (show ¬ (l[i].1 : Int) < 16 from Int.not_lt.2 h3)]
            cases (l.take i).any (fun x => gd x l[i]) <;> cases decide (0 ≤ l[i].1) <;> rfl
        unfold bf
        rw [this]
        rfl
      · have hok : decide (0 ≤ l[i].1) = true ∧ decide (l[i].1 < 16) = true := by
          by_cases h2 : (l[i].1 : Int) < 0
          · rw [decide_eq_true h2] at hc; cases hc
          · rw [decide_eq_false h2] at hc
            have h3 : ¬ (15 : Int) < l[i].1 := of_decide_eq_false hc
            exact ⟨decide_eq_true (show (0 : Int) ≤ l[i].1 from Int.not_lt.1 h2), decide_eq_true (show (l[i].1 : Int) < 16 from Int.lt_of_not_ge h3)⟩
        rw [hok.1, hok.2] at hs
        refine (HE O w0 l hm i hi (fun h => ?_) (fun h => ih () ?_)).down 0 () (Nat.zero_le _) rfl
        · rw [h] at hs
          unfold bf
          rw [← hs]
          rfl
        · rw [h] at hs
          exact hs))
    (fun _ hs => au m4 (rJ l l _ _) (by
      refine ⟨fun hc => absurd (of_decide_eq_true hc) (Int.lt_irrefl _), fun _ => ⟨_, rfl, ?_⟩⟩
      rw [List.drop_length] at hs
      show (decide ((l.length : Int) ≤ 16), ()) = (bf l, ())
      unfold bf
      rw [← hs]
      have : decide ((l.length : Int) ≤ 16) = decide (l.length ≤ 16) := decide_eq_decide.2 (by omega)
      rw [this]
      rfl))
theorem KX : ak prog [] p0 p9 :=
 bq (S := p9) m4 (fx := dF) JH (by kernel_rfl) (fun _ _ => trivial) (T := fun x => Cw x.1) (fun x => Ft x.1) fun O w0 x hk _ =>
  (Jw O w0 x.1 hk.1.1).down 0 () (Nat.zero_le _) rfl
theorem CY (b : List Mem) (x : Mem) : b ++ List.set (List.replicate 1 (zero ab)) 0 x = b ++ [x] := rfl
abbrev GSo (O : Nat → Prop) (w0 : World) (y : List Mem) := bv prog cE (Cx.base O w0) (bR prog O w0 fM fun z => z = (y, ()))
theorem nm : XOk prog cE := rh qZ
def HF (O : Nat → Prop) (w0 : World) (xs : List Mem) (f : den (u9 ab)) (hp : jk ab f xs) :=
 PLift.up <| bl (σ := List Mem) xs.length (fun i b => b = xs.take i)
  (fun i b => GSo O w0 (fL ab f xs) (c6 f xs (lnx ab xs) (i : Nat) b) cm (lp bj 1) (c5 f xs (lnx ab xs) (i : Nat) b))
  (fun i b hi hb ih => au nm (cK f xs _ _ b) (by
   have hlen := hp.len
   refine ⟨fun _ => ⟨aU hi, ?_⟩, fun hc => absurd hi (by rw [bO] at hc; exact of_decide_eq_false hc)⟩
   rw [bD hi, bK hi (by omega), CY, hb, ← List.take_succ_eq_append_getElem hi]
   have hl : (xs.take (i + 1)).length ≤ 1000000 := by rw [List.length_take]; omega
   refine ⟨Nat.le_trans hl (by decide), (fun hc => by cases hc), fun _ => ih _ rfl⟩))
  (fun b hb => au nm (cK f xs _ _ b) (by
   rw [List.take_length] at hb
   subst hb
   exact ⟨fun hc => absurd (of_decide_eq_true hc) (Int.lt_irrefl _), fun _ => ⟨hp, _, rfl, rfl⟩⟩))
theorem rq : ak prog [] d7 d5 :=
 bq (S := d5) nm (fx := bV) qB (by kernel_rfl) (fun h => by cases h) (T := fun x => kd x.1 x.2.1) (fun x => oS x.1 x.2.1) fun O w0 x _ hp => by
  obtain ⟨⟨xs, ⟨⟩⟩, f, ⟨⟩⟩ := x
  have hp : jk ab f xs := hp
  have hlen := hp.len
  refine au nm (fJ f xs (lnx ab xs) 0) ?_
  refine ⟨fun hc => ?_, fun hc => ?_⟩
  ·have h0 : 0 < xs.length := Int.ofNat_lt.1 (of_decide_eq_true hc)
   refine ⟨aU (i := 0) h0, ?_⟩
   rw [show (0 : Int) = ((0 : Nat) : Int) from rfl, bD h0, bK h0 (by omega)]
   refine ⟨show 1 ≤ bH by decide, (fun hc => by cases hc), fun _ => ?_⟩
   refine (HF O w0 xs f hp).down 1 _ h0 ?_
   rw [List.take_succ_eq_append_getElem h0]
   rfl
  ·have h0 : xs = [] := List.eq_nil_of_length_eq_zero (by have := of_decide_eq_false hc; have h2 : ¬ (0 : Int) < (xs.length : Int) := this; omega)
   subst h0
   refine ⟨hp, _, rfl, ?_⟩
   show (([] : List Mem), ()) = (List.mergeSort [] _, ())
   rw [List.mergeSort_nil]
end Go.Proofs.Ytimdnodkabnbfaa
namespace Go.Proofs.Ytimdnodkabnbfaa
open Go Go.RowKit
abbrev qM (m : Mem) : Int := vB m.2.1
abbrev OkM (l : List Mem) : Prop := ∀ m ∈ l, okT ab m
theorem ir {m : Mem} (h : okT ab m) : oB m.2.1 := Ms h.2.1
theorem Hg : ∀ (l pre : List Mem), tz pre l = true → (∀ m ∈ l, 0 ≤ (m.1 : Int) ∧ (m.1 : Int) < 16) ∧ (∀ m ∈ l, ∀ x ∈ pre, gd x m = false) ∧ l.Pairwise fun x m => gd x m = false
 | [], _, _ => ⟨fun _ h => (by cases h), fun _ h => (by cases h), List.Pairwise.nil⟩
 | m :: l, pre, h => by
  rw [zV] at h
  simp only [Bool.and_eq_true, Bool.not_eq_true', decide_eq_true_eq] at h
  obtain ⟨⟨⟨h1, h2⟩, h3⟩, h4⟩ := h
  obtain ⟨i1, i2, i3⟩ := Hg l (pre ++ [m]) h4
  have h1 : ∀ x ∈ pre, gd x m = false := fun x hx => by
   have := List.any_eq_false.1 h1 x hx
   simpa using this
  refine ⟨fun z hz => ?_, fun z hz x hx => ?_, List.pairwise_cons.2 ⟨fun z hz => i2 z hz m (List.mem_append.2 (.inr List.mem_cons_self)), i3⟩⟩
  ·rcases List.mem_cons.1 hz with rfl | hz
   ·exact ⟨h2, h3⟩
   ·exact i1 z hz
  ·rcases List.mem_cons.1 hz with rfl | hz
   ·exact h1 x hx
   ·exact i2 z hz x (List.mem_append.2 (.inl hx))
theorem GE {x m : Mem} (h : x.1 = m.1) : gd x m = true := by unfold gd; rw [decide_eq_true h]; rfl
theorem L4 {x m : Mem} (h : x.2.1 = m.2.1) : gd x m = true := by
 unfold gd
 have : eqb tId x.2.1 m.2.1 = true := (nS (t := tId) rfl _ _).2 h
 rw [this]
 cases decide (x.1 = m.1) <;> rfl
structure RR (l : List Mem) : Prop where
 len : l.length ≤ 16
 no : ∀ m ∈ l, 0 ≤ (m.1 : Int) ∧ (m.1 : Int) < 16
 pw : l.Pairwise fun x m => gd x m = false
theorem r7 {l : List Mem} (h : bf l = true) : RR l := by
 unfold bf at h
 simp only [Bool.and_eq_true, decide_eq_true_eq] at h
 obtain ⟨h1, h2⟩ := h
 obtain ⟨i1, _, i3⟩ := Hg l [] h1
 exact ⟨h2, i1, i3⟩
theorem RR.at {l : List Mem} (h : RR l) {i j : Nat} (hij : i < j) (hj : j < l.length) : gd l[i] l[j] = false := List.pairwise_iff_getElem.1 h.pw i j (by omega) hj hij
theorem RR.inj {l : List Mem} (h : RR l) {x y : Mem} (hx : x ∈ l) (hy : y ∈ l) (e : x.1 = y.1 ∨ x.2.1 = y.2.1) : x = y := by
 obtain ⟨i, hi, rfl⟩ := List.getElem_of_mem hx
 obtain ⟨j, hj, rfl⟩ := List.getElem_of_mem hy
 rcases Nat.lt_trichotomy i j with h1 | h1 | h1
 ·have := h.at h1 hj
  rcases e with e | e
  ·rw [GE e] at this; cases this
  ·rw [L4 e] at this; cases this
 ·subst h1; rfl
 ·have := h.at h1 hi
  rcases e with e | e
  ·rw [GE e.symm] at this; cases this
  ·rw [L4 e.symm] at this; cases this
theorem RR.nodup {l : List Mem} (h : RR l) : l.Nodup := List.Pairwise.imp (fun {x m} hf e => by rw [e, GE rfl] at hf; cases hf) h.pw
theorem RR.rng {l : List Mem} (h : RR l) (hk : OkM l) : M2 qM co l :=
 ⟨fun m hm => k9 (ir (hk m hm)), fun x hx y hy e => h.inj hx hy (.inr (I9 (by rw [(ir (hk x hx)).1, (ir (hk y hy)).1]) (ir (hk x hx)).2 (ir (hk y hy)).2 e))⟩
theorem sH {a b : List Int} (ha : oB a) (hb : oB b) : vB (a7 a b) = rky co (vB a) (vB b) := Ec ha hb
theorem Q9 (id : List Int) (x y : Mem) : cfD ab (cP id) x y = dS (a7 id x.2.1) (a7 id y.2.1) := rfl
theorem wS (id : List Int) (x y : Mem) : ltD ab (cP id) x y = decide (vB (a7 id x.2.1) < vB (a7 id y.2.1)) := by
 unfold ltD
 rw [Q9]
 exact decide_eq_decide.2 D5
theorem PL {l : List Mem} (h : RR l) (hk : OkM l) {id : List Int} (hid : oB id) : jk ab (cP id) l := by
 refine ⟨⟨_, rfl⟩, ⟨fun x => ?_, fun x y z h1 h2 => ?_, fun x y z h1 h2 => ?_⟩, fun x hx y hy h1 h2 => ?_, Nat.le_trans h.len (by decide)⟩
 ·rw [wS]; exact decide_eq_false (Int.lt_irrefl _)
 ·rw [wS] at *; exact decide_eq_true (Int.lt_trans (of_decide_eq_true h1) (of_decide_eq_true h2))
 ·rw [wS] at *
  have h1 := of_decide_eq_false h1
  have h2 := of_decide_eq_false h2
  exact decide_eq_false (by omega)
 ·rw [wS] at *
  have h1 := of_decide_eq_false h1
  have h2 := of_decide_eq_false h2
  have e : vB (a7 id x.2.1) = vB (a7 id y.2.1) := by omega
  rw [sH hid (ir (hk x hx)), sH hid (ir (hk y hy))] at e
  exact (h.rng hk).inj x hx y hy (Jf (k9 hid) ((h.rng hk).in' x hx) ((h.rng hk).in' y hy) e)
theorem PE {l : List Mem} (h : RR l) (hk : OkM l) {id : List Int} (hid : oB id) : nu qM co (vB id) l (fL ab (cP id) l) ∧ (fL ab (cP id) l).length = l.length := by
 have hl : (fL ab (cP id) l).length = l.length := List.length_mergeSort ..
 have hmem : ∀ x, x ∈ fL ab (cP id) l ↔ x ∈ l := fun x => List.mem_mergeSort
 refine ⟨⟨hmem, ?_⟩, hl⟩
 have hle : ∀ x y : Mem, (!ltD ab (cP id) y x) = true ↔ vB (a7 id x.2.1) ≤ vB (a7 id y.2.1) := fun x y => by
  rw [wS, Bool.not_eq_true', decide_eq_false_iff_not]
  omega
 have hs := List.pairwise_mergeSort (le := fun x y => !ltD ab (cP id) y x) (fun a b c h1 h2 => (hle a c).2 (Int.le_trans ((hle a b).1 h1) ((hle b c).1 h2))) (fun a b => by
  rw [Bool.or_eq_true, hle, hle]
  exact Int.le_total _ _) l
 have hnd : (fL ab (cP id) l).Nodup := (List.mergeSort_perm l _).nodup_iff.2 h.nodup
 refine List.pairwise_iff_getElem.2 fun i j hi hj hij => ?_
 have h1 := (hle _ _).1 (List.pairwise_iff_getElem.1 hs i j hi hj hij)
 have mi := (hmem _).1 (List.getElem_mem hi)
 have mj := (hmem _).1 (List.getElem_mem hj)
 have k1 := sH hid (ir (hk _ mi))
 have k2 := sH hid (ir (hk _ mj))
 show rky co (vB id) (vB (fL ab (cP id) l)[i].2.1) < rky co (vB id) (vB (fL ab (cP id) l)[j].2.1)
 rw [← k1, ← k2]
 refine Int.lt_iff_le_and_ne.2 ⟨h1, fun e => ?_⟩
 rw [k1, k2] at e
 have := (h.rng hk).inj _ mi _ mj (Jf (k9 hid) ((h.rng hk).in' _ mi) ((h.rng hk).in' _ mj) e)
 exact List.pairwise_iff_getElem.1 hnd i j hi hj hij this
theorem I1 : ak prog [] ou lz :=
 bq (S := lz) (Jy tH B1 ug) (fx := ym) HT (by kernel_rfl) (fun _ _ => trivial) (T := fun x => AI x.1 x.2.1) (fun x => D7 x.1 x.2.1) fun O w0 x _ _ => by
  obtain ⟨l, id, ⟨⟩⟩ := x
  have leaf : ∀ {p : Mem × Int}, cI l id = p → ∃ z, bu rF (K.val (Ty.pair ab (Ty.pair ae Ty.unit)) (p.1, p.2, ())) = some z ∧ z = lz.g (l, id, ()) := fun {p} e =>
   ⟨_, rfl, by show (p.1, p.2, ()) = ((cI l id).1, (cI l id).2, ()); rw [e]⟩
  refine ⟨trivial, fun h => leaf (p := (_, _)) ?_, fun h => ⟨fun h2 => leaf (p := (_, _)) ?_, fun h2 => ⟨trivial, ⟨⟨_, rfl⟩, ?_⟩, leaf (p := (_, _)) ?_⟩⟩⟩
  ·unfold cI; rw [h]; rfl
  ·unfold cI; rw [h, h2]; rfl
  ·have h2 : ¬ ((List.length l : Nat) : Int) = 0 := of_decide_eq_false h2
   exact Nat.pos_of_ne_zero fun e => h2 (by rw [e]; rfl)
  ·unfold cI; rw [h, h2]; rfl
theorem DD {l : List Mem} {no : Int} (h : ¬ mE l no < 0) : ∃ k : Nat, ∃ hk : k < l.length, mE l no = (k : Int) ∧ l[k].1 = no := by
 have ha : l.any (fun m => decide (m.1 = no)) = true := by
  cases e : l.any (fun m => decide (m.1 = no)) with
  | true => rfl
  | false => exact absurd (by unfold mE; rw [(uR _ l 0 (Int.le_refl _)).2 e]; decide) h
 obtain ⟨k, hk, e1, e2⟩ := O6 _ l 0 ha
 exact ⟨k, hk, by unfold mE; rw [e1]; omega, of_decide_eq_true e2⟩
theorem qU : ak prog [] na j8 :=
 bq (S := j8) (Ie tH li D2 mP B1 rq) (fx := wP) FQ (by kernel_rfl) (fun _ _ => trivial) (T := fun x => yI x.1 x.2.1) (fun x => Dg x.1 x.2.1) fun O w0 x hk _ => by
  obtain ⟨l, no, ⟨⟩⟩ := x
  have leaf : ∀ {p : List Mem × Int}, cg l no = p → ∃ z, bu pE (K.val (Ty.pair (Ty.slc ab) (Ty.pair ae Ty.unit)) (p.1, p.2, ())) = some z ∧ z = j8.g (l, no, ()) := fun {p} e =>
   ⟨_, rfl, by show (p.1, p.2, ()) = ((cg l no).1, (cg l no).2, ()); rw [e]⟩
  refine ⟨trivial, fun h => leaf (p := (_, _)) ?_, fun h => ⟨fun _ => trivial, ⟨_, rfl⟩, fun h2 => leaf (p := (_, _)) ?_, fun h2 => ?_⟩⟩
  ·unfold cg; rw [h]; rfl
  ·have h2 : decide (mE l no < 0) = true := h2
   unfold cg; rw [h, h2]; rfl
  ·have h2 : decide (mE l no < 0) = false := h2
   obtain ⟨k, hkl, e1, e2⟩ := DD (of_decide_eq_false h2)
   have hin : inB (mE l no) (lnx ab l) := by rw [e1]; exact aU hkl
   have hel : el ab l (mE l no) = l[k] := by rw [e1]; exact bD hkl
   refine ⟨trivial, hin, trivial, ?_, leaf (p := (_, _)) ?_⟩
   ·show jk ab (cP (el ab l (mE l no)).2.1) l
    rw [hel]
    exact PL (r7 (by simpa using h)) hk.1.2 (ir (hk.1.2 _ (List.getElem_mem hkl)))
   ·unfold cg; rw [h, h2]; rfl
theorem M4 {l : List Mem} {no : Int} (h : (cg l no).2 = 0) : (cg l no).1.length = l.length ∧ 0 < l.length ∧ bf l = true ∧ ¬ mE l no < 0 := by
 unfold cg at h ⊢
 cases hr : bf l with
 | false => rw [hr] at h; cases h
 | true =>
  rw [hr] at h
  by_cases h2 : mE l no < 0
  ·rw [decide_eq_true h2] at h; cases h
  ·rw [decide_eq_false h2]
   obtain ⟨k, hk, _⟩ := DD h2
   exact ⟨List.length_mergeSort .., by omega, rfl, h2⟩
abbrev GAf (O : Nat → Prop) (w0 : World) (y : List Mem) := bv prog oE (Cx.base O w0) (bR prog O w0 kf fun z => z = (y, 0, ()))
def HU (O : Nat → Prop) (w0 : World) (all : List Mem) (n : Nat) (h0 : 0 < all.length) (hl : all.length ≤ 1000000) (hn : n ≤ 16) :=
 PLift.up <| bl (σ := List Mem) n (fun i b => b = oJ all i ∧ b.length = i)
  (fun i b => GAf O w0 (oJ all n) [] ie (lp gM 8) (xu all (n : Int) (i : Nat) b))
  (fun i b hi hb ih => au (tn qU) (qv all _ _ b) (by
   obtain ⟨h1, h2⟩ := hb
   have hlen : lnx ab all = (all.length : Int) := rfl
   have e1 : IntKind.wrap .i64 ((i : Int) + 1) = (i : Int) + 1 := bE (by omega)
   have hm : 0 ≤ Int.tmod ((i : Int) + 1) all.length ∧ Int.tmod ((i : Int) + 1) all.length < all.length := ⟨Int.tmod_nonneg _ (by omega), Int.tmod_lt_of_pos _ (by omega)⟩
   refine ⟨fun _ => ?_, fun hc => absurd (Int.ofNat_lt.2 hi) (of_decide_eq_false hc)⟩
   rw [e1, hlen, CY]
   refine ⟨(show (all.length : Int) ≠ 0 by omega), hm, ?_, ?_⟩
   ·rw [List.length_append, h2]
    exact show i + 1 ≤ 1073741824 by omega
   ·rw [show (i : Int) + 1 = ((i + 1 : Nat) : Int) by omega]
    refine ih _ ⟨?_, by rw [List.length_append, h2]; rfl⟩
    rw [h1]
    rfl))
  (fun b hb => au (tn qU) (qv all _ _ b) ⟨fun hc => absurd (of_decide_eq_true hc) (Int.lt_irrefl _), fun _ => ⟨_, rfl, by rw [hb.1]⟩⟩)
theorem I3 : ak prog [] n5 lx :=
 bq (S := lx) (tn qU) (fx := ie) Ic (by kernel_rfl) (fun _ _ => trivial) (T := fun x => zi x.1 x.2.1 x.2.2.1) (fun x => EW x.1 x.2.1 x.2.2.1) fun O w0 x hk _ => by
  obtain ⟨l, no, many, ⟨⟩⟩ := x
  have leaf : ∀ {p : List Mem × Int}, cU l no many = p → ∃ z, bu kf (K.val (Ty.pair (Ty.slc ab) (Ty.pair ae Ty.unit)) (p.1, p.2, ())) = some z ∧ z = lx.g (l, no, many, ()) := fun {p} e =>
   ⟨_, rfl, by show (p.1, p.2, ()) = ((cU l no many).1, (cU l no many).2, ()); rw [e]⟩
  refine ⟨fun h => leaf (p := (_, _)) ?_, fun h => ⟨trivial, bp ⟨fun h2 => leaf (p := (_, _)) ?_, fun h2 => ?_⟩⟩⟩
  ·unfold cU; rw [h]; rfl
  ·have h2 : (!decide ((cg l no).2 = 0)) = true := h2
   unfold cU; rw [h, h2]; rfl
  ·have h2 : (!decide ((cg l no).2 = 0)) = false := h2
   have h3 : (cg l no).2 = 0 := by simpa using h2
   obtain ⟨t1, t2, t3, _⟩ := M4 h3
   have hln := (r7 t3).len
   have hmany : 0 ≤ (many : Int) ∧ (many : Int) ≤ 16 := by
    by_cases h4 : many < (0 : Int)
    ·rw [decide_eq_true h4] at h; cases h
    ·rw [decide_eq_false h4] at h
     have h5 : ¬ (16 : Int) < many := of_decide_eq_false h
     exact ⟨Int.not_lt.1 h4, Int.not_lt.1 h5⟩
   obtain ⟨n, hn⟩ : ∃ n : Nat, (n : Int) = many := ⟨Int.toNat many, Int.toNat_of_nonneg hmany.1⟩
   subst hn
   have e : cU l no (n : Int) = (oJ (cg l no).1 n, 0) := by unfold cU; rw [h, h2]; rfl
   show bv _ _ _ (bR prog O w0 kf fun z => z = ((cU l no (n : Int)).1, (cU l no (n : Int)).2, ())) _ _ _ _
   rw [e]
   exact (HU O w0 (cg l no).1 n (by omega) (by omega) (Int.ofNat_le.1 hmany.2)).down 0 [] (Nat.zero_le _) ⟨rfl, rfl⟩
abbrev GOw (O : Nat → Prop) (w0 : World) (y : Mem) := bv prog p5 (Cx.base O w0) (bR prog O w0 sZ fun z => z = (y, ()))
def Jl (O : Nat → Prop) (w0 : World) (l : List Mem) (id : List Int) (z : Mem) (hm : l.length ≤ maxLen) :=
 PLift.up <| bl (σ := Mem) l.length (fun i b => b = (l.take i).foldl (oL id) noM)
  (fun i b => GOw O w0 (gE l id) [] gQ (lp gv 3) (yC l (lnx ab l) (i : Nat) id z b))
  (fun i b hi hb ih => au (wk zt rp) (rR l _ _ id z b) (by
   have hst : (l.take (i + 1)).foldl (oL id) noM = oL id b l[i] := by rw [List.take_succ_eq_append_getElem hi, List.foldl_append, ← hb]; rfl
   refine ⟨fun _ => ⟨aU hi, fun _ => trivial, fun _ => trivial, fun _ => trivial, ?_⟩, fun hc => absurd hi (by rw [bO] at hc; exact of_decide_eq_false hc)⟩
   rw [bD hi, bK hi hm]
   refine ⟨fun hc => ih _ ?_, fun hc => ih _ ?_⟩ <;> rw [hst] <;> unfold oL
   ·have hc : (bif decide (b.1 < 0) then true else decide (dS (a7 id l[i].2.1) (a7 id b.2.1) < 0)) = true := hc
    rw [hc]; rfl
   ·have hc : (bif decide (b.1 < 0) then true else decide (dS (a7 id l[i].2.1) (a7 id b.2.1) < 0)) = false := hc
    rw [hc]; rfl))
  (fun b hb => au (wk zt rp) (rR l _ _ id z b) ⟨fun hc => absurd (of_decide_eq_true hc) (Int.lt_irrefl _), fun _ => ⟨_, rfl, by rw [hb, List.take_length]; rfl⟩⟩)
theorem Cl : ak prog [] kE kp :=
 bq (S := kp) (wk zt rp) (fx := gQ) Jq (by kernel_rfl) (fun _ _ => trivial) (T := fun x => B6 x.1 x.2.1) (fun x => Gs x.1 x.2.1) fun O w0 x hk _ =>
  (Jl O w0 x.1 x.2.1 (zero ab) hk.1.1).down 0 _ (Nat.zero_le _) rfl
theorem rY : ak prog [] rU sg :=
 bq (S := sg) (NH Cl Hc BN) (fx := BO) LB (by kernel_rfl) (fun _ _ => trivial) (T := fun x => EU x.1 x.2.1) (fun x => HD x.1 x.2.1) fun O w0 x _ _ => ⟨rfl, trivial, trivial, _, rfl, rfl⟩
abbrev GA7 (O : Nat → Prop) (w0 : World) (y : List Mem) := bv prog p4 (Cx.base O w0) (bR prog O w0 oo fun z => z = (y, ()))
def I6 (O : Nat → Prop) (w0 : World) (l : List Mem) (m : Mem) (n : Nat) (hn : n ≤ 1000) :=
 PLift.up <| bl (σ := Mem × List Mem) n (fun i s => s = ((jU l m i).2, (jU l m i).1) ∧ s.2.length = i)
  (fun i s => GA7 O w0 (jU l m n).1 [] jg (lp iW 3) (yy l (n : Int) (i : Nat) s.1 s.2))
  (fun i s hi hs ih => au (qe rY) (mC l _ _ s.1 s.2) (by
   obtain ⟨h1, h2⟩ := hs
   refine ⟨fun _ => ⟨trivial, ?_⟩, fun hc => absurd (Int.ofNat_lt.2 hi) (of_decide_eq_false hc)⟩
   rw [bK hi (by omega), CY]
   refine ⟨by rw [List.length_append, h2]; exact show i + 1 ≤ 1073741824 by omega, ih (_, _) ⟨?_, by show (s.2 ++ [_]).length = _; rw [List.length_append, h2]; rfl⟩⟩
   rw [h1]
   rfl))
  (fun s hs => au (qe rY) (mC l _ _ s.1 s.2) ⟨fun hc => absurd (of_decide_eq_true hc) (Int.lt_irrefl _), fun _ => ⟨_, rfl, by rw [hs.1]⟩⟩)
theorem KH : ak prog [] pJ p6 :=
 bq (S := p6) (qe rY) (fx := jg) J2 (by kernel_rfl) (fun h => by cases h) (T := fun x => CC x.1 x.2.1 x.2.2.1) (fun x => Gd x.1 x.2.1 x.2.2.1) fun O w0 x _ hp => by
  obtain ⟨l, m, many, ⟨⟩⟩ := x
  have hp : (many : Int) ≤ 1000 := hp
  by_cases h0 : (0 : Int) ≤ many
  ·obtain ⟨n, hn⟩ : ∃ n : Nat, (n : Int) = many := ⟨Int.toNat many, Int.toNat_of_nonneg h0⟩
   subst hn
   exact (I6 O w0 l m n (Int.ofNat_le.1 hp)).down 0 (m, []) (Nat.zero_le _) ⟨rfl, rfl⟩
  ·have e : Int.toNat many = 0 := Int.toNat_eq_zero.2 (Int.le_of_lt (Int.not_le.1 h0))
   show bv _ _ _ (bR prog O w0 oo fun z => z = ((jU l m (Int.toNat many)).1, ())) _ _ _ _
   rw [e]
   exact au (qe rY) (mC l _ _ m []) ⟨fun hc => absurd (Int.le_of_lt (of_decide_eq_true hc)) h0, fun _ => ⟨_, rfl, rfl⟩⟩
end Go.Proofs.Ytimdnodkabnbfaa
namespace Go.Proofs.Ytimdnodkabnbfaa
open Go Go.RowKit
section
variable {l : List Mem}
theorem Pg (hk : OkM l) {id : List Int} (hid : oB id) {x : Mem} (hx : x ∈ l) (h : ∀ y ∈ l, vB (a7 id x.2.1) ≤ vB (a7 id y.2.1)) : kM qM co (vB id) l x :=
 ⟨hx, fun y hy => by
  have := h y hy
  rw [sH hid (ir (hk x hx)), sH hid (ir (hk y hy))] at this
  exact this⟩
theorem Kg (id : List Int) : ∀ (t : List Mem) (b : Mem), ye (cmM (cP id)) b t = lW (fun m => vB (a7 id m.2.1)) b t
 | [], _ => rfl
 | x :: t, b => by
  have e : (cmM (cP id) x b < 0) = (vB (a7 id x.2.1) < vB (a7 id b.2.1)) := propext (D5 (a := a7 id x.2.1) (b := a7 id b.2.1))
  show ye (cmM (cP id)) (if cmM (cP id) x b < 0 then x else b) t = lW (fun m => vB (a7 id m.2.1)) (if vB (a7 id x.2.1) < vB (a7 id b.2.1) then x else b) t
  simp only [e]
  exact Kg id t _
theorem yl {k : Mem → Int} {b : Mem} {t : List Mem} : lW k b t ∈ b :: t ∧ ∀ y ∈ b :: t, k (lW k b t) ≤ k y := by
 obtain ⟨h1, h2, h3⟩ := xY k t b
 refine ⟨h1, fun y hy => ?_⟩
 rcases List.mem_cons.1 hy with rfl | hy
 ·exact h2
 ·exact h3 y hy
theorem Nl (hr : bf l = true) (hk : OkM l) (h0 : 0 < l.length) {id : List Int} (hid : oB id) : ∃ o, cI l id = (o, 0) ∧ kM qM co (vB id) l o := by
 refine ⟨JP (cmM (cP id)) l, ?_, ?_⟩
 ·unfold cI
  rw [hr, decide_eq_false (show ¬ (lnx ab l = 0) from fun h => by have h : (l.length : Int) = 0 := h; omega)]
  rfl
 ·cases l with
  | nil => cases h0
  | cons b t =>
   show kM qM co (vB id) (b :: t) (ye (cmM (cP id)) b t)
   rw [Kg]
   exact Pg hk hid yl.1 yl.2
theorem GZ (id : List Int) : ∀ (t : List Mem) (b : Mem), 0 ≤ (b.1 : Int) → (∀ x ∈ t, 0 ≤ (x.1 : Int)) → t.foldl (oL id) b = lW (fun m => vB (a7 id m.2.1)) b t
 | [], _, _, _ => rfl
 | x :: t, b, hb, ht => by
  have hx := ht x List.mem_cons_self
  have e : oL id b x = if vB (a7 id x.2.1) < vB (a7 id b.2.1) then x else b := by
   unfold oL
   rw [decide_eq_false (Int.not_lt.2 hb), cond_false]
   by_cases h : vB (a7 id x.2.1) < vB (a7 id b.2.1)
   ·rw [decide_eq_true (D5.2 h), if_pos h]; rfl
   ·rw [decide_eq_false (fun h' => h (D5.1 h')), if_neg h]; rfl
  show t.foldl (oL id) (oL id b x) = lW (fun m => vB (a7 id m.2.1)) (if vB (a7 id x.2.1) < vB (a7 id b.2.1) then x else b) t
  rw [e]
  refine GZ id t _ ?_ fun y hy => ht y (List.mem_cons_of_mem _ hy)
  split
  ·exact hx
  ·exact hb
theorem zQ (hr : bf l = true) (hk : OkM l) (h0 : 0 < l.length) {id : List Int} (hid : oB id) : kM qM co (vB id) l (gE l id) := by
 have hno := (r7 hr).no
 cases l with
 | nil => cases h0
 | cons b t =>
  have e : gE (b :: t) id = lW (fun m => vB (a7 id m.2.1)) b t := by
   show t.foldl (oL id) (oL id noM b) = _
   have : oL id noM b = b := by unfold oL; rfl
   rw [this]
   exact GZ id t b (hno b List.mem_cons_self).1 fun x hx => (hno x (List.mem_cons_of_mem _ hx)).1
  rw [e]
  exact Pg hk hid yl.1 yl.2
theorem QA {a : List Int} (ha : oB a) : oB (i8 a pw0) ∧ vB (i8 a pw0) = rup co (vB a) := by
 have hr := k9 ha
 have hs := tK 32 (v := (vB a + vB pw0) % co) (Int.emod_nonneg _ (by decide)) (Int.emod_lt_of_pos _ (by decide))
 refine ⟨⟨r9 _ _, hs.1⟩, ?_⟩
 unfold i8
 rw [hs.2, O5]
 unfold rup
 split
 ·rename_i h; rw [h, Int.emod_self]
 ·exact Int.emod_eq_of_lt (by omega) (by omega)
theorem MV (hr : bf l = true) (hk : OkM l) {m : Mem} (hm : m ∈ l) : kM qM co (rup co (qM m)) l (ik l m) := by
 have h0 : 0 < l.length := List.length_pos_of_mem hm
 obtain ⟨a1, a2⟩ := QA (ir (hk m hm))
 have := zQ hr hk h0 a1
 rw [a2] at this
 exact this
theorem RH (hr : bf l = true) {m : Mem} (hm : m ∈ l) : ¬ mE l m.1 < 0 ∧ ∃ k : Nat, ∃ hk : k < l.length, mE l m.1 = (k : Int) ∧ l[k] = m := by
 have ha : l.any (fun x => decide (x.1 = m.1)) = true := List.any_eq_true.2 ⟨m, hm, decide_eq_true rfl⟩
 have h0 := (uR (fun x => decide (x.1 = m.1)) l 0 (Int.le_refl _)).1 ha
 have hn : ¬ mE l m.1 < 0 := Int.not_lt.2 h0.1
 obtain ⟨k, hk, e1, e2⟩ := DD hn
 exact ⟨hn, k, hk, e1, (r7 hr).inj (List.getElem_mem hk) hm (.inl e2)⟩
def srt (l : List Mem) (m : Mem) : List Mem := fL ab (cP m.2.1) l
theorem LR (hr : bf l = true) {m : Mem} (hm : m ∈ l) : cg l m.1 = (srt l m, 0) := by
 obtain ⟨h1, k, hk, e1, e2⟩ := RH hr hm
 unfold cg
 rw [hr, decide_eq_false h1, e1, bD hk, e2]
 rfl
theorem Kc (hr : bf l = true) (hk : OkM l) {m : Mem} (hm : m ∈ l) : nu qM co (qM m) l (srt l m) ∧ (srt l m).length = l.length := PE (r7 hr) hk (ir (hk m hm))
theorem PX (hr : bf l = true) (hk : OkM l) {m : Mem} (hm : m ∈ l) (h : 0 < (srt l m).length) : (srt l m)[0] = m := nu.self ((r7 hr).rng hk) hm (Kc hr hk hm).1 h
theorem Ny (hr : bf l = true) {m : Mem} (hm : m ∈ l) {n : Nat} (hn : n ≤ 16) : cU l m.1 (n : Int) = (oJ (srt l m) n, 0) := by
 unfold cU
 rw [LR hr hm, decide_eq_false (show ¬ ((n : Nat) : Int) < 0 by omega), decide_eq_false (show ¬ (16 : Int) < ((n : Nat) : Int) by omega)]
 rfl
theorem RD {s : List Mem} (h0 : 0 < s.length) (i : Nat) : el ab s (Int.tmod ((i : Int) + 1) s.length) = s[(i + 1) % s.length]'(Nat.mod_lt _ h0) := by
 have e : Int.tmod ((i : Int) + 1) s.length = (((i + 1) % s.length : Nat) : Int) := by
  rw [show (i : Int) + 1 = ((i + 1 : Nat) : Int) by omega]
  exact (Int.ofNat_tmod _ _).symm
 rw [e, bD (Nat.mod_lt _ h0)]
theorem QP (hr : bf l = true) (hk : OkM l) {a : Int} (ha : 0 ≤ a ∧ a < co) {s : List Mem} (hs : nu qM co a l s) {i : Nat} (hi : i < s.length) : ik l s[i] = s[(i + 1) % s.length]'(Nat.mod_lt _ (by omega)) := by
 have hm : s[i] ∈ l := (hs.mem _).1 (List.getElem_mem hi)
 have hrng := (r7 hr).rng hk
 exact kM.uniq hrng (OD (hrng.in' _ hm)) (MV hr hk hm) (hs.next hrng ha hi)
theorem EG (hr : bf l = true) (hk : OkM l) {a : Int} (ha : 0 ≤ a ∧ a < co) {s : List Mem} (hs : nu qM co a l s) (h0 : 0 < s.length) : ∀ i : Nat, jU l s[0] i = (oJ s i, s[i % s.length]'(Nat.mod_lt _ h0))
 | 0 => by
  show ([], s[0]) = ([], s[0 % s.length]'(Nat.mod_lt _ h0))
  simp only [Nat.zero_mod]
 | i + 1 => by
  have ih := EG hr hk ha hs h0 i
  have hn := QP hr hk ha hs (Nat.mod_lt i h0)
  have e : (i % s.length + 1) % s.length = (i + 1) % s.length := by rw [Nat.mod_add_mod]
  simp only [e] at hn
  show ((jU l s[0] i).1 ++ [ik l (jU l s[0] i).2], ik l (jU l s[0] i).2) = (oJ s i ++ [el ab s (Int.tmod ((i : Int) + 1) s.length)], _)
  rw [ih]
  show (oJ s i ++ [ik l (s[i % s.length]'(Nat.mod_lt _ h0))], ik l (s[i % s.length]'(Nat.mod_lt _ h0))) = _
  rw [hn, RD h0]
theorem OK (hr : bf l = true) (hk : OkM l) {m : Mem} (hm : m ∈ l) (n : Nat) : (jU l m n).1 = oJ (srt l m) n := by
 obtain ⟨h1, h2⟩ := Kc hr hk hm
 have h0 : 0 < (srt l m).length := by rw [h2]; exact List.length_pos_of_mem hm
 have := EG hr hk (((r7 hr).rng hk).in' m hm) h1 h0 n
 rw [PX hr hk hm h0] at this
 rw [this]
theorem OA (hr : bf l = true) (hk : OkM l) (h0 : 0 < l.length) {id : List Int} (hid : oB id) : cI l id = (gE l id, 0) := by
 obtain ⟨o, e, h⟩ := Nl hr hk h0 hid
 rw [e, kM.uniq ((r7 hr).rng hk) (k9 hid) h (zQ hr hk h0 hid)]
end
end Go.Proofs.Ytimdnodkabnbfaa
namespace Go.Proofs.Ytimdnodkabnbfaa
open Go Go.RowKit
section
variable {l : List Mem}
theorem RR.sub {l l' : List Mem} (h : RR l) (hs : l'.Sublist l) : RR l' := ⟨Nat.le_trans hs.length_le h.len, fun m hm => h.no m (hs.subset hm), h.pw.sublist hs⟩
theorem JT (s : List Mem) : ∀ n, (oJ s n).length = n
 | 0 => rfl
 | n + 1 => by show (oJ s n ++ [_]).length = _; rw [List.length_append, JT s n]; rfl
end
end Go.Proofs.Ytimdnodkabnbfaa
namespace Go.Proofs.Ytimdnodkabnbfaa
open Go Go.RowKit
end Go.Proofs.Ytimdnodkabnbfaa
namespace Go.Proofs.Ytimdnodkabnbfaa
open Go Go.RowKit
abbrev Nd := den ag
abbrev sfN (n : Nd) : Mem := n.1
def db (m : Mem) : Bool := bif decide (0 ≤ m.1) then decide (m.1 < 16) else false
def FR (no : Int) : List Mem → List Mem → Bool
 | _, [] => true
 | pre, m :: l => bif (bif (bif !db m then true else decide (m.1 = no)) then true else pre.any fun x => decide (x.1 = m.1)) then false else FR no (pre ++ [m]) l
def cu (l : List Mem) (no : Int) : Bool := FR no [] l
def zM (n : Nd) : Bool := bif decide (n.2.1 = noM) then true else bif db n.2.1 then !decide (n.2.1.1 = n.1.1) else false
def w9 (n : Nd) : Bool := bif (bif decide (1 ≤ lnx ab n.2.2.1) then decide (lnx ab n.2.2.1 ≤ 4) else false) then (bif decide (n.2.2.1 = [n.1]) then true else cu n.2.2.1 n.1.1) else false
def aT (n : Nd) : Bool := bif (bif (bif (bif db n.1 then zM n else false) then w9 n else false) then decide (lnx ab n.2.2.2.1 ≤ 16) else false) then cu n.2.2.2.1 n.1.1 else false
def wE (n : Nd) (id : List Int) : Bool := bif (bif aT n then !decide (n.2.1 = noM) else false) then tV id n.2.1.2.1 n.1.2.1 else false
def pl (self id : List Int) (m : Mem) : Bool := bif (bif !decide (m.2.1 = self) then !decide (m.2.1 = id) else false) then tV m.2.1 self id else false
def qu (self : List Int) (b : Mem × Int) (m : Mem) : Mem × Int := bif (bif !decide (b.2 = 0) then true else decide (dS (a7 self b.1.2.1) (a7 self m.2.1) < 0)) then (m, 0) else b
def fN (id self : List Int) (l : List Mem) : Mem × Int := (l.filter (pl self id)).foldl (qu self) (zero ab, 6)
def fb (n : Nd) (id : List Int) : Mem × Bool × Int :=
 bif !aT n then (zero ab, false, 1) else
 bif tV id n.1.2.1 (el ab n.2.2.1 0).2.1 then (el ab n.2.2.1 0, true, 0) else
 bif !decide ((fN id n.1.2.1 (n.2.2.2.1 ++ n.2.2.1)).2 = 0) then (el ab n.2.2.1 0, false, 0) else
 ((fN id n.1.2.1 (n.2.2.2.1 ++ n.2.2.1)).1, false, 0)
def cy (self : Int) (nos : List Int) (m : Mem) : Bool := bif !decide (m.1 = self) then nos.any (fun x => decide (x = m.1)) else false
def EX (n : Nd) (l : List Mem) : List Mem := bif decide (lnx ab l = 0) then [n.1] else l
def Bk (n : Nd) (nos : List Int) : Nd :=
 (n.1, (bif (bif !decide (n.2.1 = noM) then cy n.1.1 nos n.2.1 else false) then noM else n.2.1),
  EX n (n.2.2.1.filter fun m => !cy n.1.1 nos m), n.2.2.2.1.filter (fun m => !cy n.1.1 nos m), ())
def ib (n : Nd) (nos : List Int) : Nd × Int := bif !aT n then (zero ag, 1) else (Bk n nos, 0)
def PK (no : Int) : den (.fn (.pair ab .unit) (.pair .bool .unit)) := some fun y => (decide (y.1.1 = no), ())
noncomputable abbrev gt : bg := ⟨A9, Aq, fun _ => (noM, ()), fun _ => True, true⟩
noncomputable abbrev ma : bg := ⟨BY, CJ, fun x => (db x.1, ()), fun _ => True, true⟩
noncomputable abbrev pV : bg := ⟨Az, zF, fun x => (decide (x.1.1 = x.2.1), ()), fun _ => True, true⟩
noncomputable abbrev vA : bg := ⟨DW, EK, fun x => (PK x.1, ()), fun _ => True, true⟩
noncomputable abbrev m8 : bg := ⟨wL, pG, fun x => (cu x.1 x.2.1, ()), fun _ => True, true⟩
noncomputable abbrev f9 : bg := ⟨mX, iP, fun x => (decide (x.1 = x.2.1), ()), fun _ => True, true⟩
def ixI (n : Int) : List Int → Int → Int
 | [], _ => -1
 | x :: l, i => bif decide (n = x) then i else ixI n l (i + 1)
noncomputable abbrev iB : bg := ⟨oZ, oW, fun x => (ixI x.2.1 x.1 0, ()), fun _ => True, true⟩
noncomputable abbrev f8 : bg := ⟨mO, mY, fun x => (List.any x.1 (fun y => decide (y = x.2.1)), ()), fun _ => True, true⟩
noncomputable abbrev dY : bg := ⟨yu, yE, fun x => (aT x.1, ()), fun _ => True, true⟩
noncomputable abbrev qg : bg := ⟨AG, zw, fun x => (wE x.1 x.2.1, ()), fun _ => True, true⟩
noncomputable abbrev m7 : bg := ⟨wF, w5, fun x => (cy (sfN x.2.1).1 x.2.2.1 x.1, ()), fun _ => True, true⟩
noncomputable abbrev pL : bg := ⟨At, jq, fun x => ((ib x.1 x.2.1).1, (ib x.1 x.2.1).2, ()), fun _ => True, true⟩
noncomputable abbrev mM : bg := ⟨Af, tG, fun x => ((fb x.1 x.2.1).1, (fb x.1 x.2.1).2.1, (fb x.1 x.2.1).2.2, ()), fun _ => True, true⟩
noncomputable abbrev iL : bg := ⟨oX, o0, fun x => (pl x.2.1 x.2.2.1 x.1, ()), fun _ => True, true⟩
noncomputable abbrev jH : bg := ⟨rI, mH, fun x => ((fN x.1 x.2.1 x.2.2.1).1, (fN x.1 x.2.1 x.2.2.1).2, ()), fun _ => True, true⟩
@[reducible] def jj : eM := ⟨ab, false, .pair (.slc ab) .unit, true, fun _ y => y.1.length ≤ bH, fun _ y => y.1⟩
@[reducible] def wo : eM := ⟨ab, false, .pair (.slc (.slc ab)) .unit, true, fun _ y => (y.1.flatten : List Mem).length ≤ bH, fun _ y => (y.1.flatten : List Mem)⟩
end Go.Proofs.Ytimdnodkabnbfaa
namespace Go.Proofs.Ytimdnodkabnbfaa
open Go Go.RowKit
noncomputable abbrev zX : Fx := { fn := vW, ann := { } }
noncomputable abbrev BV : aZ := { D := { T := aX, F := [], R := [], ovl := [] }, inl := [] }
noncomputable abbrev LF : bh := .data Aq
theorem Lx : XOk prog BV := xok ((aF aK az)) (by kernel_rfl) aE aL aM
noncomputable def BR : af := af.ret (K.val (Ty.pair ab Ty.unit) ((-1, zero (Ty.pair tId Ty.unit)), PUnit.unit))
theorem F2 : ai BV LF 5000 [] zX (aA vW) (Env.of (aC A9 () 0) []) = BR := by kernel_rfl
noncomputable abbrev CN : Fx := { fn := xP, ann := { } }
noncomputable abbrev D6 : aZ := { D := { T := aX, F := [], R := [], ovl := [] }, inl := [] }
noncomputable abbrev NF : bh := .data CJ
theorem M0 : XOk prog D6 := xok ((aF aK az)) (by kernel_rfl) aE aL aM
noncomputable def EE (m : den ab) : af := af.ret (K.val (Ty.pair Ty.bool Ty.unit) (bif decide (0 ≤ Prod.fst m) then decide (Prod.fst m < 16) else false, PUnit.unit))
theorem If (m : den ab) : ai D6 NF 5000 [] CN (aA xP) (Env.of (aC BY (m, ()) 0) []) = EE m := by kernel_rfl
noncomputable abbrev zr : Fx := { fn := wl, ann := { } }
noncomputable abbrev B8 : aZ := { D := { T := aX, F := [], R := [], ovl := [] }, inl := [] }
noncomputable abbrev Lc : bh := .data zF
theorem KD : XOk prog B8 := xok ((aF aK az)) (by kernel_rfl) aE aL aM
noncomputable def Cb (m : den ab) (no : den (Ty.ref ae)) : af := af.ret (K.val (Ty.pair Ty.bool Ty.unit) (decide (Prod.fst m = no), PUnit.unit))
theorem FS (m : den ab) (no : den (Ty.ref ae)) : ai B8 Lc 5000 [] zr (aA wl) (Env.of (aC Az (m, no, ()) 0) []) = Cb m no := by kernel_rfl
noncomputable abbrev Fd : Fx := { fn := Aj, ann := { frz := [(1, [1])] } }
noncomputable abbrev Hm : aZ := { D := { T := aX, F := [(pK, pV)], R := [], ovl := [] }, inl := [] }
noncomputable abbrev OU : bh := .data EK
theorem OQ (h_node_of_1 : ak prog [] pK pV) : XOk prog Hm := xok (al (aF aK az) h_node_of_1) (by kernel_rfl) aE aL aM
noncomputable def GV (no : den ae) : af := af.req (∀ (y : den (Ty.pair ab Ty.unit)), True) (af.ret (K.val (Ty.pair (Ty.fn (Ty.pair ab Ty.unit) (Ty.pair Ty.bool Ty.unit)) Ty.unit) (some fun (y : den (Ty.pair ab Ty.unit)) ↦ (decide (Prod.fst (Prod.fst y) = no), PUnit.unit), PUnit.unit)))
theorem IV (no : den ae) : ai Hm OU 5000 [] Fd (aA Aj) (Env.of (aC DW (no, ()) 0) []) = GV no := by kernel_rfl
noncomputable abbrev gA : Fx := { fn := ge, ann := { loops := [(2, { keep := [0, 1, 7, 8, 9] })] } }
noncomputable abbrev j5 : aZ := { D := { T := aX, F := [(l9, ma), (uE, vA), (cr, cq)], R := [], ovl := [] }, inl := [] }
noncomputable abbrev yF : bh := .data pG
theorem HB (h_node_may : ak prog [] l9 ma) (h_node_of : ak prog [] uE vA) (h_slices_ContainsFunc_Member : ak prog [] cr cq) : XOk prog j5 := xok (al (al (al (aF aK az) h_slices_ContainsFunc_Member) h_node_of) h_node_may) (by kernel_rfl) aE aL aM
noncomputable def yA (l : den (Ty.slc ab)) (no : den ae) : af := af.loop [] gA (lp ge 2) [(0, K.val (Ty.slc ab) l), (1, K.val ae no), (7, K.val (Ty.slc ab) l), (8, K.val ae (lnx ab l)), (9, K.val ae 0)] []
theorem De (l : den (Ty.slc ab)) (no : den ae) : ai j5 yF 5000 [] gA (aA ge) (Env.of (aC wL (l, no, ()) 0) []) = yA l no := by kernel_rfl
noncomputable def u5 (v0 : den (Ty.slc ab)) (v1 : den ae) (v7 : den (Ty.slc ab)) (v8 : den ae) (v9 : den ae) : Env := Env.of [(0, K.val (Ty.slc ab) v0), (1, K.val ae v1), (7, K.val (Ty.slc ab) v7), (8, K.val ae v8), (9, K.val ae v9)] []
noncomputable def Do (v0 : den (Ty.slc ab)) (v1 : den ae) (v7 : den (Ty.slc ab)) (v8 : den ae) (v9 : den ae) : af := af.ite (decide (v9 < v8)) (af.req (inB v9 (lnx ab v7)) (af.req True (af.req (da [(bif !db (el ab v7 v9) then true else decide (Prod.fst (el ab v7 v9) = v1), false)] (bL 0 v9 (lnx ab v0))) (af.req (da [(bif !db (el ab v7 v9) then true else decide (Prod.fst (el ab v7 v9) = v1), false)] True) (af.req (da [(bif !db (el ab v7 v9) then true else decide (Prod.fst (el ab v7 v9) = v1), false)] (∃ (h : den (Ty.pair ab Ty.unit) → den (Ty.pair Ty.bool Ty.unit)), PK (Prod.fst (el ab v7 v9)) = some h)) (af.ite (bif bif !db (el ab v7 v9) then true else decide (Prod.fst (el ab v7 v9) = v1) then true else List.any (eK ab v0 0 v9) (prM (PK (Prod.fst (el ab v7 v9))))) (af.ret (K.val (Ty.pair Ty.bool Ty.unit) (false, PUnit.unit))) (af.loop [] gA (lp ge 2) [(0, K.val (Ty.slc ab) v0), (1, K.val ae v1), (7, K.val (Ty.slc ab) v7), (8, K.val ae v8), (9, K.val ae (IntKind.wrap IntKind.i64 (v9 + 1)))] []))))))) (af.ret (K.val (Ty.pair Ty.bool Ty.unit) (true, PUnit.unit)))
theorem o4 (v0 : den (Ty.slc ab)) (v1 : den ae) (v7 : den (Ty.slc ab)) (v8 : den ae) (v9 : den ae) : ai j5 yF 5000 [] gA (lp ge 2) (u5 v0 v1 v7 v8 v9) = Do v0 v1 v7 v8 v9 := by kernel_rfl
noncomputable abbrev dl : Fx := { fn := cQ, ann := { loops := [(4, { keep := [0, 1, 12, 13] })] } }
noncomputable abbrev fY : aZ := { D := { T := aX, F := [], R := [], ovl := [] }, inl := [] }
noncomputable abbrev nF : bh := .data iP
theorem jd : XOk prog fY := xok ((aF aK az)) (by kernel_rfl) aE aL aM
noncomputable def nQ (a : den (Ty.slc ab)) (b : den (Ty.slc ab)) : af := af.ite (!decide (lnx ab a = lnx ab b)) (af.ret (K.val (Ty.pair Ty.bool Ty.unit) (false, PUnit.unit))) (af.loop [] dl (lp cQ 4) [(0, K.val (Ty.slc ab) a), (1, K.val (Ty.slc ab) b), (12, K.val ae (lnx ab a)), (13, K.val ae 0)] [])
theorem tY (a : den (Ty.slc ab)) (b : den (Ty.slc ab)) : ai fY nF 5000 [] dl (aA cQ) (Env.of (aC mX (a, b, ()) 0) []) = nQ a b := by kernel_rfl
noncomputable def mv (v0 : den (Ty.slc ab)) (v1 : den (Ty.slc ab)) (v12 : den ae) (v13 : den ae) : Env := Env.of [(0, K.val (Ty.slc ab) v0), (1, K.val (Ty.slc ab) v1), (12, K.val ae v12), (13, K.val ae v13)] []
noncomputable def sV (v0 : den (Ty.slc ab)) (v1 : den (Ty.slc ab)) (v12 : den ae) (v13 : den ae) : af := af.ite (decide (v13 < v12)) (af.req (inB v13 (lnx ab v0)) (af.req (inB v13 (lnx ab v1)) (af.ite (!eqb ab (el ab v0 v13) (el ab v1 v13)) (af.ret (K.val (Ty.pair Ty.bool Ty.unit) (false, PUnit.unit))) (af.loop [] dl (lp cQ 4) [(0, K.val (Ty.slc ab) v0), (1, K.val (Ty.slc ab) v1), (12, K.val ae v12), (13, K.val ae (IntKind.wrap IntKind.i64 (v13 + 1)))] [])))) (af.ret (K.val (Ty.pair Ty.bool Ty.unit) (true, PUnit.unit)))
theorem jB (v0 : den (Ty.slc ab)) (v1 : den (Ty.slc ab)) (v12 : den ae) (v13 : den ae) : ai fY nF 5000 [] dl (lp cQ 4) (mv v0 v1 v12 v13) = sV v0 v1 v12 v13 := by kernel_rfl
noncomputable abbrev dT : Fx := { fn := dG, ann := { loops := [(2, { keep := [0, 1, 7, 8] })] } }
noncomputable abbrev lm : aZ := { D := { T := aX, F := [], R := [], ovl := [] }, inl := [] }
noncomputable abbrev qo : bh := .data oW
theorem lT : XOk prog lm := xok ((aF aK az)) (by kernel_rfl) aE aL aM
noncomputable def qG (s : den (Ty.slc ae)) (v : den ae) : af := af.loop [] dT (lp dG 2) [(0, K.val (Ty.slc ae) s), (1, K.val ae v), (7, K.val ae (lnx ae s)), (8, K.val ae 0)] []
theorem w3 (s : den (Ty.slc ae)) (v : den ae) : ai lm qo 5000 [] dT (aA dG) (Env.of (aC oZ (s, v, ()) 0) []) = qG s v := by kernel_rfl
noncomputable def n8 (v0 : den (Ty.slc ae)) (v1 : den ae) (v7 : den ae) (v8 : den ae) : Env := Env.of [(0, K.val (Ty.slc ae) v0), (1, K.val ae v1), (7, K.val ae v7), (8, K.val ae v8)] []
noncomputable def xq (v0 : den (Ty.slc ae)) (v1 : den ae) (v7 : den ae) (v8 : den ae) : af := af.ite (decide (v8 < v7)) (af.req (inB v8 (lnx ae v0)) (af.ite (decide (v1 = el ae v0 v8)) (af.ret (K.val (Ty.pair ae Ty.unit) (v8, PUnit.unit))) (af.loop [] dT (lp dG 2) [(0, K.val (Ty.slc ae) v0), (1, K.val ae v1), (7, K.val ae v7), (8, K.val ae (IntKind.wrap IntKind.i64 (v8 + 1)))] []))) (af.ret (K.val (Ty.pair ae Ty.unit) (-1, PUnit.unit)))
theorem lk (v0 : den (Ty.slc ae)) (v1 : den ae) (v7 : den ae) (v8 : den ae) : ai lm qo 5000 [] dT (lp dG 2) (n8 v0 v1 v7 v8) = xq v0 v1 v7 v8 := by kernel_rfl
noncomputable abbrev mK : Fx := { fn := js, ann := { } }
noncomputable abbrev nT : aZ := { D := { T := aX, F := [(iq, iB)], R := [], ovl := [] }, inl := [] }
noncomputable abbrev wD : bh := .data mY
theorem ww (h_slices_Index_int : ak prog [] iq iB) : XOk prog nT := xok (al (aF aK az) h_slices_Index_int) (by kernel_rfl) aE aL aM
noncomputable def nL (s : den (Ty.slc ae)) (v : den ae) : af := af.req True (af.ret (K.val (Ty.pair Ty.bool Ty.unit) (decide (0 ≤ ixI v s 0), PUnit.unit)))
theorem tl (s : den (Ty.slc ae)) (v : den ae) : ai nT wD 5000 [] mK (aA js) (Env.of (aC mO (s, v, ()) 0) []) = nL s v := by kernel_rfl
noncomputable abbrev yH : Fx := { fn := tg, ann := { } }
noncomputable abbrev Ba : aZ := { D := { T := aX, F := [(gu, gt), (l9, ma), (nl, m8), (fX, f9)], R := [], ovl := [] }, inl := [] }
noncomputable abbrev IA : bh := .data yE
theorem Kp (h_node_none : ak prog [] gu gt) (h_node_may : ak prog [] l9 ma) (h_node_unlike : ak prog [] nl m8) (h_slices_Equal_Member : ak prog [] fX f9) : XOk prog Ba := xok (al (al (al (al (aF aK az) h_slices_Equal_Member) h_node_unlike) h_node_may) h_node_none) (by kernel_rfl) aE aL aM
noncomputable def zA (n : den ag) : af := af.req True (af.req (da [(eqb ab (Prod.fst (Prod.snd n)) noM, false)] True) (af.req True (af.req (da [(bif decide (1 ≤ lnx ab (Prod.fst (Prod.snd (Prod.snd n)))) then decide (lnx ab (Prod.fst (Prod.snd (Prod.snd n))) ≤ 4) else false, true), (decide (Prod.fst (Prod.snd (Prod.snd n)) = List.set (List.replicate 1 (zero ab)) 0 (Prod.fst n)), false)] True) (af.req True (af.req (da [(bif bif bif db (Prod.fst n) then bif eqb ab (Prod.fst (Prod.snd n)) noM then true else bif db (Prod.fst (Prod.snd n)) then !decide (Prod.fst (Prod.fst (Prod.snd n)) = Prod.fst (Prod.fst n)) else false else false then bif bif decide (1 ≤ lnx ab (Prod.fst (Prod.snd (Prod.snd n)))) then decide (lnx ab (Prod.fst (Prod.snd (Prod.snd n))) ≤ 4) else false then bif decide (Prod.fst (Prod.snd (Prod.snd n)) = List.set (List.replicate 1 (zero ab)) 0 (Prod.fst n)) then true else cu (Prod.fst (Prod.snd (Prod.snd n))) (Prod.fst (Prod.fst n)) else false else false then decide (lnx ab (Prod.fst (Prod.snd (Prod.snd (Prod.snd n)))) ≤ 16) else false, true)] True) (af.ret (K.val (Ty.pair Ty.bool Ty.unit) (bif bif bif bif db (Prod.fst n) then bif eqb ab (Prod.fst (Prod.snd n)) noM then true else bif db (Prod.fst (Prod.snd n)) then !decide (Prod.fst (Prod.fst (Prod.snd n)) = Prod.fst (Prod.fst n)) else false else false then bif bif decide (1 ≤ lnx ab (Prod.fst (Prod.snd (Prod.snd n)))) then decide (lnx ab (Prod.fst (Prod.snd (Prod.snd n))) ≤ 4) else false then bif decide (Prod.fst (Prod.snd (Prod.snd n)) = List.set (List.replicate 1 (zero ab)) 0 (Prod.fst n)) then true else cu (Prod.fst (Prod.snd (Prod.snd n))) (Prod.fst (Prod.fst n)) else false else false then decide (lnx ab (Prod.fst (Prod.snd (Prod.snd (Prod.snd n)))) ≤ 16) else false then cu (Prod.fst (Prod.snd (Prod.snd (Prod.snd n)))) (Prod.fst (Prod.fst n)) else false, PUnit.unit))))))))
theorem EM (n : den ag) : ai Ba IA 5000 [] yH (aA tg) (Env.of (aC yu (n, ()) 0) []) = zA n := by kernel_rfl
noncomputable abbrev Av : Fx := { fn := vH, ann := { } }
noncomputable abbrev B0 : aZ := { D := { T := aX, F := [(dW, dY), (gu, gt), (iG, jT)], R := [], ovl := [] }, inl := [] }
noncomputable abbrev Lz : bh := .data zw
theorem LM (h_node_Right : ak prog [] dW dY) (h_node_none : ak prog [] gu gt) (h_ident_In : ak prog [] iG jT) : XOk prog B0 := xok (al (al (al (aF aK az) h_ident_In) h_node_none) h_node_Right) (by kernel_rfl) aE aL aM
noncomputable def BZ (n : den ag) (id : den tId) : af := af.req True (af.req (da [(aT n, true)] True) (af.req (da [(bif aT n then !eqb ab (Prod.fst (Prod.snd n)) noM else false, true)] True) (af.ret (K.val (Ty.pair Ty.bool Ty.unit) (bif bif aT n then !eqb ab (Prod.fst (Prod.snd n)) noM else false then tV id (Prod.fst (Prod.snd (Prod.fst (Prod.snd n)))) (Prod.fst (Prod.snd (Prod.fst n))) else false, PUnit.unit)))))
theorem FO (n : den ag) (id : den tId) : ai B0 Lz 5000 [] Av (aA vH) (Env.of (aC AG (n, id, ()) 0) []) = BZ n id := by kernel_rfl
noncomputable abbrev wB : Fx := { fn := qQ, ann := { } }
noncomputable abbrev yO : aZ := { D := { T := aX, F := [(fV, f8)], R := [], ovl := [] }, inl := [] }
noncomputable abbrev H6 : bh := .data w5
theorem HN (h_slices_Contains_int : ak prog [] fV f8) : XOk prog yO := xok (al (aF aK az) h_slices_Contains_int) (by kernel_rfl) aE aL aM
noncomputable def yX (m : den ab) (n : den (Ty.ref ag)) (nos : den (Ty.ref (Ty.slc ae))) : af := af.req (da [(!decide (Prod.fst m = Prod.fst (Prod.fst n)), true)] True) (af.ret (K.val (Ty.pair Ty.bool Ty.unit) (bif !decide (Prod.fst m = Prod.fst (Prod.fst n)) then List.any nos fun (y : den (Ty.int IntKind.i64)) ↦ decide (y = Prod.fst m) else false, PUnit.unit)))
theorem C4 (m : den ab) (n : den (Ty.ref ag)) (nos : den (Ty.ref (Ty.slc ae))) : ai yO H6 5000 [] wB (aA qQ) (Env.of (aC wF (m, n, nos, ()) 0) []) = yX m n nos := by kernel_rfl
noncomputable abbrev oU : Fx := { fn := lH, ann := { } }
noncomputable abbrev qj : aZ := { D := { T := aX, F := [(iG, jT)], R := [], ovl := [] }, inl := [] }
noncomputable abbrev zd : bh := .data o0
theorem Ax (h_ident_In : ak prog [] iG jT) : XOk prog qj := xok (al (aF aK az) h_ident_In) (by kernel_rfl) aE aL aM
noncomputable def qA (m : den ab) (self : den (Ty.ref tId)) (id : den (Ty.ref tId)) : af := af.req (da [(bif !eqb tId (Prod.fst (Prod.snd m)) self then !eqb tId (Prod.fst (Prod.snd m)) id else false, true)] True) (af.ret (K.val (Ty.pair Ty.bool Ty.unit) (bif bif !eqb tId (Prod.fst (Prod.snd m)) self then !eqb tId (Prod.fst (Prod.snd m)) id else false then tV (Prod.fst (Prod.snd m)) self id else false, PUnit.unit)))
theorem wW (m : den ab) (self : den (Ty.ref tId)) (id : den (Ty.ref tId)) : ai qj zd 5000 [] oU (aA lH) (Env.of (aC oX (m, self, id, ()) 0) []) = qA m self id := by kernel_rfl
noncomputable abbrev mL : Fx := { fn := jf, ann := { }, own := [5] }
noncomputable abbrev nR : aZ := { D := { T := aX, F := [], R := [], ovl := [] }, inl := [] }
noncomputable abbrev w8 : bh := .row (ab)
theorem xb : XOk prog nR := xok ((aF aK az)) (by kernel_rfl) aE aL aM
noncomputable def nV (s : den (Ty.slc ab)) : af := af.all Bool (fun (c : Bool) ↦ c = true → s = []) fun (q1 : Bool) ↦ af.ite q1 (af.ret (K.val (Ty.slc ab) [])) (af.req (List.length (List.replicate 0 (zero ab) ++ s) ≤ bH) (af.req (vok 0 (List.length (List.replicate 0 (zero ab) ++ s)) (List.length (List.replicate 0 (zero ab) ++ s))) (af.ret (K.val (Ty.slc ab) (pI ab (List.replicate 0 (zero ab) ++ s) 0 (List.length (List.replicate 0 (zero ab) ++ s)))))))
theorem tO (s : den (Ty.slc ab)) : ai nR w8 5000 [] mL (aA jf) (Env.of (aC (Ty.pair (Ty.slc ab) Ty.unit) (s, ()) 0) []) = nV s := by kernel_rfl
end Go.Proofs.Ytimdnodkabnbfaa
namespace Go.Proofs.Ytimdnodkabnbfaa
open Go Go.RowKit
theorem vS : ak prog [] gu gt :=
 bq (S := gt) Lx (fx := zX) IP (by kernel_rfl) (fun _ _ => trivial) (T := fun _ => BR) (fun _ => F2) fun O w0 x _ _ => ⟨_, rfl, rfl⟩
theorem EZ : ak prog [] l9 ma :=
 bq (S := ma) M0 (fx := CN) Lr (by kernel_rfl) (fun _ _ => trivial) (T := fun x => EE x.1) (fun x => If x.1) fun O w0 x _ _ => ⟨_, rfl, rfl⟩
theorem Lp : ak prog [] pK pV :=
 bq (S := pV) KD (fx := zr) JL (by kernel_rfl) (fun _ _ => trivial) (T := fun x => Cb x.1 x.2.1) (fun x => FS x.1 x.2.1) fun O w0 x _ _ => ⟨_, rfl, rfl⟩
theorem O8 : ak prog [] uE vA :=
 bq (S := vA) (OQ Lp) (fx := Fd) Nn (by kernel_rfl) (fun _ _ => trivial) (T := fun x => GV x.1) (fun x => IV x.1) fun O w0 x _ _ => ⟨fun _ => trivial, _, rfl, rfl⟩
abbrev GUl (O : Nat → Prop) (w0 : World) (y : Bool) := bv prog j5 (Cx.base O w0) (bR prog O w0 pG fun z => z = (y, ()))
theorem Hj (no : Int) (pre : List Mem) (m : Mem) (l : List Mem) : FR no pre (m :: l) = bif (bif (bif !db m then true else decide (m.1 = no)) then true else pre.any fun x => decide (x.1 = m.1)) then false else FR no (pre ++ [m]) l := rfl
theorem pt : XOk prog j5 := HB EZ O8 je
def Fv (O : Nat → Prop) (w0 : World) (l : List Mem) (no : Int) (hm : l.length ≤ maxLen) :=
 PLift.up <| bl (σ := Unit) l.length (fun i _ => FR no (l.take i) (l.drop i) = cu l no)
  (fun i _ => GUl O w0 (cu l no) [] gA (lp ge 2) (u5 l no l (lnx ab l) (i : Nat)))
  (fun i _ hi hs ih => au pt (o4 l no l _ _) (by
   rw [List.drop_eq_getElem_cons hi, Hj, ← List.take_succ_eq_append_getElem hi] at hs
   have hi' : i ≤ l.length := Nat.le_of_lt hi
   refine ⟨fun _ => ⟨aU hi, trivial, fun _ => ⟨Int.le_refl _, Int.natCast_nonneg _, Int.ofNat_le.2 hi'⟩, fun _ => trivial, fun _ => ⟨_, rfl⟩, ?_⟩, fun hc => absurd hi (by rw [bO] at hc; exact of_decide_eq_false hc)⟩
   rw [bD hi, bK hi hm, xM]
   refine ⟨fun hc => ⟨_, rfl, ?_⟩, fun hc => ih () ?_⟩
   ·have hc : (bif (bif !db l[i] then true else decide (l[i].1 = no)) then true else (l.take i).any fun x => decide (x.1 = l[i].1)) = true := hc
    rw [hc] at hs
    exact Prod.ext hs rfl
   ·have hc : (bif (bif !db l[i] then true else decide (l[i].1 = no)) then true else (l.take i).any fun x => decide (x.1 = l[i].1)) = false := hc
    rw [hc] at hs
    exact hs))
  (fun _ hs => au pt (o4 l no l _ _) (by
   refine ⟨fun hc => absurd (of_decide_eq_true hc) (Int.lt_irrefl _), fun _ => ⟨_, rfl, Prod.ext ?_ rfl⟩⟩
   rw [List.drop_length] at hs
   exact hs))
theorem H9 : ak prog [] nl m8 :=
 bq (S := m8) pt (fx := gA) GG (by kernel_rfl) (fun _ _ => trivial) (T := fun x => yA x.1 x.2.1) (fun x => De x.1 x.2.1) fun O w0 x hk _ =>
  (Fv O w0 x.1 x.2.1 hk.1.1).down 0 () (Nat.zero_le _) rfl
abbrev GEq (O : Nat → Prop) (w0 : World) (y : Bool) := bv prog fY (Cx.base O w0) (bR prog O w0 iP fun z => z = (y, ()))
def vM (O : Nat → Prop) (w0 : World) (a b : List Mem) (hl : a.length = b.length) (hm : a.length ≤ maxLen) :=
 PLift.up <| bl (σ := Unit) a.length (fun i _ => decide (a.drop i = b.drop i) = decide (a = b))
  (fun i _ => GEq O w0 (decide (a = b)) [] dl (lp cQ 4) (mv a b (lnx ab a) (i : Nat)))
  (fun i _ hi hs ih => au jd (jB a b _ _) (by
   have hi2 : i < b.length := by omega
   rw [List.drop_eq_getElem_cons hi, List.drop_eq_getElem_cons hi2] at hs
   refine ⟨fun _ => ⟨aU hi, aU hi2, ?_⟩, fun hc => absurd hi (by rw [bO] at hc; exact of_decide_eq_false hc)⟩
   rw [bD hi, bD hi2, bK hi hm, kB]
   refine ⟨fun hc => ⟨_, rfl, Prod.ext ?_ rfl⟩, fun hc => ih () ?_⟩
   ·have hne : ¬ a[i] = b[i] := by simpa using hc
    rw [← hs]
    exact (decide_eq_false fun e => hne (List.cons.inj e).1).symm
   ·have he : a[i] = b[i] := by simpa using hc
    rw [← hs]
    exact decide_eq_decide.2 ⟨fun e => by rw [he, e], fun e => (List.cons.inj e).2⟩))
  (fun _ hs => au jd (jB a b _ _) (by
   refine ⟨fun hc => absurd (of_decide_eq_true hc) (Int.lt_irrefl _), fun _ => ⟨_, rfl, Prod.ext ?_ rfl⟩⟩
   rw [List.drop_length, hl, List.drop_length] at hs
   rw [← hs]
   rfl))
theorem wK : ak prog [] fX f9 :=
 bq (S := f9) jd (fx := dl) vJ (by kernel_rfl) (fun _ _ => trivial) (T := fun x => nQ x.1 x.2.1) (fun x => tY x.1 x.2.1) fun O w0 x hk _ => by
  obtain ⟨a, b, ⟨⟩⟩ := x
  refine ⟨fun h => ⟨_, rfl, Prod.ext ?_ rfl⟩, fun h => ?_⟩
  ·have h : (!decide (((a.length : Nat) : Int) = (b.length : Nat))) = true := h
   have hne : ¬ a.length = b.length := fun e => by rw [e] at h; simp at h
   exact (decide_eq_false fun e => hne (congrArg List.length e)).symm
  ·have h : (!decide (((a.length : Nat) : Int) = (b.length : Nat))) = false := h
   have hl : a.length = b.length := by
    have : decide (((a.length : Nat) : Int) = (b.length : Nat)) = true := by simpa using h
    exact Int.ofNat.inj (of_decide_eq_true this)
   exact (vM O w0 a b hl hk.1.1).down 0 () (Nat.zero_le _) rfl
theorem Mn (n : Int) : ∀ (l : List Int) (i : Int), 0 ≤ i → decide (0 ≤ ixI n l i) = l.any fun y => decide (y = n)
 | [], _, _ => rfl
 | x :: l, i, hi => by
  show decide (0 ≤ (bif decide (n = x) then i else ixI n l (i + 1))) = (decide (x = n) || l.any fun y => decide (y = n))
  by_cases h : n = x
  ·rw [decide_eq_true h, decide_eq_true h.symm]
   exact decide_eq_true hi
  ·rw [decide_eq_false h, decide_eq_false (show ¬ x = n from fun e => h e.symm), Bool.false_or]
   exact Mn n l (i + 1) (by omega)
def y7 (O : Nat → Prop) (w0 : World) (l : List Int) (n y : Int) (hm : l.length ≤ maxLen) :=
 PLift.up <| bl (σ := Unit) l.length (fun i _ => ixI n (l.drop i) (i : Nat) = y)
  (fun i _ => GIx O w0 y [] dT (lp dG 2) (n8 l n (lnx ae l) (i : Nat)))
  (fun i _ hi hs ih => au lT (lk l n _ _) (by
   rw [List.drop_eq_getElem_cons hi] at hs
   have hs : (bif decide (n = l[i]) then ((i : Nat) : Int) else ixI n (l.drop (i + 1)) ((i : Nat) + 1)) = y := hs
   refine ⟨fun _ => ⟨aU hi, ?_⟩, fun hc => absurd hi (by rw [bO (e := ae)] at hc; exact of_decide_eq_false hc)⟩
   rw [bD (e := ae) hi, bK hi hm]
   refine ⟨fun hc => ⟨_, rfl, Prod.ext ?_ rfl⟩, fun hc => ih () ?_⟩
   ·have hc : decide (n = l[i]) = true := hc
    rw [hc] at hs
    exact hs
   ·have hc : decide (n = l[i]) = false := hc
    rw [hc] at hs
    exact hs))
  (fun _ hs => au lT (lk l n _ _) (by
   refine ⟨fun hc => absurd (of_decide_eq_true hc) (Int.lt_irrefl _), fun _ => ⟨_, rfl, Prod.ext ?_ rfl⟩⟩
   rw [List.drop_length] at hs
   exact hs))
theorem Ao : ak prog [] iq iB :=
 bq (S := iB) lT (fx := dT) y4 (by kernel_rfl) (fun _ _ => trivial) (T := fun x => qG x.1 x.2.1) (fun x => w3 x.1 x.2.1) fun O w0 x hk _ =>
  (y7 O w0 x.1 x.2.1 _ hk.1.1).down 0 () (Nat.zero_le _) rfl
theorem xf : ak prog [] fV f8 :=
 bq (S := f8) (ww Ao) (fx := mK) vP (by kernel_rfl) (fun _ _ => trivial) (T := fun x => nL x.1 x.2.1) (fun x => tl x.1 x.2.1) fun O w0 x _ _ =>
  ⟨trivial, _, rfl, Prod.ext (Mn x.2.1 x.1 0 (Int.le_refl _)) rfl⟩
theorem ol : ak prog [] dW dY :=
 bq (S := dY) (Kp vS EZ H9 wK) (fx := yH) HO (by kernel_rfl) (fun _ _ => trivial) (T := fun x => zA x.1) (fun x => EM x.1) fun O w0 x _ _ => by
  obtain ⟨n, ⟨⟩⟩ := x
  refine ⟨trivial, fun _ => trivial, trivial, fun _ _ => trivial, trivial, fun _ => trivial, _, rfl, Prod.ext ?_ rfl⟩
  show _ = aT n
  unfold aT zM w9
  simp only [kB]
  rfl
theorem K1 : ak prog [] pS qg :=
 bq (S := qg) (LM ol vS xL) (fx := Av) JR (by kernel_rfl) (fun _ _ => trivial) (T := fun x => BZ x.1 x.2.1) (fun x => FO x.1 x.2.1) fun O w0 x _ _ => by
  obtain ⟨n, id, ⟨⟩⟩ := x
  refine ⟨trivial, fun _ => trivial, fun _ => trivial, _, rfl, Prod.ext ?_ rfl⟩
  show _ = wE n id
  unfold wE
  simp only [kB]
theorem H7 : ak prog [] an m7 :=
 bq (S := m7) (HN xf) (fx := wB) Gb (by kernel_rfl) (fun _ _ => trivial) (T := fun x => yX x.1 x.2.1 x.2.2.1) (fun x => C4 x.1 x.2.1 x.2.2.1) fun O w0 x _ _ =>
  ⟨fun _ => trivial, _, rfl, rfl⟩
theorem zL : ak prog [] iD iL :=
 bq (S := iL) (Ax xL) (fx := oU) y8 (by kernel_rfl) (fun _ _ => trivial) (T := fun x => qA x.1 x.2.1 x.2.2.1) (fun x => wW x.1 x.2.1 x.2.2.1) fun O w0 x _ _ => by
  obtain ⟨m, self, id, ⟨⟩⟩ := x
  refine ⟨fun _ => trivial, _, rfl, Prod.ext ?_ rfl⟩
  show _ = pl self id m
  unfold pl
  rw [xl, xl]
theorem vI : oG prog [] fW jj :=
 LX xb (fx := mL) rfl we (by kernel_rfl) (T := fun _ y => nV y.1) (fun xs y _ => tO y.1) fun O w0 bk xs y hxl hy hp => by
  obtain ⟨s, ⟨⟩⟩ := y
  refine fun c hc => ⟨fun hx => ?_, fun hx => ?_⟩
  ·show K.val _ _ = K.val _ s
   rw [show s = [] from hc hx]
  ·refine ⟨?_, ?_, ?_⟩
   ·simpa using hp
   ·simp [vok]
   ·show K.val (.slc ab) (pI ab (List.replicate 0 (zero ab) ++ s) 0 (List.length (List.replicate 0 (zero ab) ++ s))) = K.val _ s
    rw [Hs _ rfl]; rfl
end Go.Proofs.Ytimdnodkabnbfaa
namespace Go.Proofs.Ytimdnodkabnbfaa
open Go Go.RowKit
noncomputable abbrev wY : Fx := { fn := oF, ann := { } }
noncomputable abbrev aR : Fx := { fn := aQ, ann := { loops := [(3, { keep := [0, 3, 9, 10, 11] }), (11, { keep := [6, 25, 26, 27] })] } }
noncomputable abbrev cF : aZ := { D := { T := aX, F := [], R := [], ovl := [] }, inl := [(oI, wY)] }
noncomputable abbrev dV : bh := .row (ab)
theorem cp : XOk prog cF := xok ((aF aK az)) (by kernel_rfl) aE (jb wy (by kernel_rfl) aL) aM
noncomputable def mZ (s : den (Ty.slc (Ty.slc ab))) : af := af.loop [] aR (lp aQ 3) [(0, K.val (Ty.slc (Ty.slc ab)) s), (3, K.val ae 0), (9, K.val (Ty.slc (Ty.slc ab)) s), (10, K.val ae (lnx (Ty.slc ab) s)), (11, K.val ae 0)] []
theorem sq (s : den (Ty.slc (Ty.slc ab))) : ai cF dV 5000 [] aR (aA aQ) (Env.of (aC (Ty.pair (Ty.slc (Ty.slc ab)) Ty.unit) (s, ()) 0) []) = mZ s := by kernel_rfl
noncomputable def lJ (v0 : den (Ty.slc (Ty.slc ab))) (v3 : den ae) (v9 : den (Ty.slc (Ty.slc ab))) (v10 : den ae) (v11 : den ae) : Env := Env.of [(0, K.val (Ty.slc (Ty.slc ab)) v0), (3, K.val ae v3), (9, K.val (Ty.slc (Ty.slc ab)) v9), (10, K.val ae v10), (11, K.val ae v11)] []
noncomputable def sd (v0 : den (Ty.slc (Ty.slc ab))) (v3 : den ae) (v9 : den (Ty.slc (Ty.slc ab))) (v10 : den ae) (v11 : den ae) : af := af.ite (decide (v11 < v10)) (af.req (inB v11 (lnx (Ty.slc ab) v9)) (af.ite (decide (IntKind.wrap IntKind.i64 (v3 + lnx ab (el (Ty.slc ab) v9 v11)) < 0)) (af.bad (100000 + 1000 * 0 + 0)) (af.loop [] aR (lp aQ 3) [(0, K.val (Ty.slc (Ty.slc ab)) v0), (3, K.val ae (IntKind.wrap IntKind.i64 (v3 + lnx ab (el (Ty.slc ab) v9 v11)))), (9, K.val (Ty.slc (Ty.slc ab)) v9), (10, K.val ae v10), (11, K.val ae (IntKind.wrap IntKind.i64 (v11 + 1)))] []))) (af.ite (decide (v3 < 0)) (af.bad (100000 + 1000 * 0 + 0)) (af.ite (decide (0 < IntKind.wrap IntKind.i64 (v3 - IntKind.wrap IntKind.i64 (0 - 0)))) (af.req (bL 0 0 0) (af.req (0 < IntKind.wrap IntKind.i64 (v3 - IntKind.wrap IntKind.i64 (0 - 0))) (af.req (Int.toNat (IntKind.wrap IntKind.i64 (v3 - IntKind.wrap IntKind.i64 (0 - 0))) ≤ bH) (af.req (vok 0 (List.length (List.replicate (Int.toNat (IntKind.wrap IntKind.i64 (v3 - IntKind.wrap IntKind.i64 (0 - 0)))) (zero ab))) (List.length (List.replicate (Int.toNat (IntKind.wrap IntKind.i64 (v3 - IntKind.wrap IntKind.i64 (0 - 0)))) (zero ab)))) (af.req (bL 0 0 (↑(List.length (List.replicate (Int.toNat (IntKind.wrap IntKind.i64 (v3 - IntKind.wrap IntKind.i64 (0 - 0)))) (zero ab)) - 0) : Int)) (af.loop [] aR (lp aQ 11) [(6, K.vw 0 ab (0 + Int.toNat 0) (Int.toNat 0 - Int.toNat 0)), (25, K.val (Ty.slc (Ty.slc ab)) v0), (26, K.val ae (lnx (Ty.slc ab) v0)), (27, K.val ae 0)] [(0, Bx.row ab (List.replicate (Int.toNat (IntKind.wrap IntKind.i64 (v3 - IntKind.wrap IntKind.i64 (0 - 0)))) (zero ab)))])))))) (af.loop [] aR (lp aQ 11) [(6, K.nilsl), (25, K.val (Ty.slc (Ty.slc ab)) v0), (26, K.val ae (lnx (Ty.slc ab) v0)), (27, K.val ae 0)] [])))
theorem jo (v0 : den (Ty.slc (Ty.slc ab))) (v3 : den ae) (v9 : den (Ty.slc (Ty.slc ab))) (v10 : den ae) (v11 : den ae) : ai cF dV 5000 [] aR (lp aQ 3) (lJ v0 v3 v9 v10 v11) = sd v0 v3 v9 v10 v11 := by kernel_rfl
noncomputable def kR (v6 : Nat) (v6_1 : Nat) (v25 : den (Ty.slc (Ty.slc ab))) (v26 : den ae) (v27 : den ae) (b0 : List (den ab)) : Env := Env.of [(6, K.vw 0 ab v6 v6_1), (25, K.val (Ty.slc (Ty.slc ab)) v25), (26, K.val ae v26), (27, K.val ae v27)] [(0, Bx.row ab b0)]
noncomputable def rt (v6 : Nat) (v6_1 : Nat) (v25 : den (Ty.slc (Ty.slc ab))) (v26 : den ae) (v27 : den ae) (b0 : List (den ab)) : af := af.ite (decide (v27 < v26)) (af.req (inB v27 (lnx (Ty.slc ab) v25)) (af.req (vok v6 v6_1 (List.length b0)) (af.req (v6 + v6_1 + List.length (el (Ty.slc ab) v25 v27) ≤ List.length b0) (af.loop [] aR (lp aQ 11) [(6, K.vw 0 ab v6 (v6_1 + List.length (el (Ty.slc ab) v25 v27))), (25, K.val (Ty.slc (Ty.slc ab)) v25), (26, K.val ae v26), (27, K.val ae (IntKind.wrap IntKind.i64 (v27 + 1)))] [(0, Bx.row ab (over b0 (v6 + v6_1) (el (Ty.slc ab) v25 v27)))])))) (af.req (vok v6 v6_1 (List.length b0)) (af.ret (K.val (Ty.slc ab) (pI ab b0 v6 v6_1))))
theorem i4 (v6 : Nat) (v6_1 : Nat) (v25 : den (Ty.slc (Ty.slc ab))) (v26 : den ae) (v27 : den ae) (b0 : List (den ab)) : ai cF dV 5000 [] aR (lp aQ 11) (kR v6 v6_1 v25 v26 v27 b0) = rt v6 v6_1 v25 v26 v27 b0 := by kernel_rfl
noncomputable def jF (v25 : den (Ty.slc (Ty.slc ab))) (v26 : den ae) (v27 : den ae) : Env := Env.of [(6, K.nilsl), (25, K.val (Ty.slc (Ty.slc ab)) v25), (26, K.val ae v26), (27, K.val ae v27)] []
noncomputable def pD (v25 : den (Ty.slc (Ty.slc ab))) (v26 : den ae) (v27 : den ae) : af := af.ite (decide (v27 < v26)) (af.req (inB v27 (lnx (Ty.slc ab) v25)) (af.req (List.length (el (Ty.slc ab) v25 v27) ≤ bH) (af.loop [] aR (lp aQ 11) [(6, K.sl 0 ab), (25, K.val (Ty.slc (Ty.slc ab)) v25), (26, K.val ae v26), (27, K.val ae (IntKind.wrap IntKind.i64 (v27 + 1)))] [(0, Bx.row ab (el (Ty.slc ab) v25 v27))]))) (af.ret (K.val (Ty.slc ab) []))
theorem nY (v25 : den (Ty.slc (Ty.slc ab))) (v26 : den ae) (v27 : den ae) : ai cF dV 5000 [] aR (lp aQ 11) (jF v25 v26 v27) = pD v25 v26 v27 := by kernel_rfl
noncomputable def jC (v25 : den (Ty.slc (Ty.slc ab))) (v26 : den ae) (v27 : den ae) (b0 : List (den ab)) : Env := Env.of [(6, K.sl 0 ab), (25, K.val (Ty.slc (Ty.slc ab)) v25), (26, K.val ae v26), (27, K.val ae v27)] [(0, Bx.row ab b0)]
noncomputable def pA (v25 : den (Ty.slc (Ty.slc ab))) (v26 : den ae) (v27 : den ae) (b0 : List (den ab)) : af := af.ite (decide (v27 < v26)) (af.req (inB v27 (lnx (Ty.slc ab) v25)) (af.req (List.length (b0 ++ el (Ty.slc ab) v25 v27) ≤ bH) (af.loop [] aR (lp aQ 11) [(6, K.sl 0 ab), (25, K.val (Ty.slc (Ty.slc ab)) v25), (26, K.val ae v26), (27, K.val ae (IntKind.wrap IntKind.i64 (v27 + 1)))] [(0, Bx.row ab (b0 ++ el (Ty.slc ab) v25 v27))]))) (af.req (vok 0 (List.length b0) (List.length b0)) (af.ret (K.val (Ty.slc ab) (pI ab b0 0 (List.length b0)))))
theorem g8 (v25 : den (Ty.slc (Ty.slc ab))) (v26 : den ae) (v27 : den ae) (b0 : List (den ab)) : ai cF dV 5000 [] aR (lp aQ 11) (jC v25 v26 v27 b0) = pA v25 v26 v27 b0 := by kernel_rfl
noncomputable abbrev ar : Fx := { fn := aq, ann := { loops := [(5, { keep := [0, 1, 5, 6] })], frz := [(1000005, [2, 3, 4, 6])] }, own := [28, 41], share := true }
noncomputable abbrev bF : Fx := { fn := bI, ann := { }, own := [40], share := true }
noncomputable abbrev gw : aZ := { D := { T := aX, F := [(dW, dY), (gu, gt), (an, m7)], R := [(fW, jj)], ovl := [] }, inl := [(j7, ar), (ci, aH)] }
noncomputable abbrev mQ : bh := .data jq
theorem KB (h_node_Right : ak prog [] dW dY) (h_node_none : ak prog [] gu gt) (h_node_Drop_1 : ak prog [] an m7) (h_slices_Clone_Member : oG prog [] fW jj) : XOk prog gw := xok (al (al (al (aF aK az) h_node_Drop_1) h_node_none) h_node_Right) (by kernel_rfl) (P2 h_slices_Clone_Member aE) (jb qD (by kernel_rfl) (jb j6 (by kernel_rfl) aL)) aM
noncomputable def Ck (n : den ag) (nos : den (Ty.slc ae)) : af := af.req True (af.all (den Ty.bool) (fun (q2 : den Ty.bool) ↦ q2 = aT n) fun (q2 : den Ty.bool) ↦ af.ite (!q2) (af.ret (K.val (Ty.pair ag (Ty.pair ae Ty.unit)) (zero (Ty.pair ab (Ty.pair ab (Ty.pair (Ty.slc ab) (Ty.pair (Ty.slc ab) Ty.unit)))), 1, PUnit.unit))) (af.req (List.length (Prod.fst (Prod.snd (Prod.snd n))) ≤ bH) (af.loop [{ fx := ar, todo := bC aq 1 2, dst := some 10, s := ofS [(0, K.sl 0 ab), (1, K.clo an (K.kcons (K.ptr (0 + 1) ag []) (K.kcons (K.ptr (0 + 1 + 1) (Ty.slc ae) []) K.knil)))] }, { fx := bF, todo := bC bI 4 4, dst := some 16, s := ofS [(2, K.ptr (0 + 1) ag []), (3, K.ptr (0 + 1 + 1) (Ty.slc ae) []), (4, K.ptr (0 + 1 + 1 + 1) ag []), (6, K.clo an (K.kcons (K.ptr (0 + 1) ag []) (K.kcons (K.ptr (0 + 1 + 1) (Ty.slc ae) []) K.knil)))] }] aH (lp aJ 2) [(0, K.sl 0 ab), (1, K.clo an (K.kcons (K.ptr (0 + 1) ag []) (K.kcons (K.ptr (0 + 1 + 1) (Ty.slc ae) []) K.knil))), (7, K.val ae (lnx ab (Prod.fst (Prod.snd (Prod.snd n))))), (8, K.val ae 0)] [(0, Bx.row ab (Prod.fst (Prod.snd (Prod.snd n)))), (0 + 1, Bx.cell ag n), (0 + 1 + 1, Bx.cell (Ty.slc ae) nos), (0 + 1 + 1 + 1, Bx.cell ag (zero ag))])))
theorem FE (n : den ag) (nos : den (Ty.slc ae)) : ai gw mQ 5000 [] bF (aA bI) (Env.of (aC At (n, nos, ()) 0) []) = Ck n nos := by kernel_rfl
noncomputable def fG (v7 : den ae) (v8 : den ae) (b0 : List (den ab)) (b1 : den ag) (b2 : den (Ty.slc ae)) (b3 : den ag) : List bY := [{ fx := ar, todo := bC aq 1 2, dst := some 10, s := ofS [(0, K.sl 0 ab), (1, K.clo an (K.kcons (K.ptr (0 + 1) ag []) (K.kcons (K.ptr (0 + 1 + 1) (Ty.slc ae) []) K.knil)))] }, { fx := bF, todo := bC bI 4 4, dst := some 16, s := ofS [(2, K.ptr (0 + 1) ag []), (3, K.ptr (0 + 1 + 1) (Ty.slc ae) []), (4, K.ptr (0 + 1 + 1 + 1) ag []), (6, K.clo an (K.kcons (K.ptr (0 + 1) ag []) (K.kcons (K.ptr (0 + 1 + 1) (Ty.slc ae) []) K.knil)))] }]
noncomputable def fF (v7 : den ae) (v8 : den ae) (b0 : List (den ab)) (b1 : den ag) (b2 : den (Ty.slc ae)) (b3 : den ag) : Env := Env.of [(0, K.sl 0 ab), (1, K.clo an (K.kcons (K.ptr (0 + 1) ag []) (K.kcons (K.ptr (0 + 1 + 1) (Ty.slc ae) []) K.knil))), (7, K.val ae v7), (8, K.val ae v8)] [(0, Bx.row ab b0), (1, Bx.cell ag b1), (2, Bx.cell (Ty.slc ae) b2), (3, Bx.cell ag b3)]
noncomputable def kK (v7 : den ae) (v8 : den ae) (b0 : List (den ab)) (b1 : den ag) (b2 : den (Ty.slc ae)) (b3 : den ag) : af := af.ite (decide (v8 < v7)) (af.req (inB v8 (lnx ab b0)) (af.req (inB v8 (lnx ab b0)) (af.req True (af.ite (cy (Prod.fst (Prod.fst b1)) b2 (el ab b0 v8)) (af.ite (decide (v8 = -1)) (af.req (List.length (Prod.fst (Prod.snd (Prod.snd (Prod.snd b1)))) ≤ bH) (af.loop [{ fx := ar, todo := bC aq 1 2, dst := some 10, s := ofS [(0, K.sl 0 ab), (1, K.clo an (K.kcons (K.ptr (0 + 1) ag []) (K.kcons (K.ptr (0 + 1 + 1) (Ty.slc ae) []) K.knil)))] }, { fx := bF, todo := bC bI 5 4, dst := some 22, s := ofS [(2, K.ptr (0 + 1) ag []), (3, K.ptr (0 + 1 + 1) (Ty.slc ae) []), (4, K.ptr (0 + 1 + 1 + 1) ag []), (6, K.clo an (K.kcons (K.ptr (0 + 1) ag []) (K.kcons (K.ptr (0 + 1 + 1) (Ty.slc ae) []) K.knil)))] }] aH (lp aJ 2) [(0, K.sl 0 ab), (1, K.clo an (K.kcons (K.ptr (0 + 1) ag []) (K.kcons (K.ptr (0 + 1 + 1) (Ty.slc ae) []) K.knil))), (7, K.val ae (lnx ab (Prod.fst (Prod.snd (Prod.snd (Prod.snd b1)))))), (8, K.val ae 0)] [(0, Bx.row ab (Prod.fst (Prod.snd (Prod.snd (Prod.snd b1))))), (0 + 1, Bx.cell ag (Prod.fst b1, Prod.fst (Prod.snd b1), b0, Prod.snd (Prod.snd (Prod.snd b1)))), (0 + 1 + 1, Bx.cell (Ty.slc ae) b2), (0 + 1 + 1 + 1, Bx.cell ag b3)])) (af.loop [{ fx := bF, todo := bC bI 4 4, dst := some 16, s := ofS [(2, K.ptr (0 + 1) ag []), (3, K.ptr (0 + 1 + 1) (Ty.slc ae) []), (4, K.ptr (0 + 1 + 1 + 1) ag []), (6, K.clo an (K.kcons (K.ptr (0 + 1) ag []) (K.kcons (K.ptr (0 + 1 + 1) (Ty.slc ae) []) K.knil)))] }] ar (lp aq 5) [(0, K.sl 0 ab), (1, K.clo an (K.kcons (K.ptr (0 + 1) ag []) (K.kcons (K.ptr (0 + 1 + 1) (Ty.slc ae) []) K.knil))), (5, K.val ae v8), (6, K.val ae (IntKind.wrap IntKind.i64 (v8 + 1)))] [(0, Bx.row ab b0), (0 + 1, Bx.cell ag b1), (0 + 1 + 1, Bx.cell (Ty.slc ae) b2), (0 + 1 + 1 + 1, Bx.cell ag b3)])) (af.loop [{ fx := ar, todo := bC aq 1 2, dst := some 10, s := ofS [(0, K.sl 0 ab), (1, K.clo an (K.kcons (K.ptr (0 + 1) ag []) (K.kcons (K.ptr (0 + 1 + 1) (Ty.slc ae) []) K.knil)))] }, { fx := bF, todo := bC bI 4 4, dst := some 16, s := ofS [(2, K.ptr (0 + 1) ag []), (3, K.ptr (0 + 1 + 1) (Ty.slc ae) []), (4, K.ptr (0 + 1 + 1 + 1) ag []), (6, K.clo an (K.kcons (K.ptr (0 + 1) ag []) (K.kcons (K.ptr (0 + 1 + 1) (Ty.slc ae) []) K.knil)))] }] aH (lp aJ 2) [(0, K.sl 0 ab), (1, K.clo an (K.kcons (K.ptr (0 + 1) ag []) (K.kcons (K.ptr (0 + 1 + 1) (Ty.slc ae) []) K.knil))), (7, K.val ae v7), (8, K.val ae (IntKind.wrap IntKind.i64 (v8 + 1)))] [(0, Bx.row ab b0), (0 + 1, Bx.cell ag b1), (0 + 1 + 1, Bx.cell (Ty.slc ae) b2), (0 + 1 + 1 + 1, Bx.cell ag b3)]))))) (af.ite (decide (-1 = -1)) (af.req (List.length (Prod.fst (Prod.snd (Prod.snd (Prod.snd b1)))) ≤ bH) (af.loop [{ fx := ar, todo := bC aq 1 2, dst := some 10, s := ofS [(0, K.sl 0 ab), (1, K.clo an (K.kcons (K.ptr (0 + 1) ag []) (K.kcons (K.ptr (0 + 1 + 1) (Ty.slc ae) []) K.knil)))] }, { fx := bF, todo := bC bI 5 4, dst := some 22, s := ofS [(2, K.ptr (0 + 1) ag []), (3, K.ptr (0 + 1 + 1) (Ty.slc ae) []), (4, K.ptr (0 + 1 + 1 + 1) ag []), (6, K.clo an (K.kcons (K.ptr (0 + 1) ag []) (K.kcons (K.ptr (0 + 1 + 1) (Ty.slc ae) []) K.knil)))] }] aH (lp aJ 2) [(0, K.sl 0 ab), (1, K.clo an (K.kcons (K.ptr (0 + 1) ag []) (K.kcons (K.ptr (0 + 1 + 1) (Ty.slc ae) []) K.knil))), (7, K.val ae (lnx ab (Prod.fst (Prod.snd (Prod.snd (Prod.snd b1)))))), (8, K.val ae 0)] [(0, Bx.row ab (Prod.fst (Prod.snd (Prod.snd (Prod.snd b1))))), (0 + 1, Bx.cell ag (Prod.fst b1, Prod.fst (Prod.snd b1), b0, Prod.snd (Prod.snd (Prod.snd b1)))), (0 + 1 + 1, Bx.cell (Ty.slc ae) b2), (0 + 1 + 1 + 1, Bx.cell ag b3)])) (af.loop [{ fx := bF, todo := bC bI 4 4, dst := some 16, s := ofS [(2, K.ptr (0 + 1) ag []), (3, K.ptr (0 + 1 + 1) (Ty.slc ae) []), (4, K.ptr (0 + 1 + 1 + 1) ag []), (6, K.clo an (K.kcons (K.ptr (0 + 1) ag []) (K.kcons (K.ptr (0 + 1 + 1) (Ty.slc ae) []) K.knil)))] }] ar (lp aq 5) [(0, K.sl 0 ab), (1, K.clo an (K.kcons (K.ptr (0 + 1) ag []) (K.kcons (K.ptr (0 + 1 + 1) (Ty.slc ae) []) K.knil))), (5, K.val ae (-1)), (6, K.val ae (IntKind.wrap IntKind.i64 (-1 + 1)))] [(0, Bx.row ab b0), (0 + 1, Bx.cell ag b1), (0 + 1 + 1, Bx.cell (Ty.slc ae) b2), (0 + 1 + 1 + 1, Bx.cell ag b3)]))
theorem eQ (v7 : den ae) (v8 : den ae) (b0 : List (den ab)) (b1 : den ag) (b2 : den (Ty.slc ae)) (b3 : den ag) : ai gw mQ 5000 (fG v7 v8 b0 b1 b2 b3) aH (lp aJ 2) (fF v7 v8 b0 b1 b2 b3) = kK v7 v8 b0 b1 b2 b3 := by kernel_rfl
noncomputable def dh (v7 : den ae) (v8 : den ae) (b0 : List (den ab)) (b1 : den ag) (b2 : den (Ty.slc ae)) (b3 : den ag) : List bY := [{ fx := ar, todo := bC aq 1 2, dst := some 10, s := ofS [(0, K.sl 0 ab), (1, K.clo an (K.kcons (K.ptr (0 + 1) ag []) (K.kcons (K.ptr (0 + 1 + 1) (Ty.slc ae) []) K.knil)))] }, { fx := bF, todo := bC bI 5 4, dst := some 22, s := ofS [(2, K.ptr (0 + 1) ag []), (3, K.ptr (0 + 1 + 1) (Ty.slc ae) []), (4, K.ptr (0 + 1 + 1 + 1) ag []), (6, K.clo an (K.kcons (K.ptr (0 + 1) ag []) (K.kcons (K.ptr (0 + 1 + 1) (Ty.slc ae) []) K.knil)))] }]
noncomputable def c7 (v7 : den ae) (v8 : den ae) (b0 : List (den ab)) (b1 : den ag) (b2 : den (Ty.slc ae)) (b3 : den ag) : Env := Env.of [(0, K.sl 0 ab), (1, K.clo an (K.kcons (K.ptr (0 + 1) ag []) (K.kcons (K.ptr (0 + 1 + 1) (Ty.slc ae) []) K.knil))), (7, K.val ae v7), (8, K.val ae v8)] [(0, Bx.row ab b0), (1, Bx.cell ag b1), (2, Bx.cell (Ty.slc ae) b2), (3, Bx.cell ag b3)]
noncomputable def jW (v7 : den ae) (v8 : den ae) (b0 : List (den ab)) (b1 : den ag) (b2 : den (Ty.slc ae)) (b3 : den ag) : af := af.ite (decide (v8 < v7)) (af.req (inB v8 (lnx ab b0)) (af.req (inB v8 (lnx ab b0)) (af.req True (af.ite (cy (Prod.fst (Prod.fst b1)) b2 (el ab b0 v8)) (af.ite (decide (v8 = -1)) (af.ite (decide (lnx ab (Prod.fst (Prod.snd (Prod.snd b1))) = 0)) (af.req True (af.req (da [(!eqb ab (Prod.fst (Prod.snd b1)) noM, true)] True) (af.all (den ab) (fun (q6 : den ab) ↦ q6 = noM) fun (q6 : den ab) ↦ af.ite (bif !eqb ab (Prod.fst (Prod.snd b1)) noM then cy (Prod.fst (Prod.fst b1)) b2 (Prod.fst (Prod.snd b1)) else false) (af.req True (af.all (den ab) (fun (q7 : den ab) ↦ q7 = noM) fun (q7 : den ab) ↦ af.ret (K.val (Ty.pair ag (Ty.pair ae Ty.unit)) ((Prod.fst b1, q7, List.set (List.replicate 1 (zero ab)) 0 (Prod.fst b1), b0, Prod.snd (Prod.snd (Prod.snd (Prod.snd b1)))), 0, PUnit.unit)))) (af.ret (K.val (Ty.pair ag (Ty.pair ae Ty.unit)) ((Prod.fst b1, Prod.fst (Prod.snd b1), List.set (List.replicate 1 (zero ab)) 0 (Prod.fst b1), b0, Prod.snd (Prod.snd (Prod.snd (Prod.snd b1)))), 0, PUnit.unit)))))) (af.req True (af.req (da [(!eqb ab (Prod.fst (Prod.snd b1)) noM, true)] True) (af.all (den ab) (fun (q6 : den ab) ↦ q6 = noM) fun (q6 : den ab) ↦ af.ite (bif !eqb ab (Prod.fst (Prod.snd b1)) noM then cy (Prod.fst (Prod.fst b1)) b2 (Prod.fst (Prod.snd b1)) else false) (af.req True (af.all (den ab) (fun (q7 : den ab) ↦ q7 = noM) fun (q7 : den ab) ↦ af.ret (K.val (Ty.pair ag (Ty.pair ae Ty.unit)) ((Prod.fst b1, q7, Prod.fst (Prod.snd (Prod.snd b1)), b0, Prod.snd (Prod.snd (Prod.snd (Prod.snd b1)))), 0, PUnit.unit)))) (af.ret (K.val (Ty.pair ag (Ty.pair ae Ty.unit)) ((Prod.fst b1, Prod.fst (Prod.snd b1), Prod.fst (Prod.snd (Prod.snd b1)), b0, Prod.snd (Prod.snd (Prod.snd (Prod.snd b1)))), 0, PUnit.unit))))))) (af.loop [{ fx := bF, todo := bC bI 5 4, dst := some 22, s := ofS [(2, K.ptr (0 + 1) ag []), (3, K.ptr (0 + 1 + 1) (Ty.slc ae) []), (4, K.ptr (0 + 1 + 1 + 1) ag []), (6, K.clo an (K.kcons (K.ptr (0 + 1) ag []) (K.kcons (K.ptr (0 + 1 + 1) (Ty.slc ae) []) K.knil)))] }] ar (lp aq 5) [(0, K.sl 0 ab), (1, K.clo an (K.kcons (K.ptr (0 + 1) ag []) (K.kcons (K.ptr (0 + 1 + 1) (Ty.slc ae) []) K.knil))), (5, K.val ae v8), (6, K.val ae (IntKind.wrap IntKind.i64 (v8 + 1)))] [(0, Bx.row ab b0), (0 + 1, Bx.cell ag b1), (0 + 1 + 1, Bx.cell (Ty.slc ae) b2), (0 + 1 + 1 + 1, Bx.cell ag b3)])) (af.loop [{ fx := ar, todo := bC aq 1 2, dst := some 10, s := ofS [(0, K.sl 0 ab), (1, K.clo an (K.kcons (K.ptr (0 + 1) ag []) (K.kcons (K.ptr (0 + 1 + 1) (Ty.slc ae) []) K.knil)))] }, { fx := bF, todo := bC bI 5 4, dst := some 22, s := ofS [(2, K.ptr (0 + 1) ag []), (3, K.ptr (0 + 1 + 1) (Ty.slc ae) []), (4, K.ptr (0 + 1 + 1 + 1) ag []), (6, K.clo an (K.kcons (K.ptr (0 + 1) ag []) (K.kcons (K.ptr (0 + 1 + 1) (Ty.slc ae) []) K.knil)))] }] aH (lp aJ 2) [(0, K.sl 0 ab), (1, K.clo an (K.kcons (K.ptr (0 + 1) ag []) (K.kcons (K.ptr (0 + 1 + 1) (Ty.slc ae) []) K.knil))), (7, K.val ae v7), (8, K.val ae (IntKind.wrap IntKind.i64 (v8 + 1)))] [(0, Bx.row ab b0), (0 + 1, Bx.cell ag b1), (0 + 1 + 1, Bx.cell (Ty.slc ae) b2), (0 + 1 + 1 + 1, Bx.cell ag b3)]))))) (af.ite (decide (-1 = -1)) (af.ite (decide (lnx ab (Prod.fst (Prod.snd (Prod.snd b1))) = 0)) (af.req True (af.req (da [(!eqb ab (Prod.fst (Prod.snd b1)) noM, true)] True) (af.all (den ab) (fun (q6 : den ab) ↦ q6 = noM) fun (q6 : den ab) ↦ af.ite (bif !eqb ab (Prod.fst (Prod.snd b1)) noM then cy (Prod.fst (Prod.fst b1)) b2 (Prod.fst (Prod.snd b1)) else false) (af.req True (af.all (den ab) (fun (q7 : den ab) ↦ q7 = noM) fun (q7 : den ab) ↦ af.ret (K.val (Ty.pair ag (Ty.pair ae Ty.unit)) ((Prod.fst b1, q7, List.set (List.replicate 1 (zero ab)) 0 (Prod.fst b1), b0, Prod.snd (Prod.snd (Prod.snd (Prod.snd b1)))), 0, PUnit.unit)))) (af.ret (K.val (Ty.pair ag (Ty.pair ae Ty.unit)) ((Prod.fst b1, Prod.fst (Prod.snd b1), List.set (List.replicate 1 (zero ab)) 0 (Prod.fst b1), b0, Prod.snd (Prod.snd (Prod.snd (Prod.snd b1)))), 0, PUnit.unit)))))) (af.req True (af.req (da [(!eqb ab (Prod.fst (Prod.snd b1)) noM, true)] True) (af.all (den ab) (fun (q6 : den ab) ↦ q6 = noM) fun (q6 : den ab) ↦ af.ite (bif !eqb ab (Prod.fst (Prod.snd b1)) noM then cy (Prod.fst (Prod.fst b1)) b2 (Prod.fst (Prod.snd b1)) else false) (af.req True (af.all (den ab) (fun (q7 : den ab) ↦ q7 = noM) fun (q7 : den ab) ↦ af.ret (K.val (Ty.pair ag (Ty.pair ae Ty.unit)) ((Prod.fst b1, q7, Prod.fst (Prod.snd (Prod.snd b1)), b0, Prod.snd (Prod.snd (Prod.snd (Prod.snd b1)))), 0, PUnit.unit)))) (af.ret (K.val (Ty.pair ag (Ty.pair ae Ty.unit)) ((Prod.fst b1, Prod.fst (Prod.snd b1), Prod.fst (Prod.snd (Prod.snd b1)), b0, Prod.snd (Prod.snd (Prod.snd (Prod.snd b1)))), 0, PUnit.unit))))))) (af.loop [{ fx := bF, todo := bC bI 5 4, dst := some 22, s := ofS [(2, K.ptr (0 + 1) ag []), (3, K.ptr (0 + 1 + 1) (Ty.slc ae) []), (4, K.ptr (0 + 1 + 1 + 1) ag []), (6, K.clo an (K.kcons (K.ptr (0 + 1) ag []) (K.kcons (K.ptr (0 + 1 + 1) (Ty.slc ae) []) K.knil)))] }] ar (lp aq 5) [(0, K.sl 0 ab), (1, K.clo an (K.kcons (K.ptr (0 + 1) ag []) (K.kcons (K.ptr (0 + 1 + 1) (Ty.slc ae) []) K.knil))), (5, K.val ae (-1)), (6, K.val ae (IntKind.wrap IntKind.i64 (-1 + 1)))] [(0, Bx.row ab b0), (0 + 1, Bx.cell ag b1), (0 + 1 + 1, Bx.cell (Ty.slc ae) b2), (0 + 1 + 1 + 1, Bx.cell ag b3)]))
theorem ed (v7 : den ae) (v8 : den ae) (b0 : List (den ab)) (b1 : den ag) (b2 : den (Ty.slc ae)) (b3 : den ag) : ai gw mQ 5000 (dh v7 v8 b0 b1 b2 b3) aH (lp aJ 2) (c7 v7 v8 b0 b1 b2 b3) = jW v7 v8 b0 b1 b2 b3 := by kernel_rfl
noncomputable def fq (v5 : den ae) (v6 : den ae) (b0 : List (den ab)) (b1 : den ag) (b2 : den (Ty.slc ae)) (b3 : den ag) : List bY := [{ fx := bF, todo := bC bI 4 4, dst := some 16, s := ofS [(2, K.ptr (0 + 1) ag []), (3, K.ptr (0 + 1 + 1) (Ty.slc ae) []), (4, K.ptr (0 + 1 + 1 + 1) ag []), (6, K.clo an (K.kcons (K.ptr (0 + 1) ag []) (K.kcons (K.ptr (0 + 1 + 1) (Ty.slc ae) []) K.knil)))] }]
noncomputable def fu (v5 : den ae) (v6 : den ae) (b0 : List (den ab)) (b1 : den ag) (b2 : den (Ty.slc ae)) (b3 : den ag) : Env := Env.of [(0, K.sl 0 ab), (1, K.clo an (K.kcons (K.ptr (0 + 1) ag []) (K.kcons (K.ptr (0 + 1 + 1) (Ty.slc ae) []) K.knil))), (5, K.val ae v5), (6, K.val ae v6)] [(0, Bx.row ab b0), (1, Bx.cell ag b1), (2, Bx.cell (Ty.slc ae) b2), (3, Bx.cell ag b3)]
noncomputable def kg (v5 : den ae) (v6 : den ae) (b0 : List (den ab)) (b1 : den ag) (b2 : den (Ty.slc ae)) (b3 : den ag) : af := af.ite (decide (v6 < lnx ab b0)) (af.req (inB v6 (lnx ab b0)) (af.req (inB v6 (lnx ab b0)) (af.req True (af.all (den Ty.bool) (fun (q6 : den Ty.bool) ↦ q6 = cy (Prod.fst (Prod.fst b1)) b2 (el ab b0 v6)) fun (q6 : den Ty.bool) ↦ af.ite (!q6) (af.req (inB v5 (lnx ab b0)) (af.req (inB v5 (lnx ab b0)) (af.loop [{ fx := bF, todo := bC bI 4 4, dst := some 16, s := ofS [(2, K.ptr (0 + 1) ag []), (3, K.ptr (0 + 1 + 1) (Ty.slc ae) []), (4, K.ptr (0 + 1 + 1 + 1) ag []), (6, K.clo an (K.kcons (K.ptr (0 + 1) ag []) (K.kcons (K.ptr (0 + 1 + 1) (Ty.slc ae) []) K.knil)))] }] ar (lp aq 5) [(0, K.sl 0 ab), (1, K.clo an (K.kcons (K.ptr (0 + 1) ag []) (K.kcons (K.ptr (0 + 1 + 1) (Ty.slc ae) []) K.knil))), (5, K.val ae (IntKind.wrap IntKind.i64 (v5 + 1))), (6, K.val ae (IntKind.wrap IntKind.i64 (v6 + 1)))] [(0, Bx.row ab (oy ab b0 v5 (el ab b0 v6))), (0 + 1, Bx.cell ag b1), (0 + 1 + 1, Bx.cell (Ty.slc ae) b2), (0 + 1 + 1 + 1, Bx.cell ag b3)]))) (af.loop [{ fx := bF, todo := bC bI 4 4, dst := some 16, s := ofS [(2, K.ptr (0 + 1) ag []), (3, K.ptr (0 + 1 + 1) (Ty.slc ae) []), (4, K.ptr (0 + 1 + 1 + 1) ag []), (6, K.clo an (K.kcons (K.ptr (0 + 1) ag []) (K.kcons (K.ptr (0 + 1 + 1) (Ty.slc ae) []) K.knil)))] }] ar (lp aq 5) [(0, K.sl 0 ab), (1, K.clo an (K.kcons (K.ptr (0 + 1) ag []) (K.kcons (K.ptr (0 + 1 + 1) (Ty.slc ae) []) K.knil))), (5, K.val ae v5), (6, K.val ae (IntKind.wrap IntKind.i64 (v6 + 1)))] [(0, Bx.row ab b0), (0 + 1, Bx.cell ag b1), (0 + 1 + 1, Bx.cell (Ty.slc ae) b2), (0 + 1 + 1 + 1, Bx.cell ag b3)]))))) (af.req (vok 0 (List.length b0) (List.length b0)) (af.req (bL v5 (↑(List.length b0) : Int) (↑(List.length b0 - 0) : Int)) (af.req (vok (0 + Int.toNat v5) (Int.toNat (↑(List.length b0) : Int) - Int.toNat v5) (List.length b0)) (af.req (bL 0 v5 (lnx ab (over b0 (0 + Int.toNat v5) (List.replicate (Int.toNat (↑(List.length b0) : Int) - Int.toNat v5) (zero ab))))) (af.req (List.length (Prod.fst (Prod.snd (Prod.snd (Prod.snd b1)))) ≤ bH) (af.loop [{ fx := ar, todo := bC aq 1 2, dst := some 10, s := ofS [(0, K.sl 0 ab), (1, K.clo an (K.kcons (K.ptr (0 + 1) ag []) (K.kcons (K.ptr (0 + 1 + 1) (Ty.slc ae) []) K.knil)))] }, { fx := bF, todo := bC bI 5 4, dst := some 22, s := ofS [(2, K.ptr (0 + 1) ag []), (3, K.ptr (0 + 1 + 1) (Ty.slc ae) []), (4, K.ptr (0 + 1 + 1 + 1) ag []), (6, K.clo an (K.kcons (K.ptr (0 + 1) ag []) (K.kcons (K.ptr (0 + 1 + 1) (Ty.slc ae) []) K.knil)))] }] aH (lp aJ 2) [(0, K.sl 0 ab), (1, K.clo an (K.kcons (K.ptr (0 + 1) ag []) (K.kcons (K.ptr (0 + 1 + 1) (Ty.slc ae) []) K.knil))), (7, K.val ae (lnx ab (Prod.fst (Prod.snd (Prod.snd (Prod.snd b1)))))), (8, K.val ae 0)] [(0, Bx.row ab (Prod.fst (Prod.snd (Prod.snd (Prod.snd b1))))), (0 + 1, Bx.cell ag (Prod.fst b1, Prod.fst (Prod.snd b1), List.take (Int.toNat v5) (over b0 (0 + Int.toNat v5) (List.replicate (Int.toNat (↑(List.length b0) : Int) - Int.toNat v5) (zero ab))), Prod.snd (Prod.snd (Prod.snd b1)))), (0 + 1 + 1, Bx.cell (Ty.slc ae) b2), (0 + 1 + 1 + 1, Bx.cell ag b3)]))))))
theorem eE (v5 : den ae) (v6 : den ae) (b0 : List (den ab)) (b1 : den ag) (b2 : den (Ty.slc ae)) (b3 : den ag) : ai gw mQ 5000 (fq v5 v6 b0 b1 b2 b3) ar (lp aq 5) (fu v5 v6 b0 b1 b2 b3) = kg v5 v6 b0 b1 b2 b3 := by kernel_rfl
noncomputable def eU (v5 : den ae) (v6 : den ae) (b0 : List (den ab)) (b1 : den ag) (b2 : den (Ty.slc ae)) (b3 : den ag) : List bY := [{ fx := bF, todo := bC bI 5 4, dst := some 22, s := ofS [(2, K.ptr (0 + 1) ag []), (3, K.ptr (0 + 1 + 1) (Ty.slc ae) []), (4, K.ptr (0 + 1 + 1 + 1) ag []), (6, K.clo an (K.kcons (K.ptr (0 + 1) ag []) (K.kcons (K.ptr (0 + 1 + 1) (Ty.slc ae) []) K.knil)))] }]
noncomputable def eZ (v5 : den ae) (v6 : den ae) (b0 : List (den ab)) (b1 : den ag) (b2 : den (Ty.slc ae)) (b3 : den ag) : Env := Env.of [(0, K.sl 0 ab), (1, K.clo an (K.kcons (K.ptr (0 + 1) ag []) (K.kcons (K.ptr (0 + 1 + 1) (Ty.slc ae) []) K.knil))), (5, K.val ae v5), (6, K.val ae v6)] [(0, Bx.row ab b0), (1, Bx.cell ag b1), (2, Bx.cell (Ty.slc ae) b2), (3, Bx.cell ag b3)]
noncomputable def jw (v5 : den ae) (v6 : den ae) (b0 : List (den ab)) (b1 : den ag) (b2 : den (Ty.slc ae)) (b3 : den ag) : af := af.ite (decide (v6 < lnx ab b0)) (af.req (inB v6 (lnx ab b0)) (af.req (inB v6 (lnx ab b0)) (af.req True (af.all (den Ty.bool) (fun (q6 : den Ty.bool) ↦ q6 = cy (Prod.fst (Prod.fst b1)) b2 (el ab b0 v6)) fun (q6 : den Ty.bool) ↦ af.ite (!q6) (af.req (inB v5 (lnx ab b0)) (af.req (inB v5 (lnx ab b0)) (af.loop [{ fx := bF, todo := bC bI 5 4, dst := some 22, s := ofS [(2, K.ptr (0 + 1) ag []), (3, K.ptr (0 + 1 + 1) (Ty.slc ae) []), (4, K.ptr (0 + 1 + 1 + 1) ag []), (6, K.clo an (K.kcons (K.ptr (0 + 1) ag []) (K.kcons (K.ptr (0 + 1 + 1) (Ty.slc ae) []) K.knil)))] }] ar (lp aq 5) [(0, K.sl 0 ab), (1, K.clo an (K.kcons (K.ptr (0 + 1) ag []) (K.kcons (K.ptr (0 + 1 + 1) (Ty.slc ae) []) K.knil))), (5, K.val ae (IntKind.wrap IntKind.i64 (v5 + 1))), (6, K.val ae (IntKind.wrap IntKind.i64 (v6 + 1)))] [(0, Bx.row ab (oy ab b0 v5 (el ab b0 v6))), (0 + 1, Bx.cell ag b1), (0 + 1 + 1, Bx.cell (Ty.slc ae) b2), (0 + 1 + 1 + 1, Bx.cell ag b3)]))) (af.loop [{ fx := bF, todo := bC bI 5 4, dst := some 22, s := ofS [(2, K.ptr (0 + 1) ag []), (3, K.ptr (0 + 1 + 1) (Ty.slc ae) []), (4, K.ptr (0 + 1 + 1 + 1) ag []), (6, K.clo an (K.kcons (K.ptr (0 + 1) ag []) (K.kcons (K.ptr (0 + 1 + 1) (Ty.slc ae) []) K.knil)))] }] ar (lp aq 5) [(0, K.sl 0 ab), (1, K.clo an (K.kcons (K.ptr (0 + 1) ag []) (K.kcons (K.ptr (0 + 1 + 1) (Ty.slc ae) []) K.knil))), (5, K.val ae v5), (6, K.val ae (IntKind.wrap IntKind.i64 (v6 + 1)))] [(0, Bx.row ab b0), (0 + 1, Bx.cell ag b1), (0 + 1 + 1, Bx.cell (Ty.slc ae) b2), (0 + 1 + 1 + 1, Bx.cell ag b3)]))))) (af.req (vok 0 (List.length b0) (List.length b0)) (af.req (bL v5 (↑(List.length b0) : Int) (↑(List.length b0 - 0) : Int)) (af.req (vok (0 + Int.toNat v5) (Int.toNat (↑(List.length b0) : Int) - Int.toNat v5) (List.length b0)) (af.req (bL 0 v5 (lnx ab (over b0 (0 + Int.toNat v5) (List.replicate (Int.toNat (↑(List.length b0) : Int) - Int.toNat v5) (zero ab))))) (af.ite (decide (lnx ab (Prod.fst (Prod.snd (Prod.snd b1))) = 0)) (af.req True (af.req (da [(!eqb ab (Prod.fst (Prod.snd b1)) noM, true)] True) (af.all (den ab) (fun (q6 : den ab) ↦ q6 = noM) fun (q6 : den ab) ↦ af.ite (bif !eqb ab (Prod.fst (Prod.snd b1)) noM then cy (Prod.fst (Prod.fst b1)) b2 (Prod.fst (Prod.snd b1)) else false) (af.req True (af.all (den ab) (fun (q7 : den ab) ↦ q7 = noM) fun (q7 : den ab) ↦ af.ret (K.val (Ty.pair ag (Ty.pair ae Ty.unit)) ((Prod.fst b1, q7, List.set (List.replicate 1 (zero ab)) 0 (Prod.fst b1), List.take (Int.toNat v5) (over b0 (0 + Int.toNat v5) (List.replicate (Int.toNat (↑(List.length b0) : Int) - Int.toNat v5) (zero ab))), Prod.snd (Prod.snd (Prod.snd (Prod.snd b1)))), 0, PUnit.unit)))) (af.ret (K.val (Ty.pair ag (Ty.pair ae Ty.unit)) ((Prod.fst b1, Prod.fst (Prod.snd b1), List.set (List.replicate 1 (zero ab)) 0 (Prod.fst b1), List.take (Int.toNat v5) (over b0 (0 + Int.toNat v5) (List.replicate (Int.toNat (↑(List.length b0) : Int) - Int.toNat v5) (zero ab))), Prod.snd (Prod.snd (Prod.snd (Prod.snd b1)))), 0, PUnit.unit)))))) (af.req True (af.req (da [(!eqb ab (Prod.fst (Prod.snd b1)) noM, true)] True) (af.all (den ab) (fun (q6 : den ab) ↦ q6 = noM) fun (q6 : den ab) ↦ af.ite (bif !eqb ab (Prod.fst (Prod.snd b1)) noM then cy (Prod.fst (Prod.fst b1)) b2 (Prod.fst (Prod.snd b1)) else false) (af.req True (af.all (den ab) (fun (q7 : den ab) ↦ q7 = noM) fun (q7 : den ab) ↦ af.ret (K.val (Ty.pair ag (Ty.pair ae Ty.unit)) ((Prod.fst b1, q7, Prod.fst (Prod.snd (Prod.snd b1)), List.take (Int.toNat v5) (over b0 (0 + Int.toNat v5) (List.replicate (Int.toNat (↑(List.length b0) : Int) - Int.toNat v5) (zero ab))), Prod.snd (Prod.snd (Prod.snd (Prod.snd b1)))), 0, PUnit.unit)))) (af.ret (K.val (Ty.pair ag (Ty.pair ae Ty.unit)) ((Prod.fst b1, Prod.fst (Prod.snd b1), Prod.fst (Prod.snd (Prod.snd b1)), List.take (Int.toNat v5) (over b0 (0 + Int.toNat v5) (List.replicate (Int.toNat (↑(List.length b0) : Int) - Int.toNat v5) (zero ab))), Prod.snd (Prod.snd (Prod.snd (Prod.snd b1)))), 0, PUnit.unit)))))))))))
theorem dU (v5 : den ae) (v6 : den ae) (b0 : List (den ab)) (b1 : den ag) (b2 : den (Ty.slc ae)) (b3 : den ag) : ai gw mQ 5000 (eU v5 v6 b0 b1 b2 b3) ar (lp aq 5) (eZ v5 v6 b0 b1 b2 b3) = jw v5 v6 b0 b1 b2 b3 := by kernel_rfl
end Go.Proofs.Ytimdnodkabnbfaa
namespace Go.Proofs.Ytimdnodkabnbfaa
open Go Go.RowKit
abbrev LL := List (List Mem)
abbrev GCc (O : Nat → Prop) (w0 : World) (bk : Option Nat) (s : LL) := bv prog cF (rcx O w0 bk) (u6 prog O w0 bk ab (s.flatten : List Mem))
theorem uM (s : LL) {i : Nat} (hi : i < s.length) : (s.take (i + 1)).flatten = (s.take i).flatten ++ s[i] := by
 rw [List.take_succ_eq_append_getElem hi, List.flatten_append, List.flatten_cons, List.flatten_nil, List.append_nil]
theorem wV (s : LL) (i : Nat) : (s.take i).flatten.length ≤ s.flatten.length := by
 have h : s.flatten = (s.take i).flatten ++ (s.drop i).flatten := by rw [← List.flatten_append, List.take_append_drop]
 rw [h, List.length_append]; omega
def HV (O : Nat → Prop) (w0 : World) (bk : Option Nat) (s : LL) (hm : s.length ≤ maxLen) (ht : s.flatten.length ≤ 1073741824) :=
 PLift.up <| bl (σ := List Mem) s.length (fun i b => b = (s.take i).flatten)
  (fun i b => GCc O w0 bk s [] aR (lp aQ 11) (jC s (lnx (Ty.slc ab) s) (i : Nat) b))
  (fun i b hi hs ih => lA cp (g8 s _ _ b) (by
   have e := uM s hi
   have hle := wV s (i + 1)
   refine ⟨fun _ => ⟨aU hi, ?_⟩, fun hc => absurd hi (by rw [bO (e := Ty.slc ab)] at hc; exact of_decide_eq_false hc)⟩
   rw [bD (e := Ty.slc ab) hi, bK hi hm, hs, ← e]
   exact ⟨Nat.le_trans hle ht, ih _ rfl⟩))
  (fun b hs => lA cp (g8 s _ _ b) ⟨fun hc => absurd (of_decide_eq_true hc) (Int.lt_irrefl _), fun _ => ⟨(by simp [vok]), by
   show K.val (.slc ab) (pI ab b 0 (List.length b)) = K.val (.slc ab) (s.flatten : List Mem)
   rw [Hs _ rfl, hs, List.take_length]⟩⟩)
theorem HG (O : Nat → Prop) (w0 : World) (bk : Option Nat) (s : LL) (hm : s.length ≤ maxLen) (ht : s.flatten.length ≤ 1073741824) : GCc O w0 bk s [] aR (lp aQ 11) (jF s (lnx (Ty.slc ab) s) 0) :=
  lA cp (nY s _ _) (by
    have hle := wV s (0 + 1)
    refine ⟨fun hc => ?_, fun hc => ?_⟩
    · have hi : 0 < s.length := Int.ofNat_lt.1 (of_decide_eq_true hc)
      have e := uM s hi
      refine ⟨aU hi, ?_⟩
      have e0 : el (Ty.slc ab) s 0 = s[0] := bD (e := Ty.slc ab) hi
      have e1 : (s.take (0 + 1)).flatten = s[0] := by rw [e]; rfl
      rw [e0, show IntKind.wrap .i64 ((0 : Int) + 1) = ((0 + 1 : Nat) : Int) from rfl, ← e1]
      exact ⟨Nat.le_trans hle ht, (HV O w0 bk s hm ht).down 1 _ hi rfl⟩
    · have hi : s.length = 0 := by
        have : ¬ (0 : Int) < ((s.length : Nat) : Int) := of_decide_eq_false hc
        omega
      show K.val (.slc ab) [] = K.val (.slc ab) (s.flatten : List Mem)
      rw [List.eq_nil_of_length_eq_zero hi]
      rfl)
theorem Oo {α : Type} {zs pre ys : List α} (h : zs.take pre.length = pre) (hl : pre.length + ys.length ≤ zs.length) : (over zs pre.length ys).take (pre ++ ys).length = pre ++ ys := by
 rw [List.length_append, O1 (by omega), h]
def Jg (O : Nat → Prop) (w0 : World) (bk : Option Nat) (s : LL) (hm : s.length ≤ maxLen) :=
 PLift.up <| bl (σ := List Mem) s.length (fun i b => b.length = s.flatten.length ∧ b.take (s.take i).flatten.length = (s.take i).flatten)
  (fun i b => GCc O w0 bk s [] aR (lp aQ 11) (kR 0 (s.take i).flatten.length s (lnx (Ty.slc ab) s) (i : Nat) b))
  (fun i b hi hs ih => lA cp (i4 0 _ s _ _ b) (by
   obtain ⟨h1, h2⟩ := hs
   have e := uM s hi
   have el' : (s.take (i + 1)).flatten.length = (s.take i).flatten.length + s[i].length := by rw [e, List.length_append]
   have hle := wV s (i + 1)
   have hle0 := wV s i
   refine ⟨fun _ => ⟨aU hi, ?_⟩, fun hc => absurd hi (by rw [bO (e := Ty.slc ab)] at hc; exact of_decide_eq_false hc)⟩
   rw [bD (e := Ty.slc ab) hi, bK hi hm, Nat.zero_add, ← el', h1]
   refine ⟨(by unfold vok; omega), hle, ih _ ⟨?_, ?_⟩⟩
   ·show (over b (s.take i).flatten.length s[i]).length = _
    rw [Dd (by omega), h1]
   ·have := Oo (ys := s[i]) h2 (by omega)
    rw [← e] at this
    exact this))
  (fun b hs => lA cp (i4 0 _ s _ _ b) ⟨fun hc => absurd (of_decide_eq_true hc) (Int.lt_irrefl _), fun _ => by
   obtain ⟨h1, h2⟩ := hs
   rw [List.take_length] at h2 ⊢
   refine ⟨(by unfold vok; omega), ?_⟩
   show K.val (.slc ab) (pI ab b 0 (s.flatten : List Mem).length) = K.val (.slc ab) (s.flatten : List Mem)
   rw [No, h2]⟩)
def NU (O : Nat → Prop) (w0 : World) (bk : Option Nat) (s : LL) (hm : s.length ≤ maxLen) (ht : s.flatten.length ≤ 1073741824) :=
 PLift.up <| bl (σ := Unit) s.length (fun _ _ => True)
  (fun i _ => GCc O w0 bk s [] aR (lp aQ 3) (lJ s ((s.take i).flatten.length : Nat) s (lnx (Ty.slc ab) s) (i : Nat)))
  (fun i _ hi _ ih => lA cp (jo s _ s _ _) (by
   have e := uM s hi
   have el' : (s.take (i + 1)).flatten.length = (s.take i).flatten.length + s[i].length := by rw [e, List.length_append]
   have hle := wV s (i + 1)
   refine ⟨fun _ => ⟨aU hi, ?_⟩, fun hc => absurd hi (by rw [bO (e := Ty.slc ab)] at hc; exact of_decide_eq_false hc)⟩
   have e2 : IntKind.wrap .i64 ((((s.take i).flatten.length : Nat) : Int) + lnx ab s[i]) = (((s.take (i + 1)).flatten.length : Nat) : Int) := by
    rw [el', show lnx ab s[i] = ((s[i].length : Nat) : Int) from rfl, bE (by omega)]; omega
   rw [bD (e := Ty.slc ab) hi, bK hi hm, e2]
   exact ⟨fun hc => absurd (of_decide_eq_true hc) (by omega), fun _ => ih () trivial⟩))
  (fun _ _ => lA cp (jo s _ s _ _) ⟨fun hc => absurd (of_decide_eq_true hc) (Int.lt_irrefl _), fun _ => by
   rw [List.take_length]
   have e0 : IntKind.wrap .i64 ((((s.flatten : List Mem).length : Nat) : Int) - IntKind.wrap .i64 (0 - 0)) = (((s.flatten : List Mem).length : Nat) : Int) := by
    rw [show IntKind.wrap .i64 ((0 : Int) - 0) = 0 from rfl, bE (by omega)]; omega
   rw [e0]
   refine ⟨fun hc => absurd (of_decide_eq_true hc) (Int.not_lt.2 (Int.natCast_nonneg _)), fun _ => ⟨fun hc => ?_, fun hc => HG O w0 bk s hm ht⟩⟩
   have hc := of_decide_eq_true hc
   rw [Int.toNat_natCast]
   refine ⟨⟨Int.le_refl _, Int.le_refl _, Int.le_refl _⟩, hc, ht, (by simp [vok]), ⟨Int.le_refl _, Int.le_refl _, Int.natCast_nonneg _⟩, ?_⟩
   exact (Jg O w0 bk s hm).down 0 _ (Nat.zero_le _) ⟨List.length_replicate .., rfl⟩⟩)
theorem uk : oG prog [] bS wo :=
 LX cp (fx := aR) rfl uh (by kernel_rfl) (T := fun _ y => mZ y.1) (fun xs y _ => sq y.1) fun O w0 bk xs y hxl hy hp =>
  (NU O w0 bk y.1 hy.1.1 hp).down 0 () (Nat.zero_le _) trivial
end Go.Proofs.Ytimdnodkabnbfaa
namespace Go.Proofs.Ytimdnodkabnbfaa
open Go Go.RowKit
structure kO (g : Mem → Bool) (l : List Mem) (k i : Nat) (b : List Mem) : Prop where
 le : k ≤ i
 il : i ≤ l.length
 len : b.length = l.length
 pre : b.take k = (l.take i).filter (fun m => !g m)
 post : b.drop i = l.drop i
theorem kO.at {g : Mem → Bool} {l b : List Mem} {k i : Nat} (h : kO g l k i b) (hi : i < l.length) (hb : i < b.length) : b[i] = l[i] := by
 have h1 := h.post
 rw [List.drop_eq_getElem_cons hb, List.drop_eq_getElem_cons hi] at h1
 exact (List.cons.inj h1).1
theorem kO.keep {g : Mem → Bool} {l b : List Mem} {k i : Nat} (h : kO g l k i b) (hi : i < l.length) (hg : g l[i] = false) : kO g l (k + 1) (i + 1) (b.set k l[i]) := by
 have h0 := h.le
 have h3 := h.len
 refine ⟨by omega, hi, by rw [List.length_set, h3], ?_, ?_⟩
 ·rw [List.take_succ_eq_append_getElem hi, List.filter_append, ← h.pre, List.take_succ_eq_append_getElem (by rw [List.length_set]; omega), List.getElem_set_self, List.take_set_of_le (Nat.le_refl _)]
  simp [hg]
 ·rw [List.drop_set_of_lt (by omega)]
  have h1 := h.post
  rw [List.drop_eq_getElem_cons (show i < b.length by omega), List.drop_eq_getElem_cons hi] at h1
  exact (List.cons.inj h1).2
theorem kO.skip {g : Mem → Bool} {l b : List Mem} {k i : Nat} (h : kO g l k i b) (hi : i < l.length) (hg : g l[i] = true) : kO g l k (i + 1) b := by
 have h0 := h.le
 have h3 := h.len
 refine ⟨by omega, hi, h3, ?_, ?_⟩
 ·rw [List.take_succ_eq_append_getElem hi, List.filter_append, ← h.pre]
  simp [hg]
 ·have h1 := h.post
  rw [List.drop_eq_getElem_cons (show i < b.length by omega), List.drop_eq_getElem_cons hi] at h1
  exact (List.cons.inj h1).2
theorem kO.first {g : Mem → Bool} {l : List Mem} {i : Nat} (hi : i < l.length) (h0 : ∀ m ∈ l.take i, g m = false) (hg : g l[i] = true) : kO g l i (i + 1) l :=
 ⟨Nat.le_succ _, hi, rfl, by
  rw [List.take_succ_eq_append_getElem hi, List.filter_append, List.filter_eq_self.2 (fun m hm => by simp [h0 m hm])]
  simp [hg], rfl⟩
theorem kO.done {g : Mem → Bool} {l b : List Mem} {k : Nat} (h : kO g l k l.length b) {z : Mem} {n : Nat} : (over b k (List.replicate n z)).take k = l.filter (fun m => !g m) := by
 have h0 := h.le
 have h3 := h.len
 rw [KK (Nat.le_refl _) (by omega), h.pre, List.take_length]
theorem IT {g : Mem → Bool} {l : List Mem} (h0 : ∀ m ∈ l, g m = false) : l.filter (fun m => !g m) = l := List.filter_eq_self.2 (fun m hm => by simp [h0 m hm])
end Go.Proofs.Ytimdnodkabnbfaa
namespace Go.Proofs.Ytimdnodkabnbfaa
open Go Go.RowKit
abbrev GDr (O : Nat → Prop) (w0 : World) (y : Nd) := bv prog gw (Cx.base O w0) (bR prog O w0 jq fun z => z = (y, 0, ()))
theorem eY : XOk prog gw := KB ol vS H7 vI
def lV (n : Nd) (nos : List Int) (f : List Mem) : Nd := (n.1, (bif (bif !decide (n.2.1 = noM) then cy n.1.1 nos n.2.1 else false) then noM else n.2.1), EX n n.2.2.1, f, ())
def O0 (O : Nat → Prop) (w0 : World) (n r : Nd) (nos : List Int) (l : List Mem) (hm : l.length ≤ maxLen) :=
  PLift.up <| bl (σ := Nat × List Mem) l.length (fun i s => kO (cy n.1.1 nos) l s.1 i s.2)
    (fun i s => GDr O w0 (lV n nos (l.filter fun m => !cy n.1.1 nos m)) (eU (s.1 : Nat) (i : Nat) s.2 n nos r) ar (lp aq 5) (eZ (s.1 : Nat) (i : Nat) s.2 n nos r))
    (fun i s hi hs ih => au eY (dU _ _ s.2 n nos r) (by
      obtain ⟨k, b⟩ := s
      have hs : kO (cy n.1.1 nos) l k i b := hs
      have hb : i < b.length := by rw [hs.len]; exact hi
      have hk : k < b.length := by have := hs.le; omega
      have hat := hs.at hi hb
      refine ⟨fun _ => ⟨aU hb, aU hb, trivial, ?_⟩, fun hc => absurd hb (by rw [bO] at hc; exact of_decide_eq_false hc)⟩
      rw [bD hb, hat, bK hi hm, bK (show k < l.length by rw [← hs.len]; exact hk) hm]
      refine bp ⟨fun hc => ⟨aU hk, aU hk, ih (k + 1, b.set k l[i]) (hs.keep hi ?_)⟩, fun hc => ih (k, b) (hs.skip hi ?_)⟩
      · have hc : (!cy n.1.1 nos l[i]) = true := hc
        simpa using hc
      · have hc : (!cy n.1.1 nos l[i]) = false := hc
        simpa using hc))
    (fun s hs => au eY (dU _ _ s.2 n nos r) (by
      obtain ⟨k, b⟩ := s
      have hs : kO (cy n.1.1 nos) l k l.length b := hs
      have hl := hs.len
      have hle := hs.le
      refine ⟨fun hc => absurd (of_decide_eq_true hc) (by rw [show lnx ab b = ((l.length : Nat) : Int) from congrArg Nat.cast hl]; exact Int.lt_irrefl _), fun _ => ⟨(by simp [vok]), (show bL ((k : Nat) : Int) ((b.length : Nat) : Int) ((b.length - 0 : Nat) : Int) from ⟨by omega, by omega, by omega⟩), (by simp [vok]; omega), ?_, ?_⟩⟩
      · have : lnx ab (over b (0 + Int.toNat ((k : Nat) : Int)) (List.replicate (Int.toNat ((b.length : Nat) : Int) - Int.toNat ((k : Nat) : Int)) (zero ab))) = ((b.length : Nat) : Int) := congrArg Nat.cast (Dd (by rw [List.length_replicate]; simp only [Int.toNat_natCast]; omega))
        show bL 0 ((k : Nat) : Int) (lnx ab (over b (0 + Int.toNat ((k : Nat) : Int)) (List.replicate (Int.toNat ((b.length : Nat) : Int) - Int.toNat ((k : Nat) : Int)) (zero ab))))
        rw [this]
        exact ⟨Int.le_refl _, by omega, by omega⟩
      · have hF : List.take (Int.toNat ((k : Nat) : Int)) (over b (0 + Int.toNat ((k : Nat) : Int)) (List.replicate (Int.toNat ((b.length : Nat) : Int) - Int.toNat ((k : Nat) : Int)) (zero ab))) = l.filter fun m => !cy n.1.1 nos m := by
          simp only [Int.toNat_natCast, Nat.zero_add]
          exact hs.done
        have fin : ∀ {p : Nd}, lV n nos (l.filter fun m => !cy n.1.1 nos m) = p → ∃ z, bu jq (K.val (Ty.pair ag (Ty.pair ae Ty.unit)) (p, 0, ())) = some z ∧ z = (lV n nos (l.filter fun m => !cy n.1.1 nos m), 0, ()) := fun {p} e => ⟨_, rfl, by rw [e]⟩
        rw [← hF] at fin ⊢
        have cases2 : ∀ {su : List Mem}, EX n n.2.2.1 = su → True := fun _ => trivial
        refine ⟨fun h => ⟨trivial, fun _ => trivial, bp ⟨fun h2 => ⟨trivial, bp (fin ?_)⟩, fun h2 => fin ?_⟩⟩, fun h => ⟨trivial, fun _ => trivial, bp ⟨fun h2 => ⟨trivial, bp (fin ?_)⟩, fun h2 => fin ?_⟩⟩⟩
        all_goals
          rw [kB] at h2
          unfold lV EX
          rw [h, h2]
          rfl))
theorem G7 {g : Mem → Bool} {l : List Mem} {i : Nat} (hi : i < l.length) (h : ∀ m ∈ l.take i, g m = false) (hg : g l[i] = false) : ∀ m ∈ l.take (i + 1), g m = false := fun m hm => by
 rw [List.take_succ_eq_append_getElem hi] at hm
 rcases List.mem_append.1 hm with hm | hm
 ·exact h m hm
 ·rw [List.mem_singleton.1 hm]; exact hg
def Od (O : Nat → Prop) (w0 : World) (n r : Nd) (nos : List Int) (l : List Mem) (hm : l.length ≤ maxLen) :=
 PLift.up <| bl (σ := Unit) l.length (fun i _ => ∀ m ∈ l.take i, cy n.1.1 nos m = false)
  (fun i _ => GDr O w0 (lV n nos (l.filter fun m => !cy n.1.1 nos m)) (dh (lnx ab l) (i : Nat) l n nos r) aH (lp aJ 2) (c7 (lnx ab l) (i : Nat) l n nos r))
  (fun i _ hi hs ih => au eY (ed _ _ l n nos r) (by
   refine ⟨fun _ => ⟨aU hi, aU hi, trivial, ?_⟩, fun hc => absurd hi (by rw [bO] at hc; exact of_decide_eq_false hc)⟩
   rw [bD hi, bK hi hm]
   refine ⟨fun hg => ⟨fun hc => ?_, fun _ => (O0 O w0 n r nos l hm).down (i + 1) (i, l) hi (.first hi hs hg)⟩, fun hg => ih () (G7 hi hs hg)⟩
   have hc : ((i : Nat) : Int) = -1 := of_decide_eq_true hc
   omega))
  (fun _ hs => au eY (ed _ _ l n nos r) (by
   rw [List.take_length] at hs
   have hF := IT hs
   refine ⟨fun hc => absurd (of_decide_eq_true hc) (Int.lt_irrefl _), fun _ => ⟨fun _ => ?_, fun hc => (by cases hc)⟩⟩
   rw [hF]
   have fin : ∀ {p : Nd}, lV n nos l = p → ∃ z, bu jq (K.val (Ty.pair ag (Ty.pair ae Ty.unit)) (p, 0, ())) = some z ∧ z = (lV n nos l, 0, ()) := fun {p} e => ⟨_, rfl, by rw [e]⟩
   refine ⟨fun h => ⟨trivial, fun _ => trivial, bp ⟨fun h2 => ⟨trivial, bp (fin ?_)⟩, fun h2 => fin ?_⟩⟩, fun h => ⟨trivial, fun _ => trivial, bp ⟨fun h2 => ⟨trivial, bp (fin ?_)⟩, fun h2 => fin ?_⟩⟩⟩
   all_goals
    rw [kB] at h2
    unfold lV EX
    rw [h, h2]
    rfl))
theorem QN (n : Nd) (nos : List Int) : lV (n.1, n.2.1, n.2.2.1.filter (fun m => !cy n.1.1 nos m), n.2.2.2) nos (n.2.2.2.1.filter fun m => !cy n.1.1 nos m) = Bk n nos := rfl
theorem GY (O : Nat → Prop) (w0 : World) (n r : Nd) (nos : List Int) (su : List Mem) (hsu : su = n.2.2.1.filter (fun m => !cy n.1.1 nos m)) (hf : n.2.2.2.1.length ≤ 16) :
    GDr O w0 (Bk n nos) (dh (lnx ab n.2.2.2.1) 0 n.2.2.2.1 (n.1, n.2.1, su, n.2.2.2) nos r) aH (lp aJ 2) (c7 (lnx ab n.2.2.2.1) 0 n.2.2.2.1 (n.1, n.2.1, su, n.2.2.2) nos r) := by
  subst hsu
  rw [← QN]
  exact (Od O w0 (n.1, n.2.1, n.2.2.1.filter (fun m => !cy n.1.1 nos m), n.2.2.2) r nos n.2.2.2.1 (Nat.le_trans hf (by decide))).down 0 () (Nat.zero_le _) (fun m hm => by cases hm)
def OS (O : Nat → Prop) (w0 : World) (n r : Nd) (nos : List Int) (hm : n.2.2.1.length ≤ maxLen) (hf : n.2.2.2.1.length ≤ 16) :=
 PLift.up <| bl (σ := Nat × List Mem) n.2.2.1.length (fun i s => kO (cy n.1.1 nos) n.2.2.1 s.1 i s.2)
  (fun i s => GDr O w0 (Bk n nos) (fq (s.1 : Nat) (i : Nat) s.2 n nos r) ar (lp aq 5) (fu (s.1 : Nat) (i : Nat) s.2 n nos r))
  (fun i s hi hs ih => au eY (eE _ _ s.2 n nos r) (by
   obtain ⟨k, b⟩ := s
   have hs : kO (cy n.1.1 nos) n.2.2.1 k i b := hs
   have hb : i < b.length := by rw [hs.len]; exact hi
   have hk : k < b.length := by have := hs.le; omega
   have hat := hs.at hi hb
   refine ⟨fun _ => ⟨aU hb, aU hb, trivial, ?_⟩, fun hc => absurd hb (by rw [bO] at hc; exact of_decide_eq_false hc)⟩
   rw [bD hb, hat, bK hi hm, bK (show k < n.2.2.1.length by rw [← hs.len]; exact hk) hm]
   refine bp ⟨fun hc => ⟨aU hk, aU hk, ih (k + 1, b.set k n.2.2.1[i]) (hs.keep hi ?_)⟩, fun hc => ih (k, b) (hs.skip hi ?_)⟩
   ·have hc : (!cy n.1.1 nos n.2.2.1[i]) = true := hc
    simpa using hc
   ·have hc : (!cy n.1.1 nos n.2.2.1[i]) = false := hc
    simpa using hc))
  (fun s hs => au eY (eE _ _ s.2 n nos r) (by
   obtain ⟨k, b⟩ := s
   have hs : kO (cy n.1.1 nos) n.2.2.1 k n.2.2.1.length b := hs
   have hl := hs.len
   have hle := hs.le
   refine ⟨fun hc => absurd (of_decide_eq_true hc) (by rw [show lnx ab b = ((n.2.2.1.length : Nat) : Int) from congrArg Nat.cast hl]; exact Int.lt_irrefl _), fun _ => ⟨(by simp [vok]), (show bL ((k : Nat) : Int) ((b.length : Nat) : Int) ((b.length - 0 : Nat) : Int) from ⟨by omega, by omega, by omega⟩), (by simp [vok]; omega), ?_, Nat.le_trans hf (by decide), ?_⟩⟩
   ·have : lnx ab (over b (0 + Int.toNat ((k : Nat) : Int)) (List.replicate (Int.toNat ((b.length : Nat) : Int) - Int.toNat ((k : Nat) : Int)) (zero ab))) = ((b.length : Nat) : Int) := congrArg Nat.cast (Dd (by rw [List.length_replicate]; simp only [Int.toNat_natCast]; omega))
    show bL 0 ((k : Nat) : Int) (lnx ab (over b (0 + Int.toNat ((k : Nat) : Int)) (List.replicate (Int.toNat ((b.length : Nat) : Int) - Int.toNat ((k : Nat) : Int)) (zero ab))))
    rw [this]
    exact ⟨Int.le_refl _, by omega, by omega⟩
   ·refine GY O w0 n r nos _ ?_ hf
    simp only [Int.toNat_natCast, Nat.zero_add]
    exact hs.done))
def N7 (O : Nat → Prop) (w0 : World) (n r : Nd) (nos : List Int) (hm : n.2.2.1.length ≤ maxLen) (hf : n.2.2.2.1.length ≤ 16) :=
 PLift.up <| bl (σ := Unit) n.2.2.1.length (fun i _ => ∀ m ∈ n.2.2.1.take i, cy n.1.1 nos m = false)
  (fun i _ => GDr O w0 (Bk n nos) (fG (lnx ab n.2.2.1) (i : Nat) n.2.2.1 n nos r) aH (lp aJ 2) (fF (lnx ab n.2.2.1) (i : Nat) n.2.2.1 n nos r))
  (fun i _ hi hs ih => au eY (eQ _ _ n.2.2.1 n nos r) (by
   refine ⟨fun _ => ⟨aU hi, aU hi, trivial, ?_⟩, fun hc => absurd hi (by rw [bO] at hc; exact of_decide_eq_false hc)⟩
   rw [bD hi, bK hi hm]
   refine ⟨fun hg => ⟨fun hc => ?_, fun _ => (OS O w0 n r nos hm hf).down (i + 1) (i, n.2.2.1) hi (.first hi hs hg)⟩, fun hg => ih () (G7 hi hs hg)⟩
   have hc : ((i : Nat) : Int) = -1 := of_decide_eq_true hc
   omega))
  (fun _ hs => au eY (eQ _ _ n.2.2.1 n nos r) (by
   rw [List.take_length] at hs
   exact ⟨fun hc => absurd (of_decide_eq_true hc) (Int.lt_irrefl _), fun _ => ⟨fun _ => ⟨Nat.le_trans hf (by decide), GY O w0 n r nos n.2.2.1 (IT hs).symm hf⟩, fun hc => (by cases hc)⟩⟩))
theorem Jz {n : Nd} (h : aT n = true) : n.2.2.1.length ≤ 4 ∧ 1 ≤ n.2.2.1.length ∧ n.2.2.2.1.length ≤ 16 := by
 unfold aT w9 at h
 simp only [Bool.cond_eq_ite, Bool.ite_eq_true_distrib] at h
 have e1 : lnx ab n.2.2.1 = ((n.2.2.1.length : Nat) : Int) := rfl
 have e2 : lnx ab n.2.2.2.1 = ((n.2.2.2.1.length : Nat) : Int) := rfl
 rw [e1, e2] at h
 by_cases h1 : (1 : Int) ≤ ((n.2.2.1.length : Nat) : Int) <;> by_cases h2 : ((n.2.2.1.length : Nat) : Int) ≤ 4 <;> by_cases h3 : ((n.2.2.2.1.length : Nat) : Int) ≤ 16 <;> simp [h1, h2, h3] at h
 exact ⟨by omega, by omega, by omega⟩
theorem LH : ak prog [] pT pL :=
 bq (S := pL) eY (fx := bF) Jr (by kernel_rfl) (fun _ _ => trivial) (T := fun x => Ck x.1 x.2.1) (fun x => FE x.1 x.2.1) fun O w0 x _ _ => by
  obtain ⟨n, nos, ⟨⟩⟩ := x
  refine ⟨trivial, bp ⟨fun h => ⟨_, rfl, ?_⟩, fun h => ?_⟩⟩
  ·have h : (!aT n) = true := h
   show _ = ((ib n nos).1, (ib n nos).2, ())
   unfold ib
   rw [h]
   rfl
  ·have h : (!aT n) = false := h
   have hr : aT n = true := by simpa using h
   obtain ⟨l1, l2, l3⟩ := Jz hr
   refine ⟨Nat.le_trans l1 (by decide), ?_⟩
   have e : ib n nos = (Bk n nos, 0) := by unfold ib; rw [h]; rfl
   show bv _ _ _ (bR prog O w0 jq fun z => z = ((ib n nos).1, (ib n nos).2, ())) _ _ _ _
   rw [e]
   exact (N7 O w0 n (zero ag) nos (Nat.le_trans l1 (by decide)) l3).down 0 () (Nat.zero_le _) (fun m hm => by cases hm)
end Go.Proofs.Ytimdnodkabnbfaa
namespace Go.Proofs.Ytimdnodkabnbfaa
open Go Go.RowKit
noncomputable abbrev nE : bg := ⟨Ed, E9, fun x => (db x.1, ()), fun _ => True, true⟩
noncomputable abbrev sj : bg := ⟨BQ, CO, fun x => (decide (x.1 = noM), ()), fun _ => True, true⟩
noncomputable abbrev nZ : bg := ⟨yL, qT, fun x => (cu x.1 x.2.1, ()), fun _ => True, true⟩
noncomputable abbrev p8 : bg := ⟨Ap, zk, fun x => (aT x.1, ()), fun _ => True, true⟩
def aj (l : List Nd) : List Mem := l.map sfN
def bM (n : Nd) : List Mem := [n.2.1] ++ n.2.2.1 ++ n.2.2.2.1
def xy (l : List Nd) (no : Int) : Bool := l.any fun n => decide (n.1.1 = no)
noncomputable abbrev ii : bg := ⟨xv, pB, fun x => (aj x.1.1, ()), fun x => List.length x.1.1 ≤ 1000000, false⟩
noncomputable abbrev pY : bg := ⟨zc, Ad, fun x => (bM x.1, ()), fun x => (bM x.1).length ≤ 1000000, false⟩
end Go.Proofs.Ytimdnodkabnbfaa
