/- Part 9 of 10 of what this claim's proof stands on: a theory of programs on data, and the contracts of the functions that the law reaches. It holds no condition of its own. -/
import Derived.Test.YtimdnodkabnbfaaCA8
namespace Go.Proofs.Ytimdnodkabnbfaa
open Go Go.RowKit
noncomputable abbrev Cc : Fx := { fn := yJ, ann := { } }
noncomputable abbrev Ei : a7 := { D := { T := a8, F := [], R := [], ovl := [] }, inl := [] }
noncomputable abbrev Mc : bo := .data Bv
theorem K1 : XOk prog Ei := xok ((aI aS aC)) (by kernel_rfl) aK aW aV
noncomputable def Em (m : den ab) : af := af.ret (K.val (Ty.pair Ty.bool Ty.unit) (bif decide (0 ≤ Prod.fst m) then decide (Prod.fst m ≤ 15) else false, PUnit.unit))
theorem HF (m : den ab) : aj Ei Mc 5000 [] Cc (az yJ) (Env.of (aF BQ (m, ()) 0) []) = Em m := by kernel_rfl
noncomputable abbrev z5 : Fx := { fn := vM, ann := { } }
noncomputable abbrev CN : a7 := { D := { T := a8, F := [], R := [], ovl := [] }, inl := [] }
noncomputable abbrev JV : bo := .data zR
theorem Kx : XOk prog CN := xok ((aI aS aC)) (by kernel_rfl) aK aW aV
noncomputable def Cl (m : den ab) : af := af.ret (K.val (Ty.pair Ty.bool Ty.unit) (bif decide (Prod.fst m = -1) then eqb tId (Prod.fst (Prod.snd m)) (List.replicate 32 (zero (Ty.int IntKind.u8))) else false, PUnit.unit))
theorem Ft (m : den ab) : aj CN JV 5000 [] z5 (az vM) (Env.of (aF Ac (m, ()) 0) []) = Cl m := by kernel_rfl
noncomputable abbrev cO : Fx := { fn := cN, ann := { loops := [(2, { keep := [0, 1, 9, 10, 11] }), (7, { keep := [0, 1, 6, 9, 10, 11, 27, 28, 29] })] } }
noncomputable abbrev iG : a7 := { D := { T := a8, F := [(mK, mG)], R := [], ovl := [] }, inl := [] }
noncomputable abbrev rM : bo := .data pH
theorem Gs (h_r09_may : ap prog [] mK mG) : XOk prog iG := xok (au (aI aS aC) h_r09_may) (by kernel_rfl) aK aW aV
noncomputable def yz (l : den (Ty.slc ab)) (no : den ae) : af := af.loop [] cO (lp cN 2) [(0, K.val (Ty.slc ab) l), (1, K.val ae no), (9, K.val (Ty.slc ab) l), (10, K.val ae (lnx ab l)), (11, K.val ae 0)] []
theorem BD (l : den (Ty.slc ab)) (no : den ae) : aj iG rM 5000 [] cO (az cN) (Env.of (aF ws (l, no, ()) 0) []) = yz l no := by kernel_rfl
noncomputable def oa (v0 : den (Ty.slc ab)) (v1 : den ae) (v9 : den (Ty.slc ab)) (v10 : den ae) (v11 : den ae) : Env := Env.of [(0, K.val (Ty.slc ab) v0), (1, K.val ae v1), (9, K.val (Ty.slc ab) v9), (10, K.val ae v10), (11, K.val ae v11)] []
noncomputable def Ca (v0 : den (Ty.slc ab)) (v1 : den ae) (v9 : den (Ty.slc ab)) (v10 : den ae) (v11 : den ae) : af := af.ite (decide (v11 < v10)) (af.req (inB v11 (lnx ab v9)) (af.req True (af.ite (bif !co (el ab v9 v11) then true else decide (Prod.fst (el ab v9 v11) = v1)) (af.ret (K.val (Ty.pair Ty.bool Ty.unit) (false, PUnit.unit))) (af.req (bE 0 v11 (lnx ab v0)) (af.loop [] cO (lp cN 7) [(0, K.val (Ty.slc ab) v0), (1, K.val ae v1), (6, K.ptr 0 ab []), (9, K.val (Ty.slc ab) v9), (10, K.val ae v10), (11, K.val ae v11), (27, K.val (Ty.slc ab) (dV ab v0 0 v11)), (28, K.val ae (lnx ab (dV ab v0 0 v11))), (29, K.val ae 0)] [(0, Bx.cell ab (el ab v9 v11))]))))) (af.ret (K.val (Ty.pair Ty.bool Ty.unit) (true, PUnit.unit)))
theorem po (v0 : den (Ty.slc ab)) (v1 : den ae) (v9 : den (Ty.slc ab)) (v10 : den ae) (v11 : den ae) : aj iG rM 5000 [] cO (lp cN 2) (oa v0 v1 v9 v10 v11) = Ca v0 v1 v9 v10 v11 := by kernel_rfl
noncomputable def uu (v0 : den (Ty.slc ab)) (v1 : den ae) (v9 : den (Ty.slc ab)) (v10 : den ae) (v11 : den ae) (v27 : den (Ty.slc ab)) (v28 : den ae) (v29 : den ae) (b0 : den ab) : Env := Env.of [(0, K.val (Ty.slc ab) v0), (1, K.val ae v1), (6, K.ptr 0 ab []), (9, K.val (Ty.slc ab) v9), (10, K.val ae v10), (11, K.val ae v11), (27, K.val (Ty.slc ab) v27), (28, K.val ae v28), (29, K.val ae v29)] [(0, Bx.cell ab b0)]
noncomputable def Ce (v0 : den (Ty.slc ab)) (v1 : den ae) (v9 : den (Ty.slc ab)) (v10 : den ae) (v11 : den ae) (v27 : den (Ty.slc ab)) (v28 : den ae) (v29 : den ae) (b0 : den ab) : af := af.ite (decide (v29 < v28)) (af.req (inB v29 (lnx ab v27)) (af.ite (decide (Prod.fst (el ab v27 v29) = Prod.fst b0)) (af.ret (K.val (Ty.pair Ty.bool Ty.unit) (false, PUnit.unit))) (af.loop [] cO (lp cN 7) [(0, K.val (Ty.slc ab) v0), (1, K.val ae v1), (6, K.ptr 0 ab []), (9, K.val (Ty.slc ab) v9), (10, K.val ae v10), (11, K.val ae v11), (27, K.val (Ty.slc ab) v27), (28, K.val ae v28), (29, K.val ae (IntKind.wrap IntKind.i64 (v29 + 1)))] [(0, Bx.cell ab b0)]))) (af.loop [] cO (lp cN 2) [(0, K.val (Ty.slc ab) v0), (1, K.val ae v1), (9, K.val (Ty.slc ab) v9), (10, K.val ae v10), (11, K.val ae (IntKind.wrap IntKind.i64 (v11 + 1)))] [])
theorem pc (v0 : den (Ty.slc ab)) (v1 : den ae) (v9 : den (Ty.slc ab)) (v10 : den ae) (v11 : den ae) (v27 : den (Ty.slc ab)) (v28 : den ae) (v29 : den ae) (b0 : den ab) : aj iG rM 5000 [] cO (lp cN 7) (uu v0 v1 v9 v10 v11 v27 v28 v29 b0) = Ce v0 v1 v9 v10 v11 v27 v28 v29 b0 := by kernel_rfl
noncomputable abbrev yO : Fx := { fn := tB, ann := { } }
noncomputable abbrev Ah : a7 := { D := { T := a8, F := [(mK, mG), (gC, gQ), (nv, ne)], R := [], ovl := [] }, inl := [] }
noncomputable abbrev Ib : bo := .data yh
theorem It (h_r09_may : ap prog [] mK mG) (h_r09_None : ap prog [] gC gQ) (h_r09_unlike : ap prog [] nv ne) : XOk prog Ah := xok (au (au (au (aI aS aC) h_r09_unlike) h_r09_None) h_r09_may) (by kernel_rfl) aK aW aV
noncomputable def zG (n : den ag) : af := af.req True (af.req (cG [(!co (Prod.fst n), false)] True) (af.req (cG [(!co (Prod.fst n), false), (!decide (Prod.fst (Prod.snd n) = noM), true)] True) (af.ite (bif !co (Prod.fst n) then true else bif !decide (Prod.fst (Prod.snd n) = noM) then bif !co (Prod.fst (Prod.snd n)) then true else decide (Prod.fst (Prod.fst (Prod.snd n)) = Prod.fst (Prod.fst n)) else false) (af.ret (K.val (Ty.pair Ty.bool Ty.unit) (false, PUnit.unit))) (af.req (cG [(bif bif decide (lnx ab (Prod.fst (Prod.snd (Prod.snd n))) < 1) then true else decide (4 < lnx ab (Prod.fst (Prod.snd (Prod.snd n)))) then true else decide (16 < lnx ab (Prod.fst (Prod.snd (Prod.snd (Prod.snd n))))), false)] True) (af.ite (bif bif bif decide (lnx ab (Prod.fst (Prod.snd (Prod.snd n))) < 1) then true else decide (4 < lnx ab (Prod.fst (Prod.snd (Prod.snd n)))) then true else decide (16 < lnx ab (Prod.fst (Prod.snd (Prod.snd (Prod.snd n))))) then true else !bL (Prod.fst (Prod.snd (Prod.snd (Prod.snd n)))) (Prod.fst (Prod.fst n))) (af.ret (K.val (Ty.pair Ty.bool Ty.unit) (false, PUnit.unit))) (af.req (cG [(decide (lnx ab (Prod.fst (Prod.snd (Prod.snd n))) = 1), true)] (inB 0 (lnx ab (Prod.fst (Prod.snd (Prod.snd n)))))) (af.req (cG [(bif decide (lnx ab (Prod.fst (Prod.snd (Prod.snd n))) = 1) then eqb ab (el ab (Prod.fst (Prod.snd (Prod.snd n))) 0) (Prod.fst n) else false, false)] True) (af.ret (K.val (Ty.pair Ty.bool Ty.unit) (bif bif decide (lnx ab (Prod.fst (Prod.snd (Prod.snd n))) = 1) then eqb ab (el ab (Prod.fst (Prod.snd (Prod.snd n))) 0) (Prod.fst n) else false then true else bL (Prod.fst (Prod.snd (Prod.snd n))) (Prod.fst (Prod.fst n)), PUnit.unit))))))))))
theorem Ea (n : den ag) : aj Ah Ib 5000 [] yO (az tB) (Env.of (aF yC (n, ()) 0) []) = zG n := by kernel_rfl
noncomputable abbrev fZ : Fx := { fn := fG, ann := { loops := [(3, { keep := [3, 8, 9, 10] })] }, own := [6] }
noncomputable abbrev mc : a7 := { D := { T := a8, F := [], R := [], ovl := [] }, inl := [] }
noncomputable abbrev wK : bo := .data n5
theorem pM : XOk prog mc := xok ((aI aS aC)) (by kernel_rfl) aK aW aV
noncomputable def wP (o : den ah) : af := af.loop [] fZ (lp fG 3) [(3, K.sl 0 ab), (8, K.val (Ty.slc ag) (Prod.fst o)), (9, K.val ae (lnx ag (Prod.fst o))), (10, K.val ae 0)] [(0, Bx.row ab (List.replicate 0 (zero ab)))]
theorem AE (o : den ah) : aj mc wK 5000 [] fZ (az fG) (Env.of (aF uE (o, ()) 0) []) = wP o := by kernel_rfl
noncomputable def sm (v8 : den (Ty.slc ag)) (v9 : den ae) (v10 : den ae) (b0 : List (den ab)) : Env := Env.of [(3, K.sl 0 ab), (8, K.val (Ty.slc ag) v8), (9, K.val ae v9), (10, K.val ae v10)] [(0, Bx.row ab b0)]
noncomputable def Bu (v8 : den (Ty.slc ag)) (v9 : den ae) (v10 : den ae) (b0 : List (den ab)) : af := af.ite (decide (v10 < v9)) (af.req (inB v10 (lnx ag v8)) (af.req (List.length (b0 ++ List.set (List.replicate 1 (zero ab)) 0 (Prod.fst (el ag v8 v10))) ≤ bF) (af.loop [] fZ (lp fG 3) [(3, K.sl 0 ab), (8, K.val (Ty.slc ag) v8), (9, K.val ae v9), (10, K.val ae (IntKind.wrap IntKind.i64 (v10 + 1)))] [(0, Bx.row ab (b0 ++ List.set (List.replicate 1 (zero ab)) 0 (Prod.fst (el ag v8 v10))))]))) (af.ret (K.val (Ty.pair (Ty.slc ab) Ty.unit) (b0, PUnit.unit)))
theorem nJ (v8 : den (Ty.slc ag)) (v9 : den ae) (v10 : den ae) (b0 : List (den ab)) : aj mc wK 5000 [] fZ (lp fG 3) (sm v8 v9 v10 b0) = Bu v8 v9 v10 b0 := by kernel_rfl
noncomputable abbrev x8 : Fx := { fn := tE, ann := { }, own := [6] }
noncomputable abbrev zM : a7 := { D := { T := a8, F := [], R := [], ovl := [] }, inl := [] }
noncomputable abbrev HT : bo := .data xF
theorem Im : XOk prog zM := xok ((aI aS aC)) (by kernel_rfl) aK aW aV
noncomputable def zU (n : den ag) : af := af.req (List.length (List.set (List.replicate 1 (zero ab)) 0 (Prod.fst (Prod.snd n)) ++ Prod.fst (Prod.snd (Prod.snd n))) ≤ bF) (af.req (List.length (List.set (List.replicate 1 (zero ab)) 0 (Prod.fst (Prod.snd n)) ++ Prod.fst (Prod.snd (Prod.snd n)) ++ Prod.fst (Prod.snd (Prod.snd (Prod.snd n)))) ≤ bF) (af.ret (K.val (Ty.pair (Ty.slc ab) Ty.unit) (List.set (List.replicate 1 (zero ab)) 0 (Prod.fst (Prod.snd n)) ++ Prod.fst (Prod.snd (Prod.snd n)) ++ Prod.fst (Prod.snd (Prod.snd (Prod.snd n))), PUnit.unit))))
theorem DS (n : den ag) : aj zM HT 5000 [] x8 (az tE) (Env.of (aF xC (n, ()) 0) []) = zU n := by kernel_rfl
noncomputable abbrev yT : Fx := { fn := t9, ann := { } }
noncomputable abbrev zP : a7 := { D := { T := a8, F := [(gt, gA), (lc, kY)], R := [], ovl := [] }, inl := [] }
noncomputable abbrev IV : bo := .data yB
theorem HZ (h_r10_Members : ap prog [] gt gA) (h_r07_Find : ap prog [] lc kY) : XOk prog zP := xok (au (au (aI aS aC) h_r07_Find) h_r10_Members) (by kernel_rfl) aK aW aV
noncomputable def zS (o : den ah) (no : den ae) : af := af.req (List.length (Prod.fst o) ≤ 1000000) (af.req True (af.ret (K.val (Ty.pair Ty.bool Ty.unit) (bif decide (Prod.fst (ku (bH (Prod.fst o)) no) = no) then decide (0 ≤ no) else false, PUnit.unit))))
theorem D9 (o : den ah) (no : den ae) : aj zP IV 5000 [] yT (az t9) (Env.of (aF yZ (o, no, ()) 0) []) = zS o no := by kernel_rfl
noncomputable abbrev ll : Fx := { fn := kL, ann := { loops := [(2, { keep := [1, 4, 8, 9, 10] })] } }
noncomputable abbrev sV : a7 := { D := { T := a8, F := [], R := [], ovl := [] }, inl := [] }
noncomputable abbrev Ev : bo := .data vO
theorem yv : XOk prog sV := xok ((aI aS aC)) (by kernel_rfl) aK aW aV
noncomputable def EQ (o : den ah) (no : den ae) : af := af.loop [] ll (lp kL 2) [(1, K.val ae no), (4, K.ptr 0 ag []), (8, K.val (Ty.slc ag) (Prod.fst o)), (9, K.val ae (lnx ag (Prod.fst o))), (10, K.val ae 0)] [(0, Bx.cell ag (zero ag))]
theorem Hd (o : den ah) (no : den ae) : aj sV Ev 5000 [] ll (az kL) (Env.of (aF BK (o, no, ()) 0) []) = EQ o no := by kernel_rfl
noncomputable def Ad (v1 : den ae) (v8 : den (Ty.slc ag)) (v9 : den ae) (v10 : den ae) (b0 : den ag) : Env := Env.of [(1, K.val ae v1), (4, K.ptr 0 ag []), (8, K.val (Ty.slc ag) v8), (9, K.val ae v9), (10, K.val ae v10)] [(0, Bx.cell ag b0)]
noncomputable def Hu (v1 : den ae) (v8 : den (Ty.slc ag)) (v9 : den ae) (v10 : den ae) (b0 : den ag) : af := af.ite (decide (v10 < v9)) (af.req (inB v10 (lnx ag v8)) (af.ite (decide (Prod.fst (Prod.fst (el ag v8 v10)) = v1)) (af.ret (K.val (Ty.pair ag Ty.unit) (el ag v8 v10, PUnit.unit))) (af.loop [] ll (lp kL 2) [(1, K.val ae v1), (4, K.ptr 0 ag []), (8, K.val (Ty.slc ag) v8), (9, K.val ae v9), (10, K.val ae (IntKind.wrap IntKind.i64 (v10 + 1)))] [(0, Bx.cell ag b0)]))) (af.ret (K.val (Ty.pair ag Ty.unit) (((-1, zero (Ty.pair tId Ty.unit)), zero (Ty.pair ab (Ty.pair (Ty.slc ab) (Ty.pair (Ty.slc ab) Ty.unit)))), PUnit.unit)))
theorem sr (v1 : den ae) (v8 : den (Ty.slc ag)) (v9 : den ae) (v10 : den ae) (b0 : den ag) : aj sV Ev 5000 [] ll (lp kL 2) (Ad v1 v8 v9 v10 b0) = Hu v1 v8 v9 v10 b0 := by kernel_rfl
end Go.Proofs.Ytimdnodkabnbfaa
namespace Go.Proofs.Ytimdnodkabnbfaa
open Go Go.RowKit
theorem Eh : ap prog [] mK mG :=
 bw (S := mG) K1 (fx := Cc) KM (by kernel_rfl) (fun _ _ => trivial) (T := fun x => Em x.1) (fun x => HF x.1) fun O w0 x _ _ => by
  obtain ⟨m, ⟨⟩⟩ := x
  refine ⟨_, rfl, Prod.ext ?_ rfl⟩
  show (bif decide (0 ≤ m.1) then decide (m.1 ≤ 15) else false) = co m
  unfold co
  have key : ∀ a : Int, decide (a ≤ 15) = decide (a < 16) := fun a => decide_eq_decide.2 (by omega)
  rw [key m.1]
theorem zE : ap prog [] jM jJ :=
 bw (S := jJ) Im (fx := x8) GN (by kernel_rfl) (fun h => by cases h) (T := fun x => zU x.1) (fun x => DS x.1) fun O w0 x _ hp => by
  obtain ⟨n, ⟨⟩⟩ := x
  have hp : (be n).length ≤ 1000000 := hp
  have e : (be n).length = ([n.2.1] ++ n.2.2.1).length + n.2.2.2.1.length := List.length_append
  refine ⟨(show ([n.2.1] ++ n.2.2.1).length ≤ 1073741824 by omega), (show ([n.2.1] ++ n.2.2.1 ++ n.2.2.2.1).length ≤ 1073741824 from Nat.le_trans hp (by decide)), _, rfl, rfl⟩
end Go.Proofs.Ytimdnodkabnbfaa
namespace Go.Proofs.Ytimdnodkabnbfaa
open Go Go.RowKit
noncomputable abbrev ci : bl := ⟨.pair (.slc (.slc ab)) .unit, .pair (.slc ab) .unit, fun y => ((y.1.flatten : List Mem), ()), fun y => (y.1.flatten : List Mem).length ≤ bF, false⟩
theorem gp : ap prog [] bN ci := H6 si rfl
abbrev sM : Ty := .pair OG .unit
noncomputable abbrev mr : bl := ⟨um, sM, fun x => ((be x.1, ()), ()), fun x => (be x.1).length ≤ 1000000, false⟩
abbrev Ov := den ah
def ixQ (p : Nd → Bool) : List Nd → Int → Int
 | [], _ => -1
 | x :: l, i => bif p x then i else ixQ p l (i + 1)
def prQ (f : den (.fn (.pair ag .unit) (.pair .bool .unit))) (m : Nd) : Bool := (yg (.pair ag .unit) (.pair .bool .unit) f (m, ())).1
noncomputable abbrev cE : bl := ⟨kJ, gf, fun x => (ixQ (prQ x.2.1) x.1 0, ()), fun x => qI (.pair ag .unit) (.pair .bool .unit) x.2.1, false⟩
noncomputable abbrev dI : bl := ⟨iU, iV, fun x => (List.any x.1 (prQ x.2.1), ()), fun x => qI (.pair ag .unit) (.pair .bool .unit) x.2.1, false⟩
noncomputable abbrev jY : bl := ⟨rF, sa, fun x => (decide ((sfN x.1).1 = x.2.1), ()), fun _ => True, true⟩
noncomputable abbrev j3 : bl := ⟨sd, rA, fun x => (decide ((sfN x.1).1 = x.2.1.1), ()), fun _ => True, true⟩
noncomputable abbrev j5 : bl := ⟨rE, mD, fun x => (bH x.1.1, ()), fun x => List.length x.1.1 ≤ 1000000, false⟩
def dJ (l : List Nd) (no : Int) : Mem × Bool := match l.find? (fun n => decide (n.1.1 = no)) with | some n => (n.1, true) | none => (zero ab, false)
noncomputable abbrev nq : bl := ⟨wT, pE, fun x => ((dJ x.1.1 x.2.1).1, (dJ x.1.1 x.2.1).2, ()), fun _ => True, true⟩
def kd (l : List Nd) (m : Mem) : Bool := bif (dJ l m.1).2 then !decide ((dJ l m.1).1 = m) else false
def O1 (l : List Nd) (n : Nd) : Bool := (be n).all fun m => !kd l m
def xR (l : List Nd) (i : Int) : Bool := bif !aO (el ag l i) then true else bif decide (0 < i) then decide ((el ag l i).1.1 ≤ (el ag l (i - 1)).1.1) else false
def fM (l : List Nd) (i : Int) : Bool := bif xR l i then false else O1 l (el ag l i)
def a5 (l : List Nd) : Bool := (List.range l.length).all (fun i => fM l (i : Nat)) && cq (bH l)
noncomputable abbrev mg : bl := ⟨uv, oz, fun x => (a5 x.1.1, ()), fun x => List.length x.1.1 ≤ 1000000, false⟩
noncomputable abbrev oS : bl := ⟨yL, rC, fun x => (a5 x.1.1, ()), fun x => List.length x.1.1 ≤ 1000000, false⟩
abbrev Ans := den ai
def fP (l : List Nd) (n : Nd) : List Int := ((be n).filter fun m => !bZ l m.1).map fun m => m.1
def tY (l : List Nd) (n : Nd) : Nd := (fY n (fP l n)).1
def eV (l : List Nd) (n : Nd) (id : List Int) : Ans := bif jL (tY l n) id then ((tY l n).1, true, ()) else ((cU (tY l n) id).1, (cU (tY l n) id).2.1, ())
def ax (l : List Nd) (no : Int) (id : List Int) : Ans × Bool := match l.find? (fun n => decide (n.1.1 = no)) with | some n => (eV l n id, true) | none => (zero ai, false)
noncomputable abbrev mb : bl := ⟨ui, lr, fun x => ((ax x.1.1 x.2.1 x.2.2.1).1, (ax x.1.1 x.2.1 x.2.2.1).2, ()), fun x => a5 x.1.1 = true, false⟩
abbrev WR := List Int × Mem × Int
def bK (l : List Nd) (id : List Int) : Nat → List Int → Int → WR
 | n, path, no => bif !(ax l no id).2 then ([], zero ab, 10) else
  match n with
  | 0 => ([], zero ab, 9)
  | n + 1 => bif (ax l no id).1.2.1 then (bif decide ((ax l no id).1.1.1 = no) then (path ++ [no], (ax l no id).1.1, 0) else (path ++ [no] ++ [(ax l no id).1.1.1], (ax l no id).1.1, 0))
   else bif decide ((ax l no id).1.1.1 = no) then ([], zero ab, 13) else bK l id n (path ++ [no]) (ax l no id).1.1.1
def aU (l : List Nd) (no : Int) (id : List Int) (hops : Int) : WR := bif (bif (bif !a5 l then true else decide (hops < 0)) then true else decide (16 < hops)) then ([], zero ab, 1) else bK l id (hops.toNat + 1) [] no
noncomputable abbrev gr : bl := ⟨vf, dP, fun x => ((aU x.1.1 x.2.1 x.2.2.1 x.2.2.2.1).1, (aU x.1.1 x.2.1 x.2.2.1 x.2.2.2.1).2.1, (aU x.1.1 x.2.1 x.2.2.1 x.2.2.2.1).2.2, ()), fun x => List.length x.1.1 ≤ 1000000, false⟩
end Go.Proofs.Ytimdnodkabnbfaa
namespace Go.Proofs.Ytimdnodkabnbfaa
open Go Go.RowKit
noncomputable abbrev sj : Fx := { fn := lM, ann := { } }
noncomputable abbrev bR : Fx := { fn := bO, ann := { loops := [(1, { keep := [0, 2, 6, 7, 8] })], frz := [(1000001, [6, 8, 9])], gy := true } }
noncomputable abbrev dz : Fx := { fn := aT, ann := { frz := [(2, [3, 4])] } }
noncomputable abbrev f9 : a7 := { D := { T := a8, F := [(jQ, lQ), (fy, gI), (gR, gN)], R := [], ovl := [] }, inl := [(lZ, sj), (kQ, bR)] }
noncomputable abbrev rH : bo := .data lD
theorem A7 (h_ident_Far : ap prog [] jQ lQ) (h_ident_Compare : ap prog [] fy gI) (h_finger_Closest_1 : ap prog [] gR gN) : XOk prog f9 := xok (au (au (au (aI aS aC) h_finger_Closest_1) h_ident_Compare) h_ident_Far) (by kernel_rfl) aK (mL sf (by kernel_rfl) (mL qn (by kernel_rfl) aW)) aV
noncomputable def rr (id : den tId) (self : den tId) (known : den (Ty.slc ab)) : af := af.req (∀ (y : den (Ty.pair ab Ty.unit)), True) (af.loop [{ fx := dz, todo := dv aT 5, dst := none, s := ofS [(6, K.ptr (0 + 1 + 1) ab []), (8, K.ptr (0 + 1 + 1 + 1) ab []), (9, K.ptr (0 + 1 + 1 + 1 + 1) ae [])], rng := some 0 }] bR (lp bO 1) [(0, K.yld 0), (2, K.ptr (0 + 1) (Ty.fn (Ty.pair ab Ty.unit) (Ty.pair Ty.bool Ty.unit)) []), (6, K.val (Ty.slc ab) known), (7, K.val ae (lnx ab known)), (8, K.val ae 0)] [(0, Bx.lop LoopState.ready none [(4, K.ref tId self), (8, K.ptr (0 + 1 + 1 + 1) ab []), (9, K.ptr (0 + 1 + 1 + 1 + 1) ae [])] 35 (n7 aT 5) (eX aT 5) (iz aT 5)), (0 + 1, Bx.cell (Ty.fn (Ty.pair ab Ty.unit) (Ty.pair Ty.bool Ty.unit)) (some fun (y : den (Ty.pair ab Ty.unit)) ↦ (hH self id (Prod.fst y), PUnit.unit))), (0 + 1 + 1, Bx.cell ab (zero ab)), (0 + 1 + 1 + 1, Bx.cell ab (zero (Ty.pair ae (Ty.pair tId Ty.unit)))), (0 + 1 + 1 + 1 + 1, Bx.cell ae 6)])
theorem w3 (id : den tId) (self : den tId) (known : den (Ty.slc ab)) : aj f9 rH 5000 [] dz (az aT) (Env.of (aF qa (id, self, known, ()) 0) []) = rr id self known := by kernel_rfl
noncomputable def d5 (v6 : den (Ty.slc ab)) (v7 : den ae) (v8 : den ae) (b0_4 : den tId) (b1 : den (Ty.fn (Ty.pair ab Ty.unit) (Ty.pair Ty.bool Ty.unit))) (b2 : den ab) (b3 : den ab) (b4 : den ae) : List bW := [{ fx := dz, todo := dv aT 5, dst := none, s := ofS [(6, K.ptr (0 + 1 + 1) ab []), (8, K.ptr (0 + 1 + 1 + 1) ab []), (9, K.ptr (0 + 1 + 1 + 1 + 1) ae [])], rng := some 0 }]
noncomputable def dY (v6 : den (Ty.slc ab)) (v7 : den ae) (v8 : den ae) (b0_4 : den tId) (b1 : den (Ty.fn (Ty.pair ab Ty.unit) (Ty.pair Ty.bool Ty.unit))) (b2 : den ab) (b3 : den ab) (b4 : den ae) : Env := Env.of [(0, K.yld 0), (2, K.ptr (0 + 1) (Ty.fn (Ty.pair ab Ty.unit) (Ty.pair Ty.bool Ty.unit)) []), (6, K.val (Ty.slc ab) v6), (7, K.val ae v7), (8, K.val ae v8)] [(0, Bx.lop LoopState.ready none [(4, K.ref tId b0_4), (8, K.ptr (0 + 1 + 1 + 1) ab []), (9, K.ptr (0 + 1 + 1 + 1 + 1) ae [])] 35 (n7 aT 5) (eX aT 5) (iz aT 5)), (1, Bx.cell (Ty.fn (Ty.pair ab Ty.unit) (Ty.pair Ty.bool Ty.unit)) b1), (2, Bx.cell ab b2), (3, Bx.cell ab b3), (4, Bx.cell ae b4)]
noncomputable def iu (v6 : den (Ty.slc ab)) (v7 : den ae) (v8 : den ae) (b0_4 : den tId) (b1 : den (Ty.fn (Ty.pair ab Ty.unit) (Ty.pair Ty.bool Ty.unit))) (b2 : den ab) (b3 : den ab) (b4 : den ae) : af := af.ite (decide (v8 < v7)) (af.req (inB v8 (lnx ab v6)) (af.req (qI (Ty.pair ab Ty.unit) (Ty.pair Ty.bool Ty.unit) b1) (af.ite (Prod.fst (yg (Ty.pair ab Ty.unit) (Ty.pair Ty.bool Ty.unit) b1 (el ab v6 v8, PUnit.unit))) (af.req (cG [(!decide (b4 = 0), false)] True) (af.req (cG [(!decide (b4 = 0), false)] True) (af.req (cG [(!decide (b4 = 0), false)] True) (af.ite (bif !decide (b4 = 0) then true else decide (cY (cf b0_4 (Prod.fst (Prod.snd b3))) (cf b0_4 (Prod.fst (Prod.snd (el ab v6 v8)))) < 0)) (af.loop [{ fx := dz, todo := dv aT 5, dst := none, s := ofS [(6, K.ptr (0 + 1 + 1) ab []), (8, K.ptr (0 + 1 + 1 + 1) ab []), (9, K.ptr (0 + 1 + 1 + 1 + 1) ae [])], rng := some 0 }] bR (lp bO 1) [(0, K.yld 0), (2, K.ptr (0 + 1) (Ty.fn (Ty.pair ab Ty.unit) (Ty.pair Ty.bool Ty.unit)) []), (6, K.val (Ty.slc ab) v6), (7, K.val ae v7), (8, K.val ae (IntKind.wrap IntKind.i64 (v8 + 1)))] [(0, Bx.lop LoopState.ready none [(4, K.ref tId b0_4), (8, K.ptr (0 + 1 + 1 + 1) ab []), (9, K.ptr (0 + 1 + 1 + 1 + 1) ae [])] 35 (n7 aT 5) (eX aT 5) (iz aT 5)), (0 + 1, Bx.cell (Ty.fn (Ty.pair ab Ty.unit) (Ty.pair Ty.bool Ty.unit)) b1), (0 + 1 + 1, Bx.cell ab b2), (0 + 1 + 1 + 1, Bx.cell ab (el ab v6 v8)), (0 + 1 + 1 + 1 + 1, Bx.cell ae 0)]) (af.loop [{ fx := dz, todo := dv aT 5, dst := none, s := ofS [(6, K.ptr (0 + 1 + 1) ab []), (8, K.ptr (0 + 1 + 1 + 1) ab []), (9, K.ptr (0 + 1 + 1 + 1 + 1) ae [])], rng := some 0 }] bR (lp bO 1) [(0, K.yld 0), (2, K.ptr (0 + 1) (Ty.fn (Ty.pair ab Ty.unit) (Ty.pair Ty.bool Ty.unit)) []), (6, K.val (Ty.slc ab) v6), (7, K.val ae v7), (8, K.val ae (IntKind.wrap IntKind.i64 (v8 + 1)))] [(0, Bx.lop LoopState.ready none [(4, K.ref tId b0_4), (8, K.ptr (0 + 1 + 1 + 1) ab []), (9, K.ptr (0 + 1 + 1 + 1 + 1) ae [])] 35 (n7 aT 5) (eX aT 5) (iz aT 5)), (0 + 1, Bx.cell (Ty.fn (Ty.pair ab Ty.unit) (Ty.pair Ty.bool Ty.unit)) b1), (0 + 1 + 1, Bx.cell ab b2), (0 + 1 + 1 + 1, Bx.cell ab b3), (0 + 1 + 1 + 1 + 1, Bx.cell ae b4)]))))) (af.loop [{ fx := dz, todo := dv aT 5, dst := none, s := ofS [(6, K.ptr (0 + 1 + 1) ab []), (8, K.ptr (0 + 1 + 1 + 1) ab []), (9, K.ptr (0 + 1 + 1 + 1 + 1) ae [])], rng := some 0 }] bR (lp bO 1) [(0, K.yld 0), (2, K.ptr (0 + 1) (Ty.fn (Ty.pair ab Ty.unit) (Ty.pair Ty.bool Ty.unit)) []), (6, K.val (Ty.slc ab) v6), (7, K.val ae v7), (8, K.val ae (IntKind.wrap IntKind.i64 (v8 + 1)))] [(0, Bx.lop LoopState.ready none [(4, K.ref tId b0_4), (8, K.ptr (0 + 1 + 1 + 1) ab []), (9, K.ptr (0 + 1 + 1 + 1 + 1) ae [])] 35 (n7 aT 5) (eX aT 5) (iz aT 5)), (0 + 1, Bx.cell (Ty.fn (Ty.pair ab Ty.unit) (Ty.pair Ty.bool Ty.unit)) b1), (0 + 1 + 1, Bx.cell ab b2), (0 + 1 + 1 + 1, Bx.cell ab b3), (0 + 1 + 1 + 1 + 1, Bx.cell ae b4)])))) (af.ret (K.val (Ty.pair ab (Ty.pair ae Ty.unit)) (b3, b4, PUnit.unit)))
theorem dB (v6 : den (Ty.slc ab)) (v7 : den ae) (v8 : den ae) (b0_4 : den tId) (b1 : den (Ty.fn (Ty.pair ab Ty.unit) (Ty.pair Ty.bool Ty.unit))) (b2 : den ab) (b3 : den ab) (b4 : den ae) : aj f9 rH 5000 (d5 v6 v7 v8 b0_4 b1 b2 b3 b4) bR (lp bO 1) (dY v6 v7 v8 b0_4 b1 b2 b3 b4) = iu v6 v7 v8 b0_4 b1 b2 b3 b4 := by kernel_rfl
noncomputable abbrev xe : Fx := { fn := tX, ann := { }, share := true }
noncomputable abbrev z7 : a7 := { D := { T := a8, F := [(dD, dF), (gL, i7), (bN, ci), (iX, i5)], R := [], ovl := [] }, inl := [] }
noncomputable abbrev IZ : bo := .data rn
theorem IH (h_node_Right : ap prog [] dD dF) (h_ident_In : ap prog [] gL i7) (h_slices_Concat_Member : ap prog [] bN (ci)) (h_finger_Closest : ap prog [] iX i5) : XOk prog z7 := xok (au (au (au (au (aI aS aC) h_finger_Closest) h_slices_Concat_Member) h_ident_In) h_node_Right) (by kernel_rfl) aK aW aV
noncomputable def Aj (n : den ag) (id : den tId) : af := af.req True (af.all (den Ty.bool) (fun (q2 : den Ty.bool) ↦ q2 = aO n) fun (q2 : den Ty.bool) ↦ af.ite (!q2) (af.ret (K.val (Ty.pair ab (Ty.pair Ty.bool (Ty.pair ae Ty.unit))) (zero (Ty.pair ae (Ty.pair tId Ty.unit)), false, 1, PUnit.unit))) (af.req (inB 0 (lnx ab (Prod.fst (Prod.snd (Prod.snd n))))) (af.req True (af.all (den Ty.bool) (fun (q3 : den Ty.bool) ↦ q3 = fm id (Prod.fst (Prod.snd (Prod.fst n))) (Prod.fst (Prod.snd (el ab (Prod.fst (Prod.snd (Prod.snd n))) 0)))) fun (q3 : den Ty.bool) ↦ af.ite q3 (af.ret (K.val (Ty.pair ab (Ty.pair Ty.bool (Ty.pair ae Ty.unit))) (el ab (Prod.fst (Prod.snd (Prod.snd n))) 0, true, 0, PUnit.unit))) (af.req (List.length (List.flatten (List.set (List.set (List.replicate 2 (zero (Ty.slc ab))) 0 (Prod.fst (Prod.snd (Prod.snd (Prod.snd n))))) 1 (Prod.fst (Prod.snd (Prod.snd n))))) ≤ bF) (af.req True (af.all (den (Ty.slc ab)) (fun (q4 : den (Ty.slc ab)) ↦ q4 = List.flatten (List.set (List.set (List.replicate 2 (zero (Ty.slc ab))) 0 (Prod.fst (Prod.snd (Prod.snd (Prod.snd n))))) 1 (Prod.fst (Prod.snd (Prod.snd n))))) fun (q4 : den (Ty.slc ab)) ↦ af.all (den (Ty.pair ab (Ty.pair ae Ty.unit))) (fun (q5 : den (Ty.pair ab (Ty.pair ae Ty.unit))) ↦ q5 = (Prod.fst (cC id (Prod.fst (Prod.snd (Prod.fst n))) (List.flatten (List.set (List.set (List.replicate 2 (zero (Ty.slc ab))) 0 (Prod.fst (Prod.snd (Prod.snd (Prod.snd n))))) 1 (Prod.fst (Prod.snd (Prod.snd n)))))), Prod.snd (cC id (Prod.fst (Prod.snd (Prod.fst n))) (List.flatten (List.set (List.set (List.replicate 2 (zero (Ty.slc ab))) 0 (Prod.fst (Prod.snd (Prod.snd (Prod.snd n))))) 1 (Prod.fst (Prod.snd (Prod.snd n)))))), PUnit.unit)) fun (q5 : den (Ty.pair ab (Ty.pair ae Ty.unit))) ↦ af.ite (!decide (Prod.snd (cC id (Prod.fst (Prod.snd (Prod.fst n))) (List.flatten (List.set (List.set (List.replicate 2 (zero (Ty.slc ab))) 0 (Prod.fst (Prod.snd (Prod.snd (Prod.snd n))))) 1 (Prod.fst (Prod.snd (Prod.snd n)))))) = 0)) (af.req (inB 0 (lnx ab (Prod.fst (Prod.snd (Prod.snd n))))) (af.ret (K.val (Ty.pair ab (Ty.pair Ty.bool (Ty.pair ae Ty.unit))) (el ab (Prod.fst (Prod.snd (Prod.snd n))) 0, false, 0, PUnit.unit)))) (af.ret (K.val (Ty.pair ab (Ty.pair Ty.bool (Ty.pair ae Ty.unit))) (Prod.fst (cC id (Prod.fst (Prod.snd (Prod.fst n))) (List.flatten (List.set (List.set (List.replicate 2 (zero (Ty.slc ab))) 0 (Prod.fst (Prod.snd (Prod.snd (Prod.snd n))))) 1 (Prod.fst (Prod.snd (Prod.snd n)))))), false, 0, PUnit.unit))))))))))
theorem D0 (n : den ag) (id : den tId) : aj z7 IZ 5000 [] xe (az tX) (Env.of (aF y4 (n, id, ()) 0) []) = Aj n id := by kernel_rfl
noncomputable abbrev cx : Fx := { fn := cg, ann := { loops := [(2, { keep := [0, 1, 7, 8] })] } }
noncomputable abbrev eM : a7 := { D := { T := a8, F := [], R := [], ovl := [] }, inl := [] }
noncomputable abbrev lA : bo := .data gf
theorem gq : XOk prog eM := xok ((aI aS aC)) (by kernel_rfl) aK aW aV
noncomputable def lB (s : den (Ty.slc ag)) (f : den (Ty.fn (Ty.pair ag Ty.unit) (Ty.pair Ty.bool Ty.unit))) : af := af.loop [] cx (lp cg 2) [(0, K.val (Ty.slc ag) s), (1, K.val (Ty.fn (Ty.pair ag Ty.unit) (Ty.pair Ty.bool Ty.unit)) f), (7, K.val ae (lnx ag s)), (8, K.val ae 0)] []
theorem pz (s : den (Ty.slc ag)) (f : den (Ty.fn (Ty.pair ag Ty.unit) (Ty.pair Ty.bool Ty.unit))) : aj eM lA 5000 [] cx (az cg) (Env.of (aF kJ (s, f, ()) 0) []) = lB s f := by kernel_rfl
noncomputable def j7 (v0 : den (Ty.slc ag)) (v1 : den (Ty.fn (Ty.pair ag Ty.unit) (Ty.pair Ty.bool Ty.unit))) (v7 : den ae) (v8 : den ae) : Env := Env.of [(0, K.val (Ty.slc ag) v0), (1, K.val (Ty.fn (Ty.pair ag Ty.unit) (Ty.pair Ty.bool Ty.unit)) v1), (7, K.val ae v7), (8, K.val ae v8)] []
noncomputable def py (v0 : den (Ty.slc ag)) (v1 : den (Ty.fn (Ty.pair ag Ty.unit) (Ty.pair Ty.bool Ty.unit))) (v7 : den ae) (v8 : den ae) : af := af.ite (decide (v8 < v7)) (af.req (inB v8 (lnx ag v0)) (af.req (qI (Ty.pair ag Ty.unit) (Ty.pair Ty.bool Ty.unit) v1) (af.ite (Prod.fst (yg (Ty.pair ag Ty.unit) (Ty.pair Ty.bool Ty.unit) v1 (el ag v0 v8, PUnit.unit))) (af.ret (K.val (Ty.pair ae Ty.unit) (v8, PUnit.unit))) (af.loop [] cx (lp cg 2) [(0, K.val (Ty.slc ag) v0), (1, K.val (Ty.fn (Ty.pair ag Ty.unit) (Ty.pair Ty.bool Ty.unit)) v1), (7, K.val ae v7), (8, K.val ae (IntKind.wrap IntKind.i64 (v8 + 1)))] [])))) (af.ret (K.val (Ty.pair ae Ty.unit) (-1, PUnit.unit)))
theorem ic (v0 : den (Ty.slc ag)) (v1 : den (Ty.fn (Ty.pair ag Ty.unit) (Ty.pair Ty.bool Ty.unit))) (v7 : den ae) (v8 : den ae) : aj eM lA 5000 [] cx (lp cg 2) (j7 v0 v1 v7 v8) = py v0 v1 v7 v8 := by kernel_rfl
noncomputable abbrev iT : Fx := { fn := fH, ann := { } }
noncomputable abbrev jz : a7 := { D := { T := a8, F := [(cD, cE)], R := [], ovl := [] }, inl := [] }
noncomputable abbrev pQ : bo := .data iV
theorem pL (h_slices_IndexFunc_Node : ap prog [] cD cE) : XOk prog jz := xok (au (aI aS aC) h_slices_IndexFunc_Node) (by kernel_rfl) aK aW aV
noncomputable def jt (s : den (Ty.slc ag)) (f : den (Ty.fn (Ty.pair ag Ty.unit) (Ty.pair Ty.bool Ty.unit))) : af := af.req (∃ (h : den (Ty.pair ag Ty.unit) → den (Ty.pair Ty.bool Ty.unit)), f = some h) (af.ret (K.val (Ty.pair Ty.bool Ty.unit) (decide (0 ≤ ixQ (prQ f) s 0), PUnit.unit)))
theorem nF (s : den (Ty.slc ag)) (f : den (Ty.fn (Ty.pair ag Ty.unit) (Ty.pair Ty.bool Ty.unit))) : aj jz pQ 5000 [] iT (az fH) (Env.of (aF iU (s, f, ()) 0) []) = jt s f := by kernel_rfl
noncomputable abbrev rP : Fx := { fn := m6, ann := { } }
noncomputable abbrev sP : a7 := { D := { T := a8, F := [], R := [], ovl := [] }, inl := [] }
noncomputable abbrev Cn : bo := .data sa
theorem BN : XOk prog sP := xok ((aI aS aC)) (by kernel_rfl) aK aW aV
noncomputable def tq (n : den ag) (no : den (Ty.ref ae)) : af := af.ret (K.val (Ty.pair Ty.bool Ty.unit) (decide (Prod.fst (Prod.fst n) = no), PUnit.unit))
theorem yo (n : den ag) (no : den (Ty.ref ae)) : aj sP Cn 5000 [] rP (az m6) (Env.of (aF rF (n, no, ()) 0) []) = tq n no := by kernel_rfl
noncomputable abbrev qY : Fx := { fn := nm, ann := { } }
noncomputable abbrev sL : a7 := { D := { T := a8, F := [], R := [], ovl := [] }, inl := [] }
noncomputable abbrev Cz : bo := .data rA
theorem CO : XOk prog sL := xok ((aI aS aC)) (by kernel_rfl) aK aW aV
noncomputable def sw (n : den ag) (m : den (Ty.ref ab)) : af := af.ret (K.val (Ty.pair Ty.bool Ty.unit) (decide (Prod.fst (Prod.fst n) = Prod.fst m), PUnit.unit))
theorem xA (n : den ag) (m : den (Ty.ref ab)) : aj sL Cz 5000 [] qY (az nm) (Env.of (aF sd (n, m, ()) 0) []) = sw n m := by kernel_rfl
noncomputable abbrev eZ : Fx := { fn := eB, ann := { loops := [(3, { keep := [3, 7, 8, 9], own := [(3, ab)] })] } }
noncomputable abbrev j9 : a7 := { D := { T := a8, F := [], R := [], ovl := [] }, inl := [] }
noncomputable abbrev sD : bo := .data mD
theorem nk : XOk prog j9 := xok ((aI aS aC)) (by kernel_rfl) aK aW aV
noncomputable def tt (o : den ah) : af := af.loop [] eZ (lp eB 3) [(3, K.sl 0 ab), (7, K.val (Ty.slc ag) (Prod.fst o)), (8, K.val ae (lnx ag (Prod.fst o))), (9, K.val ae 0)] [(0, Bx.row ab [])]
theorem yq (o : den ah) : aj j9 sD 5000 [] eZ (az eB) (Env.of (aF rE (o, ()) 0) []) = tt o := by kernel_rfl
noncomputable def pZ (v7 : den (Ty.slc ag)) (v8 : den ae) (v9 : den ae) (b0 : List (den ab)) : Env := Env.of [(3, K.sl 0 ab), (7, K.val (Ty.slc ag) v7), (8, K.val ae v8), (9, K.val ae v9)] [(0, Bx.row ab b0)]
noncomputable def ya (v7 : den (Ty.slc ag)) (v8 : den ae) (v9 : den ae) (b0 : List (den ab)) : af := af.ite (decide (v9 < v8)) (af.req (inB v9 (lnx ag v7)) (af.req (List.length (b0 ++ List.set (List.replicate 1 (zero ab)) 0 (Prod.fst (el ag v7 v9))) ≤ bF) (af.loop [] eZ (lp eB 3) [(3, K.sl 0 ab), (7, K.val (Ty.slc ag) v7), (8, K.val ae v8), (9, K.val ae (IntKind.wrap IntKind.i64 (v9 + 1)))] [(0, Bx.row ab (b0 ++ List.set (List.replicate 1 (zero ab)) 0 (Prod.fst (el ag v7 v9))))]))) (af.ret (K.val (Ty.pair (Ty.slc ab) Ty.unit) (b0, PUnit.unit)))
theorem mF (v7 : den (Ty.slc ag)) (v8 : den ae) (v9 : den ae) (b0 : List (den ab)) : aj j9 sD 5000 [] eZ (lp eB 3) (pZ v7 v8 v9 b0) = ya v7 v8 v9 b0 := by kernel_rfl
noncomputable abbrev gz : Fx := { fn := ga, ann := { loops := [(2, { keep := [1, 4, 9, 10, 11] })] } }
noncomputable abbrev nj : a7 := { D := { T := a8, F := [], R := [], ovl := [] }, inl := [] }
noncomputable abbrev yM : bo := .data pE
theorem rT : XOk prog nj := xok ((aI aS aC)) (by kernel_rfl) aK aW aV
noncomputable def xy (o : den ah) (no : den ae) : af := af.loop [] gz (lp ga 2) [(1, K.val ae no), (4, K.ptr 0 ab []), (9, K.val (Ty.slc ag) (Prod.fst o)), (10, K.val ae (lnx ag (Prod.fst o))), (11, K.val ae 0)] [(0, Bx.cell ab (zero ab))]
theorem Cw (o : den ah) (no : den ae) : aj nj yM 5000 [] gz (az ga) (Env.of (aF wT (o, no, ()) 0) []) = xy o no := by kernel_rfl
noncomputable def uD (v1 : den ae) (v9 : den (Ty.slc ag)) (v10 : den ae) (v11 : den ae) (b0 : den ab) : Env := Env.of [(1, K.val ae v1), (4, K.ptr 0 ab []), (9, K.val (Ty.slc ag) v9), (10, K.val ae v10), (11, K.val ae v11)] [(0, Bx.cell ab b0)]
noncomputable def CG (v1 : den ae) (v9 : den (Ty.slc ag)) (v10 : den ae) (v11 : den ae) (b0 : den ab) : af := af.ite (decide (v11 < v10)) (af.req (inB v11 (lnx ag v9)) (af.ite (decide (Prod.fst (Prod.fst (el ag v9 v11)) = v1)) (af.ret (K.val (Ty.pair ab (Ty.pair Ty.bool Ty.unit)) (Prod.fst (el ag v9 v11), true, PUnit.unit))) (af.loop [] gz (lp ga 2) [(1, K.val ae v1), (4, K.ptr 0 ab []), (9, K.val (Ty.slc ag) v9), (10, K.val ae v10), (11, K.val ae (IntKind.wrap IntKind.i64 (v11 + 1)))] [(0, Bx.cell ab b0)]))) (af.ret (K.val (Ty.pair ab (Ty.pair Ty.bool Ty.unit)) (zero (Ty.pair ae (Ty.pair tId Ty.unit)), false, PUnit.unit)))
theorem pe (v1 : den ae) (v9 : den (Ty.slc ag)) (v10 : den ae) (v11 : den ae) (b0 : den ab) : aj nj yM 5000 [] gz (lp ga 2) (uD v1 v9 v10 v11 b0) = CG v1 v9 v10 v11 b0 := by kernel_rfl
noncomputable abbrev ux : Fx := { fn := pR, ann := { } }
noncomputable abbrev wr : a7 := { D := { T := a8, F := [(bN, ci), (fj, ff)], R := [], ovl := [] }, inl := [] }
noncomputable abbrev Fn : bo := .data sM
theorem FB (h_slices_Concat_Member : ap prog [] bN (ci)) (h_slices_Values_Member : ap prog [] fj ff) : XOk prog wr := xok (au (au (aI aS aC) h_slices_Values_Member) h_slices_Concat_Member) (by kernel_rfl) aK aW aV
noncomputable def wU (n : den ag) : af := af.req (List.length (List.flatten (List.set (List.set (List.set (List.replicate 3 (zero (Ty.slc ab))) 0 (List.set (List.replicate 1 (zero ab)) 0 (Prod.fst (Prod.snd n)))) 1 (Prod.fst (Prod.snd (Prod.snd n)))) 2 (Prod.fst (Prod.snd (Prod.snd (Prod.snd n)))))) ≤ bF) (af.req True (af.ret (K.val (Ty.pair (Ty.clo c9 (Ty.pair (Ty.ref (Ty.slc ab)) Ty.unit)) Ty.unit) ((List.flatten (List.set (List.set (List.set (List.replicate 3 (zero (Ty.slc ab))) 0 (List.set (List.replicate 1 (zero ab)) 0 (Prod.fst (Prod.snd n)))) 1 (Prod.fst (Prod.snd (Prod.snd n)))) 2 (Prod.fst (Prod.snd (Prod.snd (Prod.snd n))))), PUnit.unit), PUnit.unit))))
theorem AH (n : den ag) : aj wr Fn 5000 [] ux (az pR) (Env.of (aF um (n, ()) 0) []) = wU n := by kernel_rfl
end Go.Proofs.Ytimdnodkabnbfaa
namespace Go.Proofs.Ytimdnodkabnbfaa
open Go Go.RowKit
abbrev GCl (O : Nat → Prop) (w0 : World) (y : Mem × Int) := br prog f9 (Cx.base O w0) (bP prog O w0 lD fun z => z = (y.1, y.2, ()))
theorem lE : XOk prog f9 := A7 z4 sW xE
def Kn (O : Nat → Prop) (w0 : World) (id self : List Int) (l : List Mem) (z : Mem) (hm : l.length ≤ maxLen) :=
 PLift.up <| bf (σ := Mem × Int) l.length (fun i s => s = ((l.take i).filter (hH self id)).foldl (eC self) (zero ab, 6))
  (fun i s => GCl O w0 (cC id self l) (d5 l (lnx ab l) (i : Nat) self (some fun y => (hH self id y.1, PUnit.unit)) z s.1 s.2) bR (lp bO 1) (dY l (lnx ab l) (i : Nat) self (some fun y => (hH self id y.1, PUnit.unit)) z s.1 s.2))
  (fun i s hi hs ih => aB lE (dB l _ _ self _ z s.1 s.2) (by
   have e : ((l.take (i + 1)).filter (hH self id)).foldl (eC self) (zero ab, 6) = ([l[i]].filter (hH self id)).foldl (eC self) s := by
    rw [List.take_succ_eq_append_getElem hi, List.filter_append, List.foldl_append, ← hs]
   refine ⟨fun _ => ⟨a6 hi, ⟨_, rfl⟩, ?_⟩, fun hc => absurd hi (by rw [bB] at hc; exact of_decide_eq_false hc)⟩
   rw [bM hi, bG hi hm]
   refine ⟨fun hc => ⟨fun _ => trivial, fun _ => trivial, fun _ => trivial, fun h2 => ih (l[i], 0) ?_, fun h2 => ih s ?_⟩, fun hc => ih s ?_⟩
   ·have hc : hH self id l[i] = true := hc
    rw [e, List.filter_cons_of_pos hc]
    show _ = eC self s l[i]
    unfold eC
    have h2 : (bif !decide (s.2 = 0) then true else decide (cY (cf self s.1.2.1) (cf self l[i].2.1) < 0)) = true := h2
    rw [h2]; rfl
   ·have hc : hH self id l[i] = true := hc
    rw [e, List.filter_cons_of_pos hc]
    show _ = eC self s l[i]
    unfold eC
    have h2 : (bif !decide (s.2 = 0) then true else decide (cY (cf self s.1.2.1) (cf self l[i].2.1) < 0)) = false := h2
    rw [h2]; rfl
   ·have hc : hH self id l[i] = false := hc
    rw [e, List.filter_cons_of_neg (by rw [hc]; decide)]
    rfl))
  (fun s hs => aB lE (dB l _ _ self _ z s.1 s.2) ⟨fun hc => absurd (of_decide_eq_true hc) (Int.lt_irrefl _), fun _ => ⟨_, rfl, by
   rw [List.take_length] at hs
   show (s.1, s.2, ()) = ((cC id self l).1, (cC id self l).2, ())
   rw [hs]; rfl⟩⟩)
theorem Bq : ap prog [] iX i5 :=
 bw (S := i5) lE (fx := dz) zy (by kernel_rfl) (fun _ _ => trivial) (T := fun x => rr x.1 x.2.1 x.2.2.1) (fun x => w3 x.1 x.2.1 x.2.2.1) fun O w0 x hk _ =>
  ⟨fun _ => trivial, (Kn O w0 x.1 x.2.1 x.2.2.1 (zero ab) hk.2.2.1.1).down 0 (zero ab, 6) (Nat.zero_le _) rfl⟩
theorem OK (z a b : List Mem) : List.flatten (List.set (List.set (List.replicate 2 z) 0 a) 1 b) = a ++ b := by
 simp [List.replicate]
theorem Nm (z a b c : List Mem) : List.flatten (List.set (List.set (List.set (List.replicate 3 z) 0 a) 1 b) 2 c) = a ++ b ++ c := by
 simp [List.replicate]
theorem Ij : ap prog [] oF lX :=
  bw (S := lX) (IH m4 vL gp Bq) (fx := xe) GE (by kernel_rfl) (fun _ _ => trivial) (T := fun x => Aj x.1 x.2.1) (fun x => D0 x.1 x.2.1) fun O w0 x _ _ => by
    obtain ⟨n, id, ⟨⟩⟩ := x
    have leaf : ∀ {p : Mem × Bool × Int}, cU n id = p → ∃ z, bq rn (K.val (Ty.pair ab (Ty.pair Ty.bool (Ty.pair ae Ty.unit))) (p.1, p.2.1, p.2.2, PUnit.unit)) = some z ∧ z = lX.g (n, id, ()) := fun {p} e =>
      ⟨_, rfl, by show (p.1, p.2.1, p.2.2, ()) = ((cU n id).1, (cU n id).2.1, (cU n id).2.2, ()); rw [e]⟩
    refine ⟨trivial, bg ⟨fun h => leaf (p := (_, _, _)) ?_, fun h => ?_⟩⟩
    · unfold cU; rw [h]; rfl
    · have hr : aO n = true := by
        have h : (!aO n) = false := h
        simpa using h
      obtain ⟨l1, l2, l3⟩ := GC hr
      have hfl := OK (zero (Ty.slc ab)) n.2.2.2.1 n.2.2.1
      refine ⟨a6 l2, trivial, bg ⟨fun h2 => leaf (p := (_, _, _)) ?_, fun h2 => ⟨?_, trivial, bg (bg ⟨fun h3 => ⟨a6 l2, leaf (p := (_, _, _)) ?_⟩, fun h3 => leaf (p := (_, _, _)) ?_⟩)⟩⟩⟩
      · unfold cU; rw [h, h2]; rfl
      · rw [hfl, List.length_append]; exact Nat.le_trans (Nat.add_le_add l3 l1) (by decide)
      · rw [hfl] at h3
        unfold cU; rw [h, h2, h3]; rfl
      · rw [hfl] at h3 ⊢
        unfold cU; rw [h, h2, h3]; rfl
abbrev GIq (O : Nat → Prop) (w0 : World) (y : Int) := br prog eM (Cx.base O w0) (bP prog O w0 gf fun z => z = (y, ()))
def Fv (O : Nat → Prop) (w0 : World) (xs : List Nd) (f : den (.fn (.pair ag .unit) (.pair .bool .unit))) (hf : qI (.pair ag .unit) (.pair .bool .unit) f) (hm : xs.length ≤ maxLen) (y : Int) (hy : y = ixQ (prQ f) xs 0) :=
 PLift.up <| bf (σ := Unit) xs.length (fun i _ => ixQ (prQ f) (xs.drop i) (i : Nat) = y)
  (fun i _ => GIq O w0 y [] cx (lp cg 2) (j7 xs f (lnx ag xs) (i : Nat)))
  (fun i _ hi hs ih => aB gq (ic xs f _ _) (by
   rw [List.drop_eq_getElem_cons hi] at hs
   have hs : (bif prQ f xs[i] then ((i : Nat) : Int) else ixQ (prQ f) (xs.drop (i + 1)) (((i : Nat) : Int) + 1)) = y := hs
   refine ⟨fun _ => ⟨a6 hi, hf, ?_⟩, fun hc => absurd hi (by rw [bB (e := ag)] at hc; exact of_decide_eq_false hc)⟩
   rw [bM (e := ag) hi, bG hi hm]
   refine ⟨fun hc => ⟨_, rfl, ?_⟩, fun hc => ih () ?_⟩
   ·have hc : prQ f xs[i] = true := hc
    rw [hc] at hs
    rw [← hs]
    rfl
   ·have hc : prQ f xs[i] = false := hc
    rw [hc] at hs
    exact hs))
  (fun _ hs => aB gq (ic xs f _ _) (by
   refine ⟨fun hc => absurd (of_decide_eq_true hc) (Int.lt_irrefl _), fun _ => ⟨_, rfl, ?_⟩⟩
   rw [List.drop_length] at hs
   rw [← hs]
   rfl))
theorem lC : ap prog [] cD cE :=
 bw (S := cE) gq (fx := cx) r9 (by kernel_rfl) (fun h => by cases h) (T := fun x => lB x.1 x.2.1) (fun x => pz x.1 x.2.1) fun O w0 x hk hp =>
  (Fv O w0 x.1 x.2.1 hp hk.1.1 _ rfl).down 0 () (Nat.zero_le _) rfl
theorem Jl (p : Nd → Bool) : ∀ (l : List Nd) (i : Int), 0 ≤ i → decide (0 ≤ ixQ p l i) = l.any p
 | [], _, _ => rfl
 | x :: l, i, hi => by
  show decide (0 ≤ (bif p x then i else ixQ p l (i + 1))) = (p x || l.any p)
  cases p x with
  | true => exact decide_eq_true hi
  | false => exact Jl p l (i + 1) (by omega)
theorem pU : ap prog [] dK dI :=
 bw (S := dI) (pL lC) (fx := iT) o6 (by kernel_rfl) (fun h => by cases h) (T := fun x => jt x.1 x.2.1) (fun x => nF x.1 x.2.1) fun O w0 x _ hp =>
  ⟨hp, _, rfl, by show (decide (0 ≤ ixQ (prQ x.2.1) x.1 0), ()) = (List.any x.1 (prQ x.2.1), ()); rw [Jl _ _ 0 (Int.le_refl _)]⟩
theorem BV : ap prog [] j4 jY :=
 bw (S := jY) BN (fx := rP) Bh (by kernel_rfl) (fun _ _ => trivial) (T := fun x => tq x.1 x.2.1) (fun x => yo x.1 x.2.1) fun O w0 x _ _ => ⟨_, rfl, rfl⟩
theorem BE : ap prog [] j1 j3 :=
 bw (S := j3) CO (fx := qY) AW (by kernel_rfl) (fun _ _ => trivial) (T := fun x => sw x.1 x.2.1) (fun x => xA x.1 x.2.1) fun O w0 x _ _ => ⟨_, rfl, rfl⟩
abbrev GMb (O : Nat → Prop) (w0 : World) (y : List Mem) := br prog j9 (Cx.base O w0) (bP prog O w0 mD fun z => z = (y, ()))
def Ka (O : Nat → Prop) (w0 : World) (l : List Nd) (hm : l.length ≤ 1000000) :=
 PLift.up <| bf (σ := List Mem) l.length (fun i b => b = (l.take i).map sfN)
  (fun i b => GMb O w0 (bH l) [] eZ (lp eB 3) (pZ l (lnx ag l) (i : Nat) b))
  (fun i b hi hs ih => aB nk (mF l _ _ b) (by
   refine ⟨fun _ => ⟨a6 hi, ?_, ?_⟩, fun hc => absurd hi (by rw [bB (e := ag)] at hc; exact of_decide_eq_false hc)⟩
   ·rw [List.length_append, hs, List.length_map, List.length_take]
    exact Nat.le_trans (show min i l.length + 1 ≤ 1000001 by omega) (by decide)
   ·rw [bM (e := ag) hi, bG hi (Nat.le_trans hm (by decide))]
    refine ih _ ?_
    rw [List.take_succ_eq_append_getElem hi, List.map_append, hs]; rfl))
  (fun b hs => aB nk (mF l _ _ b) ⟨fun hc => absurd (of_decide_eq_true hc) (Int.lt_irrefl _), fun _ => ⟨_, rfl, by
   rw [List.take_length] at hs
   rw [hs]; rfl⟩⟩)
theorem B6 : ap prog [] j8 j5 :=
 bw (S := j5) nk (fx := eZ) Ba (by kernel_rfl) (fun h => by cases h) (T := fun x => tt x.1) (fun x => yq x.1) fun O w0 x _ hp =>
  (Ka O w0 x.1.1 hp).down 0 [] (Nat.zero_le _) rfl
theorem Kq (n : Nd) (l : List Nd) (no : Int) : dJ (n :: l) no = bif decide (n.1.1 = no) then (n.1, true) else dJ l no := by
 unfold dJ
 rw [List.find?_cons]
 cases decide (n.1.1 = no) <;> rfl
abbrev GSf (O : Nat → Prop) (w0 : World) (y : Mem × Bool) := br prog nj (Cx.base O w0) (bP prog O w0 pE fun z => z = (y.1, y.2, ()))
def Nw (O : Nat → Prop) (w0 : World) (l : List Nd) (no : Int) (z : Mem) (hm : l.length ≤ maxLen) :=
 PLift.up <| bf (σ := Unit) l.length (fun i _ => dJ (l.drop i) no = dJ l no)
  (fun i _ => GSf O w0 (dJ l no) [] gz (lp ga 2) (uD no l (lnx ag l) (i : Nat) z))
  (fun i _ hi hs ih => aB rT (pe no l _ _ z) (by
   rw [List.drop_eq_getElem_cons hi, Kq] at hs
   refine ⟨fun _ => ⟨a6 hi, ?_⟩, fun hc => absurd hi (by rw [bB (e := ag)] at hc; exact of_decide_eq_false hc)⟩
   rw [bM (e := ag) hi, bG hi hm]
   refine ⟨fun hc => ⟨_, rfl, ?_⟩, fun hc => ih () ?_⟩
   ·have hc : decide (l[i].1.1 = no) = true := hc
    rw [hc] at hs
    show (_, _, _) = ((dJ l no).1, (dJ l no).2, ())
    rw [← hs]; rfl
   ·have hc : decide (l[i].1.1 = no) = false := hc
    rw [hc] at hs
    exact hs))
  (fun _ hs => aB rT (pe no l _ _ z) ⟨fun hc => absurd (of_decide_eq_true hc) (Int.lt_irrefl _), fun _ => ⟨_, rfl, by
   rw [List.drop_length] at hs
   show (_, _, _) = ((dJ l no).1, (dJ l no).2, ())
   rw [← hs]; rfl⟩⟩)
theorem Gz : ap prog [] ni nq :=
 bw (S := nq) rT (fx := gz) E8 (by kernel_rfl) (fun _ _ => trivial) (T := fun x => xy x.1 x.2.1) (fun x => Cw x.1 x.2.1) fun O w0 x hk _ =>
  (Nw O w0 x.1.1 x.2.1 _ hk.1.1.1).down 0 () (Nat.zero_le _) rfl
theorem EV : ap prog [] mh mr :=
 bw (S := mr) (FB gp tD) (fx := ux) DT (by kernel_rfl) (fun h => by cases h) (T := fun x => wU x.1) (fun x => AH x.1) fun O w0 x _ hp => by
  obtain ⟨n, ⟨⟩⟩ := x
  have hp : (be n).length ≤ 1000000 := hp
  have hf : List.flatten (List.set (List.set (List.set (List.replicate 3 (zero (Ty.slc ab))) 0 (List.set (List.replicate 1 (zero ab)) 0 n.2.1)) 1 n.2.2.1) 2 n.2.2.2.1) = be n := Nm _ _ _ _
  refine ⟨by rw [hf]; exact Nat.le_trans hp (by decide), trivial, _, rfl, ?_⟩
  rw [hf]
end Go.Proofs.Ytimdnodkabnbfaa
namespace Go.Proofs.Ytimdnodkabnbfaa
open Go Go.RowKit
noncomputable abbrev cv : Fx := { fn := cw, ann := { loops := [(1, { keep := [0, 5, 6, 7] })], frz := [(1000001, [1, 2, 3, 12, 13, 14])], gy := true }, share := true }
noncomputable abbrev cV : Fx := { fn := bu, ann := { loops := [(3, { keep := [1, 2, 3, 12, 13, 14, 42] })] }, share := true }
noncomputable abbrev gw : a7 := { D := { T := a8, F := [(j8, j5), (dD, dF), (mh, mr), (ni, nq), (m9, nD)], R := [], ovl := [] }, inl := [(c9, cv)] }
noncomputable abbrev pK : bo := .data oz
theorem FA (h_chord_Members : ap prog [] j8 j5) (h_node_Right : ap prog [] dD dF) (h_chord_known : ap prog [] mh mr) (h_chord_self : ap prog [] ni nq) (h_ring_Right : ap prog [] m9 nD) : XOk prog gw := xok (au (au (au (au (au (aI aS aC) h_ring_Right) h_chord_self) h_chord_known) h_node_Right) h_chord_Members) (by kernel_rfl) aK (mL qo (by kernel_rfl) aW) aV
noncomputable def wO (o : den ah) : af := af.req (List.length (Prod.fst o) ≤ 1000000) (af.all (den (Ty.slc ab)) (fun (q1 : den (Ty.slc ab)) ↦ q1 = bH (Prod.fst o)) fun (q1 : den (Ty.slc ab)) ↦ af.loop [] cV (lp bu 3) [(1, K.ptr 0 ah []), (2, K.ptr (0 + 1) Ty.bool []), (3, K.val (Ty.slc ab) q1), (12, K.val (Ty.slc ag) (Prod.fst o)), (13, K.val ae (lnx ag (Prod.fst o))), (14, K.val ae 0)] [(0, Bx.cell ah o), (0 + 1, Bx.cell Ty.bool (zero Ty.bool))])
theorem AS (o : den ah) : aj gw pK 5000 [] cV (az bu) (Env.of (aF uv (o, ()) 0) []) = wO o := by kernel_rfl
noncomputable def na (v3 : den (Ty.slc ab)) (v12 : den (Ty.slc ag)) (v13 : den ae) (v14 : den ae) (b0 : den ah) (b1 : den Ty.bool) : Env := Env.of [(1, K.ptr 0 ah []), (2, K.ptr (0 + 1) Ty.bool []), (3, K.val (Ty.slc ab) v3), (12, K.val (Ty.slc ag) v12), (13, K.val ae v13), (14, K.val ae v14)] [(0, Bx.cell ah b0), (1, Bx.cell Ty.bool b1)]
noncomputable def Bi (v3 : den (Ty.slc ab)) (v12 : den (Ty.slc ag)) (v13 : den ae) (v14 : den ae) (b0 : den ah) (b1 : den Ty.bool) : af := af.ite (decide (v14 < v13)) (af.req (inB v14 (lnx ag v12)) (af.req True (af.req (cG [(!aO (el ag v12 v14), false), (decide (0 < v14), true)] (inB (IntKind.wrap IntKind.i64 (v14 - 1)) (lnx ag (Prod.fst b0)))) (af.all (den Ty.bool) (fun (q6 : den Ty.bool) ↦ q6 = aO (el ag v12 v14)) fun (q6 : den Ty.bool) ↦ af.ite (bif !aO (el ag v12 v14) then true else bif decide (0 < v14) then decide (Prod.fst (Prod.fst (el ag v12 v14)) ≤ Prod.fst (Prod.fst (el ag (Prod.fst b0) (IntKind.wrap IntKind.i64 (v14 - 1))))) else false) (af.ret (K.val (Ty.pair Ty.bool Ty.unit) (false, PUnit.unit))) (af.req (List.length (be (el ag v12 v14)) ≤ 1000000) (af.loop [{ fx := cV, todo := dv bu 9, dst := none, s := ofS [(1, K.ptr (0 + 1) ah []), (2, K.ptr (0 + 1 + 1) Ty.bool []), (3, K.val (Ty.slc ab) v3), (12, K.val (Ty.slc ag) v12), (13, K.val ae v13), (14, K.val ae v14)], rng := some 0 }] cv (lp cw 1) [(0, K.yld 0), (5, K.val (Ty.slc ab) (be (el ag v12 v14))), (6, K.val ae (lnx ab (be (el ag v12 v14)))), (7, K.val ae 0)] [(0, Bx.lop LoopState.ready none [(1, K.ptr (0 + 1) ah []), (2, K.ptr (0 + 1 + 1) Ty.bool [])] 59 (n7 bu 9) (eX bu 9) (iz bu 9)), (0 + 1, Bx.cell ah b0), (0 + 1 + 1, Bx.cell Ty.bool b1)])))))) (af.req True (af.all (den Ty.bool) (fun (q6 : den Ty.bool) ↦ q6 = cq v3) fun (q6 : den Ty.bool) ↦ af.ret (K.val (Ty.pair Ty.bool Ty.unit) (q6, PUnit.unit))))
theorem nL (v3 : den (Ty.slc ab)) (v12 : den (Ty.slc ag)) (v13 : den ae) (v14 : den ae) (b0 : den ah) (b1 : den Ty.bool) : aj gw pK 5000 [] cV (lp bu 3) (na v3 v12 v13 v14 b0 b1) = Bi v3 v12 v13 v14 b0 b1 := by kernel_rfl
noncomputable def eT (w0_3 : den (Ty.slc ab)) (w0_12 : den (Ty.slc ag)) (w0_13 : den ae) (w0_14 : den ae) (v5 : den (Ty.slc ab)) (v6 : den ae) (v7 : den ae) (b1 : den ah) (b2 : den Ty.bool) : List bW := [{ fx := cV, todo := dv bu 9, dst := none, s := ofS [(1, K.ptr (0 + 1) ah []), (2, K.ptr (0 + 1 + 1) Ty.bool []), (3, K.val (Ty.slc ab) w0_3), (12, K.val (Ty.slc ag) w0_12), (13, K.val ae w0_13), (14, K.val ae w0_14)], rng := some 0 }]
noncomputable def eS (w0_3 : den (Ty.slc ab)) (w0_12 : den (Ty.slc ag)) (w0_13 : den ae) (w0_14 : den ae) (v5 : den (Ty.slc ab)) (v6 : den ae) (v7 : den ae) (b1 : den ah) (b2 : den Ty.bool) : Env := Env.of [(0, K.yld 0), (5, K.val (Ty.slc ab) v5), (6, K.val ae v6), (7, K.val ae v7)] [(0, Bx.lop LoopState.ready none [(1, K.ptr (0 + 1) ah []), (2, K.ptr (0 + 1 + 1) Ty.bool [])] 59 (n7 bu 9) (eX bu 9) (iz bu 9)), (1, Bx.cell ah b1), (2, Bx.cell Ty.bool b2)]
noncomputable def jg (w0_3 : den (Ty.slc ab)) (w0_12 : den (Ty.slc ag)) (w0_13 : den ae) (w0_14 : den ae) (v5 : den (Ty.slc ab)) (v6 : den ae) (v7 : den ae) (b1 : den ah) (b2 : den Ty.bool) : af := af.ite (decide (v7 < v6)) (af.req (inB v7 (lnx ab v5)) (af.req True (af.all (den (Ty.pair ab (Ty.pair Ty.bool Ty.unit))) (fun (q9 : den (Ty.pair ab (Ty.pair Ty.bool Ty.unit))) ↦ q9 = (Prod.fst (dJ (Prod.fst b1) (Prod.fst (el ab v5 v7))), Prod.snd (dJ (Prod.fst b1) (Prod.fst (el ab v5 v7))), PUnit.unit)) fun (q9 : den (Ty.pair ab (Ty.pair Ty.bool Ty.unit))) ↦ af.ite (bif Prod.fst (Prod.snd q9) then !eqb ab (Prod.fst q9) (el ab v5 v7) else false) (af.ret (K.val (Ty.pair Ty.bool Ty.unit) (false, PUnit.unit))) (af.loop [{ fx := cV, todo := dv bu 9, dst := none, s := ofS [(1, K.ptr (0 + 1) ah []), (2, K.ptr (0 + 1 + 1) Ty.bool []), (3, K.val (Ty.slc ab) w0_3), (12, K.val (Ty.slc ag) w0_12), (13, K.val ae w0_13), (14, K.val ae w0_14)], rng := some 0 }] cv (lp cw 1) [(0, K.yld 0), (5, K.val (Ty.slc ab) v5), (6, K.val ae v6), (7, K.val ae (IntKind.wrap IntKind.i64 (v7 + 1)))] [(0, Bx.lop LoopState.ready none [(1, K.ptr (0 + 1) ah []), (2, K.ptr (0 + 1 + 1) Ty.bool [])] 59 (n7 bu 9) (eX bu 9) (iz bu 9)), (0 + 1, Bx.cell ah b1), (0 + 1 + 1, Bx.cell Ty.bool b2)])))) (af.loop [] cV (lp bu 3) [(1, K.ptr 0 ah []), (2, K.ptr (0 + 1) Ty.bool []), (3, K.val (Ty.slc ab) w0_3), (12, K.val (Ty.slc ag) w0_12), (13, K.val ae w0_13), (14, K.val ae (IntKind.wrap IntKind.i64 (w0_14 + 1)))] [(0, Bx.cell ah b1), (0 + 1, Bx.cell Ty.bool b2)])
theorem dO (w0_3 : den (Ty.slc ab)) (w0_12 : den (Ty.slc ag)) (w0_13 : den ae) (w0_14 : den ae) (v5 : den (Ty.slc ab)) (v6 : den ae) (v7 : den ae) (b1 : den ah) (b2 : den Ty.bool) : aj gw pK 5000 (eT w0_3 w0_12 w0_13 w0_14 v5 v6 v7 b1 b2) cv (lp cw 1) (eS w0_3 w0_12 w0_13 w0_14 v5 v6 v7 b1 b2) = jg w0_3 w0_12 w0_13 w0_14 v5 v6 v7 b1 b2 := by kernel_rfl
noncomputable abbrev eY : Fx := { fn := eF, ann := { loops := [(7, { keep := [3, 5, 6, 9, 10, 36, 37, 38], own := [(10, ae)] })], frz := [(1, [4]), (9, [12]), (12, [10])] }, share := true }
noncomputable abbrev jn : a7 := { D := { T := a8, F := [(cD, cE), (j4, jY), (j1, j3), (dK, dI), (bN, ci), (oM, oZ), (oY, oD), (oF, lX)], R := [], ovl := [] }, inl := [] }
noncomputable abbrev wS : bo := .data lr
theorem Fk (h_slices_IndexFunc_Node : ap prog [] cD cE) (h_lookup_asks_1 : ap prog [] j4 jY) (h_lookup_asks_2 : ap prog [] j1 j3) (h_slices_ContainsFunc_Node : ap prog [] dK dI) (h_slices_Concat_Member : ap prog [] bN (ci)) (h_node_Drop : ap prog [] oM oZ) (h_node_Owns : ap prog [] oY oD) (h_node_Next : ap prog [] oF lX) : XOk prog jn := xok (au (au (au (au (au (au (au (au (aI aS aC) h_node_Next) h_node_Owns) h_node_Drop) h_slices_Concat_Member) h_slices_ContainsFunc_Node) h_lookup_asks_2) h_lookup_asks_1) h_slices_IndexFunc_Node) (by kernel_rfl) aK aW aV
noncomputable def wA (o : den ah) (no : den ae) (id : den tId) : af := af.req (∀ (y : den (Ty.pair ag Ty.unit)), True) (af.req (∃ (h : den (Ty.pair ag Ty.unit) → den (Ty.pair Ty.bool Ty.unit)), (some fun (y : den (Ty.pair ag Ty.unit)) ↦ (decide (Prod.fst (Prod.fst (Prod.fst y)) = no), PUnit.unit)) = some h) (af.all (den ae) (fun (q3 : den ae) ↦ q3 = ixQ (prQ (some fun (y : den (Ty.pair ag Ty.unit)) ↦ (decide (Prod.fst (Prod.fst (Prod.fst y)) = no), PUnit.unit))) (Prod.fst o) 0) fun (q3 : den ae) ↦ af.ite (decide (q3 < 0)) (af.ret (K.val (Ty.pair ai (Ty.pair Ty.bool Ty.unit)) (zero (Ty.pair ab (Ty.pair Ty.bool Ty.unit)), false, PUnit.unit))) (af.req (inB q3 (lnx ag (Prod.fst o))) (af.req (List.length (List.flatten (List.set (List.set (List.set (List.replicate 3 (zero (Ty.slc ab))) 0 (List.set (List.replicate 1 (zero ab)) 0 (Prod.fst (Prod.snd (el ag (Prod.fst o) q3))))) 1 (Prod.fst (Prod.snd (Prod.snd (el ag (Prod.fst o) q3))))) 2 (Prod.fst (Prod.snd (Prod.snd (Prod.snd (el ag (Prod.fst o) q3))))))) ≤ bF) (af.all (den (Ty.slc ab)) (fun (q4 : den (Ty.slc ab)) ↦ q4 = List.flatten (List.set (List.set (List.set (List.replicate 3 (zero (Ty.slc ab))) 0 (List.set (List.replicate 1 (zero ab)) 0 (Prod.fst (Prod.snd (el ag (Prod.fst o) q3))))) 1 (Prod.fst (Prod.snd (Prod.snd (el ag (Prod.fst o) q3))))) 2 (Prod.fst (Prod.snd (Prod.snd (Prod.snd (el ag (Prod.fst o) q3))))))) fun (q4 : den (Ty.slc ab)) ↦ af.loop [] eY (lp eF 7) [(3, K.ptr 0 ah []), (5, K.ptr (0 + 1) tId []), (6, K.ptr (0 + 1 + 1) ai []), (9, K.ptr (0 + 1 + 1 + 1) ag []), (10, K.sl (0 + 1 + 1 + 1 + 1) ae), (36, K.val (Ty.slc ab) q4), (37, K.val ae (lnx ab q4)), (38, K.val ae 0)] [(0, Bx.cell ah o), (0 + 1, Bx.cell tId id), (0 + 1 + 1, Bx.cell ai (zero ai)), (0 + 1 + 1 + 1, Bx.cell ag (el ag (Prod.fst o) q3)), (0 + 1 + 1 + 1 + 1, Bx.row ae [])])))))
theorem Ay (o : den ah) (no : den ae) (id : den tId) : aj jn wS 5000 [] eY (az eF) (Env.of (aF ui (o, no, id, ()) 0) []) = wA o no id := by kernel_rfl
noncomputable def sv (v36 : den (Ty.slc ab)) (v37 : den ae) (v38 : den ae) (b0 : den ah) (b1 : den tId) (b2 : den ai) (b3 : den ag) (b4 : List (den ae)) : Env := Env.of [(3, K.ptr 0 ah []), (5, K.ptr (0 + 1) tId []), (6, K.ptr (0 + 1 + 1) ai []), (9, K.ptr (0 + 1 + 1 + 1) ag []), (10, K.sl (0 + 1 + 1 + 1 + 1) ae), (36, K.val (Ty.slc ab) v36), (37, K.val ae v37), (38, K.val ae v38)] [(0, Bx.cell ah b0), (1, Bx.cell tId b1), (2, Bx.cell ai b2), (3, Bx.cell ag b3), (4, Bx.row ae b4)]
noncomputable def AU (v36 : den (Ty.slc ab)) (v37 : den ae) (v38 : den ae) (b0 : den ah) (b1 : den tId) (b2 : den ai) (b3 : den ag) (b4 : List (den ae)) : af := af.ite (decide (v38 < v37)) (af.req (inB v38 (lnx ab v36)) (af.req (∀ (y : den (Ty.pair ag Ty.unit)), True) (af.req (∃ (h : den (Ty.pair ag Ty.unit) → den (Ty.pair Ty.bool Ty.unit)), (some fun (y : den (Ty.pair ag Ty.unit)) ↦ (decide (Prod.fst (Prod.fst (Prod.fst y)) = Prod.fst (el ab v36 v38)), PUnit.unit)) = some h) (af.all (den Ty.bool) (fun (q8 : den Ty.bool) ↦ q8 = List.any (Prod.fst b0) (prQ (some fun (y : den (Ty.pair ag Ty.unit)) ↦ (decide (Prod.fst (Prod.fst (Prod.fst y)) = Prod.fst (el ab v36 v38)), PUnit.unit)))) fun (q8 : den Ty.bool) ↦ af.ite (!q8) (af.req (List.length (b4 ++ List.set (List.replicate 1 (zero ae)) 0 (Prod.fst (el ab v36 v38))) ≤ bF) (af.loop [] eY (lp eF 7) [(3, K.ptr 0 ah []), (5, K.ptr (0 + 1) tId []), (6, K.ptr (0 + 1 + 1) ai []), (9, K.ptr (0 + 1 + 1 + 1) ag []), (10, K.sl (0 + 1 + 1 + 1 + 1) ae), (36, K.val (Ty.slc ab) v36), (37, K.val ae v37), (38, K.val ae (IntKind.wrap IntKind.i64 (v38 + 1)))] [(0, Bx.cell ah b0), (0 + 1, Bx.cell tId b1), (0 + 1 + 1, Bx.cell ai b2), (0 + 1 + 1 + 1, Bx.cell ag b3), (0 + 1 + 1 + 1 + 1, Bx.row ae (b4 ++ List.set (List.replicate 1 (zero ae)) 0 (Prod.fst (el ab v36 v38))))])) (af.loop [] eY (lp eF 7) [(3, K.ptr 0 ah []), (5, K.ptr (0 + 1) tId []), (6, K.ptr (0 + 1 + 1) ai []), (9, K.ptr (0 + 1 + 1 + 1) ag []), (10, K.sl (0 + 1 + 1 + 1 + 1) ae), (36, K.val (Ty.slc ab) v36), (37, K.val ae v37), (38, K.val ae (IntKind.wrap IntKind.i64 (v38 + 1)))] [(0, Bx.cell ah b0), (0 + 1, Bx.cell tId b1), (0 + 1 + 1, Bx.cell ai b2), (0 + 1 + 1 + 1, Bx.cell ag b3), (0 + 1 + 1 + 1 + 1, Bx.row ae b4)]))))) (af.req True (af.all (den (Ty.pair ag (Ty.pair ae Ty.unit))) (fun (q8 : den (Ty.pair ag (Ty.pair ae Ty.unit))) ↦ q8 = (Prod.fst (fY b3 b4), Prod.snd (fY b3 b4), PUnit.unit)) fun (q8 : den (Ty.pair ag (Ty.pair ae Ty.unit))) ↦ af.req True (af.all (den Ty.bool) (fun (q9 : den Ty.bool) ↦ q9 = jL (Prod.fst q8) b1) fun (q9 : den Ty.bool) ↦ af.ite q9 (af.ret (K.val (Ty.pair ai (Ty.pair Ty.bool Ty.unit)) ((Prod.fst (Prod.fst q8), true, zero Ty.unit), true, PUnit.unit))) (af.req True (af.all (den (Ty.pair ab (Ty.pair Ty.bool (Ty.pair ae Ty.unit)))) (fun (q10 : den (Ty.pair ab (Ty.pair Ty.bool (Ty.pair ae Ty.unit)))) ↦ q10 = (Prod.fst (cU (Prod.fst q8) b1), Prod.fst (Prod.snd (cU (Prod.fst q8) b1)), Prod.snd (Prod.snd (cU (Prod.fst q8) b1)), PUnit.unit)) fun (q10 : den (Ty.pair ab (Ty.pair Ty.bool (Ty.pair ae Ty.unit)))) ↦ af.ret (K.val (Ty.pair ai (Ty.pair Ty.bool Ty.unit)) ((Prod.fst q10, Prod.fst (Prod.snd q10), zero Ty.unit), true, PUnit.unit)))))))
theorem nR (v36 : den (Ty.slc ab)) (v37 : den ae) (v38 : den ae) (b0 : den ah) (b1 : den tId) (b2 : den ai) (b3 : den ag) (b4 : List (den ae)) : aj jn wS 5000 [] eY (lp eF 7) (sv v36 v37 v38 b0 b1 b2 b3 b4) = AU v36 v37 v38 b0 b1 b2 b3 b4 := by kernel_rfl
noncomputable abbrev BW : Fx := { fn := vd, ann := { }, share := true }
noncomputable abbrev cX : Fx := { fn := cH, ann := { loops := [(1, { keep := [0, 2, 3, 5] })], frz := [(1000001, [4, 6, 7, 8, 9, 10, 11])], gy := true }, share := true }
noncomputable abbrev fa : Fx := { fn := bh, ann := { }, own := [8, 11], share := true }
noncomputable abbrev gx : a7 := { D := { T := a8, F := [(ma, mg), (mj, mb)], R := [], ovl := [] }, inl := [(u6, BW), (qZ, cX)] }
noncomputable abbrev pD : bo := .data dP
theorem Fl (h_chord_Right : ap prog [] ma mg) (h_lookup_asks : ap prog [] mj mb) : XOk prog gx := xok (au (au (aI aS aC) h_lookup_asks) h_chord_Right) (by kernel_rfl) aK (mL BT (by kernel_rfl) (mL zx (by kernel_rfl) aW)) aV
noncomputable def wu (o : den ah) (no : den ae) (id : den tId) (hops : den ae) : af := af.req (List.length (Prod.fst o) ≤ 1000000) (af.all (den Ty.bool) (fun (q4 : den Ty.bool) ↦ q4 = a5 (Prod.fst o)) fun (q4 : den Ty.bool) ↦ af.ite (bif bif !q4 then true else decide (hops < 0) then true else decide (16 < hops)) (af.ret (K.val (Ty.pair (Ty.slc ae) (Ty.pair ab (Ty.pair ae Ty.unit))) ([], zero (Ty.pair ae (Ty.pair tId Ty.unit)), 1, PUnit.unit))) (af.loop [{ fx := fa, todo := dv bh 7, dst := none, s := ofS [(4, K.ptr (0 + 1 + 1 + 1) ah []), (6, K.ptr (0 + 1 + 1 + 1 + 1) tId []), (7, K.ptr (0 + 1 + 1 + 1 + 1 + 1) ae []), (8, K.ptr (0 + 1 + 1 + 1 + 1 + 1 + 1) (Ty.slc ae) []), (9, K.ptr (0 + 1 + 1 + 1 + 1 + 1 + 1 + 1) ab []), (10, K.ptr (0 + 1 + 1 + 1 + 1 + 1 + 1 + 1 + 1) ae []), (11, K.ptr (0 + 1 + 1 + 1 + 1 + 1 + 1 + 1 + 1 + 1) (Ty.slc ae) [])], rng := some 0 }] cX (lp cH 1) [(0, K.yld 0), (2, K.ptr (0 + 1) ah []), (3, K.ptr (0 + 1 + 1) tId []), (5, K.val ae no)] [(0, Bx.lop LoopState.ready none [(7, K.ptr (0 + 1 + 1 + 1 + 1 + 1) ae []), (11, K.ptr (0 + 1 + 1 + 1 + 1 + 1 + 1 + 1 + 1 + 1) (Ty.slc ae) []), (8, K.ptr (0 + 1 + 1 + 1 + 1 + 1 + 1) (Ty.slc ae) []), (9, K.ptr (0 + 1 + 1 + 1 + 1 + 1 + 1 + 1) ab []), (10, K.ptr (0 + 1 + 1 + 1 + 1 + 1 + 1 + 1 + 1) ae [])] 73 (n7 bh 7) (eX bh 7) (iz bh 7)), (0 + 1, Bx.cell ah o), (0 + 1 + 1, Bx.cell tId id), (0 + 1 + 1 + 1, Bx.cell ah o), (0 + 1 + 1 + 1 + 1, Bx.cell tId id), (0 + 1 + 1 + 1 + 1 + 1, Bx.cell ae hops), (0 + 1 + 1 + 1 + 1 + 1 + 1, Bx.obj (Ty.slc ae) K.nilsl), (0 + 1 + 1 + 1 + 1 + 1 + 1 + 1, Bx.cell ab (zero ab)), (0 + 1 + 1 + 1 + 1 + 1 + 1 + 1 + 1, Bx.cell ae (zero ae)), (0 + 1 + 1 + 1 + 1 + 1 + 1 + 1 + 1 + 1, Bx.obj (Ty.slc ae) K.nilsl)]))
theorem AR (o : den ah) (no : den ae) (id : den tId) (hops : den ae) : aj gx pD 5000 [] fa (az bh) (Env.of (aF vf (o, no, id, hops, ()) 0) []) = wu o no id hops := by kernel_rfl
noncomputable def gP (v5 : den ae) (b1 : den ah) (b2 : den tId) (b3 : den ah) (b4 : den tId) (b5 : den ae) (b7 : den ab) (b8 : den ae) : List bW := [{ fx := fa, todo := dv bh 7, dst := none, s := ofS [(4, K.ptr (0 + 1 + 1 + 1) ah []), (6, K.ptr (0 + 1 + 1 + 1 + 1) tId []), (7, K.ptr (0 + 1 + 1 + 1 + 1 + 1) ae []), (8, K.ptr (0 + 1 + 1 + 1 + 1 + 1 + 1) (Ty.slc ae) []), (9, K.ptr (0 + 1 + 1 + 1 + 1 + 1 + 1 + 1) ab []), (10, K.ptr (0 + 1 + 1 + 1 + 1 + 1 + 1 + 1 + 1) ae []), (11, K.ptr (0 + 1 + 1 + 1 + 1 + 1 + 1 + 1 + 1 + 1) (Ty.slc ae) [])], rng := some 0 }]
noncomputable def gG (v5 : den ae) (b1 : den ah) (b2 : den tId) (b3 : den ah) (b4 : den tId) (b5 : den ae) (b7 : den ab) (b8 : den ae) : Env := Env.of [(0, K.yld 0), (2, K.ptr (0 + 1) ah []), (3, K.ptr (0 + 1 + 1) tId []), (5, K.val ae v5)] [(0, Bx.lop LoopState.ready none [(7, K.ptr (0 + 1 + 1 + 1 + 1 + 1) ae []), (11, K.ptr (0 + 1 + 1 + 1 + 1 + 1 + 1 + 1 + 1 + 1) (Ty.slc ae) []), (8, K.ptr (0 + 1 + 1 + 1 + 1 + 1 + 1) (Ty.slc ae) []), (9, K.ptr (0 + 1 + 1 + 1 + 1 + 1 + 1 + 1) ab []), (10, K.ptr (0 + 1 + 1 + 1 + 1 + 1 + 1 + 1 + 1) ae [])] 73 (n7 bh 7) (eX bh 7) (iz bh 7)), (1, Bx.cell ah b1), (2, Bx.cell tId b2), (3, Bx.cell ah b3), (4, Bx.cell tId b4), (5, Bx.cell ae b5), (6, Bx.obj (Ty.slc ae) K.nilsl), (7, Bx.cell ab b7), (8, Bx.cell ae b8), (9, Bx.obj (Ty.slc ae) K.nilsl)]
noncomputable def m0 (v5 : den ae) (b1 : den ah) (b2 : den tId) (b3 : den ah) (b4 : den tId) (b5 : den ae) (b7 : den ab) (b8 : den ae) : af := af.req (a5 (Prod.fst b1) = true) (af.all (den (Ty.pair ai (Ty.pair Ty.bool Ty.unit))) (fun (q8 : den (Ty.pair ai (Ty.pair Ty.bool Ty.unit))) ↦ q8 = (Prod.fst (ax (Prod.fst b1) v5 b2), Prod.snd (ax (Prod.fst b1) v5 b2), PUnit.unit)) fun (q8 : den (Ty.pair ai (Ty.pair Ty.bool Ty.unit))) ↦ af.ite (!Prod.fst (Prod.snd q8)) (af.ret (K.val (Ty.pair (Ty.slc ae) (Ty.pair ab (Ty.pair ae Ty.unit))) ([], zero (Ty.pair ae (Ty.pair tId Ty.unit)), 10, PUnit.unit))) (af.ite (decide (b5 < 0)) (af.ret (K.val (Ty.pair (Ty.slc ae) (Ty.pair ab (Ty.pair ae Ty.unit))) ([], zero (Ty.pair ae (Ty.pair tId Ty.unit)), 9, PUnit.unit))) (af.req (List.length (List.set (List.replicate 1 (zero ae)) 0 v5) ≤ bF) (af.ite (bif Prod.fst (Prod.snd (Prod.fst q8)) then decide (Prod.fst (Prod.fst (Prod.fst q8)) = v5) else false) (af.ret (K.val (Ty.pair (Ty.slc ae) (Ty.pair ab (Ty.pair ae Ty.unit))) (List.set (List.replicate 1 (zero ae)) 0 v5, Prod.fst (Prod.fst q8), 0, PUnit.unit))) (af.ite (Prod.fst (Prod.snd (Prod.fst q8))) (af.req (List.length (List.set (List.replicate 1 (zero ae)) 0 v5 ++ List.set (List.replicate 1 (zero ae)) 0 (Prod.fst (Prod.fst (Prod.fst q8)))) ≤ bF) (af.ret (K.val (Ty.pair (Ty.slc ae) (Ty.pair ab (Ty.pair ae Ty.unit))) (List.set (List.replicate 1 (zero ae)) 0 v5 ++ List.set (List.replicate 1 (zero ae)) 0 (Prod.fst (Prod.fst (Prod.fst q8))), Prod.fst (Prod.fst q8), 0, PUnit.unit)))) (af.ite (decide (Prod.fst (Prod.fst (Prod.fst q8)) = v5)) (af.ret (K.val (Ty.pair (Ty.slc ae) (Ty.pair ab (Ty.pair ae Ty.unit))) ([], zero (Ty.pair ae (Ty.pair tId Ty.unit)), 13, PUnit.unit))) (af.ite (bif Prod.fst (Prod.snd (Prod.fst q8)) then true else eqb ai (Prod.fst q8) ((v5, Prod.fst (Prod.snd (Prod.fst (Prod.fst q8))), zero Ty.unit), zero (Ty.pair Ty.bool Ty.unit))) (af.ret (K.val (Ty.pair (Ty.slc ae) (Ty.pair ab (Ty.pair ae Ty.unit))) ([], zero (Ty.pair ae (Ty.pair tId Ty.unit)), 10, PUnit.unit))) (af.loop [{ fx := fa, todo := dv bh 7, dst := none, s := ofS [(4, K.ptr (0 + 1 + 1 + 1) ah []), (6, K.ptr (0 + 1 + 1 + 1 + 1) tId []), (7, K.ptr (0 + 1 + 1 + 1 + 1 + 1) ae []), (8, K.ptr (0 + 1 + 1 + 1 + 1 + 1 + 1) (Ty.slc ae) []), (9, K.ptr (0 + 1 + 1 + 1 + 1 + 1 + 1 + 1) ab []), (10, K.ptr (0 + 1 + 1 + 1 + 1 + 1 + 1 + 1 + 1) ae []), (11, K.ptr (0 + 1 + 1 + 1 + 1 + 1 + 1 + 1 + 1 + 1) (Ty.slc ae) [])], rng := some 0 }] cX (lp cH 1) [(0, K.yld 0), (2, K.ptr (0 + 1) ah []), (3, K.ptr (0 + 1 + 1) tId []), (5, K.val ae (Prod.fst (Prod.fst (Prod.fst q8))))] [(0, Bx.lop LoopState.ready none [(7, K.ptr (0 + 1 + 1 + 1 + 1 + 1) ae []), (11, K.ptr (0 + 1 + 1 + 1 + 1 + 1 + 1 + 1 + 1 + 1) (Ty.slc ae) []), (8, K.ptr (0 + 1 + 1 + 1 + 1 + 1 + 1) (Ty.slc ae) []), (9, K.ptr (0 + 1 + 1 + 1 + 1 + 1 + 1 + 1) ab []), (10, K.ptr (0 + 1 + 1 + 1 + 1 + 1 + 1 + 1 + 1) ae [])] 73 (n7 bh 7) (eX bh 7) (iz bh 7)), (0 + 1, Bx.cell ah b1), (0 + 1 + 1, Bx.cell tId b2), (0 + 1 + 1 + 1, Bx.cell ah b3), (0 + 1 + 1 + 1 + 1, Bx.cell tId b4), (0 + 1 + 1 + 1 + 1 + 1, Bx.cell ae b5), (0 + 1 + 1 + 1 + 1 + 1 + 1, Bx.obj (Ty.slc ae) K.nilsl), (0 + 1 + 1 + 1 + 1 + 1 + 1 + 1, Bx.cell ab b7), (0 + 1 + 1 + 1 + 1 + 1 + 1 + 1 + 1, Bx.cell ae b8), (0 + 1 + 1 + 1 + 1 + 1 + 1 + 1 + 1 + 1, Bx.obj (Ty.slc ae) (K.sl (0 + 1 + 1 + 1 + 1 + 1 + 1 + 1 + 1 + 1 + 1) ae)), (0 + 1 + 1 + 1 + 1 + 1 + 1 + 1 + 1 + 1 + 1, Bx.row ae (List.set (List.replicate 1 (zero ae)) 0 v5))]))))))))
theorem lF (v5 : den ae) (b1 : den ah) (b2 : den tId) (b3 : den ah) (b4 : den tId) (b5 : den ae) (b7 : den ab) (b8 : den ae) : aj gx pD 5000 (gP v5 b1 b2 b3 b4 b5 b7 b8) cX (lp cH 1) (gG v5 b1 b2 b3 b4 b5 b7 b8) = m0 v5 b1 b2 b3 b4 b5 b7 b8 := by kernel_rfl
noncomputable def gc (v5 : den ae) (b1 : den ah) (b2 : den tId) (b3 : den ah) (b4 : den tId) (b5 : den ae) (b7 : den ab) (b8 : den ae) (b10 : List (den ae)) : List bW := [{ fx := fa, todo := dv bh 7, dst := none, s := ofS [(4, K.ptr (0 + 1 + 1 + 1) ah []), (6, K.ptr (0 + 1 + 1 + 1 + 1) tId []), (7, K.ptr (0 + 1 + 1 + 1 + 1 + 1) ae []), (8, K.ptr (0 + 1 + 1 + 1 + 1 + 1 + 1) (Ty.slc ae) []), (9, K.ptr (0 + 1 + 1 + 1 + 1 + 1 + 1 + 1) ab []), (10, K.ptr (0 + 1 + 1 + 1 + 1 + 1 + 1 + 1 + 1) ae []), (11, K.ptr (0 + 1 + 1 + 1 + 1 + 1 + 1 + 1 + 1 + 1) (Ty.slc ae) [])], rng := some 0 }]
noncomputable def gb (v5 : den ae) (b1 : den ah) (b2 : den tId) (b3 : den ah) (b4 : den tId) (b5 : den ae) (b7 : den ab) (b8 : den ae) (b10 : List (den ae)) : Env := Env.of [(0, K.yld 0), (2, K.ptr (0 + 1) ah []), (3, K.ptr (0 + 1 + 1) tId []), (5, K.val ae v5)] [(0, Bx.lop LoopState.ready none [(7, K.ptr (0 + 1 + 1 + 1 + 1 + 1) ae []), (11, K.ptr (0 + 1 + 1 + 1 + 1 + 1 + 1 + 1 + 1 + 1) (Ty.slc ae) []), (8, K.ptr (0 + 1 + 1 + 1 + 1 + 1 + 1) (Ty.slc ae) []), (9, K.ptr (0 + 1 + 1 + 1 + 1 + 1 + 1 + 1) ab []), (10, K.ptr (0 + 1 + 1 + 1 + 1 + 1 + 1 + 1 + 1) ae [])] 73 (n7 bh 7) (eX bh 7) (iz bh 7)), (1, Bx.cell ah b1), (2, Bx.cell tId b2), (3, Bx.cell ah b3), (4, Bx.cell tId b4), (5, Bx.cell ae b5), (6, Bx.obj (Ty.slc ae) K.nilsl), (7, Bx.cell ab b7), (8, Bx.cell ae b8), (9, Bx.obj (Ty.slc ae) (K.sl (0 + 1 + 1 + 1 + 1 + 1 + 1 + 1 + 1 + 1 + 1) ae)), (10, Bx.row ae b10)]
noncomputable def lN (v5 : den ae) (b1 : den ah) (b2 : den tId) (b3 : den ah) (b4 : den tId) (b5 : den ae) (b7 : den ab) (b8 : den ae) (b10 : List (den ae)) : af := af.req (a5 (Prod.fst b1) = true) (af.all (den (Ty.pair ai (Ty.pair Ty.bool Ty.unit))) (fun (q9 : den (Ty.pair ai (Ty.pair Ty.bool Ty.unit))) ↦ q9 = (Prod.fst (ax (Prod.fst b1) v5 b2), Prod.snd (ax (Prod.fst b1) v5 b2), PUnit.unit)) fun (q9 : den (Ty.pair ai (Ty.pair Ty.bool Ty.unit))) ↦ af.ite (!Prod.fst (Prod.snd q9)) (af.ret (K.val (Ty.pair (Ty.slc ae) (Ty.pair ab (Ty.pair ae Ty.unit))) ([], zero (Ty.pair ae (Ty.pair tId Ty.unit)), 10, PUnit.unit))) (af.ite (decide (b5 < lnx ae b10)) (af.ret (K.val (Ty.pair (Ty.slc ae) (Ty.pair ab (Ty.pair ae Ty.unit))) ([], zero (Ty.pair ae (Ty.pair tId Ty.unit)), 9, PUnit.unit))) (af.req (List.length (b10 ++ List.set (List.replicate 1 (zero ae)) 0 v5) ≤ bF) (af.ite (bif Prod.fst (Prod.snd (Prod.fst q9)) then decide (Prod.fst (Prod.fst (Prod.fst q9)) = v5) else false) (af.ret (K.val (Ty.pair (Ty.slc ae) (Ty.pair ab (Ty.pair ae Ty.unit))) (b10 ++ List.set (List.replicate 1 (zero ae)) 0 v5, Prod.fst (Prod.fst q9), 0, PUnit.unit))) (af.ite (Prod.fst (Prod.snd (Prod.fst q9))) (af.req (List.length (b10 ++ List.set (List.replicate 1 (zero ae)) 0 v5 ++ List.set (List.replicate 1 (zero ae)) 0 (Prod.fst (Prod.fst (Prod.fst q9)))) ≤ bF) (af.ret (K.val (Ty.pair (Ty.slc ae) (Ty.pair ab (Ty.pair ae Ty.unit))) (b10 ++ List.set (List.replicate 1 (zero ae)) 0 v5 ++ List.set (List.replicate 1 (zero ae)) 0 (Prod.fst (Prod.fst (Prod.fst q9))), Prod.fst (Prod.fst q9), 0, PUnit.unit)))) (af.ite (decide (Prod.fst (Prod.fst (Prod.fst q9)) = v5)) (af.ret (K.val (Ty.pair (Ty.slc ae) (Ty.pair ab (Ty.pair ae Ty.unit))) ([], zero (Ty.pair ae (Ty.pair tId Ty.unit)), 13, PUnit.unit))) (af.ite (bif Prod.fst (Prod.snd (Prod.fst q9)) then true else eqb ai (Prod.fst q9) ((v5, Prod.fst (Prod.snd (Prod.fst (Prod.fst q9))), zero Ty.unit), zero (Ty.pair Ty.bool Ty.unit))) (af.ret (K.val (Ty.pair (Ty.slc ae) (Ty.pair ab (Ty.pair ae Ty.unit))) ([], zero (Ty.pair ae (Ty.pair tId Ty.unit)), 10, PUnit.unit))) (af.loop [{ fx := fa, todo := dv bh 7, dst := none, s := ofS [(4, K.ptr (0 + 1 + 1 + 1) ah []), (6, K.ptr (0 + 1 + 1 + 1 + 1) tId []), (7, K.ptr (0 + 1 + 1 + 1 + 1 + 1) ae []), (8, K.ptr (0 + 1 + 1 + 1 + 1 + 1 + 1) (Ty.slc ae) []), (9, K.ptr (0 + 1 + 1 + 1 + 1 + 1 + 1 + 1) ab []), (10, K.ptr (0 + 1 + 1 + 1 + 1 + 1 + 1 + 1 + 1) ae []), (11, K.ptr (0 + 1 + 1 + 1 + 1 + 1 + 1 + 1 + 1 + 1) (Ty.slc ae) [])], rng := some 0 }] cX (lp cH 1) [(0, K.yld 0), (2, K.ptr (0 + 1) ah []), (3, K.ptr (0 + 1 + 1) tId []), (5, K.val ae (Prod.fst (Prod.fst (Prod.fst q9))))] [(0, Bx.lop LoopState.ready none [(7, K.ptr (0 + 1 + 1 + 1 + 1 + 1) ae []), (11, K.ptr (0 + 1 + 1 + 1 + 1 + 1 + 1 + 1 + 1 + 1) (Ty.slc ae) []), (8, K.ptr (0 + 1 + 1 + 1 + 1 + 1 + 1) (Ty.slc ae) []), (9, K.ptr (0 + 1 + 1 + 1 + 1 + 1 + 1 + 1) ab []), (10, K.ptr (0 + 1 + 1 + 1 + 1 + 1 + 1 + 1 + 1) ae [])] 73 (n7 bh 7) (eX bh 7) (iz bh 7)), (0 + 1, Bx.cell ah b1), (0 + 1 + 1, Bx.cell tId b2), (0 + 1 + 1 + 1, Bx.cell ah b3), (0 + 1 + 1 + 1 + 1, Bx.cell tId b4), (0 + 1 + 1 + 1 + 1 + 1, Bx.cell ae b5), (0 + 1 + 1 + 1 + 1 + 1 + 1, Bx.obj (Ty.slc ae) K.nilsl), (0 + 1 + 1 + 1 + 1 + 1 + 1 + 1, Bx.cell ab b7), (0 + 1 + 1 + 1 + 1 + 1 + 1 + 1 + 1, Bx.cell ae b8), (0 + 1 + 1 + 1 + 1 + 1 + 1 + 1 + 1 + 1, Bx.obj (Ty.slc ae) (K.sl (0 + 1 + 1 + 1 + 1 + 1 + 1 + 1 + 1 + 1 + 1) ae)), (0 + 1 + 1 + 1 + 1 + 1 + 1 + 1 + 1 + 1 + 1, Bx.row ae (b10 ++ List.set (List.replicate 1 (zero ae)) 0 v5))]))))))))
theorem kA (v5 : den ae) (b1 : den ah) (b2 : den tId) (b3 : den ah) (b4 : den tId) (b5 : den ae) (b7 : den ab) (b8 : den ae) (b10 : List (den ae)) : aj gx pD 5000 (gc v5 b1 b2 b3 b4 b5 b7 b8 b10) cX (lp cH 1) (gb v5 b1 b2 b3 b4 b5 b7 b8 b10) = lN v5 b1 b2 b3 b4 b5 b7 b8 b10 := by kernel_rfl
end Go.Proofs.Ytimdnodkabnbfaa
namespace Go.Proofs.Ytimdnodkabnbfaa
open Go Go.RowKit
theorem tl {n : Nd} (h : aO n = true) : (be n).length ≤ 21 := by
 obtain ⟨l1, _, l3⟩ := GC h
 have e : (be n).length = 1 + n.2.2.1.length + n.2.2.2.1.length := by unfold be; rw [List.length_append, List.length_append]; rfl
 omega
theorem nh {l : List Nd} {i : Nat} (hi : i < l.length) (h : fM l (i : Nat) = false) : a5 l = false := by
 unfold a5
 rw [show (List.range l.length).all (fun i => fM l (i : Nat)) = false from List.all_eq_false.2 ⟨i, List.mem_range.2 hi, by rw [h]; decide⟩]
 rfl
theorem zY {l : List Nd} (h : a5 l = true) {i : Nat} (hi : i < l.length) : fM l (i : Nat) = true := by
 cases hn : fM l (i : Nat) with
 | true => rfl
 | false => rw [nh hi hn] at h; cases h
theorem Gr {l : List Nd} {i : Nat} (hi : i < l.length) (h : fM l (i : Nat) = true) : aO l[i] = true := by
 unfold fM xR at h
 rw [bM (e := ag) hi] at h
 cases hn : aO l[i] with
 | true => rfl
 | false => rw [hn] at h; cases h
theorem vX {l : List Nd} (h : a5 l = true) {n : Nd} (hn : n ∈ l) : aO n = true := by
 obtain ⟨i, hi, rfl⟩ := List.getElem_of_mem hn
 exact Gr hi (zY h hi)
abbrev GCr (O : Nat → Prop) (w0 : World) (y : Bool) := br prog gw (Cx.base O w0) (bP prog O w0 oz fun z => z = (y, ()))
theorem iD : XOk prog gw := FA B6 m4 EV Gz GS
def IX (O : Nat → Prop) (w0 : World) (o : Ov) (i : Nat) (z : Bool) (K : List Mem) (y : Bool) (hm : K.length ≤ maxLen) (hbad : (K.all fun m => !kd o.1 m) = false → y = false)
    (hnext : (K.all fun m => !kd o.1 m) = true → GCr O w0 y [] cV (lp bu 3) (na (bH o.1) o.1 (lnx ag o.1) (IntKind.wrap .i64 (((i : Nat) : Int) + 1)) o z)) :=
  PLift.up <| bf (σ := Unit) K.length (fun j _ => ((K.take j).all fun m => !kd o.1 m) = true)
    (fun j _ => GCr O w0 y (eT (bH o.1) o.1 (lnx ag o.1) (i : Nat) K (lnx ab K) (j : Nat) o z) cv (lp cw 1) (eS (bH o.1) o.1 (lnx ag o.1) (i : Nat) K (lnx ab K) (j : Nat) o z))
    (fun j _ hj hs ih => aB iD (dO _ _ _ _ K _ _ o z) (by
      refine ⟨fun _ => ⟨a6 hj, trivial, bg ?_⟩, fun hc => absurd hj (by rw [bB] at hc; exact of_decide_eq_false hc)⟩
      rw [bM hj, bG hj hm]
      have key : ∀ c : Bool, (bif (dJ o.1 K[j].1).2 then !eqb ab (dJ o.1 K[j].1).1 K[j] else false) = c → kd o.1 K[j] = c := fun c h => by
        unfold kd; rw [iI] at h; exact h
      refine ⟨fun hc => ⟨_, rfl, ?_⟩, fun hc => ih () ?_⟩
      · have hk := key true hc
        have : (K.all fun m => !kd o.1 m) = false := List.all_eq_false.2 ⟨K[j], List.getElem_mem hj, by rw [hk]; decide⟩
        rw [hbad this]
      · have hk := key false hc
        rw [List.take_succ_eq_append_getElem hj, List.all_append, hs]
        simp [hk]))
    (fun _ hs => aB iD (dO _ _ _ _ K _ _ o z) ⟨fun hc => absurd (of_decide_eq_true hc) (Int.lt_irrefl _), fun _ => hnext (by rw [List.take_length] at hs; exact hs)⟩)
def MB (O : Nat → Prop) (w0 : World) (o : Ov) (z : Bool) (hm : o.1.length ≤ 1000000) :=
 PLift.up <| bf (σ := Unit) o.1.length (fun i _ => ∀ j, j < i → fM o.1 (j : Nat) = true)
  (fun i _ => GCr O w0 (a5 o.1) [] cV (lp bu 3) (na (bH o.1) o.1 (lnx ag o.1) (i : Nat) o z))
  (fun i _ hi hs ih => aB iD (nL _ o.1 _ _ o z) (by
   have hw : i < 1000000 := Nat.lt_of_lt_of_le hi hm
   have hsm : IntKind.wrap .i64 (((i : Nat) : Int) - 1) = (i : Int) - 1 := cB (n := (i : Int) - 1) (by omega)
   refine ⟨fun _ => ⟨a6 hi, trivial, fun _ h0 => ?_, bg ?_⟩, fun hc => absurd hi (by rw [bB (e := ag)] at hc; exact of_decide_eq_false hc)⟩
   ·have h0 : (0 : Int) < (i : Nat) := of_decide_eq_true h0
    rw [hsm]
    exact ⟨by omega, show (i : Int) - 1 < ((o.1.length : Nat) : Int) by omega⟩
   ·rw [hsm]
    have hb : ∀ c : Bool, (bif !aO (el ag o.1 (i : Nat)) then true else bif decide ((0 : Int) < (i : Nat)) then decide ((el ag o.1 (i : Nat)).1.1 ≤ (el ag o.1 ((i : Nat) - 1)).1.1) else false) = c → xR o.1 (i : Nat) = c := fun c h => h
    refine ⟨fun hc => ⟨_, rfl, ?_⟩, fun hc => ?_⟩
    ·have := hb true hc
     rw [nh hi (by unfold fM; rw [this]; rfl)]
    ·have hbn := hb false hc
     have hr : aO (el ag o.1 (i : Nat)) = true := by
      cases hn : aO (el ag o.1 (i : Nat)) with
      | true => rfl
      | false => unfold xR at hbn; rw [hn] at hbn; cases hbn
     have hkl := tl hr
     have hok : fM o.1 (i : Nat) = (be (el ag o.1 (i : Nat))).all fun m => !kd o.1 m := by
      unfold fM; rw [hbn]; rfl
     refine ⟨Nat.le_trans hkl (by decide), (IX O w0 o i z (be (el ag o.1 (i : Nat))) (a5 o.1) (Nat.le_trans hkl (by decide)) (fun h => nh hi (by rw [hok]; exact h)) (fun h => ?_)).down 0 () (Nat.zero_le _) rfl⟩
     rw [bG hi (Nat.le_trans hm (by decide))]
     refine ih () fun j hj => ?_
     rcases Nat.lt_succ_iff_lt_or_eq.1 hj with h1 | h1
     ·exact hs j h1
     ·subst h1; rw [hok]; exact h))
  (fun _ hs => aB iD (nL _ o.1 _ _ o z) ⟨fun hc => absurd (of_decide_eq_true hc) (Int.lt_irrefl _), fun _ => ⟨trivial, bg ⟨_, rfl, by
   show (cq (bH o.1), ()) = (a5 o.1, ())
   unfold a5
   rw [show (List.range o.1.length).all (fun i => fM o.1 (i : Nat)) = true from List.all_eq_true.2 fun i hi => hs i (List.mem_range.1 hi)]
   rfl⟩⟩⟩)
theorem E4 : ap prog [] ma mg :=
 bw (S := mg) iD (fx := cV) D7 (by kernel_rfl) (fun h => by cases h) (T := fun x => wO x.1) (fun x => AS x.1) fun O w0 x _ hp =>
  ⟨hp, bg ((MB O w0 x.1 (zero Ty.bool) hp).down 0 () (Nat.zero_le _) (fun j hj => absurd hj (Nat.not_lt_zero _)))⟩
theorem Hn (p : Nd → Bool) : ∀ (l : List Nd) (i : Int), (l.find? p = none ∧ ixQ p l i = -1) ∨ ∃ k : Nat, ∃ h : k < l.length, ixQ p l i = i + (k : Int) ∧ l.find? p = some l[k]
 | [], _ => .inl ⟨rfl, rfl⟩
 | x :: l, i => by
  have e : ixQ p (x :: l) i = bif p x then i else ixQ p l (i + 1) := rfl
  cases hx : p x with
  | true => exact .inr ⟨0, by simp, by rw [e, hx]; simp, by rw [List.find?_cons, hx]; rfl⟩
  | false =>
   rw [e, hx, List.find?_cons, hx]
   rcases Hn p l (i + 1) with ⟨h1, h2⟩ | ⟨k, hk, h1, h2⟩
   ·exact .inl ⟨h1, h2⟩
   ·exact .inr ⟨k + 1, by simp; omega, by show ixQ p l (i + 1) = _; rw [h1]; push_cast; omega, h2⟩
abbrev GAk (O : Nat → Prop) (w0 : World) (y : Ans) := br prog jn (Cx.base O w0) (bP prog O w0 lr fun z => z = (y, true, ()))
theorem n8 : XOk prog jn := Fk lC BV BE pU gp HY Iw Ij
def Nr (O : Nat → Prop) (w0 : World) (o : Ov) (n : Nd) (id : List Int) (z : Ans) (hm : (be n).length ≤ 1000) :=
 PLift.up <| bf (σ := List Int) (be n).length (fun i b => b = (((be n).take i).filter fun m => !bZ o.1 m.1).map fun m => m.1)
  (fun i b => GAk O w0 (eV o.1 n id) [] eY (lp eF 7) (sv (be n) (lnx ab (be n)) (i : Nat) o id z n b))
  (fun i b hi hs ih => aB n8 (nR _ _ _ o id z n b) (by
   refine ⟨fun _ => ⟨a6 hi, fun _ => trivial, ⟨_, rfl⟩, bg ?_⟩, fun hc => absurd hi (by rw [bB] at hc; exact of_decide_eq_false hc)⟩
   rw [bM hi, bG hi (Nat.le_trans hm (by decide))]
   refine ⟨fun hc => ⟨?_, ih _ ?_⟩, fun hc => ih _ ?_⟩
   ·have h1 := List.length_filter_le (fun m : Mem => !bZ o.1 m.1) ((be n).take i)
    rw [List.length_append, hs, List.length_map]
    rw [List.length_take] at h1
    exact Nat.le_trans (show _ + 1 ≤ 1001 by omega) (by decide)
   ·have hc : (!bZ o.1 (be n)[i].1) = true := hc
    rw [List.take_succ_eq_append_getElem hi, List.filter_append, List.map_append, ← hs, List.filter_cons_of_pos (p := fun m : Mem => !bZ o.1 m.1) hc]
    rfl
   ·have hc : (!bZ o.1 (be n)[i].1) = false := hc
    rw [List.take_succ_eq_append_getElem hi, List.filter_append, List.map_append, ← hs, List.filter_cons_of_neg (p := fun m : Mem => !bZ o.1 m.1) (by rw [hc]; decide)]
    simp))
  (fun b hs => aB n8 (nR _ _ _ o id z n b) (by
   refine ⟨fun hc => absurd (of_decide_eq_true hc) (Int.lt_irrefl _), fun _ => ⟨trivial, bg ⟨trivial, bg ?_⟩⟩⟩
   rw [List.take_length] at hs
   have hb : b = fP o.1 n := hs
   rw [hb]
   refine ⟨fun h => ⟨_, rfl, ?_⟩, fun h => ⟨trivial, bg ⟨_, rfl, ?_⟩⟩⟩
   all_goals
    show (_, _, _) = (eV o.1 n id, true, ())
    unfold eV tY
    rw [h]
    rfl))
theorem xn {l : List Nd} {no : Int} {n : Nd} (id : List Int) (h : l.find? (fun n => decide (n.1.1 = no)) = some n) : ax l no id = (eV l n id, true) := by
 unfold ax; rw [h]
theorem El {l : List Nd} {no : Int} (id : List Int) (h : l.find? (fun n => decide (n.1.1 = no)) = none) : ax l no id = (zero ai, false) := by
 unfold ax; rw [h]
theorem Fh : ap prog [] mj mb :=
 bw (S := mb) n8 (fx := eY) Dq (by kernel_rfl) (fun h => by cases h) (T := fun x => wA x.1 x.2.1 x.2.2.1) (fun x => Ay x.1 x.2.1 x.2.2.1) fun O w0 x _ hp => by
  obtain ⟨o, no, id, ⟨⟩⟩ := x
  have hp : a5 o.1 = true := hp
  refine ⟨fun _ => trivial, ⟨_, rfl⟩, bg ?_⟩
  have e : prQ (some fun (y : den (Ty.pair ag Ty.unit)) => (decide (y.1.1.1 = no), PUnit.unit)) = fun n => decide (n.1.1 = no) := rfl
  rw [e]
  rcases Hn (fun n => decide (n.1.1 = no)) o.1 0 with ⟨h1, h2⟩ | ⟨k, hk, h1, h2⟩
  ·rw [h2]
   refine ⟨fun _ => ⟨_, rfl, ?_⟩, fun hc => (by cases hc)⟩
   show (_, _, _) = ((ax o.1 no id).1, (ax o.1 no id).2, ())
   rw [El id h1]
   rfl
  ·rw [h1]
   have e0 : (0 : Int) + (k : Int) = (k : Nat) := by omega
   rw [e0]
   refine ⟨fun hc => ?_, fun _ => ⟨a6 hk, ?_⟩⟩
   ·have hc : ((k : Nat) : Int) < 0 := of_decide_eq_true hc
    omega
   ·rw [bM (e := ag) hk]
    have hkl := tl (vX hp (List.getElem_mem hk))
    have hf : List.flatten (List.set (List.set (List.set (List.replicate 3 (zero (Ty.slc ab))) 0 (List.set (List.replicate 1 (zero ab)) 0 o.1[k].2.1)) 1 o.1[k].2.2.1) 2 o.1[k].2.2.2.1) = be o.1[k] := Nm _ _ _ _
    rw [hf]
    refine ⟨Nat.le_trans hkl (by decide), bg ?_⟩
    show br _ _ _ (bP prog O w0 lr fun z => z = ((ax o.1 no id).1, (ax o.1 no id).2, ())) _ _ _ _
    rw [xn id h2]
    exact (Nr O w0 o o.1[k] id (zero ai) (Nat.le_trans hkl (by decide))).down 0 [] (Nat.zero_le _) rfl
theorem ou (l : List Nd) (id : List Int) (n : Nat) (path : List Int) (no : Int) : bK l id n path no = bif !(ax l no id).2 then ([], zero ab, 10) else
    match n with
    | 0 => ([], zero ab, 9)
    | n + 1 => bif (ax l no id).1.2.1 then (bif decide ((ax l no id).1.1.1 = no) then (path ++ [no], (ax l no id).1.1, 0) else (path ++ [no] ++ [(ax l no id).1.1.1], (ax l no id).1.1, 0))
      else bif decide ((ax l no id).1.1.1 = no) then ([], zero ab, 13) else bK l id n (path ++ [no]) (ax l no id).1.1.1 := by
  cases n <;> rfl
abbrev GWa (O : Nat → Prop) (w0 : World) (y : WR) := br prog gx (Cx.base O w0) (bP prog O w0 dP fun z => z = (y.1, y.2.1, y.2.2, ()))
theorem ot : XOk prog gx := Fl E4 Fh
theorem Jm (O : Nat → Prop) (w0 : World) (o : Ov) (id : List Int) (hops : Int) (z : Mem) (z' : Int) (hr : a5 o.1 = true) (hh : hops ≤ 16) : ∀ (n : Nat) (path : List Int) (no : Int), ((path.length : Nat) : Int) + n = hops + 1 →
    GWa O w0 (bK o.1 id n path no) (gc no o id o id hops z z' path) cX (lp cH 1) (gb no o id o id hops z z' path)
  | n, path, no, hn => aB ot (kA no o id o id hops z z' path) (by
    have e := ou o.1 id n path no
    have leaf : ∀ {p : WR}, bK o.1 id n path no = p → ∃ q, bq dP (K.val (Ty.pair (Ty.slc ae) (Ty.pair ab (Ty.pair ae Ty.unit))) (p.1, p.2.1, p.2.2, PUnit.unit)) = some q ∧ q = ((bK o.1 id n path no).1, (bK o.1 id n path no).2.1, (bK o.1 id n path no).2.2, ()) := fun {p} e =>
      ⟨_, rfl, by rw [e]⟩
    have hl : path.length ≤ 17 := by omega
    refine ⟨hr, bg ⟨fun h1 => leaf (p := (_, _, _)) ?_, fun h1 => ⟨fun h2 => leaf (p := (_, _, _)) ?_, fun h2 => ⟨?_, fun h3 => leaf (p := (_, _, _)) ?_, fun h3 => ⟨fun h4 => ⟨?_, leaf (p := (_, _, _)) ?_⟩, fun h4 => ⟨fun h5 => leaf (p := (_, _, _)) ?_, fun h5 => ⟨fun h6 => ?_, fun h6 => ?_⟩⟩⟩⟩⟩⟩⟩
    · rw [e, h1]; rfl
    · have h2 : hops < ((path.length : Nat) : Int) := of_decide_eq_true h2
      have : n = 0 := by omega
      subst this
      rw [e, h1]; rfl
    · rw [List.length_append]
      exact Nat.le_trans (show path.length + 1 ≤ 18 by omega) (by decide)
    all_goals
      have h2 : ¬ hops < ((path.length : Nat) : Int) := of_decide_eq_false h2
      obtain ⟨n, rfl⟩ : ∃ m, n = m + 1 := ⟨n - 1, by omega⟩
      rw [h1] at e
    · have h3' : (ax o.1 no id).1.2.1 = true ∧ decide ((ax o.1 no id).1.1.1 = no) = true := by
        have h3 : (bif (ax o.1 no id).1.2.1 then decide ((ax o.1 no id).1.1.1 = no) else false) = true := h3
        cases hq : (ax o.1 no id).1.2.1 <;> rw [hq] at h3
        · cases h3
        · exact ⟨rfl, h3⟩
      rw [e, h3'.1, h3'.2]; rfl
    · rw [List.length_append, List.length_append]
      exact Nat.le_trans (show path.length + 1 + 1 ≤ 19 by omega) (by decide)
    · have h4 : (ax o.1 no id).1.2.1 = true := h4
      have h3' : decide ((ax o.1 no id).1.1.1 = no) = false := by
        have h3 : (bif (ax o.1 no id).1.2.1 then decide ((ax o.1 no id).1.1.1 = no) else false) = false := h3
        rw [h4] at h3; exact h3
      rw [e, h4, h3']; rfl
    · have h4 : (ax o.1 no id).1.2.1 = false := h4
      have h5 : decide ((ax o.1 no id).1.1.1 = no) = true := h5
      rw [e, h4, h5]; rfl
    · have h4 : (ax o.1 no id).1.2.1 = false := h4
      have h5 : decide ((ax o.1 no id).1.1.1 = no) = false := h5
      have h6 : (bif (ax o.1 no id).1.2.1 then true else eqb ai (ax o.1 no id).1 ((no, (ax o.1 no id).1.1.2.1, ()), zero (Ty.pair Ty.bool Ty.unit))) = true := h6
      rw [h4] at h6
      have h6 := (mT (t := ai) (by decide) _ _).1 h6
      have h6 : (ax o.1 no id).1.1.1 = no := congrArg (fun a : Ans => a.1.1) h6
      exact absurd h6 (of_decide_eq_false h5)
    · have h4 : (ax o.1 no id).1.2.1 = false := h4
      have h5 : decide ((ax o.1 no id).1.1.1 = no) = false := h5
      have e' : bK o.1 id (n + 1) path no = bK o.1 id n (path ++ [no]) (ax o.1 no id).1.1.1 := by rw [e, h4, h5]; rfl
      show br _ _ _ (bP prog O w0 dP fun z => z = ((bK o.1 id (n + 1) path no).1, (bK o.1 id (n + 1) path no).2.1, (bK o.1 id (n + 1) path no).2.2, ())) _ _ _ _
      rw [e']
      exact Jm O w0 o id hops z z' hr hh n (path ++ [no]) _ (by rw [List.length_append]; simp; omega))
theorem NS (O : Nat → Prop) (w0 : World) (o : Ov) (id : List Int) (hops : Int) (z : Mem) (z' : Int) (hr : a5 o.1 = true) (h0 : 0 ≤ hops) (hh : hops ≤ 16) (no : Int) :
    GWa O w0 (bK o.1 id (hops.toNat + 1) [] no) (gP no o id o id hops z z') cX (lp cH 1) (gG no o id o id hops z z') :=
  aB ot (lF no o id o id hops z z') (by
    have e := ou o.1 id (hops.toNat + 1) [] no
    have leaf : ∀ {p : WR}, bK o.1 id (hops.toNat + 1) [] no = p → ∃ q, bq dP (K.val (Ty.pair (Ty.slc ae) (Ty.pair ab (Ty.pair ae Ty.unit))) (p.1, p.2.1, p.2.2, PUnit.unit)) = some q ∧ q = ((bK o.1 id (hops.toNat + 1) [] no).1, (bK o.1 id (hops.toNat + 1) [] no).2.1, (bK o.1 id (hops.toNat + 1) [] no).2.2, ()) := fun {p} e =>
      ⟨_, rfl, by rw [e]⟩
    refine ⟨hr, bg ⟨fun h1 => leaf (p := (_, _, _)) ?_, fun h1 => ⟨fun h2 => ?_, fun h2 => ⟨(show 1 ≤ bF by decide), fun h3 => leaf (p := (_, _, _)) ?_, fun h3 => ⟨fun h4 => ⟨(show 2 ≤ bF by decide), leaf (p := (_, _, _)) ?_⟩, fun h4 => ⟨fun h5 => leaf (p := (_, _, _)) ?_, fun h5 => ⟨fun h6 => ?_, fun h6 => ?_⟩⟩⟩⟩⟩⟩⟩
    · rw [e, h1]; rfl
    · have h2 : hops < 0 := of_decide_eq_true h2
      omega
    all_goals rw [h1] at e
    · have h3' : (ax o.1 no id).1.2.1 = true ∧ decide ((ax o.1 no id).1.1.1 = no) = true := by
        have h3 : (bif (ax o.1 no id).1.2.1 then decide ((ax o.1 no id).1.1.1 = no) else false) = true := h3
        cases hq : (ax o.1 no id).1.2.1 <;> rw [hq] at h3
        · cases h3
        · exact ⟨rfl, h3⟩
      rw [e, h3'.1, h3'.2]; rfl
    · have h4 : (ax o.1 no id).1.2.1 = true := h4
      have h3' : decide ((ax o.1 no id).1.1.1 = no) = false := by
        have h3 : (bif (ax o.1 no id).1.2.1 then decide ((ax o.1 no id).1.1.1 = no) else false) = false := h3
        rw [h4] at h3; exact h3
      rw [e, h4, h3']; rfl
    · have h4 : (ax o.1 no id).1.2.1 = false := h4
      have h5 : decide ((ax o.1 no id).1.1.1 = no) = true := h5
      rw [e, h4, h5]; rfl
    · have h4 : (ax o.1 no id).1.2.1 = false := h4
      have h5 : decide ((ax o.1 no id).1.1.1 = no) = false := h5
      have h6 : (bif (ax o.1 no id).1.2.1 then true else eqb ai (ax o.1 no id).1 ((no, (ax o.1 no id).1.1.2.1, ()), zero (Ty.pair Ty.bool Ty.unit))) = true := h6
      rw [h4] at h6
      have h6 := (mT (t := ai) (by decide) _ _).1 h6
      have h6 : (ax o.1 no id).1.1.1 = no := congrArg (fun a : Ans => a.1.1) h6
      exact absurd h6 (of_decide_eq_false h5)
    · have h4 : (ax o.1 no id).1.2.1 = false := h4
      have h5 : decide ((ax o.1 no id).1.1.1 = no) = false := h5
      have e' : bK o.1 id (hops.toNat + 1) [] no = bK o.1 id hops.toNat ([] ++ [no]) (ax o.1 no id).1.1.1 := by rw [e, h4, h5]; rfl
      show br _ _ _ (bP prog O w0 dP fun z => z = ((bK o.1 id (hops.toNat + 1) [] no).1, (bK o.1 id (hops.toNat + 1) [] no).2.1, (bK o.1 id (hops.toNat + 1) [] no).2.2, ())) _ _ _ _
      rw [e']
      exact Jm O w0 o id hops z z' hr hh hops.toNat ([] ++ [no]) _ (by show ((1 : Nat) : Int) + _ = _; omega))
theorem wV : ap prog [] gv gr :=
 bw (S := gr) ot (fx := fa) Dd (by kernel_rfl) (fun h => by cases h) (T := fun x => wu x.1 x.2.1 x.2.2.1 x.2.2.2.1) (fun x => AR x.1 x.2.1 x.2.2.1 x.2.2.2.1) fun O w0 x _ hp => by
  obtain ⟨o, no, id, hops, ⟨⟩⟩ := x
  have e : ∀ c : Bool, (bif (bif !a5 o.1 then true else decide ((hops : Int) < 0)) then true else decide ((16 : Int) < hops)) = c → aU o.1 no id hops = bif c then ([], zero ab, 1) else bK o.1 id ((hops : Int).toNat + 1) [] no := fun c h => by
   unfold aU; rw [h]
  refine ⟨hp, bg ⟨fun h => ⟨_, rfl, ?_⟩, fun h => ?_⟩⟩
  ·show _ = ((aU o.1 no id hops).1, (aU o.1 no id hops).2.1, (aU o.1 no id hops).2.2, ())
   rw [e true h]; rfl
  ·show br _ _ _ (bP prog O w0 dP fun z => z = ((aU o.1 no id hops).1, (aU o.1 no id hops).2.1, (aU o.1 no id hops).2.2, ())) _ _ _ _
   rw [e false h]
   have h : (bif (bif !a5 o.1 then true else decide ((hops : Int) < 0)) then true else decide ((16 : Int) < hops)) = false := h
   have h1 : a5 o.1 = true := by
    cases hq : a5 o.1 <;> rw [hq] at h
    cases h
   rw [h1] at h
   have h2 : decide ((hops : Int) < 0) = false := by
    cases hq : decide ((hops : Int) < 0) <;> rw [hq] at h
    cases h
   rw [h2] at h
   exact NS O w0 o id hops (zero ab) (zero ae) h1 (Int.not_lt.1 (of_decide_eq_false h2)) (Int.not_lt.1 (of_decide_eq_false h)) no
end Go.Proofs.Ytimdnodkabnbfaa
namespace Go.Proofs.Ytimdnodkabnbfaa
open Go Go.RowKit
def M6 (n : Nd) : Nd := (n.1, n.2.1, n.2.2.1.take 6, n.2.2.2.1.take 18, ())
def yP (l : List Nd) : List Nd := (l.take 18).map M6
noncomputable abbrev sY : bl := ⟨B5, vV, fun x => ((yP x.1.1, ()), ()), fun _ => True, true⟩
noncomputable abbrev oH : bl := ⟨xI, yK, fun _ => (true, ()), fun _ => True, true⟩
end Go.Proofs.Ytimdnodkabnbfaa
namespace Go.Proofs.Ytimdnodkabnbfaa
open Go Go.RowKit
noncomputable abbrev lu : Fx := { fn := kG, ann := { loops := [(3, { keep := [2, 3, 12, 13, 14], own := [(3, (.mp (.arr 0 .bool) ag))] })], frz := [(8, [1003, 100003])] }, own := [3] }
noncomputable abbrev ti : a7 := { D := { T := a8, F := [], R := [], ovl := [] }, inl := [] }
noncomputable abbrev Ej : bo := .data vV
theorem yW : XOk prog ti := xok ((aI aS aC)) (by kernel_rfl) aK aW aV
noncomputable def Ez (o : den ah) : af := af.req (bE 0 (eK (lnx ag (Prod.fst o)) 18) (lnx ag (Prod.fst o))) (af.loop [] lu (lp kG 3) [(2, K.ptr 0 ah []), (3, K.ptr (0 + 1) ah []), (12, K.val (Ty.slc ag) (dV ag (Prod.fst o) 0 (eK (lnx ag (Prod.fst o)) 18))), (13, K.val ae (lnx ag (dV ag (Prod.fst o) 0 (eK (lnx ag (Prod.fst o)) 18)))), (14, K.val ae 0)] [(0, Bx.cell ah (zero ah)), (0 + 1, Bx.obj ah (K.agg (Ty.pair (Ty.slc ag) Ty.unit) (K.kcons (K.sl (0 + 1 + 1) ag) K.knil))), (0 + 1 + 1, Bx.row ag [])])
theorem FW (o : den ah) : aj ti Ej 5000 [] lu (az kG) (Env.of (aF B5 (o, ()) 0) []) = Ez o := by kernel_rfl
noncomputable def Al (v12 : den (Ty.slc ag)) (v13 : den ae) (v14 : den ae) (b0 : den ah) (b2 : List (den ag)) : Env := Env.of [(2, K.ptr 0 ah []), (3, K.ptr (0 + 1) ah []), (12, K.val (Ty.slc ag) v12), (13, K.val ae v13), (14, K.val ae v14)] [(0, Bx.cell ah b0), (1, Bx.obj ah (K.agg (Ty.pair (Ty.slc ag) Ty.unit) (K.kcons (K.sl (0 + 1 + 1) ag) K.knil))), (2, Bx.row ag b2)]
noncomputable def F0 (v12 : den (Ty.slc ag)) (v13 : den ae) (v14 : den ae) (b0 : den ah) (b2 : List (den ag)) : af := af.ite (decide (v14 < v13)) (af.req (inB v14 (lnx ag v12)) (af.req (bE 0 (eK (lnx ab (Prod.fst (Prod.snd (Prod.snd (el ag v12 v14))))) 6) (lnx ab (Prod.fst (Prod.snd (Prod.snd (el ag v12 v14)))))) (af.req (bE 0 (eK (lnx ab (Prod.fst (Prod.snd (Prod.snd (Prod.snd (el ag v12 v14)))))) 18) (lnx ab (Prod.fst (Prod.snd (Prod.snd (Prod.snd (el ag v12 v14))))))) (af.req (List.length (b2 ++ List.set (List.replicate 1 (zero ag)) 0 (Prod.fst (el ag v12 v14), Prod.fst (Prod.snd (el ag v12 v14)), dV ab (Prod.fst (Prod.snd (Prod.snd (el ag v12 v14)))) 0 (eK (lnx ab (Prod.fst (Prod.snd (Prod.snd (el ag v12 v14))))) 6), dV ab (Prod.fst (Prod.snd (Prod.snd (Prod.snd (el ag v12 v14))))) 0 (eK (lnx ab (Prod.fst (Prod.snd (Prod.snd (Prod.snd (el ag v12 v14)))))) 18), Prod.snd (Prod.snd (Prod.snd (Prod.snd (el ag v12 v14)))))) ≤ bF) (af.loop [] lu (lp kG 3) [(2, K.ptr 0 ah []), (3, K.ptr (0 + 1) ah []), (12, K.val (Ty.slc ag) v12), (13, K.val ae v13), (14, K.val ae (IntKind.wrap IntKind.i64 (v14 + 1)))] [(0, Bx.cell ah b0), (0 + 1, Bx.obj ah (K.agg (Ty.pair (Ty.slc ag) Ty.unit) (K.kcons (K.sl (0 + 1 + 1) ag) K.knil))), (0 + 1 + 1, Bx.row ag (b2 ++ List.set (List.replicate 1 (zero ag)) 0 (Prod.fst (el ag v12 v14), Prod.fst (Prod.snd (el ag v12 v14)), dV ab (Prod.fst (Prod.snd (Prod.snd (el ag v12 v14)))) 0 (eK (lnx ab (Prod.fst (Prod.snd (Prod.snd (el ag v12 v14))))) 6), dV ab (Prod.fst (Prod.snd (Prod.snd (Prod.snd (el ag v12 v14))))) 0 (eK (lnx ab (Prod.fst (Prod.snd (Prod.snd (Prod.snd (el ag v12 v14)))))) 18), Prod.snd (Prod.snd (Prod.snd (Prod.snd (el ag v12 v14)))))))]))))) (af.ret (K.val (Ty.pair ah Ty.unit) ((b2, PUnit.unit), PUnit.unit)))
theorem sy (v12 : den (Ty.slc ag)) (v13 : den ae) (v14 : den ae) (b0 : den ah) (b2 : List (den ag)) : aj ti Ej 5000 [] lu (lp kG 3) (Al v12 v13 v14 b0 b2) = F0 v12 v13 v14 b0 b2 := by kernel_rfl
noncomputable abbrev xZ : Fx := { fn := tL, ann := { }, share := true }
noncomputable abbrev zQ : a7 := { D := { T := a8, F := [(gv, gr)], R := [], ovl := [] }, inl := [] }
noncomputable abbrev Ik : bo := .data yK
theorem IR (h_lookup_Walk : ap prog [] gv gr) : XOk prog zQ := xok (au (aI aS aC) h_lookup_Walk) (by kernel_rfl) aK aW aV
noncomputable def zI : af := af.req (List.length (List.set (List.replicate 1 (zero ag)) 0 ((3, zero (Ty.pair tId Ty.unit)), (-1, zero (Ty.pair tId Ty.unit)), List.set (List.replicate 1 (zero ab)) 0 (3, zero (Ty.pair tId Ty.unit)), zero (Ty.pair (Ty.slc ab) Ty.unit))) ≤ 1000000) (af.all (den (Ty.pair (Ty.slc ae) (Ty.pair ab (Ty.pair ae Ty.unit)))) (fun (q0 : den (Ty.pair (Ty.slc ae) (Ty.pair ab (Ty.pair ae Ty.unit)))) ↦ q0 = (Prod.fst (aU (List.set (List.replicate 1 (zero ag)) 0 ((3, zero (Ty.pair tId Ty.unit)), (-1, zero (Ty.pair tId Ty.unit)), List.set (List.replicate 1 (zero ab)) 0 (3, zero (Ty.pair tId Ty.unit)), zero (Ty.pair (Ty.slc ab) Ty.unit))) 3 (List.set (List.replicate 32 (zero (Ty.int IntKind.u8))) 31 7) 0), Prod.fst (Prod.snd (aU (List.set (List.replicate 1 (zero ag)) 0 ((3, zero (Ty.pair tId Ty.unit)), (-1, zero (Ty.pair tId Ty.unit)), List.set (List.replicate 1 (zero ab)) 0 (3, zero (Ty.pair tId Ty.unit)), zero (Ty.pair (Ty.slc ab) Ty.unit))) 3 (List.set (List.replicate 32 (zero (Ty.int IntKind.u8))) 31 7) 0)), Prod.snd (Prod.snd (aU (List.set (List.replicate 1 (zero ag)) 0 ((3, zero (Ty.pair tId Ty.unit)), (-1, zero (Ty.pair tId Ty.unit)), List.set (List.replicate 1 (zero ab)) 0 (3, zero (Ty.pair tId Ty.unit)), zero (Ty.pair (Ty.slc ab) Ty.unit))) 3 (List.set (List.replicate 32 (zero (Ty.int IntKind.u8))) 31 7) 0)), PUnit.unit)) fun (q0 : den (Ty.pair (Ty.slc ae) (Ty.pair ab (Ty.pair ae Ty.unit)))) ↦ af.req (cG [(bif bif decide (Prod.fst (Prod.snd (Prod.snd q0)) = 0) then eqb ab (Prod.fst (Prod.snd q0)) (3, zero (Ty.pair tId Ty.unit)) else false then decide (lnx ae (Prod.fst q0) = 1) else false, true)] (inB 0 (lnx ae (Prod.fst q0)))) (af.ret (K.val (Ty.pair Ty.bool Ty.unit) (bif bif bif decide (Prod.fst (Prod.snd (Prod.snd q0)) = 0) then eqb ab (Prod.fst (Prod.snd q0)) (3, zero (Ty.pair tId Ty.unit)) else false then decide (lnx ae (Prod.fst q0) = 1) else false then decide (el ae (Prod.fst q0) 0 = 3) else false, PUnit.unit))))
theorem Dl : aj zQ Ik 5000 [] xZ (az tL) (Env.of (aF xI () 0) []) = zI := by kernel_rfl
end Go.Proofs.Ytimdnodkabnbfaa
namespace Go.Proofs.Ytimdnodkabnbfaa
open Go Go.RowKit
theorem GW (no : Int) : ∀ (l pre : List Mem), AC no pre l = true ↔ (∀ m ∈ l, co m = true ∧ m.1 ≠ no ∧ ∀ x ∈ pre, x.1 ≠ m.1) ∧ (l.map fun m => m.1).Nodup
 | [], pre => ⟨fun _ => ⟨fun _ h => (by cases h), List.nodup_nil⟩, fun _ => rfl⟩
 | m :: l, pre => by
  rw [xw]
  have ih := GW no l (pre ++ [m])
  constructor
  ·intro h
   have h1 : co m = true := by
    cases hq : co m with
    | true => rfl
    | false => rw [hq] at h; cases h
   have h2 : decide (m.1 = no) = false := by
    cases hq : decide (m.1 = no) with
    | false => rfl
    | true => rw [h1, hq] at h; cases h
   have h3 : (pre.any fun x => decide (x.1 = m.1)) = false := by
    cases hq : (pre.any fun x => decide (x.1 = m.1)) with
    | false => rfl
    | true => rw [h1, h2, hq] at h; cases h
   rw [h1, h2, h3] at h
   obtain ⟨a1, a2⟩ := ih.1 h
   have h3' : ∀ x ∈ pre, x.1 ≠ m.1 := fun x hx e => by
    have := List.any_eq_false.1 h3 x hx
    exact this (decide_eq_true e)
   refine ⟨fun q hq => ?_, ?_⟩
   ·rcases List.mem_cons.1 hq with rfl | hq
    ·exact ⟨h1, of_decide_eq_false h2, h3'⟩
    ·obtain ⟨b1, b2, b3⟩ := a1 q hq
     exact ⟨b1, b2, fun x hx => b3 x (List.mem_append_left _ hx)⟩
   ·rw [List.map_cons, List.nodup_cons]
    refine ⟨fun hm => ?_, a2⟩
    obtain ⟨q, hq, e⟩ := List.mem_map.1 hm
    exact (a1 q hq).2.2 m (List.mem_append_right _ (List.mem_singleton.2 rfl)) e.symm
  ·rintro ⟨a1, a2⟩
   obtain ⟨b1, b2, b3⟩ := a1 m List.mem_cons_self
   rw [List.map_cons, List.nodup_cons] at a2
   have h3 : (pre.any fun x => decide (x.1 = m.1)) = false := List.any_eq_false.2 fun x hx => by
    have := b3 x hx
    simpa using this
   rw [b1, decide_eq_false b2, h3]
   refine ih.2 ⟨fun q hq => ?_, a2.2⟩
   obtain ⟨c1, c2, c3⟩ := a1 q (List.mem_cons_of_mem _ hq)
   refine ⟨c1, c2, fun x hx => ?_⟩
   rcases List.mem_append.1 hx with hx | hx
   ·exact c3 x hx
   ·rw [List.mem_singleton.1 hx]
    exact fun e => a2.1 (List.mem_map.2 ⟨q, hq, e.symm⟩)
theorem vq (l : List Mem) (no : Int) : bL l no = true ↔ (∀ m ∈ l, co m = true ∧ m.1 ≠ no) ∧ (l.map fun m => m.1).Nodup := by
 unfold bL
 rw [GW]
 constructor
 ·rintro ⟨h1, h2⟩; exact ⟨fun m hm => ⟨(h1 m hm).1, (h1 m hm).2.1⟩, h2⟩
 ·rintro ⟨h1, h2⟩; exact ⟨fun m hm => ⟨(h1 m hm).1, (h1 m hm).2, fun _ h => (by cases h)⟩, h2⟩
theorem BP {l l' : List Mem} {no : Int} (h : bL l no = true) (hs : l'.Sublist l) : bL l' no = true := by
 rw [vq] at h ⊢
 exact ⟨fun m hm => h.1 m (hs.subset hm), h.2.sublist (hs.map _)⟩
structure NOk (n : Nd) : Prop where
 self : co n.1 = true
 pred : n.2.1 = noM ∨ (co n.2.1 = true ∧ n.2.1.1 ≠ n.1.1)
 one : 1 ≤ n.2.2.1.length
 four : n.2.2.1.length ≤ 4
 succs : n.2.2.1 = [n.1] ∨ bL n.2.2.1 n.1.1 = true
 many : n.2.2.2.1.length ≤ 16
 fing : bL n.2.2.2.1 n.1.1 = true
theorem kX (n : Nd) : aO n = true ↔ NOk n := by
 have e1 : lnx ab n.2.2.1 = ((n.2.2.1.length : Nat) : Int) := rfl
 have e2 : lnx ab n.2.2.2.1 = ((n.2.2.2.1.length : Nat) : Int) := rfl
 have ep : xX n = true ↔ (n.2.1 = noM ∨ (co n.2.1 = true ∧ n.2.1.1 ≠ n.1.1)) := by
  unfold xX
  by_cases h : n.2.1 = noM
  ·simp [h]
  ·rw [decide_eq_false h]
   cases hm : co n.2.1
   ·simp [h]
   ·simp [h]
 have es : u9 n = true ↔ (1 ≤ n.2.2.1.length ∧ n.2.2.1.length ≤ 4 ∧ (n.2.2.1 = [n.1] ∨ bL n.2.2.1 n.1.1 = true)) := by
  unfold u9
  rw [e1]
  by_cases h1 : 1 ≤ n.2.2.1.length
  ·rw [decide_eq_true (show (1 : Int) ≤ ((n.2.2.1.length : Nat) : Int) by omega)]
   by_cases h2 : n.2.2.1.length ≤ 4
   ·rw [decide_eq_true (show ((n.2.2.1.length : Nat) : Int) ≤ 4 by omega)]
    by_cases h3 : n.2.2.1 = [n.1]
    ·rw [decide_eq_true h3]; simp [h1, h2, h3]
    ·rw [decide_eq_false h3]; simp [h1, h2, h3]
   ·rw [decide_eq_false (show ¬ ((n.2.2.1.length : Nat) : Int) ≤ 4 by omega)]; simp [h2]
  ·rw [decide_eq_false (show ¬ (1 : Int) ≤ ((n.2.2.1.length : Nat) : Int) by omega)]; simp [h1]
 unfold aO
 rw [e2]
 constructor
 ·intro h
  cases h1 : co n.1 <;> rw [h1] at h
  ·cases h
  cases h2 : xX n <;> rw [h2] at h
  ·cases h
  cases h3 : u9 n <;> rw [h3] at h
  ·cases h
  cases h4 : decide (((n.2.2.2.1.length : Nat) : Int) ≤ 16) <;> rw [h4] at h
  ·cases h
  obtain ⟨s1, s2, s3⟩ := es.1 h3
  exact ⟨h1, ep.1 h2, s1, s2, s3, by have := of_decide_eq_true h4; omega, h⟩
 ·intro h
  rw [h.self, ep.2 h.pred, es.2 ⟨h.one, h.four, h.succs⟩, decide_eq_true (show ((n.2.2.2.1.length : Nat) : Int) ≤ 16 by have := h.many; omega)]
  exact h.fing
theorem Ep (n : Nd) : k8 n [] = [n.1] := rfl
theorem vI (n : Nd) (m : Mem) (l : List Mem) : k8 n (m :: l) = m :: l := by
 unfold k8
 rw [decide_eq_false (show ¬ lnx ab (m :: l) = 0 from fun h => by have h : (((m :: l).length : Nat) : Int) = 0 := h; simp at h; omega)]
 rfl
theorem LI (no : Int) (nos : List Int) {m : Mem} (h : m.1 = no) : aJ no nos m = false := by
 unfold aJ; rw [decide_eq_true h]; rfl
theorem DI {n : Nd} (h : NOk n) (nos : List Int) : NOk (eN n nos) := by
  have hf : (n.2.2.1.filter fun m => !aJ n.1.1 nos m).length ≤ 4 := Nat.le_trans (List.length_filter_le _ _) h.four
  refine ⟨h.self, ?_, ?_, ?_, ?_, Nat.le_trans (List.length_filter_le _ _) h.many, BP h.fing List.filter_sublist⟩
  · show (bif _ then noM else n.2.1) = noM ∨ (co (bif _ then noM else n.2.1) = true ∧ (bif _ then noM else n.2.1).1 ≠ n.1.1)
    cases (bif !decide (n.2.1 = noM) then aJ n.1.1 nos n.2.1 else false)
    · exact h.pred
    · exact .inl rfl
  all_goals
    show _
    simp only [eN]
    cases hq : (n.2.2.1.filter fun m => !aJ n.1.1 nos m) with
    | nil => first | exact Nat.le_refl _ | exact (by decide : 1 ≤ 4) | exact .inl rfl
    | cons m l =>
      rw [vI, ← hq]
      first
      | (rw [hq]; exact Nat.succ_le_succ (Nat.zero_le _))
      | exact hf
      | (rcases h.succs with hs | hs
         · left
           rw [hs, List.filter_cons_of_pos (p := fun m : Mem => !aJ n.1.1 nos m) (by rw [LI n.1.1 nos rfl]; rfl)]
           rfl
         · right
           exact BP hs List.filter_sublist)
theorem AM {l : List Nd} {n : Nd} (h : n ∈ l) : bZ l n.1.1 = true := List.any_eq_true.2 ⟨n, h, decide_eq_true rfl⟩
theorem Ji {l : List Nd} {n : Nd} (h : aO n = true) : tY l n = eN n (fP l n) := by
 unfold tY fY; rw [h]; rfl
theorem Ew {l : List Nd} {n : Nd} (hn : n ∈ l) {m : Mem} (hk : m ∈ be n) (h : aJ n.1.1 (fP l n) m = false) : bZ l m.1 = true := by
 cases hl : bZ l m.1 with
 | true => rfl
 | false =>
  exfalso
  have hd : m.1 ∈ fP l n := List.mem_map.2 ⟨m, List.mem_filter.2 ⟨hk, by rw [hl]; rfl⟩, rfl⟩
  by_cases he : m.1 = n.1.1
  ·rw [he, AM hn] at hl; cases hl
  ·unfold aJ at h
   rw [decide_eq_false he] at h
   have h : ((fP l n).any fun x => decide (x = m.1)) = false := h
   exact (List.any_eq_false.1 h _ hd) (decide_eq_true rfl)
theorem K7 {l : List Nd} {n : Nd} (hn : n ∈ l) {m : Mem} (h : m ∈ (eN n (fP l n)).2.2.1) : bZ l m.1 = true := by
 have h : m ∈ k8 n (n.2.2.1.filter fun m => !aJ n.1.1 (fP l n) m) := h
 have key : ∀ m ∈ (n.2.2.1.filter fun m => !aJ n.1.1 (fP l n) m), bZ l m.1 = true := fun m hm => by
  obtain ⟨h1, h2⟩ := List.mem_filter.1 hm
  exact Ew hn (List.mem_append_left _ (List.mem_append_right _ h1)) (by simpa using h2)
 cases hq : (n.2.2.1.filter fun m => !aJ n.1.1 (fP l n) m) with
 | nil =>
  rw [hq, Ep] at h
  rw [List.mem_singleton.1 h]
  exact AM hn
 | cons x t =>
  rw [hq, vI, ← hq] at h
  exact key m h
theorem Ls {l : List Nd} {n : Nd} (hn : n ∈ l) {m : Mem} (h : m ∈ (eN n (fP l n)).2.2.2.1) : bZ l m.1 = true := by
 obtain ⟨h1, h2⟩ := List.mem_filter.1 (show m ∈ n.2.2.2.1.filter fun m => !aJ n.1.1 (fP l n) m from h)
 exact Ew hn (List.mem_append_right _ h1) (by simpa using h2)
theorem FM (self : List Int) : ∀ (l : List Mem) (s : Mem × Int), (l.foldl (eC self) s = s ∨ ((l.foldl (eC self) s).2 = 0 ∧ (l.foldl (eC self) s).1 ∈ l))
 | [], s => .inl rfl
 | m :: l, s => by
  rw [List.foldl_cons]
  have hs : eC self s m = s ∨ eC self s m = (m, 0) := by
   unfold eC
   cases (bif !decide (s.2 = 0) then true else decide (cY (cf self s.1.2.1) (cf self m.2.1) < 0))
   ·exact .inl rfl
   ·exact .inr rfl
  rcases FM self l (eC self s m) with h | h
  ·rw [h]
   rcases hs with h2 | h2
   ·exact .inl h2
   ·rw [h2]; exact .inr ⟨rfl, List.mem_cons_self⟩
  ·exact .inr ⟨h.1, List.mem_cons_of_mem _ h.2⟩
theorem CA {id self : List Int} {l : List Mem} (h : (cC id self l).2 = 0) : (cC id self l).1 ∈ l := by
 rcases FM self (l.filter (hH self id)) (zero ab, 6) with h1 | h1
 ·have : (cC id self l) = (zero ab, 6) := h1
  rw [this] at h; cases h
 ·exact (List.mem_filter.1 h1.2).1
theorem NU {xs : List Mem} (h : 1 ≤ xs.length) : el ab xs 0 ∈ xs := by
 have : el ab xs ((0 : Nat) : Int) = xs[0] := bM (e := ab) h
 have this : el ab xs 0 = xs[0] := this
 rw [this]; exact List.getElem_mem h
theorem N6 {n : Nd} (h : NOk n) (id : List Int) : (cU n id).1 ∈ n.2.2.2.1 ++ n.2.2.1 := by
 unfold cU
 rw [(kX n).2 h]
 have h0 : el ab n.2.2.1 0 ∈ n.2.2.2.1 ++ n.2.2.1 := List.mem_append_right _ (NU h.one)
 cases fm id n.1.2.1 (el ab n.2.2.1 0).2.1 with
 | true => exact h0
 | false =>
  by_cases hc : (cC id n.1.2.1 (n.2.2.2.1 ++ n.2.2.1)).2 = 0
  ·rw [decide_eq_true hc]; exact CA hc
  ·rw [decide_eq_false hc]; exact h0
theorem xY {l : List Nd} (hr : a5 l = true) {no : Int} (id : List Int) (h : (ax l no id).2 = true) : bZ l no = true ∧ bZ l (ax l no id).1.1.1 = true := by
 cases hf : l.find? (fun n => decide (n.1.1 = no)) with
 | none => rw [El id hf] at h; cases h
 | some n =>
  have hn := List.mem_of_find?_eq_some hf
  have hno := List.find?_some hf
  have hrn := vX hr hn
  have hok := (kX n).1 hrn
  refine ⟨List.any_eq_true.2 ⟨n, hn, hno⟩, ?_⟩
  rw [xn id hf]
  show bZ l (eV l n id).1.1 = true
  unfold eV
  rw [Ji hrn]
  cases jL (eN n (fP l n)) id with
  | true => show bZ l n.1.1 = true; exact AM hn
  | false =>
   have := N6 (DI hok (fP l n)) id
   rcases List.mem_append.1 this with h | h
   ·exact Ls hn h
   ·exact K7 hn h
theorem EM (l : List Nd) (id : List Int) : ∀ (n : Nat) (path : List Int) (no : Int), (bK l id n path no).2.2 ≠ 0 → (bK l id n path no).1 = [] ∧ (bK l id n path no).2.1 = zero ab
 | n, path, no, h => by
  rw [ou] at h ⊢
  cases h1 : (ax l no id).2 <;> rw [h1] at h
  ·exact ⟨rfl, rfl⟩
  cases n with
  | zero => exact ⟨rfl, rfl⟩
  | succ n =>
   simp only [Bool.not_true, cond_false] at h ⊢
   cases h2 : (ax l no id).1.2.1 <;> rw [h2] at h
   ·cases h3 : decide ((ax l no id).1.1.1 = no) <;> rw [h3] at h
    ·exact EM l id n _ _ h
    ·exact ⟨rfl, rfl⟩
   ·cases h3 : decide ((ax l no id).1.1.1 = no) <;> rw [h3] at h <;> exact absurd rfl h
structure Way (l : List Nd) (path : List Int) (no : Int) (n : Nat) (r : WR) : Prop where
 way : ∃ rest, r.1 = path ++ no :: rest ∧ rest.length ≤ n ∧ (∀ x ∈ no :: rest, bZ l x = true) ∧ (no :: rest).getLast? = some r.2.1.1
theorem Gi {l : List Nd} (hr : a5 l = true) (id : List Int) : ∀ (n : Nat) (path : List Int) (no : Int), (bK l id n path no).2.2 = 0 → Way l path no n (bK l id n path no)
 | n, path, no, h => by
  rw [ou] at h ⊢
  cases h1 : (ax l no id).2 <;> rw [h1] at h
  ·cases h
  obtain ⟨a1, a2⟩ := xY hr id h1
  cases n with
  | zero => cases h
  | succ n =>
   simp only [Bool.not_true, cond_false] at h ⊢
   cases h2 : (ax l no id).1.2.1 <;> rw [h2] at h
   ·cases h3 : decide ((ax l no id).1.1.1 = no) <;> rw [h3] at h
    ·obtain ⟨rest, b1, b2, b3, b4⟩ := (Gi hr id n _ _ h).way
     refine ⟨(ax l no id).1.1.1 :: rest, ?_, by simp; omega, ?_, ?_⟩
     ·show (bK l id n (path ++ [no]) (ax l no id).1.1.1).1 = _
      rw [b1, List.append_assoc]; rfl
     ·intro x hx
      rcases List.mem_cons.1 hx with rfl | hx
      ·exact a1
      ·exact b3 x hx
     ·rw [List.getLast?_cons_cons]; exact b4
    ·cases h
   ·cases h3 : decide ((ax l no id).1.1.1 = no)
    ·refine ⟨[(ax l no id).1.1.1], ?_, by simp, ?_, rfl⟩
     ·show path ++ [no] ++ [(ax l no id).1.1.1] = _
      rw [List.append_assoc]; rfl
     ·intro x hx
      rcases List.mem_cons.1 hx with rfl | hx
      ·exact a1
      ·rw [List.mem_singleton.1 hx]; exact a2
    ·refine ⟨[], rfl, Nat.zero_le _, ?_, ?_⟩
     ·intro x hx
      rw [List.mem_singleton.1 hx]; exact a1
     ·show some no = some (ax l no id).1.1.1
      rw [of_decide_eq_true h3]
end Go.Proofs.Ytimdnodkabnbfaa
namespace Go.Proofs.Ytimdnodkabnbfaa
open Go Go.RowKit
abbrev GFw (O : Nat → Prop) (w0 : World) (y : List Nd) := br prog ti (Cx.base O w0) (bP prog O w0 vV fun z => z = ((y, ()), ()))
theorem Jj (n : Nat) (b : List Mem) : bE 0 (eK (lnx ab b) (n : Int)) (lnx ab b) := by
 have e : lnx ab b = ((b.length : Nat) : Int) := rfl
 rw [e]
 unfold eK bE
 split <;> omega
theorem On (n : Nat) (b : List Mem) : dV ab b 0 (eK (lnx ab b) (n : Int)) = b.take n := by
 show (b.take (eK ((b.length : Nat) : Int) n).toNat).drop (0 : Int).toNat = _
 have : (eK ((b.length : Nat) : Int) n).toNat = min b.length n := by unfold eK; split <;> omega
 rw [this]
 simp [Nat.min_comm]
theorem O0 (n : Nat) (b : List Nd) : dV ag b 0 (eK (lnx ag b) (n : Int)) = b.take n := by
 show (b.take (eK ((b.length : Nat) : Int) n).toNat).drop (0 : Int).toNat = _
 have : (eK ((b.length : Nat) : Int) n).toNat = min b.length n := by unfold eK; split <;> omega
 rw [this]
 simp [Nat.min_comm]
theorem NA (n : Nat) (b : List Nd) : bE 0 (eK (lnx ag b) (n : Int)) (lnx ag b) := by
 have e : lnx ag b = ((b.length : Nat) : Int) := rfl
 rw [e]
 unfold eK bE
 split <;> omega
def OB (O : Nat → Prop) (w0 : World) (q : List Nd) (z : Ov) (hm : q.length ≤ 18) :=
 PLift.up <| bf (σ := List Nd) q.length (fun i b => b = (q.take i).map M6)
  (fun i b => GFw O w0 (q.map M6) [] lu (lp kG 3) (Al q (lnx ag q) (i : Nat) z b))
  (fun i b hi hs ih => aB yW (sy q _ _ z b) (by
   refine ⟨fun _ => ⟨a6 hi, Jj 6 _, Jj 18 _, ?_, ?_⟩, fun hc => absurd hi (by rw [bB (e := ag)] at hc; exact of_decide_eq_false hc)⟩
   ·rw [List.length_append, hs, List.length_map, List.length_take]
    exact Nat.le_trans (show min i q.length + 1 ≤ 19 by omega) (by decide)
   ·rw [bM (e := ag) hi, bG hi (Nat.le_trans hm (by decide))]
    refine ih _ ?_
    rw [List.take_succ_eq_append_getElem hi, List.map_append, ← hs]
    have e1 := On 6 q[i].2.2.1
    have e2 := On 18 q[i].2.2.2.1
    have e1 : dV ab q[i].2.2.1 0 (eK (lnx ab q[i].2.2.1) 6) = q[i].2.2.1.take 6 := e1
    have e2 : dV ab q[i].2.2.2.1 0 (eK (lnx ab q[i].2.2.2.1) 18) = q[i].2.2.2.1.take 18 := e2
    rw [e1, e2]
    rfl))
  (fun b hs => aB yW (sy q _ _ z b) ⟨fun hc => absurd (of_decide_eq_true hc) (Int.lt_irrefl _), fun _ => ⟨_, rfl, by
   rw [List.take_length] at hs
   rw [hs]⟩⟩)
theorem KW : ap prog [] sO sY :=
 bw (S := sY) yW (fx := lu) JW (by kernel_rfl) (fun _ _ => trivial) (T := fun x => Ez x.1) (fun x => FW x.1) fun O w0 x _ _ => by
  obtain ⟨o, ⟨⟩⟩ := x
  refine ⟨NA 18 _, ?_⟩
  have e : dV ag o.1 0 (eK (lnx ag o.1) 18) = o.1.take 18 := O0 18 o.1
  rw [e]
  exact (OB O w0 (o.1.take 18) (zero ah) (by rw [List.length_take]; omega)).down 0 [] (Nat.zero_le _) rfl
theorem MC (l : List Nd) : (yP l).length ≤ 18 := by
 unfold yP; rw [List.length_map, List.length_take]; omega
def n3 : Nd := ((3, zero (Ty.pair tId Ty.unit)), (-1, zero (Ty.pair tId Ty.unit)), [(3, zero (Ty.pair tId Ty.unit))], zero (Ty.pair (Ty.slc ab) Ty.unit))
def id7 : List Int := List.set (List.replicate 32 (zero (Ty.int IntKind.u8))) 31 7
theorem Nz : aU [n3] 3 id7 0 = ([3], (3, zero (Ty.pair tId Ty.unit)), 0) := by kernel_rfl
theorem Iq : ap prog [] oE oH :=
 bw (S := oH) (IR wV) (fx := xZ) Gw (by kernel_rfl) (fun _ _ => trivial) (T := fun _ => zI) (fun _ => Dl) fun O v0 x _ _ => by
  refine ⟨(show 1 ≤ 1000000 by decide), bg ?_⟩
  show bn _ _ _ _ _ (af.req (cG [(bif bif decide ((aU [n3] 3 id7 0).2.2 = 0) then eqb ab (aU [n3] 3 id7 0).2.1 (3, zero (Ty.pair tId Ty.unit)) else false then decide (lnx ae (aU [n3] 3 id7 0).1 = 1) else false, true)] (inB 0 (lnx ae (aU [n3] 3 id7 0).1)))
   (af.ret (K.val (Ty.pair Ty.bool Ty.unit) (bif bif bif decide ((aU [n3] 3 id7 0).2.2 = 0) then eqb ab (aU [n3] 3 id7 0).2.1 (3, zero (Ty.pair tId Ty.unit)) else false then decide (lnx ae (aU [n3] 3 id7 0).1 = 1) else false then decide (el ae (aU [n3] 3 id7 0).1 0 = 3) else false, PUnit.unit))))
  rw [Nz]
  refine ⟨fun _ => a6 (n := 1) (by decide), _, rfl, Prod.ext ?_ rfl⟩
  rw [iI]
  show (bif bif bif decide ((0 : Int) = 0) then decide (((3 : Int), zero (Ty.pair tId Ty.unit)) = (3, zero (Ty.pair tId Ty.unit))) else false then decide ((1 : Int) = 1) else false then decide ((3 : Int) = 3) else false) = true
  rw [decide_eq_true rfl]
  rfl
end Go.Proofs.Ytimdnodkabnbfaa
namespace Go.Proofs.Ytimdnodkabnbfaa
open Go Go.RowKit
theorem wa : ap prog [] gC gQ :=
 bw (S := gQ) Kx (fx := z5) Iz (by kernel_rfl) (fun _ _ => trivial) (T := fun x => Cl x.1) (fun x => Ft x.1) fun O w0 x _ _ => by
  obtain ⟨⟨no, id, ⟨⟩⟩, ⟨⟩⟩ := x
  refine ⟨_, rfl, Prod.ext ?_ rfl⟩
  show (bif decide ((no : Int) = -1) then eqb tId id (List.replicate 32 (zero (Ty.int IntKind.u8))) else false) = decide (((no, id, ()) : Mem) = noM)
  rw [mW]
  by_cases h : (no : Int) = -1
  ·rw [decide_eq_true h]
   show decide (id = List.replicate 32 (zero (Ty.int IntKind.u8))) = _
   refine decide_eq_decide.2 ⟨fun e => ?_, fun e => ?_⟩
   ·rw [h, e]; rfl
   ·exact congrArg (fun m : Mem => m.2.1) e
  ·rw [decide_eq_false h]
   exact (decide_eq_false fun e => h (congrArg (fun m : Mem => m.1) e)).symm
abbrev GU9 (O : Nat → Prop) (w0 : World) (y : Bool) := br prog iG (Cx.base O w0) (bP prog O w0 pH fun z => z = (y, ()))
theorem jr : XOk prog iG := Gs Eh
def MN (O : Nat → Prop) (w0 : World) (l : List Mem) (no : Int) (m : Mem) (i : Nat) (pre : List Mem) (y : Bool) (hm : pre.length ≤ maxLen) (hbad : (pre.any fun x => decide (x.1 = m.1)) = true → y = false)
    (hnext : (pre.any fun x => decide (x.1 = m.1)) = false → GU9 O w0 y [] cO (lp cN 2) (oa l no l (lnx ab l) (IntKind.wrap .i64 (((i : Nat) : Int) + 1)))) :=
  PLift.up <| bf (σ := Unit) pre.length (fun j _ => ((pre.take j).any fun x => decide (x.1 = m.1)) = false)
    (fun j _ => GU9 O w0 y [] cO (lp cN 7) (uu l no l (lnx ab l) (i : Nat) pre (lnx ab pre) (j : Nat) m))
    (fun j _ hj hs ih => aB jr (pc l no l _ _ pre _ _ m) (by
      refine ⟨fun _ => ⟨a6 hj, ?_⟩, fun hc => absurd hj (by rw [bB] at hc; exact of_decide_eq_false hc)⟩
      rw [bM hj, bG hj hm]
      refine ⟨fun hc => ⟨_, rfl, ?_⟩, fun hc => ih () ?_⟩
      · have hc : decide (pre[j].1 = m.1) = true := hc
        rw [hbad (List.any_eq_true.2 ⟨pre[j], List.getElem_mem hj, hc⟩)]
      · have hc : decide (pre[j].1 = m.1) = false := hc
        rw [List.take_succ_eq_append_getElem hj, List.any_append, hs]
        simp only [List.any_cons, List.any_nil, hc, Bool.or_false]))
    (fun _ hs => aB jr (pc l no l _ _ pre _ _ m) ⟨fun hc => absurd (of_decide_eq_true hc) (Int.lt_irrefl _), fun _ => hnext (by rw [List.take_length] at hs; exact hs)⟩)
def E7 (O : Nat → Prop) (w0 : World) (l : List Mem) (no : Int) (hm : l.length ≤ maxLen) :=
 PLift.up <| bf (σ := Unit) l.length (fun i _ => AC no (l.take i) (l.drop i) = bL l no)
  (fun i _ => GU9 O w0 (bL l no) [] cO (lp cN 2) (oa l no l (lnx ab l) (i : Nat)))
  (fun i _ hi hs ih => aB jr (po l no l _ _) (by
   rw [List.drop_eq_getElem_cons hi, xw, ← List.take_succ_eq_append_getElem hi] at hs
   have hi' : i ≤ l.length := Nat.le_of_lt hi
   refine ⟨fun _ => ⟨a6 hi, trivial, ?_⟩, fun hc => absurd hi (by rw [bB] at hc; exact of_decide_eq_false hc)⟩
   rw [bM hi, vk]
   refine ⟨fun hc => ⟨_, rfl, ?_⟩, fun hc => ⟨⟨Int.le_refl _, Int.natCast_nonneg _, Int.ofNat_le.2 hi'⟩, ?_⟩⟩
   ·have hc : (bif !co l[i] then true else decide (l[i].1 = no)) = true := hc
    rw [hc] at hs
    exact Prod.ext hs rfl
   ·have hc : (bif !co l[i] then true else decide (l[i].1 = no)) = false := hc
    rw [hc] at hs
    refine (MN O w0 l no l[i] i (l.take i) (bL l no) (by rw [List.length_take]; omega) (fun h => ?_) (fun h => ?_)).down 0 () (Nat.zero_le _) rfl
    ·rw [← hs, h]; rfl
    ·rw [bG hi hm]
     refine ih () ?_
     rw [h] at hs
     exact hs))
  (fun _ hs => aB jr (po l no l _ _) (by
   refine ⟨fun hc => absurd (of_decide_eq_true hc) (Int.lt_irrefl _), fun _ => ⟨_, rfl, Prod.ext ?_ rfl⟩⟩
   rw [List.drop_length] at hs
   exact hs))
theorem Hp : ap prog [] nv ne :=
 bw (S := ne) jr (fx := cO) EU (by kernel_rfl) (fun _ _ => trivial) (T := fun x => yz x.1 x.2.1) (fun x => BD x.1 x.2.1) fun O w0 x hk _ =>
  (E7 O w0 x.1 x.2.1 hk.1.1).down 0 () (Nat.zero_le _) rfl
theorem Ed {n : Nd} (h : ¬ NOk n) : aO n = false := by
 cases hq : aO n with
 | false => rfl
 | true => exact absurd ((kX n).1 hq) h
theorem II : ap prog [] oR oU :=
 bw (S := oU) (It Eh wa Hp) (fx := yO) GY (by kernel_rfl) (fun _ _ => trivial) (T := fun x => zG x.1) (fun x => Ea x.1) fun O w0 x _ _ => by
  obtain ⟨n, ⟨⟩⟩ := x
  have e1 : lnx ab n.2.2.1 = ((n.2.2.1.length : Nat) : Int) := rfl
  have e2 : lnx ab n.2.2.2.1 = ((n.2.2.2.1.length : Nat) : Int) := rfl
  refine ⟨trivial, fun _ => trivial, fun _ _ => trivial, fun hc => ⟨_, rfl, Prod.ext ?_ rfl⟩, fun hc => ⟨fun _ => trivial, fun hc2 => ⟨_, rfl, Prod.ext ?_ rfl⟩, fun hc2 => ⟨fun h1 => ?_, fun _ => trivial, _, rfl, Prod.ext ?_ rfl⟩⟩⟩
  all_goals
   have hc' : ∀ c : Bool, (bif !co n.1 then true else bif !decide (n.2.1 = noM) then bif !co n.2.1 then true else decide (n.2.1.1 = n.1.1) else false) = c → (c = false ↔ co n.1 = true ∧ (n.2.1 = noM ∨ (co n.2.1 = true ∧ n.2.1.1 ≠ n.1.1))) := fun c hc => by
    rw [← hc]
    cases h1 : co n.1
    ·simp
    by_cases h2 : n.2.1 = noM
    ·rw [decide_eq_true h2]; simp [h2]
    ·rw [decide_eq_false h2]
     cases h3 : co n.2.1
     ·simp [h2]
     ·simp [h2]
   have hc2' : ∀ c : Bool, (bif bif bif decide (lnx ab n.2.2.1 < 1) then true else decide (4 < lnx ab n.2.2.1) then true else decide (16 < lnx ab n.2.2.2.1) then true else !bL n.2.2.2.1 n.1.1) = c → (c = false ↔ (1 ≤ n.2.2.1.length ∧ n.2.2.1.length ≤ 4 ∧ n.2.2.2.1.length ≤ 16 ∧ bL n.2.2.2.1 n.1.1 = true)) := fun c hc => by
    rw [← hc, e1, e2]
    by_cases h1 : ((n.2.2.1.length : Nat) : Int) < 1
    ·rw [decide_eq_true h1]; simp; omega
    rw [decide_eq_false h1]
    by_cases h2 : 4 < ((n.2.2.1.length : Nat) : Int)
    ·rw [decide_eq_true h2]; simp; omega
    rw [decide_eq_false h2]
    by_cases h3 : 16 < ((n.2.2.2.1.length : Nat) : Int)
    ·rw [decide_eq_true h3]; simp; omega
    rw [decide_eq_false h3]
    simp only [cond_false, Bool.not_eq_false']
    exact ⟨fun h => ⟨by omega, by omega, by omega, h⟩, fun h => h.2.2.2⟩
  ·show false = aO n
   refine (Ed fun h => ?_).symm
   have := (hc' true hc).2 ⟨h.self, h.pred⟩
   cases this
  ·show false = aO n
   refine (Ed fun h => ?_).symm
   have := (hc2' true hc2).2 ⟨h.one, h.four, h.many, h.fing⟩
   cases this
  ·have := ((hc2' false hc2).1 rfl).1
   exact a6 this
  ·obtain ⟨a1, a2⟩ := (hc' false hc).1 rfl
   obtain ⟨b1, b2, b3, b4⟩ := (hc2' false hc2).1 rfl
   show (bif bif decide (lnx ab n.2.2.1 = 1) then eqb ab (el ab n.2.2.1 0) n.1 else false then true else bL n.2.2.1 n.1.1) = aO n
   have alone : (bif decide (lnx ab n.2.2.1 = 1) then eqb ab (el ab n.2.2.1 0) n.1 else false) = decide (n.2.2.1 = [n.1]) := by
    rw [e1, iI]
    match hq : n.2.2.1, b1 with
    | [m], _ =>
     show decide (m = n.1) = decide ([m] = [n.1])
     exact decide_eq_decide.2 ⟨fun h => by rw [h], fun h => (List.cons.inj h).1⟩
    | m :: k :: t, _ =>
     rw [decide_eq_false (show ¬ ((((m :: k :: t).length : Nat) : Int) = 1) by simp; omega)]
     exact (decide_eq_false (by simp)).symm
   rw [alone]
   have hiff := kX n
   have : NOk n ↔ (n.2.2.1 = [n.1] ∨ bL n.2.2.1 n.1.1 = true) := ⟨fun h => h.succs, fun h => ⟨a1, a2, b1, b2, h, b3, b4⟩⟩
   rw [this] at hiff
   cases hg : aO n with
   | true =>
    rcases hiff.1 hg with h | h
    ·rw [decide_eq_true h]; rfl
    ·rw [h]; cases decide (n.2.2.1 = [n.1]) <;> rfl
   | false =>
    have hno : ¬ (n.2.2.1 = [n.1] ∨ bL n.2.2.1 n.1.1 = true) := fun h => by rw [hiff.2 h] at hg; cases hg
    rw [decide_eq_false fun h => hno (.inl h)]
    cases hu : bL n.2.2.1 n.1.1 with
    | false => rfl
    | true => exact absurd (.inr hu) hno
abbrev GM0 (O : Nat → Prop) (w0 : World) (y : List Mem) := br prog mc (Cx.base O w0) (bP prog O w0 n5 fun z => z = (y, ()))
def H8 (O : Nat → Prop) (w0 : World) (l : List Nd) (hm : l.length ≤ 1000000) :=
 PLift.up <| bf (σ := List Mem) l.length (fun i b => b = (l.take i).map sfN)
  (fun i b => GM0 O w0 (bH l) [] fZ (lp fG 3) (sm l (lnx ag l) (i : Nat) b))
  (fun i b hi hs ih => aB pM (nJ l _ _ b) (by
   refine ⟨fun _ => ⟨a6 hi, ?_, ?_⟩, fun hc => absurd hi (by rw [bB (e := ag)] at hc; exact of_decide_eq_false hc)⟩
   ·rw [List.length_append, hs, List.length_map, List.length_take]
    exact Nat.le_trans (show min i l.length + 1 ≤ 1000001 by omega) (by decide)
   ·rw [bM (e := ag) hi, bG hi (Nat.le_trans hm (by decide))]
    refine ih _ ?_
    rw [List.take_succ_eq_append_getElem hi, List.map_append, hs]; rfl))
  (fun b hs => aB pM (nJ l _ _ b) ⟨fun hc => absurd (of_decide_eq_true hc) (Int.lt_irrefl _), fun _ => ⟨_, rfl, by
   rw [List.take_length] at hs
   rw [hs]; rfl⟩⟩)
theorem wQ : ap prog [] gt gA :=
 bw (S := gA) pM (fx := fZ) Dy (by kernel_rfl) (fun h => by cases h) (T := fun x => wP x.1) (fun x => AE x.1) fun O w0 x _ hp =>
  (H8 O w0 x.1.1 hp).down 0 [] (Nat.zero_le _) rfl
theorem zH : ap prog [] jN jD :=
 bw (S := jD) (HZ wQ Cv) (fx := yT) GK (by kernel_rfl) (fun h => by cases h) (T := fun x => zS x.1 x.2.1) (fun x => D9 x.1 x.2.1) fun O w0 x _ hp => ⟨hp, trivial, _, rfl, rfl⟩
abbrev GGt (O : Nat → Prop) (w0 : World) (y : Nd) := br prog sV (Cx.base O w0) (bP prog O w0 vO fun z => z = (y, ()))
def Ow (O : Nat → Prop) (w0 : World) (l : List Nd) (no : Int) (z : Nd) (hm : l.length ≤ maxLen) :=
 PLift.up <| bf (σ := Unit) l.length (fun i _ => c8 (l.drop i) no = c8 l no)
  (fun i _ => GGt O w0 (c8 l no) [] ll (lp kL 2) (Ad no l (lnx ag l) (i : Nat) z))
  (fun i _ hi hs ih => aB yv (sr no l _ _ z) (by
   rw [List.drop_eq_getElem_cons hi] at hs
   refine ⟨fun _ => ⟨a6 hi, ?_⟩, fun hc => absurd hi (by rw [bB (e := ag)] at hc; exact of_decide_eq_false hc)⟩
   rw [bM (e := ag) hi, bG hi hm]
   refine ⟨fun hc => ⟨_, rfl, ?_⟩, fun hc => ih () ?_⟩
   ·have hc : decide (l[i].1.1 = no) = true := hc
    unfold c8 at hs
    rw [List.find?_cons, hc] at hs
    show (_, _) = (c8 l no, ())
    unfold c8
    rw [← hs]; rfl
   ·have hc : decide (l[i].1.1 = no) = false := hc
    unfold c8 at hs
    rw [List.find?_cons, hc] at hs
    unfold c8
    exact hs))
  (fun _ hs => aB yv (sr no l _ _ z) ⟨fun hc => absurd (of_decide_eq_true hc) (Int.lt_irrefl _), fun _ => ⟨_, rfl, by
   rw [List.drop_length] at hs
   show (_, _) = (c8 l no, ())
   rw [← hs]; rfl⟩⟩)
theorem LU : ap prog [] tn th :=
 bw (S := th) yv (fx := ll) Kd (by kernel_rfl) (fun _ _ => trivial) (T := fun x => EQ x.1 x.2.1) (fun x => Hd x.1 x.2.1) fun O w0 x hk _ =>
  (Ow O w0 x.1.1 x.2.1 _ hk.1.1.1).down 0 () (Nat.zero_le _) rfl
def fB (self id x : List Int) : Bool := bif (bif !decide (x = self) then !decide (x = id) else false) then fm x self id else false
noncomputable abbrev mq : bl := ⟨uk, uw, fun x => (fB x.2.1 x.2.2.1 x.1, ()), fun _ => True, true⟩
def jF (id self : List Int) (b : Mem × Bool) (m : Mem) : Mem × Bool := bif (bif fB self id m.2.1 then (bif !b.2 then true else fB self m.2.1 b.1.2.1) else false) then (m, true) else b
def fg (id self : List Int) (l : List Mem) : Mem := (l.foldl (jF id self) (noM, false)).1
noncomputable abbrev me : bl := ⟨vc, od, fun x => (fg x.1 x.2.1 x.2.2.1, ()), fun _ => True, true⟩
@[reducible] def pT : fh := ⟨ab, false, .pair (.slc ab) (.pair (.slc ae) (.pair ae .unit)), true, fun _ y => List.length y.1 ≤ 1000000, fun _ y => List.filter (fun m => !aJ y.2.2.1 y.2.1 m) y.1⟩
noncomputable abbrev qi : bl := ⟨Af, ub, fun x => (eN x.1 x.2.1, ()), fun x => List.length (suN x.1) ≤ 1000000 ∧ List.length (fiN x.1) ≤ 1000000, false⟩
def jG (n : Nd) (id : List Int) : Ans :=
 bif fm id n.1.2.1 (el ab n.2.2.1 0).2.1 then (el ab n.2.2.1 0, true, ()) else
 (bif decide ((fg id n.1.2.1 (n.2.2.2.1 ++ n.2.2.1)).1 < 0) then el ab n.2.2.1 0 else fg id n.1.2.1 (n.2.2.2.1 ++ n.2.2.1), false, ())
noncomputable abbrev qg : bl := ⟨zC, t6, fun x => (jG x.1 x.2.1, ()), fun x => 1 ≤ List.length (suN x.1) ∧ List.length (suN x.1) ≤ 1000 ∧ List.length (fiN x.1) ≤ 1000, false⟩
noncomputable abbrev nl : bl := ⟨wm, mn, fun x => (eV x.1.1 (c8 x.1.1 x.2.1) x.2.2.1, ()), fun x => a5 x.1.1 = true ∧ bZ x.1.1 x.2.1 = true ∧ List.length x.1.1 ≤ 1000000, false⟩
noncomputable abbrev qB : bl := ⟨zZ, jR, fun x => (((aU x.1.1 x.2.1 x.2.2.1 x.2.2.2.1).1, (aU x.1.1 x.2.1 x.2.2.1 x.2.2.2.1).2.1, (aU x.1.1 x.2.1 x.2.2.1 x.2.2.2.1).2.2, ()), ()), fun x => a5 x.1.1 = true ∧ (0 : Int) ≤ x.2.2.2.1 ∧ (x.2.2.2.1 : Int) ≤ 16 ∧ List.length x.1.1 ≤ 1000000, false⟩
end Go.Proofs.Ytimdnodkabnbfaa
