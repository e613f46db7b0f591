/- Part 9 of 10 of what this claim's proof stands on: a theory of programs on data, and the contracts of the functions that the law reaches. It holds no condition of its own. -/
import Derived.Test.YtimdnodkabnbfaaCA8
namespace Go.Proofs.Ytimdnodkabnbfaa
open Go Go.RowKit
noncomputable abbrev DJ : Fx := { fn := AU, ann := { } }
noncomputable abbrev Hh : aZ := { D := { T := aX, F := [], R := [], ovl := [] }, inl := [] }
noncomputable abbrev Om : bh := .data E9
theorem N3 : XOk prog Hh := xok ((aF aK az)) (by kernel_rfl) aE aL aM
noncomputable def Hd (m : den ab) : af := af.ret (K.val (Ty.pair Ty.bool Ty.unit) (bif decide (0 ≤ Prod.fst m) then decide (Prod.fst m ≤ 15) else false, PUnit.unit))
theorem Js (m : den ab) : ai Hh Om 5000 [] DJ (aA AU) (Env.of (aC Ed (m, ()) 0) []) = Hd m := by kernel_rfl
noncomputable abbrev Cj : Fx := { fn := yd, ann := { } }
noncomputable abbrev Es : aZ := { D := { T := aX, F := [], R := [], ovl := [] }, inl := [] }
noncomputable abbrev Nt : bh := .data CO
theorem NM : XOk prog Es := xok ((aF aK az)) (by kernel_rfl) aE aL aM
noncomputable def Ff (m : den ab) : af := af.ret (K.val (Ty.pair Ty.bool Ty.unit) (bif decide (Prod.fst m = -1) then eqb tId (Prod.fst (Prod.snd m)) (List.replicate 32 (zero (Ty.int IntKind.u8))) else false, PUnit.unit))
theorem H0 (m : den ab) : ai Es Nt 5000 [] Cj (aA yd) (Env.of (aC BQ (m, ()) 0) []) = Ff m := by kernel_rfl
noncomputable abbrev c8 : Fx := { fn := dg, ann := { loops := [(2, { keep := [0, 1, 9, 10, 11] }), (7, { keep := [0, 1, 6, 9, 10, 11, 27, 28, 29] })] } }
noncomputable abbrev ju : aZ := { D := { T := aX, F := [(nP, nE)], R := [], ovl := [] }, inl := [] }
noncomputable abbrev sP : bh := .data qT
theorem JB (h_r09_may : ak prog [] nP nE) : XOk prog ju := xok (al (aF aK az) h_r09_may) (by kernel_rfl) aE aL aM
noncomputable def AL (l : den (Ty.slc ab)) (no : den ae) : af := af.loop [] c8 (lp dg 2) [(0, K.val (Ty.slc ab) l), (1, K.val ae no), (9, K.val (Ty.slc ab) l), (10, K.val ae (lnx ab l)), (11, K.val ae 0)] []
theorem EI (l : den (Ty.slc ab)) (no : den ae) : ai ju sP 5000 [] c8 (aA dg) (Env.of (aC yL (l, no, ()) 0) []) = AL l no := by kernel_rfl
noncomputable def pf (v0 : den (Ty.slc ab)) (v1 : den ae) (v9 : den (Ty.slc ab)) (v10 : den ae) (v11 : den ae) : Env := Env.of [(0, K.val (Ty.slc ab) v0), (1, K.val ae v1), (9, K.val (Ty.slc ab) v9), (10, K.val ae v10), (11, K.val ae v11)] []
noncomputable def DY (v0 : den (Ty.slc ab)) (v1 : den ae) (v9 : den (Ty.slc ab)) (v10 : den ae) (v11 : den ae) : af := af.ite (decide (v11 < v10)) (af.req (inB v11 (lnx ab v9)) (af.req True (af.ite (bif !db (el ab v9 v11) then true else decide (Prod.fst (el ab v9 v11) = v1)) (af.ret (K.val (Ty.pair Ty.bool Ty.unit) (false, PUnit.unit))) (af.req (bL 0 v11 (lnx ab v0)) (af.loop [] c8 (lp dg 7) [(0, K.val (Ty.slc ab) v0), (1, K.val ae v1), (6, K.ptr 0 ab []), (9, K.val (Ty.slc ab) v9), (10, K.val ae v10), (11, K.val ae v11), (27, K.val (Ty.slc ab) (eK ab v0 0 v11)), (28, K.val ae (lnx ab (eK ab v0 0 v11))), (29, K.val ae 0)] [(0, Bx.cell ab (el ab v9 v11))]))))) (af.ret (K.val (Ty.pair Ty.bool Ty.unit) (true, PUnit.unit)))
theorem qI (v0 : den (Ty.slc ab)) (v1 : den ae) (v9 : den (Ty.slc ab)) (v10 : den ae) (v11 : den ae) : ai ju sP 5000 [] c8 (lp dg 2) (pf v0 v1 v9 v10 v11) = DY v0 v1 v9 v10 v11 := by kernel_rfl
noncomputable def wJ (v0 : den (Ty.slc ab)) (v1 : den ae) (v9 : den (Ty.slc ab)) (v10 : den ae) (v11 : den ae) (v27 : den (Ty.slc ab)) (v28 : den ae) (v29 : den ae) (b0 : den ab) : Env := Env.of [(0, K.val (Ty.slc ab) v0), (1, K.val ae v1), (6, K.ptr 0 ab []), (9, K.val (Ty.slc ab) v9), (10, K.val ae v10), (11, K.val ae v11), (27, K.val (Ty.slc ab) v27), (28, K.val ae v28), (29, K.val ae v29)] [(0, Bx.cell ab b0)]
noncomputable def EN (v0 : den (Ty.slc ab)) (v1 : den ae) (v9 : den (Ty.slc ab)) (v10 : den ae) (v11 : den ae) (v27 : den (Ty.slc ab)) (v28 : den ae) (v29 : den ae) (b0 : den ab) : af := af.ite (decide (v29 < v28)) (af.req (inB v29 (lnx ab v27)) (af.ite (decide (Prod.fst (el ab v27 v29) = Prod.fst b0)) (af.ret (K.val (Ty.pair Ty.bool Ty.unit) (false, PUnit.unit))) (af.loop [] c8 (lp dg 7) [(0, K.val (Ty.slc ab) v0), (1, K.val ae v1), (6, K.ptr 0 ab []), (9, K.val (Ty.slc ab) v9), (10, K.val ae v10), (11, K.val ae v11), (27, K.val (Ty.slc ab) v27), (28, K.val ae v28), (29, K.val ae (IntKind.wrap IntKind.i64 (v29 + 1)))] [(0, Bx.cell ab b0)]))) (af.loop [] c8 (lp dg 2) [(0, K.val (Ty.slc ab) v0), (1, K.val ae v1), (9, K.val (Ty.slc ab) v9), (10, K.val ae v10), (11, K.val ae (IntKind.wrap IntKind.i64 (v11 + 1)))] [])
theorem qq (v0 : den (Ty.slc ab)) (v1 : den ae) (v9 : den (Ty.slc ab)) (v10 : den ae) (v11 : den ae) (v27 : den (Ty.slc ab)) (v28 : den ae) (v29 : den ae) (b0 : den ab) : ai ju sP 5000 [] c8 (lp dg 7) (wJ v0 v1 v9 v10 v11 v27 v28 v29 b0) = EN v0 v1 v9 v10 v11 v27 v28 v29 b0 := by kernel_rfl
noncomputable abbrev zf : Fx := { fn := vZ, ann := { } }
noncomputable abbrev Cc : aZ := { D := { T := aX, F := [(nP, nE), (rX, sj), (oC, nZ)], R := [], ovl := [] }, inl := [] }
noncomputable abbrev KR : bh := .data zk
theorem KM (h_r09_may : ak prog [] nP nE) (h_r09_None : ak prog [] rX sj) (h_r09_unlike : ak prog [] oC nZ) : XOk prog Cc := xok (al (al (al (aF aK az) h_r09_unlike) h_r09_None) h_r09_may) (by kernel_rfl) aE aL aM
noncomputable def Cp (n : den ag) : af := af.req True (af.req (da [(!db (Prod.fst n), false)] True) (af.req (da [(!db (Prod.fst n), false), (!decide (Prod.fst (Prod.snd n) = noM), true)] True) (af.ite (bif !db (Prod.fst n) then true else bif !decide (Prod.fst (Prod.snd n) = noM) then bif !db (Prod.fst (Prod.snd n)) then true else decide (Prod.fst (Prod.fst (Prod.snd n)) = Prod.fst (Prod.fst n)) else false) (af.ret (K.val (Ty.pair Ty.bool Ty.unit) (false, PUnit.unit))) (af.req (da [(bif bif decide (lnx ab (Prod.fst (Prod.snd (Prod.snd n))) < 1) then true else decide (4 < lnx ab (Prod.fst (Prod.snd (Prod.snd n)))) then true else decide (16 < lnx ab (Prod.fst (Prod.snd (Prod.snd (Prod.snd n))))), false)] True) (af.ite (bif bif bif decide (lnx ab (Prod.fst (Prod.snd (Prod.snd n))) < 1) then true else decide (4 < lnx ab (Prod.fst (Prod.snd (Prod.snd n)))) then true else decide (16 < lnx ab (Prod.fst (Prod.snd (Prod.snd (Prod.snd n))))) then true else !cu (Prod.fst (Prod.snd (Prod.snd (Prod.snd n)))) (Prod.fst (Prod.fst n))) (af.ret (K.val (Ty.pair Ty.bool Ty.unit) (false, PUnit.unit))) (af.req (da [(decide (lnx ab (Prod.fst (Prod.snd (Prod.snd n))) = 1), true)] (inB 0 (lnx ab (Prod.fst (Prod.snd (Prod.snd n)))))) (af.req (da [(bif decide (lnx ab (Prod.fst (Prod.snd (Prod.snd n))) = 1) then eqb ab (el ab (Prod.fst (Prod.snd (Prod.snd n))) 0) (Prod.fst n) else false, false)] True) (af.ret (K.val (Ty.pair Ty.bool Ty.unit) (bif bif decide (lnx ab (Prod.fst (Prod.snd (Prod.snd n))) = 1) then eqb ab (el ab (Prod.fst (Prod.snd (Prod.snd n))) 0) (Prod.fst n) else false then true else cu (Prod.fst (Prod.snd (Prod.snd n))) (Prod.fst (Prod.fst n)), PUnit.unit))))))))))
theorem FZ (n : den ag) : ai Cc KR 5000 [] zf (aA vZ) (Env.of (aC Ap (n, ()) 0) []) = Cp n := by kernel_rfl
noncomputable abbrev gD : Fx := { fn := gb, ann := { loops := [(3, { keep := [3, 8, 9, 10] })] }, own := [6] }
noncomputable abbrev nk : aZ := { D := { T := aX, F := [], R := [], ovl := [] }, inl := [] }
noncomputable abbrev yt : bh := .data pB
theorem rE : XOk prog nk := xok ((aF aK az)) (by kernel_rfl) aE aL aM
noncomputable def yN (o : den ah) : af := af.loop [] gD (lp gb 3) [(3, K.sl 0 ab), (8, K.val (Ty.slc ag) (Prod.fst o)), (9, K.val ae (lnx ag (Prod.fst o))), (10, K.val ae 0)] [(0, Bx.row ab (List.replicate 0 (zero ab)))]
theorem Ds (o : den ah) : ai nk yt 5000 [] gD (aA gb) (Env.of (aC xv (o, ()) 0) []) = yN o := by kernel_rfl
noncomputable def uy (v8 : den (Ty.slc ag)) (v9 : den ae) (v10 : den ae) (b0 : List (den ab)) : Env := Env.of [(3, K.sl 0 ab), (8, K.val (Ty.slc ag) v8), (9, K.val ae v9), (10, K.val ae v10)] [(0, Bx.row ab b0)]
noncomputable def Db (v8 : den (Ty.slc ag)) (v9 : den ae) (v10 : den ae) (b0 : List (den ab)) : af := af.ite (decide (v10 < v9)) (af.req (inB v10 (lnx ag v8)) (af.req (List.length (b0 ++ List.set (List.replicate 1 (zero ab)) 0 (Prod.fst (el ag v8 v10))) ≤ bH) (af.loop [] gD (lp gb 3) [(3, K.sl 0 ab), (8, K.val (Ty.slc ag) v8), (9, K.val ae v9), (10, K.val ae (IntKind.wrap IntKind.i64 (v10 + 1)))] [(0, Bx.row ab (b0 ++ List.set (List.replicate 1 (zero ab)) 0 (Prod.fst (el ag v8 v10))))]))) (af.ret (K.val (Ty.pair (Ty.slc ab) Ty.unit) (b0, PUnit.unit)))
theorem oV (v8 : den (Ty.slc ag)) (v9 : den ae) (v10 : den ae) (b0 : List (den ab)) : ai nk yt 5000 [] gD (lp gb 3) (uy v8 v9 v10 b0) = Db v8 v9 v10 b0 := by kernel_rfl
noncomputable abbrev zR : Fx := { fn := wa, ann := { }, own := [6] }
noncomputable abbrev Ct : aZ := { D := { T := aX, F := [], R := [], ovl := [] }, inl := [] }
noncomputable abbrev LD : bh := .data Ad
theorem KU : XOk prog Ct := xok ((aF aK az)) (by kernel_rfl) aE aL aM
noncomputable def BP (n : den ag) : af := af.req (List.length (List.set (List.replicate 1 (zero ab)) 0 (Prod.fst (Prod.snd n)) ++ Prod.fst (Prod.snd (Prod.snd n))) ≤ bH) (af.req (List.length (List.set (List.replicate 1 (zero ab)) 0 (Prod.fst (Prod.snd n)) ++ Prod.fst (Prod.snd (Prod.snd n)) ++ Prod.fst (Prod.snd (Prod.snd (Prod.snd n)))) ≤ bH) (af.ret (K.val (Ty.pair (Ty.slc ab) Ty.unit) (List.set (List.replicate 1 (zero ab)) 0 (Prod.fst (Prod.snd n)) ++ Prod.fst (Prod.snd (Prod.snd n)) ++ Prod.fst (Prod.snd (Prod.snd (Prod.snd n))), PUnit.unit))))
theorem GA (n : den ag) : ai Ct LD 5000 [] zR (aA wa) (Env.of (aC zc (n, ()) 0) []) = BP n := by kernel_rfl
end Go.Proofs.Ytimdnodkabnbfaa
namespace Go.Proofs.Ytimdnodkabnbfaa
open Go Go.RowKit
theorem GT : ak prog [] nP nE :=
 bq (S := nE) N3 (fx := DJ) M9 (by kernel_rfl) (fun _ _ => trivial) (T := fun x => Hd x.1) (fun x => Js x.1) fun O w0 x _ _ => by
  obtain ⟨m, ⟨⟩⟩ := x
  refine ⟨_, rfl, Prod.ext ?_ rfl⟩
  show (bif decide (0 ≤ m.1) then decide (m.1 ≤ 15) else false) = db m
  unfold db
  have key : ∀ a : Int, decide (a ≤ 15) = decide (a < 16) := fun a => decide_eq_decide.2 (by omega)
  rw [key m.1]
theorem KJ : ak prog [] qd pY :=
 bq (S := pY) KU (fx := zR) Jj (by kernel_rfl) (fun h => by cases h) (T := fun x => BP x.1) (fun x => GA x.1) fun O w0 x _ hp => by
  obtain ⟨n, ⟨⟩⟩ := x
  have hp : (bM n).length ≤ 1000000 := hp
  have e : (bM n).length = ([n.2.1] ++ n.2.2.1).length + n.2.2.2.1.length := List.length_append
  refine ⟨(show ([n.2.1] ++ n.2.2.1).length ≤ 1073741824 by omega), (show ([n.2.1] ++ n.2.2.1 ++ n.2.2.2.1).length ≤ 1073741824 from Nat.le_trans hp (by decide)), _, rfl, rfl⟩
end Go.Proofs.Ytimdnodkabnbfaa
namespace Go.Proofs.Ytimdnodkabnbfaa
open Go Go.RowKit
noncomputable abbrev cB : bg := ⟨.pair (.slc (.slc ab)) .unit, .pair (.slc ab) .unit, fun y => ((y.1.flatten : List Mem), ()), fun y => (y.1.flatten : List Mem).length ≤ bH, false⟩
theorem hK : ak prog [] bS cB := Li uk rfl
abbrev vu : Ty := .pair Py .unit
noncomputable abbrev ni : bg := ⟨wZ, vu, fun x => ((bM x.1, ()), ()), fun x => (bM x.1).length ≤ 1000000, false⟩
abbrev Ov := den ah
def ixQ (p : Nd → Bool) : List Nd → Int → Int
 | [], _ => -1
 | x :: l, i => bif p x then i else ixQ p l (i + 1)
def prQ (f : den (.fn (.pair ag .unit) (.pair .bool .unit))) (m : Nd) : Bool := (s6 (.pair ag .unit) (.pair .bool .unit) f (m, ())).1
noncomputable abbrev cT : bg := ⟨lw, gT, fun x => (ixQ (prQ x.2.1) x.1 0, ()), fun x => nr (.pair ag .unit) (.pair .bool .unit) x.2.1, false⟩
noncomputable abbrev d9 : bg := ⟨jA, jD, fun x => (List.any x.1 (prQ x.2.1), ()), fun x => nr (.pair ag .unit) (.pair .bool .unit) x.2.1, false⟩
noncomputable abbrev kQ : bg := ⟨tT, tD, fun x => (decide ((sfN x.1).1 = x.2.1), ()), fun _ => True, true⟩
noncomputable abbrev kS : bg := ⟨sX, sS, fun x => (decide ((sfN x.1).1 = x.2.1.1), ()), fun _ => True, true⟩
noncomputable abbrev f7 : bg := ⟨t8, nw, fun x => (aj x.1.1, ()), fun x => List.length x.1.1 ≤ 1000000, false⟩
def eH (l : List Nd) (no : Int) : Mem × Bool := match l.find? (fun n => decide (n.1.1 = no)) with | some n => (n.1, true) | none => (zero ab, false)
noncomputable abbrev n1 : bg := ⟨yz, ru, fun x => ((eH x.1.1 x.2.1).1, (eH x.1.1 x.2.1).2, ()), fun _ => True, true⟩
def kU (l : List Nd) (m : Mem) : Bool := bif (eH l m.1).2 then !decide ((eH l m.1).1 = m) else false
def RY (l : List Nd) (n : Nd) : Bool := (bM n).all fun m => !kU l m
def Bb (l : List Nd) (i : Int) : Bool := bif !aT (el ag l i) then true else bif decide (0 < i) then decide ((el ag l i).1.1 ≤ (el ag l (i - 1)).1.1) else false
def gl (l : List Nd) (i : Int) : Bool := bif Bb l i then false else RY l (el ag l i)
def be (l : List Nd) : Bool := (List.range l.length).all (fun i => gl l (i : Nat)) && bf (aj l)
noncomputable abbrev ij : bg := ⟨wH, pg, fun x => (be x.1.1, ()), fun x => List.length x.1.1 ≤ 1000000, false⟩
noncomputable abbrev pP : bg := ⟨Ab, tq, fun x => (be x.1.1, ()), fun x => List.length x.1.1 ≤ 1000000, false⟩
abbrev Ans := den ay
def Qm (l : List Nd) (n : Nd) : List Int := ((bM n).filter fun m => !xy l m.1).map fun m => m.1
def I7 (l : List Nd) (n : Nd) : Nd := (ib n (Qm l n)).1
def Jx (l : List Nd) (n : Nd) (id : List Int) : Ans := bif wE (I7 l n) id then ((I7 l n).1, true, ()) else ((fb (I7 l n) id).1, (fb (I7 l n) id).2.1, ())
def aP (l : List Nd) (no : Int) (id : List Int) : Ans × Bool := match l.find? (fun n => decide (n.1.1 = no)) with | some n => (Jx l n id, true) | none => (zero ay, false)
noncomputable abbrev np : bg := ⟨wx, mh, fun x => ((aP x.1.1 x.2.1 x.2.2.1).1, (aP x.1.1 x.2.1 x.2.2.1).2, ()), fun x => be x.1.1 = true, false⟩
abbrev WR := List Int × Mem × Int
def dZ (l : List Nd) (id : List Int) : Nat → List Int → Int → WR
 | n, path, no => bif !(aP l no id).2 then ([], zero ab, 10) else
  match n with
  | 0 => ([], zero ab, 9)
  | n + 1 => bif (aP l no id).1.2.1 then (bif decide ((aP l no id).1.1.1 = no) then (path ++ [no], (aP l no id).1.1, 0) else (path ++ [no] ++ [(aP l no id).1.1.1], (aP l no id).1.1, 0))
   else bif decide ((aP l no id).1.1.1 = no) then ([], zero ab, 13) else dZ l id n (path ++ [no]) (aP l no id).1.1.1
def dz (l : List Nd) (no : Int) (id : List Int) (hops : Int) : WR := bif (bif (bif !be l then true else decide (hops < 0)) then true else decide (16 < hops)) then ([], zero ab, 1) else dZ l id (hops.toNat + 1) [] no
noncomputable abbrev nh : bg := ⟨wM, eC, fun x => ((dz x.1.1 x.2.1 x.2.2.1 x.2.2.2.1).1, (dz x.1.1 x.2.1 x.2.2.1 x.2.2.2.1).2.1, (dz x.1.1 x.2.1 x.2.2.1 x.2.2.2.1).2.2, ()), fun x => List.length x.1.1 ≤ 1000000, false⟩
end Go.Proofs.Ytimdnodkabnbfaa
namespace Go.Proofs.Ytimdnodkabnbfaa
open Go Go.RowKit
noncomputable abbrev ul : Fx := { fn := mI, ann := { } }
noncomputable abbrev bZ : Fx := { fn := bT, ann := { loops := [(1, { keep := [0, 2, 6, 7, 8] })], frz := [(1000001, [6, 8, 9])], gy := true } }
noncomputable abbrev dO : Fx := { fn := aV, ann := { frz := [(2, [3, 4])] } }
noncomputable abbrev gS : aZ := { D := { T := aX, F := [(gz, iS), (dQ, eW), (iD, iL)], R := [], ovl := [] }, inl := [(m0, ul), (ll, bZ)] }
noncomputable abbrev tB : bh := .data mH
theorem DA (h_ident_Far : ak prog [] gz iS) (h_ident_Compare : ak prog [] dQ eW) (h_finger_Closest_1 : ak prog [] iD iL) : XOk prog gS := xok (al (al (al (aF aK az) h_finger_Closest_1) h_ident_Compare) h_ident_Far) (by kernel_rfl) aE (jb ui (by kernel_rfl) (jb sn (by kernel_rfl) aL)) aM
noncomputable def s4 (id : den tId) (self : den tId) (known : den (Ty.slc ab)) : af := af.req (∀ (y : den (Ty.pair ab Ty.unit)), True) (af.loop [{ fx := dO, todo := cx aV 5, dst := none, s := ofS [(6, K.ptr (0 + 1 + 1) ab []), (8, K.ptr (0 + 1 + 1 + 1) ab []), (9, K.ptr (0 + 1 + 1 + 1 + 1) ae [])], rng := some 0 }] bZ (lp bT 1) [(0, K.yld 0), (2, K.ptr (0 + 1) (Ty.fn (Ty.pair ab Ty.unit) (Ty.pair Ty.bool Ty.unit)) []), (6, K.val (Ty.slc ab) known), (7, K.val ae (lnx ab known)), (8, K.val ae 0)] [(0, Bx.lop LoopState.ready none [(4, K.ref tId self), (8, K.ptr (0 + 1 + 1 + 1) ab []), (9, K.ptr (0 + 1 + 1 + 1 + 1) ae [])] 35 (kP aV 5) (du aV 5) (ft aV 5)), (0 + 1, Bx.cell (Ty.fn (Ty.pair ab Ty.unit) (Ty.pair Ty.bool Ty.unit)) (some fun (y : den (Ty.pair ab Ty.unit)) ↦ (pl self id (Prod.fst y), PUnit.unit))), (0 + 1 + 1, Bx.cell ab (zero ab)), (0 + 1 + 1 + 1, Bx.cell ab (zero (Ty.pair ae (Ty.pair tId Ty.unit)))), (0 + 1 + 1 + 1 + 1, Bx.cell ae 6)])
theorem yZ (id : den tId) (self : den tId) (known : den (Ty.slc ab)) : ai gS tB 5000 [] dO (aA aV) (Env.of (aC rI (id, self, known, ()) 0) []) = s4 id self known := by kernel_rfl
noncomputable def eP (v6 : den (Ty.slc ab)) (v7 : den ae) (v8 : den ae) (b0_4 : den tId) (b1 : den (Ty.fn (Ty.pair ab Ty.unit) (Ty.pair Ty.bool Ty.unit))) (b2 : den ab) (b3 : den ab) (b4 : den ae) : List bY := [{ fx := dO, todo := cx aV 5, dst := none, s := ofS [(6, K.ptr (0 + 1 + 1) ab []), (8, K.ptr (0 + 1 + 1 + 1) ab []), (9, K.ptr (0 + 1 + 1 + 1 + 1) ae [])], rng := some 0 }]
noncomputable def eN (v6 : den (Ty.slc ab)) (v7 : den ae) (v8 : den ae) (b0_4 : den tId) (b1 : den (Ty.fn (Ty.pair ab Ty.unit) (Ty.pair Ty.bool Ty.unit))) (b2 : den ab) (b3 : den ab) (b4 : den ae) : Env := Env.of [(0, K.yld 0), (2, K.ptr (0 + 1) (Ty.fn (Ty.pair ab Ty.unit) (Ty.pair Ty.bool Ty.unit)) []), (6, K.val (Ty.slc ab) v6), (7, K.val ae v7), (8, K.val ae v8)] [(0, Bx.lop LoopState.ready none [(4, K.ref tId b0_4), (8, K.ptr (0 + 1 + 1 + 1) ab []), (9, K.ptr (0 + 1 + 1 + 1 + 1) ae [])] 35 (kP aV 5) (du aV 5) (ft aV 5)), (1, Bx.cell (Ty.fn (Ty.pair ab Ty.unit) (Ty.pair Ty.bool Ty.unit)) b1), (2, Bx.cell ab b2), (3, Bx.cell ab b3), (4, Bx.cell ae b4)]
noncomputable def jm (v6 : den (Ty.slc ab)) (v7 : den ae) (v8 : den ae) (b0_4 : den tId) (b1 : den (Ty.fn (Ty.pair ab Ty.unit) (Ty.pair Ty.bool Ty.unit))) (b2 : den ab) (b3 : den ab) (b4 : den ae) : af := af.ite (decide (v8 < v7)) (af.req (inB v8 (lnx ab v6)) (af.req (nr (Ty.pair ab Ty.unit) (Ty.pair Ty.bool Ty.unit) b1) (af.ite (Prod.fst (s6 (Ty.pair ab Ty.unit) (Ty.pair Ty.bool Ty.unit) b1 (el ab v6 v8, PUnit.unit))) (af.req (da [(!decide (b4 = 0), false)] True) (af.req (da [(!decide (b4 = 0), false)] True) (af.req (da [(!decide (b4 = 0), false)] True) (af.ite (bif !decide (b4 = 0) then true else decide (dS (a7 b0_4 (Prod.fst (Prod.snd b3))) (a7 b0_4 (Prod.fst (Prod.snd (el ab v6 v8)))) < 0)) (af.loop [{ fx := dO, todo := cx aV 5, dst := none, s := ofS [(6, K.ptr (0 + 1 + 1) ab []), (8, K.ptr (0 + 1 + 1 + 1) ab []), (9, K.ptr (0 + 1 + 1 + 1 + 1) ae [])], rng := some 0 }] bZ (lp bT 1) [(0, K.yld 0), (2, K.ptr (0 + 1) (Ty.fn (Ty.pair ab Ty.unit) (Ty.pair Ty.bool Ty.unit)) []), (6, K.val (Ty.slc ab) v6), (7, K.val ae v7), (8, K.val ae (IntKind.wrap IntKind.i64 (v8 + 1)))] [(0, Bx.lop LoopState.ready none [(4, K.ref tId b0_4), (8, K.ptr (0 + 1 + 1 + 1) ab []), (9, K.ptr (0 + 1 + 1 + 1 + 1) ae [])] 35 (kP aV 5) (du aV 5) (ft aV 5)), (0 + 1, Bx.cell (Ty.fn (Ty.pair ab Ty.unit) (Ty.pair Ty.bool Ty.unit)) b1), (0 + 1 + 1, Bx.cell ab b2), (0 + 1 + 1 + 1, Bx.cell ab (el ab v6 v8)), (0 + 1 + 1 + 1 + 1, Bx.cell ae 0)]) (af.loop [{ fx := dO, todo := cx aV 5, dst := none, s := ofS [(6, K.ptr (0 + 1 + 1) ab []), (8, K.ptr (0 + 1 + 1 + 1) ab []), (9, K.ptr (0 + 1 + 1 + 1 + 1) ae [])], rng := some 0 }] bZ (lp bT 1) [(0, K.yld 0), (2, K.ptr (0 + 1) (Ty.fn (Ty.pair ab Ty.unit) (Ty.pair Ty.bool Ty.unit)) []), (6, K.val (Ty.slc ab) v6), (7, K.val ae v7), (8, K.val ae (IntKind.wrap IntKind.i64 (v8 + 1)))] [(0, Bx.lop LoopState.ready none [(4, K.ref tId b0_4), (8, K.ptr (0 + 1 + 1 + 1) ab []), (9, K.ptr (0 + 1 + 1 + 1 + 1) ae [])] 35 (kP aV 5) (du aV 5) (ft aV 5)), (0 + 1, Bx.cell (Ty.fn (Ty.pair ab Ty.unit) (Ty.pair Ty.bool Ty.unit)) b1), (0 + 1 + 1, Bx.cell ab b2), (0 + 1 + 1 + 1, Bx.cell ab b3), (0 + 1 + 1 + 1 + 1, Bx.cell ae b4)]))))) (af.loop [{ fx := dO, todo := cx aV 5, dst := none, s := ofS [(6, K.ptr (0 + 1 + 1) ab []), (8, K.ptr (0 + 1 + 1 + 1) ab []), (9, K.ptr (0 + 1 + 1 + 1 + 1) ae [])], rng := some 0 }] bZ (lp bT 1) [(0, K.yld 0), (2, K.ptr (0 + 1) (Ty.fn (Ty.pair ab Ty.unit) (Ty.pair Ty.bool Ty.unit)) []), (6, K.val (Ty.slc ab) v6), (7, K.val ae v7), (8, K.val ae (IntKind.wrap IntKind.i64 (v8 + 1)))] [(0, Bx.lop LoopState.ready none [(4, K.ref tId b0_4), (8, K.ptr (0 + 1 + 1 + 1) ab []), (9, K.ptr (0 + 1 + 1 + 1 + 1) ae [])] 35 (kP aV 5) (du aV 5) (ft aV 5)), (0 + 1, Bx.cell (Ty.fn (Ty.pair ab Ty.unit) (Ty.pair Ty.bool Ty.unit)) b1), (0 + 1 + 1, Bx.cell ab b2), (0 + 1 + 1 + 1, Bx.cell ab b3), (0 + 1 + 1 + 1 + 1, Bx.cell ae b4)])))) (af.ret (K.val (Ty.pair ab (Ty.pair ae Ty.unit)) (b3, b4, PUnit.unit)))
theorem dR (v6 : den (Ty.slc ab)) (v7 : den ae) (v8 : den ae) (b0_4 : den tId) (b1 : den (Ty.fn (Ty.pair ab Ty.unit) (Ty.pair Ty.bool Ty.unit))) (b2 : den ab) (b3 : den ab) (b4 : den ae) : ai gS tB 5000 (eP v6 v7 v8 b0_4 b1 b2 b3 b4) bZ (lp bT 1) (eN v6 v7 v8 b0_4 b1 b2 b3 b4) = jm v6 v7 v8 b0_4 b1 b2 b3 b4 := by kernel_rfl
noncomputable abbrev Bc : Fx := { fn := vK, ann := { }, share := true }
noncomputable abbrev Cd : aZ := { D := { T := aX, F := [(dW, dY), (iG, jT), (bS, cB), (jG, jH)], R := [], ovl := [] }, inl := [] }
noncomputable abbrev KT : bh := .data tG
theorem Lv (h_node_Right : ak prog [] dW dY) (h_ident_In : ak prog [] iG jT) (h_slices_Concat_Member : ak prog [] bS (cB)) (h_finger_Closest : ak prog [] jG jH) : XOk prog Cd := xok (al (al (al (al (aF aK az) h_finger_Closest) h_slices_Concat_Member) h_ident_In) h_node_Right) (by kernel_rfl) aE aL aM
noncomputable def CK (n : den ag) (id : den tId) : af := af.req True (af.all (den Ty.bool) (fun (q2 : den Ty.bool) ↦ q2 = aT n) fun (q2 : den Ty.bool) ↦ af.ite (!q2) (af.ret (K.val (Ty.pair ab (Ty.pair Ty.bool (Ty.pair ae Ty.unit))) (zero (Ty.pair ae (Ty.pair tId Ty.unit)), false, 1, PUnit.unit))) (af.req (inB 0 (lnx ab (Prod.fst (Prod.snd (Prod.snd n))))) (af.req True (af.all (den Ty.bool) (fun (q3 : den Ty.bool) ↦ q3 = tV id (Prod.fst (Prod.snd (Prod.fst n))) (Prod.fst (Prod.snd (el ab (Prod.fst (Prod.snd (Prod.snd n))) 0)))) fun (q3 : den Ty.bool) ↦ af.ite q3 (af.ret (K.val (Ty.pair ab (Ty.pair Ty.bool (Ty.pair ae Ty.unit))) (el ab (Prod.fst (Prod.snd (Prod.snd n))) 0, true, 0, PUnit.unit))) (af.req (List.length (List.flatten (List.set (List.set (List.replicate 2 (zero (Ty.slc ab))) 0 (Prod.fst (Prod.snd (Prod.snd (Prod.snd n))))) 1 (Prod.fst (Prod.snd (Prod.snd n))))) ≤ bH) (af.req True (af.all (den (Ty.slc ab)) (fun (q4 : den (Ty.slc ab)) ↦ q4 = List.flatten (List.set (List.set (List.replicate 2 (zero (Ty.slc ab))) 0 (Prod.fst (Prod.snd (Prod.snd (Prod.snd n))))) 1 (Prod.fst (Prod.snd (Prod.snd n))))) fun (q4 : den (Ty.slc ab)) ↦ af.all (den (Ty.pair ab (Ty.pair ae Ty.unit))) (fun (q5 : den (Ty.pair ab (Ty.pair ae Ty.unit))) ↦ q5 = (Prod.fst (fN id (Prod.fst (Prod.snd (Prod.fst n))) (List.flatten (List.set (List.set (List.replicate 2 (zero (Ty.slc ab))) 0 (Prod.fst (Prod.snd (Prod.snd (Prod.snd n))))) 1 (Prod.fst (Prod.snd (Prod.snd n)))))), Prod.snd (fN id (Prod.fst (Prod.snd (Prod.fst n))) (List.flatten (List.set (List.set (List.replicate 2 (zero (Ty.slc ab))) 0 (Prod.fst (Prod.snd (Prod.snd (Prod.snd n))))) 1 (Prod.fst (Prod.snd (Prod.snd n)))))), PUnit.unit)) fun (q5 : den (Ty.pair ab (Ty.pair ae Ty.unit))) ↦ af.ite (!decide (Prod.snd (fN id (Prod.fst (Prod.snd (Prod.fst n))) (List.flatten (List.set (List.set (List.replicate 2 (zero (Ty.slc ab))) 0 (Prod.fst (Prod.snd (Prod.snd (Prod.snd n))))) 1 (Prod.fst (Prod.snd (Prod.snd n)))))) = 0)) (af.req (inB 0 (lnx ab (Prod.fst (Prod.snd (Prod.snd n))))) (af.ret (K.val (Ty.pair ab (Ty.pair Ty.bool (Ty.pair ae Ty.unit))) (el ab (Prod.fst (Prod.snd (Prod.snd n))) 0, false, 0, PUnit.unit)))) (af.ret (K.val (Ty.pair ab (Ty.pair Ty.bool (Ty.pair ae Ty.unit))) (Prod.fst (fN id (Prod.fst (Prod.snd (Prod.fst n))) (List.flatten (List.set (List.set (List.replicate 2 (zero (Ty.slc ab))) 0 (Prod.fst (Prod.snd (Prod.snd (Prod.snd n))))) 1 (Prod.fst (Prod.snd (Prod.snd n)))))), false, 0, PUnit.unit))))))))))
theorem Ge (n : den ag) (id : den tId) : ai Cd KT 5000 [] Bc (aA vK) (Env.of (aC Af (n, id, ()) 0) []) = CK n id := by kernel_rfl
noncomputable abbrev cM : Fx := { fn := cz, ann := { loops := [(2, { keep := [0, 1, 7, 8] })] } }
noncomputable abbrev fm : aZ := { D := { T := aX, F := [], R := [], ovl := [] }, inl := [] }
noncomputable abbrev mA : bh := .data gT
theorem g9 : XOk prog fm := xok ((aF aK az)) (by kernel_rfl) aE aL aM
noncomputable def mz (s : den (Ty.slc ag)) (f : den (Ty.fn (Ty.pair ag Ty.unit) (Ty.pair Ty.bool Ty.unit))) : af := af.loop [] cM (lp cz 2) [(0, K.val (Ty.slc ag) s), (1, K.val (Ty.fn (Ty.pair ag Ty.unit) (Ty.pair Ty.bool Ty.unit)) f), (7, K.val ae (lnx ag s)), (8, K.val ae 0)] []
theorem rc (s : den (Ty.slc ag)) (f : den (Ty.fn (Ty.pair ag Ty.unit) (Ty.pair Ty.bool Ty.unit))) : ai fm mA 5000 [] cM (aA cz) (Env.of (aC lw (s, f, ()) 0) []) = mz s f := by kernel_rfl
noncomputable def kT (v0 : den (Ty.slc ag)) (v1 : den (Ty.fn (Ty.pair ag Ty.unit) (Ty.pair Ty.bool Ty.unit))) (v7 : den ae) (v8 : den ae) : Env := Env.of [(0, K.val (Ty.slc ag) v0), (1, K.val (Ty.fn (Ty.pair ag Ty.unit) (Ty.pair Ty.bool Ty.unit)) v1), (7, K.val ae v7), (8, K.val ae v8)] []
noncomputable def rC (v0 : den (Ty.slc ag)) (v1 : den (Ty.fn (Ty.pair ag Ty.unit) (Ty.pair Ty.bool Ty.unit))) (v7 : den ae) (v8 : den ae) : af := af.ite (decide (v8 < v7)) (af.req (inB v8 (lnx ag v0)) (af.req (nr (Ty.pair ag Ty.unit) (Ty.pair Ty.bool Ty.unit) v1) (af.ite (Prod.fst (s6 (Ty.pair ag Ty.unit) (Ty.pair Ty.bool Ty.unit) v1 (el ag v0 v8, PUnit.unit))) (af.ret (K.val (Ty.pair ae Ty.unit) (v8, PUnit.unit))) (af.loop [] cM (lp cz 2) [(0, K.val (Ty.slc ag) v0), (1, K.val (Ty.fn (Ty.pair ag Ty.unit) (Ty.pair Ty.bool Ty.unit)) v1), (7, K.val ae v7), (8, K.val ae (IntKind.wrap IntKind.i64 (v8 + 1)))] [])))) (af.ret (K.val (Ty.pair ae Ty.unit) (-1, PUnit.unit)))
theorem iZ (v0 : den (Ty.slc ag)) (v1 : den (Ty.fn (Ty.pair ag Ty.unit) (Ty.pair Ty.bool Ty.unit))) (v7 : den ae) (v8 : den ae) : ai fm mA 5000 [] cM (lp cz 2) (kT v0 v1 v7 v8) = rC v0 v1 v7 v8 := by kernel_rfl
noncomputable abbrev jE : Fx := { fn := gf, ann := { } }
noncomputable abbrev jX : aZ := { D := { T := aX, F := [(cV, cT)], R := [], ovl := [] }, inl := [] }
noncomputable abbrev rf : bh := .data jD
theorem rA (h_slices_IndexFunc_Node : ak prog [] cV cT) : XOk prog jX := xok (al (aF aK az) h_slices_IndexFunc_Node) (by kernel_rfl) aE aL aM
noncomputable def j4 (s : den (Ty.slc ag)) (f : den (Ty.fn (Ty.pair ag Ty.unit) (Ty.pair Ty.bool Ty.unit))) : af := af.req (∃ (h : den (Ty.pair ag Ty.unit) → den (Ty.pair Ty.bool Ty.unit)), f = some h) (af.ret (K.val (Ty.pair Ty.bool Ty.unit) (decide (0 ≤ ixQ (prQ f) s 0), PUnit.unit)))
theorem oQ (s : den (Ty.slc ag)) (f : den (Ty.fn (Ty.pair ag Ty.unit) (Ty.pair Ty.bool Ty.unit))) : ai jX rf 5000 [] jE (aA gf) (Env.of (aC jA (s, f, ()) 0) []) = j4 s f := by kernel_rfl
noncomputable abbrev tC : Fx := { fn := oH, ann := { } }
noncomputable abbrev u7 : aZ := { D := { T := aX, F := [], R := [], ovl := [] }, inl := [] }
noncomputable abbrev Fc : bh := .data tD
theorem Fn : XOk prog u7 := xok ((aF aK az)) (by kernel_rfl) aE aL aM
noncomputable def uo (n : den ag) (no : den (Ty.ref ae)) : af := af.ret (K.val (Ty.pair Ty.bool Ty.unit) (decide (Prod.fst (Prod.fst n) = no), PUnit.unit))
theorem zB (n : den ag) (no : den (Ty.ref ae)) : ai u7 Fc 5000 [] tC (aA oH) (Env.of (aC tT (n, no, ()) 0) []) = uo n no := by kernel_rfl
noncomputable abbrev sQ : Fx := { fn := oM, ann := { } }
noncomputable abbrev vl : aZ := { D := { T := aX, F := [], R := [], ovl := [] }, inl := [] }
noncomputable abbrev DX : bh := .data sS
theorem Ef : XOk prog vl := xok ((aF aK az)) (by kernel_rfl) aE aL aM
noncomputable def uv (n : den ag) (m : den (Ty.ref ab)) : af := af.ret (K.val (Ty.pair Ty.bool Ty.unit) (decide (Prod.fst (Prod.fst n) = Prod.fst m), PUnit.unit))
theorem zl (n : den ag) (m : den (Ty.ref ab)) : ai vl DX 5000 [] sQ (aA oM) (Env.of (aC sX (n, m, ()) 0) []) = uv n m := by kernel_rfl
noncomputable abbrev fD : Fx := { fn := fa, ann := { loops := [(3, { keep := [3, 7, 8, 9], own := [(3, ab)] })] } }
noncomputable abbrev lf : aZ := { D := { T := aX, F := [], R := [], ovl := [] }, inl := [] }
noncomputable abbrev vh : bh := .data nw
theorem oK : XOk prog lf := xok ((aF aK az)) (by kernel_rfl) aE aL aM
noncomputable def uq (o : den ah) : af := af.loop [] fD (lp fa 3) [(3, K.sl 0 ab), (7, K.val (Ty.slc ag) (Prod.fst o)), (8, K.val ae (lnx ag (Prod.fst o))), (9, K.val ae 0)] [(0, Bx.row ab [])]
theorem zn (o : den ah) : ai lf vh 5000 [] fD (aA fa) (Env.of (aC t8 (o, ()) 0) []) = uq o := by kernel_rfl
noncomputable def rG (v7 : den (Ty.slc ag)) (v8 : den ae) (v9 : den ae) (b0 : List (den ab)) : Env := Env.of [(3, K.sl 0 ab), (7, K.val (Ty.slc ag) v7), (8, K.val ae v8), (9, K.val ae v9)] [(0, Bx.row ab b0)]
noncomputable def y9 (v7 : den (Ty.slc ag)) (v8 : den ae) (v9 : den ae) (b0 : List (den ab)) : af := af.ite (decide (v9 < v8)) (af.req (inB v9 (lnx ag v7)) (af.req (List.length (b0 ++ List.set (List.replicate 1 (zero ab)) 0 (Prod.fst (el ag v7 v9))) ≤ bH) (af.loop [] fD (lp fa 3) [(3, K.sl 0 ab), (7, K.val (Ty.slc ag) v7), (8, K.val ae v8), (9, K.val ae (IntKind.wrap IntKind.i64 (v9 + 1)))] [(0, Bx.row ab (b0 ++ List.set (List.replicate 1 (zero ab)) 0 (Prod.fst (el ag v7 v9))))]))) (af.ret (K.val (Ty.pair (Ty.slc ab) Ty.unit) (b0, PUnit.unit)))
theorem nJ (v7 : den (Ty.slc ag)) (v8 : den ae) (v9 : den ae) (b0 : List (den ab)) : ai lf vh 5000 [] fD (lp fa 3) (rG v7 v8 v9 b0) = y9 v7 v8 v9 b0 := by kernel_rfl
noncomputable abbrev ig : Fx := { fn := gR, ann := { loops := [(2, { keep := [1, 4, 9, 10, 11] })] } }
noncomputable abbrev oa : aZ := { D := { T := aX, F := [], R := [], ovl := [] }, inl := [] }
noncomputable abbrev An : bh := .data ru
theorem sM : XOk prog oa := xok ((aF aK az)) (by kernel_rfl) aE aL aM
noncomputable def zD (o : den ah) (no : den ae) : af := af.loop [] ig (lp gR 2) [(1, K.val ae no), (4, K.ptr 0 ab []), (9, K.val (Ty.slc ag) (Prod.fst o)), (10, K.val ae (lnx ag (Prod.fst o))), (11, K.val ae 0)] [(0, Bx.cell ab (zero ab))]
theorem E7 (o : den ah) (no : den ae) : ai oa An 5000 [] ig (aA gR) (Env.of (aC yz (o, no, ()) 0) []) = zD o no := by kernel_rfl
noncomputable def xo (v1 : den ae) (v9 : den (Ty.slc ag)) (v10 : den ae) (v11 : den ae) (b0 : den ab) : Env := Env.of [(1, K.val ae v1), (4, K.ptr 0 ab []), (9, K.val (Ty.slc ag) v9), (10, K.val ae v10), (11, K.val ae v11)] [(0, Bx.cell ab b0)]
noncomputable def Fa (v1 : den ae) (v9 : den (Ty.slc ag)) (v10 : den ae) (v11 : den ae) (b0 : den ab) : af := af.ite (decide (v11 < v10)) (af.req (inB v11 (lnx ag v9)) (af.ite (decide (Prod.fst (Prod.fst (el ag v9 v11)) = v1)) (af.ret (K.val (Ty.pair ab (Ty.pair Ty.bool Ty.unit)) (Prod.fst (el ag v9 v11), true, PUnit.unit))) (af.loop [] ig (lp gR 2) [(1, K.val ae v1), (4, K.ptr 0 ab []), (9, K.val (Ty.slc ag) v9), (10, K.val ae v10), (11, K.val ae (IntKind.wrap IntKind.i64 (v11 + 1)))] [(0, Bx.cell ab b0)]))) (af.ret (K.val (Ty.pair ab (Ty.pair Ty.bool Ty.unit)) (zero (Ty.pair ae (Ty.pair tId Ty.unit)), false, PUnit.unit)))
theorem qC (v1 : den ae) (v9 : den (Ty.slc ag)) (v10 : den ae) (v11 : den ae) (b0 : den ab) : ai oa An 5000 [] ig (lp gR 2) (xo v1 v9 v10 v11 b0) = Fa v1 v9 v10 v11 b0 := by kernel_rfl
noncomputable abbrev xm : Fx := { fn := qK, ann := { } }
noncomputable abbrev yW : aZ := { D := { T := aX, F := [(bS, cB), (dp, dn)], R := [], ovl := [] }, inl := [] }
noncomputable abbrev H1 : bh := .data vu
theorem Ib (h_slices_Concat_Member : ak prog [] bS (cB)) (h_slices_Values_Member : ak prog [] dp dn) : XOk prog yW := xok (al (al (aF aK az) h_slices_Values_Member) h_slices_Concat_Member) (by kernel_rfl) aE aL aM
noncomputable def yK (n : den ag) : af := af.req (List.length (List.flatten (List.set (List.set (List.set (List.replicate 3 (zero (Ty.slc ab))) 0 (List.set (List.replicate 1 (zero ab)) 0 (Prod.fst (Prod.snd n)))) 1 (Prod.fst (Prod.snd (Prod.snd n)))) 2 (Prod.fst (Prod.snd (Prod.snd (Prod.snd n)))))) ≤ bH) (af.req True (af.ret (K.val (Ty.pair (Ty.clo bU (Ty.pair (Ty.ref (Ty.slc ab)) Ty.unit)) Ty.unit) ((List.flatten (List.set (List.set (List.set (List.replicate 3 (zero (Ty.slc ab))) 0 (List.set (List.replicate 1 (zero ab)) 0 (Prod.fst (Prod.snd n)))) 1 (Prod.fst (Prod.snd (Prod.snd n)))) 2 (Prod.fst (Prod.snd (Prod.snd (Prod.snd n))))), PUnit.unit), PUnit.unit))))
theorem C8 (n : den ag) : ai yW H1 5000 [] xm (aA qK) (Env.of (aC wZ (n, ()) 0) []) = yK n := by kernel_rfl
end Go.Proofs.Ytimdnodkabnbfaa
namespace Go.Proofs.Ytimdnodkabnbfaa
open Go Go.RowKit
abbrev GCl (O : Nat → Prop) (w0 : World) (y : Mem × Int) := bv prog gS (Cx.base O w0) (bR prog O w0 mH fun z => z = (y.1, y.2, ()))
theorem mD : XOk prog gS := DA wg og zL
def Np (O : Nat → Prop) (w0 : World) (id self : List Int) (l : List Mem) (z : Mem) (hm : l.length ≤ maxLen) :=
 PLift.up <| bl (σ := Mem × Int) l.length (fun i s => s = ((l.take i).filter (pl self id)).foldl (qu self) (zero ab, 6))
  (fun i s => GCl O w0 (fN id self l) (eP l (lnx ab l) (i : Nat) self (some fun y => (pl self id y.1, PUnit.unit)) z s.1 s.2) bZ (lp bT 1) (eN l (lnx ab l) (i : Nat) self (some fun y => (pl self id y.1, PUnit.unit)) z s.1 s.2))
  (fun i s hi hs ih => au mD (dR l _ _ self _ z s.1 s.2) (by
   have e : ((l.take (i + 1)).filter (pl self id)).foldl (qu self) (zero ab, 6) = ([l[i]].filter (pl self id)).foldl (qu self) s := by
    rw [List.take_succ_eq_append_getElem hi, List.filter_append, List.foldl_append, ← hs]
   refine ⟨fun _ => ⟨aU hi, ⟨_, rfl⟩, ?_⟩, fun hc => absurd hi (by rw [bO] at hc; exact of_decide_eq_false hc)⟩
   rw [bD hi, bK hi hm]
   refine ⟨fun hc => ⟨fun _ => trivial, fun _ => trivial, fun _ => trivial, fun h2 => ih (l[i], 0) ?_, fun h2 => ih s ?_⟩, fun hc => ih s ?_⟩
   ·have hc : pl self id l[i] = true := hc
    rw [e, List.filter_cons_of_pos hc]
    show _ = qu self s l[i]
    unfold qu
    have h2 : (bif !decide (s.2 = 0) then true else decide (dS (a7 self s.1.2.1) (a7 self l[i].2.1) < 0)) = true := h2
    rw [h2]; rfl
   ·have hc : pl self id l[i] = true := hc
    rw [e, List.filter_cons_of_pos hc]
    show _ = qu self s l[i]
    unfold qu
    have h2 : (bif !decide (s.2 = 0) then true else decide (dS (a7 self s.1.2.1) (a7 self l[i].2.1) < 0)) = false := h2
    rw [h2]; rfl
   ·have hc : pl self id l[i] = false := hc
    rw [e, List.filter_cons_of_neg (by rw [hc]; decide)]
    rfl))
  (fun s hs => au mD (dR l _ _ self _ z s.1 s.2) ⟨fun hc => absurd (of_decide_eq_true hc) (Int.lt_irrefl _), fun _ => ⟨_, rfl, by
   rw [List.take_length] at hs
   show (s.1, s.2, ()) = ((fN id self l).1, (fN id self l).2, ())
   rw [hs]; rfl⟩⟩)
theorem Dt : ak prog [] jG jH :=
 bq (S := jH) mD (fx := dO) BG (by kernel_rfl) (fun _ _ => trivial) (T := fun x => s4 x.1 x.2.1 x.2.2.1) (fun x => yZ x.1 x.2.1 x.2.2.1) fun O w0 x hk _ =>
  ⟨fun _ => trivial, (Np O w0 x.1 x.2.1 x.2.2.1 (zero ab) hk.2.2.1.1).down 0 (zero ab, 6) (Nat.zero_le _) rfl⟩
theorem RJ (z a b : List Mem) : List.flatten (List.set (List.set (List.replicate 2 z) 0 a) 1 b) = a ++ b := by
 simp [List.replicate]
theorem Qr (z a b c : List Mem) : List.flatten (List.set (List.set (List.set (List.replicate 3 z) 0 a) 1 b) 2 c) = a ++ b ++ c := by
 simp [List.replicate]
theorem LK : ak prog [] pW mM :=
  bq (S := mM) (Lv ol xL hK Dt) (fx := Bc) ID (by kernel_rfl) (fun _ _ => trivial) (T := fun x => CK x.1 x.2.1) (fun x => Ge x.1 x.2.1) fun O w0 x _ _ => by
    obtain ⟨n, id, ⟨⟩⟩ := x
    have leaf : ∀ {p : Mem × Bool × Int}, fb n id = p → ∃ z, bu tG (K.val (Ty.pair ab (Ty.pair Ty.bool (Ty.pair ae Ty.unit))) (p.1, p.2.1, p.2.2, PUnit.unit)) = some z ∧ z = mM.g (n, id, ()) := fun {p} e =>
      ⟨_, rfl, by show (p.1, p.2.1, p.2.2, ()) = ((fb n id).1, (fb n id).2.1, (fb n id).2.2, ()); rw [e]⟩
    refine ⟨trivial, bp ⟨fun h => leaf (p := (_, _, _)) ?_, fun h => ?_⟩⟩
    · unfold fb; rw [h]; rfl
    · have hr : aT n = true := by
        have h : (!aT n) = false := h
        simpa using h
      obtain ⟨l1, l2, l3⟩ := Jz hr
      have hfl := RJ (zero (Ty.slc ab)) n.2.2.2.1 n.2.2.1
      refine ⟨aU l2, trivial, bp ⟨fun h2 => leaf (p := (_, _, _)) ?_, fun h2 => ⟨?_, trivial, bp (bp ⟨fun h3 => ⟨aU l2, leaf (p := (_, _, _)) ?_⟩, fun h3 => leaf (p := (_, _, _)) ?_⟩)⟩⟩⟩
      · unfold fb; rw [h, h2]; rfl
      · rw [hfl, List.length_append]; exact Nat.le_trans (Nat.add_le_add l3 l1) (by decide)
      · rw [hfl] at h3
        unfold fb; rw [h, h2, h3]; rfl
      · rw [hfl] at h3 ⊢
        unfold fb; rw [h, h2, h3]; rfl
abbrev GIq (O : Nat → Prop) (w0 : World) (y : Int) := bv prog fm (Cx.base O w0) (bR prog O w0 gT fun z => z = (y, ()))
def HL (O : Nat → Prop) (w0 : World) (xs : List Nd) (f : den (.fn (.pair ag .unit) (.pair .bool .unit))) (hf : nr (.pair ag .unit) (.pair .bool .unit) f) (hm : xs.length ≤ maxLen) (y : Int) (hy : y = ixQ (prQ f) xs 0) :=
 PLift.up <| bl (σ := Unit) xs.length (fun i _ => ixQ (prQ f) (xs.drop i) (i : Nat) = y)
  (fun i _ => GIq O w0 y [] cM (lp cz 2) (kT xs f (lnx ag xs) (i : Nat)))
  (fun i _ hi hs ih => au g9 (iZ xs f _ _) (by
   rw [List.drop_eq_getElem_cons hi] at hs
   have hs : (bif prQ f xs[i] then ((i : Nat) : Int) else ixQ (prQ f) (xs.drop (i + 1)) (((i : Nat) : Int) + 1)) = y := hs
   refine ⟨fun _ => ⟨aU hi, hf, ?_⟩, fun hc => absurd hi (by rw [bO (e := ag)] at hc; exact of_decide_eq_false hc)⟩
   rw [bD (e := ag) hi, bK hi hm]
   refine ⟨fun hc => ⟨_, rfl, ?_⟩, fun hc => ih () ?_⟩
   ·have hc : prQ f xs[i] = true := hc
    rw [hc] at hs
    rw [← hs]
    rfl
   ·have hc : prQ f xs[i] = false := hc
    rw [hc] at hs
    exact hs))
  (fun _ hs => au g9 (iZ xs f _ _) (by
   refine ⟨fun hc => absurd (of_decide_eq_true hc) (Int.lt_irrefl _), fun _ => ⟨_, rfl, ?_⟩⟩
   rw [List.drop_length] at hs
   rw [← hs]
   rfl))
theorem my : ak prog [] cV cT :=
 bq (S := cT) g9 (fx := cM) td (by kernel_rfl) (fun h => by cases h) (T := fun x => mz x.1 x.2.1) (fun x => rc x.1 x.2.1) fun O w0 x hk hp =>
  (HL O w0 x.1 x.2.1 hp hk.1.1 _ rfl).down 0 () (Nat.zero_le _) rfl
theorem Md (p : Nd → Bool) : ∀ (l : List Nd) (i : Int), 0 ≤ i → decide (0 ≤ ixQ p l i) = l.any p
 | [], _, _ => rfl
 | x :: l, i, hi => by
  show decide (0 ≤ (bif p x then i else ixQ p l (i + 1))) = (p x || l.any p)
  cases p x with
  | true => exact decide_eq_true hi
  | false => exact Md p l (i + 1) (by omega)
theorem rm : ak prog [] d6 d9 :=
 bq (S := d9) (rA my) (fx := jE) qn (by kernel_rfl) (fun h => by cases h) (T := fun x => j4 x.1 x.2.1) (fun x => oQ x.1 x.2.1) fun O w0 x _ hp =>
  ⟨hp, _, rfl, by show (decide (0 ≤ ixQ (prQ x.2.1) x.1 0), ()) = (List.any x.1 (prQ x.2.1), ()); rw [Md _ _ 0 (Int.le_refl _)]⟩
theorem ER : ak prog [] kW kQ :=
 bq (S := kQ) Fn (fx := tC) DE (by kernel_rfl) (fun _ _ => trivial) (T := fun x => uo x.1 x.2.1) (fun x => zB x.1 x.2.1) fun O w0 x _ _ => ⟨_, rfl, rfl⟩
theorem E2 : ak prog [] lc kS :=
 bq (S := kS) Ef (fx := sQ) CZ (by kernel_rfl) (fun _ _ => trivial) (T := fun x => uv x.1 x.2.1) (fun x => zl x.1 x.2.1) fun O w0 x _ _ => ⟨_, rfl, rfl⟩
abbrev GMb (O : Nat → Prop) (w0 : World) (y : List Mem) := bv prog lf (Cx.base O w0) (bR prog O w0 nw fun z => z = (y, ()))
def MG (O : Nat → Prop) (w0 : World) (l : List Nd) (hm : l.length ≤ 1000000) :=
 PLift.up <| bl (σ := List Mem) l.length (fun i b => b = (l.take i).map sfN)
  (fun i b => GMb O w0 (aj l) [] fD (lp fa 3) (rG l (lnx ag l) (i : Nat) b))
  (fun i b hi hs ih => au oK (nJ l _ _ b) (by
   refine ⟨fun _ => ⟨aU hi, ?_, ?_⟩, fun hc => absurd hi (by rw [bO (e := ag)] at hc; exact of_decide_eq_false hc)⟩
   ·rw [List.length_append, hs, List.length_map, List.length_take]
    exact Nat.le_trans (show min i l.length + 1 ≤ 1000001 by omega) (by decide)
   ·rw [bD (e := ag) hi, bK hi (Nat.le_trans hm (by decide))]
    refine ih _ ?_
    rw [List.take_succ_eq_append_getElem hi, List.map_append, hs]; rfl))
  (fun b hs => au oK (nJ l _ _ b) ⟨fun hc => absurd (of_decide_eq_true hc) (Int.lt_irrefl _), fun _ => ⟨_, rfl, by
   rw [List.take_length] at hs
   rw [hs]; rfl⟩⟩)
theorem vj : ak prog [] f5 f7 :=
 bq (S := f7) oK (fx := fD) Du (by kernel_rfl) (fun h => by cases h) (T := fun x => uq x.1) (fun x => zn x.1) fun O w0 x _ hp =>
  (MG O w0 x.1.1 hp).down 0 [] (Nat.zero_le _) rfl
theorem MY (n : Nd) (l : List Nd) (no : Int) : eH (n :: l) no = bif decide (n.1.1 = no) then (n.1, true) else eH l no := by
 unfold eH
 rw [List.find?_cons]
 cases decide (n.1.1 = no) <;> rfl
abbrev GSf (O : Nat → Prop) (w0 : World) (y : Mem × Bool) := bv prog oa (Cx.base O w0) (bR prog O w0 ru fun z => z = (y.1, y.2, ()))
def QY (O : Nat → Prop) (w0 : World) (l : List Nd) (no : Int) (z : Mem) (hm : l.length ≤ maxLen) :=
 PLift.up <| bl (σ := Unit) l.length (fun i _ => eH (l.drop i) no = eH l no)
  (fun i _ => GSf O w0 (eH l no) [] ig (lp gR 2) (xo no l (lnx ag l) (i : Nat) z))
  (fun i _ hi hs ih => au sM (qC no l _ _ z) (by
   rw [List.drop_eq_getElem_cons hi, MY] at hs
   refine ⟨fun _ => ⟨aU hi, ?_⟩, fun hc => absurd hi (by rw [bO (e := ag)] at hc; exact of_decide_eq_false hc)⟩
   rw [bD (e := ag) hi, bK hi hm]
   refine ⟨fun hc => ⟨_, rfl, ?_⟩, fun hc => ih () ?_⟩
   ·have hc : decide (l[i].1.1 = no) = true := hc
    rw [hc] at hs
    show (_, _, _) = ((eH l no).1, (eH l no).2, ())
    rw [← hs]; rfl
   ·have hc : decide (l[i].1.1 = no) = false := hc
    rw [hc] at hs
    exact hs))
  (fun _ hs => au sM (qC no l _ _ z) ⟨fun hc => absurd (of_decide_eq_true hc) (Int.lt_irrefl _), fun _ => ⟨_, rfl, by
   rw [List.drop_length] at hs
   show (_, _, _) = ((eH l no).1, (eH l no).2, ())
   rw [← hs]; rfl⟩⟩)
theorem JM : ak prog [] od n1 :=
 bq (S := n1) sM (fx := ig) H2 (by kernel_rfl) (fun _ _ => trivial) (T := fun x => zD x.1 x.2.1) (fun x => E7 x.1 x.2.1) fun O w0 x hk _ =>
  (QY O w0 x.1.1 x.2.1 _ hk.1.1.1).down 0 () (Nat.zero_le _) rfl
theorem HH : ak prog [] nf ni :=
 bq (S := ni) (Ib hK mP) (fx := xm) FK (by kernel_rfl) (fun h => by cases h) (T := fun x => yK x.1) (fun x => C8 x.1) fun O w0 x _ hp => by
  obtain ⟨n, ⟨⟩⟩ := x
  have hp : (bM n).length ≤ 1000000 := hp
  have hf : List.flatten (List.set (List.set (List.set (List.replicate 3 (zero (Ty.slc ab))) 0 (List.set (List.replicate 1 (zero ab)) 0 n.2.1)) 1 n.2.2.1) 2 n.2.2.2.1) = bM n := Qr _ _ _ _
  refine ⟨by rw [hf]; exact Nat.le_trans hp (by decide), trivial, _, rfl, ?_⟩
  rw [hf]
end Go.Proofs.Ytimdnodkabnbfaa
namespace Go.Proofs.Ytimdnodkabnbfaa
open Go Go.RowKit
noncomputable abbrev cO : Fx := { fn := bj, ann := { loops := [(1, { keep := [0, 5, 6, 7] })], frz := [(1000001, [1, 2, 3, 12, 13, 14])], gy := true }, share := true }
noncomputable abbrev dq : Fx := { fn := bA, ann := { loops := [(3, { keep := [1, 2, 3, 12, 13, 14, 42] })] }, share := true }
noncomputable abbrev io : aZ := { D := { T := aX, F := [(f5, f7), (dW, dY), (nf, ni), (od, n1), (fT, fQ)], R := [], ovl := [] }, inl := [(bU, cO)] }
noncomputable abbrev rB : bh := .data pg
theorem HW (h_chord_Members : ak prog [] f5 f7) (h_node_Right : ak prog [] dW dY) (h_chord_known : ak prog [] nf ni) (h_chord_self : ak prog [] od n1) (h_ring_Right : ak prog [] fT fQ) : XOk prog io := xok (al (al (al (al (al (aF aK az) h_ring_Right) h_chord_self) h_chord_known) h_node_Right) h_chord_Members) (by kernel_rfl) aE (jb lg (by kernel_rfl) aL) aM
noncomputable def yV (o : den ah) : af := af.req (List.length (Prod.fst o) ≤ 1000000) (af.all (den (Ty.slc ab)) (fun (q1 : den (Ty.slc ab)) ↦ q1 = aj (Prod.fst o)) fun (q1 : den (Ty.slc ab)) ↦ af.loop [] dq (lp bA 3) [(1, K.ptr 0 ah []), (2, K.ptr (0 + 1) Ty.bool []), (3, K.val (Ty.slc ab) q1), (12, K.val (Ty.slc ag) (Prod.fst o)), (13, K.val ae (lnx ag (Prod.fst o))), (14, K.val ae 0)] [(0, Bx.cell ah o), (0 + 1, Bx.cell Ty.bool (zero Ty.bool))])
theorem C0 (o : den ah) : ai io rB 5000 [] dq (aA bA) (Env.of (aC wH (o, ()) 0) []) = yV o := by kernel_rfl
noncomputable def oN (v3 : den (Ty.slc ab)) (v12 : den (Ty.slc ag)) (v13 : den ae) (v14 : den ae) (b0 : den ah) (b1 : den Ty.bool) : Env := Env.of [(1, K.ptr 0 ah []), (2, K.ptr (0 + 1) Ty.bool []), (3, K.val (Ty.slc ab) v3), (12, K.val (Ty.slc ag) v12), (13, K.val ae v13), (14, K.val ae v14)] [(0, Bx.cell ah b0), (1, Bx.cell Ty.bool b1)]
noncomputable def CS (v3 : den (Ty.slc ab)) (v12 : den (Ty.slc ag)) (v13 : den ae) (v14 : den ae) (b0 : den ah) (b1 : den Ty.bool) : af := af.ite (decide (v14 < v13)) (af.req (inB v14 (lnx ag v12)) (af.req True (af.req (da [(!aT (el ag v12 v14), false), (decide (0 < v14), true)] (inB (IntKind.wrap IntKind.i64 (v14 - 1)) (lnx ag (Prod.fst b0)))) (af.all (den Ty.bool) (fun (q6 : den Ty.bool) ↦ q6 = aT (el ag v12 v14)) fun (q6 : den Ty.bool) ↦ af.ite (bif !aT (el ag v12 v14) then true else bif decide (0 < v14) then decide (Prod.fst (Prod.fst (el ag v12 v14)) ≤ Prod.fst (Prod.fst (el ag (Prod.fst b0) (IntKind.wrap IntKind.i64 (v14 - 1))))) else false) (af.ret (K.val (Ty.pair Ty.bool Ty.unit) (false, PUnit.unit))) (af.req (List.length (bM (el ag v12 v14)) ≤ 1000000) (af.loop [{ fx := dq, todo := cx bA 9, dst := none, s := ofS [(1, K.ptr (0 + 1) ah []), (2, K.ptr (0 + 1 + 1) Ty.bool []), (3, K.val (Ty.slc ab) v3), (12, K.val (Ty.slc ag) v12), (13, K.val ae v13), (14, K.val ae v14)], rng := some 0 }] cO (lp bj 1) [(0, K.yld 0), (5, K.val (Ty.slc ab) (bM (el ag v12 v14))), (6, K.val ae (lnx ab (bM (el ag v12 v14)))), (7, K.val ae 0)] [(0, Bx.lop LoopState.ready none [(1, K.ptr (0 + 1) ah []), (2, K.ptr (0 + 1 + 1) Ty.bool [])] 59 (kP bA 9) (du bA 9) (ft bA 9)), (0 + 1, Bx.cell ah b0), (0 + 1 + 1, Bx.cell Ty.bool b1)])))))) (af.req True (af.all (den Ty.bool) (fun (q6 : den Ty.bool) ↦ q6 = bf v3) fun (q6 : den Ty.bool) ↦ af.ret (K.val (Ty.pair Ty.bool Ty.unit) (q6, PUnit.unit))))
theorem o6 (v3 : den (Ty.slc ab)) (v12 : den (Ty.slc ag)) (v13 : den ae) (v14 : den ae) (b0 : den ah) (b1 : den Ty.bool) : ai io rB 5000 [] dq (lp bA 3) (oN v3 v12 v13 v14 b0 b1) = CS v3 v12 v13 v14 b0 b1 := by kernel_rfl
noncomputable def fy (w0_3 : den (Ty.slc ab)) (w0_12 : den (Ty.slc ag)) (w0_13 : den ae) (w0_14 : den ae) (v5 : den (Ty.slc ab)) (v6 : den ae) (v7 : den ae) (b1 : den ah) (b2 : den Ty.bool) : List bY := [{ fx := dq, todo := cx bA 9, dst := none, s := ofS [(1, K.ptr (0 + 1) ah []), (2, K.ptr (0 + 1 + 1) Ty.bool []), (3, K.val (Ty.slc ab) w0_3), (12, K.val (Ty.slc ag) w0_12), (13, K.val ae w0_13), (14, K.val ae w0_14)], rng := some 0 }]
noncomputable def fw (w0_3 : den (Ty.slc ab)) (w0_12 : den (Ty.slc ag)) (w0_13 : den ae) (w0_14 : den ae) (v5 : den (Ty.slc ab)) (v6 : den ae) (v7 : den ae) (b1 : den ah) (b2 : den Ty.bool) : Env := Env.of [(0, K.yld 0), (5, K.val (Ty.slc ab) v5), (6, K.val ae v6), (7, K.val ae v7)] [(0, Bx.lop LoopState.ready none [(1, K.ptr (0 + 1) ah []), (2, K.ptr (0 + 1 + 1) Ty.bool [])] 59 (kP bA 9) (du bA 9) (ft bA 9)), (1, Bx.cell ah b1), (2, Bx.cell Ty.bool b2)]
noncomputable def ke (w0_3 : den (Ty.slc ab)) (w0_12 : den (Ty.slc ag)) (w0_13 : den ae) (w0_14 : den ae) (v5 : den (Ty.slc ab)) (v6 : den ae) (v7 : den ae) (b1 : den ah) (b2 : den Ty.bool) : af := af.ite (decide (v7 < v6)) (af.req (inB v7 (lnx ab v5)) (af.req True (af.all (den (Ty.pair ab (Ty.pair Ty.bool Ty.unit))) (fun (q9 : den (Ty.pair ab (Ty.pair Ty.bool Ty.unit))) ↦ q9 = (Prod.fst (eH (Prod.fst b1) (Prod.fst (el ab v5 v7))), Prod.snd (eH (Prod.fst b1) (Prod.fst (el ab v5 v7))), PUnit.unit)) fun (q9 : den (Ty.pair ab (Ty.pair Ty.bool Ty.unit))) ↦ af.ite (bif Prod.fst (Prod.snd q9) then !eqb ab (Prod.fst q9) (el ab v5 v7) else false) (af.ret (K.val (Ty.pair Ty.bool Ty.unit) (false, PUnit.unit))) (af.loop [{ fx := dq, todo := cx bA 9, dst := none, s := ofS [(1, K.ptr (0 + 1) ah []), (2, K.ptr (0 + 1 + 1) Ty.bool []), (3, K.val (Ty.slc ab) w0_3), (12, K.val (Ty.slc ag) w0_12), (13, K.val ae w0_13), (14, K.val ae w0_14)], rng := some 0 }] cO (lp bj 1) [(0, K.yld 0), (5, K.val (Ty.slc ab) v5), (6, K.val ae v6), (7, K.val ae (IntKind.wrap IntKind.i64 (v7 + 1)))] [(0, Bx.lop LoopState.ready none [(1, K.ptr (0 + 1) ah []), (2, K.ptr (0 + 1 + 1) Ty.bool [])] 59 (kP bA 9) (du bA 9) (ft bA 9)), (0 + 1, Bx.cell ah b1), (0 + 1 + 1, Bx.cell Ty.bool b2)])))) (af.loop [] dq (lp bA 3) [(1, K.ptr 0 ah []), (2, K.ptr (0 + 1) Ty.bool []), (3, K.val (Ty.slc ab) w0_3), (12, K.val (Ty.slc ag) w0_12), (13, K.val ae w0_13), (14, K.val ae (IntKind.wrap IntKind.i64 (w0_14 + 1)))] [(0, Bx.cell ah b1), (0 + 1, Bx.cell Ty.bool b2)])
theorem eD (w0_3 : den (Ty.slc ab)) (w0_12 : den (Ty.slc ag)) (w0_13 : den ae) (w0_14 : den ae) (v5 : den (Ty.slc ab)) (v6 : den ae) (v7 : den ae) (b1 : den ah) (b2 : den Ty.bool) : ai io rB 5000 (fy w0_3 w0_12 w0_13 w0_14 v5 v6 v7 b1 b2) cO (lp bj 1) (fw w0_3 w0_12 w0_13 w0_14 v5 v6 v7 b1 b2) = ke w0_3 w0_12 w0_13 w0_14 v5 v6 v7 b1 b2 := by kernel_rfl
noncomputable abbrev fA : Fx := { fn := fd, ann := { loops := [(7, { keep := [3, 5, 6, 9, 10, 36, 37, 38], own := [(10, ae)] })], frz := [(1, [4]), (9, [12]), (12, [10])] }, share := true }
noncomputable abbrev jZ : aZ := { D := { T := aX, F := [(cV, cT), (kW, kQ), (lc, kS), (d6, d9), (bS, cB), (pT, pL), (pS, qg), (pW, mM)], R := [], ovl := [] }, inl := [] }
noncomputable abbrev yr : bh := .data mh
theorem Ia (h_slices_IndexFunc_Node : ak prog [] cV cT) (h_lookup_asks_1 : ak prog [] kW kQ) (h_lookup_asks_2 : ak prog [] lc kS) (h_slices_ContainsFunc_Node : ak prog [] d6 d9) (h_slices_Concat_Member : ak prog [] bS (cB)) (h_node_Drop : ak prog [] pT pL) (h_node_Owns : ak prog [] pS qg) (h_node_Next : ak prog [] pW mM) : XOk prog jZ := xok (al (al (al (al (al (al (al (al (aF aK az) h_node_Next) h_node_Owns) h_node_Drop) h_slices_Concat_Member) h_slices_ContainsFunc_Node) h_lookup_asks_2) h_lookup_asks_1) h_slices_IndexFunc_Node) (by kernel_rfl) aE aL aM
noncomputable def yU (o : den ah) (no : den ae) (id : den tId) : af := af.req (∀ (y : den (Ty.pair ag Ty.unit)), True) (af.req (∃ (h : den (Ty.pair ag Ty.unit) → den (Ty.pair Ty.bool Ty.unit)), (some fun (y : den (Ty.pair ag Ty.unit)) ↦ (decide (Prod.fst (Prod.fst (Prod.fst y)) = no), PUnit.unit)) = some h) (af.all (den ae) (fun (q3 : den ae) ↦ q3 = ixQ (prQ (some fun (y : den (Ty.pair ag Ty.unit)) ↦ (decide (Prod.fst (Prod.fst (Prod.fst y)) = no), PUnit.unit))) (Prod.fst o) 0) fun (q3 : den ae) ↦ af.ite (decide (q3 < 0)) (af.ret (K.val (Ty.pair ay (Ty.pair Ty.bool Ty.unit)) (zero (Ty.pair ab (Ty.pair Ty.bool Ty.unit)), false, PUnit.unit))) (af.req (inB q3 (lnx ag (Prod.fst o))) (af.req (List.length (List.flatten (List.set (List.set (List.set (List.replicate 3 (zero (Ty.slc ab))) 0 (List.set (List.replicate 1 (zero ab)) 0 (Prod.fst (Prod.snd (el ag (Prod.fst o) q3))))) 1 (Prod.fst (Prod.snd (Prod.snd (el ag (Prod.fst o) q3))))) 2 (Prod.fst (Prod.snd (Prod.snd (Prod.snd (el ag (Prod.fst o) q3))))))) ≤ bH) (af.all (den (Ty.slc ab)) (fun (q4 : den (Ty.slc ab)) ↦ q4 = List.flatten (List.set (List.set (List.set (List.replicate 3 (zero (Ty.slc ab))) 0 (List.set (List.replicate 1 (zero ab)) 0 (Prod.fst (Prod.snd (el ag (Prod.fst o) q3))))) 1 (Prod.fst (Prod.snd (Prod.snd (el ag (Prod.fst o) q3))))) 2 (Prod.fst (Prod.snd (Prod.snd (Prod.snd (el ag (Prod.fst o) q3))))))) fun (q4 : den (Ty.slc ab)) ↦ af.loop [] fA (lp fd 7) [(3, K.ptr 0 ah []), (5, K.ptr (0 + 1) tId []), (6, K.ptr (0 + 1 + 1) ay []), (9, K.ptr (0 + 1 + 1 + 1) ag []), (10, K.sl (0 + 1 + 1 + 1 + 1) ae), (36, K.val (Ty.slc ab) q4), (37, K.val ae (lnx ab q4)), (38, K.val ae 0)] [(0, Bx.cell ah o), (0 + 1, Bx.cell tId id), (0 + 1 + 1, Bx.cell ay (zero ay)), (0 + 1 + 1 + 1, Bx.cell ag (el ag (Prod.fst o) q3)), (0 + 1 + 1 + 1 + 1, Bx.row ae [])])))))
theorem CW (o : den ah) (no : den ae) (id : den tId) : ai jZ yr 5000 [] fA (aA fd) (Env.of (aC wx (o, no, id, ()) 0) []) = yU o no id := by kernel_rfl
noncomputable def uB (v36 : den (Ty.slc ab)) (v37 : den ae) (v38 : den ae) (b0 : den ah) (b1 : den tId) (b2 : den ay) (b3 : den ag) (b4 : List (den ae)) : Env := Env.of [(3, K.ptr 0 ah []), (5, K.ptr (0 + 1) tId []), (6, K.ptr (0 + 1 + 1) ay []), (9, K.ptr (0 + 1 + 1 + 1) ag []), (10, K.sl (0 + 1 + 1 + 1 + 1) ae), (36, K.val (Ty.slc ab) v36), (37, K.val ae v37), (38, K.val ae v38)] [(0, Bx.cell ah b0), (1, Bx.cell tId b1), (2, Bx.cell ay b2), (3, Bx.cell ag b3), (4, Bx.row ae b4)]
noncomputable def C5 (v36 : den (Ty.slc ab)) (v37 : den ae) (v38 : den ae) (b0 : den ah) (b1 : den tId) (b2 : den ay) (b3 : den ag) (b4 : List (den ae)) : af := af.ite (decide (v38 < v37)) (af.req (inB v38 (lnx ab v36)) (af.req (∀ (y : den (Ty.pair ag Ty.unit)), True) (af.req (∃ (h : den (Ty.pair ag Ty.unit) → den (Ty.pair Ty.bool Ty.unit)), (some fun (y : den (Ty.pair ag Ty.unit)) ↦ (decide (Prod.fst (Prod.fst (Prod.fst y)) = Prod.fst (el ab v36 v38)), PUnit.unit)) = some h) (af.all (den Ty.bool) (fun (q8 : den Ty.bool) ↦ q8 = List.any (Prod.fst b0) (prQ (some fun (y : den (Ty.pair ag Ty.unit)) ↦ (decide (Prod.fst (Prod.fst (Prod.fst y)) = Prod.fst (el ab v36 v38)), PUnit.unit)))) fun (q8 : den Ty.bool) ↦ af.ite (!q8) (af.req (List.length (b4 ++ List.set (List.replicate 1 (zero ae)) 0 (Prod.fst (el ab v36 v38))) ≤ bH) (af.loop [] fA (lp fd 7) [(3, K.ptr 0 ah []), (5, K.ptr (0 + 1) tId []), (6, K.ptr (0 + 1 + 1) ay []), (9, K.ptr (0 + 1 + 1 + 1) ag []), (10, K.sl (0 + 1 + 1 + 1 + 1) ae), (36, K.val (Ty.slc ab) v36), (37, K.val ae v37), (38, K.val ae (IntKind.wrap IntKind.i64 (v38 + 1)))] [(0, Bx.cell ah b0), (0 + 1, Bx.cell tId b1), (0 + 1 + 1, Bx.cell ay b2), (0 + 1 + 1 + 1, Bx.cell ag b3), (0 + 1 + 1 + 1 + 1, Bx.row ae (b4 ++ List.set (List.replicate 1 (zero ae)) 0 (Prod.fst (el ab v36 v38))))])) (af.loop [] fA (lp fd 7) [(3, K.ptr 0 ah []), (5, K.ptr (0 + 1) tId []), (6, K.ptr (0 + 1 + 1) ay []), (9, K.ptr (0 + 1 + 1 + 1) ag []), (10, K.sl (0 + 1 + 1 + 1 + 1) ae), (36, K.val (Ty.slc ab) v36), (37, K.val ae v37), (38, K.val ae (IntKind.wrap IntKind.i64 (v38 + 1)))] [(0, Bx.cell ah b0), (0 + 1, Bx.cell tId b1), (0 + 1 + 1, Bx.cell ay b2), (0 + 1 + 1 + 1, Bx.cell ag b3), (0 + 1 + 1 + 1 + 1, Bx.row ae b4)]))))) (af.req True (af.all (den (Ty.pair ag (Ty.pair ae Ty.unit))) (fun (q8 : den (Ty.pair ag (Ty.pair ae Ty.unit))) ↦ q8 = (Prod.fst (ib b3 b4), Prod.snd (ib b3 b4), PUnit.unit)) fun (q8 : den (Ty.pair ag (Ty.pair ae Ty.unit))) ↦ af.req True (af.all (den Ty.bool) (fun (q9 : den Ty.bool) ↦ q9 = wE (Prod.fst q8) b1) fun (q9 : den Ty.bool) ↦ af.ite q9 (af.ret (K.val (Ty.pair ay (Ty.pair Ty.bool Ty.unit)) ((Prod.fst (Prod.fst q8), true, zero Ty.unit), true, PUnit.unit))) (af.req True (af.all (den (Ty.pair ab (Ty.pair Ty.bool (Ty.pair ae Ty.unit)))) (fun (q10 : den (Ty.pair ab (Ty.pair Ty.bool (Ty.pair ae Ty.unit)))) ↦ q10 = (Prod.fst (fb (Prod.fst q8) b1), Prod.fst (Prod.snd (fb (Prod.fst q8) b1)), Prod.snd (Prod.snd (fb (Prod.fst q8) b1)), PUnit.unit)) fun (q10 : den (Ty.pair ab (Ty.pair Ty.bool (Ty.pair ae Ty.unit)))) ↦ af.ret (K.val (Ty.pair ay (Ty.pair Ty.bool Ty.unit)) ((Prod.fst q10, Prod.fst (Prod.snd q10), zero Ty.unit), true, PUnit.unit)))))))
theorem o3 (v36 : den (Ty.slc ab)) (v37 : den ae) (v38 : den ae) (b0 : den ah) (b1 : den tId) (b2 : den ay) (b3 : den ag) (b4 : List (den ae)) : ai jZ yr 5000 [] fA (lp fd 7) (uB v36 v37 v38 b0 b1 b2 b3 b4) = C5 v36 v37 v38 b0 b1 b2 b3 b4 := by kernel_rfl
noncomputable abbrev Ep : Fx := { fn := wI, ann := { }, share := true }
noncomputable abbrev dt : Fx := { fn := cX, ann := { loops := [(1, { keep := [0, 2, 3, 5] })], frz := [(1000001, [4, 6, 7, 8, 9, 10, 11])], gy := true }, share := true }
noncomputable abbrev fE : Fx := { fn := bn, ann := { }, own := [8, 11], share := true }
noncomputable abbrev ia : aZ := { D := { T := aX, F := [(im, ij), (m6, np)], R := [], ovl := [] }, inl := [(w6, Ep), (tj, dt)] }
noncomputable abbrev qW : bh := .data eC
theorem HR (h_chord_Right : ak prog [] im ij) (h_lookup_asks : ak prog [] m6 np) : XOk prog ia := xok (al (al (aF aK az) h_lookup_asks) h_chord_Right) (by kernel_rfl) aE (jb Fr (by kernel_rfl) (jb BL (by kernel_rfl) aL)) aM
noncomputable def yw (o : den ah) (no : den ae) (id : den tId) (hops : den ae) : af := af.req (List.length (Prod.fst o) ≤ 1000000) (af.all (den Ty.bool) (fun (q4 : den Ty.bool) ↦ q4 = be (Prod.fst o)) fun (q4 : den Ty.bool) ↦ af.ite (bif bif !q4 then true else decide (hops < 0) then true else decide (16 < hops)) (af.ret (K.val (Ty.pair (Ty.slc ae) (Ty.pair ab (Ty.pair ae Ty.unit))) ([], zero (Ty.pair ae (Ty.pair tId Ty.unit)), 1, PUnit.unit))) (af.loop [{ fx := fE, todo := cx bn 7, dst := none, s := ofS [(4, K.ptr (0 + 1 + 1 + 1) ah []), (6, K.ptr (0 + 1 + 1 + 1 + 1) tId []), (7, K.ptr (0 + 1 + 1 + 1 + 1 + 1) ae []), (8, K.ptr (0 + 1 + 1 + 1 + 1 + 1 + 1) (Ty.slc ae) []), (9, K.ptr (0 + 1 + 1 + 1 + 1 + 1 + 1 + 1) ab []), (10, K.ptr (0 + 1 + 1 + 1 + 1 + 1 + 1 + 1 + 1) ae []), (11, K.ptr (0 + 1 + 1 + 1 + 1 + 1 + 1 + 1 + 1 + 1) (Ty.slc ae) [])], rng := some 0 }] dt (lp cX 1) [(0, K.yld 0), (2, K.ptr (0 + 1) ah []), (3, K.ptr (0 + 1 + 1) tId []), (5, K.val ae no)] [(0, Bx.lop LoopState.ready none [(7, K.ptr (0 + 1 + 1 + 1 + 1 + 1) ae []), (11, K.ptr (0 + 1 + 1 + 1 + 1 + 1 + 1 + 1 + 1 + 1) (Ty.slc ae) []), (8, K.ptr (0 + 1 + 1 + 1 + 1 + 1 + 1) (Ty.slc ae) []), (9, K.ptr (0 + 1 + 1 + 1 + 1 + 1 + 1 + 1) ab []), (10, K.ptr (0 + 1 + 1 + 1 + 1 + 1 + 1 + 1 + 1) ae [])] 73 (kP bn 7) (du bn 7) (ft bn 7)), (0 + 1, Bx.cell ah o), (0 + 1 + 1, Bx.cell tId id), (0 + 1 + 1 + 1, Bx.cell ah o), (0 + 1 + 1 + 1 + 1, Bx.cell tId id), (0 + 1 + 1 + 1 + 1 + 1, Bx.cell ae hops), (0 + 1 + 1 + 1 + 1 + 1 + 1, Bx.obj (Ty.slc ae) K.nilsl), (0 + 1 + 1 + 1 + 1 + 1 + 1 + 1, Bx.cell ab (zero ab)), (0 + 1 + 1 + 1 + 1 + 1 + 1 + 1 + 1, Bx.cell ae (zero ae)), (0 + 1 + 1 + 1 + 1 + 1 + 1 + 1 + 1 + 1, Bx.obj (Ty.slc ae) K.nilsl)]))
theorem Dp (o : den ah) (no : den ae) (id : den tId) (hops : den ae) : ai ia qW 5000 [] fE (aA bn) (Env.of (aC wM (o, no, id, hops, ()) 0) []) = yw o no id hops := by kernel_rfl
noncomputable def iA (v5 : den ae) (b1 : den ah) (b2 : den tId) (b3 : den ah) (b4 : den tId) (b5 : den ae) (b7 : den ab) (b8 : den ae) : List bY := [{ fx := fE, todo := cx bn 7, dst := none, s := ofS [(4, K.ptr (0 + 1 + 1 + 1) ah []), (6, K.ptr (0 + 1 + 1 + 1 + 1) tId []), (7, K.ptr (0 + 1 + 1 + 1 + 1 + 1) ae []), (8, K.ptr (0 + 1 + 1 + 1 + 1 + 1 + 1) (Ty.slc ae) []), (9, K.ptr (0 + 1 + 1 + 1 + 1 + 1 + 1 + 1) ab []), (10, K.ptr (0 + 1 + 1 + 1 + 1 + 1 + 1 + 1 + 1) ae []), (11, K.ptr (0 + 1 + 1 + 1 + 1 + 1 + 1 + 1 + 1 + 1) (Ty.slc ae) [])], rng := some 0 }]
noncomputable def iF (v5 : den ae) (b1 : den ah) (b2 : den tId) (b3 : den ah) (b4 : den tId) (b5 : den ae) (b7 : den ab) (b8 : den ae) : Env := Env.of [(0, K.yld 0), (2, K.ptr (0 + 1) ah []), (3, K.ptr (0 + 1 + 1) tId []), (5, K.val ae v5)] [(0, Bx.lop LoopState.ready none [(7, K.ptr (0 + 1 + 1 + 1 + 1 + 1) ae []), (11, K.ptr (0 + 1 + 1 + 1 + 1 + 1 + 1 + 1 + 1 + 1) (Ty.slc ae) []), (8, K.ptr (0 + 1 + 1 + 1 + 1 + 1 + 1) (Ty.slc ae) []), (9, K.ptr (0 + 1 + 1 + 1 + 1 + 1 + 1 + 1) ab []), (10, K.ptr (0 + 1 + 1 + 1 + 1 + 1 + 1 + 1 + 1) ae [])] 73 (kP bn 7) (du bn 7) (ft bn 7)), (1, Bx.cell ah b1), (2, Bx.cell tId b2), (3, Bx.cell ah b3), (4, Bx.cell tId b4), (5, Bx.cell ae b5), (6, Bx.obj (Ty.slc ae) K.nilsl), (7, Bx.cell ab b7), (8, Bx.cell ae b8), (9, Bx.obj (Ty.slc ae) K.nilsl)]
noncomputable def nX (v5 : den ae) (b1 : den ah) (b2 : den tId) (b3 : den ah) (b4 : den tId) (b5 : den ae) (b7 : den ab) (b8 : den ae) : af := af.req (be (Prod.fst b1) = true) (af.all (den (Ty.pair ay (Ty.pair Ty.bool Ty.unit))) (fun (q8 : den (Ty.pair ay (Ty.pair Ty.bool Ty.unit))) ↦ q8 = (Prod.fst (aP (Prod.fst b1) v5 b2), Prod.snd (aP (Prod.fst b1) v5 b2), PUnit.unit)) fun (q8 : den (Ty.pair ay (Ty.pair Ty.bool Ty.unit))) ↦ af.ite (!Prod.fst (Prod.snd q8)) (af.ret (K.val (Ty.pair (Ty.slc ae) (Ty.pair ab (Ty.pair ae Ty.unit))) ([], zero (Ty.pair ae (Ty.pair tId Ty.unit)), 10, PUnit.unit))) (af.ite (decide (b5 < 0)) (af.ret (K.val (Ty.pair (Ty.slc ae) (Ty.pair ab (Ty.pair ae Ty.unit))) ([], zero (Ty.pair ae (Ty.pair tId Ty.unit)), 9, PUnit.unit))) (af.req (List.length (List.set (List.replicate 1 (zero ae)) 0 v5) ≤ bH) (af.ite (bif Prod.fst (Prod.snd (Prod.fst q8)) then decide (Prod.fst (Prod.fst (Prod.fst q8)) = v5) else false) (af.ret (K.val (Ty.pair (Ty.slc ae) (Ty.pair ab (Ty.pair ae Ty.unit))) (List.set (List.replicate 1 (zero ae)) 0 v5, Prod.fst (Prod.fst q8), 0, PUnit.unit))) (af.ite (Prod.fst (Prod.snd (Prod.fst q8))) (af.req (List.length (List.set (List.replicate 1 (zero ae)) 0 v5 ++ List.set (List.replicate 1 (zero ae)) 0 (Prod.fst (Prod.fst (Prod.fst q8)))) ≤ bH) (af.ret (K.val (Ty.pair (Ty.slc ae) (Ty.pair ab (Ty.pair ae Ty.unit))) (List.set (List.replicate 1 (zero ae)) 0 v5 ++ List.set (List.replicate 1 (zero ae)) 0 (Prod.fst (Prod.fst (Prod.fst q8))), Prod.fst (Prod.fst q8), 0, PUnit.unit)))) (af.ite (decide (Prod.fst (Prod.fst (Prod.fst q8)) = v5)) (af.ret (K.val (Ty.pair (Ty.slc ae) (Ty.pair ab (Ty.pair ae Ty.unit))) ([], zero (Ty.pair ae (Ty.pair tId Ty.unit)), 13, PUnit.unit))) (af.ite (bif Prod.fst (Prod.snd (Prod.fst q8)) then true else eqb ay (Prod.fst q8) ((v5, Prod.fst (Prod.snd (Prod.fst (Prod.fst q8))), zero Ty.unit), zero (Ty.pair Ty.bool Ty.unit))) (af.ret (K.val (Ty.pair (Ty.slc ae) (Ty.pair ab (Ty.pair ae Ty.unit))) ([], zero (Ty.pair ae (Ty.pair tId Ty.unit)), 10, PUnit.unit))) (af.loop [{ fx := fE, todo := cx bn 7, dst := none, s := ofS [(4, K.ptr (0 + 1 + 1 + 1) ah []), (6, K.ptr (0 + 1 + 1 + 1 + 1) tId []), (7, K.ptr (0 + 1 + 1 + 1 + 1 + 1) ae []), (8, K.ptr (0 + 1 + 1 + 1 + 1 + 1 + 1) (Ty.slc ae) []), (9, K.ptr (0 + 1 + 1 + 1 + 1 + 1 + 1 + 1) ab []), (10, K.ptr (0 + 1 + 1 + 1 + 1 + 1 + 1 + 1 + 1) ae []), (11, K.ptr (0 + 1 + 1 + 1 + 1 + 1 + 1 + 1 + 1 + 1) (Ty.slc ae) [])], rng := some 0 }] dt (lp cX 1) [(0, K.yld 0), (2, K.ptr (0 + 1) ah []), (3, K.ptr (0 + 1 + 1) tId []), (5, K.val ae (Prod.fst (Prod.fst (Prod.fst q8))))] [(0, Bx.lop LoopState.ready none [(7, K.ptr (0 + 1 + 1 + 1 + 1 + 1) ae []), (11, K.ptr (0 + 1 + 1 + 1 + 1 + 1 + 1 + 1 + 1 + 1) (Ty.slc ae) []), (8, K.ptr (0 + 1 + 1 + 1 + 1 + 1 + 1) (Ty.slc ae) []), (9, K.ptr (0 + 1 + 1 + 1 + 1 + 1 + 1 + 1) ab []), (10, K.ptr (0 + 1 + 1 + 1 + 1 + 1 + 1 + 1 + 1) ae [])] 73 (kP bn 7) (du bn 7) (ft bn 7)), (0 + 1, Bx.cell ah b1), (0 + 1 + 1, Bx.cell tId b2), (0 + 1 + 1 + 1, Bx.cell ah b3), (0 + 1 + 1 + 1 + 1, Bx.cell tId b4), (0 + 1 + 1 + 1 + 1 + 1, Bx.cell ae b5), (0 + 1 + 1 + 1 + 1 + 1 + 1, Bx.obj (Ty.slc ae) K.nilsl), (0 + 1 + 1 + 1 + 1 + 1 + 1 + 1, Bx.cell ab b7), (0 + 1 + 1 + 1 + 1 + 1 + 1 + 1 + 1, Bx.cell ae b8), (0 + 1 + 1 + 1 + 1 + 1 + 1 + 1 + 1 + 1, Bx.obj (Ty.slc ae) (K.sl (0 + 1 + 1 + 1 + 1 + 1 + 1 + 1 + 1 + 1 + 1) ae)), (0 + 1 + 1 + 1 + 1 + 1 + 1 + 1 + 1 + 1 + 1, Bx.row ae (List.set (List.replicate 1 (zero ae)) 0 v5))]))))))))
theorem mG (v5 : den ae) (b1 : den ah) (b2 : den tId) (b3 : den ah) (b4 : den tId) (b5 : den ae) (b7 : den ab) (b8 : den ae) : ai ia qW 5000 (iA v5 b1 b2 b3 b4 b5 b7 b8) dt (lp cX 1) (iF v5 b1 b2 b3 b4 b5 b7 b8) = nX v5 b1 b2 b3 b4 b5 b7 b8 := by kernel_rfl
noncomputable def gO (v5 : den ae) (b1 : den ah) (b2 : den tId) (b3 : den ah) (b4 : den tId) (b5 : den ae) (b7 : den ab) (b8 : den ae) (b10 : List (den ae)) : List bY := [{ fx := fE, todo := cx bn 7, dst := none, s := ofS [(4, K.ptr (0 + 1 + 1 + 1) ah []), (6, K.ptr (0 + 1 + 1 + 1 + 1) tId []), (7, K.ptr (0 + 1 + 1 + 1 + 1 + 1) ae []), (8, K.ptr (0 + 1 + 1 + 1 + 1 + 1 + 1) (Ty.slc ae) []), (9, K.ptr (0 + 1 + 1 + 1 + 1 + 1 + 1 + 1) ab []), (10, K.ptr (0 + 1 + 1 + 1 + 1 + 1 + 1 + 1 + 1) ae []), (11, K.ptr (0 + 1 + 1 + 1 + 1 + 1 + 1 + 1 + 1 + 1) (Ty.slc ae) [])], rng := some 0 }]
noncomputable def gV (v5 : den ae) (b1 : den ah) (b2 : den tId) (b3 : den ah) (b4 : den tId) (b5 : den ae) (b7 : den ab) (b8 : den ae) (b10 : List (den ae)) : Env := Env.of [(0, K.yld 0), (2, K.ptr (0 + 1) ah []), (3, K.ptr (0 + 1 + 1) tId []), (5, K.val ae v5)] [(0, Bx.lop LoopState.ready none [(7, K.ptr (0 + 1 + 1 + 1 + 1 + 1) ae []), (11, K.ptr (0 + 1 + 1 + 1 + 1 + 1 + 1 + 1 + 1 + 1) (Ty.slc ae) []), (8, K.ptr (0 + 1 + 1 + 1 + 1 + 1 + 1) (Ty.slc ae) []), (9, K.ptr (0 + 1 + 1 + 1 + 1 + 1 + 1 + 1) ab []), (10, K.ptr (0 + 1 + 1 + 1 + 1 + 1 + 1 + 1 + 1) ae [])] 73 (kP bn 7) (du bn 7) (ft bn 7)), (1, Bx.cell ah b1), (2, Bx.cell tId b2), (3, Bx.cell ah b3), (4, Bx.cell tId b4), (5, Bx.cell ae b5), (6, Bx.obj (Ty.slc ae) K.nilsl), (7, Bx.cell ab b7), (8, Bx.cell ae b8), (9, Bx.obj (Ty.slc ae) (K.sl (0 + 1 + 1 + 1 + 1 + 1 + 1 + 1 + 1 + 1 + 1) ae)), (10, Bx.row ae b10)]
noncomputable def mT (v5 : den ae) (b1 : den ah) (b2 : den tId) (b3 : den ah) (b4 : den tId) (b5 : den ae) (b7 : den ab) (b8 : den ae) (b10 : List (den ae)) : af := af.req (be (Prod.fst b1) = true) (af.all (den (Ty.pair ay (Ty.pair Ty.bool Ty.unit))) (fun (q9 : den (Ty.pair ay (Ty.pair Ty.bool Ty.unit))) ↦ q9 = (Prod.fst (aP (Prod.fst b1) v5 b2), Prod.snd (aP (Prod.fst b1) v5 b2), PUnit.unit)) fun (q9 : den (Ty.pair ay (Ty.pair Ty.bool Ty.unit))) ↦ af.ite (!Prod.fst (Prod.snd q9)) (af.ret (K.val (Ty.pair (Ty.slc ae) (Ty.pair ab (Ty.pair ae Ty.unit))) ([], zero (Ty.pair ae (Ty.pair tId Ty.unit)), 10, PUnit.unit))) (af.ite (decide (b5 < lnx ae b10)) (af.ret (K.val (Ty.pair (Ty.slc ae) (Ty.pair ab (Ty.pair ae Ty.unit))) ([], zero (Ty.pair ae (Ty.pair tId Ty.unit)), 9, PUnit.unit))) (af.req (List.length (b10 ++ List.set (List.replicate 1 (zero ae)) 0 v5) ≤ bH) (af.ite (bif Prod.fst (Prod.snd (Prod.fst q9)) then decide (Prod.fst (Prod.fst (Prod.fst q9)) = v5) else false) (af.ret (K.val (Ty.pair (Ty.slc ae) (Ty.pair ab (Ty.pair ae Ty.unit))) (b10 ++ List.set (List.replicate 1 (zero ae)) 0 v5, Prod.fst (Prod.fst q9), 0, PUnit.unit))) (af.ite (Prod.fst (Prod.snd (Prod.fst q9))) (af.req (List.length (b10 ++ List.set (List.replicate 1 (zero ae)) 0 v5 ++ List.set (List.replicate 1 (zero ae)) 0 (Prod.fst (Prod.fst (Prod.fst q9)))) ≤ bH) (af.ret (K.val (Ty.pair (Ty.slc ae) (Ty.pair ab (Ty.pair ae Ty.unit))) (b10 ++ List.set (List.replicate 1 (zero ae)) 0 v5 ++ List.set (List.replicate 1 (zero ae)) 0 (Prod.fst (Prod.fst (Prod.fst q9))), Prod.fst (Prod.fst q9), 0, PUnit.unit)))) (af.ite (decide (Prod.fst (Prod.fst (Prod.fst q9)) = v5)) (af.ret (K.val (Ty.pair (Ty.slc ae) (Ty.pair ab (Ty.pair ae Ty.unit))) ([], zero (Ty.pair ae (Ty.pair tId Ty.unit)), 13, PUnit.unit))) (af.ite (bif Prod.fst (Prod.snd (Prod.fst q9)) then true else eqb ay (Prod.fst q9) ((v5, Prod.fst (Prod.snd (Prod.fst (Prod.fst q9))), zero Ty.unit), zero (Ty.pair Ty.bool Ty.unit))) (af.ret (K.val (Ty.pair (Ty.slc ae) (Ty.pair ab (Ty.pair ae Ty.unit))) ([], zero (Ty.pair ae (Ty.pair tId Ty.unit)), 10, PUnit.unit))) (af.loop [{ fx := fE, todo := cx bn 7, dst := none, s := ofS [(4, K.ptr (0 + 1 + 1 + 1) ah []), (6, K.ptr (0 + 1 + 1 + 1 + 1) tId []), (7, K.ptr (0 + 1 + 1 + 1 + 1 + 1) ae []), (8, K.ptr (0 + 1 + 1 + 1 + 1 + 1 + 1) (Ty.slc ae) []), (9, K.ptr (0 + 1 + 1 + 1 + 1 + 1 + 1 + 1) ab []), (10, K.ptr (0 + 1 + 1 + 1 + 1 + 1 + 1 + 1 + 1) ae []), (11, K.ptr (0 + 1 + 1 + 1 + 1 + 1 + 1 + 1 + 1 + 1) (Ty.slc ae) [])], rng := some 0 }] dt (lp cX 1) [(0, K.yld 0), (2, K.ptr (0 + 1) ah []), (3, K.ptr (0 + 1 + 1) tId []), (5, K.val ae (Prod.fst (Prod.fst (Prod.fst q9))))] [(0, Bx.lop LoopState.ready none [(7, K.ptr (0 + 1 + 1 + 1 + 1 + 1) ae []), (11, K.ptr (0 + 1 + 1 + 1 + 1 + 1 + 1 + 1 + 1 + 1) (Ty.slc ae) []), (8, K.ptr (0 + 1 + 1 + 1 + 1 + 1 + 1) (Ty.slc ae) []), (9, K.ptr (0 + 1 + 1 + 1 + 1 + 1 + 1 + 1) ab []), (10, K.ptr (0 + 1 + 1 + 1 + 1 + 1 + 1 + 1 + 1) ae [])] 73 (kP bn 7) (du bn 7) (ft bn 7)), (0 + 1, Bx.cell ah b1), (0 + 1 + 1, Bx.cell tId b2), (0 + 1 + 1 + 1, Bx.cell ah b3), (0 + 1 + 1 + 1 + 1, Bx.cell tId b4), (0 + 1 + 1 + 1 + 1 + 1, Bx.cell ae b5), (0 + 1 + 1 + 1 + 1 + 1 + 1, Bx.obj (Ty.slc ae) K.nilsl), (0 + 1 + 1 + 1 + 1 + 1 + 1 + 1, Bx.cell ab b7), (0 + 1 + 1 + 1 + 1 + 1 + 1 + 1 + 1, Bx.cell ae b8), (0 + 1 + 1 + 1 + 1 + 1 + 1 + 1 + 1 + 1, Bx.obj (Ty.slc ae) (K.sl (0 + 1 + 1 + 1 + 1 + 1 + 1 + 1 + 1 + 1 + 1) ae)), (0 + 1 + 1 + 1 + 1 + 1 + 1 + 1 + 1 + 1 + 1, Bx.row ae (b10 ++ List.set (List.replicate 1 (zero ae)) 0 v5))]))))))))
theorem lG (v5 : den ae) (b1 : den ah) (b2 : den tId) (b3 : den ah) (b4 : den tId) (b5 : den ae) (b7 : den ab) (b8 : den ae) (b10 : List (den ae)) : ai ia qW 5000 (gO v5 b1 b2 b3 b4 b5 b7 b8 b10) dt (lp cX 1) (gV v5 b1 b2 b3 b4 b5 b7 b8 b10) = mT v5 b1 b2 b3 b4 b5 b7 b8 b10 := by kernel_rfl
end Go.Proofs.Ytimdnodkabnbfaa
namespace Go.Proofs.Ytimdnodkabnbfaa
open Go Go.RowKit
theorem AH {n : Nd} (h : aT n = true) : (bM n).length ≤ 21 := by
 obtain ⟨l1, _, l3⟩ := Jz h
 have e : (bM n).length = 1 + n.2.2.1.length + n.2.2.2.1.length := by unfold bM; rw [List.length_append, List.length_append]; rfl
 omega
theorem oq {l : List Nd} {i : Nat} (hi : i < l.length) (h : gl l (i : Nat) = false) : be l = false := by
 unfold be
 rw [show (List.range l.length).all (fun i => gl l (i : Nat)) = false from List.all_eq_false.2 ⟨i, List.mem_range.2 hi, by rw [h]; decide⟩]
 rfl
theorem Ca {l : List Nd} (h : be l = true) {i : Nat} (hi : i < l.length) : gl l (i : Nat) = true := by
 cases hn : gl l (i : Nat) with
 | true => rfl
 | false => rw [oq hi hn] at h; cases h
theorem IB {l : List Nd} {i : Nat} (hi : i < l.length) (h : gl l (i : Nat) = true) : aT l[i] = true := by
 unfold gl Bb at h
 rw [bD (e := ag) hi] at h
 cases hn : aT l[i] with
 | true => rfl
 | false => rw [hn] at h; cases h
theorem Fl {l : List Nd} (h : be l = true) {n : Nd} (hn : n ∈ l) : aT n = true := by
 obtain ⟨i, hi, rfl⟩ := List.getElem_of_mem hn
 exact IB hi (Ca h hi)
abbrev GCr (O : Nat → Prop) (w0 : World) (y : Bool) := bv prog io (Cx.base O w0) (bR prog O w0 pg fun z => z = (y, ()))
theorem jc : XOk prog io := HW vj ol HH JM tH
def KW (O : Nat → Prop) (w0 : World) (o : Ov) (i : Nat) (z : Bool) (K : List Mem) (y : Bool) (hm : K.length ≤ maxLen) (hbad : (K.all fun m => !kU o.1 m) = false → y = false)
    (hnext : (K.all fun m => !kU o.1 m) = true → GCr O w0 y [] dq (lp bA 3) (oN (aj o.1) o.1 (lnx ag o.1) (IntKind.wrap .i64 (((i : Nat) : Int) + 1)) o z)) :=
  PLift.up <| bl (σ := Unit) K.length (fun j _ => ((K.take j).all fun m => !kU o.1 m) = true)
    (fun j _ => GCr O w0 y (fy (aj o.1) o.1 (lnx ag o.1) (i : Nat) K (lnx ab K) (j : Nat) o z) cO (lp bj 1) (fw (aj o.1) o.1 (lnx ag o.1) (i : Nat) K (lnx ab K) (j : Nat) o z))
    (fun j _ hj hs ih => au jc (eD _ _ _ _ K _ _ o z) (by
      refine ⟨fun _ => ⟨aU hj, trivial, bp ?_⟩, fun hc => absurd hj (by rw [bO] at hc; exact of_decide_eq_false hc)⟩
      rw [bD hj, bK hj hm]
      have key : ∀ c : Bool, (bif (eH o.1 K[j].1).2 then !eqb ab (eH o.1 K[j].1).1 K[j] else false) = c → kU o.1 K[j] = c := fun c h => by
        unfold kU; rw [kB] at h; exact h
      refine ⟨fun hc => ⟨_, rfl, ?_⟩, fun hc => ih () ?_⟩
      · have hk := key true hc
        have : (K.all fun m => !kU o.1 m) = false := List.all_eq_false.2 ⟨K[j], List.getElem_mem hj, by rw [hk]; decide⟩
        rw [hbad this]
      · have hk := key false hc
        rw [List.take_succ_eq_append_getElem hj, List.all_append, hs]
        simp [hk]))
    (fun _ hs => au jc (eD _ _ _ _ K _ _ o z) ⟨fun hc => absurd (of_decide_eq_true hc) (Int.lt_irrefl _), fun _ => hnext (by rw [List.take_length] at hs; exact hs)⟩)
def Qf (O : Nat → Prop) (w0 : World) (o : Ov) (z : Bool) (hm : o.1.length ≤ 1000000) :=
 PLift.up <| bl (σ := Unit) o.1.length (fun i _ => ∀ j, j < i → gl o.1 (j : Nat) = true)
  (fun i _ => GCr O w0 (be o.1) [] dq (lp bA 3) (oN (aj o.1) o.1 (lnx ag o.1) (i : Nat) o z))
  (fun i _ hi hs ih => au jc (o6 _ o.1 _ _ o z) (by
   have hw : i < 1000000 := Nat.lt_of_lt_of_le hi hm
   have hsm : IntKind.wrap .i64 (((i : Nat) : Int) - 1) = (i : Int) - 1 := bE (n := (i : Int) - 1) (by omega)
   refine ⟨fun _ => ⟨aU hi, trivial, fun _ h0 => ?_, bp ?_⟩, fun hc => absurd hi (by rw [bO (e := ag)] at hc; exact of_decide_eq_false hc)⟩
   ·have h0 : (0 : Int) < (i : Nat) := of_decide_eq_true h0
    rw [hsm]
    exact ⟨by omega, show (i : Int) - 1 < ((o.1.length : Nat) : Int) by omega⟩
   ·rw [hsm]
    have hb : ∀ c : Bool, (bif !aT (el ag o.1 (i : Nat)) then true else bif decide ((0 : Int) < (i : Nat)) then decide ((el ag o.1 (i : Nat)).1.1 ≤ (el ag o.1 ((i : Nat) - 1)).1.1) else false) = c → Bb o.1 (i : Nat) = c := fun c h => h
    refine ⟨fun hc => ⟨_, rfl, ?_⟩, fun hc => ?_⟩
    ·have := hb true hc
     rw [oq hi (by unfold gl; rw [this]; rfl)]
    ·have hbn := hb false hc
     have hr : aT (el ag o.1 (i : Nat)) = true := by
      cases hn : aT (el ag o.1 (i : Nat)) with
      | true => rfl
      | false => unfold Bb at hbn; rw [hn] at hbn; cases hbn
     have hkl := AH hr
     have hok : gl o.1 (i : Nat) = (bM (el ag o.1 (i : Nat))).all fun m => !kU o.1 m := by
      unfold gl; rw [hbn]; rfl
     refine ⟨Nat.le_trans hkl (by decide), (KW O w0 o i z (bM (el ag o.1 (i : Nat))) (be o.1) (Nat.le_trans hkl (by decide)) (fun h => oq hi (by rw [hok]; exact h)) (fun h => ?_)).down 0 () (Nat.zero_le _) rfl⟩
     rw [bK hi (Nat.le_trans hm (by decide))]
     refine ih () fun j hj => ?_
     rcases Nat.lt_succ_iff_lt_or_eq.1 hj with h1 | h1
     ·exact hs j h1
     ·subst h1; rw [hok]; exact h))
  (fun _ hs => au jc (o6 _ o.1 _ _ o z) ⟨fun hc => absurd (of_decide_eq_true hc) (Int.lt_irrefl _), fun _ => ⟨trivial, bp ⟨_, rfl, by
   show (bf (aj o.1), ()) = (be o.1, ())
   unfold be
   rw [show (List.range o.1.length).all (fun i => gl o.1 (i : Nat)) = true from List.all_eq_true.2 fun i hi => hs i (List.mem_range.1 hi)]
   rfl⟩⟩⟩)
theorem yJ : ak prog [] im ij :=
 bq (S := ij) jc (fx := dq) FT (by kernel_rfl) (fun h => by cases h) (T := fun x => yV x.1) (fun x => C0 x.1) fun O w0 x _ hp =>
  ⟨hp, bp ((Qf O w0 x.1 (zero Ty.bool) hp).down 0 () (Nat.zero_le _) (fun j hj => absurd hj (Nat.not_lt_zero _)))⟩
theorem Kk (p : Nd → Bool) : ∀ (l : List Nd) (i : Int), (l.find? p = none ∧ ixQ p l i = -1) ∨ ∃ k : Nat, ∃ h : k < l.length, ixQ p l i = i + (k : Int) ∧ l.find? p = some l[k]
 | [], _ => .inl ⟨rfl, rfl⟩
 | x :: l, i => by
  have e : ixQ p (x :: l) i = bif p x then i else ixQ p l (i + 1) := rfl
  cases hx : p x with
  | true => exact .inr ⟨0, by simp, by rw [e, hx]; simp, by rw [List.find?_cons, hx]; rfl⟩
  | false =>
   rw [e, hx, List.find?_cons, hx]
   rcases Kk p l (i + 1) with ⟨h1, h2⟩ | ⟨k, hk, h1, h2⟩
   ·exact .inl ⟨h1, h2⟩
   ·exact .inr ⟨k + 1, by simp; omega, by show ixQ p l (i + 1) = _; rw [h1]; push_cast; omega, h2⟩
abbrev GAk (O : Nat → Prop) (w0 : World) (y : Ans) := bv prog jZ (Cx.base O w0) (bR prog O w0 mh fun z => z = (y, true, ()))
theorem pn : XOk prog jZ := Ia my ER E2 rm hK LH K1 LK
def Q3 (O : Nat → Prop) (w0 : World) (o : Ov) (n : Nd) (id : List Int) (z : Ans) (hm : (bM n).length ≤ 1000) :=
 PLift.up <| bl (σ := List Int) (bM n).length (fun i b => b = (((bM n).take i).filter fun m => !xy o.1 m.1).map fun m => m.1)
  (fun i b => GAk O w0 (Jx o.1 n id) [] fA (lp fd 7) (uB (bM n) (lnx ab (bM n)) (i : Nat) o id z n b))
  (fun i b hi hs ih => au pn (o3 _ _ _ o id z n b) (by
   refine ⟨fun _ => ⟨aU hi, fun _ => trivial, ⟨_, rfl⟩, bp ?_⟩, fun hc => absurd hi (by rw [bO] at hc; exact of_decide_eq_false hc)⟩
   rw [bD hi, bK hi (Nat.le_trans hm (by decide))]
   refine ⟨fun hc => ⟨?_, ih _ ?_⟩, fun hc => ih _ ?_⟩
   ·have h1 := List.length_filter_le (fun m : Mem => !xy o.1 m.1) ((bM n).take i)
    rw [List.length_append, hs, List.length_map]
    rw [List.length_take] at h1
    exact Nat.le_trans (show _ + 1 ≤ 1001 by omega) (by decide)
   ·have hc : (!xy o.1 (bM n)[i].1) = true := hc
    rw [List.take_succ_eq_append_getElem hi, List.filter_append, List.map_append, ← hs, List.filter_cons_of_pos (p := fun m : Mem => !xy o.1 m.1) hc]
    rfl
   ·have hc : (!xy o.1 (bM n)[i].1) = false := hc
    rw [List.take_succ_eq_append_getElem hi, List.filter_append, List.map_append, ← hs, List.filter_cons_of_neg (p := fun m : Mem => !xy o.1 m.1) (by rw [hc]; decide)]
    simp))
  (fun b hs => au pn (o3 _ _ _ o id z n b) (by
   refine ⟨fun hc => absurd (of_decide_eq_true hc) (Int.lt_irrefl _), fun _ => ⟨trivial, bp ⟨trivial, bp ?_⟩⟩⟩
   rw [List.take_length] at hs
   have hb : b = Qm o.1 n := hs
   rw [hb]
   refine ⟨fun h => ⟨_, rfl, ?_⟩, fun h => ⟨trivial, bp ⟨_, rfl, ?_⟩⟩⟩
   all_goals
    show (_, _, _) = (Jx o.1 n id, true, ())
    unfold Jx I7
    rw [h]
    rfl))
theorem Ph {l : List Nd} {no : Int} {n : Nd} (id : List Int) (h : l.find? (fun n => decide (n.1.1 = no)) = some n) : aP l no id = (Jx l n id, true) := by
 unfold aP; rw [h]
theorem NZ {l : List Nd} {no : Int} (id : List Int) (h : l.find? (fun n => decide (n.1.1 = no)) = none) : aP l no id = (zero ay, false) := by
 unfold aP; rw [h]
theorem HQ : ak prog [] m6 np :=
 bq (S := np) pn (fx := fA) GC (by kernel_rfl) (fun h => by cases h) (T := fun x => yU x.1 x.2.1 x.2.2.1) (fun x => CW x.1 x.2.1 x.2.2.1) fun O w0 x _ hp => by
  obtain ⟨o, no, id, ⟨⟩⟩ := x
  have hp : be o.1 = true := hp
  refine ⟨fun _ => trivial, ⟨_, rfl⟩, bp ?_⟩
  have e : prQ (some fun (y : den (Ty.pair ag Ty.unit)) => (decide (y.1.1.1 = no), PUnit.unit)) = fun n => decide (n.1.1 = no) := rfl
  rw [e]
  rcases Kk (fun n => decide (n.1.1 = no)) o.1 0 with ⟨h1, h2⟩ | ⟨k, hk, h1, h2⟩
  ·rw [h2]
   refine ⟨fun _ => ⟨_, rfl, ?_⟩, fun hc => (by cases hc)⟩
   show (_, _, _) = ((aP o.1 no id).1, (aP o.1 no id).2, ())
   rw [NZ id h1]
   rfl
  ·rw [h1]
   have e0 : (0 : Int) + (k : Int) = (k : Nat) := by omega
   rw [e0]
   refine ⟨fun hc => ?_, fun _ => ⟨aU hk, ?_⟩⟩
   ·have hc : ((k : Nat) : Int) < 0 := of_decide_eq_true hc
    omega
   ·rw [bD (e := ag) hk]
    have hkl := AH (Fl hp (List.getElem_mem hk))
    have hf : List.flatten (List.set (List.set (List.set (List.replicate 3 (zero (Ty.slc ab))) 0 (List.set (List.replicate 1 (zero ab)) 0 o.1[k].2.1)) 1 o.1[k].2.2.1) 2 o.1[k].2.2.2.1) = bM o.1[k] := Qr _ _ _ _
    rw [hf]
    refine ⟨Nat.le_trans hkl (by decide), bp ?_⟩
    show bv _ _ _ (bR prog O w0 mh fun z => z = ((aP o.1 no id).1, (aP o.1 no id).2, ())) _ _ _ _
    rw [Ph id h2]
    exact (Q3 O w0 o o.1[k] id (zero ay) (Nat.le_trans hkl (by decide))).down 0 [] (Nat.zero_le _) rfl
theorem JE (l : List Nd) (id : List Int) (n : Nat) (path : List Int) (no : Int) : dZ l id n path no = bif !(aP l no id).2 then ([], zero ab, 10) else
    match n with
    | 0 => ([], zero ab, 9)
    | n + 1 => bif (aP l no id).1.2.1 then (bif decide ((aP l no id).1.1.1 = no) then (path ++ [no], (aP l no id).1.1, 0) else (path ++ [no] ++ [(aP l no id).1.1.1], (aP l no id).1.1, 0))
      else bif decide ((aP l no id).1.1.1 = no) then ([], zero ab, 13) else dZ l id n (path ++ [no]) (aP l no id).1.1.1 := by
  cases n <;> rfl
abbrev GWa (O : Nat → Prop) (w0 : World) (y : WR) := bv prog ia (Cx.base O w0) (bR prog O w0 eC fun z => z = (y.1, y.2.1, y.2.2, ()))
theorem pz : XOk prog ia := HR yJ HQ
theorem Mg (O : Nat → Prop) (w0 : World) (o : Ov) (id : List Int) (hops : Int) (z : Mem) (z' : Int) (hr : be o.1 = true) (hh : hops ≤ 16) : ∀ (n : Nat) (path : List Int) (no : Int), ((path.length : Nat) : Int) + n = hops + 1 →
    GWa O w0 (dZ o.1 id n path no) (gO no o id o id hops z z' path) dt (lp cX 1) (gV no o id o id hops z z' path)
  | n, path, no, hn => au pz (lG no o id o id hops z z' path) (by
    have e := JE o.1 id n path no
    have leaf : ∀ {p : WR}, dZ o.1 id n path no = p → ∃ q, bu eC (K.val (Ty.pair (Ty.slc ae) (Ty.pair ab (Ty.pair ae Ty.unit))) (p.1, p.2.1, p.2.2, PUnit.unit)) = some q ∧ q = ((dZ o.1 id n path no).1, (dZ o.1 id n path no).2.1, (dZ o.1 id n path no).2.2, ()) := fun {p} e =>
      ⟨_, rfl, by rw [e]⟩
    have hl : path.length ≤ 17 := by omega
    refine ⟨hr, bp ⟨fun h1 => leaf (p := (_, _, _)) ?_, fun h1 => ⟨fun h2 => leaf (p := (_, _, _)) ?_, fun h2 => ⟨?_, fun h3 => leaf (p := (_, _, _)) ?_, fun h3 => ⟨fun h4 => ⟨?_, leaf (p := (_, _, _)) ?_⟩, fun h4 => ⟨fun h5 => leaf (p := (_, _, _)) ?_, fun h5 => ⟨fun h6 => ?_, fun h6 => ?_⟩⟩⟩⟩⟩⟩⟩
    · rw [e, h1]; rfl
    · have h2 : hops < ((path.length : Nat) : Int) := of_decide_eq_true h2
      have : n = 0 := by omega
      subst this
      rw [e, h1]; rfl
    · rw [List.length_append]
      exact Nat.le_trans (show path.length + 1 ≤ 18 by omega) (by decide)
    all_goals
      have h2 : ¬ hops < ((path.length : Nat) : Int) := of_decide_eq_false h2
      obtain ⟨n, rfl⟩ : ∃ m, n = m + 1 := ⟨n - 1, by omega⟩
      rw [h1] at e
    · have h3' : (aP o.1 no id).1.2.1 = true ∧ decide ((aP o.1 no id).1.1.1 = no) = true := by
        have h3 : (bif (aP o.1 no id).1.2.1 then decide ((aP o.1 no id).1.1.1 = no) else false) = true := h3
        cases hq : (aP o.1 no id).1.2.1 <;> rw [hq] at h3
        · cases h3
        · exact ⟨rfl, h3⟩
      rw [e, h3'.1, h3'.2]; rfl
    · rw [List.length_append, List.length_append]
      exact Nat.le_trans (show path.length + 1 + 1 ≤ 19 by omega) (by decide)
    · have h4 : (aP o.1 no id).1.2.1 = true := h4
      have h3' : decide ((aP o.1 no id).1.1.1 = no) = false := by
        have h3 : (bif (aP o.1 no id).1.2.1 then decide ((aP o.1 no id).1.1.1 = no) else false) = false := h3
        rw [h4] at h3; exact h3
      rw [e, h4, h3']; rfl
    · have h4 : (aP o.1 no id).1.2.1 = false := h4
      have h5 : decide ((aP o.1 no id).1.1.1 = no) = true := h5
      rw [e, h4, h5]; rfl
    · have h4 : (aP o.1 no id).1.2.1 = false := h4
      have h5 : decide ((aP o.1 no id).1.1.1 = no) = false := h5
      have h6 : (bif (aP o.1 no id).1.2.1 then true else eqb ay (aP o.1 no id).1 ((no, (aP o.1 no id).1.1.2.1, ()), zero (Ty.pair Ty.bool Ty.unit))) = true := h6
      rw [h4] at h6
      have h6 := (nS (t := ay) (by decide) _ _).1 h6
      have h6 : (aP o.1 no id).1.1.1 = no := congrArg (fun a : Ans => a.1.1) h6
      exact absurd h6 (of_decide_eq_false h5)
    · have h4 : (aP o.1 no id).1.2.1 = false := h4
      have h5 : decide ((aP o.1 no id).1.1.1 = no) = false := h5
      have e' : dZ o.1 id (n + 1) path no = dZ o.1 id n (path ++ [no]) (aP o.1 no id).1.1.1 := by rw [e, h4, h5]; rfl
      show bv _ _ _ (bR prog O w0 eC fun z => z = ((dZ o.1 id (n + 1) path no).1, (dZ o.1 id (n + 1) path no).2.1, (dZ o.1 id (n + 1) path no).2.2, ())) _ _ _ _
      rw [e']
      exact Mg O w0 o id hops z z' hr hh n (path ++ [no]) _ (by rw [List.length_append]; simp; omega))
theorem Qx (O : Nat → Prop) (w0 : World) (o : Ov) (id : List Int) (hops : Int) (z : Mem) (z' : Int) (hr : be o.1 = true) (h0 : 0 ≤ hops) (hh : hops ≤ 16) (no : Int) :
    GWa O w0 (dZ o.1 id (hops.toNat + 1) [] no) (iA no o id o id hops z z') dt (lp cX 1) (iF no o id o id hops z z') :=
  au pz (mG no o id o id hops z z') (by
    have e := JE o.1 id (hops.toNat + 1) [] no
    have leaf : ∀ {p : WR}, dZ o.1 id (hops.toNat + 1) [] no = p → ∃ q, bu eC (K.val (Ty.pair (Ty.slc ae) (Ty.pair ab (Ty.pair ae Ty.unit))) (p.1, p.2.1, p.2.2, PUnit.unit)) = some q ∧ q = ((dZ o.1 id (hops.toNat + 1) [] no).1, (dZ o.1 id (hops.toNat + 1) [] no).2.1, (dZ o.1 id (hops.toNat + 1) [] no).2.2, ()) := fun {p} e =>
      ⟨_, rfl, by rw [e]⟩
    refine ⟨hr, bp ⟨fun h1 => leaf (p := (_, _, _)) ?_, fun h1 => ⟨fun h2 => ?_, fun h2 => ⟨(show 1 ≤ bH by decide), fun h3 => leaf (p := (_, _, _)) ?_, fun h3 => ⟨fun h4 => ⟨(show 2 ≤ bH by decide), leaf (p := (_, _, _)) ?_⟩, fun h4 => ⟨fun h5 => leaf (p := (_, _, _)) ?_, fun h5 => ⟨fun h6 => ?_, fun h6 => ?_⟩⟩⟩⟩⟩⟩⟩
    · rw [e, h1]; rfl
    · have h2 : hops < 0 := of_decide_eq_true h2
      omega
    all_goals rw [h1] at e
    · have h3' : (aP o.1 no id).1.2.1 = true ∧ decide ((aP o.1 no id).1.1.1 = no) = true := by
        have h3 : (bif (aP o.1 no id).1.2.1 then decide ((aP o.1 no id).1.1.1 = no) else false) = true := h3
        cases hq : (aP o.1 no id).1.2.1 <;> rw [hq] at h3
        · cases h3
        · exact ⟨rfl, h3⟩
      rw [e, h3'.1, h3'.2]; rfl
    · have h4 : (aP o.1 no id).1.2.1 = true := h4
      have h3' : decide ((aP o.1 no id).1.1.1 = no) = false := by
        have h3 : (bif (aP o.1 no id).1.2.1 then decide ((aP o.1 no id).1.1.1 = no) else false) = false := h3
        rw [h4] at h3; exact h3
      rw [e, h4, h3']; rfl
    · have h4 : (aP o.1 no id).1.2.1 = false := h4
      have h5 : decide ((aP o.1 no id).1.1.1 = no) = true := h5
      rw [e, h4, h5]; rfl
    · have h4 : (aP o.1 no id).1.2.1 = false := h4
      have h5 : decide ((aP o.1 no id).1.1.1 = no) = false := h5
      have h6 : (bif (aP o.1 no id).1.2.1 then true else eqb ay (aP o.1 no id).1 ((no, (aP o.1 no id).1.1.2.1, ()), zero (Ty.pair Ty.bool Ty.unit))) = true := h6
      rw [h4] at h6
      have h6 := (nS (t := ay) (by decide) _ _).1 h6
      have h6 : (aP o.1 no id).1.1.1 = no := congrArg (fun a : Ans => a.1.1) h6
      exact absurd h6 (of_decide_eq_false h5)
    · have h4 : (aP o.1 no id).1.2.1 = false := h4
      have h5 : decide ((aP o.1 no id).1.1.1 = no) = false := h5
      have e' : dZ o.1 id (hops.toNat + 1) [] no = dZ o.1 id hops.toNat ([] ++ [no]) (aP o.1 no id).1.1.1 := by rw [e, h4, h5]; rfl
      show bv _ _ _ (bR prog O w0 eC fun z => z = ((dZ o.1 id (hops.toNat + 1) [] no).1, (dZ o.1 id (hops.toNat + 1) [] no).2.1, (dZ o.1 id (hops.toNat + 1) [] no).2.2, ())) _ _ _ _
      rw [e']
      exact Mg O w0 o id hops z z' hr hh hops.toNat ([] ++ [no]) _ (by show ((1 : Nat) : Int) + _ = _; omega))
theorem HZ : ak prog [] m9 nh :=
 bq (S := nh) pz (fx := fE) FW (by kernel_rfl) (fun h => by cases h) (T := fun x => yw x.1 x.2.1 x.2.2.1 x.2.2.2.1) (fun x => Dp x.1 x.2.1 x.2.2.1 x.2.2.2.1) fun O w0 x _ hp => by
  obtain ⟨o, no, id, hops, ⟨⟩⟩ := x
  have e : ∀ c : Bool, (bif (bif !be o.1 then true else decide ((hops : Int) < 0)) then true else decide ((16 : Int) < hops)) = c → dz o.1 no id hops = bif c then ([], zero ab, 1) else dZ o.1 id ((hops : Int).toNat + 1) [] no := fun c h => by
   unfold dz; rw [h]
  refine ⟨hp, bp ⟨fun h => ⟨_, rfl, ?_⟩, fun h => ?_⟩⟩
  ·show _ = ((dz o.1 no id hops).1, (dz o.1 no id hops).2.1, (dz o.1 no id hops).2.2, ())
   rw [e true h]; rfl
  ·show bv _ _ _ (bR prog O w0 eC fun z => z = ((dz o.1 no id hops).1, (dz o.1 no id hops).2.1, (dz o.1 no id hops).2.2, ())) _ _ _ _
   rw [e false h]
   have h : (bif (bif !be o.1 then true else decide ((hops : Int) < 0)) then true else decide ((16 : Int) < hops)) = false := h
   have h1 : be o.1 = true := by
    cases hq : be o.1 <;> rw [hq] at h
    cases h
   rw [h1] at h
   have h2 : decide ((hops : Int) < 0) = false := by
    cases hq : decide ((hops : Int) < 0) <;> rw [hq] at h
    cases h
   rw [h2] at h
   exact Qx O w0 o id hops (zero ab) (zero ae) h1 (Int.not_lt.1 (of_decide_eq_false h2)) (Int.not_lt.1 (of_decide_eq_false h)) no
end Go.Proofs.Ytimdnodkabnbfaa
namespace Go.Proofs.Ytimdnodkabnbfaa
open Go Go.RowKit
def PT (n : Nd) : Nd := (n.1, n.2.1, n.2.2.1.take 6, n.2.2.2.1.take 18, ())
def xc (l : List Nd) : List Nd := (l.take 18).map PT
noncomputable abbrev uF : bg := ⟨Eu, yc, fun x => ((xc x.1.1, ()), ()), fun _ => True, true⟩
noncomputable abbrev qh : bg := ⟨A3, z7, fun _ => (true, ()), fun _ => True, true⟩
end Go.Proofs.Ytimdnodkabnbfaa
namespace Go.Proofs.Ytimdnodkabnbfaa
open Go Go.RowKit
noncomputable abbrev mc : Fx := { fn := lS, ann := { loops := [(3, { keep := [2, 3, 12, 13, 14], own := [(3, (.mp (.arr 0 .bool) ag))] })], frz := [(8, [1003, 100003])] }, own := [3] }
noncomputable abbrev uz : aZ := { D := { T := aX, F := [], R := [], ovl := [] }, inl := [] }
noncomputable abbrev G9 : bh := .data yc
theorem zC : XOk prog uz := xok ((aF aK az)) (by kernel_rfl) aE aL aM
noncomputable def GO (o : den ah) : af := af.req (bL 0 (cw (lnx ag (Prod.fst o)) 18) (lnx ag (Prod.fst o))) (af.loop [] mc (lp lS 3) [(2, K.ptr 0 ah []), (3, K.ptr (0 + 1) ah []), (12, K.val (Ty.slc ag) (eK ag (Prod.fst o) 0 (cw (lnx ag (Prod.fst o)) 18))), (13, K.val ae (lnx ag (eK ag (Prod.fst o) 0 (cw (lnx ag (Prod.fst o)) 18)))), (14, K.val ae 0)] [(0, Bx.cell ah (zero ah)), (0 + 1, Bx.obj ah (K.agg (Ty.pair (Ty.slc ag) Ty.unit) (K.kcons (K.sl (0 + 1 + 1) ag) K.knil))), (0 + 1 + 1, Bx.row ag [])])
theorem II (o : den ah) : ai uz G9 5000 [] mc (aA lS) (Env.of (aC Eu (o, ()) 0) []) = GO o := by kernel_rfl
noncomputable def CL (v12 : den (Ty.slc ag)) (v13 : den ae) (v14 : den ae) (b0 : den ah) (b2 : List (den ag)) : Env := Env.of [(2, K.ptr 0 ah []), (3, K.ptr (0 + 1) ah []), (12, K.val (Ty.slc ag) v12), (13, K.val ae v13), (14, K.val ae v14)] [(0, Bx.cell ah b0), (1, Bx.obj ah (K.agg (Ty.pair (Ty.slc ag) Ty.unit) (K.kcons (K.sl (0 + 1 + 1) ag) K.knil))), (2, Bx.row ag b2)]
noncomputable def JX (v12 : den (Ty.slc ag)) (v13 : den ae) (v14 : den ae) (b0 : den ah) (b2 : List (den ag)) : af := af.ite (decide (v14 < v13)) (af.req (inB v14 (lnx ag v12)) (af.req (bL 0 (cw (lnx ab (Prod.fst (Prod.snd (Prod.snd (el ag v12 v14))))) 6) (lnx ab (Prod.fst (Prod.snd (Prod.snd (el ag v12 v14)))))) (af.req (bL 0 (cw (lnx ab (Prod.fst (Prod.snd (Prod.snd (Prod.snd (el ag v12 v14)))))) 18) (lnx ab (Prod.fst (Prod.snd (Prod.snd (Prod.snd (el ag v12 v14))))))) (af.req (List.length (b2 ++ List.set (List.replicate 1 (zero ag)) 0 (Prod.fst (el ag v12 v14), Prod.fst (Prod.snd (el ag v12 v14)), eK ab (Prod.fst (Prod.snd (Prod.snd (el ag v12 v14)))) 0 (cw (lnx ab (Prod.fst (Prod.snd (Prod.snd (el ag v12 v14))))) 6), eK ab (Prod.fst (Prod.snd (Prod.snd (Prod.snd (el ag v12 v14))))) 0 (cw (lnx ab (Prod.fst (Prod.snd (Prod.snd (Prod.snd (el ag v12 v14)))))) 18), Prod.snd (Prod.snd (Prod.snd (Prod.snd (el ag v12 v14)))))) ≤ bH) (af.loop [] mc (lp lS 3) [(2, K.ptr 0 ah []), (3, K.ptr (0 + 1) ah []), (12, K.val (Ty.slc ag) v12), (13, K.val ae v13), (14, K.val ae (IntKind.wrap IntKind.i64 (v14 + 1)))] [(0, Bx.cell ah b0), (0 + 1, Bx.obj ah (K.agg (Ty.pair (Ty.slc ag) Ty.unit) (K.kcons (K.sl (0 + 1 + 1) ag) K.knil))), (0 + 1 + 1, Bx.row ag (b2 ++ List.set (List.replicate 1 (zero ag)) 0 (Prod.fst (el ag v12 v14), Prod.fst (Prod.snd (el ag v12 v14)), eK ab (Prod.fst (Prod.snd (Prod.snd (el ag v12 v14)))) 0 (cw (lnx ab (Prod.fst (Prod.snd (Prod.snd (el ag v12 v14))))) 6), eK ab (Prod.fst (Prod.snd (Prod.snd (Prod.snd (el ag v12 v14))))) 0 (cw (lnx ab (Prod.fst (Prod.snd (Prod.snd (Prod.snd (el ag v12 v14)))))) 18), Prod.snd (Prod.snd (Prod.snd (Prod.snd (el ag v12 v14)))))))]))))) (af.ret (K.val (Ty.pair ah Ty.unit) ((b2, PUnit.unit), PUnit.unit)))
theorem uQ (v12 : den (Ty.slc ag)) (v13 : den ae) (v14 : den ae) (b0 : den ah) (b2 : List (den ag)) : ai uz G9 5000 [] mc (lp lS 3) (CL v12 v13 v14 b0 b2) = JX v12 v13 v14 b0 b2 := by kernel_rfl
noncomputable abbrev Aa : Fx := { fn := vV, ann := { }, share := true }
noncomputable abbrev B5 : aZ := { D := { T := aX, F := [(m9, nh)], R := [], ovl := [] }, inl := [] }
noncomputable abbrev Lg : bh := .data z7
theorem Ls (h_lookup_Walk : ak prog [] m9 nh) : XOk prog B5 := xok (al (aF aK az) h_lookup_Walk) (by kernel_rfl) aE aL aM
noncomputable def CQ : af := af.req (List.length (List.set (List.replicate 1 (zero ag)) 0 ((3, zero (Ty.pair tId Ty.unit)), (-1, zero (Ty.pair tId Ty.unit)), List.set (List.replicate 1 (zero ab)) 0 (3, zero (Ty.pair tId Ty.unit)), zero (Ty.pair (Ty.slc ab) Ty.unit))) ≤ 1000000) (af.all (den (Ty.pair (Ty.slc ae) (Ty.pair ab (Ty.pair ae Ty.unit)))) (fun (q0 : den (Ty.pair (Ty.slc ae) (Ty.pair ab (Ty.pair ae Ty.unit)))) ↦ q0 = (Prod.fst (dz (List.set (List.replicate 1 (zero ag)) 0 ((3, zero (Ty.pair tId Ty.unit)), (-1, zero (Ty.pair tId Ty.unit)), List.set (List.replicate 1 (zero ab)) 0 (3, zero (Ty.pair tId Ty.unit)), zero (Ty.pair (Ty.slc ab) Ty.unit))) 3 (List.set (List.replicate 32 (zero (Ty.int IntKind.u8))) 31 7) 0), Prod.fst (Prod.snd (dz (List.set (List.replicate 1 (zero ag)) 0 ((3, zero (Ty.pair tId Ty.unit)), (-1, zero (Ty.pair tId Ty.unit)), List.set (List.replicate 1 (zero ab)) 0 (3, zero (Ty.pair tId Ty.unit)), zero (Ty.pair (Ty.slc ab) Ty.unit))) 3 (List.set (List.replicate 32 (zero (Ty.int IntKind.u8))) 31 7) 0)), Prod.snd (Prod.snd (dz (List.set (List.replicate 1 (zero ag)) 0 ((3, zero (Ty.pair tId Ty.unit)), (-1, zero (Ty.pair tId Ty.unit)), List.set (List.replicate 1 (zero ab)) 0 (3, zero (Ty.pair tId Ty.unit)), zero (Ty.pair (Ty.slc ab) Ty.unit))) 3 (List.set (List.replicate 32 (zero (Ty.int IntKind.u8))) 31 7) 0)), PUnit.unit)) fun (q0 : den (Ty.pair (Ty.slc ae) (Ty.pair ab (Ty.pair ae Ty.unit)))) ↦ af.req (da [(bif bif decide (Prod.fst (Prod.snd (Prod.snd q0)) = 0) then eqb ab (Prod.fst (Prod.snd q0)) (3, zero (Ty.pair tId Ty.unit)) else false then decide (lnx ae (Prod.fst q0) = 1) else false, true)] (inB 0 (lnx ae (Prod.fst q0)))) (af.ret (K.val (Ty.pair Ty.bool Ty.unit) (bif bif bif decide (Prod.fst (Prod.snd (Prod.snd q0)) = 0) then eqb ab (Prod.fst (Prod.snd q0)) (3, zero (Ty.pair tId Ty.unit)) else false then decide (lnx ae (Prod.fst q0) = 1) else false then decide (el ae (Prod.fst q0) 0 = 3) else false, PUnit.unit))))
theorem FL : ai B5 Lg 5000 [] Aa (aA vV) (Env.of (aC A3 () 0) []) = CQ := by kernel_rfl
end Go.Proofs.Ytimdnodkabnbfaa
namespace Go.Proofs.Ytimdnodkabnbfaa
open Go Go.RowKit
structure NOk (n : Nd) : Prop where
 self : db n.1 = true
 pred : n.2.1 = noM ∨ (db n.2.1 = true ∧ n.2.1.1 ≠ n.1.1)
 one : 1 ≤ n.2.2.1.length
 four : n.2.2.1.length ≤ 4
 succs : n.2.2.1 = [n.1] ∨ cu n.2.2.1 n.1.1 = true
 many : n.2.2.2.1.length ≤ 16
 fing : cu n.2.2.2.1 n.1.1 = true
theorem FB (n : Nd) : aT n = true ↔ NOk n := by
 have e1 : lnx ab n.2.2.1 = ((n.2.2.1.length : Nat) : Int) := rfl
 have e2 : lnx ab n.2.2.2.1 = ((n.2.2.2.1.length : Nat) : Int) := rfl
 have ep : zM n = true ↔ (n.2.1 = noM ∨ (db n.2.1 = true ∧ n.2.1.1 ≠ n.1.1)) := by
  unfold zM
  by_cases h : n.2.1 = noM
  ·simp [h]
  ·rw [decide_eq_false h]
   cases hm : db n.2.1
   ·simp [h]
   ·simp [h]
 have es : w9 n = true ↔ (1 ≤ n.2.2.1.length ∧ n.2.2.1.length ≤ 4 ∧ (n.2.2.1 = [n.1] ∨ cu n.2.2.1 n.1.1 = true)) := by
  unfold w9
  rw [e1]
  by_cases h1 : 1 ≤ n.2.2.1.length
  ·rw [decide_eq_true (show (1 : Int) ≤ ((n.2.2.1.length : Nat) : Int) by omega)]
   by_cases h2 : n.2.2.1.length ≤ 4
   ·rw [decide_eq_true (show ((n.2.2.1.length : Nat) : Int) ≤ 4 by omega)]
    by_cases h3 : n.2.2.1 = [n.1]
    ·rw [decide_eq_true h3]; simp [h1, h2, h3]
    ·rw [decide_eq_false h3]; simp [h1, h2, h3]
   ·rw [decide_eq_false (show ¬ ((n.2.2.1.length : Nat) : Int) ≤ 4 by omega)]; simp [h2]
  ·rw [decide_eq_false (show ¬ (1 : Int) ≤ ((n.2.2.1.length : Nat) : Int) by omega)]; simp [h1]
 unfold aT
 rw [e2]
 constructor
 ·intro h
  cases h1 : db n.1 <;> rw [h1] at h
  ·cases h
  cases h2 : zM n <;> rw [h2] at h
  ·cases h
  cases h3 : w9 n <;> rw [h3] at h
  ·cases h
  cases h4 : decide (((n.2.2.2.1.length : Nat) : Int) ≤ 16) <;> rw [h4] at h
  ·cases h
  obtain ⟨s1, s2, s3⟩ := es.1 h3
  exact ⟨h1, ep.1 h2, s1, s2, s3, by have := of_decide_eq_true h4; omega, h⟩
 ·intro h
  rw [h.self, ep.2 h.pred, es.2 ⟨h.one, h.four, h.succs⟩, decide_eq_true (show ((n.2.2.2.1.length : Nat) : Int) ≤ 16 by have := h.many; omega)]
  exact h.fing
end Go.Proofs.Ytimdnodkabnbfaa
namespace Go.Proofs.Ytimdnodkabnbfaa
open Go Go.RowKit
abbrev GFw (O : Nat → Prop) (w0 : World) (y : List Nd) := bv prog uz (Cx.base O w0) (bR prog O w0 yc fun z => z = ((y, ()), ()))
theorem LY (n : Nat) (b : List Mem) : bL 0 (cw (lnx ab b) (n : Int)) (lnx ab b) := by
 have e : lnx ab b = ((b.length : Nat) : Int) := rfl
 rw [e]
 unfold cw bL
 split <;> omega
theorem Ry (n : Nat) (b : List Mem) : eK ab b 0 (cw (lnx ab b) (n : Int)) = b.take n := by
 show (b.take (cw ((b.length : Nat) : Int) n).toNat).drop (0 : Int).toNat = _
 have : (cw ((b.length : Nat) : Int) n).toNat = min b.length n := by unfold cw; split <;> omega
 rw [this]
 simp [Nat.min_comm]
theorem R1 (n : Nat) (b : List Nd) : eK ag b 0 (cw (lnx ag b) (n : Int)) = b.take n := by
 show (b.take (cw ((b.length : Nat) : Int) n).toNat).drop (0 : Int).toNat = _
 have : (cw ((b.length : Nat) : Int) n).toNat = min b.length n := by unfold cw; split <;> omega
 rw [this]
 simp [Nat.min_comm]
theorem QW (n : Nat) (b : List Nd) : bL 0 (cw (lnx ag b) (n : Int)) (lnx ag b) := by
 have e : lnx ag b = ((b.length : Nat) : Int) := rfl
 rw [e]
 unfold cw bL
 split <;> omega
def RA (O : Nat → Prop) (w0 : World) (q : List Nd) (z : Ov) (hm : q.length ≤ 18) :=
 PLift.up <| bl (σ := List Nd) q.length (fun i b => b = (q.take i).map PT)
  (fun i b => GFw O w0 (q.map PT) [] mc (lp lS 3) (CL q (lnx ag q) (i : Nat) z b))
  (fun i b hi hs ih => au zC (uQ q _ _ z b) (by
   refine ⟨fun _ => ⟨aU hi, LY 6 _, LY 18 _, ?_, ?_⟩, fun hc => absurd hi (by rw [bO (e := ag)] at hc; exact of_decide_eq_false hc)⟩
   ·rw [List.length_append, hs, List.length_map, List.length_take]
    exact Nat.le_trans (show min i q.length + 1 ≤ 19 by omega) (by decide)
   ·rw [bD (e := ag) hi, bK hi (Nat.le_trans hm (by decide))]
    refine ih _ ?_
    rw [List.take_succ_eq_append_getElem hi, List.map_append, ← hs]
    have e1 := Ry 6 q[i].2.2.1
    have e2 := Ry 18 q[i].2.2.2.1
    have e1 : eK ab q[i].2.2.1 0 (cw (lnx ab q[i].2.2.1) 6) = q[i].2.2.1.take 6 := e1
    have e2 : eK ab q[i].2.2.2.1 0 (cw (lnx ab q[i].2.2.2.1) 18) = q[i].2.2.2.1.take 18 := e2
    rw [e1, e2]
    rfl))
  (fun b hs => au zC (uQ q _ _ z b) ⟨fun hc => absurd (of_decide_eq_true hc) (Int.lt_irrefl _), fun _ => ⟨_, rfl, by
   rw [List.take_length] at hs
   rw [hs]⟩⟩)
theorem OI : ak prog [] uP uF :=
 bq (S := uF) zC (fx := mc) MX (by kernel_rfl) (fun _ _ => trivial) (T := fun x => GO x.1) (fun x => II x.1) fun O w0 x _ _ => by
  obtain ⟨o, ⟨⟩⟩ := x
  refine ⟨QW 18 _, ?_⟩
  have e : eK ag o.1 0 (cw (lnx ag o.1) 18) = o.1.take 18 := R1 18 o.1
  rw [e]
  exact (RA O w0 (o.1.take 18) (zero ah) (by rw [List.length_take]; omega)).down 0 [] (Nat.zero_le _) rfl
theorem Qa (l : List Nd) : (xc l).length ≤ 18 := by
 unfold xc; rw [List.length_map, List.length_take]; omega
def n3 : Nd := ((3, zero (Ty.pair tId Ty.unit)), (-1, zero (Ty.pair tId Ty.unit)), [(3, zero (Ty.pair tId Ty.unit))], zero (Ty.pair (Ty.slc ab) Ty.unit))
def id7 : List Int := List.set (List.replicate 32 (zero (Ty.int IntKind.u8))) 31 7
theorem QD : dz [n3] 3 id7 0 = ([3], (3, zero (Ty.pair tId Ty.unit)), 0) := by kernel_rfl
theorem LP : ak prog [] qf qh :=
 bq (S := qh) (Ls HZ) (fx := Aa) IG (by kernel_rfl) (fun _ _ => trivial) (T := fun _ => CQ) (fun _ => FL) fun O v0 x _ _ => by
  refine ⟨(show 1 ≤ 1000000 by decide), bp ?_⟩
  show bt _ _ _ _ _ (af.req (da [(bif bif decide ((dz [n3] 3 id7 0).2.2 = 0) then eqb ab (dz [n3] 3 id7 0).2.1 (3, zero (Ty.pair tId Ty.unit)) else false then decide (lnx ae (dz [n3] 3 id7 0).1 = 1) else false, true)] (inB 0 (lnx ae (dz [n3] 3 id7 0).1)))
   (af.ret (K.val (Ty.pair Ty.bool Ty.unit) (bif bif bif decide ((dz [n3] 3 id7 0).2.2 = 0) then eqb ab (dz [n3] 3 id7 0).2.1 (3, zero (Ty.pair tId Ty.unit)) else false then decide (lnx ae (dz [n3] 3 id7 0).1 = 1) else false then decide (el ae (dz [n3] 3 id7 0).1 0 = 3) else false, PUnit.unit))))
  rw [QD]
  refine ⟨fun _ => aU (n := 1) (by decide), _, rfl, Prod.ext ?_ rfl⟩
  rw [kB]
  show (bif bif bif decide ((0 : Int) = 0) then decide (((3 : Int), zero (Ty.pair tId Ty.unit)) = (3, zero (Ty.pair tId Ty.unit))) else false then decide ((1 : Int) = 1) else false then decide ((3 : Int) = 3) else false) = true
  rw [decide_eq_true rfl]
  rfl
end Go.Proofs.Ytimdnodkabnbfaa
namespace Go.Proofs.Ytimdnodkabnbfaa
open Go Go.RowKit
theorem MD : ak prog [] rX sj :=
 bq (S := sj) NM (fx := Cj) Ll (by kernel_rfl) (fun _ _ => trivial) (T := fun x => Ff x.1) (fun x => H0 x.1) fun O w0 x _ _ => by
  obtain ⟨⟨no, id, ⟨⟩⟩, ⟨⟩⟩ := x
  refine ⟨_, rfl, Prod.ext ?_ rfl⟩
  show (bif decide ((no : Int) = -1) then eqb tId id (List.replicate 32 (zero (Ty.int IntKind.u8))) else false) = decide (((no, id, ()) : Mem) = noM)
  rw [xl]
  by_cases h : (no : Int) = -1
  ·rw [decide_eq_true h]
   show decide (id = List.replicate 32 (zero (Ty.int IntKind.u8))) = _
   refine decide_eq_decide.2 ⟨fun e => ?_, fun e => ?_⟩
   ·rw [h, e]; rfl
   ·exact congrArg (fun m : Mem => m.2.1) e
  ·rw [decide_eq_false h]
   exact (decide_eq_false fun e => h (congrArg (fun m : Mem => m.1) e)).symm
abbrev GU9 (O : Nat → Prop) (w0 : World) (y : Bool) := bv prog ju (Cx.base O w0) (bR prog O w0 qT fun z => z = (y, ()))
theorem jY : XOk prog ju := JB GT
def Pr (O : Nat → Prop) (w0 : World) (l : List Mem) (no : Int) (m : Mem) (i : Nat) (pre : List Mem) (y : Bool) (hm : pre.length ≤ maxLen) (hbad : (pre.any fun x => decide (x.1 = m.1)) = true → y = false)
    (hnext : (pre.any fun x => decide (x.1 = m.1)) = false → GU9 O w0 y [] c8 (lp dg 2) (pf l no l (lnx ab l) (IntKind.wrap .i64 (((i : Nat) : Int) + 1)))) :=
  PLift.up <| bl (σ := Unit) pre.length (fun j _ => ((pre.take j).any fun x => decide (x.1 = m.1)) = false)
    (fun j _ => GU9 O w0 y [] c8 (lp dg 7) (wJ l no l (lnx ab l) (i : Nat) pre (lnx ab pre) (j : Nat) m))
    (fun j _ hj hs ih => au jY (qq l no l _ _ pre _ _ m) (by
      refine ⟨fun _ => ⟨aU hj, ?_⟩, fun hc => absurd hj (by rw [bO] at hc; exact of_decide_eq_false hc)⟩
      rw [bD hj, bK hj hm]
      refine ⟨fun hc => ⟨_, rfl, ?_⟩, fun hc => ih () ?_⟩
      · have hc : decide (pre[j].1 = m.1) = true := hc
        rw [hbad (List.any_eq_true.2 ⟨pre[j], List.getElem_mem hj, hc⟩)]
      · have hc : decide (pre[j].1 = m.1) = false := hc
        rw [List.take_succ_eq_append_getElem hj, List.any_append, hs]
        simp only [List.any_cons, List.any_nil, hc, Bool.or_false]))
    (fun _ hs => au jY (qq l no l _ _ pre _ _ m) ⟨fun hc => absurd (of_decide_eq_true hc) (Int.lt_irrefl _), fun _ => hnext (by rw [List.take_length] at hs; exact hs)⟩)
def H8 (O : Nat → Prop) (w0 : World) (l : List Mem) (no : Int) (hm : l.length ≤ maxLen) :=
 PLift.up <| bl (σ := Unit) l.length (fun i _ => FR no (l.take i) (l.drop i) = cu l no)
  (fun i _ => GU9 O w0 (cu l no) [] c8 (lp dg 2) (pf l no l (lnx ab l) (i : Nat)))
  (fun i _ hi hs ih => au jY (qI l no l _ _) (by
   rw [List.drop_eq_getElem_cons hi, Hj, ← List.take_succ_eq_append_getElem hi] at hs
   have hi' : i ≤ l.length := Nat.le_of_lt hi
   refine ⟨fun _ => ⟨aU hi, trivial, ?_⟩, fun hc => absurd hi (by rw [bO] at hc; exact of_decide_eq_false hc)⟩
   rw [bD hi, xM]
   refine ⟨fun hc => ⟨_, rfl, ?_⟩, fun hc => ⟨⟨Int.le_refl _, Int.natCast_nonneg _, Int.ofNat_le.2 hi'⟩, ?_⟩⟩
   ·have hc : (bif !db l[i] then true else decide (l[i].1 = no)) = true := hc
    rw [hc] at hs
    exact Prod.ext hs rfl
   ·have hc : (bif !db l[i] then true else decide (l[i].1 = no)) = false := hc
    rw [hc] at hs
    refine (Pr O w0 l no l[i] i (l.take i) (cu l no) (by rw [List.length_take]; omega) (fun h => ?_) (fun h => ?_)).down 0 () (Nat.zero_le _) rfl
    ·rw [← hs, h]; rfl
    ·rw [bK hi hm]
     refine ih () ?_
     rw [h] at hs
     exact hs))
  (fun _ hs => au jY (qI l no l _ _) (by
   refine ⟨fun hc => absurd (of_decide_eq_true hc) (Int.lt_irrefl _), fun _ => ⟨_, rfl, Prod.ext ?_ rfl⟩⟩
   rw [List.drop_length] at hs
   exact hs))
theorem JO : ak prog [] oC nZ :=
 bq (S := nZ) jY (fx := c8) HC (by kernel_rfl) (fun _ _ => trivial) (T := fun x => AL x.1 x.2.1) (fun x => EI x.1 x.2.1) fun O w0 x hk _ =>
  (H8 O w0 x.1 x.2.1 hk.1.1).down 0 () (Nat.zero_le _) rfl
theorem Hu {n : Nd} (h : ¬ NOk n) : aT n = false := by
 cases hq : aT n with
 | false => rfl
 | true => exact absurd ((FB n).1 hq) h
theorem KL : ak prog [] pQ p8 :=
 bq (S := p8) (KM GT MD JO) (fx := zf) I2 (by kernel_rfl) (fun _ _ => trivial) (T := fun x => Cp x.1) (fun x => FZ x.1) fun O w0 x _ _ => by
  obtain ⟨n, ⟨⟩⟩ := x
  have e1 : lnx ab n.2.2.1 = ((n.2.2.1.length : Nat) : Int) := rfl
  have e2 : lnx ab n.2.2.2.1 = ((n.2.2.2.1.length : Nat) : Int) := rfl
  refine ⟨trivial, fun _ => trivial, fun _ _ => trivial, fun hc => ⟨_, rfl, Prod.ext ?_ rfl⟩, fun hc => ⟨fun _ => trivial, fun hc2 => ⟨_, rfl, Prod.ext ?_ rfl⟩, fun hc2 => ⟨fun h1 => ?_, fun _ => trivial, _, rfl, Prod.ext ?_ rfl⟩⟩⟩
  all_goals
   have hc' : ∀ c : Bool, (bif !db n.1 then true else bif !decide (n.2.1 = noM) then bif !db n.2.1 then true else decide (n.2.1.1 = n.1.1) else false) = c → (c = false ↔ db n.1 = true ∧ (n.2.1 = noM ∨ (db n.2.1 = true ∧ n.2.1.1 ≠ n.1.1))) := fun c hc => by
    rw [← hc]
    cases h1 : db n.1
    ·simp
    by_cases h2 : n.2.1 = noM
    ·rw [decide_eq_true h2]; simp [h2]
    ·rw [decide_eq_false h2]
     cases h3 : db n.2.1
     ·simp [h2]
     ·simp [h2]
   have hc2' : ∀ c : Bool, (bif bif bif decide (lnx ab n.2.2.1 < 1) then true else decide (4 < lnx ab n.2.2.1) then true else decide (16 < lnx ab n.2.2.2.1) then true else !cu n.2.2.2.1 n.1.1) = c → (c = false ↔ (1 ≤ n.2.2.1.length ∧ n.2.2.1.length ≤ 4 ∧ n.2.2.2.1.length ≤ 16 ∧ cu n.2.2.2.1 n.1.1 = true)) := fun c hc => by
    rw [← hc, e1, e2]
    by_cases h1 : ((n.2.2.1.length : Nat) : Int) < 1
    ·rw [decide_eq_true h1]; simp; omega
    rw [decide_eq_false h1]
    by_cases h2 : 4 < ((n.2.2.1.length : Nat) : Int)
    ·rw [decide_eq_true h2]; simp; omega
    rw [decide_eq_false h2]
    by_cases h3 : 16 < ((n.2.2.2.1.length : Nat) : Int)
    ·rw [decide_eq_true h3]; simp; omega
    rw [decide_eq_false h3]
    simp only [cond_false, Bool.not_eq_false']
    exact ⟨fun h => ⟨by omega, by omega, by omega, h⟩, fun h => h.2.2.2⟩
  ·show false = aT n
   refine (Hu fun h => ?_).symm
   have := (hc' true hc).2 ⟨h.self, h.pred⟩
   cases this
  ·show false = aT n
   refine (Hu fun h => ?_).symm
   have := (hc2' true hc2).2 ⟨h.one, h.four, h.many, h.fing⟩
   cases this
  ·have := ((hc2' false hc2).1 rfl).1
   exact aU this
  ·obtain ⟨a1, a2⟩ := (hc' false hc).1 rfl
   obtain ⟨b1, b2, b3, b4⟩ := (hc2' false hc2).1 rfl
   show (bif bif decide (lnx ab n.2.2.1 = 1) then eqb ab (el ab n.2.2.1 0) n.1 else false then true else cu n.2.2.1 n.1.1) = aT n
   have alone : (bif decide (lnx ab n.2.2.1 = 1) then eqb ab (el ab n.2.2.1 0) n.1 else false) = decide (n.2.2.1 = [n.1]) := by
    rw [e1, kB]
    match hq : n.2.2.1, b1 with
    | [m], _ =>
     show decide (m = n.1) = decide ([m] = [n.1])
     exact decide_eq_decide.2 ⟨fun h => by rw [h], fun h => (List.cons.inj h).1⟩
    | m :: k :: t, _ =>
     rw [decide_eq_false (show ¬ ((((m :: k :: t).length : Nat) : Int) = 1) by simp; omega)]
     exact (decide_eq_false (by simp)).symm
   rw [alone]
   have hiff := FB n
   have : NOk n ↔ (n.2.2.1 = [n.1] ∨ cu n.2.2.1 n.1.1 = true) := ⟨fun h => h.succs, fun h => ⟨a1, a2, b1, b2, h, b3, b4⟩⟩
   rw [this] at hiff
   cases hg : aT n with
   | true =>
    rcases hiff.1 hg with h | h
    ·rw [decide_eq_true h]; rfl
    ·rw [h]; cases decide (n.2.2.1 = [n.1]) <;> rfl
   | false =>
    have hno : ¬ (n.2.2.1 = [n.1] ∨ cu n.2.2.1 n.1.1 = true) := fun h => by rw [hiff.2 h] at hg; cases hg
    rw [decide_eq_false fun h => hno (.inl h)]
    cases hu : cu n.2.2.1 n.1.1 with
    | false => rfl
    | true => exact absurd (.inr hu) hno
abbrev GM0 (O : Nat → Prop) (w0 : World) (y : List Mem) := bv prog nk (Cx.base O w0) (bR prog O w0 pB fun z => z = (y, ()))
def LN (O : Nat → Prop) (w0 : World) (l : List Nd) (hm : l.length ≤ 1000000) :=
 PLift.up <| bl (σ := List Mem) l.length (fun i b => b = (l.take i).map sfN)
  (fun i b => GM0 O w0 (aj l) [] gD (lp gb 3) (uy l (lnx ag l) (i : Nat) b))
  (fun i b hi hs ih => au rE (oV l _ _ b) (by
   refine ⟨fun _ => ⟨aU hi, ?_, ?_⟩, fun hc => absurd hi (by rw [bO (e := ag)] at hc; exact of_decide_eq_false hc)⟩
   ·rw [List.length_append, hs, List.length_map, List.length_take]
    exact Nat.le_trans (show min i l.length + 1 ≤ 1000001 by omega) (by decide)
   ·rw [bD (e := ag) hi, bK hi (Nat.le_trans hm (by decide))]
    refine ih _ ?_
    rw [List.take_succ_eq_append_getElem hi, List.map_append, hs]; rfl))
  (fun b hs => au rE (oV l _ _ b) ⟨fun hc => absurd (of_decide_eq_true hc) (Int.lt_irrefl _), fun _ => ⟨_, rfl, by
   rw [List.take_length] at hs
   rw [hs]; rfl⟩⟩)
theorem yx : ak prog [] hY ii :=
 bq (S := ii) rE (fx := gD) F8 (by kernel_rfl) (fun h => by cases h) (T := fun x => yN x.1) (fun x => Ds x.1) fun O w0 x _ hp =>
  (LN O w0 x.1.1 hp).down 0 [] (Nat.zero_le _) rfl
end Go.Proofs.Ytimdnodkabnbfaa
