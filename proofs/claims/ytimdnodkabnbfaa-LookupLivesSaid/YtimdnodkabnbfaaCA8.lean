/- Part 8 of 9 of what this claim's proof stands on: a theory of programs on data, and the contracts of the functions that the law reaches. It holds no condition of its own. -/
import Derived.Test.YtimdnodkabnbfaaCA7
namespace Go.Proofs.Ytimdnodkabnbfaa
open Go Go.RowKit
noncomputable abbrev gz : Fx := { fn := d9, ann := { } }
noncomputable abbrev gW : a8 := { D := { T := br, F := [(cL, dC)], R := [], ovl := [] }, inl := [] }
noncomputable abbrev mm : bG := .data gB
theorem mj (h_slices_IndexFunc_Member : aC prog [] cL dC) : XOk prog gW := xok (aH (aV bf aP) h_slices_IndexFunc_Member) (by kernel_rfl) aW bh bg
noncomputable def gU (s : den (Ty.slc ab)) (f : den (Ty.fn (Ty.pair ab Ty.unit) (Ty.pair Ty.bool Ty.unit))) : af := af.req (∃ (h : den (Ty.pair ab Ty.unit) → den (Ty.pair Ty.bool Ty.unit)), f = some h) (af.ret (K.val (Ty.pair Ty.bool Ty.unit) (decide (0 ≤ ixP (prM f) s 0), PUnit.unit)))
theorem lv (s : den (Ty.slc ab)) (f : den (Ty.fn (Ty.pair ab Ty.unit) (Ty.pair Ty.bool Ty.unit))) : ap gW mm 5000 [] gz (aI d9) (Env.of (aN gA (s, f, ()) 0) []) = gU s f := by kernel_rfl
noncomputable abbrev jX : Fx := { fn := gt, ann := { frz := [(1, [1])] } }
noncomputable abbrev kf : a8 := { D := { T := br, F := [], R := [], ovl := [] }, inl := [] }
noncomputable abbrev qF : bG := .data jo
theorem qV : XOk prog kf := xok ((aV bf aP)) (by kernel_rfl) aW bh bg
noncomputable def ka (s : den (Ty.slc ab)) : af := af.ret (K.val (Ty.pair (Ty.clo cQ (Ty.pair (Ty.ref (Ty.slc ab)) Ty.unit)) Ty.unit) ((s, PUnit.unit), PUnit.unit))
theorem n6 (s : den (Ty.slc ab)) : ap kf qF 5000 [] jX (aI gt) (Env.of (aN jZ (s, ()) 0) []) = ka s := by kernel_rfl
noncomputable abbrev fV : Fx := { fn := fC, ann := { loops := [(2, { keep := [0, 6, 7, 8] })], frz := [(4, [4])] } }
noncomputable abbrev jF : a8 := { D := { T := br, F := [(bO, bP), (jV, jM)], R := [], ovl := [] }, inl := [] }
noncomputable abbrev tT : bG := .data nt
theorem A7 (h_slices_ContainsFunc_Member : aC prog [] bO bP) (h_ring_Right_1 : aC prog [] jV jM) : XOk prog jF := xok (aH (aH (aV bf aP) h_ring_Right_1) h_slices_ContainsFunc_Member) (by kernel_rfl) aW bh bg
noncomputable def ut (l : den (Ty.slc ab)) : af := af.loop [] fV (lp fC 2) [(0, K.val (Ty.slc ab) l), (6, K.val (Ty.slc ab) l), (7, K.val ae (lnx ab l)), (8, K.val ae 0)] []
theorem xG (l : den (Ty.slc ab)) : ap jF tT 5000 [] fV (aI fC) (Env.of (aN sU (l, ()) 0) []) = ut l := by kernel_rfl
noncomputable def rL (v0 : den (Ty.slc ab)) (v6 : den (Ty.slc ab)) (v7 : den ae) (v8 : den ae) : Env := Env.of [(0, K.val (Ty.slc ab) v0), (6, K.val (Ty.slc ab) v6), (7, K.val ae v7), (8, K.val ae v8)] []
noncomputable def xn (v0 : den (Ty.slc ab)) (v6 : den (Ty.slc ab)) (v7 : den ae) (v8 : den ae) : af := af.ite (decide (v8 < v7)) (af.req (inB v8 (lnx ab v6)) (af.req (bq 0 v8 (lnx ab v0)) (af.req (∀ (y : den (Ty.pair ab Ty.unit)), True) (af.req (∃ (h : den (Ty.pair ab Ty.unit) → den (Ty.pair Ty.bool Ty.unit)), (some fun (y : den (Ty.pair ab Ty.unit)) ↦ (k4 (Prod.fst y) (el ab v6 v8), PUnit.unit)) = some h) (af.ite (bif bif List.any (e9 ab v0 0 v8) (prM (some fun (y : den (Ty.pair ab Ty.unit)) ↦ (k4 (Prod.fst y) (el ab v6 v8), PUnit.unit))) then true else decide (Prod.fst (el ab v6 v8) < 0) then true else decide (16 ≤ Prod.fst (el ab v6 v8))) (af.ret (K.val (Ty.pair Ty.bool Ty.unit) (false, PUnit.unit))) (af.loop [] fV (lp fC 2) [(0, K.val (Ty.slc ab) v0), (6, K.val (Ty.slc ab) v6), (7, K.val ae v7), (8, K.val ae (IntKind.wrap IntKind.i64 (v8 + 1)))] [])))))) (af.ret (K.val (Ty.pair Ty.bool Ty.unit) (decide (lnx ab v0 ≤ 16), PUnit.unit)))
theorem nq (v0 : den (Ty.slc ab)) (v6 : den (Ty.slc ab)) (v7 : den ae) (v8 : den ae) : ap jF tT 5000 [] fV (lp fC 2) (rL v0 v6 v7 v8) = xn v0 v6 v7 v8 := by kernel_rfl
end Go.Proofs.Ytimdnodkabnbfaa
namespace Go.Proofs.Ytimdnodkabnbfaa
open Go Go.RowKit
theorem gP : aC prog [] bO bP :=
 bY (S := bP) (mj od) (fx := gz) lX (by kernel_rfl) (fun h => by cases h) (T := fun x => gU x.1 x.2.1) (fun x => lv x.1 x.2.1) fun O w0 x _ hp =>
  ⟨hp, _, rfl, by show (decide (0 ≤ ixP (prM x.2.1) x.1 0), ()) = (x.1.any (prM x.2.1), ()); rw [GX]⟩
theorem qH : aC prog [] eI eE :=
 bY (S := eE) qV (fx := jX) pC (by kernel_rfl) (fun h => by cases h) (T := fun x => ka x.1) (fun x => n6 x.1) fun O w0 x _ _ => ⟨_, rfl, rfl⟩
abbrev GRi (O : Nat → Prop) (w0 : World) (y : Bool) := bw prog jF (Cx.base O w0) (cv prog O w0 nt fun z => z = (y, ()))
theorem nA : XOk prog jF := A7 gP yX
theorem EE (pre : List Mem) (m : Mem) (l : List Mem) : wS pre (m :: l) = ((!(pre.any fun x => k4 x m)) && decide (0 ≤ m.1) && decide (m.1 < 16) && wS (pre ++ [m]) l) := rfl
theorem AC {e : Ty} (xs : List (den e)) (i : Nat) : e9 e xs 0 (i : Nat) = xs.take i := by
 unfold e9 ip
 rw [Int.toNat_natCast]
 exact List.drop_zero
def zX (O : Nat → Prop) (w0 : World) (l : List Mem) (hm : l.length ≤ maxLen) :=
 PLift.up <| bF (σ := Unit) l.length (fun i _ => wS (l.take i) (l.drop i) = wS [] l)
  (fun i _ => GRi O w0 (io l) [] fV (lp fC 2) (rL l l (lnx ab l) (i : Nat)))
  (fun i _ hi hs ih => aO nA (nq l l _ _) (by
   rw [List.drop_eq_getElem_cons hi, EE, ← List.take_succ_eq_append_getElem hi] at hs
   have hi' : i ≤ l.length := Nat.le_of_lt hi
   refine ⟨fun _ => ⟨be hi, ⟨Int.le_refl _, Int.natCast_nonneg _, Int.ofNat_le.2 hi'⟩, fun _ => trivial, ⟨_, rfl⟩, ?_⟩, fun hc => absurd hi (by rw [cp] at hc; exact of_decide_eq_false hc)⟩
   rw [cn hi, cF hi hm, AC]
   have e1 : ∀ xs : List Mem, (xs.any (prM (some fun y => (k4 y.1 l[i], PUnit.unit)))) = xs.any fun x => k4 x l[i] := fun xs => rfl
   refine ⟨fun hc => ⟨_, rfl, ?_⟩, fun hc => ih () ?_⟩
   ·rw [e1] at hc
    show (false, ()) = (io l, ())
    have : wS [] l = false := by
     rw [← hs]
     cases h1 : (l.take i).any (fun x => k4 x l[i]) with
     | true => rfl
     | false =>
      rw [h1] at hc
      by_cases h2 : (l[i].1 : Int) < 0
      ·rw [decide_eq_false (show ¬ (0 : Int) ≤ l[i].1 from fun h => absurd h2 (Int.not_lt.2 h))]; rfl
      ·rw [decide_eq_false h2] at hc
       have h3 : (16 : Int) ≤ l[i].1 := of_decide_eq_true hc
       rw [decide_eq_false (show ¬ (l[i].1 : Int) < 16 from Int.not_lt.2 h3)]
       cases decide (0 ≤ l[i].1) <;> rfl
    unfold io
    rw [this]
    rfl
   ·rw [e1] at hc
    rw [← hs]
    cases h1 : (l.take i).any (fun x => k4 x l[i]) with
    | true => rw [h1] at hc; cases hc
    | false =>
     rw [h1] at hc
     by_cases h2 : (l[i].1 : Int) < 0
     ·rw [decide_eq_true h2] at hc; cases hc
     ·rw [decide_eq_false h2] at hc
      have h3 : ¬ (16 : Int) ≤ l[i].1 := of_decide_eq_false hc
      rw [decide_eq_true (show (0 : Int) ≤ l[i].1 from Int.not_lt.1 h2), decide_eq_true (show (l[i].1 : Int) < 16 from Int.not_le.1 h3)]
      rfl))
  (fun _ hs => aO nA (nq l l _ _) (by
   refine ⟨fun hc => absurd (of_decide_eq_true hc) (Int.lt_irrefl _), fun _ => ⟨_, rfl, ?_⟩⟩
   rw [List.drop_length] at hs
   show (decide ((l.length : Int) ≤ 16), ()) = (io l, ())
   unfold io
   rw [← hs]
   have : decide ((l.length : Int) ≤ 16) = decide (l.length ≤ 16) := decide_eq_decide.2 (by omega)
   rw [this]
   rfl))
theorem BA : aC prog [] lH lT :=
 bY (S := lT) nA (fx := fV) Ac (by kernel_rfl) (fun _ _ => trivial) (T := fun x => ut x.1) (fun x => xG x.1) fun O w0 x hk _ =>
  (zX O w0 x.1 hk.1.1).down 0 () (Nat.zero_le _) rfl
end Go.Proofs.Ytimdnodkabnbfaa
namespace Go.Proofs.Ytimdnodkabnbfaa
open Go Go.RowKit
abbrev Iw (m : Mem) : Int := vB m.2.1
abbrev OkM (l : List Mem) : Prop := ∀ m ∈ l, okT ab m
theorem uO {m : Mem} (h : okT ab m) : H1 m.2.1 := HJ h.2.1
theorem yB {x m : Mem} (h : x.1 = m.1) : k4 x m = true := by unfold k4; rw [decide_eq_true h]; rfl
theorem C5 {x m : Mem} (h : x.2.1 = m.2.1) : k4 x m = true := by
 unfold k4
 have : eqb tId x.2.1 m.2.1 = true := (lh (t := tId) rfl _ _).2 h
 rw [this]
 cases decide (x.1 = m.1) <;> rfl
structure RR (l : List Mem) : Prop where
 len : l.length ≤ 16
 no : ∀ m ∈ l, 0 ≤ (m.1 : Int) ∧ (m.1 : Int) < 16
 pw : l.Pairwise fun x m => k4 x m = false
theorem RR.at {l : List Mem} (h : RR l) {i j : Nat} (hij : i < j) (hj : j < l.length) : k4 l[i] l[j] = false := List.pairwise_iff_getElem.1 h.pw i j (by omega) hj hij
theorem RR.inj {l : List Mem} (h : RR l) {x y : Mem} (hx : x ∈ l) (hy : y ∈ l) (e : x.1 = y.1 ∨ x.2.1 = y.2.1) : x = y := by
 obtain ⟨i, hi, rfl⟩ := List.getElem_of_mem hx
 obtain ⟨j, hj, rfl⟩ := List.getElem_of_mem hy
 rcases Nat.lt_trichotomy i j with h1 | h1 | h1
 ·have := h.at h1 hj
  rcases e with e | e
  ·rw [yB e] at this; cases this
  ·rw [C5 e] at this; cases this
 ·subst h1; rfl
 ·have := h.at h1 hi
  rcases e with e | e
  ·rw [yB e.symm] at this; cases this
  ·rw [C5 e.symm] at this; cases this
theorem RR.nodup {l : List Mem} (h : RR l) : l.Nodup := List.Pairwise.imp (fun {x m} hf e => by rw [e, yB rfl] at hf; cases hf) h.pw
theorem RR.rng {l : List Mem} (h : RR l) (hk : OkM l) : DD Iw sK l :=
 ⟨fun m hm => qj (uO (hk m hm)), fun x hx y hy e => h.inj hx hy (.inr (BI (by rw [(uO (hk x hx)).1, (uO (hk y hy)).1]) (uO (hk x hx)).2 (uO (hk y hy)).2 e))⟩
end Go.Proofs.Ytimdnodkabnbfaa
namespace Go.Proofs.Ytimdnodkabnbfaa
open Go Go.RowKit
section
variable {l : List Mem}
end
end Go.Proofs.Ytimdnodkabnbfaa
namespace Go.Proofs.Ytimdnodkabnbfaa
open Go Go.RowKit
section
variable {l : List Mem}
theorem RR.sub {l l' : List Mem} (h : RR l) (hs : l'.Sublist l) : RR l' := ⟨Nat.le_trans hs.length_le h.len, fun m hm => h.no m (hs.subset hm), h.pw.sublist hs⟩
end
end Go.Proofs.Ytimdnodkabnbfaa
namespace Go.Proofs.Ytimdnodkabnbfaa
open Go Go.RowKit
end Go.Proofs.Ytimdnodkabnbfaa
namespace Go.Proofs.Ytimdnodkabnbfaa
open Go Go.RowKit
abbrev Nd := den ag
abbrev sfN (n : Nd) : Mem := n.1
def fc (m : Mem) : Bool := bif decide (0 ≤ m.1) then decide (m.1 < 16) else false
def yu (no : Int) : List Mem → List Mem → Bool
 | _, [] => true
 | pre, m :: l => bif (bif (bif !fc m then true else decide (m.1 = no)) then true else pre.any fun x => decide (x.1 = m.1)) then false else yu no (pre ++ [m]) l
def dq (l : List Mem) (no : Int) : Bool := yu no [] l
def uq (n : Nd) : Bool := bif decide (n.2.1 = noM) then true else bif fc n.2.1 then !decide (n.2.1.1 = n.1.1) else false
def qY (n : Nd) : Bool := bif (bif decide (1 ≤ lnx ab n.2.2.1) then decide (lnx ab n.2.2.1 ≤ 4) else false) then (bif decide (n.2.2.1 = [n.1]) then true else dq n.2.2.1 n.1.1) else false
def a9 (n : Nd) : Bool := bif (bif (bif (bif fc n.1 then uq n else false) then qY n else false) then decide (lnx ab n.2.2.2.1 ≤ 16) else false) then dq n.2.2.2.1 n.1.1 else false
def ov (n : Nd) (id : List Int) : Bool := bif (bif a9 n then !decide (n.2.1 = noM) else false) then nx id n.2.1.2.1 n.1.2.1 else false
def lI (self id : List Int) (m : Mem) : Bool := bif (bif !decide (m.2.1 = self) then !decide (m.2.1 = id) else false) then nx m.2.1 self id else false
def fF (self : List Int) (b : Mem × Int) (m : Mem) : Mem × Int := bif (bif !decide (b.2 = 0) then true else decide (lN (c5 self b.1.2.1) (c5 self m.2.1) < 0)) then (m, 0) else b
def cS (id self : List Int) (l : List Mem) : Mem × Int := (l.filter (lI self id)).foldl (fF self) (zero ab, 6)
def da (n : Nd) (id : List Int) : Mem × Bool × Int :=
 bif !a9 n then (zero ab, false, 1) else
 bif nx id n.1.2.1 (el ab n.2.2.1 0).2.1 then (el ab n.2.2.1 0, true, 0) else
 bif !decide ((cS id n.1.2.1 (n.2.2.2.1 ++ n.2.2.1)).2 = 0) then (el ab n.2.2.1 0, false, 0) else
 ((cS id n.1.2.1 (n.2.2.2.1 ++ n.2.2.1)).1, false, 0)
def bl (self : Int) (nos : List Int) (m : Mem) : Bool := bif !decide (m.1 = self) then nos.any (fun x => decide (x = m.1)) else false
def nW (n : Nd) (l : List Mem) : List Mem := bif decide (lnx ab l = 0) then [n.1] else l
def kO (n : Nd) (nos : List Int) : Nd :=
 (n.1, (bif (bif !decide (n.2.1 = noM) then bl n.1.1 nos n.2.1 else false) then noM else n.2.1),
  nW n (n.2.2.1.filter fun m => !bl n.1.1 nos m), n.2.2.2.1.filter (fun m => !bl n.1.1 nos m), ())
def fo (n : Nd) (nos : List Int) : Nd × Int := bif !a9 n then (zero ag, 1) else (kO n nos, 0)
def F0 (no : Int) : den (.fn (.pair ab .unit) (.pair .bool .unit)) := some fun y => (decide (y.1.1 = no), ())
noncomputable abbrev fi : bt := ⟨tH, tn, fun _ => (noM, ()), fun _ => True, true⟩
noncomputable abbrev jU : bt := ⟨vp, vH, fun x => (fc x.1, ()), fun _ => True, true⟩
noncomputable abbrev mZ : bt := ⟨tz, tX, fun x => (decide (x.1.1 = x.2.1), ()), fun _ => True, true⟩
noncomputable abbrev pJ : bt := ⟨xr, yk, fun x => (F0 x.1, ()), fun _ => True, true⟩
noncomputable abbrev kM : bt := ⟨rM, my, fun x => (dq x.1 x.2.1, ()), fun _ => True, true⟩
noncomputable abbrev eW : bt := ⟨kd, gq, fun x => (decide (x.1 = x.2.1), ()), fun _ => True, true⟩
def ixI (n : Int) : List Int → Int → Int
 | [], _ => -1
 | x :: l, i => bif decide (n = x) then i else ixI n l (i + 1)
noncomputable abbrev f6 : bt := ⟨l6, lZ, fun x => (ixI x.2.1 x.1 0, ()), fun _ => True, true⟩
noncomputable abbrev eV : bt := ⟨kz, ku, fun x => (List.any x.1 (fun y => decide (y = x.2.1)), ()), fun _ => True, true⟩
noncomputable abbrev dg : bt := ⟨sR, s6, fun x => (a9 x.1, ()), fun _ => True, true⟩
noncomputable abbrev mM : bt := ⟨tD, uy, fun x => (ov x.1 x.2.1, ()), fun _ => True, true⟩
noncomputable abbrev kR : bt := ⟨rf, rA, fun x => (bl (sfN x.2.1).1 x.2.2.1 x.1, ()), fun _ => True, true⟩
noncomputable abbrev m4 : bt := ⟨tY, gL, fun x => ((fo x.1 x.2.1).1, (fo x.1 x.2.1).2, ()), fun _ => True, true⟩
noncomputable abbrev kE : bt := ⟨tl, oG, fun x => ((da x.1 x.2.1).1, (da x.1 x.2.1).2.1, (da x.1 x.2.1).2.2, ()), fun _ => True, true⟩
noncomputable abbrev gh : bt := ⟨l8, me, fun x => (lI x.2.1 x.2.2.1 x.1, ()), fun _ => True, true⟩
noncomputable abbrev ic : bt := ⟨nS, j8, fun x => ((cS x.1 x.2.1 x.2.2.1).1, (cS x.1 x.2.1 x.2.2.1).2, ()), fun _ => True, true⟩
@[reducible] def gT : eY := ⟨ab, false, .pair (.slc ab) .unit, true, fun _ y => y.1.length ≤ bM, fun _ y => y.1⟩
@[reducible] def qx : eY := ⟨ab, false, .pair (.slc (.slc ab)) .unit, true, fun _ y => (y.1.flatten : List Mem).length ≤ bM, fun _ y => (y.1.flatten : List Mem)⟩
end Go.Proofs.Ytimdnodkabnbfaa
namespace Go.Proofs.Ytimdnodkabnbfaa
open Go Go.RowKit
noncomputable abbrev t6 : Fx := { fn := qw, ann := { } }
noncomputable abbrev vm : a8 := { D := { T := br, F := [], R := [], ovl := [] }, inl := [] }
noncomputable abbrev CG : bG := .data tn
theorem Co : XOk prog vm := xok ((aV bf aP)) (by kernel_rfl) aW bh bg
noncomputable def vN : af := af.ret (K.val (Ty.pair ab Ty.unit) ((-1, zero (Ty.pair tId Ty.unit)), PUnit.unit))
theorem zg : ap vm CG 5000 [] t6 (aI qw) (Env.of (aN tH () 0) []) = vN := by kernel_rfl
noncomputable abbrev vI : Fx := { fn := sE, ann := { } }
noncomputable abbrev xU : a8 := { D := { T := br, F := [], R := [], ovl := [] }, inl := [] }
noncomputable abbrev Ed : bG := .data vH
theorem DQ : XOk prog xU := xok ((aV bf aP)) (by kernel_rfl) aW bh bg
noncomputable def xZ (m : den ab) : af := af.ret (K.val (Ty.pair Ty.bool Ty.unit) (bif decide (0 ≤ Prod.fst m) then decide (Prod.fst m < 16) else false, PUnit.unit))
theorem Al (m : den ab) : ap xU Ed 5000 [] vI (aI sE) (Env.of (aN vp (m, ()) 0) []) = xZ m := by kernel_rfl
noncomputable abbrev tG : Fx := { fn := qA, ann := { } }
noncomputable abbrev vT : a8 := { D := { T := br, F := [], R := [], ovl := [] }, inl := [] }
noncomputable abbrev CY : bG := .data tX
theorem B4 : XOk prog vT := xok ((aV bf aP)) (by kernel_rfl) aW bh bg
noncomputable def vF (m : den ab) (no : den (Ty.ref ae)) : af := af.ret (K.val (Ty.pair Ty.bool Ty.unit) (decide (Prod.fst m = no), PUnit.unit))
theorem yZ (m : den ab) (no : den (Ty.ref ae)) : ap vT CY 5000 [] tG (aI qA) (Env.of (aN tz (m, no, ()) 0) []) = vF m no := by kernel_rfl
noncomputable abbrev yg : Fx := { fn := t8, ann := { frz := [(1, [1])] } }
noncomputable abbrev zH : a8 := { D := { T := br, F := [(mW, mZ)], R := [], ovl := [] }, inl := [] }
noncomputable abbrev Fk : bG := .data yk
theorem ET (h_node_of_1 : aC prog [] mW mZ) : XOk prog zH := xok (aH (aV bf aP) h_node_of_1) (by kernel_rfl) aW bh bg
noncomputable def zo (no : den ae) : af := af.req (∀ (y : den (Ty.pair ab Ty.unit)), True) (af.ret (K.val (Ty.pair (Ty.fn (Ty.pair ab Ty.unit) (Ty.pair Ty.bool Ty.unit)) Ty.unit) (some fun (y : den (Ty.pair ab Ty.unit)) ↦ (decide (Prod.fst (Prod.fst y) = no), PUnit.unit), PUnit.unit)))
theorem AX (no : den ae) : ap zH Fk 5000 [] yg (aI t8) (Env.of (aN xr (no, ()) 0) []) = zo no := by kernel_rfl
noncomputable abbrev ft : Fx := { fn := fb, ann := { loops := [(2, { keep := [0, 1, 7, 8, 9] })] } }
noncomputable abbrev iP : a8 := { D := { T := br, F := [(jK, jU), (pY, pJ), (bO, bP)], R := [], ovl := [] }, inl := [] }
noncomputable abbrev sP : bG := .data my
theorem Am (h_node_may : aC prog [] jK jU) (h_node_of : aC prog [] pY pJ) (h_slices_ContainsFunc_Member : aC prog [] bO bP) : XOk prog iP := xok (aH (aH (aH (aV bf aP) h_slices_ContainsFunc_Member) h_node_of) h_node_may) (by kernel_rfl) aW bh bg
noncomputable def sM (l : den (Ty.slc ab)) (no : den ae) : af := af.loop [] ft (lp fb 2) [(0, K.val (Ty.slc ab) l), (1, K.val ae no), (7, K.val (Ty.slc ab) l), (8, K.val ae (lnx ab l)), (9, K.val ae 0)] []
theorem we (l : den (Ty.slc ab)) (no : den ae) : ap iP sP 5000 [] ft (aI fb) (Env.of (aN rM (l, no, ()) 0) []) = sM l no := by kernel_rfl
noncomputable def pK (v0 : den (Ty.slc ab)) (v1 : den ae) (v7 : den (Ty.slc ab)) (v8 : den ae) (v9 : den ae) : Env := Env.of [(0, K.val (Ty.slc ab) v0), (1, K.val ae v1), (7, K.val (Ty.slc ab) v7), (8, K.val ae v8), (9, K.val ae v9)] []
noncomputable def wN (v0 : den (Ty.slc ab)) (v1 : den ae) (v7 : den (Ty.slc ab)) (v8 : den ae) (v9 : den ae) : af := af.ite (decide (v9 < v8)) (af.req (inB v9 (lnx ab v7)) (af.req True (af.req (dH [(bif !fc (el ab v7 v9) then true else decide (Prod.fst (el ab v7 v9) = v1), false)] (bq 0 v9 (lnx ab v0))) (af.req (dH [(bif !fc (el ab v7 v9) then true else decide (Prod.fst (el ab v7 v9) = v1), false)] True) (af.req (dH [(bif !fc (el ab v7 v9) then true else decide (Prod.fst (el ab v7 v9) = v1), false)] (∃ (h : den (Ty.pair ab Ty.unit) → den (Ty.pair Ty.bool Ty.unit)), F0 (Prod.fst (el ab v7 v9)) = some h)) (af.ite (bif bif !fc (el ab v7 v9) then true else decide (Prod.fst (el ab v7 v9) = v1) then true else List.any (e9 ab v0 0 v9) (prM (F0 (Prod.fst (el ab v7 v9))))) (af.ret (K.val (Ty.pair Ty.bool Ty.unit) (false, PUnit.unit))) (af.loop [] ft (lp fb 2) [(0, K.val (Ty.slc ab) v0), (1, K.val ae v1), (7, K.val (Ty.slc ab) v7), (8, K.val ae v8), (9, K.val ae (IntKind.wrap IntKind.i64 (v9 + 1)))] []))))))) (af.ret (K.val (Ty.pair Ty.bool Ty.unit) (true, PUnit.unit)))
theorem mf (v0 : den (Ty.slc ab)) (v1 : den ae) (v7 : den (Ty.slc ab)) (v8 : den ae) (v9 : den ae) : ap iP sP 5000 [] ft (lp fb 2) (pK v0 v1 v7 v8 v9) = wN v0 v1 v7 v8 v9 := by kernel_rfl
noncomputable abbrev cJ : Fx := { fn := cg, ann := { loops := [(4, { keep := [0, 1, 12, 13] })] } }
noncomputable abbrev eS : a8 := { D := { T := br, F := [], R := [], ovl := [] }, inl := [] }
noncomputable abbrev lf : bG := .data gq
theorem gY : XOk prog eS := xok ((aV bf aP)) (by kernel_rfl) aW bh bg
noncomputable def ld (a : den (Ty.slc ab)) (b : den (Ty.slc ab)) : af := af.ite (!decide (lnx ab a = lnx ab b)) (af.ret (K.val (Ty.pair Ty.bool Ty.unit) (false, PUnit.unit))) (af.loop [] cJ (lp cg 4) [(0, K.val (Ty.slc ab) a), (1, K.val (Ty.slc ab) b), (12, K.val ae (lnx ab a)), (13, K.val ae 0)] [])
theorem oY (a : den (Ty.slc ab)) (b : den (Ty.slc ab)) : ap eS lf 5000 [] cJ (aI cg) (Env.of (aN kd (a, b, ()) 0) []) = ld a b := by kernel_rfl
noncomputable def jY (v0 : den (Ty.slc ab)) (v1 : den (Ty.slc ab)) (v12 : den ae) (v13 : den ae) : Env := Env.of [(0, K.val (Ty.slc ab) v0), (1, K.val (Ty.slc ab) v1), (12, K.val ae v12), (13, K.val ae v13)] []
noncomputable def pf (v0 : den (Ty.slc ab)) (v1 : den (Ty.slc ab)) (v12 : den ae) (v13 : den ae) : af := af.ite (decide (v13 < v12)) (af.req (inB v13 (lnx ab v0)) (af.req (inB v13 (lnx ab v1)) (af.ite (!eqb ab (el ab v0 v13) (el ab v1 v13)) (af.ret (K.val (Ty.pair Ty.bool Ty.unit) (false, PUnit.unit))) (af.loop [] cJ (lp cg 4) [(0, K.val (Ty.slc ab) v0), (1, K.val (Ty.slc ab) v1), (12, K.val ae v12), (13, K.val ae (IntKind.wrap IntKind.i64 (v13 + 1)))] [])))) (af.ret (K.val (Ty.pair Ty.bool Ty.unit) (true, PUnit.unit)))
theorem ia (v0 : den (Ty.slc ab)) (v1 : den (Ty.slc ab)) (v12 : den ae) (v13 : den ae) : ap eS lf 5000 [] cJ (lp cg 4) (jY v0 v1 v12 v13) = pf v0 v1 v12 v13 := by kernel_rfl
noncomputable abbrev db : Fx := { fn := cR, ann := { loops := [(2, { keep := [0, 1, 7, 8] })] } }
noncomputable abbrev jI : a8 := { D := { T := br, F := [], R := [], ovl := [] }, inl := [] }
noncomputable abbrev np : bG := .data lZ
theorem jH : XOk prog jI := xok ((aV bf aP)) (by kernel_rfl) aW bh bg
noncomputable def na (s : den (Ty.slc ae)) (v : den ae) : af := af.loop [] db (lp cR 2) [(0, K.val (Ty.slc ae) s), (1, K.val ae v), (7, K.val ae (lnx ae s)), (8, K.val ae 0)] []
theorem r8 (s : den (Ty.slc ae)) (v : den ae) : ap jI np 5000 [] db (aI cR) (Env.of (aN l6 (s, v, ()) 0) []) = na s v := by kernel_rfl
noncomputable def lU (v0 : den (Ty.slc ae)) (v1 : den ae) (v7 : den ae) (v8 : den ae) : Env := Env.of [(0, K.val (Ty.slc ae) v0), (1, K.val ae v1), (7, K.val ae v7), (8, K.val ae v8)] []
noncomputable def rz (v0 : den (Ty.slc ae)) (v1 : den ae) (v7 : den ae) (v8 : den ae) : af := af.ite (decide (v8 < v7)) (af.req (inB v8 (lnx ae v0)) (af.ite (decide (v1 = el ae v0 v8)) (af.ret (K.val (Ty.pair ae Ty.unit) (v8, PUnit.unit))) (af.loop [] db (lp cR 2) [(0, K.val (Ty.slc ae) v0), (1, K.val ae v1), (7, K.val ae v7), (8, K.val ae (IntKind.wrap IntKind.i64 (v8 + 1)))] []))) (af.ret (K.val (Ty.pair ae Ty.unit) (-1, PUnit.unit)))
theorem jJ (v0 : den (Ty.slc ae)) (v1 : den ae) (v7 : den ae) (v8 : den ae) : ap jI np 5000 [] db (lp cR 2) (lU v0 v1 v7 v8) = rz v0 v1 v7 v8 := by kernel_rfl
noncomputable abbrev kb : Fx := { fn := gS, ann := { } }
noncomputable abbrev k8 : a8 := { D := { T := br, F := [(ge, f6)], R := [], ovl := [] }, inl := [] }
noncomputable abbrev rc : bG := .data ku
theorem re (h_slices_Index_int : aC prog [] ge f6) : XOk prog k8 := xok (aH (aV bf aP) h_slices_Index_int) (by kernel_rfl) aW bh bg
noncomputable def lq (s : den (Ty.slc ae)) (v : den ae) : af := af.req True (af.ret (K.val (Ty.pair Ty.bool Ty.unit) (decide (0 ≤ ixI v s 0), PUnit.unit)))
theorem pp (s : den (Ty.slc ae)) (v : den ae) : ap k8 rc 5000 [] kb (aI gS) (Env.of (aN kz (s, v, ()) 0) []) = lq s v := by kernel_rfl
noncomputable abbrev s8 : Fx := { fn := o4, ann := { } }
noncomputable abbrev t7 : a8 := { D := { T := br, F := [(fj, fi), (jK, jU), (kN, kM), (eU, eW)], R := [], ovl := [] }, inl := [] }
noncomputable abbrev AH : bG := .data s6
theorem Bh (h_node_none : aC prog [] fj fi) (h_node_may : aC prog [] jK jU) (h_node_unlike : aC prog [] kN kM) (h_slices_Equal_Member : aC prog [] eU eW) : XOk prog t7 := xok (aH (aH (aH (aH (aV bf aP) h_slices_Equal_Member) h_node_unlike) h_node_may) h_node_none) (by kernel_rfl) aW bh bg
noncomputable def tr (n : den ag) : af := af.req True (af.req (dH [(eqb ab (Prod.fst (Prod.snd n)) noM, false)] True) (af.req True (af.req (dH [(bif decide (1 ≤ lnx ab (Prod.fst (Prod.snd (Prod.snd n)))) then decide (lnx ab (Prod.fst (Prod.snd (Prod.snd n))) ≤ 4) else false, true), (decide (Prod.fst (Prod.snd (Prod.snd n)) = List.set (List.replicate 1 (zero ab)) 0 (Prod.fst n)), false)] True) (af.req True (af.req (dH [(bif bif bif fc (Prod.fst n) then bif eqb ab (Prod.fst (Prod.snd n)) noM then true else bif fc (Prod.fst (Prod.snd n)) then !decide (Prod.fst (Prod.fst (Prod.snd n)) = Prod.fst (Prod.fst n)) else false else false then bif bif decide (1 ≤ lnx ab (Prod.fst (Prod.snd (Prod.snd n)))) then decide (lnx ab (Prod.fst (Prod.snd (Prod.snd n))) ≤ 4) else false then bif decide (Prod.fst (Prod.snd (Prod.snd n)) = List.set (List.replicate 1 (zero ab)) 0 (Prod.fst n)) then true else dq (Prod.fst (Prod.snd (Prod.snd n))) (Prod.fst (Prod.fst n)) else false else false then decide (lnx ab (Prod.fst (Prod.snd (Prod.snd (Prod.snd n)))) ≤ 16) else false, true)] True) (af.ret (K.val (Ty.pair Ty.bool Ty.unit) (bif bif bif bif fc (Prod.fst n) then bif eqb ab (Prod.fst (Prod.snd n)) noM then true else bif fc (Prod.fst (Prod.snd n)) then !decide (Prod.fst (Prod.fst (Prod.snd n)) = Prod.fst (Prod.fst n)) else false else false then bif bif decide (1 ≤ lnx ab (Prod.fst (Prod.snd (Prod.snd n)))) then decide (lnx ab (Prod.fst (Prod.snd (Prod.snd n))) ≤ 4) else false then bif decide (Prod.fst (Prod.snd (Prod.snd n)) = List.set (List.replicate 1 (zero ab)) 0 (Prod.fst n)) then true else dq (Prod.fst (Prod.snd (Prod.snd n))) (Prod.fst (Prod.fst n)) else false else false then decide (lnx ab (Prod.fst (Prod.snd (Prod.snd (Prod.snd n)))) ≤ 16) else false then dq (Prod.fst (Prod.snd (Prod.snd (Prod.snd n)))) (Prod.fst (Prod.fst n)) else false, PUnit.unit))))))))
theorem yn (n : den ag) : ap t7 AH 5000 [] s8 (aI o4) (Env.of (aN sR (n, ()) 0) []) = tr n := by kernel_rfl
noncomputable abbrev tW : Fx := { fn := qE, ann := { } }
noncomputable abbrev vZ : a8 := { D := { T := br, F := [(dh, dg), (fj, fi), (fY, iz)], R := [], ovl := [] }, inl := [] }
noncomputable abbrev B6 : bG := .data uy
theorem CE (h_node_Right : aC prog [] dh dg) (h_node_none : aC prog [] fj fi) (h_ident_In : aC prog [] fY iz) : XOk prog vZ := xok (aH (aH (aH (aV bf aP) h_ident_In) h_node_none) h_node_Right) (by kernel_rfl) aW bh bg
noncomputable def vJ (n : den ag) (id : den tId) : af := af.req True (af.req (dH [(a9 n, true)] True) (af.req (dH [(bif a9 n then !eqb ab (Prod.fst (Prod.snd n)) noM else false, true)] True) (af.ret (K.val (Ty.pair Ty.bool Ty.unit) (bif bif a9 n then !eqb ab (Prod.fst (Prod.snd n)) noM else false then nx id (Prod.fst (Prod.snd (Prod.fst (Prod.snd n)))) (Prod.fst (Prod.snd (Prod.fst n))) else false, PUnit.unit)))))
theorem yQ (n : den ag) (id : den tId) : ap vZ B6 5000 [] tW (aI qE) (Env.of (aN tD (n, id, ()) 0) []) = vJ n id := by kernel_rfl
noncomputable abbrev qZ : Fx := { fn := nL, ann := { } }
noncomputable abbrev sX : a8 := { D := { T := br, F := [(eP, eV)], R := [], ovl := [] }, inl := [] }
noncomputable abbrev Ai : bG := .data rA
theorem An (h_slices_Contains_int : aC prog [] eP eV) : XOk prog sX := xok (aH (aV bf aP) h_slices_Contains_int) (by kernel_rfl) aW bh bg
noncomputable def ta (m : den ab) (n : den (Ty.ref ag)) (nos : den (Ty.ref (Ty.slc ae))) : af := af.req (dH [(!decide (Prod.fst m = Prod.fst (Prod.fst n)), true)] True) (af.ret (K.val (Ty.pair Ty.bool Ty.unit) (bif !decide (Prod.fst m = Prod.fst (Prod.fst n)) then List.any nos fun (y : den (Ty.int IntKind.i64)) ↦ decide (y = Prod.fst m) else false, PUnit.unit)))
theorem wE (m : den ab) (n : den (Ty.ref ag)) (nos : den (Ty.ref (Ty.slc ae))) : ap sX Ai 5000 [] qZ (aI nL) (Env.of (aN rf (m, n, nos, ()) 0) []) = ta m n nos := by kernel_rfl
noncomputable abbrev mb : Fx := { fn := js, ann := { } }
noncomputable abbrev m8 : a8 := { D := { T := br, F := [(fY, iz)], R := [], ovl := [] }, inl := [] }
noncomputable abbrev ug : bG := .data me
theorem uA (h_ident_In : aC prog [] fY iz) : XOk prog m8 := xok (aH (aV bf aP) h_ident_In) (by kernel_rfl) aW bh bg
noncomputable def ng (m : den ab) (self : den (Ty.ref tId)) (id : den (Ty.ref tId)) : af := af.req (dH [(bif !eqb tId (Prod.fst (Prod.snd m)) self then !eqb tId (Prod.fst (Prod.snd m)) id else false, true)] True) (af.ret (K.val (Ty.pair Ty.bool Ty.unit) (bif bif !eqb tId (Prod.fst (Prod.snd m)) self then !eqb tId (Prod.fst (Prod.snd m)) id else false then nx (Prod.fst (Prod.snd m)) self id else false, PUnit.unit)))
theorem r6 (m : den ab) (self : den (Ty.ref tId)) (id : den (Ty.ref tId)) : ap m8 ug 5000 [] mb (aI js) (Env.of (aN l8 (m, self, id, ()) 0) []) = ng m self id := by kernel_rfl
noncomputable abbrev kF : Fx := { fn := gJ, ann := { }, own := [5] }
noncomputable abbrev lm : a8 := { D := { T := br, F := [], R := [], ovl := [] }, inl := [] }
noncomputable abbrev rR : bG := .row (ab)
theorem rX : XOk prog lm := xok ((aV bf aP)) (by kernel_rfl) aW bh bg
noncomputable def lg (s : den (Ty.slc ab)) : af := af.all Bool (fun (c : Bool) ↦ c = true → s = []) fun (q1 : Bool) ↦ af.ite q1 (af.ret (K.val (Ty.slc ab) [])) (af.req (List.length (List.replicate 0 (zero ab) ++ s) ≤ bM) (af.req (vok 0 (List.length (List.replicate 0 (zero ab) ++ s)) (List.length (List.replicate 0 (zero ab) ++ s))) (af.ret (K.val (Ty.slc ab) (mS ab (List.replicate 0 (zero ab) ++ s) 0 (List.length (List.replicate 0 (zero ab) ++ s)))))))
theorem pr (s : den (Ty.slc ab)) : ap lm rR 5000 [] kF (aI gJ) (Env.of (aN (Ty.pair (Ty.slc ab) Ty.unit) (s, ()) 0) []) = lg s := by kernel_rfl
end Go.Proofs.Ytimdnodkabnbfaa
namespace Go.Proofs.Ytimdnodkabnbfaa
open Go Go.RowKit
theorem qM : aC prog [] fj fi :=
 bY (S := fi) Co (fx := t6) AJ (by kernel_rfl) (fun _ _ => trivial) (T := fun _ => vN) (fun _ => zg) fun O w0 x _ _ => ⟨_, rfl, rfl⟩
theorem yo : aC prog [] jK jU :=
 bY (S := jU) DQ (fx := vI) Cj (by kernel_rfl) (fun _ _ => trivial) (T := fun x => xZ x.1) (fun x => Al x.1) fun O w0 x _ _ => ⟨_, rfl, rfl⟩
theorem Cn : aC prog [] mW mZ :=
 bY (S := mZ) B4 (fx := tG) Aw (by kernel_rfl) (fun _ _ => trivial) (T := fun x => vF x.1 x.2.1) (fun x => yZ x.1 x.2.1) fun O w0 x _ _ => ⟨_, rfl, rfl⟩
theorem EM : aC prog [] pY pJ :=
 bY (S := pJ) (ET Cn) (fx := yg) Em (by kernel_rfl) (fun _ _ => trivial) (T := fun x => zo x.1) (fun x => AX x.1) fun O w0 x _ _ => ⟨fun _ => trivial, _, rfl, rfl⟩
abbrev GUl (O : Nat → Prop) (w0 : World) (y : Bool) := bw prog iP (Cx.base O w0) (cv prog O w0 my fun z => z = (y, ()))
theorem zn (no : Int) (pre : List Mem) (m : Mem) (l : List Mem) : yu no pre (m :: l) = bif (bif (bif !fc m then true else decide (m.1 = no)) then true else pre.any fun x => decide (x.1 = m.1)) then false else yu no (pre ++ [m]) l := rfl
theorem mh : XOk prog iP := Am yo EM gP
def yv (O : Nat → Prop) (w0 : World) (l : List Mem) (no : Int) (hm : l.length ≤ maxLen) :=
 PLift.up <| bF (σ := Unit) l.length (fun i _ => yu no (l.take i) (l.drop i) = dq l no)
  (fun i _ => GUl O w0 (dq l no) [] ft (lp fb 2) (pK l no l (lnx ab l) (i : Nat)))
  (fun i _ hi hs ih => aO mh (mf l no l _ _) (by
   rw [List.drop_eq_getElem_cons hi, zn, ← List.take_succ_eq_append_getElem hi] at hs
   have hi' : i ≤ l.length := Nat.le_of_lt hi
   refine ⟨fun _ => ⟨be hi, trivial, fun _ => ⟨Int.le_refl _, Int.natCast_nonneg _, Int.ofNat_le.2 hi'⟩, fun _ => trivial, fun _ => ⟨_, rfl⟩, ?_⟩, fun hc => absurd hi (by rw [cp] at hc; exact of_decide_eq_false hc)⟩
   rw [cn hi, cF hi hm, AC]
   refine ⟨fun hc => ⟨_, rfl, ?_⟩, fun hc => ih () ?_⟩
   ·have hc : (bif (bif !fc l[i] then true else decide (l[i].1 = no)) then true else (l.take i).any fun x => decide (x.1 = l[i].1)) = true := hc
    rw [hc] at hs
    exact Prod.ext hs rfl
   ·have hc : (bif (bif !fc l[i] then true else decide (l[i].1 = no)) then true else (l.take i).any fun x => decide (x.1 = l[i].1)) = false := hc
    rw [hc] at hs
    exact hs))
  (fun _ hs => aO mh (mf l no l _ _) (by
   refine ⟨fun hc => absurd (of_decide_eq_true hc) (Int.lt_irrefl _), fun _ => ⟨_, rfl, Prod.ext ?_ rfl⟩⟩
   rw [List.drop_length] at hs
   exact hs))
theorem Aj : aC prog [] kN kM :=
 bY (S := kM) mh (fx := ft) yH (by kernel_rfl) (fun _ _ => trivial) (T := fun x => sM x.1 x.2.1) (fun x => we x.1 x.2.1) fun O w0 x hk _ =>
  (yv O w0 x.1 x.2.1 hk.1.1).down 0 () (Nat.zero_le _) rfl
abbrev GEq (O : Nat → Prop) (w0 : World) (y : Bool) := bw prog eS (Cx.base O w0) (cv prog O w0 gq fun z => z = (y, ()))
def qI (O : Nat → Prop) (w0 : World) (a b : List Mem) (hl : a.length = b.length) (hm : a.length ≤ maxLen) :=
 PLift.up <| bF (σ := Unit) a.length (fun i _ => decide (a.drop i = b.drop i) = decide (a = b))
  (fun i _ => GEq O w0 (decide (a = b)) [] cJ (lp cg 4) (jY a b (lnx ab a) (i : Nat)))
  (fun i _ hi hs ih => aO gY (ia a b _ _) (by
   have hi2 : i < b.length := by omega
   rw [List.drop_eq_getElem_cons hi, List.drop_eq_getElem_cons hi2] at hs
   refine ⟨fun _ => ⟨be hi, be hi2, ?_⟩, fun hc => absurd hi (by rw [cp] at hc; exact of_decide_eq_false hc)⟩
   rw [cn hi, cn hi2, cF hi hm, k5]
   refine ⟨fun hc => ⟨_, rfl, Prod.ext ?_ rfl⟩, fun hc => ih () ?_⟩
   ·have hne : ¬ a[i] = b[i] := by simpa using hc
    rw [← hs]
    exact (decide_eq_false fun e => hne (List.cons.inj e).1).symm
   ·have he : a[i] = b[i] := by simpa using hc
    rw [← hs]
    exact decide_eq_decide.2 ⟨fun e => by rw [he, e], fun e => (List.cons.inj e).2⟩))
  (fun _ hs => aO gY (ia a b _ _) (by
   refine ⟨fun hc => absurd (of_decide_eq_true hc) (Int.lt_irrefl _), fun _ => ⟨_, rfl, Prod.ext ?_ rfl⟩⟩
   rw [List.drop_length, hl, List.drop_length] at hs
   rw [← hs]
   rfl))
theorem rG : aC prog [] eU eW :=
 bY (S := eW) gY (fx := cJ) qJ (by kernel_rfl) (fun _ _ => trivial) (T := fun x => ld x.1 x.2.1) (fun x => oY x.1 x.2.1) fun O w0 x hk _ => by
  obtain ⟨a, b, ⟨⟩⟩ := x
  refine ⟨fun h => ⟨_, rfl, Prod.ext ?_ rfl⟩, fun h => ?_⟩
  ·have h : (!decide (((a.length : Nat) : Int) = (b.length : Nat))) = true := h
   have hne : ¬ a.length = b.length := fun e => by rw [e] at h; simp at h
   exact (decide_eq_false fun e => hne (congrArg List.length e)).symm
  ·have h : (!decide (((a.length : Nat) : Int) = (b.length : Nat))) = false := h
   have hl : a.length = b.length := by
    have : decide (((a.length : Nat) : Int) = (b.length : Nat)) = true := by simpa using h
    exact Int.ofNat.inj (of_decide_eq_true this)
   exact (qI O w0 a b hl hk.1.1).down 0 () (Nat.zero_le _) rfl
theorem Dp (n : Int) : ∀ (l : List Int) (i : Int), 0 ≤ i → decide (0 ≤ ixI n l i) = l.any fun y => decide (y = n)
 | [], _, _ => rfl
 | x :: l, i, hi => by
  show decide (0 ≤ (bif decide (n = x) then i else ixI n l (i + 1))) = (decide (x = n) || l.any fun y => decide (y = n))
  by_cases h : n = x
  ·rw [decide_eq_true h, decide_eq_true h.symm]
   exact decide_eq_true hi
  ·rw [decide_eq_false h, decide_eq_false (show ¬ x = n from fun e => h e.symm), Bool.false_or]
   exact Dp n l (i + 1) (by omega)
def tf (O : Nat → Prop) (w0 : World) (l : List Int) (n y : Int) (hm : l.length ≤ maxLen) :=
 PLift.up <| bF (σ := Unit) l.length (fun i _ => ixI n (l.drop i) (i : Nat) = y)
  (fun i _ => GIx O w0 y [] db (lp cR 2) (lU l n (lnx ae l) (i : Nat)))
  (fun i _ hi hs ih => aO jH (jJ l n _ _) (by
   rw [List.drop_eq_getElem_cons hi] at hs
   have hs : (bif decide (n = l[i]) then ((i : Nat) : Int) else ixI n (l.drop (i + 1)) ((i : Nat) + 1)) = y := hs
   refine ⟨fun _ => ⟨be hi, ?_⟩, fun hc => absurd hi (by rw [cp (e := ae)] at hc; exact of_decide_eq_false hc)⟩
   rw [cn (e := ae) hi, cF hi hm]
   refine ⟨fun hc => ⟨_, rfl, Prod.ext ?_ rfl⟩, fun hc => ih () ?_⟩
   ·have hc : decide (n = l[i]) = true := hc
    rw [hc] at hs
    exact hs
   ·have hc : decide (n = l[i]) = false := hc
    rw [hc] at hs
    exact hs))
  (fun _ hs => aO jH (jJ l n _ _) (by
   refine ⟨fun hc => absurd (of_decide_eq_true hc) (Int.lt_irrefl _), fun _ => ⟨_, rfl, Prod.ext ?_ rfl⟩⟩
   rw [List.drop_length] at hs
   exact hs))
theorem tQ : aC prog [] ge f6 :=
 bY (S := f6) jH (fx := db) tg (by kernel_rfl) (fun _ _ => trivial) (T := fun x => na x.1 x.2.1) (fun x => r8 x.1 x.2.1) fun O w0 x hk _ =>
  (tf O w0 x.1 x.2.1 _ hk.1.1).down 0 () (Nat.zero_le _) rfl
theorem rV : aC prog [] eP eV :=
 bY (S := eV) (re tQ) (fx := kb) qN (by kernel_rfl) (fun _ _ => trivial) (T := fun x => lq x.1 x.2.1) (fun x => pp x.1 x.2.1) fun O w0 x _ _ =>
  ⟨trivial, _, rfl, Prod.ext (Dp x.2.1 x.1 0 (Int.le_refl _)) rfl⟩
theorem lw : aC prog [] dh dg :=
 bY (S := dg) (Bh qM yo Aj rG) (fx := s8) Ak (by kernel_rfl) (fun _ _ => trivial) (T := fun x => tr x.1) (fun x => yn x.1) fun O w0 x _ _ => by
  obtain ⟨n, ⟨⟩⟩ := x
  refine ⟨trivial, fun _ => trivial, trivial, fun _ _ => trivial, trivial, fun _ => trivial, _, rfl, Prod.ext ?_ rfl⟩
  show _ = a9 n
  unfold a9 uq qY
  simp only [k5]
  rfl
theorem Cz : aC prog [] mL mM :=
 bY (S := mM) (CE lw qM so) (fx := tW) BF (by kernel_rfl) (fun _ _ => trivial) (T := fun x => vJ x.1 x.2.1) (fun x => yQ x.1 x.2.1) fun O w0 x _ _ => by
  obtain ⟨n, id, ⟨⟩⟩ := x
  refine ⟨trivial, fun _ => trivial, fun _ => trivial, _, rfl, Prod.ext ?_ rfl⟩
  show _ = ov n id
  unfold ov
  simp only [k5]
theorem zV : aC prog [] aj kR :=
 bY (S := kR) (An rV) (fx := qZ) yA (by kernel_rfl) (fun _ _ => trivial) (T := fun x => ta x.1 x.2.1 x.2.2.1) (fun x => wE x.1 x.2.1 x.2.2.1) fun O w0 x _ _ =>
  ⟨fun _ => trivial, _, rfl, rfl⟩
theorem uu : aC prog [] gi gh :=
 bY (S := gh) (uA so) (fx := mb) th (by kernel_rfl) (fun _ _ => trivial) (T := fun x => ng x.1 x.2.1 x.2.2.1) (fun x => r6 x.1 x.2.1 x.2.2.1) fun O w0 x _ _ => by
  obtain ⟨m, self, id, ⟨⟩⟩ := x
  refine ⟨fun _ => trivial, _, rfl, Prod.ext ?_ rfl⟩
  show _ = lI self id m
  unfold lI
  rw [uW, uW]
theorem qu : lP prog [] eN gT :=
 Dk rX (fx := kF) rfl qU (by kernel_rfl) (T := fun _ y => lg y.1) (fun xs y _ => pr y.1) fun O w0 bk xs y hxl hy hp => by
  obtain ⟨s, ⟨⟩⟩ := y
  refine fun c hc => ⟨fun hx => ?_, fun hx => ?_⟩
  ·show K.val _ _ = K.val _ s
   rw [show s = [] from hc hx]
  ·refine ⟨?_, ?_, ?_⟩
   ·simpa using hp
   ·simp [vok]
   ·show K.val (.slc ab) (mS ab (List.replicate 0 (zero ab) ++ s) 0 (List.length (List.replicate 0 (zero ab) ++ s))) = K.val _ s
    rw [zG _ rfl]; rfl
end Go.Proofs.Ytimdnodkabnbfaa
namespace Go.Proofs.Ytimdnodkabnbfaa
open Go Go.RowKit
noncomputable abbrev rI : Fx := { fn := lJ, ann := { } }
noncomputable abbrev aF : Fx := { fn := aE, ann := { loops := [(3, { keep := [0, 3, 9, 10, 11] }), (11, { keep := [6, 25, 26, 27] })] } }
noncomputable abbrev bV : a8 := { D := { T := br, F := [], R := [], ovl := [] }, inl := [(lG, rI)] }
noncomputable abbrev dc : bG := .row (ab)
theorem bL : XOk prog bV := xok ((aV bf aP)) (by kernel_rfl) aW (k9 r7 (by kernel_rfl) bh) bg
noncomputable def kp (s : den (Ty.slc (Ty.slc ab))) : af := af.loop [] aF (lp aE 3) [(0, K.val (Ty.slc (Ty.slc ab)) s), (3, K.val ae 0), (9, K.val (Ty.slc (Ty.slc ab)) s), (10, K.val ae (lnx (Ty.slc ab) s)), (11, K.val ae 0)] []
theorem n8 (s : den (Ty.slc (Ty.slc ab))) : ap bV dc 5000 [] aF (aI aE) (Env.of (aN (Ty.pair (Ty.slc (Ty.slc ab)) Ty.unit) (s, ()) 0) []) = kp s := by kernel_rfl
noncomputable def jr (v0 : den (Ty.slc (Ty.slc ab))) (v3 : den ae) (v9 : den (Ty.slc (Ty.slc ab))) (v10 : den ae) (v11 : den ae) : Env := Env.of [(0, K.val (Ty.slc (Ty.slc ab)) v0), (3, K.val ae v3), (9, K.val (Ty.slc (Ty.slc ab)) v9), (10, K.val ae v10), (11, K.val ae v11)] []
noncomputable def ob (v0 : den (Ty.slc (Ty.slc ab))) (v3 : den ae) (v9 : den (Ty.slc (Ty.slc ab))) (v10 : den ae) (v11 : den ae) : af := af.ite (decide (v11 < v10)) (af.req (inB v11 (lnx (Ty.slc ab) v9)) (af.ite (decide (IntKind.wrap IntKind.i64 (v3 + lnx ab (el (Ty.slc ab) v9 v11)) < 0)) (af.bad (100000 + 1000 * 0 + 0)) (af.loop [] aF (lp aE 3) [(0, K.val (Ty.slc (Ty.slc ab)) v0), (3, K.val ae (IntKind.wrap IntKind.i64 (v3 + lnx ab (el (Ty.slc ab) v9 v11)))), (9, K.val (Ty.slc (Ty.slc ab)) v9), (10, K.val ae v10), (11, K.val ae (IntKind.wrap IntKind.i64 (v11 + 1)))] []))) (af.ite (decide (v3 < 0)) (af.bad (100000 + 1000 * 0 + 0)) (af.ite (decide (0 < IntKind.wrap IntKind.i64 (v3 - IntKind.wrap IntKind.i64 (0 - 0)))) (af.req (bq 0 0 0) (af.req (0 < IntKind.wrap IntKind.i64 (v3 - IntKind.wrap IntKind.i64 (0 - 0))) (af.req (Int.toNat (IntKind.wrap IntKind.i64 (v3 - IntKind.wrap IntKind.i64 (0 - 0))) ≤ bM) (af.req (vok 0 (List.length (List.replicate (Int.toNat (IntKind.wrap IntKind.i64 (v3 - IntKind.wrap IntKind.i64 (0 - 0)))) (zero ab))) (List.length (List.replicate (Int.toNat (IntKind.wrap IntKind.i64 (v3 - IntKind.wrap IntKind.i64 (0 - 0)))) (zero ab)))) (af.req (bq 0 0 (↑(List.length (List.replicate (Int.toNat (IntKind.wrap IntKind.i64 (v3 - IntKind.wrap IntKind.i64 (0 - 0)))) (zero ab)) - 0) : Int)) (af.loop [] aF (lp aE 11) [(6, K.vw 0 ab (0 + Int.toNat 0) (Int.toNat 0 - Int.toNat 0)), (25, K.val (Ty.slc (Ty.slc ab)) v0), (26, K.val ae (lnx (Ty.slc ab) v0)), (27, K.val ae 0)] [(0, Bx.row ab (List.replicate (Int.toNat (IntKind.wrap IntKind.i64 (v3 - IntKind.wrap IntKind.i64 (0 - 0)))) (zero ab)))])))))) (af.loop [] aF (lp aE 11) [(6, K.nilsl), (25, K.val (Ty.slc (Ty.slc ab)) v0), (26, K.val ae (lnx (Ty.slc ab) v0)), (27, K.val ae 0)] [])))
theorem gX (v0 : den (Ty.slc (Ty.slc ab))) (v3 : den ae) (v9 : den (Ty.slc (Ty.slc ab))) (v10 : den ae) (v11 : den ae) : ap bV dc 5000 [] aF (lp aE 3) (jr v0 v3 v9 v10 v11) = ob v0 v3 v9 v10 v11 := by kernel_rfl
noncomputable def jf (v6 : Nat) (v6_1 : Nat) (v25 : den (Ty.slc (Ty.slc ab))) (v26 : den ae) (v27 : den ae) (b0 : List (den ab)) : Env := Env.of [(6, K.vw 0 ab v6 v6_1), (25, K.val (Ty.slc (Ty.slc ab)) v25), (26, K.val ae v26), (27, K.val ae v27)] [(0, Bx.row ab b0)]
noncomputable def nE (v6 : Nat) (v6_1 : Nat) (v25 : den (Ty.slc (Ty.slc ab))) (v26 : den ae) (v27 : den ae) (b0 : List (den ab)) : af := af.ite (decide (v27 < v26)) (af.req (inB v27 (lnx (Ty.slc ab) v25)) (af.req (vok v6 v6_1 (List.length b0)) (af.req (v6 + v6_1 + List.length (el (Ty.slc ab) v25 v27) ≤ List.length b0) (af.loop [] aF (lp aE 11) [(6, K.vw 0 ab v6 (v6_1 + List.length (el (Ty.slc ab) v25 v27))), (25, K.val (Ty.slc (Ty.slc ab)) v25), (26, K.val ae v26), (27, K.val ae (IntKind.wrap IntKind.i64 (v27 + 1)))] [(0, Bx.row ab (over b0 (v6 + v6_1) (el (Ty.slc ab) v25 v27)))])))) (af.req (vok v6 v6_1 (List.length b0)) (af.ret (K.val (Ty.slc ab) (mS ab b0 v6 v6_1))))
theorem gC (v6 : Nat) (v6_1 : Nat) (v25 : den (Ty.slc (Ty.slc ab))) (v26 : den ae) (v27 : den ae) (b0 : List (den ab)) : ap bV dc 5000 [] aF (lp aE 11) (jf v6 v6_1 v25 v26 v27 b0) = nE v6 v6_1 v25 v26 v27 b0 := by kernel_rfl
noncomputable def g8 (v25 : den (Ty.slc (Ty.slc ab))) (v26 : den ae) (v27 : den ae) : Env := Env.of [(6, K.nilsl), (25, K.val (Ty.slc (Ty.slc ab)) v25), (26, K.val ae v26), (27, K.val ae v27)] []
noncomputable def mq (v25 : den (Ty.slc (Ty.slc ab))) (v26 : den ae) (v27 : den ae) : af := af.ite (decide (v27 < v26)) (af.req (inB v27 (lnx (Ty.slc ab) v25)) (af.req (List.length (el (Ty.slc ab) v25 v27) ≤ bM) (af.loop [] aF (lp aE 11) [(6, K.sl 0 ab), (25, K.val (Ty.slc (Ty.slc ab)) v25), (26, K.val ae v26), (27, K.val ae (IntKind.wrap IntKind.i64 (v27 + 1)))] [(0, Bx.row ab (el (Ty.slc ab) v25 v27))]))) (af.ret (K.val (Ty.slc ab) []))
theorem lu (v25 : den (Ty.slc (Ty.slc ab))) (v26 : den ae) (v27 : den ae) : ap bV dc 5000 [] aF (lp aE 11) (g8 v25 v26 v27) = mq v25 v26 v27 := by kernel_rfl
noncomputable def ib (v25 : den (Ty.slc (Ty.slc ab))) (v26 : den ae) (v27 : den ae) (b0 : List (den ab)) : Env := Env.of [(6, K.sl 0 ab), (25, K.val (Ty.slc (Ty.slc ab)) v25), (26, K.val ae v26), (27, K.val ae v27)] [(0, Bx.row ab b0)]
noncomputable def mJ (v25 : den (Ty.slc (Ty.slc ab))) (v26 : den ae) (v27 : den ae) (b0 : List (den ab)) : af := af.ite (decide (v27 < v26)) (af.req (inB v27 (lnx (Ty.slc ab) v25)) (af.req (List.length (b0 ++ el (Ty.slc ab) v25 v27) ≤ bM) (af.loop [] aF (lp aE 11) [(6, K.sl 0 ab), (25, K.val (Ty.slc (Ty.slc ab)) v25), (26, K.val ae v26), (27, K.val ae (IntKind.wrap IntKind.i64 (v27 + 1)))] [(0, Bx.row ab (b0 ++ el (Ty.slc ab) v25 v27))]))) (af.req (vok 0 (List.length b0) (List.length b0)) (af.ret (K.val (Ty.slc ab) (mS ab b0 0 (List.length b0)))))
theorem fM (v25 : den (Ty.slc (Ty.slc ab))) (v26 : den ae) (v27 : den ae) (b0 : List (den ab)) : ap bV dc 5000 [] aF (lp aE 11) (ib v25 v26 v27 b0) = mJ v25 v26 v27 b0 := by kernel_rfl
noncomputable abbrev an : Fx := { fn := al, ann := { loops := [(5, { keep := [0, 1, 5, 6] })], frz := [(1000005, [2, 3, 4, 6])] }, own := [28, 41], share := true }
noncomputable abbrev bj : Fx := { fn := bm, ann := { }, own := [40], share := true }
noncomputable abbrev fl : a8 := { D := { T := br, F := [(dh, dg), (fj, fi), (aj, kR)], R := [(eN, gT)], ovl := [] }, inl := [(iN, an), (cL, ax)] }
noncomputable abbrev kA : bG := .data gL
theorem Cb (h_node_Right : aC prog [] dh dg) (h_node_none : aC prog [] fj fi) (h_node_Drop_1 : aC prog [] aj kR) (h_slices_Clone_Member : lP prog [] eN gT) : XOk prog fl := xok (aH (aH (aH (aV bf aP) h_node_Drop_1) h_node_none) h_node_Right) (by kernel_rfl) (Gu h_slices_Clone_Member aW) (k9 ne (by kernel_rfl) (k9 iD (by kernel_rfl) bh)) bg
noncomputable def vu (n : den ag) (nos : den (Ty.slc ae)) : af := af.req True (af.all (den Ty.bool) (fun (q2 : den Ty.bool) ↦ q2 = a9 n) fun (q2 : den Ty.bool) ↦ af.ite (!q2) (af.ret (K.val (Ty.pair ag (Ty.pair ae Ty.unit)) (zero (Ty.pair ab (Ty.pair ab (Ty.pair (Ty.slc ab) (Ty.pair (Ty.slc ab) Ty.unit)))), 1, PUnit.unit))) (af.req (List.length (Prod.fst (Prod.snd (Prod.snd n))) ≤ bM) (af.loop [{ fx := an, todo := bS al 1 2, dst := some 10, s := ofS [(0, K.sl 0 ab), (1, K.clo aj (K.kcons (K.ptr (0 + 1) ag []) (K.kcons (K.ptr (0 + 1 + 1) (Ty.slc ae) []) K.knil)))] }, { fx := bj, todo := bS bm 4 4, dst := some 16, s := ofS [(2, K.ptr (0 + 1) ag []), (3, K.ptr (0 + 1 + 1) (Ty.slc ae) []), (4, K.ptr (0 + 1 + 1 + 1) ag []), (6, K.clo aj (K.kcons (K.ptr (0 + 1) ag []) (K.kcons (K.ptr (0 + 1 + 1) (Ty.slc ae) []) K.knil)))] }] ax (lp az 2) [(0, K.sl 0 ab), (1, K.clo aj (K.kcons (K.ptr (0 + 1) ag []) (K.kcons (K.ptr (0 + 1 + 1) (Ty.slc ae) []) K.knil))), (7, K.val ae (lnx ab (Prod.fst (Prod.snd (Prod.snd n))))), (8, K.val ae 0)] [(0, Bx.row ab (Prod.fst (Prod.snd (Prod.snd n)))), (0 + 1, Bx.cell ag n), (0 + 1 + 1, Bx.cell (Ty.slc ae) nos), (0 + 1 + 1 + 1, Bx.cell ag (zero ag))])))
theorem yr (n : den ag) (nos : den (Ty.slc ae)) : ap fl kA 5000 [] bj (aI bm) (Env.of (aN tY (n, nos, ()) 0) []) = vu n nos := by kernel_rfl
noncomputable def eD (v7 : den ae) (v8 : den ae) (b0 : List (den ab)) (b1 : den ag) (b2 : den (Ty.slc ae)) (b3 : den ag) : List bN := [{ fx := an, todo := bS al 1 2, dst := some 10, s := ofS [(0, K.sl 0 ab), (1, K.clo aj (K.kcons (K.ptr (0 + 1) ag []) (K.kcons (K.ptr (0 + 1 + 1) (Ty.slc ae) []) K.knil)))] }, { fx := bj, todo := bS bm 4 4, dst := some 16, s := ofS [(2, K.ptr (0 + 1) ag []), (3, K.ptr (0 + 1 + 1) (Ty.slc ae) []), (4, K.ptr (0 + 1 + 1 + 1) ag []), (6, K.clo aj (K.kcons (K.ptr (0 + 1) ag []) (K.kcons (K.ptr (0 + 1 + 1) (Ty.slc ae) []) K.knil)))] }]
noncomputable def eC (v7 : den ae) (v8 : den ae) (b0 : List (den ab)) (b1 : den ag) (b2 : den (Ty.slc ae)) (b3 : den ag) : Env := Env.of [(0, K.sl 0 ab), (1, K.clo aj (K.kcons (K.ptr (0 + 1) ag []) (K.kcons (K.ptr (0 + 1 + 1) (Ty.slc ae) []) K.knil))), (7, K.val ae v7), (8, K.val ae v8)] [(0, Bx.row ab b0), (1, Bx.cell ag b1), (2, Bx.cell (Ty.slc ae) b2), (3, Bx.cell ag b3)]
noncomputable def iY (v7 : den ae) (v8 : den ae) (b0 : List (den ab)) (b1 : den ag) (b2 : den (Ty.slc ae)) (b3 : den ag) : af := af.ite (decide (v8 < v7)) (af.req (inB v8 (lnx ab b0)) (af.req (inB v8 (lnx ab b0)) (af.req True (af.ite (bl (Prod.fst (Prod.fst b1)) b2 (el ab b0 v8)) (af.ite (decide (v8 = -1)) (af.req (List.length (Prod.fst (Prod.snd (Prod.snd (Prod.snd b1)))) ≤ bM) (af.loop [{ fx := an, todo := bS al 1 2, dst := some 10, s := ofS [(0, K.sl 0 ab), (1, K.clo aj (K.kcons (K.ptr (0 + 1) ag []) (K.kcons (K.ptr (0 + 1 + 1) (Ty.slc ae) []) K.knil)))] }, { fx := bj, todo := bS bm 5 4, dst := some 22, s := ofS [(2, K.ptr (0 + 1) ag []), (3, K.ptr (0 + 1 + 1) (Ty.slc ae) []), (4, K.ptr (0 + 1 + 1 + 1) ag []), (6, K.clo aj (K.kcons (K.ptr (0 + 1) ag []) (K.kcons (K.ptr (0 + 1 + 1) (Ty.slc ae) []) K.knil)))] }] ax (lp az 2) [(0, K.sl 0 ab), (1, K.clo aj (K.kcons (K.ptr (0 + 1) ag []) (K.kcons (K.ptr (0 + 1 + 1) (Ty.slc ae) []) K.knil))), (7, K.val ae (lnx ab (Prod.fst (Prod.snd (Prod.snd (Prod.snd b1)))))), (8, K.val ae 0)] [(0, Bx.row ab (Prod.fst (Prod.snd (Prod.snd (Prod.snd b1))))), (0 + 1, Bx.cell ag (Prod.fst b1, Prod.fst (Prod.snd b1), b0, Prod.snd (Prod.snd (Prod.snd b1)))), (0 + 1 + 1, Bx.cell (Ty.slc ae) b2), (0 + 1 + 1 + 1, Bx.cell ag b3)])) (af.loop [{ fx := bj, todo := bS bm 4 4, dst := some 16, s := ofS [(2, K.ptr (0 + 1) ag []), (3, K.ptr (0 + 1 + 1) (Ty.slc ae) []), (4, K.ptr (0 + 1 + 1 + 1) ag []), (6, K.clo aj (K.kcons (K.ptr (0 + 1) ag []) (K.kcons (K.ptr (0 + 1 + 1) (Ty.slc ae) []) K.knil)))] }] an (lp al 5) [(0, K.sl 0 ab), (1, K.clo aj (K.kcons (K.ptr (0 + 1) ag []) (K.kcons (K.ptr (0 + 1 + 1) (Ty.slc ae) []) K.knil))), (5, K.val ae v8), (6, K.val ae (IntKind.wrap IntKind.i64 (v8 + 1)))] [(0, Bx.row ab b0), (0 + 1, Bx.cell ag b1), (0 + 1 + 1, Bx.cell (Ty.slc ae) b2), (0 + 1 + 1 + 1, Bx.cell ag b3)])) (af.loop [{ fx := an, todo := bS al 1 2, dst := some 10, s := ofS [(0, K.sl 0 ab), (1, K.clo aj (K.kcons (K.ptr (0 + 1) ag []) (K.kcons (K.ptr (0 + 1 + 1) (Ty.slc ae) []) K.knil)))] }, { fx := bj, todo := bS bm 4 4, dst := some 16, s := ofS [(2, K.ptr (0 + 1) ag []), (3, K.ptr (0 + 1 + 1) (Ty.slc ae) []), (4, K.ptr (0 + 1 + 1 + 1) ag []), (6, K.clo aj (K.kcons (K.ptr (0 + 1) ag []) (K.kcons (K.ptr (0 + 1 + 1) (Ty.slc ae) []) K.knil)))] }] ax (lp az 2) [(0, K.sl 0 ab), (1, K.clo aj (K.kcons (K.ptr (0 + 1) ag []) (K.kcons (K.ptr (0 + 1 + 1) (Ty.slc ae) []) K.knil))), (7, K.val ae v7), (8, K.val ae (IntKind.wrap IntKind.i64 (v8 + 1)))] [(0, Bx.row ab b0), (0 + 1, Bx.cell ag b1), (0 + 1 + 1, Bx.cell (Ty.slc ae) b2), (0 + 1 + 1 + 1, Bx.cell ag b3)]))))) (af.ite (decide (-1 = -1)) (af.req (List.length (Prod.fst (Prod.snd (Prod.snd (Prod.snd b1)))) ≤ bM) (af.loop [{ fx := an, todo := bS al 1 2, dst := some 10, s := ofS [(0, K.sl 0 ab), (1, K.clo aj (K.kcons (K.ptr (0 + 1) ag []) (K.kcons (K.ptr (0 + 1 + 1) (Ty.slc ae) []) K.knil)))] }, { fx := bj, todo := bS bm 5 4, dst := some 22, s := ofS [(2, K.ptr (0 + 1) ag []), (3, K.ptr (0 + 1 + 1) (Ty.slc ae) []), (4, K.ptr (0 + 1 + 1 + 1) ag []), (6, K.clo aj (K.kcons (K.ptr (0 + 1) ag []) (K.kcons (K.ptr (0 + 1 + 1) (Ty.slc ae) []) K.knil)))] }] ax (lp az 2) [(0, K.sl 0 ab), (1, K.clo aj (K.kcons (K.ptr (0 + 1) ag []) (K.kcons (K.ptr (0 + 1 + 1) (Ty.slc ae) []) K.knil))), (7, K.val ae (lnx ab (Prod.fst (Prod.snd (Prod.snd (Prod.snd b1)))))), (8, K.val ae 0)] [(0, Bx.row ab (Prod.fst (Prod.snd (Prod.snd (Prod.snd b1))))), (0 + 1, Bx.cell ag (Prod.fst b1, Prod.fst (Prod.snd b1), b0, Prod.snd (Prod.snd (Prod.snd b1)))), (0 + 1 + 1, Bx.cell (Ty.slc ae) b2), (0 + 1 + 1 + 1, Bx.cell ag b3)])) (af.loop [{ fx := bj, todo := bS bm 4 4, dst := some 16, s := ofS [(2, K.ptr (0 + 1) ag []), (3, K.ptr (0 + 1 + 1) (Ty.slc ae) []), (4, K.ptr (0 + 1 + 1 + 1) ag []), (6, K.clo aj (K.kcons (K.ptr (0 + 1) ag []) (K.kcons (K.ptr (0 + 1 + 1) (Ty.slc ae) []) K.knil)))] }] an (lp al 5) [(0, K.sl 0 ab), (1, K.clo aj (K.kcons (K.ptr (0 + 1) ag []) (K.kcons (K.ptr (0 + 1 + 1) (Ty.slc ae) []) K.knil))), (5, K.val ae (-1)), (6, K.val ae (IntKind.wrap IntKind.i64 (-1 + 1)))] [(0, Bx.row ab b0), (0 + 1, Bx.cell ag b1), (0 + 1 + 1, Bx.cell (Ty.slc ae) b2), (0 + 1 + 1 + 1, Bx.cell ag b3)]))
theorem dE (v7 : den ae) (v8 : den ae) (b0 : List (den ab)) (b1 : den ag) (b2 : den (Ty.slc ae)) (b3 : den ag) : ap fl kA 5000 (eD v7 v8 b0 b1 b2 b3) ax (lp az 2) (eC v7 v8 b0 b1 b2 b3) = iY v7 v8 b0 b1 b2 b3 := by kernel_rfl
noncomputable def cz (v7 : den ae) (v8 : den ae) (b0 : List (den ab)) (b1 : den ag) (b2 : den (Ty.slc ae)) (b3 : den ag) : List bN := [{ fx := an, todo := bS al 1 2, dst := some 10, s := ofS [(0, K.sl 0 ab), (1, K.clo aj (K.kcons (K.ptr (0 + 1) ag []) (K.kcons (K.ptr (0 + 1 + 1) (Ty.slc ae) []) K.knil)))] }, { fx := bj, todo := bS bm 5 4, dst := some 22, s := ofS [(2, K.ptr (0 + 1) ag []), (3, K.ptr (0 + 1 + 1) (Ty.slc ae) []), (4, K.ptr (0 + 1 + 1 + 1) ag []), (6, K.clo aj (K.kcons (K.ptr (0 + 1) ag []) (K.kcons (K.ptr (0 + 1 + 1) (Ty.slc ae) []) K.knil)))] }]
noncomputable def cC (v7 : den ae) (v8 : den ae) (b0 : List (den ab)) (b1 : den ag) (b2 : den (Ty.slc ae)) (b3 : den ag) : Env := Env.of [(0, K.sl 0 ab), (1, K.clo aj (K.kcons (K.ptr (0 + 1) ag []) (K.kcons (K.ptr (0 + 1 + 1) (Ty.slc ae) []) K.knil))), (7, K.val ae v7), (8, K.val ae v8)] [(0, Bx.row ab b0), (1, Bx.cell ag b1), (2, Bx.cell (Ty.slc ae) b2), (3, Bx.cell ag b3)]
noncomputable def ie (v7 : den ae) (v8 : den ae) (b0 : List (den ab)) (b1 : den ag) (b2 : den (Ty.slc ae)) (b3 : den ag) : af := af.ite (decide (v8 < v7)) (af.req (inB v8 (lnx ab b0)) (af.req (inB v8 (lnx ab b0)) (af.req True (af.ite (bl (Prod.fst (Prod.fst b1)) b2 (el ab b0 v8)) (af.ite (decide (v8 = -1)) (af.ite (decide (lnx ab (Prod.fst (Prod.snd (Prod.snd b1))) = 0)) (af.req True (af.req (dH [(!eqb ab (Prod.fst (Prod.snd b1)) noM, true)] True) (af.all (den ab) (fun (q6 : den ab) ↦ q6 = noM) fun (q6 : den ab) ↦ af.ite (bif !eqb ab (Prod.fst (Prod.snd b1)) noM then bl (Prod.fst (Prod.fst b1)) b2 (Prod.fst (Prod.snd b1)) else false) (af.req True (af.all (den ab) (fun (q7 : den ab) ↦ q7 = noM) fun (q7 : den ab) ↦ af.ret (K.val (Ty.pair ag (Ty.pair ae Ty.unit)) ((Prod.fst b1, q7, List.set (List.replicate 1 (zero ab)) 0 (Prod.fst b1), b0, Prod.snd (Prod.snd (Prod.snd (Prod.snd b1)))), 0, PUnit.unit)))) (af.ret (K.val (Ty.pair ag (Ty.pair ae Ty.unit)) ((Prod.fst b1, Prod.fst (Prod.snd b1), List.set (List.replicate 1 (zero ab)) 0 (Prod.fst b1), b0, Prod.snd (Prod.snd (Prod.snd (Prod.snd b1)))), 0, PUnit.unit)))))) (af.req True (af.req (dH [(!eqb ab (Prod.fst (Prod.snd b1)) noM, true)] True) (af.all (den ab) (fun (q6 : den ab) ↦ q6 = noM) fun (q6 : den ab) ↦ af.ite (bif !eqb ab (Prod.fst (Prod.snd b1)) noM then bl (Prod.fst (Prod.fst b1)) b2 (Prod.fst (Prod.snd b1)) else false) (af.req True (af.all (den ab) (fun (q7 : den ab) ↦ q7 = noM) fun (q7 : den ab) ↦ af.ret (K.val (Ty.pair ag (Ty.pair ae Ty.unit)) ((Prod.fst b1, q7, Prod.fst (Prod.snd (Prod.snd b1)), b0, Prod.snd (Prod.snd (Prod.snd (Prod.snd b1)))), 0, PUnit.unit)))) (af.ret (K.val (Ty.pair ag (Ty.pair ae Ty.unit)) ((Prod.fst b1, Prod.fst (Prod.snd b1), Prod.fst (Prod.snd (Prod.snd b1)), b0, Prod.snd (Prod.snd (Prod.snd (Prod.snd b1)))), 0, PUnit.unit))))))) (af.loop [{ fx := bj, todo := bS bm 5 4, dst := some 22, s := ofS [(2, K.ptr (0 + 1) ag []), (3, K.ptr (0 + 1 + 1) (Ty.slc ae) []), (4, K.ptr (0 + 1 + 1 + 1) ag []), (6, K.clo aj (K.kcons (K.ptr (0 + 1) ag []) (K.kcons (K.ptr (0 + 1 + 1) (Ty.slc ae) []) K.knil)))] }] an (lp al 5) [(0, K.sl 0 ab), (1, K.clo aj (K.kcons (K.ptr (0 + 1) ag []) (K.kcons (K.ptr (0 + 1 + 1) (Ty.slc ae) []) K.knil))), (5, K.val ae v8), (6, K.val ae (IntKind.wrap IntKind.i64 (v8 + 1)))] [(0, Bx.row ab b0), (0 + 1, Bx.cell ag b1), (0 + 1 + 1, Bx.cell (Ty.slc ae) b2), (0 + 1 + 1 + 1, Bx.cell ag b3)])) (af.loop [{ fx := an, todo := bS al 1 2, dst := some 10, s := ofS [(0, K.sl 0 ab), (1, K.clo aj (K.kcons (K.ptr (0 + 1) ag []) (K.kcons (K.ptr (0 + 1 + 1) (Ty.slc ae) []) K.knil)))] }, { fx := bj, todo := bS bm 5 4, dst := some 22, s := ofS [(2, K.ptr (0 + 1) ag []), (3, K.ptr (0 + 1 + 1) (Ty.slc ae) []), (4, K.ptr (0 + 1 + 1 + 1) ag []), (6, K.clo aj (K.kcons (K.ptr (0 + 1) ag []) (K.kcons (K.ptr (0 + 1 + 1) (Ty.slc ae) []) K.knil)))] }] ax (lp az 2) [(0, K.sl 0 ab), (1, K.clo aj (K.kcons (K.ptr (0 + 1) ag []) (K.kcons (K.ptr (0 + 1 + 1) (Ty.slc ae) []) K.knil))), (7, K.val ae v7), (8, K.val ae (IntKind.wrap IntKind.i64 (v8 + 1)))] [(0, Bx.row ab b0), (0 + 1, Bx.cell ag b1), (0 + 1 + 1, Bx.cell (Ty.slc ae) b2), (0 + 1 + 1 + 1, Bx.cell ag b3)]))))) (af.ite (decide (-1 = -1)) (af.ite (decide (lnx ab (Prod.fst (Prod.snd (Prod.snd b1))) = 0)) (af.req True (af.req (dH [(!eqb ab (Prod.fst (Prod.snd b1)) noM, true)] True) (af.all (den ab) (fun (q6 : den ab) ↦ q6 = noM) fun (q6 : den ab) ↦ af.ite (bif !eqb ab (Prod.fst (Prod.snd b1)) noM then bl (Prod.fst (Prod.fst b1)) b2 (Prod.fst (Prod.snd b1)) else false) (af.req True (af.all (den ab) (fun (q7 : den ab) ↦ q7 = noM) fun (q7 : den ab) ↦ af.ret (K.val (Ty.pair ag (Ty.pair ae Ty.unit)) ((Prod.fst b1, q7, List.set (List.replicate 1 (zero ab)) 0 (Prod.fst b1), b0, Prod.snd (Prod.snd (Prod.snd (Prod.snd b1)))), 0, PUnit.unit)))) (af.ret (K.val (Ty.pair ag (Ty.pair ae Ty.unit)) ((Prod.fst b1, Prod.fst (Prod.snd b1), List.set (List.replicate 1 (zero ab)) 0 (Prod.fst b1), b0, Prod.snd (Prod.snd (Prod.snd (Prod.snd b1)))), 0, PUnit.unit)))))) (af.req True (af.req (dH [(!eqb ab (Prod.fst (Prod.snd b1)) noM, true)] True) (af.all (den ab) (fun (q6 : den ab) ↦ q6 = noM) fun (q6 : den ab) ↦ af.ite (bif !eqb ab (Prod.fst (Prod.snd b1)) noM then bl (Prod.fst (Prod.fst b1)) b2 (Prod.fst (Prod.snd b1)) else false) (af.req True (af.all (den ab) (fun (q7 : den ab) ↦ q7 = noM) fun (q7 : den ab) ↦ af.ret (K.val (Ty.pair ag (Ty.pair ae Ty.unit)) ((Prod.fst b1, q7, Prod.fst (Prod.snd (Prod.snd b1)), b0, Prod.snd (Prod.snd (Prod.snd (Prod.snd b1)))), 0, PUnit.unit)))) (af.ret (K.val (Ty.pair ag (Ty.pair ae Ty.unit)) ((Prod.fst b1, Prod.fst (Prod.snd b1), Prod.fst (Prod.snd (Prod.snd b1)), b0, Prod.snd (Prod.snd (Prod.snd (Prod.snd b1)))), 0, PUnit.unit))))))) (af.loop [{ fx := bj, todo := bS bm 5 4, dst := some 22, s := ofS [(2, K.ptr (0 + 1) ag []), (3, K.ptr (0 + 1 + 1) (Ty.slc ae) []), (4, K.ptr (0 + 1 + 1 + 1) ag []), (6, K.clo aj (K.kcons (K.ptr (0 + 1) ag []) (K.kcons (K.ptr (0 + 1 + 1) (Ty.slc ae) []) K.knil)))] }] an (lp al 5) [(0, K.sl 0 ab), (1, K.clo aj (K.kcons (K.ptr (0 + 1) ag []) (K.kcons (K.ptr (0 + 1 + 1) (Ty.slc ae) []) K.knil))), (5, K.val ae (-1)), (6, K.val ae (IntKind.wrap IntKind.i64 (-1 + 1)))] [(0, Bx.row ab b0), (0 + 1, Bx.cell ag b1), (0 + 1 + 1, Bx.cell (Ty.slc ae) b2), (0 + 1 + 1 + 1, Bx.cell ag b3)]))
theorem dp (v7 : den ae) (v8 : den ae) (b0 : List (den ab)) (b1 : den ag) (b2 : den (Ty.slc ae)) (b3 : den ag) : ap fl kA 5000 (cz v7 v8 b0 b1 b2 b3) ax (lp az 2) (cC v7 v8 b0 b1 b2 b3) = ie v7 v8 b0 b1 b2 b3 := by kernel_rfl
noncomputable def d7 (v5 : den ae) (v6 : den ae) (b0 : List (den ab)) (b1 : den ag) (b2 : den (Ty.slc ae)) (b3 : den ag) : List bN := [{ fx := bj, todo := bS bm 4 4, dst := some 16, s := ofS [(2, K.ptr (0 + 1) ag []), (3, K.ptr (0 + 1 + 1) (Ty.slc ae) []), (4, K.ptr (0 + 1 + 1 + 1) ag []), (6, K.clo aj (K.kcons (K.ptr (0 + 1) ag []) (K.kcons (K.ptr (0 + 1 + 1) (Ty.slc ae) []) K.knil)))] }]
noncomputable def dZ (v5 : den ae) (v6 : den ae) (b0 : List (den ab)) (b1 : den ag) (b2 : den (Ty.slc ae)) (b3 : den ag) : Env := Env.of [(0, K.sl 0 ab), (1, K.clo aj (K.kcons (K.ptr (0 + 1) ag []) (K.kcons (K.ptr (0 + 1 + 1) (Ty.slc ae) []) K.knil))), (5, K.val ae v5), (6, K.val ae v6)] [(0, Bx.row ab b0), (1, Bx.cell ag b1), (2, Bx.cell (Ty.slc ae) b2), (3, Bx.cell ag b3)]
noncomputable def iR (v5 : den ae) (v6 : den ae) (b0 : List (den ab)) (b1 : den ag) (b2 : den (Ty.slc ae)) (b3 : den ag) : af := af.ite (decide (v6 < lnx ab b0)) (af.req (inB v6 (lnx ab b0)) (af.req (inB v6 (lnx ab b0)) (af.req True (af.all (den Ty.bool) (fun (q6 : den Ty.bool) ↦ q6 = bl (Prod.fst (Prod.fst b1)) b2 (el ab b0 v6)) fun (q6 : den Ty.bool) ↦ af.ite (!q6) (af.req (inB v5 (lnx ab b0)) (af.req (inB v5 (lnx ab b0)) (af.loop [{ fx := bj, todo := bS bm 4 4, dst := some 16, s := ofS [(2, K.ptr (0 + 1) ag []), (3, K.ptr (0 + 1 + 1) (Ty.slc ae) []), (4, K.ptr (0 + 1 + 1 + 1) ag []), (6, K.clo aj (K.kcons (K.ptr (0 + 1) ag []) (K.kcons (K.ptr (0 + 1 + 1) (Ty.slc ae) []) K.knil)))] }] an (lp al 5) [(0, K.sl 0 ab), (1, K.clo aj (K.kcons (K.ptr (0 + 1) ag []) (K.kcons (K.ptr (0 + 1 + 1) (Ty.slc ae) []) K.knil))), (5, K.val ae (IntKind.wrap IntKind.i64 (v5 + 1))), (6, K.val ae (IntKind.wrap IntKind.i64 (v6 + 1)))] [(0, Bx.row ab (tJ ab b0 v5 (el ab b0 v6))), (0 + 1, Bx.cell ag b1), (0 + 1 + 1, Bx.cell (Ty.slc ae) b2), (0 + 1 + 1 + 1, Bx.cell ag b3)]))) (af.loop [{ fx := bj, todo := bS bm 4 4, dst := some 16, s := ofS [(2, K.ptr (0 + 1) ag []), (3, K.ptr (0 + 1 + 1) (Ty.slc ae) []), (4, K.ptr (0 + 1 + 1 + 1) ag []), (6, K.clo aj (K.kcons (K.ptr (0 + 1) ag []) (K.kcons (K.ptr (0 + 1 + 1) (Ty.slc ae) []) K.knil)))] }] an (lp al 5) [(0, K.sl 0 ab), (1, K.clo aj (K.kcons (K.ptr (0 + 1) ag []) (K.kcons (K.ptr (0 + 1 + 1) (Ty.slc ae) []) K.knil))), (5, K.val ae v5), (6, K.val ae (IntKind.wrap IntKind.i64 (v6 + 1)))] [(0, Bx.row ab b0), (0 + 1, Bx.cell ag b1), (0 + 1 + 1, Bx.cell (Ty.slc ae) b2), (0 + 1 + 1 + 1, Bx.cell ag b3)]))))) (af.req (vok 0 (List.length b0) (List.length b0)) (af.req (bq v5 (↑(List.length b0) : Int) (↑(List.length b0 - 0) : Int)) (af.req (vok (0 + Int.toNat v5) (Int.toNat (↑(List.length b0) : Int) - Int.toNat v5) (List.length b0)) (af.req (bq 0 v5 (lnx ab (over b0 (0 + Int.toNat v5) (List.replicate (Int.toNat (↑(List.length b0) : Int) - Int.toNat v5) (zero ab))))) (af.req (List.length (Prod.fst (Prod.snd (Prod.snd (Prod.snd b1)))) ≤ bM) (af.loop [{ fx := an, todo := bS al 1 2, dst := some 10, s := ofS [(0, K.sl 0 ab), (1, K.clo aj (K.kcons (K.ptr (0 + 1) ag []) (K.kcons (K.ptr (0 + 1 + 1) (Ty.slc ae) []) K.knil)))] }, { fx := bj, todo := bS bm 5 4, dst := some 22, s := ofS [(2, K.ptr (0 + 1) ag []), (3, K.ptr (0 + 1 + 1) (Ty.slc ae) []), (4, K.ptr (0 + 1 + 1 + 1) ag []), (6, K.clo aj (K.kcons (K.ptr (0 + 1) ag []) (K.kcons (K.ptr (0 + 1 + 1) (Ty.slc ae) []) K.knil)))] }] ax (lp az 2) [(0, K.sl 0 ab), (1, K.clo aj (K.kcons (K.ptr (0 + 1) ag []) (K.kcons (K.ptr (0 + 1 + 1) (Ty.slc ae) []) K.knil))), (7, K.val ae (lnx ab (Prod.fst (Prod.snd (Prod.snd (Prod.snd b1)))))), (8, K.val ae 0)] [(0, Bx.row ab (Prod.fst (Prod.snd (Prod.snd (Prod.snd b1))))), (0 + 1, Bx.cell ag (Prod.fst b1, Prod.fst (Prod.snd b1), List.take (Int.toNat v5) (over b0 (0 + Int.toNat v5) (List.replicate (Int.toNat (↑(List.length b0) : Int) - Int.toNat v5) (zero ab))), Prod.snd (Prod.snd (Prod.snd b1)))), (0 + 1 + 1, Bx.cell (Ty.slc ae) b2), (0 + 1 + 1 + 1, Bx.cell ag b3)]))))))
theorem dz (v5 : den ae) (v6 : den ae) (b0 : List (den ab)) (b1 : den ag) (b2 : den (Ty.slc ae)) (b3 : den ag) : ap fl kA 5000 (d7 v5 v6 b0 b1 b2 b3) an (lp al 5) (dZ v5 v6 b0 b1 b2 b3) = iR v5 v6 b0 b1 b2 b3 := by kernel_rfl
noncomputable def dO (v5 : den ae) (v6 : den ae) (b0 : List (den ab)) (b1 : den ag) (b2 : den (Ty.slc ae)) (b3 : den ag) : List bN := [{ fx := bj, todo := bS bm 5 4, dst := some 22, s := ofS [(2, K.ptr (0 + 1) ag []), (3, K.ptr (0 + 1 + 1) (Ty.slc ae) []), (4, K.ptr (0 + 1 + 1 + 1) ag []), (6, K.clo aj (K.kcons (K.ptr (0 + 1) ag []) (K.kcons (K.ptr (0 + 1 + 1) (Ty.slc ae) []) K.knil)))] }]
noncomputable def dL (v5 : den ae) (v6 : den ae) (b0 : List (den ab)) (b1 : den ag) (b2 : den (Ty.slc ae)) (b3 : den ag) : Env := Env.of [(0, K.sl 0 ab), (1, K.clo aj (K.kcons (K.ptr (0 + 1) ag []) (K.kcons (K.ptr (0 + 1 + 1) (Ty.slc ae) []) K.knil))), (5, K.val ae v5), (6, K.val ae v6)] [(0, Bx.row ab b0), (1, Bx.cell ag b1), (2, Bx.cell (Ty.slc ae) b2), (3, Bx.cell ag b3)]
noncomputable def g7 (v5 : den ae) (v6 : den ae) (b0 : List (den ab)) (b1 : den ag) (b2 : den (Ty.slc ae)) (b3 : den ag) : af := af.ite (decide (v6 < lnx ab b0)) (af.req (inB v6 (lnx ab b0)) (af.req (inB v6 (lnx ab b0)) (af.req True (af.all (den Ty.bool) (fun (q6 : den Ty.bool) ↦ q6 = bl (Prod.fst (Prod.fst b1)) b2 (el ab b0 v6)) fun (q6 : den Ty.bool) ↦ af.ite (!q6) (af.req (inB v5 (lnx ab b0)) (af.req (inB v5 (lnx ab b0)) (af.loop [{ fx := bj, todo := bS bm 5 4, dst := some 22, s := ofS [(2, K.ptr (0 + 1) ag []), (3, K.ptr (0 + 1 + 1) (Ty.slc ae) []), (4, K.ptr (0 + 1 + 1 + 1) ag []), (6, K.clo aj (K.kcons (K.ptr (0 + 1) ag []) (K.kcons (K.ptr (0 + 1 + 1) (Ty.slc ae) []) K.knil)))] }] an (lp al 5) [(0, K.sl 0 ab), (1, K.clo aj (K.kcons (K.ptr (0 + 1) ag []) (K.kcons (K.ptr (0 + 1 + 1) (Ty.slc ae) []) K.knil))), (5, K.val ae (IntKind.wrap IntKind.i64 (v5 + 1))), (6, K.val ae (IntKind.wrap IntKind.i64 (v6 + 1)))] [(0, Bx.row ab (tJ ab b0 v5 (el ab b0 v6))), (0 + 1, Bx.cell ag b1), (0 + 1 + 1, Bx.cell (Ty.slc ae) b2), (0 + 1 + 1 + 1, Bx.cell ag b3)]))) (af.loop [{ fx := bj, todo := bS bm 5 4, dst := some 22, s := ofS [(2, K.ptr (0 + 1) ag []), (3, K.ptr (0 + 1 + 1) (Ty.slc ae) []), (4, K.ptr (0 + 1 + 1 + 1) ag []), (6, K.clo aj (K.kcons (K.ptr (0 + 1) ag []) (K.kcons (K.ptr (0 + 1 + 1) (Ty.slc ae) []) K.knil)))] }] an (lp al 5) [(0, K.sl 0 ab), (1, K.clo aj (K.kcons (K.ptr (0 + 1) ag []) (K.kcons (K.ptr (0 + 1 + 1) (Ty.slc ae) []) K.knil))), (5, K.val ae v5), (6, K.val ae (IntKind.wrap IntKind.i64 (v6 + 1)))] [(0, Bx.row ab b0), (0 + 1, Bx.cell ag b1), (0 + 1 + 1, Bx.cell (Ty.slc ae) b2), (0 + 1 + 1 + 1, Bx.cell ag b3)]))))) (af.req (vok 0 (List.length b0) (List.length b0)) (af.req (bq v5 (↑(List.length b0) : Int) (↑(List.length b0 - 0) : Int)) (af.req (vok (0 + Int.toNat v5) (Int.toNat (↑(List.length b0) : Int) - Int.toNat v5) (List.length b0)) (af.req (bq 0 v5 (lnx ab (over b0 (0 + Int.toNat v5) (List.replicate (Int.toNat (↑(List.length b0) : Int) - Int.toNat v5) (zero ab))))) (af.ite (decide (lnx ab (Prod.fst (Prod.snd (Prod.snd b1))) = 0)) (af.req True (af.req (dH [(!eqb ab (Prod.fst (Prod.snd b1)) noM, true)] True) (af.all (den ab) (fun (q6 : den ab) ↦ q6 = noM) fun (q6 : den ab) ↦ af.ite (bif !eqb ab (Prod.fst (Prod.snd b1)) noM then bl (Prod.fst (Prod.fst b1)) b2 (Prod.fst (Prod.snd b1)) else false) (af.req True (af.all (den ab) (fun (q7 : den ab) ↦ q7 = noM) fun (q7 : den ab) ↦ af.ret (K.val (Ty.pair ag (Ty.pair ae Ty.unit)) ((Prod.fst b1, q7, List.set (List.replicate 1 (zero ab)) 0 (Prod.fst b1), List.take (Int.toNat v5) (over b0 (0 + Int.toNat v5) (List.replicate (Int.toNat (↑(List.length b0) : Int) - Int.toNat v5) (zero ab))), Prod.snd (Prod.snd (Prod.snd (Prod.snd b1)))), 0, PUnit.unit)))) (af.ret (K.val (Ty.pair ag (Ty.pair ae Ty.unit)) ((Prod.fst b1, Prod.fst (Prod.snd b1), List.set (List.replicate 1 (zero ab)) 0 (Prod.fst b1), List.take (Int.toNat v5) (over b0 (0 + Int.toNat v5) (List.replicate (Int.toNat (↑(List.length b0) : Int) - Int.toNat v5) (zero ab))), Prod.snd (Prod.snd (Prod.snd (Prod.snd b1)))), 0, PUnit.unit)))))) (af.req True (af.req (dH [(!eqb ab (Prod.fst (Prod.snd b1)) noM, true)] True) (af.all (den ab) (fun (q6 : den ab) ↦ q6 = noM) fun (q6 : den ab) ↦ af.ite (bif !eqb ab (Prod.fst (Prod.snd b1)) noM then bl (Prod.fst (Prod.fst b1)) b2 (Prod.fst (Prod.snd b1)) else false) (af.req True (af.all (den ab) (fun (q7 : den ab) ↦ q7 = noM) fun (q7 : den ab) ↦ af.ret (K.val (Ty.pair ag (Ty.pair ae Ty.unit)) ((Prod.fst b1, q7, Prod.fst (Prod.snd (Prod.snd b1)), List.take (Int.toNat v5) (over b0 (0 + Int.toNat v5) (List.replicate (Int.toNat (↑(List.length b0) : Int) - Int.toNat v5) (zero ab))), Prod.snd (Prod.snd (Prod.snd (Prod.snd b1)))), 0, PUnit.unit)))) (af.ret (K.val (Ty.pair ag (Ty.pair ae Ty.unit)) ((Prod.fst b1, Prod.fst (Prod.snd b1), Prod.fst (Prod.snd (Prod.snd b1)), List.take (Int.toNat v5) (over b0 (0 + Int.toNat v5) (List.replicate (Int.toNat (↑(List.length b0) : Int) - Int.toNat v5) (zero ab))), Prod.snd (Prod.snd (Prod.snd (Prod.snd b1)))), 0, PUnit.unit)))))))))))
theorem de (v5 : den ae) (v6 : den ae) (b0 : List (den ab)) (b1 : den ag) (b2 : den (Ty.slc ae)) (b3 : den ag) : ap fl kA 5000 (dO v5 v6 b0 b1 b2 b3) an (lp al 5) (dL v5 v6 b0 b1 b2 b3) = g7 v5 v6 b0 b1 b2 b3 := by kernel_rfl
end Go.Proofs.Ytimdnodkabnbfaa
namespace Go.Proofs.Ytimdnodkabnbfaa
open Go Go.RowKit
abbrev LL := List (List Mem)
abbrev GCc (O : Nat → Prop) (w0 : World) (bk : Option Nat) (s : LL) := bw prog bV (rcx O w0 bk) (pR prog O w0 bk ab (s.flatten : List Mem))
theorem qd (s : LL) {i : Nat} (hi : i < s.length) : (s.take (i + 1)).flatten = (s.take i).flatten ++ s[i] := by
 rw [List.take_succ_eq_append_getElem hi, List.flatten_append, List.flatten_cons, List.flatten_nil, List.append_nil]
theorem rP (s : LL) (i : Nat) : (s.take i).flatten.length ≤ s.flatten.length := by
 have h : s.flatten = (s.take i).flatten ++ (s.drop i).flatten := by rw [← List.flatten_append, List.take_append_drop]
 rw [h, List.length_append]; omega
def Ae (O : Nat → Prop) (w0 : World) (bk : Option Nat) (s : LL) (hm : s.length ≤ maxLen) (ht : s.flatten.length ≤ 1073741824) :=
 PLift.up <| bF (σ := List Mem) s.length (fun i b => b = (s.take i).flatten)
  (fun i b => GCc O w0 bk s [] aF (lp aE 11) (ib s (lnx (Ty.slc ab) s) (i : Nat) b))
  (fun i b hi hs ih => jB bL (fM s _ _ b) (by
   have e := qd s hi
   have hle := rP s (i + 1)
   refine ⟨fun _ => ⟨be hi, ?_⟩, fun hc => absurd hi (by rw [cp (e := Ty.slc ab)] at hc; exact of_decide_eq_false hc)⟩
   rw [cn (e := Ty.slc ab) hi, cF hi hm, hs, ← e]
   exact ⟨Nat.le_trans hle ht, ih _ rfl⟩))
  (fun b hs => jB bL (fM s _ _ b) ⟨fun hc => absurd (of_decide_eq_true hc) (Int.lt_irrefl _), fun _ => ⟨(by simp [vok]), by
   show K.val (.slc ab) (mS ab b 0 (List.length b)) = K.val (.slc ab) (s.flatten : List Mem)
   rw [zG _ rfl, hs, List.take_length]⟩⟩)
theorem zY (O : Nat → Prop) (w0 : World) (bk : Option Nat) (s : LL) (hm : s.length ≤ maxLen) (ht : s.flatten.length ≤ 1073741824) : GCc O w0 bk s [] aF (lp aE 11) (g8 s (lnx (Ty.slc ab) s) 0) :=
  jB bL (lu s _ _) (by
    have hle := rP s (0 + 1)
    refine ⟨fun hc => ?_, fun hc => ?_⟩
    · have hi : 0 < s.length := Int.ofNat_lt.1 (of_decide_eq_true hc)
      have e := qd s hi
      refine ⟨be hi, ?_⟩
      have e0 : el (Ty.slc ab) s 0 = s[0] := cn (e := Ty.slc ab) hi
      have e1 : (s.take (0 + 1)).flatten = s[0] := by rw [e]; rfl
      rw [e0, show IntKind.wrap .i64 ((0 : Int) + 1) = ((0 + 1 : Nat) : Int) from rfl, ← e1]
      exact ⟨Nat.le_trans hle ht, (Ae O w0 bk s hm ht).down 1 _ hi rfl⟩
    · have hi : s.length = 0 := by
        have : ¬ (0 : Int) < ((s.length : Nat) : Int) := of_decide_eq_false hc
        omega
      show K.val (.slc ab) [] = K.val (.slc ab) (s.flatten : List Mem)
      rw [List.eq_nil_of_length_eq_zero hi]
      rfl)
theorem EN {α : Type} {zs pre ys : List α} (h : zs.take pre.length = pre) (hl : pre.length + ys.length ≤ zs.length) : (over zs pre.length ys).take (pre ++ ys).length = pre ++ ys := by
 rw [List.length_append, EB (by omega), h]
def BR (O : Nat → Prop) (w0 : World) (bk : Option Nat) (s : LL) (hm : s.length ≤ maxLen) :=
 PLift.up <| bF (σ := List Mem) s.length (fun i b => b.length = s.flatten.length ∧ b.take (s.take i).flatten.length = (s.take i).flatten)
  (fun i b => GCc O w0 bk s [] aF (lp aE 11) (jf 0 (s.take i).flatten.length s (lnx (Ty.slc ab) s) (i : Nat) b))
  (fun i b hi hs ih => jB bL (gC 0 _ s _ _ b) (by
   obtain ⟨h1, h2⟩ := hs
   have e := qd s hi
   have el' : (s.take (i + 1)).flatten.length = (s.take i).flatten.length + s[i].length := by rw [e, List.length_append]
   have hle := rP s (i + 1)
   have hle0 := rP s i
   refine ⟨fun _ => ⟨be hi, ?_⟩, fun hc => absurd hi (by rw [cp (e := Ty.slc ab)] at hc; exact of_decide_eq_false hc)⟩
   rw [cn (e := Ty.slc ab) hi, cF hi hm, Nat.zero_add, ← el', h1]
   refine ⟨(by unfold vok; omega), hle, ih _ ⟨?_, ?_⟩⟩
   ·show (over b (s.take i).flatten.length s[i]).length = _
    rw [wY (by omega), h1]
   ·have := EN (ys := s[i]) h2 (by omega)
    rw [← e] at this
    exact this))
  (fun b hs => jB bL (gC 0 _ s _ _ b) ⟨fun hc => absurd (of_decide_eq_true hc) (Int.lt_irrefl _), fun _ => by
   obtain ⟨h1, h2⟩ := hs
   rw [List.take_length] at h2 ⊢
   refine ⟨(by unfold vok; omega), ?_⟩
   show K.val (.slc ab) (mS ab b 0 (s.flatten : List Mem).length) = K.val (.slc ab) (s.flatten : List Mem)
   rw [D0, h2]⟩)
def Ey (O : Nat → Prop) (w0 : World) (bk : Option Nat) (s : LL) (hm : s.length ≤ maxLen) (ht : s.flatten.length ≤ 1073741824) :=
 PLift.up <| bF (σ := Unit) s.length (fun _ _ => True)
  (fun i _ => GCc O w0 bk s [] aF (lp aE 3) (jr s ((s.take i).flatten.length : Nat) s (lnx (Ty.slc ab) s) (i : Nat)))
  (fun i _ hi _ ih => jB bL (gX s _ s _ _) (by
   have e := qd s hi
   have el' : (s.take (i + 1)).flatten.length = (s.take i).flatten.length + s[i].length := by rw [e, List.length_append]
   have hle := rP s (i + 1)
   refine ⟨fun _ => ⟨be hi, ?_⟩, fun hc => absurd hi (by rw [cp (e := Ty.slc ab)] at hc; exact of_decide_eq_false hc)⟩
   have e2 : IntKind.wrap .i64 ((((s.take i).flatten.length : Nat) : Int) + lnx ab s[i]) = (((s.take (i + 1)).flatten.length : Nat) : Int) := by
    rw [el', show lnx ab s[i] = ((s[i].length : Nat) : Int) from rfl, du (by omega)]; omega
   rw [cn (e := Ty.slc ab) hi, cF hi hm, e2]
   exact ⟨fun hc => absurd (of_decide_eq_true hc) (by omega), fun _ => ih () trivial⟩))
  (fun _ _ => jB bL (gX s _ s _ _) ⟨fun hc => absurd (of_decide_eq_true hc) (Int.lt_irrefl _), fun _ => by
   rw [List.take_length]
   have e0 : IntKind.wrap .i64 ((((s.flatten : List Mem).length : Nat) : Int) - IntKind.wrap .i64 (0 - 0)) = (((s.flatten : List Mem).length : Nat) : Int) := by
    rw [show IntKind.wrap .i64 ((0 : Int) - 0) = 0 from rfl, du (by omega)]; omega
   rw [e0]
   refine ⟨fun hc => absurd (of_decide_eq_true hc) (Int.not_lt.2 (Int.natCast_nonneg _)), fun _ => ⟨fun hc => ?_, fun hc => zY O w0 bk s hm ht⟩⟩
   have hc := of_decide_eq_true hc
   rw [Int.toNat_natCast]
   refine ⟨⟨Int.le_refl _, Int.le_refl _, Int.le_refl _⟩, hc, ht, (by simp [vok]), ⟨Int.le_refl _, Int.le_refl _, Int.natCast_nonneg _⟩, ?_⟩
   exact (BR O w0 bk s hm).down 0 _ (Nat.zero_le _) ⟨List.length_replicate .., rfl⟩⟩)
theorem pD : lP prog [] bz qx :=
 Dk bL (fx := aF) rfl pB (by kernel_rfl) (T := fun _ y => kp y.1) (fun xs y _ => n8 y.1) fun O w0 bk xs y hxl hy hp =>
  (Ey O w0 bk y.1 hy.1.1 hp).down 0 () (Nat.zero_le _) trivial
end Go.Proofs.Ytimdnodkabnbfaa
namespace Go.Proofs.Ytimdnodkabnbfaa
open Go Go.RowKit
structure iZ (g : Mem → Bool) (l : List Mem) (k i : Nat) (b : List Mem) : Prop where
 le : k ≤ i
 il : i ≤ l.length
 len : b.length = l.length
 pre : b.take k = (l.take i).filter (fun m => !g m)
 post : b.drop i = l.drop i
theorem iZ.at {g : Mem → Bool} {l b : List Mem} {k i : Nat} (h : iZ g l k i b) (hi : i < l.length) (hb : i < b.length) : b[i] = l[i] := by
 have h1 := h.post
 rw [List.drop_eq_getElem_cons hb, List.drop_eq_getElem_cons hi] at h1
 exact (List.cons.inj h1).1
theorem iZ.keep {g : Mem → Bool} {l b : List Mem} {k i : Nat} (h : iZ g l k i b) (hi : i < l.length) (hg : g l[i] = false) : iZ g l (k + 1) (i + 1) (b.set k l[i]) := by
 have h0 := h.le
 have h3 := h.len
 refine ⟨by omega, hi, by rw [List.length_set, h3], ?_, ?_⟩
 ·rw [List.take_succ_eq_append_getElem hi, List.filter_append, ← h.pre, List.take_succ_eq_append_getElem (by rw [List.length_set]; omega), List.getElem_set_self, List.take_set_of_le (Nat.le_refl _)]
  simp [hg]
 ·rw [List.drop_set_of_lt (by omega)]
  have h1 := h.post
  rw [List.drop_eq_getElem_cons (show i < b.length by omega), List.drop_eq_getElem_cons hi] at h1
  exact (List.cons.inj h1).2
theorem iZ.skip {g : Mem → Bool} {l b : List Mem} {k i : Nat} (h : iZ g l k i b) (hi : i < l.length) (hg : g l[i] = true) : iZ g l k (i + 1) b := by
 have h0 := h.le
 have h3 := h.len
 refine ⟨by omega, hi, h3, ?_, ?_⟩
 ·rw [List.take_succ_eq_append_getElem hi, List.filter_append, ← h.pre]
  simp [hg]
 ·have h1 := h.post
  rw [List.drop_eq_getElem_cons (show i < b.length by omega), List.drop_eq_getElem_cons hi] at h1
  exact (List.cons.inj h1).2
theorem iZ.first {g : Mem → Bool} {l : List Mem} {i : Nat} (hi : i < l.length) (h0 : ∀ m ∈ l.take i, g m = false) (hg : g l[i] = true) : iZ g l i (i + 1) l :=
 ⟨Nat.le_succ _, hi, rfl, by
  rw [List.take_succ_eq_append_getElem hi, List.filter_append, List.filter_eq_self.2 (fun m hm => by simp [h0 m hm])]
  simp [hg], rfl⟩
theorem iZ.done {g : Mem → Bool} {l b : List Mem} {k : Nat} (h : iZ g l k l.length b) {z : Mem} {n : Nat} : (over b k (List.replicate n z)).take k = l.filter (fun m => !g m) := by
 have h0 := h.le
 have h3 := h.len
 rw [Ca (Nat.le_refl _) (by omega), h.pre, List.take_length]
theorem AY {g : Mem → Bool} {l : List Mem} (h0 : ∀ m ∈ l, g m = false) : l.filter (fun m => !g m) = l := List.filter_eq_self.2 (fun m hm => by simp [h0 m hm])
end Go.Proofs.Ytimdnodkabnbfaa
namespace Go.Proofs.Ytimdnodkabnbfaa
open Go Go.RowKit
abbrev GDr (O : Nat → Prop) (w0 : World) (y : Nd) := bw prog fl (Cx.base O w0) (cv prog O w0 gL fun z => z = (y, 0, ()))
theorem dJ : XOk prog fl := Cb lw qM zV qu
def jO (n : Nd) (nos : List Int) (f : List Mem) : Nd := (n.1, (bif (bif !decide (n.2.1 = noM) then bl n.1.1 nos n.2.1 else false) then noM else n.2.1), nW n n.2.2.1, f, ())
def Ft (O : Nat → Prop) (w0 : World) (n r : Nd) (nos : List Int) (l : List Mem) (hm : l.length ≤ maxLen) :=
  PLift.up <| bF (σ := Nat × List Mem) l.length (fun i s => iZ (bl n.1.1 nos) l s.1 i s.2)
    (fun i s => GDr O w0 (jO n nos (l.filter fun m => !bl n.1.1 nos m)) (dO (s.1 : Nat) (i : Nat) s.2 n nos r) an (lp al 5) (dL (s.1 : Nat) (i : Nat) s.2 n nos r))
    (fun i s hi hs ih => aO dJ (de _ _ s.2 n nos r) (by
      obtain ⟨k, b⟩ := s
      have hs : iZ (bl n.1.1 nos) l k i b := hs
      have hb : i < b.length := by rw [hs.len]; exact hi
      have hk : k < b.length := by have := hs.le; omega
      have hat := hs.at hi hb
      refine ⟨fun _ => ⟨be hb, be hb, trivial, ?_⟩, fun hc => absurd hb (by rw [cp] at hc; exact of_decide_eq_false hc)⟩
      rw [cn hb, hat, cF hi hm, cF (show k < l.length by rw [← hs.len]; exact hk) hm]
      refine bE ⟨fun hc => ⟨be hk, be hk, ih (k + 1, b.set k l[i]) (hs.keep hi ?_)⟩, fun hc => ih (k, b) (hs.skip hi ?_)⟩
      · have hc : (!bl n.1.1 nos l[i]) = true := hc
        simpa using hc
      · have hc : (!bl n.1.1 nos l[i]) = false := hc
        simpa using hc))
    (fun s hs => aO dJ (de _ _ s.2 n nos r) (by
      obtain ⟨k, b⟩ := s
      have hs : iZ (bl n.1.1 nos) l k l.length b := hs
      have hl := hs.len
      have hle := hs.le
      refine ⟨fun hc => absurd (of_decide_eq_true hc) (by rw [show lnx ab b = ((l.length : Nat) : Int) from congrArg Nat.cast hl]; exact Int.lt_irrefl _), fun _ => ⟨(by simp [vok]), (show bq ((k : Nat) : Int) ((b.length : Nat) : Int) ((b.length - 0 : Nat) : Int) from ⟨by omega, by omega, by omega⟩), (by simp [vok]; omega), ?_, ?_⟩⟩
      · have : lnx ab (over b (0 + Int.toNat ((k : Nat) : Int)) (List.replicate (Int.toNat ((b.length : Nat) : Int) - Int.toNat ((k : Nat) : Int)) (zero ab))) = ((b.length : Nat) : Int) := congrArg Nat.cast (wY (by rw [List.length_replicate]; simp only [Int.toNat_natCast]; omega))
        show bq 0 ((k : Nat) : Int) (lnx ab (over b (0 + Int.toNat ((k : Nat) : Int)) (List.replicate (Int.toNat ((b.length : Nat) : Int) - Int.toNat ((k : Nat) : Int)) (zero ab))))
        rw [this]
        exact ⟨Int.le_refl _, by omega, by omega⟩
      · have hF : List.take (Int.toNat ((k : Nat) : Int)) (over b (0 + Int.toNat ((k : Nat) : Int)) (List.replicate (Int.toNat ((b.length : Nat) : Int) - Int.toNat ((k : Nat) : Int)) (zero ab))) = l.filter fun m => !bl n.1.1 nos m := by
          simp only [Int.toNat_natCast, Nat.zero_add]
          exact hs.done
        have fin : ∀ {p : Nd}, jO n nos (l.filter fun m => !bl n.1.1 nos m) = p → ∃ z, a6 gL (K.val (Ty.pair ag (Ty.pair ae Ty.unit)) (p, 0, ())) = some z ∧ z = (jO n nos (l.filter fun m => !bl n.1.1 nos m), 0, ()) := fun {p} e => ⟨_, rfl, by rw [e]⟩
        rw [← hF] at fin ⊢
        have cases2 : ∀ {su : List Mem}, nW n n.2.2.1 = su → True := fun _ => trivial
        refine ⟨fun h => ⟨trivial, fun _ => trivial, bE ⟨fun h2 => ⟨trivial, bE (fin ?_)⟩, fun h2 => fin ?_⟩⟩, fun h => ⟨trivial, fun _ => trivial, bE ⟨fun h2 => ⟨trivial, bE (fin ?_)⟩, fun h2 => fin ?_⟩⟩⟩
        all_goals
          rw [k5] at h2
          unfold jO nW
          rw [h, h2]
          rfl))
theorem zN {g : Mem → Bool} {l : List Mem} {i : Nat} (hi : i < l.length) (h : ∀ m ∈ l.take i, g m = false) (hg : g l[i] = false) : ∀ m ∈ l.take (i + 1), g m = false := fun m hm => by
 rw [List.take_succ_eq_append_getElem hi] at hm
 rcases List.mem_append.1 hm with hm | hm
 ·exact h m hm
 ·rw [List.mem_singleton.1 hm]; exact hg
def EP (O : Nat → Prop) (w0 : World) (n r : Nd) (nos : List Int) (l : List Mem) (hm : l.length ≤ maxLen) :=
 PLift.up <| bF (σ := Unit) l.length (fun i _ => ∀ m ∈ l.take i, bl n.1.1 nos m = false)
  (fun i _ => GDr O w0 (jO n nos (l.filter fun m => !bl n.1.1 nos m)) (cz (lnx ab l) (i : Nat) l n nos r) ax (lp az 2) (cC (lnx ab l) (i : Nat) l n nos r))
  (fun i _ hi hs ih => aO dJ (dp _ _ l n nos r) (by
   refine ⟨fun _ => ⟨be hi, be hi, trivial, ?_⟩, fun hc => absurd hi (by rw [cp] at hc; exact of_decide_eq_false hc)⟩
   rw [cn hi, cF hi hm]
   refine ⟨fun hg => ⟨fun hc => ?_, fun _ => (Ft O w0 n r nos l hm).down (i + 1) (i, l) hi (.first hi hs hg)⟩, fun hg => ih () (zN hi hs hg)⟩
   have hc : ((i : Nat) : Int) = -1 := of_decide_eq_true hc
   omega))
  (fun _ hs => aO dJ (dp _ _ l n nos r) (by
   rw [List.take_length] at hs
   have hF := AY hs
   refine ⟨fun hc => absurd (of_decide_eq_true hc) (Int.lt_irrefl _), fun _ => ⟨fun _ => ?_, fun hc => (by cases hc)⟩⟩
   rw [hF]
   have fin : ∀ {p : Nd}, jO n nos l = p → ∃ z, a6 gL (K.val (Ty.pair ag (Ty.pair ae Ty.unit)) (p, 0, ())) = some z ∧ z = (jO n nos l, 0, ()) := fun {p} e => ⟨_, rfl, by rw [e]⟩
   refine ⟨fun h => ⟨trivial, fun _ => trivial, bE ⟨fun h2 => ⟨trivial, bE (fin ?_)⟩, fun h2 => fin ?_⟩⟩, fun h => ⟨trivial, fun _ => trivial, bE ⟨fun h2 => ⟨trivial, bE (fin ?_)⟩, fun h2 => fin ?_⟩⟩⟩
   all_goals
    rw [k5] at h2
    unfold jO nW
    rw [h, h2]
    rfl))
theorem Hm (n : Nd) (nos : List Int) : jO (n.1, n.2.1, n.2.2.1.filter (fun m => !bl n.1.1 nos m), n.2.2.2) nos (n.2.2.2.1.filter fun m => !bl n.1.1 nos m) = kO n nos := rfl
theorem zx (O : Nat → Prop) (w0 : World) (n r : Nd) (nos : List Int) (su : List Mem) (hsu : su = n.2.2.1.filter (fun m => !bl n.1.1 nos m)) (hf : n.2.2.2.1.length ≤ 16) :
    GDr O w0 (kO n nos) (cz (lnx ab n.2.2.2.1) 0 n.2.2.2.1 (n.1, n.2.1, su, n.2.2.2) nos r) ax (lp az 2) (cC (lnx ab n.2.2.2.1) 0 n.2.2.2.1 (n.1, n.2.1, su, n.2.2.2) nos r) := by
  subst hsu
  rw [← Hm]
  exact (EP O w0 (n.1, n.2.1, n.2.2.1.filter (fun m => !bl n.1.1 nos m), n.2.2.2) r nos n.2.2.2.1 (Nat.le_trans hf (by decide))).down 0 () (Nat.zero_le _) (fun m hm => by cases hm)
def Fe (O : Nat → Prop) (w0 : World) (n r : Nd) (nos : List Int) (hm : n.2.2.1.length ≤ maxLen) (hf : n.2.2.2.1.length ≤ 16) :=
 PLift.up <| bF (σ := Nat × List Mem) n.2.2.1.length (fun i s => iZ (bl n.1.1 nos) n.2.2.1 s.1 i s.2)
  (fun i s => GDr O w0 (kO n nos) (d7 (s.1 : Nat) (i : Nat) s.2 n nos r) an (lp al 5) (dZ (s.1 : Nat) (i : Nat) s.2 n nos r))
  (fun i s hi hs ih => aO dJ (dz _ _ s.2 n nos r) (by
   obtain ⟨k, b⟩ := s
   have hs : iZ (bl n.1.1 nos) n.2.2.1 k i b := hs
   have hb : i < b.length := by rw [hs.len]; exact hi
   have hk : k < b.length := by have := hs.le; omega
   have hat := hs.at hi hb
   refine ⟨fun _ => ⟨be hb, be hb, trivial, ?_⟩, fun hc => absurd hb (by rw [cp] at hc; exact of_decide_eq_false hc)⟩
   rw [cn hb, hat, cF hi hm, cF (show k < n.2.2.1.length by rw [← hs.len]; exact hk) hm]
   refine bE ⟨fun hc => ⟨be hk, be hk, ih (k + 1, b.set k n.2.2.1[i]) (hs.keep hi ?_)⟩, fun hc => ih (k, b) (hs.skip hi ?_)⟩
   ·have hc : (!bl n.1.1 nos n.2.2.1[i]) = true := hc
    simpa using hc
   ·have hc : (!bl n.1.1 nos n.2.2.1[i]) = false := hc
    simpa using hc))
  (fun s hs => aO dJ (dz _ _ s.2 n nos r) (by
   obtain ⟨k, b⟩ := s
   have hs : iZ (bl n.1.1 nos) n.2.2.1 k n.2.2.1.length b := hs
   have hl := hs.len
   have hle := hs.le
   refine ⟨fun hc => absurd (of_decide_eq_true hc) (by rw [show lnx ab b = ((n.2.2.1.length : Nat) : Int) from congrArg Nat.cast hl]; exact Int.lt_irrefl _), fun _ => ⟨(by simp [vok]), (show bq ((k : Nat) : Int) ((b.length : Nat) : Int) ((b.length - 0 : Nat) : Int) from ⟨by omega, by omega, by omega⟩), (by simp [vok]; omega), ?_, Nat.le_trans hf (by decide), ?_⟩⟩
   ·have : lnx ab (over b (0 + Int.toNat ((k : Nat) : Int)) (List.replicate (Int.toNat ((b.length : Nat) : Int) - Int.toNat ((k : Nat) : Int)) (zero ab))) = ((b.length : Nat) : Int) := congrArg Nat.cast (wY (by rw [List.length_replicate]; simp only [Int.toNat_natCast]; omega))
    show bq 0 ((k : Nat) : Int) (lnx ab (over b (0 + Int.toNat ((k : Nat) : Int)) (List.replicate (Int.toNat ((b.length : Nat) : Int) - Int.toNat ((k : Nat) : Int)) (zero ab))))
    rw [this]
    exact ⟨Int.le_refl _, by omega, by omega⟩
   ·refine zx O w0 n r nos _ ?_ hf
    simp only [Int.toNat_natCast, Nat.zero_add]
    exact hs.done))
def FH (O : Nat → Prop) (w0 : World) (n r : Nd) (nos : List Int) (hm : n.2.2.1.length ≤ maxLen) (hf : n.2.2.2.1.length ≤ 16) :=
 PLift.up <| bF (σ := Unit) n.2.2.1.length (fun i _ => ∀ m ∈ n.2.2.1.take i, bl n.1.1 nos m = false)
  (fun i _ => GDr O w0 (kO n nos) (eD (lnx ab n.2.2.1) (i : Nat) n.2.2.1 n nos r) ax (lp az 2) (eC (lnx ab n.2.2.1) (i : Nat) n.2.2.1 n nos r))
  (fun i _ hi hs ih => aO dJ (dE _ _ n.2.2.1 n nos r) (by
   refine ⟨fun _ => ⟨be hi, be hi, trivial, ?_⟩, fun hc => absurd hi (by rw [cp] at hc; exact of_decide_eq_false hc)⟩
   rw [cn hi, cF hi hm]
   refine ⟨fun hg => ⟨fun hc => ?_, fun _ => (Fe O w0 n r nos hm hf).down (i + 1) (i, n.2.2.1) hi (.first hi hs hg)⟩, fun hg => ih () (zN hi hs hg)⟩
   have hc : ((i : Nat) : Int) = -1 := of_decide_eq_true hc
   omega))
  (fun _ hs => aO dJ (dE _ _ n.2.2.1 n nos r) (by
   rw [List.take_length] at hs
   exact ⟨fun hc => absurd (of_decide_eq_true hc) (Int.lt_irrefl _), fun _ => ⟨fun _ => ⟨Nat.le_trans hf (by decide), zx O w0 n r nos n.2.2.1 (AY hs).symm hf⟩, fun hc => (by cases hc)⟩⟩))
theorem Bd {n : Nd} (h : a9 n = true) : n.2.2.1.length ≤ 4 ∧ 1 ≤ n.2.2.1.length ∧ n.2.2.2.1.length ≤ 16 := by
 unfold a9 qY at h
 simp only [Bool.cond_eq_ite, Bool.ite_eq_true_distrib] at h
 have e1 : lnx ab n.2.2.1 = ((n.2.2.1.length : Nat) : Int) := rfl
 have e2 : lnx ab n.2.2.2.1 = ((n.2.2.2.1.length : Nat) : Int) := rfl
 rw [e1, e2] at h
 by_cases h1 : (1 : Int) ≤ ((n.2.2.1.length : Nat) : Int) <;> by_cases h2 : ((n.2.2.1.length : Nat) : Int) ≤ 4 <;> by_cases h3 : ((n.2.2.2.1.length : Nat) : Int) ≤ 16 <;> simp [h1, h2, h3] at h
 exact ⟨by omega, by omega, by omega⟩
theorem Cd : aC prog [] mR m4 :=
 bY (S := m4) dJ (fx := bj) Bf (by kernel_rfl) (fun _ _ => trivial) (T := fun x => vu x.1 x.2.1) (fun x => yr x.1 x.2.1) fun O w0 x _ _ => by
  obtain ⟨n, nos, ⟨⟩⟩ := x
  refine ⟨trivial, bE ⟨fun h => ⟨_, rfl, ?_⟩, fun h => ?_⟩⟩
  ·have h : (!a9 n) = true := h
   show _ = ((fo n nos).1, (fo n nos).2, ())
   unfold fo
   rw [h]
   rfl
  ·have h : (!a9 n) = false := h
   have hr : a9 n = true := by simpa using h
   obtain ⟨l1, l2, l3⟩ := Bd hr
   refine ⟨Nat.le_trans l1 (by decide), ?_⟩
   have e : fo n nos = (kO n nos, 0) := by unfold fo; rw [h]; rfl
   show bw _ _ _ (cv prog O w0 gL fun z => z = ((fo n nos).1, (fo n nos).2, ())) _ _ _ _
   rw [e]
   exact (FH O w0 n (zero ag) nos (Nat.le_trans l1 (by decide)) l3).down 0 () (Nat.zero_le _) (fun m hm => by cases hm)
end Go.Proofs.Ytimdnodkabnbfaa
namespace Go.Proofs.Ytimdnodkabnbfaa
open Go Go.RowKit
def cX (l : List Nd) : List Mem := l.map sfN
def bW (n : Nd) : List Mem := [n.2.1] ++ n.2.2.1 ++ n.2.2.2.1
def eT (l : List Nd) (no : Int) : Bool := l.any fun n => decide (n.1.1 = no)
end Go.Proofs.Ytimdnodkabnbfaa
