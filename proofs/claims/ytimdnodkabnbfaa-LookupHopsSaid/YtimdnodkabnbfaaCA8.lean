/- Part 8 of 9 of what this claim's proof stands on: a theory of programs on data, and the contracts of the functions that the law reaches. It holds no condition of its own. -/
import Derived.Test.YtimdnodkabnbfaaCA7
namespace Go.Proofs.Ytimdnodkabnbfaa
open Go Go.RowKit
noncomputable abbrev gv : Fx := { fn := ed, ann := { } }
noncomputable abbrev gL : a8 := { D := { T := bt, F := [(cH, dy)], R := [], ovl := [] }, inl := [] }
noncomputable abbrev mb : bE := .data gw
theorem mE (h_slices_IndexFunc_Member : aE prog [] cH dy) : XOk prog gL := xok (aI (aV bf aO) h_slices_IndexFunc_Member) (by kernel_rfl) aW bg bh
noncomputable def gM (s : den (Ty.slc ab)) (f : den (Ty.fn (Ty.pair ab Ty.unit) (Ty.pair Ty.bool Ty.unit))) : af := af.req (∃ (h : den (Ty.pair ab Ty.unit) → den (Ty.pair Ty.bool Ty.unit)), f = some h) (af.ret (K.val (Ty.pair Ty.bool Ty.unit) (decide (0 ≤ ixP (prM f) s 0), PUnit.unit)))
theorem li (s : den (Ty.slc ab)) (f : den (Ty.fn (Ty.pair ab Ty.unit) (Ty.pair Ty.bool Ty.unit))) : ap gL mb 5000 [] gv (aH ed) (Env.of (aM gx (s, f, ()) 0) []) = gM s f := by kernel_rfl
noncomputable abbrev jW : Fx := { fn := gk, ann := { frz := [(1, [1])] } }
noncomputable abbrev kp : a8 := { D := { T := bt, F := [], R := [], ovl := [] }, inl := [] }
noncomputable abbrev qw : bE := .data jp
theorem qP : XOk prog kp := xok ((aV bf aO)) (by kernel_rfl) aW bg bh
noncomputable def kd (s : den (Ty.slc ab)) : af := af.ret (K.val (Ty.pair (Ty.clo cU (Ty.pair (Ty.ref (Ty.slc ab)) Ty.unit)) Ty.unit) ((s, PUnit.unit), PUnit.unit))
theorem nN (s : den (Ty.slc ab)) : ap kp qw 5000 [] jW (aH gk) (Env.of (aM jU (s, ()) 0) []) = kd s := by kernel_rfl
noncomputable abbrev fR : Fx := { fn := fl, ann := { loops := [(2, { keep := [0, 6, 7, 8] })], frz := [(4, [4])] } }
noncomputable abbrev jt : a8 := { D := { T := bt, F := [(bO, bN), (jF, jJ)], R := [], ovl := [] }, inl := [] }
noncomputable abbrev uf : bE := .data nx
theorem Bz (h_slices_ContainsFunc_Member : aE prog [] bO bN) (h_ring_Right_1 : aE prog [] jF jJ) : XOk prog jt := xok (aI (aI (aV bf aO) h_ring_Right_1) h_slices_ContainsFunc_Member) (by kernel_rfl) aW bg bh
noncomputable def uw (l : den (Ty.slc ab)) : af := af.loop [] fR (lp fl 2) [(0, K.val (Ty.slc ab) l), (6, K.val (Ty.slc ab) l), (7, K.val ae (lnx ab l)), (8, K.val ae 0)] []
theorem xJ (l : den (Ty.slc ab)) : ap jt uf 5000 [] fR (aH fl) (Env.of (aM sP (l, ()) 0) []) = uw l := by kernel_rfl
noncomputable def rJ (v0 : den (Ty.slc ab)) (v6 : den (Ty.slc ab)) (v7 : den ae) (v8 : den ae) : Env := Env.of [(0, K.val (Ty.slc ab) v0), (6, K.val (Ty.slc ab) v6), (7, K.val ae v7), (8, K.val ae v8)] []
noncomputable def xi (v0 : den (Ty.slc ab)) (v6 : den (Ty.slc ab)) (v7 : den ae) (v8 : den ae) : af := af.ite (decide (v8 < v7)) (af.req (inB v8 (lnx ab v6)) (af.req (br 0 v8 (lnx ab v0)) (af.req (∀ (y : den (Ty.pair ab Ty.unit)), True) (af.req (∃ (h : den (Ty.pair ab Ty.unit) → den (Ty.pair Ty.bool Ty.unit)), (some fun (y : den (Ty.pair ab Ty.unit)) ↦ (kM (Prod.fst y) (el ab v6 v8), PUnit.unit)) = some h) (af.ite (bif bif List.any (eP ab v0 0 v8) (prM (some fun (y : den (Ty.pair ab Ty.unit)) ↦ (kM (Prod.fst y) (el ab v6 v8), PUnit.unit))) then true else decide (Prod.fst (el ab v6 v8) < 0) then true else decide (16 ≤ Prod.fst (el ab v6 v8))) (af.ret (K.val (Ty.pair Ty.bool Ty.unit) (false, PUnit.unit))) (af.loop [] fR (lp fl 2) [(0, K.val (Ty.slc ab) v0), (6, K.val (Ty.slc ab) v6), (7, K.val ae v7), (8, K.val ae (IntKind.wrap IntKind.i64 (v8 + 1)))] [])))))) (af.ret (K.val (Ty.pair Ty.bool Ty.unit) (decide (lnx ab v0 ≤ 16), PUnit.unit)))
theorem nh (v0 : den (Ty.slc ab)) (v6 : den (Ty.slc ab)) (v7 : den ae) (v8 : den ae) : ap jt uf 5000 [] fR (lp fl 2) (rJ v0 v6 v7 v8) = xi v0 v6 v7 v8 := by kernel_rfl
end Go.Proofs.Ytimdnodkabnbfaa
namespace Go.Proofs.Ytimdnodkabnbfaa
open Go Go.RowKit
theorem gU : aE prog [] bO bN :=
 bW (S := bN) (mE nW) (fx := gv) lS (by kernel_rfl) (fun h => by cases h) (T := fun x => gM x.1 x.2.1) (fun x => li x.1 x.2.1) fun O w0 x _ hp =>
  ⟨hp, _, rfl, by show (decide (0 ≤ ixP (prM x.2.1) x.1 0), ()) = (x.1.any (prM x.2.1), ()); rw [G5]⟩
theorem qz : aE prog [] eD eE :=
 bW (S := eE) qP (fx := jW) pz (by kernel_rfl) (fun h => by cases h) (T := fun x => kd x.1) (fun x => nN x.1) fun O w0 x _ _ => ⟨_, rfl, rfl⟩
abbrev GRi (O : Nat → Prop) (w0 : World) (y : Bool) := bv prog jt (Cx.base O w0) (cu prog O w0 nx fun z => z = (y, ()))
theorem nl : XOk prog jt := Bz gU yT
theorem Fh (pre : List Mem) (m : Mem) (l : List Mem) : wI pre (m :: l) = ((!(pre.any fun x => kM x m)) && decide (0 ≤ m.1) && decide (m.1 < 16) && wI (pre ++ [m]) l) := rfl
theorem AZ {e : Ty} (xs : List (den e)) (i : Nat) : eP e xs 0 (i : Nat) = xs.take i := by
 unfold eP ii
 rw [Int.toNat_natCast]
 exact List.drop_zero
def z3 (O : Nat → Prop) (w0 : World) (l : List Mem) (hm : l.length ≤ maxLen) :=
 PLift.up <| bK (σ := Unit) l.length (fun i _ => wI (l.take i) (l.drop i) = wI [] l)
  (fun i _ => GRi O w0 (ia l) [] fR (lp fl 2) (rJ l l (lnx ab l) (i : Nat)))
  (fun i _ hi hs ih => aP nl (nh l l _ _) (by
   rw [List.drop_eq_getElem_cons hi, Fh, ← List.take_succ_eq_append_getElem hi] at hs
   have hi' : i ≤ l.length := Nat.le_of_lt hi
   refine ⟨fun _ => ⟨be hi, ⟨Int.le_refl _, Int.natCast_nonneg _, Int.ofNat_le.2 hi'⟩, fun _ => trivial, ⟨_, rfl⟩, ?_⟩, fun hc => absurd hi (by rw [cD] at hc; exact of_decide_eq_false hc)⟩
   rw [cL hi, cI hi hm, AZ]
   have e1 : ∀ xs : List Mem, (xs.any (prM (some fun y => (kM y.1 l[i], PUnit.unit)))) = xs.any fun x => kM x l[i] := fun xs => rfl
   refine ⟨fun hc => ⟨_, rfl, ?_⟩, fun hc => ih () ?_⟩
   ·rw [e1] at hc
    show (false, ()) = (ia l, ())
    have : wI [] l = false := by
     rw [← hs]
     cases h1 : (l.take i).any (fun x => kM x l[i]) with
     | true => rfl
     | false =>
      rw [h1] at hc
      by_cases h2 : (l[i].1 : Int) < 0
      ·rw [decide_eq_false (show ¬ (0 : Int) ≤ l[i].1 from fun h => absurd h2 (Int.not_lt.2 h))]; rfl
      ·rw [decide_eq_false h2] at hc
       have h3 : (16 : Int) ≤ l[i].1 := of_decide_eq_true hc
       rw [decide_eq_false (show ¬ (l[i].1 : Int) < 16 from Int.not_lt.2 h3)]
       cases decide (0 ≤ l[i].1) <;> rfl
    unfold ia
    rw [this]
    rfl
   ·rw [e1] at hc
    rw [← hs]
    cases h1 : (l.take i).any (fun x => kM x l[i]) with
    | true => rw [h1] at hc; cases hc
    | false =>
     rw [h1] at hc
     by_cases h2 : (l[i].1 : Int) < 0
     ·rw [decide_eq_true h2] at hc; cases hc
     ·rw [decide_eq_false h2] at hc
      have h3 : ¬ (16 : Int) ≤ l[i].1 := of_decide_eq_false hc
      rw [decide_eq_true (show (0 : Int) ≤ l[i].1 from Int.not_lt.1 h2), decide_eq_true (show (l[i].1 : Int) < 16 from Int.not_le.1 h3)]
      rfl))
  (fun _ hs => aP nl (nh l l _ _) (by
   refine ⟨fun hc => absurd (of_decide_eq_true hc) (Int.lt_irrefl _), fun _ => ⟨_, rfl, ?_⟩⟩
   rw [List.drop_length] at hs
   show (decide ((l.length : Int) ≤ 16), ()) = (ia l, ())
   unfold ia
   rw [← hs]
   have : decide ((l.length : Int) ≤ 16) = decide (l.length ≤ 16) := decide_eq_decide.2 (by omega)
   rw [this]
   rfl))
theorem AG : aE prog [] lD lr :=
 bW (S := lr) nl (fx := fR) Af (by kernel_rfl) (fun _ _ => trivial) (T := fun x => uw x.1) (fun x => xJ x.1) fun O w0 x hk _ =>
  (z3 O w0 x.1 hk.1.1).down 0 () (Nat.zero_le _) rfl
end Go.Proofs.Ytimdnodkabnbfaa
namespace Go.Proofs.Ytimdnodkabnbfaa
open Go Go.RowKit
abbrev Il (m : Mem) : Int := vB m.2.1
abbrev OkM (l : List Mem) : Prop := ∀ m ∈ l, okT ab m
theorem tf {m : Mem} (h : okT ab m) : HZ m.2.1 := G3 h.2.1
theorem zb {x m : Mem} (h : x.1 = m.1) : kM x m = true := by unfold kM; rw [decide_eq_true h]; rfl
theorem Dl {x m : Mem} (h : x.2.1 = m.2.1) : kM x m = true := by
 unfold kM
 have : eqb tId x.2.1 m.2.1 = true := (lg (t := tId) rfl _ _).2 h
 rw [this]
 cases decide (x.1 = m.1) <;> rfl
structure RR (l : List Mem) : Prop where
 len : l.length ≤ 16
 no : ∀ m ∈ l, 0 ≤ (m.1 : Int) ∧ (m.1 : Int) < 16
 pw : l.Pairwise fun x m => kM x m = false
theorem RR.at {l : List Mem} (h : RR l) {i j : Nat} (hij : i < j) (hj : j < l.length) : kM l[i] l[j] = false := List.pairwise_iff_getElem.1 h.pw i j (by omega) hj hij
theorem RR.inj {l : List Mem} (h : RR l) {x y : Mem} (hx : x ∈ l) (hy : y ∈ l) (e : x.1 = y.1 ∨ x.2.1 = y.2.1) : x = y := by
 obtain ⟨i, hi, rfl⟩ := List.getElem_of_mem hx
 obtain ⟨j, hj, rfl⟩ := List.getElem_of_mem hy
 rcases Nat.lt_trichotomy i j with h1 | h1 | h1
 ·have := h.at h1 hj
  rcases e with e | e
  ·rw [zb e] at this; cases this
  ·rw [Dl e] at this; cases this
 ·subst h1; rfl
 ·have := h.at h1 hi
  rcases e with e | e
  ·rw [zb e.symm] at this; cases this
  ·rw [Dl e.symm] at this; cases this
theorem RR.nodup {l : List Mem} (h : RR l) : l.Nodup := List.Pairwise.imp (fun {x m} hf e => by rw [e, zb rfl] at hf; cases hf) h.pw
theorem RR.rng {l : List Mem} (h : RR l) (hk : OkM l) : DD Il sx l :=
 ⟨fun m hm => pL (tf (hk m hm)), fun x hx y hy e => h.inj hx hy (.inr (BJ (by rw [(tf (hk x hx)).1, (tf (hk y hy)).1]) (tf (hk x hx)).2 (tf (hk y hy)).2 e))⟩
end Go.Proofs.Ytimdnodkabnbfaa
namespace Go.Proofs.Ytimdnodkabnbfaa
open Go Go.RowKit
section
variable {l : List Mem}
end
end Go.Proofs.Ytimdnodkabnbfaa
namespace Go.Proofs.Ytimdnodkabnbfaa
open Go Go.RowKit
section
variable {l : List Mem}
theorem RR.sub {l l' : List Mem} (h : RR l) (hs : l'.Sublist l) : RR l' := ⟨Nat.le_trans hs.length_le h.len, fun m hm => h.no m (hs.subset hm), h.pw.sublist hs⟩
end
end Go.Proofs.Ytimdnodkabnbfaa
namespace Go.Proofs.Ytimdnodkabnbfaa
open Go Go.RowKit
end Go.Proofs.Ytimdnodkabnbfaa
namespace Go.Proofs.Ytimdnodkabnbfaa
open Go Go.RowKit
abbrev Nd := den ag
abbrev sfN (n : Nd) : Mem := n.1
def eX (m : Mem) : Bool := bif decide (0 ≤ m.1) then decide (m.1 < 16) else false
def y9 (no : Int) : List Mem → List Mem → Bool
 | _, [] => true
 | pre, m :: l => bif (bif (bif !eX m then true else decide (m.1 = no)) then true else pre.any fun x => decide (x.1 = m.1)) then false else y9 no (pre ++ [m]) l
def dn (l : List Mem) (no : Int) : Bool := y9 no [] l
def uI (n : Nd) : Bool := bif decide (n.2.1 = noM) then true else bif eX n.2.1 then !decide (n.2.1.1 = n.1.1) else false
def rH (n : Nd) : Bool := bif (bif decide (1 ≤ lnx ab n.2.2.1) then decide (lnx ab n.2.2.1 ≤ 4) else false) then (bif decide (n.2.2.1 = [n.1]) then true else dn n.2.2.1 n.1.1) else false
def a9 (n : Nd) : Bool := bif (bif (bif (bif eX n.1 then uI n else false) then rH n else false) then decide (lnx ab n.2.2.2.1 ≤ 16) else false) then dn n.2.2.2.1 n.1.1 else false
def ot (n : Nd) (id : List Int) : Bool := bif (bif a9 n then !decide (n.2.1 = noM) else false) then nu id n.2.1.2.1 n.1.2.1 else false
def lm (self id : List Int) (m : Mem) : Bool := bif (bif !decide (m.2.1 = self) then !decide (m.2.1 = id) else false) then nu m.2.1 self id else false
def fq (self : List Int) (b : Mem × Int) (m : Mem) : Mem × Int := bif (bif !decide (b.2 = 0) then true else decide (lK (cZ self b.1.2.1) (cZ self m.2.1) < 0)) then (m, 0) else b
def cQ (id self : List Int) (l : List Mem) : Mem × Int := (l.filter (lm self id)).foldl (fq self) (zero ab, 6)
def c7 (n : Nd) (id : List Int) : Mem × Bool × Int :=
 bif !a9 n then (zero ab, false, 1) else
 bif nu id n.1.2.1 (el ab n.2.2.1 0).2.1 then (el ab n.2.2.1 0, true, 0) else
 bif !decide ((cQ id n.1.2.1 (n.2.2.2.1 ++ n.2.2.1)).2 = 0) then (el ab n.2.2.1 0, false, 0) else
 ((cQ id n.1.2.1 (n.2.2.2.1 ++ n.2.2.1)).1, false, 0)
def bl (self : Int) (nos : List Int) (m : Mem) : Bool := bif !decide (m.1 = self) then nos.any (fun x => decide (x = m.1)) else false
def nR (n : Nd) (l : List Mem) : List Mem := bif decide (lnx ab l = 0) then [n.1] else l
def kI (n : Nd) (nos : List Int) : Nd :=
 (n.1, (bif (bif !decide (n.2.1 = noM) then bl n.1.1 nos n.2.1 else false) then noM else n.2.1),
  nR n (n.2.2.1.filter fun m => !bl n.1.1 nos m), n.2.2.2.1.filter (fun m => !bl n.1.1 nos m), ())
def fh (n : Nd) (nos : List Int) : Nd × Int := bif !a9 n then (zero ag, 1) else (kI n nos, 0)
def Gr (no : Int) : den (.fn (.pair ab .unit) (.pair .bool .unit)) := some fun y => (decide (y.1.1 = no), ())
noncomputable abbrev fc : bu := ⟨tG, tu, fun _ => (noM, ()), fun _ => True, true⟩
noncomputable abbrev jG : bu := ⟨vP, vL, fun x => (eX x.1, ()), fun _ => True, true⟩
noncomputable abbrev mP : bu := ⟨tL, tJ, fun x => (decide (x.1.1 = x.2.1), ()), fun _ => True, true⟩
noncomputable abbrev pK : bu := ⟨xx, xS, fun x => (Gr x.1, ()), fun _ => True, true⟩
noncomputable abbrev kF : bu := ⟨rN, me, fun x => (dn x.1 x.2.1, ()), fun _ => True, true⟩
noncomputable abbrev eJ : bu := ⟨j6, gp, fun x => (decide (x.1 = x.2.1), ()), fun _ => True, true⟩
def ixI (n : Int) : List Int → Int → Int
 | [], _ => -1
 | x :: l, i => bif decide (n = x) then i else ixI n l (i + 1)
noncomputable abbrev gf : bu := ⟨l8, lY, fun x => (ixI x.2.1 x.1 0, ()), fun _ => True, true⟩
noncomputable abbrev eM : bu := ⟨kr, kh, fun x => (List.any x.1 (fun y => decide (y = x.2.1)), ()), fun _ => True, true⟩
noncomputable abbrev db : bu := ⟨sE, sT, fun x => (a9 x.1, ()), fun _ => True, true⟩
noncomputable abbrev mT : bu := ⟨tk, tn, fun x => (ot x.1 x.2.1, ()), fun _ => True, true⟩
noncomputable abbrev kJ : bu := ⟨rz, rv, fun x => (bl (sfN x.2.1).1 x.2.2.1 x.1, ()), fun _ => True, true⟩
noncomputable abbrev mH : bu := ⟨tp, gN, fun x => ((fh x.1 x.2.1).1, (fh x.1 x.2.1).2, ()), fun _ => True, true⟩
noncomputable abbrev ko : bu := ⟨tY, o8, fun x => ((c7 x.1 x.2.1).1, (c7 x.1 x.2.1).2.1, (c7 x.1 x.2.1).2.2, ()), fun _ => True, true⟩
noncomputable abbrev f7 : bu := ⟨lU, lV, fun x => (lm x.2.1 x.2.2.1 x.1, ()), fun _ => True, true⟩
noncomputable abbrev hY : bu := ⟨nM, jZ, fun x => ((cQ x.1 x.2.1 x.2.2.1).1, (cQ x.1 x.2.1 x.2.2.1).2, ()), fun _ => True, true⟩
@[reducible] def gO : eS := ⟨ab, false, .pair (.slc ab) .unit, true, fun _ y => y.1.length ≤ bM, fun _ y => y.1⟩
@[reducible] def qC : eS := ⟨ab, false, .pair (.slc (.slc ab)) .unit, true, fun _ y => (y.1.flatten : List Mem).length ≤ bM, fun _ y => (y.1.flatten : List Mem)⟩
end Go.Proofs.Ytimdnodkabnbfaa
namespace Go.Proofs.Ytimdnodkabnbfaa
open Go Go.RowKit
noncomputable abbrev tM : Fx := { fn := qT, ann := { } }
noncomputable abbrev vj : a8 := { D := { T := bt, F := [], R := [], ovl := [] }, inl := [] }
noncomputable abbrev Cf : bE := .data tu
theorem CW : XOk prog vj := xok ((aV bf aO)) (by kernel_rfl) aW bg bh
noncomputable def vI : af := af.ret (K.val (Ty.pair ab Ty.unit) ((-1, zero (Ty.pair tId Ty.unit)), PUnit.unit))
theorem yG : ap vj Cf 5000 [] tM (aH qT) (Env.of (aM tG () 0) []) = vI := by kernel_rfl
noncomputable abbrev vG : Fx := { fn := sB, ann := { } }
noncomputable abbrev xZ : a8 := { D := { T := bt, F := [], R := [], ovl := [] }, inl := [] }
noncomputable abbrev D3 : bE := .data vL
theorem DA : XOk prog xZ := xok ((aV bf aO)) (by kernel_rfl) aW bg bh
noncomputable def w7 (m : den ab) : af := af.ret (K.val (Ty.pair Ty.bool Ty.unit) (bif decide (0 ≤ Prod.fst m) then decide (Prod.fst m < 16) else false, PUnit.unit))
theorem zY (m : den ab) : ap xZ D3 5000 [] vG (aH sB) (Env.of (aM vP (m, ()) 0) []) = w7 m := by kernel_rfl
noncomputable abbrev ud : Fx := { fn := qA, ann := { } }
noncomputable abbrev vg : a8 := { D := { T := bt, F := [], R := [], ovl := [] }, inl := [] }
noncomputable abbrev B3 : bE := .data tJ
theorem Cr : XOk prog vg := xok ((aV bf aO)) (by kernel_rfl) aW bg bh
noncomputable def vA (m : den ab) (no : den (Ty.ref ae)) : af := af.ret (K.val (Ty.pair Ty.bool Ty.unit) (decide (Prod.fst m = no), PUnit.unit))
theorem yU (m : den ab) (no : den (Ty.ref ae)) : ap vg B3 5000 [] ud (aH qA) (Env.of (aM tL (m, no, ()) 0) []) = vA m no := by kernel_rfl
noncomputable abbrev xQ : Fx := { fn := uu, ann := { frz := [(1, [1])] } }
noncomputable abbrev zq : a8 := { D := { T := bt, F := [(mG, mP)], R := [], ovl := [] }, inl := [] }
noncomputable abbrev Fo : bE := .data xS
theorem E5 (h_node_of_1 : aE prog [] mG mP) : XOk prog zq := xok (aI (aV bf aO) h_node_of_1) (by kernel_rfl) aW bg bh
noncomputable def zH (no : den ae) : af := af.req (∀ (y : den (Ty.pair ab Ty.unit)), True) (af.ret (K.val (Ty.pair (Ty.fn (Ty.pair ab Ty.unit) (Ty.pair Ty.bool Ty.unit)) Ty.unit) (some fun (y : den (Ty.pair ab Ty.unit)) ↦ (decide (Prod.fst (Prod.fst y) = no), PUnit.unit), PUnit.unit)))
theorem BA (no : den ae) : ap zq Fo 5000 [] xQ (aH uu) (Env.of (aM xx (no, ()) 0) []) = zH no := by kernel_rfl
noncomputable abbrev fj : Fx := { fn := e9, ann := { loops := [(2, { keep := [0, 1, 7, 8, 9] })] } }
noncomputable abbrev iB : a8 := { D := { T := bt, F := [(jL, jG), (qg, pK), (bO, bN)], R := [], ovl := [] }, inl := [] }
noncomputable abbrev sX : bE := .data me
theorem Aj (h_node_may : aE prog [] jL jG) (h_node_of : aE prog [] qg pK) (h_slices_ContainsFunc_Member : aE prog [] bO bN) : XOk prog iB := xok (aI (aI (aI (aV bf aO) h_slices_ContainsFunc_Member) h_node_of) h_node_may) (by kernel_rfl) aW bg bh
noncomputable def sK (l : den (Ty.slc ab)) (no : den ae) : af := af.loop [] fj (lp e9 2) [(0, K.val (Ty.slc ab) l), (1, K.val ae no), (7, K.val (Ty.slc ab) l), (8, K.val ae (lnx ab l)), (9, K.val ae 0)] []
theorem wq (l : den (Ty.slc ab)) (no : den ae) : ap iB sX 5000 [] fj (aH e9) (Env.of (aM rN (l, no, ()) 0) []) = sK l no := by kernel_rfl
noncomputable def pG (v0 : den (Ty.slc ab)) (v1 : den ae) (v7 : den (Ty.slc ab)) (v8 : den ae) (v9 : den ae) : Env := Env.of [(0, K.val (Ty.slc ab) v0), (1, K.val ae v1), (7, K.val (Ty.slc ab) v7), (8, K.val ae v8), (9, K.val ae v9)] []
noncomputable def wG (v0 : den (Ty.slc ab)) (v1 : den ae) (v7 : den (Ty.slc ab)) (v8 : den ae) (v9 : den ae) : af := af.ite (decide (v9 < v8)) (af.req (inB v9 (lnx ab v7)) (af.req True (af.req (dT [(bif !eX (el ab v7 v9) then true else decide (Prod.fst (el ab v7 v9) = v1), false)] (br 0 v9 (lnx ab v0))) (af.req (dT [(bif !eX (el ab v7 v9) then true else decide (Prod.fst (el ab v7 v9) = v1), false)] True) (af.req (dT [(bif !eX (el ab v7 v9) then true else decide (Prod.fst (el ab v7 v9) = v1), false)] (∃ (h : den (Ty.pair ab Ty.unit) → den (Ty.pair Ty.bool Ty.unit)), Gr (Prod.fst (el ab v7 v9)) = some h)) (af.ite (bif bif !eX (el ab v7 v9) then true else decide (Prod.fst (el ab v7 v9) = v1) then true else List.any (eP ab v0 0 v9) (prM (Gr (Prod.fst (el ab v7 v9))))) (af.ret (K.val (Ty.pair Ty.bool Ty.unit) (false, PUnit.unit))) (af.loop [] fj (lp e9 2) [(0, K.val (Ty.slc ab) v0), (1, K.val ae v1), (7, K.val (Ty.slc ab) v7), (8, K.val ae v8), (9, K.val ae (IntKind.wrap IntKind.i64 (v9 + 1)))] []))))))) (af.ret (K.val (Ty.pair Ty.bool Ty.unit) (true, PUnit.unit)))
theorem lW (v0 : den (Ty.slc ab)) (v1 : den ae) (v7 : den (Ty.slc ab)) (v8 : den ae) (v9 : den ae) : ap iB sX 5000 [] fj (lp e9 2) (pG v0 v1 v7 v8 v9) = wG v0 v1 v7 v8 v9 := by kernel_rfl
noncomputable abbrev cC : Fx := { fn := bZ, ann := { loops := [(4, { keep := [0, 1, 12, 13] })] } }
noncomputable abbrev eV : a8 := { D := { T := bt, F := [], R := [], ovl := [] }, inl := [] }
noncomputable abbrev k5 : bE := .data gp
theorem gI : XOk prog eV := xok ((aV bf aO)) (by kernel_rfl) aW bg bh
noncomputable def kV (a : den (Ty.slc ab)) (b : den (Ty.slc ab)) : af := af.ite (!decide (lnx ab a = lnx ab b)) (af.ret (K.val (Ty.pair Ty.bool Ty.unit) (false, PUnit.unit))) (af.loop [] cC (lp bZ 4) [(0, K.val (Ty.slc ab) a), (1, K.val (Ty.slc ab) b), (12, K.val ae (lnx ab a)), (13, K.val ae 0)] [])
theorem oY (a : den (Ty.slc ab)) (b : den (Ty.slc ab)) : ap eV k5 5000 [] cC (aH bZ) (Env.of (aM j6 (a, b, ()) 0) []) = kV a b := by kernel_rfl
noncomputable def jV (v0 : den (Ty.slc ab)) (v1 : den (Ty.slc ab)) (v12 : den ae) (v13 : den ae) : Env := Env.of [(0, K.val (Ty.slc ab) v0), (1, K.val (Ty.slc ab) v1), (12, K.val ae v12), (13, K.val ae v13)] []
noncomputable def ox (v0 : den (Ty.slc ab)) (v1 : den (Ty.slc ab)) (v12 : den ae) (v13 : den ae) : af := af.ite (decide (v13 < v12)) (af.req (inB v13 (lnx ab v0)) (af.req (inB v13 (lnx ab v1)) (af.ite (!eqb ab (el ab v0 v13) (el ab v1 v13)) (af.ret (K.val (Ty.pair Ty.bool Ty.unit) (false, PUnit.unit))) (af.loop [] cC (lp bZ 4) [(0, K.val (Ty.slc ab) v0), (1, K.val (Ty.slc ab) v1), (12, K.val ae v12), (13, K.val ae (IntKind.wrap IntKind.i64 (v13 + 1)))] [])))) (af.ret (K.val (Ty.pair Ty.bool Ty.unit) (true, PUnit.unit)))
theorem g9 (v0 : den (Ty.slc ab)) (v1 : den (Ty.slc ab)) (v12 : den ae) (v13 : den ae) : ap eV k5 5000 [] cC (lp bZ 4) (jV v0 v1 v12 v13) = ox v0 v1 v12 v13 := by kernel_rfl
noncomputable abbrev c8 : Fx := { fn := cN, ann := { loops := [(2, { keep := [0, 1, 7, 8] })] } }
noncomputable abbrev jh : a8 := { D := { T := bt, F := [], R := [], ovl := [] }, inl := [] }
noncomputable abbrev na : bE := .data lY
theorem jv : XOk prog jh := xok ((aV bf aO)) (by kernel_rfl) aW bg bh
noncomputable def mX (s : den (Ty.slc ae)) (v : den ae) : af := af.loop [] c8 (lp cN 2) [(0, K.val (Ty.slc ae) s), (1, K.val ae v), (7, K.val ae (lnx ae s)), (8, K.val ae 0)] []
theorem rE (s : den (Ty.slc ae)) (v : den ae) : ap jh na 5000 [] c8 (aH cN) (Env.of (aM l8 (s, v, ()) 0) []) = mX s v := by kernel_rfl
noncomputable def lF (v0 : den (Ty.slc ae)) (v1 : den ae) (v7 : den ae) (v8 : den ae) : Env := Env.of [(0, K.val (Ty.slc ae) v0), (1, K.val ae v1), (7, K.val ae v7), (8, K.val ae v8)] []
noncomputable def qW (v0 : den (Ty.slc ae)) (v1 : den ae) (v7 : den ae) (v8 : den ae) : af := af.ite (decide (v8 < v7)) (af.req (inB v8 (lnx ae v0)) (af.ite (decide (v1 = el ae v0 v8)) (af.ret (K.val (Ty.pair ae Ty.unit) (v8, PUnit.unit))) (af.loop [] c8 (lp cN 2) [(0, K.val (Ty.slc ae) v0), (1, K.val ae v1), (7, K.val ae v7), (8, K.val ae (IntKind.wrap IntKind.i64 (v8 + 1)))] []))) (af.ret (K.val (Ty.pair ae Ty.unit) (-1, PUnit.unit)))
theorem ju (v0 : den (Ty.slc ae)) (v1 : den ae) (v7 : den ae) (v8 : den ae) : ap jh na 5000 [] c8 (lp cN 2) (lF v0 v1 v7 v8) = qW v0 v1 v7 v8 := by kernel_rfl
noncomputable abbrev kg : Fx := { fn := gD, ann := { } }
noncomputable abbrev k8 : a8 := { D := { T := bt, F := [(f9, gf)], R := [], ovl := [] }, inl := [] }
noncomputable abbrev rX : bE := .data kh
theorem rT (h_slices_Index_int : aE prog [] f9 gf) : XOk prog k8 := xok (aI (aV bf aO) h_slices_Index_int) (by kernel_rfl) aW bg bh
noncomputable def kY (s : den (Ty.slc ae)) (v : den ae) : af := af.req True (af.ret (K.val (Ty.pair Ty.bool Ty.unit) (decide (0 ≤ ixI v s 0), PUnit.unit)))
theorem pe (s : den (Ty.slc ae)) (v : den ae) : ap k8 rX 5000 [] kg (aH gD) (Env.of (aM kr (s, v, ()) 0) []) = kY s v := by kernel_rfl
noncomputable abbrev sL : Fx := { fn := po, ann := { } }
noncomputable abbrev tW : a8 := { D := { T := bt, F := [(fg, fc), (jL, jG), (kK, kF), (eT, eJ)], R := [], ovl := [] }, inl := [] }
noncomputable abbrev AS : bE := .data sT
theorem BC (h_node_none : aE prog [] fg fc) (h_node_may : aE prog [] jL jG) (h_node_unlike : aE prog [] kK kF) (h_slices_Equal_Member : aE prog [] eT eJ) : XOk prog tW := xok (aI (aI (aI (aI (aV bf aO) h_slices_Equal_Member) h_node_unlike) h_node_may) h_node_none) (by kernel_rfl) aW bg bh
noncomputable def t8 (n : den ag) : af := af.req True (af.req (dT [(eqb ab (Prod.fst (Prod.snd n)) noM, false)] True) (af.req True (af.req (dT [(bif decide (1 ≤ lnx ab (Prod.fst (Prod.snd (Prod.snd n)))) then decide (lnx ab (Prod.fst (Prod.snd (Prod.snd n))) ≤ 4) else false, true), (decide (Prod.fst (Prod.snd (Prod.snd n)) = List.set (List.replicate 1 (zero ab)) 0 (Prod.fst n)), false)] True) (af.req True (af.req (dT [(bif bif bif eX (Prod.fst n) then bif eqb ab (Prod.fst (Prod.snd n)) noM then true else bif eX (Prod.fst (Prod.snd n)) then !decide (Prod.fst (Prod.fst (Prod.snd n)) = Prod.fst (Prod.fst n)) else false else false then bif bif decide (1 ≤ lnx ab (Prod.fst (Prod.snd (Prod.snd n)))) then decide (lnx ab (Prod.fst (Prod.snd (Prod.snd n))) ≤ 4) else false then bif decide (Prod.fst (Prod.snd (Prod.snd n)) = List.set (List.replicate 1 (zero ab)) 0 (Prod.fst n)) then true else dn (Prod.fst (Prod.snd (Prod.snd n))) (Prod.fst (Prod.fst n)) else false else false then decide (lnx ab (Prod.fst (Prod.snd (Prod.snd (Prod.snd n)))) ≤ 16) else false, true)] True) (af.ret (K.val (Ty.pair Ty.bool Ty.unit) (bif bif bif bif eX (Prod.fst n) then bif eqb ab (Prod.fst (Prod.snd n)) noM then true else bif eX (Prod.fst (Prod.snd n)) then !decide (Prod.fst (Prod.fst (Prod.snd n)) = Prod.fst (Prod.fst n)) else false else false then bif bif decide (1 ≤ lnx ab (Prod.fst (Prod.snd (Prod.snd n)))) then decide (lnx ab (Prod.fst (Prod.snd (Prod.snd n))) ≤ 4) else false then bif decide (Prod.fst (Prod.snd (Prod.snd n)) = List.set (List.replicate 1 (zero ab)) 0 (Prod.fst n)) then true else dn (Prod.fst (Prod.snd (Prod.snd n))) (Prod.fst (Prod.fst n)) else false else false then decide (lnx ab (Prod.fst (Prod.snd (Prod.snd (Prod.snd n)))) ≤ 16) else false then dn (Prod.fst (Prod.snd (Prod.snd (Prod.snd n)))) (Prod.fst (Prod.fst n)) else false, PUnit.unit))))))))
theorem xe (n : den ag) : ap tW AS 5000 [] sL (aH po) (Env.of (aM sE (n, ()) 0) []) = t8 n := by kernel_rfl
noncomputable abbrev tB : Fx := { fn := qB, ann := { } }
noncomputable abbrev vf : a8 := { D := { T := bt, F := [(c9, db), (fg, fc), (gc, ie)], R := [], ovl := [] }, inl := [] }
noncomputable abbrev B4 : bE := .data tn
theorem BZ (h_node_Right : aE prog [] c9 db) (h_node_none : aE prog [] fg fc) (h_ident_In : aE prog [] gc ie) : XOk prog vf := xok (aI (aI (aI (aV bf aO) h_ident_In) h_node_none) h_node_Right) (by kernel_rfl) aW bg bh
noncomputable def vF (n : den ag) (id : den tId) : af := af.req True (af.req (dT [(a9 n, true)] True) (af.req (dT [(bif a9 n then !eqb ab (Prod.fst (Prod.snd n)) noM else false, true)] True) (af.ret (K.val (Ty.pair Ty.bool Ty.unit) (bif bif a9 n then !eqb ab (Prod.fst (Prod.snd n)) noM else false then nu id (Prod.fst (Prod.snd (Prod.fst (Prod.snd n)))) (Prod.fst (Prod.snd (Prod.fst n))) else false, PUnit.unit)))))
theorem yP (n : den ag) (id : den tId) : ap vf B4 5000 [] tB (aH qB) (Env.of (aM tk (n, id, ()) 0) []) = vF n id := by kernel_rfl
noncomputable abbrev qZ : Fx := { fn := nC, ann := { } }
noncomputable abbrev sV : a8 := { D := { T := bt, F := [(eN, eM)], R := [], ovl := [] }, inl := [] }
noncomputable abbrev Ah : bE := .data rv
theorem Ad (h_slices_Contains_int : aE prog [] eN eM) : XOk prog sV := xok (aI (aV bf aO) h_slices_Contains_int) (by kernel_rfl) aW bg bh
noncomputable def sO (m : den ab) (n : den (Ty.ref ag)) (nos : den (Ty.ref (Ty.slc ae))) : af := af.req (dT [(!decide (Prod.fst m = Prod.fst (Prod.fst n)), true)] True) (af.ret (K.val (Ty.pair Ty.bool Ty.unit) (bif !decide (Prod.fst m = Prod.fst (Prod.fst n)) then List.any nos fun (y : den (Ty.int IntKind.i64)) ↦ decide (y = Prod.fst m) else false, PUnit.unit)))
theorem wD (m : den ab) (n : den (Ty.ref ag)) (nos : den (Ty.ref (Ty.slc ae))) : ap sV Ah 5000 [] qZ (aH nC) (Env.of (aM rz (m, n, nos, ()) 0) []) = sO m n nos := by kernel_rfl
noncomputable abbrev l7 : Fx := { fn := jo, ann := { } }
noncomputable abbrev m6 : a8 := { D := { T := bt, F := [(gc, ie)], R := [], ovl := [] }, inl := [] }
noncomputable abbrev uE : bE := .data lV
theorem tN (h_ident_In : aE prog [] gc ie) : XOk prog m6 := xok (aI (aV bf aO) h_ident_In) (by kernel_rfl) aW bg bh
noncomputable def mZ (m : den ab) (self : den (Ty.ref tId)) (id : den (Ty.ref tId)) : af := af.req (dT [(bif !eqb tId (Prod.fst (Prod.snd m)) self then !eqb tId (Prod.fst (Prod.snd m)) id else false, true)] True) (af.ret (K.val (Ty.pair Ty.bool Ty.unit) (bif bif !eqb tId (Prod.fst (Prod.snd m)) self then !eqb tId (Prod.fst (Prod.snd m)) id else false then nu (Prod.fst (Prod.snd m)) self id else false, PUnit.unit)))
theorem rL (m : den ab) (self : den (Ty.ref tId)) (id : den (Ty.ref tId)) : ap m6 uE 5000 [] l7 (aH jo) (Env.of (aM lU (m, self, id, ()) 0) []) = mZ m self id := by kernel_rfl
noncomputable abbrev ku : Fx := { fn := gQ, ann := { }, own := [5] }
noncomputable abbrev lc : a8 := { D := { T := bt, F := [], R := [], ovl := [] }, inl := [] }
noncomputable abbrev rc : bE := .row (ab)
theorem rC : XOk prog lc := xok ((aV bf aO)) (by kernel_rfl) aW bg bh
noncomputable def ld (s : den (Ty.slc ab)) : af := af.all Bool (fun (c : Bool) ↦ c = true → s = []) fun (q1 : Bool) ↦ af.ite q1 (af.ret (K.val (Ty.slc ab) [])) (af.req (List.length (List.replicate 0 (zero ab) ++ s) ≤ bM) (af.req (vok 0 (List.length (List.replicate 0 (zero ab) ++ s)) (List.length (List.replicate 0 (zero ab) ++ s))) (af.ret (K.val (Ty.slc ab) (mJ ab (List.replicate 0 (zero ab) ++ s) 0 (List.length (List.replicate 0 (zero ab) ++ s)))))))
theorem o9 (s : den (Ty.slc ab)) : ap lc rc 5000 [] ku (aH gQ) (Env.of (aM (Ty.pair (Ty.slc ab) Ty.unit) (s, ()) 0) []) = ld s := by kernel_rfl
end Go.Proofs.Ytimdnodkabnbfaa
namespace Go.Proofs.Ytimdnodkabnbfaa
open Go Go.RowKit
theorem qH : aE prog [] fg fc :=
 bW (S := fc) CW (fx := tM) AT (by kernel_rfl) (fun _ _ => trivial) (T := fun _ => vI) (fun _ => yG) fun O w0 x _ _ => ⟨_, rfl, rfl⟩
theorem yi : aE prog [] jL jG :=
 bW (S := jG) DA (fx := vG) CX (by kernel_rfl) (fun _ _ => trivial) (T := fun x => w7 x.1) (fun x => zY x.1) fun O w0 x _ _ => ⟨_, rfl, rfl⟩
theorem Ch : aE prog [] mG mP :=
 bW (S := mP) Cr (fx := ud) A4 (by kernel_rfl) (fun _ _ => trivial) (T := fun x => vA x.1 x.2.1) (fun x => yU x.1 x.2.1) fun O w0 x _ _ => ⟨_, rfl, rfl⟩
theorem EB : aE prog [] qg pK :=
 bW (S := pK) (E5 Ch) (fx := xQ) Et (by kernel_rfl) (fun _ _ => trivial) (T := fun x => zH x.1) (fun x => BA x.1) fun O w0 x _ _ => ⟨fun _ => trivial, _, rfl, rfl⟩
abbrev GUl (O : Nat → Prop) (w0 : World) (y : Bool) := bv prog iB (Cx.base O w0) (cu prog O w0 me fun z => z = (y, ()))
theorem zG (no : Int) (pre : List Mem) (m : Mem) (l : List Mem) : y9 no pre (m :: l) = bif (bif (bif !eX m then true else decide (m.1 = no)) then true else pre.any fun x => decide (x.1 = m.1)) then false else y9 no (pre ++ [m]) l := rfl
theorem mn : XOk prog iB := Aj yi EB gU
def y7 (O : Nat → Prop) (w0 : World) (l : List Mem) (no : Int) (hm : l.length ≤ maxLen) :=
 PLift.up <| bK (σ := Unit) l.length (fun i _ => y9 no (l.take i) (l.drop i) = dn l no)
  (fun i _ => GUl O w0 (dn l no) [] fj (lp e9 2) (pG l no l (lnx ab l) (i : Nat)))
  (fun i _ hi hs ih => aP mn (lW l no l _ _) (by
   rw [List.drop_eq_getElem_cons hi, zG, ← List.take_succ_eq_append_getElem hi] at hs
   have hi' : i ≤ l.length := Nat.le_of_lt hi
   refine ⟨fun _ => ⟨be hi, trivial, fun _ => ⟨Int.le_refl _, Int.natCast_nonneg _, Int.ofNat_le.2 hi'⟩, fun _ => trivial, fun _ => ⟨_, rfl⟩, ?_⟩, fun hc => absurd hi (by rw [cD] at hc; exact of_decide_eq_false hc)⟩
   rw [cL hi, cI hi hm, AZ]
   refine ⟨fun hc => ⟨_, rfl, ?_⟩, fun hc => ih () ?_⟩
   ·have hc : (bif (bif !eX l[i] then true else decide (l[i].1 = no)) then true else (l.take i).any fun x => decide (x.1 = l[i].1)) = true := hc
    rw [hc] at hs
    exact Prod.ext hs rfl
   ·have hc : (bif (bif !eX l[i] then true else decide (l[i].1 = no)) then true else (l.take i).any fun x => decide (x.1 = l[i].1)) = false := hc
    rw [hc] at hs
    exact hs))
  (fun _ hs => aP mn (lW l no l _ _) (by
   refine ⟨fun hc => absurd (of_decide_eq_true hc) (Int.lt_irrefl _), fun _ => ⟨_, rfl, Prod.ext ?_ rfl⟩⟩
   rw [List.drop_length] at hs
   exact hs))
theorem Ak : aE prog [] kK kF :=
 bW (S := kF) mn (fx := fj) yv (by kernel_rfl) (fun _ _ => trivial) (T := fun x => sK x.1 x.2.1) (fun x => wq x.1 x.2.1) fun O w0 x hk _ =>
  (y7 O w0 x.1 x.2.1 hk.1.1).down 0 () (Nat.zero_le _) rfl
abbrev GEq (O : Nat → Prop) (w0 : World) (y : Bool) := bv prog eV (Cx.base O w0) (cu prog O w0 gp fun z => z = (y, ()))
def qD (O : Nat → Prop) (w0 : World) (a b : List Mem) (hl : a.length = b.length) (hm : a.length ≤ maxLen) :=
 PLift.up <| bK (σ := Unit) a.length (fun i _ => decide (a.drop i = b.drop i) = decide (a = b))
  (fun i _ => GEq O w0 (decide (a = b)) [] cC (lp bZ 4) (jV a b (lnx ab a) (i : Nat)))
  (fun i _ hi hs ih => aP gI (g9 a b _ _) (by
   have hi2 : i < b.length := by omega
   rw [List.drop_eq_getElem_cons hi, List.drop_eq_getElem_cons hi2] at hs
   refine ⟨fun _ => ⟨be hi, be hi2, ?_⟩, fun hc => absurd hi (by rw [cD] at hc; exact of_decide_eq_false hc)⟩
   rw [cL hi, cL hi2, cI hi hm, kW]
   refine ⟨fun hc => ⟨_, rfl, Prod.ext ?_ rfl⟩, fun hc => ih () ?_⟩
   ·have hne : ¬ a[i] = b[i] := by simpa using hc
    rw [← hs]
    exact (decide_eq_false fun e => hne (List.cons.inj e).1).symm
   ·have he : a[i] = b[i] := by simpa using hc
    rw [← hs]
    exact decide_eq_decide.2 ⟨fun e => by rw [he, e], fun e => (List.cons.inj e).2⟩))
  (fun _ hs => aP gI (g9 a b _ _) (by
   refine ⟨fun hc => absurd (of_decide_eq_true hc) (Int.lt_irrefl _), fun _ => ⟨_, rfl, Prod.ext ?_ rfl⟩⟩
   rw [List.drop_length, hl, List.drop_length] at hs
   rw [← hs]
   rfl))
theorem rD : aE prog [] eT eJ :=
 bW (S := eJ) gI (fx := cC) qK (by kernel_rfl) (fun _ _ => trivial) (T := fun x => kV x.1 x.2.1) (fun x => oY x.1 x.2.1) fun O w0 x hk _ => by
  obtain ⟨a, b, ⟨⟩⟩ := x
  refine ⟨fun h => ⟨_, rfl, Prod.ext ?_ rfl⟩, fun h => ?_⟩
  ·have h : (!decide (((a.length : Nat) : Int) = (b.length : Nat))) = true := h
   have hne : ¬ a.length = b.length := fun e => by rw [e] at h; simp at h
   exact (decide_eq_false fun e => hne (congrArg List.length e)).symm
  ·have h : (!decide (((a.length : Nat) : Int) = (b.length : Nat))) = false := h
   have hl : a.length = b.length := by
    have : decide (((a.length : Nat) : Int) = (b.length : Nat)) = true := by simpa using h
    exact Int.ofNat.inj (of_decide_eq_true this)
   exact (qD O w0 a b hl hk.1.1).down 0 () (Nat.zero_le _) rfl
theorem C5 (n : Int) : ∀ (l : List Int) (i : Int), 0 ≤ i → decide (0 ≤ ixI n l i) = l.any fun y => decide (y = n)
 | [], _, _ => rfl
 | x :: l, i, hi => by
  show decide (0 ≤ (bif decide (n = x) then i else ixI n l (i + 1))) = (decide (x = n) || l.any fun y => decide (y = n))
  by_cases h : n = x
  ·rw [decide_eq_true h, decide_eq_true h.symm]
   exact decide_eq_true hi
  ·rw [decide_eq_false h, decide_eq_false (show ¬ x = n from fun e => h e.symm), Bool.false_or]
   exact C5 n l (i + 1) (by omega)
def s9 (O : Nat → Prop) (w0 : World) (l : List Int) (n y : Int) (hm : l.length ≤ maxLen) :=
 PLift.up <| bK (σ := Unit) l.length (fun i _ => ixI n (l.drop i) (i : Nat) = y)
  (fun i _ => GIx O w0 y [] c8 (lp cN 2) (lF l n (lnx ae l) (i : Nat)))
  (fun i _ hi hs ih => aP jv (ju l n _ _) (by
   rw [List.drop_eq_getElem_cons hi] at hs
   have hs : (bif decide (n = l[i]) then ((i : Nat) : Int) else ixI n (l.drop (i + 1)) ((i : Nat) + 1)) = y := hs
   refine ⟨fun _ => ⟨be hi, ?_⟩, fun hc => absurd hi (by rw [cD (e := ae)] at hc; exact of_decide_eq_false hc)⟩
   rw [cL (e := ae) hi, cI hi hm]
   refine ⟨fun hc => ⟨_, rfl, Prod.ext ?_ rfl⟩, fun hc => ih () ?_⟩
   ·have hc : decide (n = l[i]) = true := hc
    rw [hc] at hs
    exact hs
   ·have hc : decide (n = l[i]) = false := hc
    rw [hc] at hs
    exact hs))
  (fun _ hs => aP jv (ju l n _ _) (by
   refine ⟨fun hc => absurd (of_decide_eq_true hc) (Int.lt_irrefl _), fun _ => ⟨_, rfl, Prod.ext ?_ rfl⟩⟩
   rw [List.drop_length] at hs
   exact hs))
theorem uC : aE prog [] f9 gf :=
 bW (S := gf) jv (fx := c8) s7 (by kernel_rfl) (fun _ _ => trivial) (T := fun x => mX x.1 x.2.1) (fun x => rE x.1 x.2.1) fun O w0 x hk _ =>
  (s9 O w0 x.1 x.2.1 _ hk.1.1).down 0 () (Nat.zero_le _) rfl
theorem rB : aE prog [] eN eM :=
 bW (S := eM) (rT uC) (fx := kg) qQ (by kernel_rfl) (fun _ _ => trivial) (T := fun x => kY x.1 x.2.1) (fun x => pe x.1 x.2.1) fun O w0 x _ _ =>
  ⟨trivial, _, rfl, Prod.ext (C5 x.2.1 x.1 0 (Int.le_refl _)) rfl⟩
theorem lH : aE prog [] c9 db :=
 bW (S := db) (BC qH yi Ak rD) (fx := sL) z6 (by kernel_rfl) (fun _ _ => trivial) (T := fun x => t8 x.1) (fun x => xe x.1) fun O w0 x _ _ => by
  obtain ⟨n, ⟨⟩⟩ := x
  refine ⟨trivial, fun _ => trivial, trivial, fun _ _ => trivial, trivial, fun _ => trivial, _, rfl, Prod.ext ?_ rfl⟩
  show _ = a9 n
  unfold a9 uI rH
  simp only [kW]
  rfl
theorem B5 : aE prog [] mU mT :=
 bW (S := mT) (BZ lH qH rZ) (fx := tB) A2 (by kernel_rfl) (fun _ _ => trivial) (T := fun x => vF x.1 x.2.1) (fun x => yP x.1 x.2.1) fun O w0 x _ _ => by
  obtain ⟨n, id, ⟨⟩⟩ := x
  refine ⟨trivial, fun _ => trivial, fun _ => trivial, _, rfl, Prod.ext ?_ rfl⟩
  show _ = ot n id
  unfold ot
  simp only [kW]
theorem Ag : aE prog [] aj kJ :=
 bW (S := kJ) (Ad rB) (fx := qZ) yZ (by kernel_rfl) (fun _ _ => trivial) (T := fun x => sO x.1 x.2.1 x.2.2.1) (fun x => wD x.1 x.2.1 x.2.2.1) fun O w0 x _ _ =>
  ⟨fun _ => trivial, _, rfl, rfl⟩
theorem uv : aE prog [] fS f7 :=
 bW (S := f7) (tN rZ) (fx := l7) ta (by kernel_rfl) (fun _ _ => trivial) (T := fun x => mZ x.1 x.2.1 x.2.2.1) (fun x => rL x.1 x.2.1 x.2.2.1) fun O w0 x _ _ => by
  obtain ⟨m, self, id, ⟨⟩⟩ := x
  refine ⟨fun _ => trivial, _, rfl, Prod.ext ?_ rfl⟩
  show _ = lm self id m
  unfold lm
  rw [uR, uR]
theorem qu : lB prog [] eQ gO :=
 Di rC (fx := ku) rfl qF (by kernel_rfl) (T := fun _ y => ld y.1) (fun xs y _ => o9 y.1) fun O w0 bk xs y hxl hy hp => by
  obtain ⟨s, ⟨⟩⟩ := y
  refine fun c hc => ⟨fun hx => ?_, fun hx => ?_⟩
  ·show K.val _ _ = K.val _ s
   rw [show s = [] from hc hx]
  ·refine ⟨?_, ?_, ?_⟩
   ·simpa using hp
   ·simp [vok]
   ·show K.val (.slc ab) (mJ ab (List.replicate 0 (zero ab) ++ s) 0 (List.length (List.replicate 0 (zero ab) ++ s))) = K.val _ s
    rw [zB _ rfl]; rfl
end Go.Proofs.Ytimdnodkabnbfaa
namespace Go.Proofs.Ytimdnodkabnbfaa
open Go Go.RowKit
noncomputable abbrev rl : Fx := { fn := lQ, ann := { } }
noncomputable abbrev aF : Fx := { fn := aD, ann := { loops := [(3, { keep := [0, 3, 9, 10, 11] }), (11, { keep := [6, 25, 26, 27] })] } }
noncomputable abbrev bT : a8 := { D := { T := bt, F := [], R := [], ovl := [] }, inl := [(lI, rl)] }
noncomputable abbrev dc : bE := .row (ab)
theorem bJ : XOk prog bT := xok ((aV bf aO)) (by kernel_rfl) aW (k3 ry (by kernel_rfl) bg) bh
noncomputable def ke (s : den (Ty.slc (Ty.slc ab))) : af := af.loop [] aF (lp aD 3) [(0, K.val (Ty.slc (Ty.slc ab)) s), (3, K.val ae 0), (9, K.val (Ty.slc (Ty.slc ab)) s), (10, K.val ae (lnx (Ty.slc ab) s)), (11, K.val ae 0)] []
theorem nO (s : den (Ty.slc (Ty.slc ab))) : ap bT dc 5000 [] aF (aH aD) (Env.of (aM (Ty.pair (Ty.slc (Ty.slc ab)) Ty.unit) (s, ()) 0) []) = ke s := by kernel_rfl
noncomputable def jA (v0 : den (Ty.slc (Ty.slc ab))) (v3 : den ae) (v9 : den (Ty.slc (Ty.slc ab))) (v10 : den ae) (v11 : den ae) : Env := Env.of [(0, K.val (Ty.slc (Ty.slc ab)) v0), (3, K.val ae v3), (9, K.val (Ty.slc (Ty.slc ab)) v9), (10, K.val ae v10), (11, K.val ae v11)] []
noncomputable def nZ (v0 : den (Ty.slc (Ty.slc ab))) (v3 : den ae) (v9 : den (Ty.slc (Ty.slc ab))) (v10 : den ae) (v11 : den ae) : af := af.ite (decide (v11 < v10)) (af.req (inB v11 (lnx (Ty.slc ab) v9)) (af.ite (decide (IntKind.wrap IntKind.i64 (v3 + lnx ab (el (Ty.slc ab) v9 v11)) < 0)) (af.bad (100000 + 1000 * 0 + 0)) (af.loop [] aF (lp aD 3) [(0, K.val (Ty.slc (Ty.slc ab)) v0), (3, K.val ae (IntKind.wrap IntKind.i64 (v3 + lnx ab (el (Ty.slc ab) v9 v11)))), (9, K.val (Ty.slc (Ty.slc ab)) v9), (10, K.val ae v10), (11, K.val ae (IntKind.wrap IntKind.i64 (v11 + 1)))] []))) (af.ite (decide (v3 < 0)) (af.bad (100000 + 1000 * 0 + 0)) (af.ite (decide (0 < IntKind.wrap IntKind.i64 (v3 - IntKind.wrap IntKind.i64 (0 - 0)))) (af.req (br 0 0 0) (af.req (0 < IntKind.wrap IntKind.i64 (v3 - IntKind.wrap IntKind.i64 (0 - 0))) (af.req (Int.toNat (IntKind.wrap IntKind.i64 (v3 - IntKind.wrap IntKind.i64 (0 - 0))) ≤ bM) (af.req (vok 0 (List.length (List.replicate (Int.toNat (IntKind.wrap IntKind.i64 (v3 - IntKind.wrap IntKind.i64 (0 - 0)))) (zero ab))) (List.length (List.replicate (Int.toNat (IntKind.wrap IntKind.i64 (v3 - IntKind.wrap IntKind.i64 (0 - 0)))) (zero ab)))) (af.req (br 0 0 (↑(List.length (List.replicate (Int.toNat (IntKind.wrap IntKind.i64 (v3 - IntKind.wrap IntKind.i64 (0 - 0)))) (zero ab)) - 0) : Int)) (af.loop [] aF (lp aD 11) [(6, K.vw 0 ab (0 + Int.toNat 0) (Int.toNat 0 - Int.toNat 0)), (25, K.val (Ty.slc (Ty.slc ab)) v0), (26, K.val ae (lnx (Ty.slc ab) v0)), (27, K.val ae 0)] [(0, Bx.row ab (List.replicate (Int.toNat (IntKind.wrap IntKind.i64 (v3 - IntKind.wrap IntKind.i64 (0 - 0)))) (zero ab)))])))))) (af.loop [] aF (lp aD 11) [(6, K.nilsl), (25, K.val (Ty.slc (Ty.slc ab)) v0), (26, K.val ae (lnx (Ty.slc ab) v0)), (27, K.val ae 0)] [])))
theorem gS (v0 : den (Ty.slc (Ty.slc ab))) (v3 : den ae) (v9 : den (Ty.slc (Ty.slc ab))) (v10 : den ae) (v11 : den ae) : ap bT dc 5000 [] aF (lp aD 3) (jA v0 v3 v9 v10 v11) = nZ v0 v3 v9 v10 v11 := by kernel_rfl
noncomputable def iU (v6 : Nat) (v6_1 : Nat) (v25 : den (Ty.slc (Ty.slc ab))) (v26 : den ae) (v27 : den ae) (b0 : List (den ab)) : Env := Env.of [(6, K.vw 0 ab v6 v6_1), (25, K.val (Ty.slc (Ty.slc ab)) v25), (26, K.val ae v26), (27, K.val ae v27)] [(0, Bx.row ab b0)]
noncomputable def nE (v6 : Nat) (v6_1 : Nat) (v25 : den (Ty.slc (Ty.slc ab))) (v26 : den ae) (v27 : den ae) (b0 : List (den ab)) : af := af.ite (decide (v27 < v26)) (af.req (inB v27 (lnx (Ty.slc ab) v25)) (af.req (vok v6 v6_1 (List.length b0)) (af.req (v6 + v6_1 + List.length (el (Ty.slc ab) v25 v27) ≤ List.length b0) (af.loop [] aF (lp aD 11) [(6, K.vw 0 ab v6 (v6_1 + List.length (el (Ty.slc ab) v25 v27))), (25, K.val (Ty.slc (Ty.slc ab)) v25), (26, K.val ae v26), (27, K.val ae (IntKind.wrap IntKind.i64 (v27 + 1)))] [(0, Bx.row ab (over b0 (v6 + v6_1) (el (Ty.slc ab) v25 v27)))])))) (af.req (vok v6 v6_1 (List.length b0)) (af.ret (K.val (Ty.slc ab) (mJ ab b0 v6 v6_1))))
theorem gu (v6 : Nat) (v6_1 : Nat) (v25 : den (Ty.slc (Ty.slc ab))) (v26 : den ae) (v27 : den ae) (b0 : List (den ab)) : ap bT dc 5000 [] aF (lp aD 11) (iU v6 v6_1 v25 v26 v27 b0) = nE v6 v6_1 v25 v26 v27 b0 := by kernel_rfl
noncomputable def gZ (v25 : den (Ty.slc (Ty.slc ab))) (v26 : den ae) (v27 : den ae) : Env := Env.of [(6, K.nilsl), (25, K.val (Ty.slc (Ty.slc ab)) v25), (26, K.val ae v26), (27, K.val ae v27)] []
noncomputable def mw (v25 : den (Ty.slc (Ty.slc ab))) (v26 : den ae) (v27 : den ae) : af := af.ite (decide (v27 < v26)) (af.req (inB v27 (lnx (Ty.slc ab) v25)) (af.req (List.length (el (Ty.slc ab) v25 v27) ≤ bM) (af.loop [] aF (lp aD 11) [(6, K.sl 0 ab), (25, K.val (Ty.slc (Ty.slc ab)) v25), (26, K.val ae v26), (27, K.val ae (IntKind.wrap IntKind.i64 (v27 + 1)))] [(0, Bx.row ab (el (Ty.slc ab) v25 v27))]))) (af.ret (K.val (Ty.slc ab) []))
theorem lk (v25 : den (Ty.slc (Ty.slc ab))) (v26 : den ae) (v27 : den ae) : ap bT dc 5000 [] aF (lp aD 11) (gZ v25 v26 v27) = mw v25 v26 v27 := by kernel_rfl
noncomputable def gY (v25 : den (Ty.slc (Ty.slc ab))) (v26 : den ae) (v27 : den ae) (b0 : List (den ab)) : Env := Env.of [(6, K.sl 0 ab), (25, K.val (Ty.slc (Ty.slc ab)) v25), (26, K.val ae v26), (27, K.val ae v27)] [(0, Bx.row ab b0)]
noncomputable def mc (v25 : den (Ty.slc (Ty.slc ab))) (v26 : den ae) (v27 : den ae) (b0 : List (den ab)) : af := af.ite (decide (v27 < v26)) (af.req (inB v27 (lnx (Ty.slc ab) v25)) (af.req (List.length (b0 ++ el (Ty.slc ab) v25 v27) ≤ bM) (af.loop [] aF (lp aD 11) [(6, K.sl 0 ab), (25, K.val (Ty.slc (Ty.slc ab)) v25), (26, K.val ae v26), (27, K.val ae (IntKind.wrap IntKind.i64 (v27 + 1)))] [(0, Bx.row ab (b0 ++ el (Ty.slc ab) v25 v27))]))) (af.req (vok 0 (List.length b0) (List.length b0)) (af.ret (K.val (Ty.slc ab) (mJ ab b0 0 (List.length b0)))))
theorem fH (v25 : den (Ty.slc (Ty.slc ab))) (v26 : den ae) (v27 : den ae) (b0 : List (den ab)) : ap bT dc 5000 [] aF (lp aD 11) (gY v25 v26 v27 b0) = mc v25 v26 v27 b0 := by kernel_rfl
noncomputable abbrev an : Fx := { fn := al, ann := { loops := [(5, { keep := [0, 1, 5, 6] })], frz := [(1000005, [2, 3, 4, 6])] }, own := [28, 41], share := true }
noncomputable abbrev bj : Fx := { fn := bm, ann := { }, own := [40], share := true }
noncomputable abbrev fe : a8 := { D := { T := bt, F := [(c9, db), (fg, fc), (aj, kJ)], R := [(eQ, gO)], ovl := [] }, inl := [(iE, an), (cH, ax)] }
noncomputable abbrev j7 : bE := .data gN
theorem CJ (h_node_Right : aE prog [] c9 db) (h_node_none : aE prog [] fg fc) (h_node_Drop_1 : aE prog [] aj kJ) (h_slices_Clone_Member : lB prog [] eQ gO) : XOk prog fe := xok (aI (aI (aI (aV bf aO) h_node_Drop_1) h_node_none) h_node_Right) (by kernel_rfl) (FI h_slices_Clone_Member aW) (k3 m5 (by kernel_rfl) (k3 iw (by kernel_rfl) bg)) bh
noncomputable def vm (n : den ag) (nos : den (Ty.slc ae)) : af := af.req True (af.all (den Ty.bool) (fun (q2 : den Ty.bool) ↦ q2 = a9 n) fun (q2 : den Ty.bool) ↦ af.ite (!q2) (af.ret (K.val (Ty.pair ag (Ty.pair ae Ty.unit)) (zero (Ty.pair ab (Ty.pair ab (Ty.pair (Ty.slc ab) (Ty.pair (Ty.slc ab) Ty.unit)))), 1, PUnit.unit))) (af.req (List.length (Prod.fst (Prod.snd (Prod.snd n))) ≤ bM) (af.loop [{ fx := an, todo := bQ al 1 2, dst := some 10, s := ofS [(0, K.sl 0 ab), (1, K.clo aj (K.kcons (K.ptr (0 + 1) ag []) (K.kcons (K.ptr (0 + 1 + 1) (Ty.slc ae) []) K.knil)))] }, { fx := bj, todo := bQ bm 4 4, dst := some 16, s := ofS [(2, K.ptr (0 + 1) ag []), (3, K.ptr (0 + 1 + 1) (Ty.slc ae) []), (4, K.ptr (0 + 1 + 1 + 1) ag []), (6, K.clo aj (K.kcons (K.ptr (0 + 1) ag []) (K.kcons (K.ptr (0 + 1 + 1) (Ty.slc ae) []) K.knil)))] }] ax (lp az 2) [(0, K.sl 0 ab), (1, K.clo aj (K.kcons (K.ptr (0 + 1) ag []) (K.kcons (K.ptr (0 + 1 + 1) (Ty.slc ae) []) K.knil))), (7, K.val ae (lnx ab (Prod.fst (Prod.snd (Prod.snd n))))), (8, K.val ae 0)] [(0, Bx.row ab (Prod.fst (Prod.snd (Prod.snd n)))), (0 + 1, Bx.cell ag n), (0 + 1 + 1, Bx.cell (Ty.slc ae) nos), (0 + 1 + 1 + 1, Bx.cell ag (zero ag))])))
theorem yy (n : den ag) (nos : den (Ty.slc ae)) : ap fe j7 5000 [] bj (aH bm) (Env.of (aM tp (n, nos, ()) 0) []) = vm n nos := by kernel_rfl
noncomputable def eB (v7 : den ae) (v8 : den ae) (b0 : List (den ab)) (b1 : den ag) (b2 : den (Ty.slc ae)) (b3 : den ag) : List bL := [{ fx := an, todo := bQ al 1 2, dst := some 10, s := ofS [(0, K.sl 0 ab), (1, K.clo aj (K.kcons (K.ptr (0 + 1) ag []) (K.kcons (K.ptr (0 + 1 + 1) (Ty.slc ae) []) K.knil)))] }, { fx := bj, todo := bQ bm 4 4, dst := some 16, s := ofS [(2, K.ptr (0 + 1) ag []), (3, K.ptr (0 + 1 + 1) (Ty.slc ae) []), (4, K.ptr (0 + 1 + 1 + 1) ag []), (6, K.clo aj (K.kcons (K.ptr (0 + 1) ag []) (K.kcons (K.ptr (0 + 1 + 1) (Ty.slc ae) []) K.knil)))] }]
noncomputable def ew (v7 : den ae) (v8 : den ae) (b0 : List (den ab)) (b1 : den ag) (b2 : den (Ty.slc ae)) (b3 : den ag) : Env := Env.of [(0, K.sl 0 ab), (1, K.clo aj (K.kcons (K.ptr (0 + 1) ag []) (K.kcons (K.ptr (0 + 1 + 1) (Ty.slc ae) []) K.knil))), (7, K.val ae v7), (8, K.val ae v8)] [(0, Bx.row ab b0), (1, Bx.cell ag b1), (2, Bx.cell (Ty.slc ae) b2), (3, Bx.cell ag b3)]
noncomputable def iR (v7 : den ae) (v8 : den ae) (b0 : List (den ab)) (b1 : den ag) (b2 : den (Ty.slc ae)) (b3 : den ag) : af := af.ite (decide (v8 < v7)) (af.req (inB v8 (lnx ab b0)) (af.req (inB v8 (lnx ab b0)) (af.req True (af.ite (bl (Prod.fst (Prod.fst b1)) b2 (el ab b0 v8)) (af.ite (decide (v8 = -1)) (af.req (List.length (Prod.fst (Prod.snd (Prod.snd (Prod.snd b1)))) ≤ bM) (af.loop [{ fx := an, todo := bQ al 1 2, dst := some 10, s := ofS [(0, K.sl 0 ab), (1, K.clo aj (K.kcons (K.ptr (0 + 1) ag []) (K.kcons (K.ptr (0 + 1 + 1) (Ty.slc ae) []) K.knil)))] }, { fx := bj, todo := bQ bm 5 4, dst := some 22, s := ofS [(2, K.ptr (0 + 1) ag []), (3, K.ptr (0 + 1 + 1) (Ty.slc ae) []), (4, K.ptr (0 + 1 + 1 + 1) ag []), (6, K.clo aj (K.kcons (K.ptr (0 + 1) ag []) (K.kcons (K.ptr (0 + 1 + 1) (Ty.slc ae) []) K.knil)))] }] ax (lp az 2) [(0, K.sl 0 ab), (1, K.clo aj (K.kcons (K.ptr (0 + 1) ag []) (K.kcons (K.ptr (0 + 1 + 1) (Ty.slc ae) []) K.knil))), (7, K.val ae (lnx ab (Prod.fst (Prod.snd (Prod.snd (Prod.snd b1)))))), (8, K.val ae 0)] [(0, Bx.row ab (Prod.fst (Prod.snd (Prod.snd (Prod.snd b1))))), (0 + 1, Bx.cell ag (Prod.fst b1, Prod.fst (Prod.snd b1), b0, Prod.snd (Prod.snd (Prod.snd b1)))), (0 + 1 + 1, Bx.cell (Ty.slc ae) b2), (0 + 1 + 1 + 1, Bx.cell ag b3)])) (af.loop [{ fx := bj, todo := bQ bm 4 4, dst := some 16, s := ofS [(2, K.ptr (0 + 1) ag []), (3, K.ptr (0 + 1 + 1) (Ty.slc ae) []), (4, K.ptr (0 + 1 + 1 + 1) ag []), (6, K.clo aj (K.kcons (K.ptr (0 + 1) ag []) (K.kcons (K.ptr (0 + 1 + 1) (Ty.slc ae) []) K.knil)))] }] an (lp al 5) [(0, K.sl 0 ab), (1, K.clo aj (K.kcons (K.ptr (0 + 1) ag []) (K.kcons (K.ptr (0 + 1 + 1) (Ty.slc ae) []) K.knil))), (5, K.val ae v8), (6, K.val ae (IntKind.wrap IntKind.i64 (v8 + 1)))] [(0, Bx.row ab b0), (0 + 1, Bx.cell ag b1), (0 + 1 + 1, Bx.cell (Ty.slc ae) b2), (0 + 1 + 1 + 1, Bx.cell ag b3)])) (af.loop [{ fx := an, todo := bQ al 1 2, dst := some 10, s := ofS [(0, K.sl 0 ab), (1, K.clo aj (K.kcons (K.ptr (0 + 1) ag []) (K.kcons (K.ptr (0 + 1 + 1) (Ty.slc ae) []) K.knil)))] }, { fx := bj, todo := bQ bm 4 4, dst := some 16, s := ofS [(2, K.ptr (0 + 1) ag []), (3, K.ptr (0 + 1 + 1) (Ty.slc ae) []), (4, K.ptr (0 + 1 + 1 + 1) ag []), (6, K.clo aj (K.kcons (K.ptr (0 + 1) ag []) (K.kcons (K.ptr (0 + 1 + 1) (Ty.slc ae) []) K.knil)))] }] ax (lp az 2) [(0, K.sl 0 ab), (1, K.clo aj (K.kcons (K.ptr (0 + 1) ag []) (K.kcons (K.ptr (0 + 1 + 1) (Ty.slc ae) []) K.knil))), (7, K.val ae v7), (8, K.val ae (IntKind.wrap IntKind.i64 (v8 + 1)))] [(0, Bx.row ab b0), (0 + 1, Bx.cell ag b1), (0 + 1 + 1, Bx.cell (Ty.slc ae) b2), (0 + 1 + 1 + 1, Bx.cell ag b3)]))))) (af.ite (decide (-1 = -1)) (af.req (List.length (Prod.fst (Prod.snd (Prod.snd (Prod.snd b1)))) ≤ bM) (af.loop [{ fx := an, todo := bQ al 1 2, dst := some 10, s := ofS [(0, K.sl 0 ab), (1, K.clo aj (K.kcons (K.ptr (0 + 1) ag []) (K.kcons (K.ptr (0 + 1 + 1) (Ty.slc ae) []) K.knil)))] }, { fx := bj, todo := bQ bm 5 4, dst := some 22, s := ofS [(2, K.ptr (0 + 1) ag []), (3, K.ptr (0 + 1 + 1) (Ty.slc ae) []), (4, K.ptr (0 + 1 + 1 + 1) ag []), (6, K.clo aj (K.kcons (K.ptr (0 + 1) ag []) (K.kcons (K.ptr (0 + 1 + 1) (Ty.slc ae) []) K.knil)))] }] ax (lp az 2) [(0, K.sl 0 ab), (1, K.clo aj (K.kcons (K.ptr (0 + 1) ag []) (K.kcons (K.ptr (0 + 1 + 1) (Ty.slc ae) []) K.knil))), (7, K.val ae (lnx ab (Prod.fst (Prod.snd (Prod.snd (Prod.snd b1)))))), (8, K.val ae 0)] [(0, Bx.row ab (Prod.fst (Prod.snd (Prod.snd (Prod.snd b1))))), (0 + 1, Bx.cell ag (Prod.fst b1, Prod.fst (Prod.snd b1), b0, Prod.snd (Prod.snd (Prod.snd b1)))), (0 + 1 + 1, Bx.cell (Ty.slc ae) b2), (0 + 1 + 1 + 1, Bx.cell ag b3)])) (af.loop [{ fx := bj, todo := bQ bm 4 4, dst := some 16, s := ofS [(2, K.ptr (0 + 1) ag []), (3, K.ptr (0 + 1 + 1) (Ty.slc ae) []), (4, K.ptr (0 + 1 + 1 + 1) ag []), (6, K.clo aj (K.kcons (K.ptr (0 + 1) ag []) (K.kcons (K.ptr (0 + 1 + 1) (Ty.slc ae) []) K.knil)))] }] an (lp al 5) [(0, K.sl 0 ab), (1, K.clo aj (K.kcons (K.ptr (0 + 1) ag []) (K.kcons (K.ptr (0 + 1 + 1) (Ty.slc ae) []) K.knil))), (5, K.val ae (-1)), (6, K.val ae (IntKind.wrap IntKind.i64 (-1 + 1)))] [(0, Bx.row ab b0), (0 + 1, Bx.cell ag b1), (0 + 1 + 1, Bx.cell (Ty.slc ae) b2), (0 + 1 + 1 + 1, Bx.cell ag b3)]))
theorem dB (v7 : den ae) (v8 : den ae) (b0 : List (den ab)) (b1 : den ag) (b2 : den (Ty.slc ae)) (b3 : den ag) : ap fe j7 5000 (eB v7 v8 b0 b1 b2 b3) ax (lp az 2) (ew v7 v8 b0 b1 b2 b3) = iR v7 v8 b0 b1 b2 b3 := by kernel_rfl
noncomputable def cx (v7 : den ae) (v8 : den ae) (b0 : List (den ab)) (b1 : den ag) (b2 : den (Ty.slc ae)) (b3 : den ag) : List bL := [{ fx := an, todo := bQ al 1 2, dst := some 10, s := ofS [(0, K.sl 0 ab), (1, K.clo aj (K.kcons (K.ptr (0 + 1) ag []) (K.kcons (K.ptr (0 + 1 + 1) (Ty.slc ae) []) K.knil)))] }, { fx := bj, todo := bQ bm 5 4, dst := some 22, s := ofS [(2, K.ptr (0 + 1) ag []), (3, K.ptr (0 + 1 + 1) (Ty.slc ae) []), (4, K.ptr (0 + 1 + 1 + 1) ag []), (6, K.clo aj (K.kcons (K.ptr (0 + 1) ag []) (K.kcons (K.ptr (0 + 1 + 1) (Ty.slc ae) []) K.knil)))] }]
noncomputable def cw (v7 : den ae) (v8 : den ae) (b0 : List (den ab)) (b1 : den ag) (b2 : den (Ty.slc ae)) (b3 : den ag) : Env := Env.of [(0, K.sl 0 ab), (1, K.clo aj (K.kcons (K.ptr (0 + 1) ag []) (K.kcons (K.ptr (0 + 1 + 1) (Ty.slc ae) []) K.knil))), (7, K.val ae v7), (8, K.val ae v8)] [(0, Bx.row ab b0), (1, Bx.cell ag b1), (2, Bx.cell (Ty.slc ae) b2), (3, Bx.cell ag b3)]
noncomputable def hK (v7 : den ae) (v8 : den ae) (b0 : List (den ab)) (b1 : den ag) (b2 : den (Ty.slc ae)) (b3 : den ag) : af := af.ite (decide (v8 < v7)) (af.req (inB v8 (lnx ab b0)) (af.req (inB v8 (lnx ab b0)) (af.req True (af.ite (bl (Prod.fst (Prod.fst b1)) b2 (el ab b0 v8)) (af.ite (decide (v8 = -1)) (af.ite (decide (lnx ab (Prod.fst (Prod.snd (Prod.snd b1))) = 0)) (af.req True (af.req (dT [(!eqb ab (Prod.fst (Prod.snd b1)) noM, true)] True) (af.all (den ab) (fun (q6 : den ab) ↦ q6 = noM) fun (q6 : den ab) ↦ af.ite (bif !eqb ab (Prod.fst (Prod.snd b1)) noM then bl (Prod.fst (Prod.fst b1)) b2 (Prod.fst (Prod.snd b1)) else false) (af.req True (af.all (den ab) (fun (q7 : den ab) ↦ q7 = noM) fun (q7 : den ab) ↦ af.ret (K.val (Ty.pair ag (Ty.pair ae Ty.unit)) ((Prod.fst b1, q7, List.set (List.replicate 1 (zero ab)) 0 (Prod.fst b1), b0, Prod.snd (Prod.snd (Prod.snd (Prod.snd b1)))), 0, PUnit.unit)))) (af.ret (K.val (Ty.pair ag (Ty.pair ae Ty.unit)) ((Prod.fst b1, Prod.fst (Prod.snd b1), List.set (List.replicate 1 (zero ab)) 0 (Prod.fst b1), b0, Prod.snd (Prod.snd (Prod.snd (Prod.snd b1)))), 0, PUnit.unit)))))) (af.req True (af.req (dT [(!eqb ab (Prod.fst (Prod.snd b1)) noM, true)] True) (af.all (den ab) (fun (q6 : den ab) ↦ q6 = noM) fun (q6 : den ab) ↦ af.ite (bif !eqb ab (Prod.fst (Prod.snd b1)) noM then bl (Prod.fst (Prod.fst b1)) b2 (Prod.fst (Prod.snd b1)) else false) (af.req True (af.all (den ab) (fun (q7 : den ab) ↦ q7 = noM) fun (q7 : den ab) ↦ af.ret (K.val (Ty.pair ag (Ty.pair ae Ty.unit)) ((Prod.fst b1, q7, Prod.fst (Prod.snd (Prod.snd b1)), b0, Prod.snd (Prod.snd (Prod.snd (Prod.snd b1)))), 0, PUnit.unit)))) (af.ret (K.val (Ty.pair ag (Ty.pair ae Ty.unit)) ((Prod.fst b1, Prod.fst (Prod.snd b1), Prod.fst (Prod.snd (Prod.snd b1)), b0, Prod.snd (Prod.snd (Prod.snd (Prod.snd b1)))), 0, PUnit.unit))))))) (af.loop [{ fx := bj, todo := bQ bm 5 4, dst := some 22, s := ofS [(2, K.ptr (0 + 1) ag []), (3, K.ptr (0 + 1 + 1) (Ty.slc ae) []), (4, K.ptr (0 + 1 + 1 + 1) ag []), (6, K.clo aj (K.kcons (K.ptr (0 + 1) ag []) (K.kcons (K.ptr (0 + 1 + 1) (Ty.slc ae) []) K.knil)))] }] an (lp al 5) [(0, K.sl 0 ab), (1, K.clo aj (K.kcons (K.ptr (0 + 1) ag []) (K.kcons (K.ptr (0 + 1 + 1) (Ty.slc ae) []) K.knil))), (5, K.val ae v8), (6, K.val ae (IntKind.wrap IntKind.i64 (v8 + 1)))] [(0, Bx.row ab b0), (0 + 1, Bx.cell ag b1), (0 + 1 + 1, Bx.cell (Ty.slc ae) b2), (0 + 1 + 1 + 1, Bx.cell ag b3)])) (af.loop [{ fx := an, todo := bQ al 1 2, dst := some 10, s := ofS [(0, K.sl 0 ab), (1, K.clo aj (K.kcons (K.ptr (0 + 1) ag []) (K.kcons (K.ptr (0 + 1 + 1) (Ty.slc ae) []) K.knil)))] }, { fx := bj, todo := bQ bm 5 4, dst := some 22, s := ofS [(2, K.ptr (0 + 1) ag []), (3, K.ptr (0 + 1 + 1) (Ty.slc ae) []), (4, K.ptr (0 + 1 + 1 + 1) ag []), (6, K.clo aj (K.kcons (K.ptr (0 + 1) ag []) (K.kcons (K.ptr (0 + 1 + 1) (Ty.slc ae) []) K.knil)))] }] ax (lp az 2) [(0, K.sl 0 ab), (1, K.clo aj (K.kcons (K.ptr (0 + 1) ag []) (K.kcons (K.ptr (0 + 1 + 1) (Ty.slc ae) []) K.knil))), (7, K.val ae v7), (8, K.val ae (IntKind.wrap IntKind.i64 (v8 + 1)))] [(0, Bx.row ab b0), (0 + 1, Bx.cell ag b1), (0 + 1 + 1, Bx.cell (Ty.slc ae) b2), (0 + 1 + 1 + 1, Bx.cell ag b3)]))))) (af.ite (decide (-1 = -1)) (af.ite (decide (lnx ab (Prod.fst (Prod.snd (Prod.snd b1))) = 0)) (af.req True (af.req (dT [(!eqb ab (Prod.fst (Prod.snd b1)) noM, true)] True) (af.all (den ab) (fun (q6 : den ab) ↦ q6 = noM) fun (q6 : den ab) ↦ af.ite (bif !eqb ab (Prod.fst (Prod.snd b1)) noM then bl (Prod.fst (Prod.fst b1)) b2 (Prod.fst (Prod.snd b1)) else false) (af.req True (af.all (den ab) (fun (q7 : den ab) ↦ q7 = noM) fun (q7 : den ab) ↦ af.ret (K.val (Ty.pair ag (Ty.pair ae Ty.unit)) ((Prod.fst b1, q7, List.set (List.replicate 1 (zero ab)) 0 (Prod.fst b1), b0, Prod.snd (Prod.snd (Prod.snd (Prod.snd b1)))), 0, PUnit.unit)))) (af.ret (K.val (Ty.pair ag (Ty.pair ae Ty.unit)) ((Prod.fst b1, Prod.fst (Prod.snd b1), List.set (List.replicate 1 (zero ab)) 0 (Prod.fst b1), b0, Prod.snd (Prod.snd (Prod.snd (Prod.snd b1)))), 0, PUnit.unit)))))) (af.req True (af.req (dT [(!eqb ab (Prod.fst (Prod.snd b1)) noM, true)] True) (af.all (den ab) (fun (q6 : den ab) ↦ q6 = noM) fun (q6 : den ab) ↦ af.ite (bif !eqb ab (Prod.fst (Prod.snd b1)) noM then bl (Prod.fst (Prod.fst b1)) b2 (Prod.fst (Prod.snd b1)) else false) (af.req True (af.all (den ab) (fun (q7 : den ab) ↦ q7 = noM) fun (q7 : den ab) ↦ af.ret (K.val (Ty.pair ag (Ty.pair ae Ty.unit)) ((Prod.fst b1, q7, Prod.fst (Prod.snd (Prod.snd b1)), b0, Prod.snd (Prod.snd (Prod.snd (Prod.snd b1)))), 0, PUnit.unit)))) (af.ret (K.val (Ty.pair ag (Ty.pair ae Ty.unit)) ((Prod.fst b1, Prod.fst (Prod.snd b1), Prod.fst (Prod.snd (Prod.snd b1)), b0, Prod.snd (Prod.snd (Prod.snd (Prod.snd b1)))), 0, PUnit.unit))))))) (af.loop [{ fx := bj, todo := bQ bm 5 4, dst := some 22, s := ofS [(2, K.ptr (0 + 1) ag []), (3, K.ptr (0 + 1 + 1) (Ty.slc ae) []), (4, K.ptr (0 + 1 + 1 + 1) ag []), (6, K.clo aj (K.kcons (K.ptr (0 + 1) ag []) (K.kcons (K.ptr (0 + 1 + 1) (Ty.slc ae) []) K.knil)))] }] an (lp al 5) [(0, K.sl 0 ab), (1, K.clo aj (K.kcons (K.ptr (0 + 1) ag []) (K.kcons (K.ptr (0 + 1 + 1) (Ty.slc ae) []) K.knil))), (5, K.val ae (-1)), (6, K.val ae (IntKind.wrap IntKind.i64 (-1 + 1)))] [(0, Bx.row ab b0), (0 + 1, Bx.cell ag b1), (0 + 1 + 1, Bx.cell (Ty.slc ae) b2), (0 + 1 + 1 + 1, Bx.cell ag b3)]))
theorem dl (v7 : den ae) (v8 : den ae) (b0 : List (den ab)) (b1 : den ag) (b2 : den (Ty.slc ae)) (b3 : den ag) : ap fe j7 5000 (cx v7 v8 b0 b1 b2 b3) ax (lp az 2) (cw v7 v8 b0 b1 b2 b3) = hK v7 v8 b0 b1 b2 b3 := by kernel_rfl
noncomputable def dZ (v5 : den ae) (v6 : den ae) (b0 : List (den ab)) (b1 : den ag) (b2 : den (Ty.slc ae)) (b3 : den ag) : List bL := [{ fx := bj, todo := bQ bm 4 4, dst := some 16, s := ofS [(2, K.ptr (0 + 1) ag []), (3, K.ptr (0 + 1 + 1) (Ty.slc ae) []), (4, K.ptr (0 + 1 + 1 + 1) ag []), (6, K.clo aj (K.kcons (K.ptr (0 + 1) ag []) (K.kcons (K.ptr (0 + 1 + 1) (Ty.slc ae) []) K.knil)))] }]
noncomputable def dX (v5 : den ae) (v6 : den ae) (b0 : List (den ab)) (b1 : den ag) (b2 : den (Ty.slc ae)) (b3 : den ag) : Env := Env.of [(0, K.sl 0 ab), (1, K.clo aj (K.kcons (K.ptr (0 + 1) ag []) (K.kcons (K.ptr (0 + 1 + 1) (Ty.slc ae) []) K.knil))), (5, K.val ae v5), (6, K.val ae v6)] [(0, Bx.row ab b0), (1, Bx.cell ag b1), (2, Bx.cell (Ty.slc ae) b2), (3, Bx.cell ag b3)]
noncomputable def iv (v5 : den ae) (v6 : den ae) (b0 : List (den ab)) (b1 : den ag) (b2 : den (Ty.slc ae)) (b3 : den ag) : af := af.ite (decide (v6 < lnx ab b0)) (af.req (inB v6 (lnx ab b0)) (af.req (inB v6 (lnx ab b0)) (af.req True (af.all (den Ty.bool) (fun (q6 : den Ty.bool) ↦ q6 = bl (Prod.fst (Prod.fst b1)) b2 (el ab b0 v6)) fun (q6 : den Ty.bool) ↦ af.ite (!q6) (af.req (inB v5 (lnx ab b0)) (af.req (inB v5 (lnx ab b0)) (af.loop [{ fx := bj, todo := bQ bm 4 4, dst := some 16, s := ofS [(2, K.ptr (0 + 1) ag []), (3, K.ptr (0 + 1 + 1) (Ty.slc ae) []), (4, K.ptr (0 + 1 + 1 + 1) ag []), (6, K.clo aj (K.kcons (K.ptr (0 + 1) ag []) (K.kcons (K.ptr (0 + 1 + 1) (Ty.slc ae) []) K.knil)))] }] an (lp al 5) [(0, K.sl 0 ab), (1, K.clo aj (K.kcons (K.ptr (0 + 1) ag []) (K.kcons (K.ptr (0 + 1 + 1) (Ty.slc ae) []) K.knil))), (5, K.val ae (IntKind.wrap IntKind.i64 (v5 + 1))), (6, K.val ae (IntKind.wrap IntKind.i64 (v6 + 1)))] [(0, Bx.row ab (uF ab b0 v5 (el ab b0 v6))), (0 + 1, Bx.cell ag b1), (0 + 1 + 1, Bx.cell (Ty.slc ae) b2), (0 + 1 + 1 + 1, Bx.cell ag b3)]))) (af.loop [{ fx := bj, todo := bQ bm 4 4, dst := some 16, s := ofS [(2, K.ptr (0 + 1) ag []), (3, K.ptr (0 + 1 + 1) (Ty.slc ae) []), (4, K.ptr (0 + 1 + 1 + 1) ag []), (6, K.clo aj (K.kcons (K.ptr (0 + 1) ag []) (K.kcons (K.ptr (0 + 1 + 1) (Ty.slc ae) []) K.knil)))] }] an (lp al 5) [(0, K.sl 0 ab), (1, K.clo aj (K.kcons (K.ptr (0 + 1) ag []) (K.kcons (K.ptr (0 + 1 + 1) (Ty.slc ae) []) K.knil))), (5, K.val ae v5), (6, K.val ae (IntKind.wrap IntKind.i64 (v6 + 1)))] [(0, Bx.row ab b0), (0 + 1, Bx.cell ag b1), (0 + 1 + 1, Bx.cell (Ty.slc ae) b2), (0 + 1 + 1 + 1, Bx.cell ag b3)]))))) (af.req (vok 0 (List.length b0) (List.length b0)) (af.req (br v5 (↑(List.length b0) : Int) (↑(List.length b0 - 0) : Int)) (af.req (vok (0 + Int.toNat v5) (Int.toNat (↑(List.length b0) : Int) - Int.toNat v5) (List.length b0)) (af.req (br 0 v5 (lnx ab (over b0 (0 + Int.toNat v5) (List.replicate (Int.toNat (↑(List.length b0) : Int) - Int.toNat v5) (zero ab))))) (af.req (List.length (Prod.fst (Prod.snd (Prod.snd (Prod.snd b1)))) ≤ bM) (af.loop [{ fx := an, todo := bQ al 1 2, dst := some 10, s := ofS [(0, K.sl 0 ab), (1, K.clo aj (K.kcons (K.ptr (0 + 1) ag []) (K.kcons (K.ptr (0 + 1 + 1) (Ty.slc ae) []) K.knil)))] }, { fx := bj, todo := bQ bm 5 4, dst := some 22, s := ofS [(2, K.ptr (0 + 1) ag []), (3, K.ptr (0 + 1 + 1) (Ty.slc ae) []), (4, K.ptr (0 + 1 + 1 + 1) ag []), (6, K.clo aj (K.kcons (K.ptr (0 + 1) ag []) (K.kcons (K.ptr (0 + 1 + 1) (Ty.slc ae) []) K.knil)))] }] ax (lp az 2) [(0, K.sl 0 ab), (1, K.clo aj (K.kcons (K.ptr (0 + 1) ag []) (K.kcons (K.ptr (0 + 1 + 1) (Ty.slc ae) []) K.knil))), (7, K.val ae (lnx ab (Prod.fst (Prod.snd (Prod.snd (Prod.snd b1)))))), (8, K.val ae 0)] [(0, Bx.row ab (Prod.fst (Prod.snd (Prod.snd (Prod.snd b1))))), (0 + 1, Bx.cell ag (Prod.fst b1, Prod.fst (Prod.snd b1), List.take (Int.toNat v5) (over b0 (0 + Int.toNat v5) (List.replicate (Int.toNat (↑(List.length b0) : Int) - Int.toNat v5) (zero ab))), Prod.snd (Prod.snd (Prod.snd b1)))), (0 + 1 + 1, Bx.cell (Ty.slc ae) b2), (0 + 1 + 1 + 1, Bx.cell ag b3)]))))))
theorem dv (v5 : den ae) (v6 : den ae) (b0 : List (den ab)) (b1 : den ag) (b2 : den (Ty.slc ae)) (b3 : den ag) : ap fe j7 5000 (dZ v5 v6 b0 b1 b2 b3) an (lp al 5) (dX v5 v6 b0 b1 b2 b3) = iv v5 v6 b0 b1 b2 b3 := by kernel_rfl
noncomputable def dI (v5 : den ae) (v6 : den ae) (b0 : List (den ab)) (b1 : den ag) (b2 : den (Ty.slc ae)) (b3 : den ag) : List bL := [{ fx := bj, todo := bQ bm 5 4, dst := some 22, s := ofS [(2, K.ptr (0 + 1) ag []), (3, K.ptr (0 + 1 + 1) (Ty.slc ae) []), (4, K.ptr (0 + 1 + 1 + 1) ag []), (6, K.clo aj (K.kcons (K.ptr (0 + 1) ag []) (K.kcons (K.ptr (0 + 1 + 1) (Ty.slc ae) []) K.knil)))] }]
noncomputable def dL (v5 : den ae) (v6 : den ae) (b0 : List (den ab)) (b1 : den ag) (b2 : den (Ty.slc ae)) (b3 : den ag) : Env := Env.of [(0, K.sl 0 ab), (1, K.clo aj (K.kcons (K.ptr (0 + 1) ag []) (K.kcons (K.ptr (0 + 1 + 1) (Ty.slc ae) []) K.knil))), (5, K.val ae v5), (6, K.val ae v6)] [(0, Bx.row ab b0), (1, Bx.cell ag b1), (2, Bx.cell (Ty.slc ae) b2), (3, Bx.cell ag b3)]
noncomputable def gW (v5 : den ae) (v6 : den ae) (b0 : List (den ab)) (b1 : den ag) (b2 : den (Ty.slc ae)) (b3 : den ag) : af := af.ite (decide (v6 < lnx ab b0)) (af.req (inB v6 (lnx ab b0)) (af.req (inB v6 (lnx ab b0)) (af.req True (af.all (den Ty.bool) (fun (q6 : den Ty.bool) ↦ q6 = bl (Prod.fst (Prod.fst b1)) b2 (el ab b0 v6)) fun (q6 : den Ty.bool) ↦ af.ite (!q6) (af.req (inB v5 (lnx ab b0)) (af.req (inB v5 (lnx ab b0)) (af.loop [{ fx := bj, todo := bQ bm 5 4, dst := some 22, s := ofS [(2, K.ptr (0 + 1) ag []), (3, K.ptr (0 + 1 + 1) (Ty.slc ae) []), (4, K.ptr (0 + 1 + 1 + 1) ag []), (6, K.clo aj (K.kcons (K.ptr (0 + 1) ag []) (K.kcons (K.ptr (0 + 1 + 1) (Ty.slc ae) []) K.knil)))] }] an (lp al 5) [(0, K.sl 0 ab), (1, K.clo aj (K.kcons (K.ptr (0 + 1) ag []) (K.kcons (K.ptr (0 + 1 + 1) (Ty.slc ae) []) K.knil))), (5, K.val ae (IntKind.wrap IntKind.i64 (v5 + 1))), (6, K.val ae (IntKind.wrap IntKind.i64 (v6 + 1)))] [(0, Bx.row ab (uF ab b0 v5 (el ab b0 v6))), (0 + 1, Bx.cell ag b1), (0 + 1 + 1, Bx.cell (Ty.slc ae) b2), (0 + 1 + 1 + 1, Bx.cell ag b3)]))) (af.loop [{ fx := bj, todo := bQ bm 5 4, dst := some 22, s := ofS [(2, K.ptr (0 + 1) ag []), (3, K.ptr (0 + 1 + 1) (Ty.slc ae) []), (4, K.ptr (0 + 1 + 1 + 1) ag []), (6, K.clo aj (K.kcons (K.ptr (0 + 1) ag []) (K.kcons (K.ptr (0 + 1 + 1) (Ty.slc ae) []) K.knil)))] }] an (lp al 5) [(0, K.sl 0 ab), (1, K.clo aj (K.kcons (K.ptr (0 + 1) ag []) (K.kcons (K.ptr (0 + 1 + 1) (Ty.slc ae) []) K.knil))), (5, K.val ae v5), (6, K.val ae (IntKind.wrap IntKind.i64 (v6 + 1)))] [(0, Bx.row ab b0), (0 + 1, Bx.cell ag b1), (0 + 1 + 1, Bx.cell (Ty.slc ae) b2), (0 + 1 + 1 + 1, Bx.cell ag b3)]))))) (af.req (vok 0 (List.length b0) (List.length b0)) (af.req (br v5 (↑(List.length b0) : Int) (↑(List.length b0 - 0) : Int)) (af.req (vok (0 + Int.toNat v5) (Int.toNat (↑(List.length b0) : Int) - Int.toNat v5) (List.length b0)) (af.req (br 0 v5 (lnx ab (over b0 (0 + Int.toNat v5) (List.replicate (Int.toNat (↑(List.length b0) : Int) - Int.toNat v5) (zero ab))))) (af.ite (decide (lnx ab (Prod.fst (Prod.snd (Prod.snd b1))) = 0)) (af.req True (af.req (dT [(!eqb ab (Prod.fst (Prod.snd b1)) noM, true)] True) (af.all (den ab) (fun (q6 : den ab) ↦ q6 = noM) fun (q6 : den ab) ↦ af.ite (bif !eqb ab (Prod.fst (Prod.snd b1)) noM then bl (Prod.fst (Prod.fst b1)) b2 (Prod.fst (Prod.snd b1)) else false) (af.req True (af.all (den ab) (fun (q7 : den ab) ↦ q7 = noM) fun (q7 : den ab) ↦ af.ret (K.val (Ty.pair ag (Ty.pair ae Ty.unit)) ((Prod.fst b1, q7, List.set (List.replicate 1 (zero ab)) 0 (Prod.fst b1), List.take (Int.toNat v5) (over b0 (0 + Int.toNat v5) (List.replicate (Int.toNat (↑(List.length b0) : Int) - Int.toNat v5) (zero ab))), Prod.snd (Prod.snd (Prod.snd (Prod.snd b1)))), 0, PUnit.unit)))) (af.ret (K.val (Ty.pair ag (Ty.pair ae Ty.unit)) ((Prod.fst b1, Prod.fst (Prod.snd b1), List.set (List.replicate 1 (zero ab)) 0 (Prod.fst b1), List.take (Int.toNat v5) (over b0 (0 + Int.toNat v5) (List.replicate (Int.toNat (↑(List.length b0) : Int) - Int.toNat v5) (zero ab))), Prod.snd (Prod.snd (Prod.snd (Prod.snd b1)))), 0, PUnit.unit)))))) (af.req True (af.req (dT [(!eqb ab (Prod.fst (Prod.snd b1)) noM, true)] True) (af.all (den ab) (fun (q6 : den ab) ↦ q6 = noM) fun (q6 : den ab) ↦ af.ite (bif !eqb ab (Prod.fst (Prod.snd b1)) noM then bl (Prod.fst (Prod.fst b1)) b2 (Prod.fst (Prod.snd b1)) else false) (af.req True (af.all (den ab) (fun (q7 : den ab) ↦ q7 = noM) fun (q7 : den ab) ↦ af.ret (K.val (Ty.pair ag (Ty.pair ae Ty.unit)) ((Prod.fst b1, q7, Prod.fst (Prod.snd (Prod.snd b1)), List.take (Int.toNat v5) (over b0 (0 + Int.toNat v5) (List.replicate (Int.toNat (↑(List.length b0) : Int) - Int.toNat v5) (zero ab))), Prod.snd (Prod.snd (Prod.snd (Prod.snd b1)))), 0, PUnit.unit)))) (af.ret (K.val (Ty.pair ag (Ty.pair ae Ty.unit)) ((Prod.fst b1, Prod.fst (Prod.snd b1), Prod.fst (Prod.snd (Prod.snd b1)), List.take (Int.toNat v5) (over b0 (0 + Int.toNat v5) (List.replicate (Int.toNat (↑(List.length b0) : Int) - Int.toNat v5) (zero ab))), Prod.snd (Prod.snd (Prod.snd (Prod.snd b1)))), 0, PUnit.unit)))))))))))
theorem da (v5 : den ae) (v6 : den ae) (b0 : List (den ab)) (b1 : den ag) (b2 : den (Ty.slc ae)) (b3 : den ag) : ap fe j7 5000 (dI v5 v6 b0 b1 b2 b3) an (lp al 5) (dL v5 v6 b0 b1 b2 b3) = gW v5 v6 b0 b1 b2 b3 := by kernel_rfl
end Go.Proofs.Ytimdnodkabnbfaa
namespace Go.Proofs.Ytimdnodkabnbfaa
open Go Go.RowKit
abbrev LL := List (List Mem)
abbrev GCc (O : Nat → Prop) (w0 : World) (bk : Option Nat) (s : LL) := bv prog bT (rcx O w0 bk) (pQ prog O w0 bk ab (s.flatten : List Mem))
theorem p8 (s : LL) {i : Nat} (hi : i < s.length) : (s.take (i + 1)).flatten = (s.take i).flatten ++ s[i] := by
 rw [List.take_succ_eq_append_getElem hi, List.flatten_append, List.flatten_cons, List.flatten_nil, List.append_nil]
theorem rK (s : LL) (i : Nat) : (s.take i).flatten.length ≤ s.flatten.length := by
 have h : s.flatten = (s.take i).flatten ++ (s.drop i).flatten := by rw [← List.flatten_append, List.take_append_drop]
 rw [h, List.length_append]; omega
def Ac (O : Nat → Prop) (w0 : World) (bk : Option Nat) (s : LL) (hm : s.length ≤ maxLen) (ht : s.flatten.length ≤ 1073741824) :=
 PLift.up <| bK (σ := List Mem) s.length (fun i b => b = (s.take i).flatten)
  (fun i b => GCc O w0 bk s [] aF (lp aD 11) (gY s (lnx (Ty.slc ab) s) (i : Nat) b))
  (fun i b hi hs ih => jC bJ (fH s _ _ b) (by
   have e := p8 s hi
   have hle := rK s (i + 1)
   refine ⟨fun _ => ⟨be hi, ?_⟩, fun hc => absurd hi (by rw [cD (e := Ty.slc ab)] at hc; exact of_decide_eq_false hc)⟩
   rw [cL (e := Ty.slc ab) hi, cI hi hm, hs, ← e]
   exact ⟨Nat.le_trans hle ht, ih _ rfl⟩))
  (fun b hs => jC bJ (fH s _ _ b) ⟨fun hc => absurd (of_decide_eq_true hc) (Int.lt_irrefl _), fun _ => ⟨(by simp [vok]), by
   show K.val (.slc ab) (mJ ab b 0 (List.length b)) = K.val (.slc ab) (s.flatten : List Mem)
   rw [zB _ rfl, hs, List.take_length]⟩⟩)
theorem zX (O : Nat → Prop) (w0 : World) (bk : Option Nat) (s : LL) (hm : s.length ≤ maxLen) (ht : s.flatten.length ≤ 1073741824) : GCc O w0 bk s [] aF (lp aD 11) (gZ s (lnx (Ty.slc ab) s) 0) :=
  jC bJ (lk s _ _) (by
    have hle := rK s (0 + 1)
    refine ⟨fun hc => ?_, fun hc => ?_⟩
    · have hi : 0 < s.length := Int.ofNat_lt.1 (of_decide_eq_true hc)
      have e := p8 s hi
      refine ⟨be hi, ?_⟩
      have e0 : el (Ty.slc ab) s 0 = s[0] := cL (e := Ty.slc ab) hi
      have e1 : (s.take (0 + 1)).flatten = s[0] := by rw [e]; rfl
      rw [e0, show IntKind.wrap .i64 ((0 : Int) + 1) = ((0 + 1 : Nat) : Int) from rfl, ← e1]
      exact ⟨Nat.le_trans hle ht, (Ac O w0 bk s hm ht).down 1 _ hi rfl⟩
    · have hi : s.length = 0 := by
        have : ¬ (0 : Int) < ((s.length : Nat) : Int) := of_decide_eq_false hc
        omega
      show K.val (.slc ab) [] = K.val (.slc ab) (s.flatten : List Mem)
      rw [List.eq_nil_of_length_eq_zero hi]
      rfl)
theorem ED {α : Type} {zs pre ys : List α} (h : zs.take pre.length = pre) (hl : pre.length + ys.length ≤ zs.length) : (over zs pre.length ys).take (pre ++ ys).length = pre ++ ys := by
 rw [List.length_append, E2 (by omega), h]
def Bg (O : Nat → Prop) (w0 : World) (bk : Option Nat) (s : LL) (hm : s.length ≤ maxLen) :=
 PLift.up <| bK (σ := List Mem) s.length (fun i b => b.length = s.flatten.length ∧ b.take (s.take i).flatten.length = (s.take i).flatten)
  (fun i b => GCc O w0 bk s [] aF (lp aD 11) (iU 0 (s.take i).flatten.length s (lnx (Ty.slc ab) s) (i : Nat) b))
  (fun i b hi hs ih => jC bJ (gu 0 _ s _ _ b) (by
   obtain ⟨h1, h2⟩ := hs
   have e := p8 s hi
   have el' : (s.take (i + 1)).flatten.length = (s.take i).flatten.length + s[i].length := by rw [e, List.length_append]
   have hle := rK s (i + 1)
   have hle0 := rK s i
   refine ⟨fun _ => ⟨be hi, ?_⟩, fun hc => absurd hi (by rw [cD (e := Ty.slc ab)] at hc; exact of_decide_eq_false hc)⟩
   rw [cL (e := Ty.slc ab) hi, cI hi hm, Nat.zero_add, ← el', h1]
   refine ⟨(by unfold vok; omega), hle, ih _ ⟨?_, ?_⟩⟩
   ·show (over b (s.take i).flatten.length s[i]).length = _
    rw [wK (by omega), h1]
   ·have := ED (ys := s[i]) h2 (by omega)
    rw [← e] at this
    exact this))
  (fun b hs => jC bJ (gu 0 _ s _ _ b) ⟨fun hc => absurd (of_decide_eq_true hc) (Int.lt_irrefl _), fun _ => by
   obtain ⟨h1, h2⟩ := hs
   rw [List.take_length] at h2 ⊢
   refine ⟨(by unfold vok; omega), ?_⟩
   show K.val (.slc ab) (mJ ab b 0 (s.flatten : List Mem).length) = K.val (.slc ab) (s.flatten : List Mem)
   rw [Ek, h2]⟩)
def Fk (O : Nat → Prop) (w0 : World) (bk : Option Nat) (s : LL) (hm : s.length ≤ maxLen) (ht : s.flatten.length ≤ 1073741824) :=
 PLift.up <| bK (σ := Unit) s.length (fun _ _ => True)
  (fun i _ => GCc O w0 bk s [] aF (lp aD 3) (jA s ((s.take i).flatten.length : Nat) s (lnx (Ty.slc ab) s) (i : Nat)))
  (fun i _ hi _ ih => jC bJ (gS s _ s _ _) (by
   have e := p8 s hi
   have el' : (s.take (i + 1)).flatten.length = (s.take i).flatten.length + s[i].length := by rw [e, List.length_append]
   have hle := rK s (i + 1)
   refine ⟨fun _ => ⟨be hi, ?_⟩, fun hc => absurd hi (by rw [cD (e := Ty.slc ab)] at hc; exact of_decide_eq_false hc)⟩
   have e2 : IntKind.wrap .i64 ((((s.take i).flatten.length : Nat) : Int) + lnx ab s[i]) = (((s.take (i + 1)).flatten.length : Nat) : Int) := by
    rw [el', show lnx ab s[i] = ((s[i].length : Nat) : Int) from rfl, dx (by omega)]; omega
   rw [cL (e := Ty.slc ab) hi, cI hi hm, e2]
   exact ⟨fun hc => absurd (of_decide_eq_true hc) (by omega), fun _ => ih () trivial⟩))
  (fun _ _ => jC bJ (gS s _ s _ _) ⟨fun hc => absurd (of_decide_eq_true hc) (Int.lt_irrefl _), fun _ => by
   rw [List.take_length]
   have e0 : IntKind.wrap .i64 ((((s.flatten : List Mem).length : Nat) : Int) - IntKind.wrap .i64 (0 - 0)) = (((s.flatten : List Mem).length : Nat) : Int) := by
    rw [show IntKind.wrap .i64 ((0 : Int) - 0) = 0 from rfl, dx (by omega)]; omega
   rw [e0]
   refine ⟨fun hc => absurd (of_decide_eq_true hc) (Int.not_lt.2 (Int.natCast_nonneg _)), fun _ => ⟨fun hc => ?_, fun hc => zX O w0 bk s hm ht⟩⟩
   have hc := of_decide_eq_true hc
   rw [Int.toNat_natCast]
   refine ⟨⟨Int.le_refl _, Int.le_refl _, Int.le_refl _⟩, hc, ht, (by simp [vok]), ⟨Int.le_refl _, Int.le_refl _, Int.natCast_nonneg _⟩, ?_⟩
   exact (Bg O w0 bk s hm).down 0 _ (Nat.zero_le _) ⟨List.length_replicate .., rfl⟩⟩)
theorem pC : lB prog [] bw qC :=
 Di bJ (fx := aF) rfl pA (by kernel_rfl) (T := fun _ y => ke y.1) (fun xs y _ => nO y.1) fun O w0 bk xs y hxl hy hp =>
  (Fk O w0 bk y.1 hy.1.1 hp).down 0 () (Nat.zero_le _) trivial
end Go.Proofs.Ytimdnodkabnbfaa
namespace Go.Proofs.Ytimdnodkabnbfaa
open Go Go.RowKit
structure iQ (g : Mem → Bool) (l : List Mem) (k i : Nat) (b : List Mem) : Prop where
 le : k ≤ i
 il : i ≤ l.length
 len : b.length = l.length
 pre : b.take k = (l.take i).filter (fun m => !g m)
 post : b.drop i = l.drop i
theorem iQ.at {g : Mem → Bool} {l b : List Mem} {k i : Nat} (h : iQ g l k i b) (hi : i < l.length) (hb : i < b.length) : b[i] = l[i] := by
 have h1 := h.post
 rw [List.drop_eq_getElem_cons hb, List.drop_eq_getElem_cons hi] at h1
 exact (List.cons.inj h1).1
theorem iQ.keep {g : Mem → Bool} {l b : List Mem} {k i : Nat} (h : iQ g l k i b) (hi : i < l.length) (hg : g l[i] = false) : iQ g l (k + 1) (i + 1) (b.set k l[i]) := by
 have h0 := h.le
 have h3 := h.len
 refine ⟨by omega, hi, by rw [List.length_set, h3], ?_, ?_⟩
 ·rw [List.take_succ_eq_append_getElem hi, List.filter_append, ← h.pre, List.take_succ_eq_append_getElem (by rw [List.length_set]; omega), List.getElem_set_self, List.take_set_of_le (Nat.le_refl _)]
  simp [hg]
 ·rw [List.drop_set_of_lt (by omega)]
  have h1 := h.post
  rw [List.drop_eq_getElem_cons (show i < b.length by omega), List.drop_eq_getElem_cons hi] at h1
  exact (List.cons.inj h1).2
theorem iQ.skip {g : Mem → Bool} {l b : List Mem} {k i : Nat} (h : iQ g l k i b) (hi : i < l.length) (hg : g l[i] = true) : iQ g l k (i + 1) b := by
 have h0 := h.le
 have h3 := h.len
 refine ⟨by omega, hi, h3, ?_, ?_⟩
 ·rw [List.take_succ_eq_append_getElem hi, List.filter_append, ← h.pre]
  simp [hg]
 ·have h1 := h.post
  rw [List.drop_eq_getElem_cons (show i < b.length by omega), List.drop_eq_getElem_cons hi] at h1
  exact (List.cons.inj h1).2
theorem iQ.first {g : Mem → Bool} {l : List Mem} {i : Nat} (hi : i < l.length) (h0 : ∀ m ∈ l.take i, g m = false) (hg : g l[i] = true) : iQ g l i (i + 1) l :=
 ⟨Nat.le_succ _, hi, rfl, by
  rw [List.take_succ_eq_append_getElem hi, List.filter_append, List.filter_eq_self.2 (fun m hm => by simp [h0 m hm])]
  simp [hg], rfl⟩
theorem iQ.done {g : Mem → Bool} {l b : List Mem} {k : Nat} (h : iQ g l k l.length b) {z : Mem} {n : Nat} : (over b k (List.replicate n z)).take k = l.filter (fun m => !g m) := by
 have h0 := h.le
 have h3 := h.len
 rw [Ce (Nat.le_refl _) (by omega), h.pre, List.take_length]
theorem AJ {g : Mem → Bool} {l : List Mem} (h0 : ∀ m ∈ l, g m = false) : l.filter (fun m => !g m) = l := List.filter_eq_self.2 (fun m hm => by simp [h0 m hm])
end Go.Proofs.Ytimdnodkabnbfaa
namespace Go.Proofs.Ytimdnodkabnbfaa
open Go Go.RowKit
abbrev GDr (O : Nat → Prop) (w0 : World) (y : Nd) := bv prog fe (Cx.base O w0) (cu prog O w0 gN fun z => z = (y, 0, ()))
theorem dE : XOk prog fe := CJ lH qH Ag qu
def jO (n : Nd) (nos : List Int) (f : List Mem) : Nd := (n.1, (bif (bif !decide (n.2.1 = noM) then bl n.1.1 nos n.2.1 else false) then noM else n.2.1), nR n n.2.2.1, f, ())
def Fs (O : Nat → Prop) (w0 : World) (n r : Nd) (nos : List Int) (l : List Mem) (hm : l.length ≤ maxLen) :=
  PLift.up <| bK (σ := Nat × List Mem) l.length (fun i s => iQ (bl n.1.1 nos) l s.1 i s.2)
    (fun i s => GDr O w0 (jO n nos (l.filter fun m => !bl n.1.1 nos m)) (dI (s.1 : Nat) (i : Nat) s.2 n nos r) an (lp al 5) (dL (s.1 : Nat) (i : Nat) s.2 n nos r))
    (fun i s hi hs ih => aP dE (da _ _ s.2 n nos r) (by
      obtain ⟨k, b⟩ := s
      have hs : iQ (bl n.1.1 nos) l k i b := hs
      have hb : i < b.length := by rw [hs.len]; exact hi
      have hk : k < b.length := by have := hs.le; omega
      have hat := hs.at hi hb
      refine ⟨fun _ => ⟨be hb, be hb, trivial, ?_⟩, fun hc => absurd hb (by rw [cD] at hc; exact of_decide_eq_false hc)⟩
      rw [cL hb, hat, cI hi hm, cI (show k < l.length by rw [← hs.len]; exact hk) hm]
      refine bC ⟨fun hc => ⟨be hk, be hk, ih (k + 1, b.set k l[i]) (hs.keep hi ?_)⟩, fun hc => ih (k, b) (hs.skip hi ?_)⟩
      · have hc : (!bl n.1.1 nos l[i]) = true := hc
        simpa using hc
      · have hc : (!bl n.1.1 nos l[i]) = false := hc
        simpa using hc))
    (fun s hs => aP dE (da _ _ s.2 n nos r) (by
      obtain ⟨k, b⟩ := s
      have hs : iQ (bl n.1.1 nos) l k l.length b := hs
      have hl := hs.len
      have hle := hs.le
      refine ⟨fun hc => absurd (of_decide_eq_true hc) (by rw [show lnx ab b = ((l.length : Nat) : Int) from congrArg Nat.cast hl]; exact Int.lt_irrefl _), fun _ => ⟨(by simp [vok]), (show br ((k : Nat) : Int) ((b.length : Nat) : Int) ((b.length - 0 : Nat) : Int) from ⟨by omega, by omega, by omega⟩), (by simp [vok]; omega), ?_, ?_⟩⟩
      · have : lnx ab (over b (0 + Int.toNat ((k : Nat) : Int)) (List.replicate (Int.toNat ((b.length : Nat) : Int) - Int.toNat ((k : Nat) : Int)) (zero ab))) = ((b.length : Nat) : Int) := congrArg Nat.cast (wK (by rw [List.length_replicate]; simp only [Int.toNat_natCast]; omega))
        show br 0 ((k : Nat) : Int) (lnx ab (over b (0 + Int.toNat ((k : Nat) : Int)) (List.replicate (Int.toNat ((b.length : Nat) : Int) - Int.toNat ((k : Nat) : Int)) (zero ab))))
        rw [this]
        exact ⟨Int.le_refl _, by omega, by omega⟩
      · have hF : List.take (Int.toNat ((k : Nat) : Int)) (over b (0 + Int.toNat ((k : Nat) : Int)) (List.replicate (Int.toNat ((b.length : Nat) : Int) - Int.toNat ((k : Nat) : Int)) (zero ab))) = l.filter fun m => !bl n.1.1 nos m := by
          simp only [Int.toNat_natCast, Nat.zero_add]
          exact hs.done
        have fin : ∀ {p : Nd}, jO n nos (l.filter fun m => !bl n.1.1 nos m) = p → ∃ z, a7 gN (K.val (Ty.pair ag (Ty.pair ae Ty.unit)) (p, 0, ())) = some z ∧ z = (jO n nos (l.filter fun m => !bl n.1.1 nos m), 0, ()) := fun {p} e => ⟨_, rfl, by rw [e]⟩
        rw [← hF] at fin ⊢
        have cases2 : ∀ {su : List Mem}, nR n n.2.2.1 = su → True := fun _ => trivial
        refine ⟨fun h => ⟨trivial, fun _ => trivial, bC ⟨fun h2 => ⟨trivial, bC (fin ?_)⟩, fun h2 => fin ?_⟩⟩, fun h => ⟨trivial, fun _ => trivial, bC ⟨fun h2 => ⟨trivial, bC (fin ?_)⟩, fun h2 => fin ?_⟩⟩⟩
        all_goals
          rw [kW] at h2
          unfold jO nR
          rw [h, h2]
          rfl))
theorem zn {g : Mem → Bool} {l : List Mem} {i : Nat} (hi : i < l.length) (h : ∀ m ∈ l.take i, g m = false) (hg : g l[i] = false) : ∀ m ∈ l.take (i + 1), g m = false := fun m hm => by
 rw [List.take_succ_eq_append_getElem hi] at hm
 rcases List.mem_append.1 hm with hm | hm
 ·exact h m hm
 ·rw [List.mem_singleton.1 hm]; exact hg
def FB (O : Nat → Prop) (w0 : World) (n r : Nd) (nos : List Int) (l : List Mem) (hm : l.length ≤ maxLen) :=
 PLift.up <| bK (σ := Unit) l.length (fun i _ => ∀ m ∈ l.take i, bl n.1.1 nos m = false)
  (fun i _ => GDr O w0 (jO n nos (l.filter fun m => !bl n.1.1 nos m)) (cx (lnx ab l) (i : Nat) l n nos r) ax (lp az 2) (cw (lnx ab l) (i : Nat) l n nos r))
  (fun i _ hi hs ih => aP dE (dl _ _ l n nos r) (by
   refine ⟨fun _ => ⟨be hi, be hi, trivial, ?_⟩, fun hc => absurd hi (by rw [cD] at hc; exact of_decide_eq_false hc)⟩
   rw [cL hi, cI hi hm]
   refine ⟨fun hg => ⟨fun hc => ?_, fun _ => (Fs O w0 n r nos l hm).down (i + 1) (i, l) hi (.first hi hs hg)⟩, fun hg => ih () (zn hi hs hg)⟩
   have hc : ((i : Nat) : Int) = -1 := of_decide_eq_true hc
   omega))
  (fun _ hs => aP dE (dl _ _ l n nos r) (by
   rw [List.take_length] at hs
   have hF := AJ hs
   refine ⟨fun hc => absurd (of_decide_eq_true hc) (Int.lt_irrefl _), fun _ => ⟨fun _ => ?_, fun hc => (by cases hc)⟩⟩
   rw [hF]
   have fin : ∀ {p : Nd}, jO n nos l = p → ∃ z, a7 gN (K.val (Ty.pair ag (Ty.pair ae Ty.unit)) (p, 0, ())) = some z ∧ z = (jO n nos l, 0, ()) := fun {p} e => ⟨_, rfl, by rw [e]⟩
   refine ⟨fun h => ⟨trivial, fun _ => trivial, bC ⟨fun h2 => ⟨trivial, bC (fin ?_)⟩, fun h2 => fin ?_⟩⟩, fun h => ⟨trivial, fun _ => trivial, bC ⟨fun h2 => ⟨trivial, bC (fin ?_)⟩, fun h2 => fin ?_⟩⟩⟩
   all_goals
    rw [kW] at h2
    unfold jO nR
    rw [h, h2]
    rfl))
theorem Hc (n : Nd) (nos : List Int) : jO (n.1, n.2.1, n.2.2.1.filter (fun m => !bl n.1.1 nos m), n.2.2.2) nos (n.2.2.2.1.filter fun m => !bl n.1.1 nos m) = kI n nos := rfl
theorem zP (O : Nat → Prop) (w0 : World) (n r : Nd) (nos : List Int) (su : List Mem) (hsu : su = n.2.2.1.filter (fun m => !bl n.1.1 nos m)) (hf : n.2.2.2.1.length ≤ 16) :
    GDr O w0 (kI n nos) (cx (lnx ab n.2.2.2.1) 0 n.2.2.2.1 (n.1, n.2.1, su, n.2.2.2) nos r) ax (lp az 2) (cw (lnx ab n.2.2.2.1) 0 n.2.2.2.1 (n.1, n.2.1, su, n.2.2.2) nos r) := by
  subst hsu
  rw [← Hc]
  exact (FB O w0 (n.1, n.2.1, n.2.2.1.filter (fun m => !bl n.1.1 nos m), n.2.2.2) r nos n.2.2.2.1 (Nat.le_trans hf (by decide))).down 0 () (Nat.zero_le _) (fun m hm => by cases hm)
def EK (O : Nat → Prop) (w0 : World) (n r : Nd) (nos : List Int) (hm : n.2.2.1.length ≤ maxLen) (hf : n.2.2.2.1.length ≤ 16) :=
 PLift.up <| bK (σ := Nat × List Mem) n.2.2.1.length (fun i s => iQ (bl n.1.1 nos) n.2.2.1 s.1 i s.2)
  (fun i s => GDr O w0 (kI n nos) (dZ (s.1 : Nat) (i : Nat) s.2 n nos r) an (lp al 5) (dX (s.1 : Nat) (i : Nat) s.2 n nos r))
  (fun i s hi hs ih => aP dE (dv _ _ s.2 n nos r) (by
   obtain ⟨k, b⟩ := s
   have hs : iQ (bl n.1.1 nos) n.2.2.1 k i b := hs
   have hb : i < b.length := by rw [hs.len]; exact hi
   have hk : k < b.length := by have := hs.le; omega
   have hat := hs.at hi hb
   refine ⟨fun _ => ⟨be hb, be hb, trivial, ?_⟩, fun hc => absurd hb (by rw [cD] at hc; exact of_decide_eq_false hc)⟩
   rw [cL hb, hat, cI hi hm, cI (show k < n.2.2.1.length by rw [← hs.len]; exact hk) hm]
   refine bC ⟨fun hc => ⟨be hk, be hk, ih (k + 1, b.set k n.2.2.1[i]) (hs.keep hi ?_)⟩, fun hc => ih (k, b) (hs.skip hi ?_)⟩
   ·have hc : (!bl n.1.1 nos n.2.2.1[i]) = true := hc
    simpa using hc
   ·have hc : (!bl n.1.1 nos n.2.2.1[i]) = false := hc
    simpa using hc))
  (fun s hs => aP dE (dv _ _ s.2 n nos r) (by
   obtain ⟨k, b⟩ := s
   have hs : iQ (bl n.1.1 nos) n.2.2.1 k n.2.2.1.length b := hs
   have hl := hs.len
   have hle := hs.le
   refine ⟨fun hc => absurd (of_decide_eq_true hc) (by rw [show lnx ab b = ((n.2.2.1.length : Nat) : Int) from congrArg Nat.cast hl]; exact Int.lt_irrefl _), fun _ => ⟨(by simp [vok]), (show br ((k : Nat) : Int) ((b.length : Nat) : Int) ((b.length - 0 : Nat) : Int) from ⟨by omega, by omega, by omega⟩), (by simp [vok]; omega), ?_, Nat.le_trans hf (by decide), ?_⟩⟩
   ·have : lnx ab (over b (0 + Int.toNat ((k : Nat) : Int)) (List.replicate (Int.toNat ((b.length : Nat) : Int) - Int.toNat ((k : Nat) : Int)) (zero ab))) = ((b.length : Nat) : Int) := congrArg Nat.cast (wK (by rw [List.length_replicate]; simp only [Int.toNat_natCast]; omega))
    show br 0 ((k : Nat) : Int) (lnx ab (over b (0 + Int.toNat ((k : Nat) : Int)) (List.replicate (Int.toNat ((b.length : Nat) : Int) - Int.toNat ((k : Nat) : Int)) (zero ab))))
    rw [this]
    exact ⟨Int.le_refl _, by omega, by omega⟩
   ·refine zP O w0 n r nos _ ?_ hf
    simp only [Int.toNat_natCast, Nat.zero_add]
    exact hs.done))
def Fa (O : Nat → Prop) (w0 : World) (n r : Nd) (nos : List Int) (hm : n.2.2.1.length ≤ maxLen) (hf : n.2.2.2.1.length ≤ 16) :=
 PLift.up <| bK (σ := Unit) n.2.2.1.length (fun i _ => ∀ m ∈ n.2.2.1.take i, bl n.1.1 nos m = false)
  (fun i _ => GDr O w0 (kI n nos) (eB (lnx ab n.2.2.1) (i : Nat) n.2.2.1 n nos r) ax (lp az 2) (ew (lnx ab n.2.2.1) (i : Nat) n.2.2.1 n nos r))
  (fun i _ hi hs ih => aP dE (dB _ _ n.2.2.1 n nos r) (by
   refine ⟨fun _ => ⟨be hi, be hi, trivial, ?_⟩, fun hc => absurd hi (by rw [cD] at hc; exact of_decide_eq_false hc)⟩
   rw [cL hi, cI hi hm]
   refine ⟨fun hg => ⟨fun hc => ?_, fun _ => (EK O w0 n r nos hm hf).down (i + 1) (i, n.2.2.1) hi (.first hi hs hg)⟩, fun hg => ih () (zn hi hs hg)⟩
   have hc : ((i : Nat) : Int) = -1 := of_decide_eq_true hc
   omega))
  (fun _ hs => aP dE (dB _ _ n.2.2.1 n nos r) (by
   rw [List.take_length] at hs
   exact ⟨fun hc => absurd (of_decide_eq_true hc) (Int.lt_irrefl _), fun _ => ⟨fun _ => ⟨Nat.le_trans hf (by decide), zP O w0 n r nos n.2.2.1 (AJ hs).symm hf⟩, fun hc => (by cases hc)⟩⟩))
theorem A5 {n : Nd} (h : a9 n = true) : n.2.2.1.length ≤ 4 ∧ 1 ≤ n.2.2.1.length ∧ n.2.2.2.1.length ≤ 16 := by
 unfold a9 rH at h
 simp only [Bool.cond_eq_ite, Bool.ite_eq_true_distrib] at h
 have e1 : lnx ab n.2.2.1 = ((n.2.2.1.length : Nat) : Int) := rfl
 have e2 : lnx ab n.2.2.2.1 = ((n.2.2.2.1.length : Nat) : Int) := rfl
 rw [e1, e2] at h
 by_cases h1 : (1 : Int) ≤ ((n.2.2.1.length : Nat) : Int) <;> by_cases h2 : ((n.2.2.1.length : Nat) : Int) ≤ 4 <;> by_cases h3 : ((n.2.2.2.1.length : Nat) : Int) ≤ 16 <;> simp [h1, h2, h3] at h
 exact ⟨by omega, by omega, by omega⟩
theorem Cd : aE prog [] mN mH :=
 bW (S := mH) dE (fx := bj) Bq (by kernel_rfl) (fun _ _ => trivial) (T := fun x => vm x.1 x.2.1) (fun x => yy x.1 x.2.1) fun O w0 x _ _ => by
  obtain ⟨n, nos, ⟨⟩⟩ := x
  refine ⟨trivial, bC ⟨fun h => ⟨_, rfl, ?_⟩, fun h => ?_⟩⟩
  ·have h : (!a9 n) = true := h
   show _ = ((fh n nos).1, (fh n nos).2, ())
   unfold fh
   rw [h]
   rfl
  ·have h : (!a9 n) = false := h
   have hr : a9 n = true := by simpa using h
   obtain ⟨l1, l2, l3⟩ := A5 hr
   refine ⟨Nat.le_trans l1 (by decide), ?_⟩
   have e : fh n nos = (kI n nos, 0) := by unfold fh; rw [h]; rfl
   show bv _ _ _ (cu prog O w0 gN fun z => z = ((fh n nos).1, (fh n nos).2, ())) _ _ _ _
   rw [e]
   exact (Fa O w0 n (zero ag) nos (Nat.le_trans l1 (by decide)) l3).down 0 () (Nat.zero_le _) (fun m hm => by cases hm)
end Go.Proofs.Ytimdnodkabnbfaa
namespace Go.Proofs.Ytimdnodkabnbfaa
open Go Go.RowKit
def f5 (l : List Nd) : List Mem := l.map sfN
def bU (n : Nd) : List Mem := [n.2.1] ++ n.2.2.1 ++ n.2.2.2.1
def fD (l : List Nd) (no : Int) : Bool := l.any fun n => decide (n.1.1 = no)
end Go.Proofs.Ytimdnodkabnbfaa
