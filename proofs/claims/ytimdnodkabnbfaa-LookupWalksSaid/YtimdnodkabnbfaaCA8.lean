/- Part 8 of 10 of what this claim's proof stands on: a theory of programs on data, and the contracts of the functions that the law reaches. It holds no condition of its own. -/
import Derived.Test.YtimdnodkabnbfaaCA7
namespace Go.Proofs.Ytimdnodkabnbfaa
open Go Go.RowKit
noncomputable abbrev ij : Fx := { fn := fb, ann := { } }
noncomputable abbrev iE : a7 := { D := { T := a8, F := [(cZ, dW)], R := [], ovl := [] }, inl := [] }
noncomputable abbrev n6 : bo := .data ii
theorem og (h_slices_IndexFunc_Member : ap prog [] cZ dW) : XOk prog iE := xok (au (aI aS aC) h_slices_IndexFunc_Member) (by kernel_rfl) aK aW aV
noncomputable def iC (s : den (Ty.slc ab)) (f : den (Ty.fn (Ty.pair ab Ty.unit) (Ty.pair Ty.bool Ty.unit))) : af := af.req (∃ (h : den (Ty.pair ab Ty.unit) → den (Ty.pair Ty.bool Ty.unit)), f = some h) (af.ret (K.val (Ty.pair Ty.bool Ty.unit) (decide (0 ≤ ixP (prM f) s 0), PUnit.unit)))
theorem mZ (s : den (Ty.slc ab)) (f : den (Ty.fn (Ty.pair ab Ty.unit) (Ty.pair Ty.bool Ty.unit))) : aj iE n6 5000 [] ij (az fb) (Env.of (aF ig (s, f, ()) 0) []) = iC s f := by kernel_rfl
noncomputable abbrev lw : Fx := { fn := g8, ann := { frz := [(1, [1])] } }
noncomputable abbrev lI : a7 := { D := { T := a8, F := [], R := [], ovl := [] }, inl := [] }
noncomputable abbrev tV : bo := .data kU
theorem tv : XOk prog lI := xok ((aI aS aC)) (by kernel_rfl) aK aW aV
noncomputable def lK (s : den (Ty.slc ab)) : af := af.ret (K.val (Ty.pair (Ty.clo c9 (Ty.pair (Ty.ref (Ty.slc ab)) Ty.unit)) Ty.unit) ((s, PUnit.unit), PUnit.unit))
theorem qu (s : den (Ty.slc ab)) : aj lI tV 5000 [] lw (az g8) (Env.of (aF lx (s, ()) 0) []) = lK s := by kernel_rfl
noncomputable abbrev gB : Fx := { fn := f6, ann := { loops := [(2, { keep := [0, 6, 7, 8] })], frz := [(4, [4])] } }
noncomputable abbrev kr : a7 := { D := { T := a8, F := [(bY, bX), (lk, lm)], R := [], ovl := [] }, inl := [] }
noncomputable abbrev w8 : bo := .data pB
theorem GG (h_slices_ContainsFunc_Member : ap prog [] bY bX) (h_ring_Right_1 : ap prog [] lk lm) : XOk prog kr := xok (au (au (aI aS aC) h_ring_Right_1) h_slices_ContainsFunc_Member) (by kernel_rfl) aK aW aV
noncomputable def xh (l : den (Ty.slc ab)) : af := af.loop [] gB (lp f6 2) [(0, K.val (Ty.slc ab) l), (6, K.val (Ty.slc ab) l), (7, K.val ae (lnx ab l)), (8, K.val ae 0)] []
theorem CD (l : den (Ty.slc ab)) : aj kr w8 5000 [] gB (az f6) (Env.of (aF wI (l, ()) 0) []) = xh l := by kernel_rfl
noncomputable def uP (v0 : den (Ty.slc ab)) (v6 : den (Ty.slc ab)) (v7 : den ae) (v8 : den ae) : Env := Env.of [(0, K.val (Ty.slc ab) v0), (6, K.val (Ty.slc ab) v6), (7, K.val ae v7), (8, K.val ae v8)] []
noncomputable def Cd (v0 : den (Ty.slc ab)) (v6 : den (Ty.slc ab)) (v7 : den ae) (v8 : den ae) : af := af.ite (decide (v8 < v7)) (af.req (inB v8 (lnx ab v6)) (af.req (bE 0 v8 (lnx ab v0)) (af.req (∀ (y : den (Ty.pair ab Ty.unit)), True) (af.req (∃ (h : den (Ty.pair ab Ty.unit) → den (Ty.pair Ty.bool Ty.unit)), (some fun (y : den (Ty.pair ab Ty.unit)) ↦ (gn (Prod.fst y) (el ab v6 v8), PUnit.unit)) = some h) (af.ite (bif bif List.any (dV ab v0 0 v8) (prM (some fun (y : den (Ty.pair ab Ty.unit)) ↦ (gn (Prod.fst y) (el ab v6 v8), PUnit.unit))) then true else decide (Prod.fst (el ab v6 v8) < 0) then true else decide (16 ≤ Prod.fst (el ab v6 v8))) (af.ret (K.val (Ty.pair Ty.bool Ty.unit) (false, PUnit.unit))) (af.loop [] gB (lp f6 2) [(0, K.val (Ty.slc ab) v0), (6, K.val (Ty.slc ab) v6), (7, K.val ae v7), (8, K.val ae (IntKind.wrap IntKind.i64 (v8 + 1)))] [])))))) (af.ret (K.val (Ty.pair Ty.bool Ty.unit) (decide (lnx ab v0 ≤ 16), PUnit.unit)))
theorem pn (v0 : den (Ty.slc ab)) (v6 : den (Ty.slc ab)) (v7 : den ae) (v8 : den ae) : aj kr w8 5000 [] gB (lp f6 2) (uP v0 v6 v7 v8) = Cd v0 v6 v7 v8 := by kernel_rfl
noncomputable abbrev dm : Fx := { fn := dr, ann := { loops := [(2, { keep := [0, 7, 8, 9] }), (7, { keep := [0, 4, 7, 8, 9, 24, 25, 26] })] } }
noncomputable abbrev lS : a7 := { D := { T := a8, F := [], R := [], ovl := [] }, inl := [] }
noncomputable abbrev tT : bo := .data rc
theorem lR : XOk prog lS := xok ((aI aS aC)) (by kernel_rfl) aK aW aV
noncomputable def zB (l : den (Ty.slc ab)) : af := af.loop [] dm (lp dr 2) [(0, K.val (Ty.slc ab) l), (7, K.val (Ty.slc ab) l), (8, K.val ae (lnx ab l)), (9, K.val ae 0)] []
theorem Dx (l : den (Ty.slc ab)) : aj lS tT 5000 [] dm (az dr) (Env.of (aF yV (l, ()) 0) []) = zB l := by kernel_rfl
noncomputable def pI (v0 : den (Ty.slc ab)) (v7 : den (Ty.slc ab)) (v8 : den ae) (v9 : den ae) : Env := Env.of [(0, K.val (Ty.slc ab) v0), (7, K.val (Ty.slc ab) v7), (8, K.val ae v8), (9, K.val ae v9)] []
noncomputable def D2 (v0 : den (Ty.slc ab)) (v7 : den (Ty.slc ab)) (v8 : den ae) (v9 : den ae) : af := af.ite (decide (v9 < v8)) (af.req (inB v9 (lnx ab v7)) (af.ite (bif decide (Prod.fst (el ab v7 v9) < 0) then true else decide (15 < Prod.fst (el ab v7 v9))) (af.ret (K.val (Ty.pair Ty.bool Ty.unit) (false, PUnit.unit))) (af.req (bE 0 v9 (lnx ab v0)) (af.loop [] dm (lp dr 7) [(0, K.val (Ty.slc ab) v0), (4, K.ptr 0 ab []), (7, K.val (Ty.slc ab) v7), (8, K.val ae v8), (9, K.val ae v9), (24, K.val (Ty.slc ab) (dV ab v0 0 v9)), (25, K.val ae (lnx ab (dV ab v0 0 v9))), (26, K.val ae 0)] [(0, Bx.cell ab (el ab v7 v9))])))) (af.ret (K.val (Ty.pair Ty.bool Ty.unit) (decide (lnx ab v0 ≤ 16), PUnit.unit)))
theorem p7 (v0 : den (Ty.slc ab)) (v7 : den (Ty.slc ab)) (v8 : den ae) (v9 : den ae) : aj lS tT 5000 [] dm (lp dr 2) (pI v0 v7 v8 v9) = D2 v0 v7 v8 v9 := by kernel_rfl
noncomputable def wC (v0 : den (Ty.slc ab)) (v7 : den (Ty.slc ab)) (v8 : den ae) (v9 : den ae) (v24 : den (Ty.slc ab)) (v25 : den ae) (v26 : den ae) (b0 : den ab) : Env := Env.of [(0, K.val (Ty.slc ab) v0), (4, K.ptr 0 ab []), (7, K.val (Ty.slc ab) v7), (8, K.val ae v8), (9, K.val ae v9), (24, K.val (Ty.slc ab) v24), (25, K.val ae v25), (26, K.val ae v26)] [(0, Bx.cell ab b0)]
noncomputable def DO (v0 : den (Ty.slc ab)) (v7 : den (Ty.slc ab)) (v8 : den ae) (v9 : den ae) (v24 : den (Ty.slc ab)) (v25 : den ae) (v26 : den ae) (b0 : den ab) : af := af.ite (decide (v26 < v25)) (af.req (inB v26 (lnx ab v24)) (af.ite (bif decide (Prod.fst (el ab v24 v26) = Prod.fst b0) then true else eqb tId (Prod.fst (Prod.snd (el ab v24 v26))) (Prod.fst (Prod.snd b0))) (af.ret (K.val (Ty.pair Ty.bool Ty.unit) (false, PUnit.unit))) (af.loop [] dm (lp dr 7) [(0, K.val (Ty.slc ab) v0), (4, K.ptr 0 ab []), (7, K.val (Ty.slc ab) v7), (8, K.val ae v8), (9, K.val ae v9), (24, K.val (Ty.slc ab) v24), (25, K.val ae v25), (26, K.val ae (IntKind.wrap IntKind.i64 (v26 + 1)))] [(0, Bx.cell ab b0)]))) (af.loop [] dm (lp dr 2) [(0, K.val (Ty.slc ab) v0), (7, K.val (Ty.slc ab) v7), (8, K.val ae v8), (9, K.val ae (IntKind.wrap IntKind.i64 (v9 + 1)))] [])
theorem p9 (v0 : den (Ty.slc ab)) (v7 : den (Ty.slc ab)) (v8 : den ae) (v9 : den ae) (v24 : den (Ty.slc ab)) (v25 : den ae) (v26 : den ae) (b0 : den ab) : aj lS tT 5000 [] dm (lp dr 7) (wC v0 v7 v8 v9 v24 v25 v26 b0) = DO v0 v7 v8 v9 v24 v25 v26 b0 := by kernel_rfl
end Go.Proofs.Ytimdnodkabnbfaa
namespace Go.Proofs.Ytimdnodkabnbfaa
open Go Go.RowKit
theorem iL : ap prog [] bY bX :=
 bw (S := bX) (og qj) (fx := ij) nE (by kernel_rfl) (fun h => by cases h) (T := fun x => iC x.1 x.2.1) (fun x => mZ x.1 x.2.1) fun O w0 x _ hp =>
  ⟨hp, _, rfl, by show (decide (0 ≤ ixP (prM x.2.1) x.1 0), ()) = (x.1.any (prM x.2.1), ()); rw [Nv]⟩
theorem tD : ap prog [] fj ff :=
 bw (S := ff) tv (fx := lw) sg (by kernel_rfl) (fun h => by cases h) (T := fun x => lK x.1) (fun x => qu x.1) fun O w0 x _ _ => ⟨_, rfl, rfl⟩
abbrev GRi (O : Nat → Prop) (w0 : World) (y : Bool) := br prog kr (Cx.base O w0) (bP prog O w0 pB fun z => z = (y, ()))
theorem pS : XOk prog kr := GG iL DW
theorem EO (pre : List Mem) (m : Mem) (l : List Mem) : tH pre (m :: l) = ((!(pre.any fun x => gn x m)) && decide (0 ≤ m.1) && decide (m.1 < 16) && tH (pre ++ [m]) l) := rfl
theorem vk {e : Ty} (xs : List (den e)) (i : Nat) : dV e xs 0 (i : Nat) = xs.take i := by
 unfold dV iZ
 rw [Int.toNat_natCast]
 exact List.drop_zero
def ER (O : Nat → Prop) (w0 : World) (l : List Mem) (hm : l.length ≤ maxLen) :=
 PLift.up <| bf (σ := Unit) l.length (fun i _ => tH (l.take i) (l.drop i) = tH [] l)
  (fun i _ => GRi O w0 (cq l) [] gB (lp f6 2) (uP l l (lnx ab l) (i : Nat)))
  (fun i _ hi hs ih => aB pS (pn l l _ _) (by
   rw [List.drop_eq_getElem_cons hi, EO, ← List.take_succ_eq_append_getElem hi] at hs
   have hi' : i ≤ l.length := Nat.le_of_lt hi
   refine ⟨fun _ => ⟨a6 hi, ⟨Int.le_refl _, Int.natCast_nonneg _, Int.ofNat_le.2 hi'⟩, fun _ => trivial, ⟨_, rfl⟩, ?_⟩, fun hc => absurd hi (by rw [bB] at hc; exact of_decide_eq_false hc)⟩
   rw [bM hi, bG hi hm, vk]
   have e1 : ∀ xs : List Mem, (xs.any (prM (some fun y => (gn y.1 l[i], PUnit.unit)))) = xs.any fun x => gn x l[i] := fun xs => rfl
   refine ⟨fun hc => ⟨_, rfl, ?_⟩, fun hc => ih () ?_⟩
   ·rw [e1] at hc
    show (false, ()) = (cq l, ())
    have : tH [] l = false := by
     rw [← hs]
     cases h1 : (l.take i).any (fun x => gn x l[i]) with
     | true => rfl
     | false =>
      rw [h1] at hc
      by_cases h2 : (l[i].1 : Int) < 0
      ·rw [decide_eq_false (show ¬ (0 : Int) ≤ l[i].1 from fun h => absurd h2 (Int.not_lt.2 h))]; rfl
      ·rw [decide_eq_false h2] at hc
       have h3 : (16 : Int) ≤ l[i].1 := of_decide_eq_true hc
       rw [decide_eq_false (show ¬ (l[i].1 : Int) < 16 from Int.not_lt.2 h3)]
       cases decide (0 ≤ l[i].1) <;> rfl
    unfold cq
    rw [this]
    rfl
   ·rw [e1] at hc
    rw [← hs]
    cases h1 : (l.take i).any (fun x => gn x l[i]) with
    | true => rw [h1] at hc; cases hc
    | false =>
     rw [h1] at hc
     by_cases h2 : (l[i].1 : Int) < 0
     ·rw [decide_eq_true h2] at hc; cases hc
     ·rw [decide_eq_false h2] at hc
      have h3 : ¬ (16 : Int) ≤ l[i].1 := of_decide_eq_false hc
      rw [decide_eq_true (show (0 : Int) ≤ l[i].1 from Int.not_lt.1 h2), decide_eq_true (show (l[i].1 : Int) < 16 from Int.not_le.1 h3)]
      rfl))
  (fun _ hs => aB pS (pn l l _ _) (by
   refine ⟨fun hc => absurd (of_decide_eq_true hc) (Int.lt_irrefl _), fun _ => ⟨_, rfl, ?_⟩⟩
   rw [List.drop_length] at hs
   show (decide ((l.length : Int) ≤ 16), ()) = (cq l, ())
   unfold cq
   rw [← hs]
   have : decide ((l.length : Int) ≤ 16) = decide (l.length ≤ 16) := decide_eq_decide.2 (by omega)
   rw [this]
   rfl))
theorem GS : ap prog [] m9 nD :=
 bw (S := nD) pS (fx := gB) EX (by kernel_rfl) (fun _ _ => trivial) (T := fun x => xh x.1) (fun x => CD x.1) fun O w0 x hk _ =>
  (ER O w0 x.1 hk.1.1).down 0 () (Nat.zero_le _) rfl
abbrev GR7 (O : Nat → Prop) (w0 : World) (y : Bool) := br prog lS (Cx.base O w0) (bP prog O w0 rc fun z => z = (y, ()))
def Fa (O : Nat → Prop) (w0 : World) (l : List Mem) (hm : l.length ≤ maxLen) (i : Nat) (hi : i < l.length) (hfalse : ((l.take i).any fun x => gn x l[i]) = true → cq l = false)
    (hnext : ((l.take i).any fun x => gn x l[i]) = false → GR7 O w0 (cq l) [] dm (lp dr 2) (pI l l (lnx ab l) ((i + 1 : Nat) : Int))) :=
  PLift.up <| bf (σ := Unit) (l.take i).length (fun j _ => ((l.take i).take j).any (fun x => gn x l[i]) = false)
    (fun j _ => GR7 O w0 (cq l) [] dm (lp dr 7) (wC l l (lnx ab l) (i : Nat) (l.take i) (lnx ab (l.take i)) (j : Nat) l[i]))
    (fun j _ hj hs ih => aB lR (p9 l l _ _ (l.take i) _ _ l[i]) (by
      have hmj : (l.take i).length ≤ maxLen := Nat.le_trans (by rw [List.length_take]; omega) hm
      refine ⟨fun _ => ⟨a6 hj, ?_⟩, fun hc => absurd hj (by rw [bB] at hc; exact of_decide_eq_false hc)⟩
      rw [bM hj, bG hj hmj]
      refine ⟨fun hc => ⟨_, rfl, ?_⟩, fun hc => ih () ?_⟩
      · have hc : gn (l.take i)[j] l[i] = true := hc
        rw [hfalse (List.any_eq_true.2 ⟨_, List.getElem_mem hj, hc⟩)]
      · have hc : gn (l.take i)[j] l[i] = false := hc
        rw [List.take_succ_eq_append_getElem hj, List.any_append, hs, Bool.false_or, List.any_cons, hc]
        rfl))
    (fun _ hs => aB lR (p9 l l _ _ (l.take i) _ _ l[i]) (by
      rw [List.take_length] at hs
      refine ⟨fun hc => absurd (of_decide_eq_true hc) (Int.lt_irrefl _), fun _ => ?_⟩
      rw [bG hi hm]
      exact hnext hs))
def HD (O : Nat → Prop) (w0 : World) (l : List Mem) (hm : l.length ≤ maxLen) :=
  PLift.up <| bf (σ := Unit) l.length (fun i _ => tH (l.take i) (l.drop i) = tH [] l)
    (fun i _ => GR7 O w0 (cq l) [] dm (lp dr 2) (pI l l (lnx ab l) (i : Nat)))
    (fun i _ hi hs ih => aB lR (p7 l l _ _) (by
      rw [List.drop_eq_getElem_cons hi, EO, ← List.take_succ_eq_append_getElem hi] at hs
      have hi' : i ≤ l.length := Nat.le_of_lt hi
      refine ⟨fun _ => ⟨a6 hi, ?_⟩, fun hc => absurd hi (by rw [bB] at hc; exact of_decide_eq_false hc)⟩
      rw [bM hi, vk]
      refine ⟨fun hc => ⟨_, rfl, ?_⟩, fun hc => ⟨⟨Int.le_refl _, Int.natCast_nonneg _, Int.ofNat_le.2 hi'⟩, ?_⟩⟩
      · show (false, ()) = (cq l, ())
        have : tH [] l = false := by
          rw [← hs]
          by_cases h2 : (l[i].1 : Int) < 0
          · rw [decide_eq_false (show ¬ (0 : Int) ≤ l[i].1 from fun h => absurd h2 (Int.not_lt.2 h))]
            cases (l.take i).any (fun x => gn x l[i]) <;> rfl
          · rw [decide_eq_false h2] at hc
            have h3 : (15 : Int) < l[i].1 := of_decide_eq_true hc
            rw [decide_eq_false (show ¬ (l[i].1 : Int) < 16 from Int.not_lt.2 h3)]
            cases (l.take i).any (fun x => gn x l[i]) <;> cases decide (0 ≤ l[i].1) <;> rfl
        unfold cq
        rw [this]
        rfl
      · have hok : decide (0 ≤ l[i].1) = true ∧ decide (l[i].1 < 16) = true := by
          by_cases h2 : (l[i].1 : Int) < 0
          · rw [decide_eq_true h2] at hc; cases hc
          · rw [decide_eq_false h2] at hc
            have h3 : ¬ (15 : Int) < l[i].1 := of_decide_eq_false hc
            exact ⟨decide_eq_true (show (0 : Int) ≤ l[i].1 from Int.not_lt.1 h2), decide_eq_true (show (l[i].1 : Int) < 16 from Int.lt_of_not_ge h3)⟩
        rw [hok.1, hok.2] at hs
        refine (Fa O w0 l hm i hi (fun h => ?_) (fun h => ih () ?_)).down 0 () (Nat.zero_le _) rfl
        · rw [h] at hs
          unfold cq
          rw [← hs]
          rfl
        · rw [h] at hs
          exact hs))
    (fun _ hs => aB lR (p7 l l _ _) (by
      refine ⟨fun hc => absurd (of_decide_eq_true hc) (Int.lt_irrefl _), fun _ => ⟨_, rfl, ?_⟩⟩
      rw [List.drop_length] at hs
      show (decide ((l.length : Int) ≤ 16), ()) = (cq l, ())
      unfold cq
      rw [← hs]
      have : decide ((l.length : Int) ≤ 16) = decide (l.length ≤ 16) := decide_eq_decide.2 (by omega)
      rw [this]
      rfl))
theorem H7 : ap prog [] oK oJ :=
 bw (S := oJ) lR (fx := dm) G3 (by kernel_rfl) (fun _ _ => trivial) (T := fun x => zB x.1) (fun x => Dx x.1) fun O w0 x hk _ =>
  (HD O w0 x.1 hk.1.1).down 0 () (Nat.zero_le _) rfl
end Go.Proofs.Ytimdnodkabnbfaa
namespace Go.Proofs.Ytimdnodkabnbfaa
open Go Go.RowKit
abbrev OZ (m : Mem) : Int := vB m.2.1
abbrev OkM (l : List Mem) : Prop := ∀ m ∈ l, okT ab m
theorem o3 {m : Mem} (h : okT ab m) : kP m.2.1 := I5 h.2.1
theorem C6 {x m : Mem} (h : x.1 = m.1) : gn x m = true := by unfold gn; rw [decide_eq_true h]; rfl
theorem I3 {x m : Mem} (h : x.2.1 = m.2.1) : gn x m = true := by
 unfold gn
 have : eqb tId x.2.1 m.2.1 = true := (mT (t := tId) rfl _ _).2 h
 rw [this]
 cases decide (x.1 = m.1) <;> rfl
structure RR (l : List Mem) : Prop where
 len : l.length ≤ 16
 no : ∀ m ∈ l, 0 ≤ (m.1 : Int) ∧ (m.1 : Int) < 16
 pw : l.Pairwise fun x m => gn x m = false
theorem RR.at {l : List Mem} (h : RR l) {i j : Nat} (hij : i < j) (hj : j < l.length) : gn l[i] l[j] = false := List.pairwise_iff_getElem.1 h.pw i j (by omega) hj hij
theorem RR.inj {l : List Mem} (h : RR l) {x y : Mem} (hx : x ∈ l) (hy : y ∈ l) (e : x.1 = y.1 ∨ x.2.1 = y.2.1) : x = y := by
 obtain ⟨i, hi, rfl⟩ := List.getElem_of_mem hx
 obtain ⟨j, hj, rfl⟩ := List.getElem_of_mem hy
 rcases Nat.lt_trichotomy i j with h1 | h1 | h1
 ·have := h.at h1 hj
  rcases e with e | e
  ·rw [C6 e] at this; cases this
  ·rw [I3 e] at this; cases this
 ·subst h1; rfl
 ·have := h.at h1 hi
  rcases e with e | e
  ·rw [C6 e.symm] at this; cases this
  ·rw [I3 e.symm] at this; cases this
theorem RR.nodup {l : List Mem} (h : RR l) : l.Nodup := List.Pairwise.imp (fun {x m} hf e => by rw [e, C6 rfl] at hf; cases hf) h.pw
theorem RR.rng {l : List Mem} (h : RR l) (hk : OkM l) : KK OZ fQ l :=
 ⟨fun m hm => tk (o3 (hk m hm)), fun x hx y hy e => h.inj hx hy (.inr (uQ (by rw [(o3 (hk x hx)).1, (o3 (hk y hy)).1]) (o3 (hk x hx)).2 (o3 (hk y hy)).2 e))⟩
theorem Jk {a b : List Int} (ha : kP a) (hb : kP b) : vB (cf a b) = rky fQ (vB a) (vB b) := CM ha hb
end Go.Proofs.Ytimdnodkabnbfaa
namespace Go.Proofs.Ytimdnodkabnbfaa
open Go Go.RowKit
section
variable {l : List Mem}
end
end Go.Proofs.Ytimdnodkabnbfaa
namespace Go.Proofs.Ytimdnodkabnbfaa
open Go Go.RowKit
section
variable {l : List Mem}
theorem RR.sub {l l' : List Mem} (h : RR l) (hs : l'.Sublist l) : RR l' := ⟨Nat.le_trans hs.length_le h.len, fun m hm => h.no m (hs.subset hm), h.pw.sublist hs⟩
end
end Go.Proofs.Ytimdnodkabnbfaa
namespace Go.Proofs.Ytimdnodkabnbfaa
open Go Go.RowKit
end Go.Proofs.Ytimdnodkabnbfaa
namespace Go.Proofs.Ytimdnodkabnbfaa
open Go Go.RowKit
abbrev Nd := den ag
abbrev sfN (n : Nd) : Mem := n.1
abbrev suN (n : Nd) : List Mem := n.2.2.1
abbrev fiN (n : Nd) : List Mem := n.2.2.2.1
def co (m : Mem) : Bool := bif decide (0 ≤ m.1) then decide (m.1 < 16) else false
def AC (no : Int) : List Mem → List Mem → Bool
 | _, [] => true
 | pre, m :: l => bif (bif (bif !co m then true else decide (m.1 = no)) then true else pre.any fun x => decide (x.1 = m.1)) then false else AC no (pre ++ [m]) l
def bL (l : List Mem) (no : Int) : Bool := AC no [] l
def xX (n : Nd) : Bool := bif decide (n.2.1 = noM) then true else bif co n.2.1 then !decide (n.2.1.1 = n.1.1) else false
def u9 (n : Nd) : Bool := bif (bif decide (1 ≤ lnx ab n.2.2.1) then decide (lnx ab n.2.2.1 ≤ 4) else false) then (bif decide (n.2.2.1 = [n.1]) then true else bL n.2.2.1 n.1.1) else false
def aO (n : Nd) : Bool := bif (bif (bif (bif co n.1 then xX n else false) then u9 n else false) then decide (lnx ab n.2.2.2.1 ≤ 16) else false) then bL n.2.2.2.1 n.1.1 else false
def jL (n : Nd) (id : List Int) : Bool := bif (bif aO n then !decide (n.2.1 = noM) else false) then fm id n.2.1.2.1 n.1.2.1 else false
def hH (self id : List Int) (m : Mem) : Bool := bif (bif !decide (m.2.1 = self) then !decide (m.2.1 = id) else false) then fm m.2.1 self id else false
def eC (self : List Int) (b : Mem × Int) (m : Mem) : Mem × Int := bif (bif !decide (b.2 = 0) then true else decide (cY (cf self b.1.2.1) (cf self m.2.1) < 0)) then (m, 0) else b
def cC (id self : List Int) (l : List Mem) : Mem × Int := (l.filter (hH self id)).foldl (eC self) (zero ab, 6)
def cU (n : Nd) (id : List Int) : Mem × Bool × Int :=
 bif !aO n then (zero ab, false, 1) else
 bif fm id n.1.2.1 (el ab n.2.2.1 0).2.1 then (el ab n.2.2.1 0, true, 0) else
 bif !decide ((cC id n.1.2.1 (n.2.2.2.1 ++ n.2.2.1)).2 = 0) then (el ab n.2.2.1 0, false, 0) else
 ((cC id n.1.2.1 (n.2.2.2.1 ++ n.2.2.1)).1, false, 0)
def aJ (self : Int) (nos : List Int) (m : Mem) : Bool := bif !decide (m.1 = self) then nos.any (fun x => decide (x = m.1)) else false
def k8 (n : Nd) (l : List Mem) : List Mem := bif decide (lnx ab l = 0) then [n.1] else l
def eN (n : Nd) (nos : List Int) : Nd :=
 (n.1, (bif (bif !decide (n.2.1 = noM) then aJ n.1.1 nos n.2.1 else false) then noM else n.2.1),
  k8 n (n.2.2.1.filter fun m => !aJ n.1.1 nos m), n.2.2.2.1.filter (fun m => !aJ n.1.1 nos m), ())
def fY (n : Nd) (nos : List Int) : Nd × Int := bif !aO n then (zero ag, 1) else (eN n nos, 0)
def Mf (no : Int) : den (.fn (.pair ab .unit) (.pair .bool .unit)) := some fun y => (decide (y.1.1 = no), ())
noncomputable abbrev fV : bl := ⟨xp, xO, fun _ => (noM, ()), fun _ => True, true⟩
noncomputable abbrev lg : bl := ⟨Ar, zN, fun x => (co x.1, ()), fun _ => True, true⟩
noncomputable abbrev oO : bl := ⟨xP, yx, fun x => (decide (x.1.1 = x.2.1), ()), fun _ => True, true⟩
noncomputable abbrev sk : bl := ⟨Ck, CK, fun x => (Mf x.1, ()), fun _ => True, true⟩
noncomputable abbrev l9 : bl := ⟨uW, oC, fun x => (bL x.1 x.2.1, ()), fun _ => True, true⟩
noncomputable abbrev fA : bl := ⟨lP, gZ, fun x => (decide (x.1 = x.2.1), ()), fun _ => True, true⟩
def ixI (n : Int) : List Int → Int → Int
 | [], _ => -1
 | x :: l, i => bif decide (n = x) then i else ixI n l (i + 1)
noncomputable abbrev gM : bl := ⟨nM, nH, fun x => (ixI x.2.1 x.1 0, ()), fun _ => True, true⟩
noncomputable abbrev fC : bl := ⟨lO, lL, fun x => (List.any x.1 (fun y => decide (y = x.2.1)), ()), fun _ => True, true⟩
noncomputable abbrev dF : bl := ⟨wo, wn, fun x => (aO x.1, ()), fun _ => True, true⟩
noncomputable abbrev oD : bl := ⟨yy, yd, fun x => (jL x.1 x.2.1, ()), fun _ => True, true⟩
noncomputable abbrev mi : bl := ⟨uM, uH, fun x => (aJ (sfN x.2.1).1 x.2.2.1 x.1, ()), fun _ => True, true⟩
noncomputable abbrev oZ : bl := ⟨xB, iM, fun x => ((fY x.1 x.2.1).1, (fY x.1 x.2.1).2, ()), fun _ => True, true⟩
noncomputable abbrev lX : bl := ⟨y4, rn, fun x => ((cU x.1 x.2.1).1, (cU x.1 x.2.1).2.1, (cU x.1 x.2.1).2.2, ()), fun _ => True, true⟩
noncomputable abbrev gN : bl := ⟨nV, nO, fun x => (hH x.2.1 x.2.2.1 x.1, ()), fun _ => True, true⟩
noncomputable abbrev i5 : bl := ⟨qa, lD, fun x => ((cC x.1 x.2.1 x.2.2.1).1, (cC x.1 x.2.1 x.2.2.1).2, ()), fun _ => True, true⟩
@[reducible] def it : fh := ⟨ab, false, .pair (.slc ab) .unit, true, fun _ y => y.1.length ≤ bF, fun _ y => y.1⟩
@[reducible] def t5 : fh := ⟨ab, false, .pair (.slc (.slc ab)) .unit, true, fun _ y => (y.1.flatten : List Mem).length ≤ bF, fun _ y => (y.1.flatten : List Mem)⟩
end Go.Proofs.Ytimdnodkabnbfaa
namespace Go.Proofs.Ytimdnodkabnbfaa
open Go Go.RowKit
noncomputable abbrev xN : Fx := { fn := tC, ann := { } }
noncomputable abbrev zO : a7 := { D := { T := a8, F := [], R := [], ovl := [] }, inl := [] }
noncomputable abbrev H9 : bo := .data xO
theorem Ic : XOk prog zO := xok ((aI aS aC)) (by kernel_rfl) aK aW aV
noncomputable def z3 : af := af.ret (K.val (Ty.pair ab Ty.unit) ((-1, zero (Ty.pair tId Ty.unit)), PUnit.unit))
theorem D3 : aj zO H9 5000 [] xN (az tC) (Env.of (aF xp () 0) []) = z3 := by kernel_rfl
noncomputable abbrev zF : Fx := { fn := vN, ann := { } }
noncomputable abbrev B2 : a7 := { D := { T := a8, F := [], R := [], ovl := [] }, inl := [] }
noncomputable abbrev KJ : bo := .data zN
theorem KN : XOk prog B2 := xok ((aI aS aC)) (by kernel_rfl) aK aW aV
noncomputable def BJ (m : den ab) : af := af.ret (K.val (Ty.pair Ty.bool Ty.unit) (bif decide (0 ≤ Prod.fst m) then decide (Prod.fst m < 16) else false, PUnit.unit))
theorem Fq (m : den ab) : aj B2 KJ 5000 [] zF (az vN) (Env.of (aF Ar (m, ()) 0) []) = BJ m := by kernel_rfl
noncomputable abbrev xV : Fx := { fn := tQ, ann := { } }
noncomputable abbrev z6 : a7 := { D := { T := a8, F := [], R := [], ovl := [] }, inl := [] }
noncomputable abbrev IK : bo := .data yx
theorem IW : XOk prog z6 := xok ((aI aS aC)) (by kernel_rfl) aK aW aV
noncomputable def zV (m : den ab) (no : den (Ty.ref ae)) : af := af.ret (K.val (Ty.pair Ty.bool Ty.unit) (decide (Prod.fst m = no), PUnit.unit))
theorem Dc (m : den ab) (no : den (Ty.ref ae)) : aj z6 IK 5000 [] xV (az tQ) (Env.of (aF xP (m, no, ()) 0) []) = zV m no := by kernel_rfl
noncomputable abbrev BY : Fx := { fn := xi, ann := { frz := [(1, [1])] } }
noncomputable abbrev EB : a7 := { D := { T := a8, F := [(oQ, oO)], R := [], ovl := [] }, inl := [] }
noncomputable abbrev Ma : bo := .data CK
theorem KS (h_node_of_1 : ap prog [] oQ oO) : XOk prog EB := xok (au (aI aS aC) h_node_of_1) (by kernel_rfl) aK aW aV
noncomputable def Eg (no : den ae) : af := af.req (∀ (y : den (Ty.pair ab Ty.unit)), True) (af.ret (K.val (Ty.pair (Ty.fn (Ty.pair ab Ty.unit) (Ty.pair Ty.bool Ty.unit)) Ty.unit) (some fun (y : den (Ty.pair ab Ty.unit)) ↦ (decide (Prod.fst (Prod.fst y) = no), PUnit.unit), PUnit.unit)))
theorem Gt (no : den ae) : aj EB Ma 5000 [] BY (az xi) (Env.of (aF Ck (no, ()) 0) []) = Eg no := by kernel_rfl
noncomputable abbrev f5 : Fx := { fn := fF, ann := { loops := [(2, { keep := [0, 1, 7, 8, 9] })] } }
noncomputable abbrev jh : a7 := { D := { T := a8, F := [(lq, lg), (sZ, sk), (bY, bX)], R := [], ovl := [] }, inl := [] }
noncomputable abbrev wx : bo := .data oC
theorem FC (h_node_may : ap prog [] lq lg) (h_node_of : ap prog [] sZ sk) (h_slices_ContainsFunc_Member : ap prog [] bY bX) : XOk prog jh := xok (au (au (au (aI aS aC) h_slices_ContainsFunc_Member) h_node_of) h_node_may) (by kernel_rfl) aK aW aV
noncomputable def wD (l : den (Ty.slc ab)) (no : den ae) : af := af.loop [] f5 (lp fF 2) [(0, K.val (Ty.slc ab) l), (1, K.val ae no), (7, K.val (Ty.slc ab) l), (8, K.val ae (lnx ab l)), (9, K.val ae 0)] []
theorem AJ (l : den (Ty.slc ab)) (no : den ae) : aj jh wx 5000 [] f5 (az fF) (Env.of (aF uW (l, no, ()) 0) []) = wD l no := by kernel_rfl
noncomputable def s5 (v0 : den (Ty.slc ab)) (v1 : den ae) (v7 : den (Ty.slc ab)) (v8 : den ae) (v9 : den ae) : Env := Env.of [(0, K.val (Ty.slc ab) v0), (1, K.val ae v1), (7, K.val (Ty.slc ab) v7), (8, K.val ae v8), (9, K.val ae v9)] []
noncomputable def A8 (v0 : den (Ty.slc ab)) (v1 : den ae) (v7 : den (Ty.slc ab)) (v8 : den ae) (v9 : den ae) : af := af.ite (decide (v9 < v8)) (af.req (inB v9 (lnx ab v7)) (af.req True (af.req (cG [(bif !co (el ab v7 v9) then true else decide (Prod.fst (el ab v7 v9) = v1), false)] (bE 0 v9 (lnx ab v0))) (af.req (cG [(bif !co (el ab v7 v9) then true else decide (Prod.fst (el ab v7 v9) = v1), false)] True) (af.req (cG [(bif !co (el ab v7 v9) then true else decide (Prod.fst (el ab v7 v9) = v1), false)] (∃ (h : den (Ty.pair ab Ty.unit) → den (Ty.pair Ty.bool Ty.unit)), Mf (Prod.fst (el ab v7 v9)) = some h)) (af.ite (bif bif !co (el ab v7 v9) then true else decide (Prod.fst (el ab v7 v9) = v1) then true else List.any (dV ab v0 0 v9) (prM (Mf (Prod.fst (el ab v7 v9))))) (af.ret (K.val (Ty.pair Ty.bool Ty.unit) (false, PUnit.unit))) (af.loop [] f5 (lp fF 2) [(0, K.val (Ty.slc ab) v0), (1, K.val ae v1), (7, K.val (Ty.slc ab) v7), (8, K.val ae v8), (9, K.val ae (IntKind.wrap IntKind.i64 (v9 + 1)))] []))))))) (af.ret (K.val (Ty.pair Ty.bool Ty.unit) (true, PUnit.unit)))
theorem nI (v0 : den (Ty.slc ab)) (v1 : den ae) (v7 : den (Ty.slc ab)) (v8 : den ae) (v9 : den ae) : aj jh wx 5000 [] f5 (lp fF 2) (s5 v0 v1 v7 v8 v9) = A8 v0 v1 v7 v8 v9 := by kernel_rfl
noncomputable abbrev cS : Fx := { fn := cy, ann := { loops := [(4, { keep := [0, 1, 12, 13] })] } }
noncomputable abbrev fu : a7 := { D := { T := a8, F := [], R := [], ovl := [] }, inl := [] }
noncomputable abbrev mP : bo := .data gZ
theorem iK : XOk prog fu := xok ((aI aS aC)) (by kernel_rfl) aK aW aV
noncomputable def mX (a : den (Ty.slc ab)) (b : den (Ty.slc ab)) : af := af.ite (!decide (lnx ab a = lnx ab b)) (af.ret (K.val (Ty.pair Ty.bool Ty.unit) (false, PUnit.unit))) (af.loop [] cS (lp cy 4) [(0, K.val (Ty.slc ab) a), (1, K.val (Ty.slc ab) b), (12, K.val ae (lnx ab a)), (13, K.val ae 0)] [])
theorem r6 (a : den (Ty.slc ab)) (b : den (Ty.slc ab)) : aj fu mP 5000 [] cS (az cy) (Env.of (aF lP (a, b, ()) 0) []) = mX a b := by kernel_rfl
noncomputable def ly (v0 : den (Ty.slc ab)) (v1 : den (Ty.slc ab)) (v12 : den ae) (v13 : den ae) : Env := Env.of [(0, K.val (Ty.slc ab) v0), (1, K.val (Ty.slc ab) v1), (12, K.val ae v12), (13, K.val ae v13)] []
noncomputable def rG (v0 : den (Ty.slc ab)) (v1 : den (Ty.slc ab)) (v12 : den ae) (v13 : den ae) : af := af.ite (decide (v13 < v12)) (af.req (inB v13 (lnx ab v0)) (af.req (inB v13 (lnx ab v1)) (af.ite (!eqb ab (el ab v0 v13) (el ab v1 v13)) (af.ret (K.val (Ty.pair Ty.bool Ty.unit) (false, PUnit.unit))) (af.loop [] cS (lp cy 4) [(0, K.val (Ty.slc ab) v0), (1, K.val (Ty.slc ab) v1), (12, K.val ae v12), (13, K.val ae (IntKind.wrap IntKind.i64 (v13 + 1)))] [])))) (af.ret (K.val (Ty.pair Ty.bool Ty.unit) (true, PUnit.unit)))
theorem iQ (v0 : den (Ty.slc ab)) (v1 : den (Ty.slc ab)) (v12 : den ae) (v13 : den ae) : aj fu mP 5000 [] cS (lp cy 4) (ly v0 v1 v12 v13) = rG v0 v1 v12 v13 := by kernel_rfl
noncomputable abbrev dC : Fx := { fn := dc, ann := { loops := [(2, { keep := [0, 1, 7, 8] })] } }
noncomputable abbrev kp : a7 := { D := { T := a8, F := [], R := [], ovl := [] }, inl := [] }
noncomputable abbrev pr : bo := .data nH
theorem kR : XOk prog kp := xok ((aI aS aC)) (by kernel_rfl) aK aW aV
noncomputable def o2 (s : den (Ty.slc ae)) (v : den ae) : af := af.loop [] dC (lp dc 2) [(0, K.val (Ty.slc ae) s), (1, K.val ae v), (7, K.val ae (lnx ae s)), (8, K.val ae 0)] []
theorem uF (s : den (Ty.slc ae)) (v : den ae) : aj kp pr 5000 [] dC (az dc) (Env.of (aF nM (s, v, ()) 0) []) = o2 s v := by kernel_rfl
noncomputable def nt (v0 : den (Ty.slc ae)) (v1 : den ae) (v7 : den ae) (v8 : den ae) : Env := Env.of [(0, K.val (Ty.slc ae) v0), (1, K.val ae v1), (7, K.val ae v7), (8, K.val ae v8)] []
noncomputable def uA (v0 : den (Ty.slc ae)) (v1 : den ae) (v7 : den ae) (v8 : den ae) : af := af.ite (decide (v8 < v7)) (af.req (inB v8 (lnx ae v0)) (af.ite (decide (v1 = el ae v0 v8)) (af.ret (K.val (Ty.pair ae Ty.unit) (v8, PUnit.unit))) (af.loop [] dC (lp dc 2) [(0, K.val (Ty.slc ae) v0), (1, K.val ae v1), (7, K.val ae v7), (8, K.val ae (IntKind.wrap IntKind.i64 (v8 + 1)))] []))) (af.ret (K.val (Ty.pair ae Ty.unit) (-1, PUnit.unit)))
theorem kh (v0 : den (Ty.slc ae)) (v1 : den ae) (v7 : den ae) (v8 : den ae) : aj kp pr 5000 [] dC (lp dc 2) (nt v0 v1 v7 v8) = uA v0 v1 v7 v8 := by kernel_rfl
noncomputable abbrev lW : Fx := { fn := iB, ann := { } }
noncomputable abbrev mI : a7 := { D := { T := a8, F := [(gO, gM)], R := [], ovl := [] }, inl := [] }
noncomputable abbrev uN : bo := .data lL
theorem ul (h_slices_Index_int : ap prog [] gO gM) : XOk prog mI := xok (au (aI aS aC) h_slices_Index_int) (by kernel_rfl) aK aW aV
noncomputable def mV (s : den (Ty.slc ae)) (v : den ae) : af := af.req True (af.ret (K.val (Ty.pair Ty.bool Ty.unit) (decide (0 ≤ ixI v s 0), PUnit.unit)))
theorem ry (s : den (Ty.slc ae)) (v : den ae) : aj mI uN 5000 [] lW (az iB) (Env.of (aF lO (s, v, ()) 0) []) = mV s v := by kernel_rfl
noncomputable abbrev wR : Fx := { fn := rU, ann := { } }
noncomputable abbrev yt : a7 := { D := { T := a8, F := [(fU, fV), (lq, lg), (mm, l9), (ft, fA)], R := [], ovl := [] }, inl := [] }
noncomputable abbrev GA : bo := .data wn
theorem GV (h_node_none : ap prog [] fU fV) (h_node_may : ap prog [] lq lg) (h_node_unlike : ap prog [] mm l9) (h_slices_Equal_Member : ap prog [] ft fA) : XOk prog yt := xok (au (au (au (au (aI aS aC) h_slices_Equal_Member) h_node_unlike) h_node_may) h_node_none) (by kernel_rfl) aK aW aV
noncomputable def xb (n : den ag) : af := af.req True (af.req (cG [(eqb ab (Prod.fst (Prod.snd n)) noM, false)] True) (af.req True (af.req (cG [(bif decide (1 ≤ lnx ab (Prod.fst (Prod.snd (Prod.snd n)))) then decide (lnx ab (Prod.fst (Prod.snd (Prod.snd n))) ≤ 4) else false, true), (decide (Prod.fst (Prod.snd (Prod.snd n)) = List.set (List.replicate 1 (zero ab)) 0 (Prod.fst n)), false)] True) (af.req True (af.req (cG [(bif bif bif co (Prod.fst n) then bif eqb ab (Prod.fst (Prod.snd n)) noM then true else bif co (Prod.fst (Prod.snd n)) then !decide (Prod.fst (Prod.fst (Prod.snd n)) = Prod.fst (Prod.fst n)) else false else false then bif bif decide (1 ≤ lnx ab (Prod.fst (Prod.snd (Prod.snd n)))) then decide (lnx ab (Prod.fst (Prod.snd (Prod.snd n))) ≤ 4) else false then bif decide (Prod.fst (Prod.snd (Prod.snd n)) = List.set (List.replicate 1 (zero ab)) 0 (Prod.fst n)) then true else bL (Prod.fst (Prod.snd (Prod.snd n))) (Prod.fst (Prod.fst n)) else false else false then decide (lnx ab (Prod.fst (Prod.snd (Prod.snd (Prod.snd n)))) ≤ 16) else false, true)] True) (af.ret (K.val (Ty.pair Ty.bool Ty.unit) (bif bif bif bif co (Prod.fst n) then bif eqb ab (Prod.fst (Prod.snd n)) noM then true else bif co (Prod.fst (Prod.snd n)) then !decide (Prod.fst (Prod.fst (Prod.snd n)) = Prod.fst (Prod.fst n)) else false else false then bif bif decide (1 ≤ lnx ab (Prod.fst (Prod.snd (Prod.snd n)))) then decide (lnx ab (Prod.fst (Prod.snd (Prod.snd n))) ≤ 4) else false then bif decide (Prod.fst (Prod.snd (Prod.snd n)) = List.set (List.replicate 1 (zero ab)) 0 (Prod.fst n)) then true else bL (Prod.fst (Prod.snd (Prod.snd n))) (Prod.fst (Prod.fst n)) else false else false then decide (lnx ab (Prod.fst (Prod.snd (Prod.snd (Prod.snd n)))) ≤ 16) else false then bL (Prod.fst (Prod.snd (Prod.snd (Prod.snd n)))) (Prod.fst (Prod.fst n)) else false, PUnit.unit))))))))
theorem B1 (n : den ag) : aj yt GA 5000 [] wR (az rU) (Env.of (aF wo (n, ()) 0) []) = xb n := by kernel_rfl
noncomputable abbrev w7 : Fx := { fn := tu, ann := { } }
noncomputable abbrev z8 : a7 := { D := { T := a8, F := [(dD, dF), (fU, fV), (gL, i7)], R := [], ovl := [] }, inl := [] }
noncomputable abbrev IB : bo := .data yd
theorem H3 (h_node_Right : ap prog [] dD dF) (h_node_none : ap prog [] fU fV) (h_ident_In : ap prog [] gL i7) : XOk prog z8 := xok (au (au (au (aI aS aC) h_ident_In) h_node_none) h_node_Right) (by kernel_rfl) aK aW aV
noncomputable def Aw (n : den ag) (id : den tId) : af := af.req True (af.req (cG [(aO n, true)] True) (af.req (cG [(bif aO n then !eqb ab (Prod.fst (Prod.snd n)) noM else false, true)] True) (af.ret (K.val (Ty.pair Ty.bool Ty.unit) (bif bif aO n then !eqb ab (Prod.fst (Prod.snd n)) noM else false then fm id (Prod.fst (Prod.snd (Prod.fst (Prod.snd n)))) (Prod.fst (Prod.snd (Prod.fst n))) else false, PUnit.unit)))))
theorem Dg (n : den ag) (id : den tId) : aj z8 IB 5000 [] w7 (az tu) (Env.of (aF yy (n, id, ()) 0) []) = Aw n id := by kernel_rfl
noncomputable abbrev uX : Fx := { fn := pX, ann := { } }
noncomputable abbrev wE : a7 := { D := { T := a8, F := [(fD, fC)], R := [], ovl := [] }, inl := [] }
noncomputable abbrev Ff : bo := .data uH
theorem ET (h_slices_Contains_int : ap prog [] fD fC) : XOk prog wE := xok (au (aI aS aC) h_slices_Contains_int) (by kernel_rfl) aK aW aV
noncomputable def wy (m : den ab) (n : den (Ty.ref ag)) (nos : den (Ty.ref (Ty.slc ae))) : af := af.req (cG [(!decide (Prod.fst m = Prod.fst (Prod.fst n)), true)] True) (af.ret (K.val (Ty.pair Ty.bool Ty.unit) (bif !decide (Prod.fst m = Prod.fst (Prod.fst n)) then List.any nos fun (y : den (Ty.int IntKind.i64)) ↦ decide (y = Prod.fst m) else false, PUnit.unit)))
theorem AA (m : den ab) (n : den (Ty.ref ag)) (nos : den (Ty.ref (Ty.slc ae))) : aj wE Ff 5000 [] uX (az pX) (Env.of (aF uM (m, n, nos, ()) 0) []) = wy m n nos := by kernel_rfl
noncomputable abbrev nP : Fx := { fn := kg, ann := { } }
noncomputable abbrev ph : a7 := { D := { T := a8, F := [(gL, i7)], R := [], ovl := [] }, inl := [] }
noncomputable abbrev yb : bo := .data nO
theorem xd (h_ident_In : ap prog [] gL i7) : XOk prog ph := xok (au (aI aS aC) h_ident_In) (by kernel_rfl) aK aW aV
noncomputable def o8 (m : den ab) (self : den (Ty.ref tId)) (id : den (Ty.ref tId)) : af := af.req (cG [(bif !eqb tId (Prod.fst (Prod.snd m)) self then !eqb tId (Prod.fst (Prod.snd m)) id else false, true)] True) (af.ret (K.val (Ty.pair Ty.bool Ty.unit) (bif bif !eqb tId (Prod.fst (Prod.snd m)) self then !eqb tId (Prod.fst (Prod.snd m)) id else false then fm (Prod.fst (Prod.snd m)) self id else false, PUnit.unit)))
theorem uT (m : den ab) (self : den (Ty.ref tId)) (id : den (Ty.ref tId)) : aj ph yb 5000 [] nP (az kg) (Env.of (aF nV (m, self, id, ()) 0) []) = o8 m self id := by kernel_rfl
noncomputable abbrev lG : Fx := { fn := iH, ann := { }, own := [5] }
noncomputable abbrev mR : a7 := { D := { T := a8, F := [], R := [], ovl := [] }, inl := [] }
noncomputable abbrev u3 : bo := .row (ab)
theorem u2 : XOk prog mR := xok ((aI aS aC)) (by kernel_rfl) aK aW aV
noncomputable def mH (s : den (Ty.slc ab)) : af := af.all Bool (fun (c : Bool) ↦ c = true → s = []) fun (q1 : Bool) ↦ af.ite q1 (af.ret (K.val (Ty.slc ab) [])) (af.req (List.length (List.replicate 0 (zero ab) ++ s) ≤ bF) (af.req (vok 0 (List.length (List.replicate 0 (zero ab) ++ s)) (List.length (List.replicate 0 (zero ab) ++ s))) (af.ret (K.val (Ty.slc ab) (ml ab (List.replicate 0 (zero ab) ++ s) 0 (List.length (List.replicate 0 (zero ab) ++ s)))))))
theorem rW (s : den (Ty.slc ab)) : aj mR u3 5000 [] lG (az iH) (Env.of (aF (Ty.pair (Ty.slc ab) Ty.unit) (s, ()) 0) []) = mH s := by kernel_rfl
end Go.Proofs.Ytimdnodkabnbfaa
namespace Go.Proofs.Ytimdnodkabnbfaa
open Go Go.RowKit
theorem tZ : ap prog [] fU fV :=
 bw (S := fV) Ic (fx := xN) F5 (by kernel_rfl) (fun _ _ => trivial) (T := fun _ => z3) (fun _ => D3) fun O w0 x _ _ => ⟨_, rfl, rfl⟩
theorem B8 : ap prog [] lq lg :=
 bw (S := lg) KN (fx := zF) H1 (by kernel_rfl) (fun _ _ => trivial) (T := fun x => BJ x.1) (fun x => Fq x.1) fun O w0 x _ _ => ⟨_, rfl, rfl⟩
theorem IU : ap prog [] oQ oO :=
 bw (S := oO) IW (fx := xV) Hq (by kernel_rfl) (fun _ _ => trivial) (T := fun x => zV x.1 x.2.1) (fun x => Dc x.1 x.2.1) fun O w0 x _ _ => ⟨_, rfl, rfl⟩
theorem Lr : ap prog [] sZ sk :=
 bw (S := sk) (KS IU) (fx := BY) KI (by kernel_rfl) (fun _ _ => trivial) (T := fun x => Eg x.1) (fun x => Gt x.1) fun O w0 x _ _ => ⟨fun _ => trivial, _, rfl, rfl⟩
abbrev GUl (O : Nat → Prop) (w0 : World) (y : Bool) := br prog jh (Cx.base O w0) (bP prog O w0 oC fun z => z = (y, ()))
theorem xw (no : Int) (pre : List Mem) (m : Mem) (l : List Mem) : AC no pre (m :: l) = bif (bif (bif !co m then true else decide (m.1 = no)) then true else pre.any fun x => decide (x.1 = m.1)) then false else AC no (pre ++ [m]) l := rfl
theorem nX : XOk prog jh := FC B8 Lr iL
def Dh (O : Nat → Prop) (w0 : World) (l : List Mem) (no : Int) (hm : l.length ≤ maxLen) :=
 PLift.up <| bf (σ := Unit) l.length (fun i _ => AC no (l.take i) (l.drop i) = bL l no)
  (fun i _ => GUl O w0 (bL l no) [] f5 (lp fF 2) (s5 l no l (lnx ab l) (i : Nat)))
  (fun i _ hi hs ih => aB nX (nI l no l _ _) (by
   rw [List.drop_eq_getElem_cons hi, xw, ← List.take_succ_eq_append_getElem hi] at hs
   have hi' : i ≤ l.length := Nat.le_of_lt hi
   refine ⟨fun _ => ⟨a6 hi, trivial, fun _ => ⟨Int.le_refl _, Int.natCast_nonneg _, Int.ofNat_le.2 hi'⟩, fun _ => trivial, fun _ => ⟨_, rfl⟩, ?_⟩, fun hc => absurd hi (by rw [bB] at hc; exact of_decide_eq_false hc)⟩
   rw [bM hi, bG hi hm, vk]
   refine ⟨fun hc => ⟨_, rfl, ?_⟩, fun hc => ih () ?_⟩
   ·have hc : (bif (bif !co l[i] then true else decide (l[i].1 = no)) then true else (l.take i).any fun x => decide (x.1 = l[i].1)) = true := hc
    rw [hc] at hs
    exact Prod.ext hs rfl
   ·have hc : (bif (bif !co l[i] then true else decide (l[i].1 = no)) then true else (l.take i).any fun x => decide (x.1 = l[i].1)) = false := hc
    rw [hc] at hs
    exact hs))
  (fun _ hs => aB nX (nI l no l _ _) (by
   refine ⟨fun hc => absurd (of_decide_eq_true hc) (Int.lt_irrefl _), fun _ => ⟨_, rfl, Prod.ext ?_ rfl⟩⟩
   rw [List.drop_length] at hs
   exact hs))
theorem Fe : ap prog [] mm l9 :=
 bw (S := l9) nX (fx := f5) DH (by kernel_rfl) (fun _ _ => trivial) (T := fun x => wD x.1 x.2.1) (fun x => AJ x.1 x.2.1) fun O w0 x hk _ =>
  (Dh O w0 x.1 x.2.1 hk.1.1).down 0 () (Nat.zero_le _) rfl
abbrev GEq (O : Nat → Prop) (w0 : World) (y : Bool) := br prog fu (Cx.base O w0) (bP prog O w0 gZ fun z => z = (y, ()))
def tG (O : Nat → Prop) (w0 : World) (a b : List Mem) (hl : a.length = b.length) (hm : a.length ≤ maxLen) :=
 PLift.up <| bf (σ := Unit) a.length (fun i _ => decide (a.drop i = b.drop i) = decide (a = b))
  (fun i _ => GEq O w0 (decide (a = b)) [] cS (lp cy 4) (ly a b (lnx ab a) (i : Nat)))
  (fun i _ hi hs ih => aB iK (iQ a b _ _) (by
   have hi2 : i < b.length := by omega
   rw [List.drop_eq_getElem_cons hi, List.drop_eq_getElem_cons hi2] at hs
   refine ⟨fun _ => ⟨a6 hi, a6 hi2, ?_⟩, fun hc => absurd hi (by rw [bB] at hc; exact of_decide_eq_false hc)⟩
   rw [bM hi, bM hi2, bG hi hm, iI]
   refine ⟨fun hc => ⟨_, rfl, Prod.ext ?_ rfl⟩, fun hc => ih () ?_⟩
   ·have hne : ¬ a[i] = b[i] := by simpa using hc
    rw [← hs]
    exact (decide_eq_false fun e => hne (List.cons.inj e).1).symm
   ·have he : a[i] = b[i] := by simpa using hc
    rw [← hs]
    exact decide_eq_decide.2 ⟨fun e => by rw [he, e], fun e => (List.cons.inj e).2⟩))
  (fun _ hs => aB iK (iQ a b _ _) (by
   refine ⟨fun hc => absurd (of_decide_eq_true hc) (Int.lt_irrefl _), fun _ => ⟨_, rfl, Prod.ext ?_ rfl⟩⟩
   rw [List.drop_length, hl, List.drop_length] at hs
   rw [← hs]
   rfl))
theorem u4 : ap prog [] ft fA :=
 bw (S := fA) iK (fx := cS) tA (by kernel_rfl) (fun _ _ => trivial) (T := fun x => mX x.1 x.2.1) (fun x => r6 x.1 x.2.1) fun O w0 x hk _ => by
  obtain ⟨a, b, ⟨⟩⟩ := x
  refine ⟨fun h => ⟨_, rfl, Prod.ext ?_ rfl⟩, fun h => ?_⟩
  ·have h : (!decide (((a.length : Nat) : Int) = (b.length : Nat))) = true := h
   have hne : ¬ a.length = b.length := fun e => by rw [e] at h; simp at h
   exact (decide_eq_false fun e => hne (congrArg List.length e)).symm
  ·have h : (!decide (((a.length : Nat) : Int) = (b.length : Nat))) = false := h
   have hl : a.length = b.length := by
    have : decide (((a.length : Nat) : Int) = (b.length : Nat)) = true := by simpa using h
    exact Int.ofNat.inj (of_decide_eq_true this)
   exact (tG O w0 a b hl hk.1.1).down 0 () (Nat.zero_le _) rfl
theorem Jr (n : Int) : ∀ (l : List Int) (i : Int), 0 ≤ i → decide (0 ≤ ixI n l i) = l.any fun y => decide (y = n)
 | [], _, _ => rfl
 | x :: l, i, hi => by
  show decide (0 ≤ (bif decide (n = x) then i else ixI n l (i + 1))) = (decide (x = n) || l.any fun y => decide (y = n))
  by_cases h : n = x
  ·rw [decide_eq_true h, decide_eq_true h.symm]
   exact decide_eq_true hi
  ·rw [decide_eq_false h, decide_eq_false (show ¬ x = n from fun e => h e.symm), Bool.false_or]
   exact Jr n l (i + 1) (by omega)
def w6 (O : Nat → Prop) (w0 : World) (l : List Int) (n y : Int) (hm : l.length ≤ maxLen) :=
 PLift.up <| bf (σ := Unit) l.length (fun i _ => ixI n (l.drop i) (i : Nat) = y)
  (fun i _ => GIx O w0 y [] dC (lp dc 2) (nt l n (lnx ae l) (i : Nat)))
  (fun i _ hi hs ih => aB kR (kh l n _ _) (by
   rw [List.drop_eq_getElem_cons hi] at hs
   have hs : (bif decide (n = l[i]) then ((i : Nat) : Int) else ixI n (l.drop (i + 1)) ((i : Nat) + 1)) = y := hs
   refine ⟨fun _ => ⟨a6 hi, ?_⟩, fun hc => absurd hi (by rw [bB (e := ae)] at hc; exact of_decide_eq_false hc)⟩
   rw [bM (e := ae) hi, bG hi hm]
   refine ⟨fun hc => ⟨_, rfl, Prod.ext ?_ rfl⟩, fun hc => ih () ?_⟩
   ·have hc : decide (n = l[i]) = true := hc
    rw [hc] at hs
    exact hs
   ·have hc : decide (n = l[i]) = false := hc
    rw [hc] at hs
    exact hs))
  (fun _ hs => aB kR (kh l n _ _) (by
   refine ⟨fun hc => absurd (of_decide_eq_true hc) (Int.lt_irrefl _), fun _ => ⟨_, rfl, Prod.ext ?_ rfl⟩⟩
   rw [List.drop_length] at hs
   exact hs))
theorem yu : ap prog [] gO gM :=
 bw (S := gM) kR (fx := dC) w4 (by kernel_rfl) (fun _ _ => trivial) (T := fun x => o2 x.1 x.2.1) (fun x => uF x.1 x.2.1) fun O w0 x hk _ =>
  (w6 O w0 x.1 x.2.1 _ hk.1.1).down 0 () (Nat.zero_le _) rfl
theorem uC : ap prog [] fD fC :=
 bw (S := fC) (ul yu) (fx := lW) tO (by kernel_rfl) (fun _ _ => trivial) (T := fun x => mV x.1 x.2.1) (fun x => ry x.1 x.2.1) fun O w0 x _ _ =>
  ⟨trivial, _, rfl, Prod.ext (Jr x.2.1 x.1 0 (Int.le_refl _)) rfl⟩
theorem m4 : ap prog [] dD dF :=
 bw (S := dF) (GV tZ B8 Fe u4) (fx := wR) E9 (by kernel_rfl) (fun _ _ => trivial) (T := fun x => xb x.1) (fun x => B1 x.1) fun O w0 x _ _ => by
  obtain ⟨n, ⟨⟩⟩ := x
  refine ⟨trivial, fun _ => trivial, trivial, fun _ _ => trivial, trivial, fun _ => trivial, _, rfl, Prod.ext ?_ rfl⟩
  show _ = aO n
  unfold aO xX u9
  simp only [iI]
  rfl
theorem Iw : ap prog [] oY oD :=
 bw (S := oD) (H3 m4 tZ vL) (fx := w7) FU (by kernel_rfl) (fun _ _ => trivial) (T := fun x => Aw x.1 x.2.1) (fun x => Dg x.1 x.2.1) fun O w0 x _ _ => by
  obtain ⟨n, id, ⟨⟩⟩ := x
  refine ⟨trivial, fun _ => trivial, fun _ => trivial, _, rfl, Prod.ext ?_ rfl⟩
  show _ = jL n id
  unfold jL
  simp only [iI]
theorem Fr : ap prog [] am mi :=
 bw (S := mi) (ET uC) (fx := uX) Dm (by kernel_rfl) (fun _ _ => trivial) (T := fun x => wy x.1 x.2.1 x.2.2.1) (fun x => AA x.1 x.2.1 x.2.2.1) fun O w0 x _ _ =>
  ⟨fun _ => trivial, _, rfl, rfl⟩
theorem xE : ap prog [] gR gN :=
 bw (S := gN) (xd vL) (fx := nP) wX (by kernel_rfl) (fun _ _ => trivial) (T := fun x => o8 x.1 x.2.1 x.2.2.1) (fun x => uT x.1 x.2.1 x.2.2.1) fun O w0 x _ _ => by
  obtain ⟨m, self, id, ⟨⟩⟩ := x
  refine ⟨fun _ => trivial, _, rfl, Prod.ext ?_ rfl⟩
  show _ = hH self id m
  unfold hH
  rw [mW, mW]
theorem tM : lj prog [] fw it :=
 DE u2 (fx := lG) rfl uc (by kernel_rfl) (T := fun _ y => mH y.1) (fun xs y _ => rW y.1) fun O w0 bk xs y hxl hy hp => by
  obtain ⟨s, ⟨⟩⟩ := y
  refine fun c hc => ⟨fun hx => ?_, fun hx => ?_⟩
  ·show K.val _ _ = K.val _ s
   rw [show s = [] from hc hx]
  ·refine ⟨?_, ?_, ?_⟩
   ·simpa using hp
   ·simp [vok]
   ·show K.val (.slc ab) (ml ab (List.replicate 0 (zero ab) ++ s) 0 (List.length (List.replicate 0 (zero ab) ++ s))) = K.val _ s
    rw [xq _ rfl]; rfl
end Go.Proofs.Ytimdnodkabnbfaa
namespace Go.Proofs.Ytimdnodkabnbfaa
open Go Go.RowKit
noncomputable abbrev uG : Fx := { fn := ny, ann := { } }
noncomputable abbrev aQ : Fx := { fn := aP, ann := { loops := [(3, { keep := [0, 3, 9, 10, 11] }), (11, { keep := [6, 25, 26, 27] })] } }
noncomputable abbrev cp : a7 := { D := { T := a8, F := [], R := [], ovl := [] }, inl := [(nA, uG)] }
noncomputable abbrev dE : bo := .row (ab)
theorem bV : XOk prog cp := xok ((aI aS aC)) (by kernel_rfl) aK (mL uL (by kernel_rfl) aW) aV
noncomputable def lU (s : den (Ty.slc (Ty.slc ab))) : af := af.loop [] aQ (lp aP 3) [(0, K.val (Ty.slc (Ty.slc ab)) s), (3, K.val ae 0), (9, K.val (Ty.slc (Ty.slc ab)) s), (10, K.val ae (lnx (Ty.slc ab) s)), (11, K.val ae 0)] []
theorem qk (s : den (Ty.slc (Ty.slc ab))) : aj cp dE 5000 [] aQ (az aP) (Env.of (aF (Ty.pair (Ty.slc (Ty.slc ab)) Ty.unit) (s, ()) 0) []) = lU s := by kernel_rfl
noncomputable def kV (v0 : den (Ty.slc (Ty.slc ab))) (v3 : den ae) (v9 : den (Ty.slc (Ty.slc ab))) (v10 : den ae) (v11 : den ae) : Env := Env.of [(0, K.val (Ty.slc (Ty.slc ab)) v0), (3, K.val ae v3), (9, K.val (Ty.slc (Ty.slc ab)) v9), (10, K.val ae v10), (11, K.val ae v11)] []
noncomputable def qv (v0 : den (Ty.slc (Ty.slc ab))) (v3 : den ae) (v9 : den (Ty.slc (Ty.slc ab))) (v10 : den ae) (v11 : den ae) : af := af.ite (decide (v11 < v10)) (af.req (inB v11 (lnx (Ty.slc ab) v9)) (af.ite (decide (IntKind.wrap IntKind.i64 (v3 + lnx ab (el (Ty.slc ab) v9 v11)) < 0)) (af.bad (100000 + 1000 * 0 + 0)) (af.loop [] aQ (lp aP 3) [(0, K.val (Ty.slc (Ty.slc ab)) v0), (3, K.val ae (IntKind.wrap IntKind.i64 (v3 + lnx ab (el (Ty.slc ab) v9 v11)))), (9, K.val (Ty.slc (Ty.slc ab)) v9), (10, K.val ae v10), (11, K.val ae (IntKind.wrap IntKind.i64 (v11 + 1)))] []))) (af.ite (decide (v3 < 0)) (af.bad (100000 + 1000 * 0 + 0)) (af.ite (decide (0 < IntKind.wrap IntKind.i64 (v3 - IntKind.wrap IntKind.i64 (0 - 0)))) (af.req (bE 0 0 0) (af.req (0 < IntKind.wrap IntKind.i64 (v3 - IntKind.wrap IntKind.i64 (0 - 0))) (af.req (Int.toNat (IntKind.wrap IntKind.i64 (v3 - IntKind.wrap IntKind.i64 (0 - 0))) ≤ bF) (af.req (vok 0 (List.length (List.replicate (Int.toNat (IntKind.wrap IntKind.i64 (v3 - IntKind.wrap IntKind.i64 (0 - 0)))) (zero ab))) (List.length (List.replicate (Int.toNat (IntKind.wrap IntKind.i64 (v3 - IntKind.wrap IntKind.i64 (0 - 0)))) (zero ab)))) (af.req (bE 0 0 (↑(List.length (List.replicate (Int.toNat (IntKind.wrap IntKind.i64 (v3 - IntKind.wrap IntKind.i64 (0 - 0)))) (zero ab)) - 0) : Int)) (af.loop [] aQ (lp aP 11) [(6, K.vw 0 ab (0 + Int.toNat 0) (Int.toNat 0 - Int.toNat 0)), (25, K.val (Ty.slc (Ty.slc ab)) v0), (26, K.val ae (lnx (Ty.slc ab) v0)), (27, K.val ae 0)] [(0, Bx.row ab (List.replicate (Int.toNat (IntKind.wrap IntKind.i64 (v3 - IntKind.wrap IntKind.i64 (0 - 0)))) (zero ab)))])))))) (af.loop [] aQ (lp aP 11) [(6, K.nilsl), (25, K.val (Ty.slc (Ty.slc ab)) v0), (26, K.val ae (lnx (Ty.slc ab) v0)), (27, K.val ae 0)] [])))
theorem iw (v0 : den (Ty.slc (Ty.slc ab))) (v3 : den ae) (v9 : den (Ty.slc (Ty.slc ab))) (v10 : den ae) (v11 : den ae) : aj cp dE 5000 [] aQ (lp aP 3) (kV v0 v3 v9 v10 v11) = qv v0 v3 v9 v10 v11 := by kernel_rfl
noncomputable def ka (v6 : Nat) (v6_1 : Nat) (v25 : den (Ty.slc (Ty.slc ab))) (v26 : den ae) (v27 : den ae) (b0 : List (den ab)) : Env := Env.of [(6, K.vw 0 ab v6 v6_1), (25, K.val (Ty.slc (Ty.slc ab)) v25), (26, K.val ae v26), (27, K.val ae v27)] [(0, Bx.row ab b0)]
noncomputable def pV (v6 : Nat) (v6_1 : Nat) (v25 : den (Ty.slc (Ty.slc ab))) (v26 : den ae) (v27 : den ae) (b0 : List (den ab)) : af := af.ite (decide (v27 < v26)) (af.req (inB v27 (lnx (Ty.slc ab) v25)) (af.req (vok v6 v6_1 (List.length b0)) (af.req (v6 + v6_1 + List.length (el (Ty.slc ab) v25 v27) ≤ List.length b0) (af.loop [] aQ (lp aP 11) [(6, K.vw 0 ab v6 (v6_1 + List.length (el (Ty.slc ab) v25 v27))), (25, K.val (Ty.slc (Ty.slc ab)) v25), (26, K.val ae v26), (27, K.val ae (IntKind.wrap IntKind.i64 (v27 + 1)))] [(0, Bx.row ab (over b0 (v6 + v6_1) (el (Ty.slc ab) v25 v27)))])))) (af.req (vok v6 v6_1 (List.length b0)) (af.ret (K.val (Ty.slc ab) (ml ab b0 v6 v6_1))))
theorem ie (v6 : Nat) (v6_1 : Nat) (v25 : den (Ty.slc (Ty.slc ab))) (v26 : den ae) (v27 : den ae) (b0 : List (den ab)) : aj cp dE 5000 [] aQ (lp aP 11) (ka v6 v6_1 v25 v26 v27 b0) = pV v6 v6_1 v25 v26 v27 b0 := by kernel_rfl
noncomputable def iS (v25 : den (Ty.slc (Ty.slc ab))) (v26 : den ae) (v27 : den ae) : Env := Env.of [(6, K.nilsl), (25, K.val (Ty.slc (Ty.slc ab)) v25), (26, K.val ae v26), (27, K.val ae v27)] []
noncomputable def nZ (v25 : den (Ty.slc (Ty.slc ab))) (v26 : den ae) (v27 : den ae) : af := af.ite (decide (v27 < v26)) (af.req (inB v27 (lnx (Ty.slc ab) v25)) (af.req (List.length (el (Ty.slc ab) v25 v27) ≤ bF) (af.loop [] aQ (lp aP 11) [(6, K.sl 0 ab), (25, K.val (Ty.slc (Ty.slc ab)) v25), (26, K.val ae v26), (27, K.val ae (IntKind.wrap IntKind.i64 (v27 + 1)))] [(0, Bx.row ab (el (Ty.slc ab) v25 v27))]))) (af.ret (K.val (Ty.slc ab) []))
theorem mY (v25 : den (Ty.slc (Ty.slc ab))) (v26 : den ae) (v27 : den ae) : aj cp dE 5000 [] aQ (lp aP 11) (iS v25 v26 v27) = nZ v25 v26 v27 := by kernel_rfl
noncomputable def iR (v25 : den (Ty.slc (Ty.slc ab))) (v26 : den ae) (v27 : den ae) (b0 : List (den ab)) : Env := Env.of [(6, K.sl 0 ab), (25, K.val (Ty.slc (Ty.slc ab)) v25), (26, K.val ae v26), (27, K.val ae v27)] [(0, Bx.row ab b0)]
noncomputable def n1 (v25 : den (Ty.slc (Ty.slc ab))) (v26 : den ae) (v27 : den ae) (b0 : List (den ab)) : af := af.ite (decide (v27 < v26)) (af.req (inB v27 (lnx (Ty.slc ab) v25)) (af.req (List.length (b0 ++ el (Ty.slc ab) v25 v27) ≤ bF) (af.loop [] aQ (lp aP 11) [(6, K.sl 0 ab), (25, K.val (Ty.slc (Ty.slc ab)) v25), (26, K.val ae v26), (27, K.val ae (IntKind.wrap IntKind.i64 (v27 + 1)))] [(0, Bx.row ab (b0 ++ el (Ty.slc ab) v25 v27))]))) (af.req (vok 0 (List.length b0) (List.length b0)) (af.ret (K.val (Ty.slc ab) (ml ab b0 0 (List.length b0)))))
theorem gl (v25 : den (Ty.slc (Ty.slc ab))) (v26 : den ae) (v27 : den ae) (b0 : List (den ab)) : aj cp dE 5000 [] aQ (lp aP 11) (iR v25 v26 v27 b0) = n1 v25 v26 v27 b0 := by kernel_rfl
noncomputable abbrev ar : Fx := { fn := aq, ann := { loops := [(5, { keep := [0, 1, 5, 6] })], frz := [(1000005, [2, 3, 4, 6])] }, own := [28, 41], share := true }
noncomputable abbrev bz : Fx := { fn := bC, ann := { }, own := [40], share := true }
noncomputable abbrev fT : a7 := { D := { T := a8, F := [(dD, dF), (fU, fV), (am, mi)], R := [(fw, it)], ovl := [] }, inl := [(jy, ar), (cZ, aE)] }
noncomputable abbrev lV : bo := .data iM
theorem HQ (h_node_Right : ap prog [] dD dF) (h_node_none : ap prog [] fU fV) (h_node_Drop_1 : ap prog [] am mi) (h_slices_Clone_Member : lj prog [] fw it) : XOk prog fT := xok (au (au (au (aI aS aC) h_node_Drop_1) h_node_none) h_node_Right) (by kernel_rfl) (Hr h_slices_Clone_Member aK) (mL o7 (by kernel_rfl) (mL jl (by kernel_rfl) aW)) aV
noncomputable def Ak (n : den ag) (nos : den (Ty.slc ae)) : af := af.req True (af.all (den Ty.bool) (fun (q2 : den Ty.bool) ↦ q2 = aO n) fun (q2 : den Ty.bool) ↦ af.ite (!q2) (af.ret (K.val (Ty.pair ag (Ty.pair ae Ty.unit)) (zero (Ty.pair ab (Ty.pair ab (Ty.pair (Ty.slc ab) (Ty.pair (Ty.slc ab) Ty.unit)))), 1, PUnit.unit))) (af.req (List.length (Prod.fst (Prod.snd (Prod.snd n))) ≤ bF) (af.loop [{ fx := ar, todo := ce aq 1 2, dst := some 10, s := ofS [(0, K.sl 0 ab), (1, K.clo am (K.kcons (K.ptr (0 + 1) ag []) (K.kcons (K.ptr (0 + 1 + 1) (Ty.slc ae) []) K.knil)))] }, { fx := bz, todo := ce bC 4 4, dst := some 16, s := ofS [(2, K.ptr (0 + 1) ag []), (3, K.ptr (0 + 1 + 1) (Ty.slc ae) []), (4, K.ptr (0 + 1 + 1 + 1) ag []), (6, K.clo am (K.kcons (K.ptr (0 + 1) ag []) (K.kcons (K.ptr (0 + 1 + 1) (Ty.slc ae) []) K.knil)))] }] aE (lp aH 2) [(0, K.sl 0 ab), (1, K.clo am (K.kcons (K.ptr (0 + 1) ag []) (K.kcons (K.ptr (0 + 1 + 1) (Ty.slc ae) []) K.knil))), (7, K.val ae (lnx ab (Prod.fst (Prod.snd (Prod.snd n))))), (8, K.val ae 0)] [(0, Bx.row ab (Prod.fst (Prod.snd (Prod.snd n)))), (0 + 1, Bx.cell ag n), (0 + 1 + 1, Bx.cell (Ty.slc ae) nos), (0 + 1 + 1 + 1, Bx.cell ag (zero ag))])))
theorem DX (n : den ag) (nos : den (Ty.slc ae)) : aj fT lV 5000 [] bz (az bC) (Env.of (aF xB (n, nos, ()) 0) []) = Ak n nos := by kernel_rfl
noncomputable def fc (v7 : den ae) (v8 : den ae) (b0 : List (den ab)) (b1 : den ag) (b2 : den (Ty.slc ae)) (b3 : den ag) : List bW := [{ fx := ar, todo := ce aq 1 2, dst := some 10, s := ofS [(0, K.sl 0 ab), (1, K.clo am (K.kcons (K.ptr (0 + 1) ag []) (K.kcons (K.ptr (0 + 1 + 1) (Ty.slc ae) []) K.knil)))] }, { fx := bz, todo := ce bC 4 4, dst := some 16, s := ofS [(2, K.ptr (0 + 1) ag []), (3, K.ptr (0 + 1 + 1) (Ty.slc ae) []), (4, K.ptr (0 + 1 + 1 + 1) ag []), (6, K.clo am (K.kcons (K.ptr (0 + 1) ag []) (K.kcons (K.ptr (0 + 1 + 1) (Ty.slc ae) []) K.knil)))] }]
noncomputable def fd (v7 : den ae) (v8 : den ae) (b0 : List (den ab)) (b1 : den ag) (b2 : den (Ty.slc ae)) (b3 : den ag) : Env := Env.of [(0, K.sl 0 ab), (1, K.clo am (K.kcons (K.ptr (0 + 1) ag []) (K.kcons (K.ptr (0 + 1 + 1) (Ty.slc ae) []) K.knil))), (7, K.val ae v7), (8, K.val ae v8)] [(0, Bx.row ab b0), (1, Bx.cell ag b1), (2, Bx.cell (Ty.slc ae) b2), (3, Bx.cell ag b3)]
noncomputable def jT (v7 : den ae) (v8 : den ae) (b0 : List (den ab)) (b1 : den ag) (b2 : den (Ty.slc ae)) (b3 : den ag) : af := af.ite (decide (v8 < v7)) (af.req (inB v8 (lnx ab b0)) (af.req (inB v8 (lnx ab b0)) (af.req True (af.ite (aJ (Prod.fst (Prod.fst b1)) b2 (el ab b0 v8)) (af.ite (decide (v8 = -1)) (af.req (List.length (Prod.fst (Prod.snd (Prod.snd (Prod.snd b1)))) ≤ bF) (af.loop [{ fx := ar, todo := ce aq 1 2, dst := some 10, s := ofS [(0, K.sl 0 ab), (1, K.clo am (K.kcons (K.ptr (0 + 1) ag []) (K.kcons (K.ptr (0 + 1 + 1) (Ty.slc ae) []) K.knil)))] }, { fx := bz, todo := ce bC 5 4, dst := some 22, s := ofS [(2, K.ptr (0 + 1) ag []), (3, K.ptr (0 + 1 + 1) (Ty.slc ae) []), (4, K.ptr (0 + 1 + 1 + 1) ag []), (6, K.clo am (K.kcons (K.ptr (0 + 1) ag []) (K.kcons (K.ptr (0 + 1 + 1) (Ty.slc ae) []) K.knil)))] }] aE (lp aH 2) [(0, K.sl 0 ab), (1, K.clo am (K.kcons (K.ptr (0 + 1) ag []) (K.kcons (K.ptr (0 + 1 + 1) (Ty.slc ae) []) K.knil))), (7, K.val ae (lnx ab (Prod.fst (Prod.snd (Prod.snd (Prod.snd b1)))))), (8, K.val ae 0)] [(0, Bx.row ab (Prod.fst (Prod.snd (Prod.snd (Prod.snd b1))))), (0 + 1, Bx.cell ag (Prod.fst b1, Prod.fst (Prod.snd b1), b0, Prod.snd (Prod.snd (Prod.snd b1)))), (0 + 1 + 1, Bx.cell (Ty.slc ae) b2), (0 + 1 + 1 + 1, Bx.cell ag b3)])) (af.loop [{ fx := bz, todo := ce bC 4 4, dst := some 16, s := ofS [(2, K.ptr (0 + 1) ag []), (3, K.ptr (0 + 1 + 1) (Ty.slc ae) []), (4, K.ptr (0 + 1 + 1 + 1) ag []), (6, K.clo am (K.kcons (K.ptr (0 + 1) ag []) (K.kcons (K.ptr (0 + 1 + 1) (Ty.slc ae) []) K.knil)))] }] ar (lp aq 5) [(0, K.sl 0 ab), (1, K.clo am (K.kcons (K.ptr (0 + 1) ag []) (K.kcons (K.ptr (0 + 1 + 1) (Ty.slc ae) []) K.knil))), (5, K.val ae v8), (6, K.val ae (IntKind.wrap IntKind.i64 (v8 + 1)))] [(0, Bx.row ab b0), (0 + 1, Bx.cell ag b1), (0 + 1 + 1, Bx.cell (Ty.slc ae) b2), (0 + 1 + 1 + 1, Bx.cell ag b3)])) (af.loop [{ fx := ar, todo := ce aq 1 2, dst := some 10, s := ofS [(0, K.sl 0 ab), (1, K.clo am (K.kcons (K.ptr (0 + 1) ag []) (K.kcons (K.ptr (0 + 1 + 1) (Ty.slc ae) []) K.knil)))] }, { fx := bz, todo := ce bC 4 4, dst := some 16, s := ofS [(2, K.ptr (0 + 1) ag []), (3, K.ptr (0 + 1 + 1) (Ty.slc ae) []), (4, K.ptr (0 + 1 + 1 + 1) ag []), (6, K.clo am (K.kcons (K.ptr (0 + 1) ag []) (K.kcons (K.ptr (0 + 1 + 1) (Ty.slc ae) []) K.knil)))] }] aE (lp aH 2) [(0, K.sl 0 ab), (1, K.clo am (K.kcons (K.ptr (0 + 1) ag []) (K.kcons (K.ptr (0 + 1 + 1) (Ty.slc ae) []) K.knil))), (7, K.val ae v7), (8, K.val ae (IntKind.wrap IntKind.i64 (v8 + 1)))] [(0, Bx.row ab b0), (0 + 1, Bx.cell ag b1), (0 + 1 + 1, Bx.cell (Ty.slc ae) b2), (0 + 1 + 1 + 1, Bx.cell ag b3)]))))) (af.ite (decide (-1 = -1)) (af.req (List.length (Prod.fst (Prod.snd (Prod.snd (Prod.snd b1)))) ≤ bF) (af.loop [{ fx := ar, todo := ce aq 1 2, dst := some 10, s := ofS [(0, K.sl 0 ab), (1, K.clo am (K.kcons (K.ptr (0 + 1) ag []) (K.kcons (K.ptr (0 + 1 + 1) (Ty.slc ae) []) K.knil)))] }, { fx := bz, todo := ce bC 5 4, dst := some 22, s := ofS [(2, K.ptr (0 + 1) ag []), (3, K.ptr (0 + 1 + 1) (Ty.slc ae) []), (4, K.ptr (0 + 1 + 1 + 1) ag []), (6, K.clo am (K.kcons (K.ptr (0 + 1) ag []) (K.kcons (K.ptr (0 + 1 + 1) (Ty.slc ae) []) K.knil)))] }] aE (lp aH 2) [(0, K.sl 0 ab), (1, K.clo am (K.kcons (K.ptr (0 + 1) ag []) (K.kcons (K.ptr (0 + 1 + 1) (Ty.slc ae) []) K.knil))), (7, K.val ae (lnx ab (Prod.fst (Prod.snd (Prod.snd (Prod.snd b1)))))), (8, K.val ae 0)] [(0, Bx.row ab (Prod.fst (Prod.snd (Prod.snd (Prod.snd b1))))), (0 + 1, Bx.cell ag (Prod.fst b1, Prod.fst (Prod.snd b1), b0, Prod.snd (Prod.snd (Prod.snd b1)))), (0 + 1 + 1, Bx.cell (Ty.slc ae) b2), (0 + 1 + 1 + 1, Bx.cell ag b3)])) (af.loop [{ fx := bz, todo := ce bC 4 4, dst := some 16, s := ofS [(2, K.ptr (0 + 1) ag []), (3, K.ptr (0 + 1 + 1) (Ty.slc ae) []), (4, K.ptr (0 + 1 + 1 + 1) ag []), (6, K.clo am (K.kcons (K.ptr (0 + 1) ag []) (K.kcons (K.ptr (0 + 1 + 1) (Ty.slc ae) []) K.knil)))] }] ar (lp aq 5) [(0, K.sl 0 ab), (1, K.clo am (K.kcons (K.ptr (0 + 1) ag []) (K.kcons (K.ptr (0 + 1 + 1) (Ty.slc ae) []) K.knil))), (5, K.val ae (-1)), (6, K.val ae (IntKind.wrap IntKind.i64 (-1 + 1)))] [(0, Bx.row ab b0), (0 + 1, Bx.cell ag b1), (0 + 1 + 1, Bx.cell (Ty.slc ae) b2), (0 + 1 + 1 + 1, Bx.cell ag b3)]))
theorem dZ (v7 : den ae) (v8 : den ae) (b0 : List (den ab)) (b1 : den ag) (b2 : den (Ty.slc ae)) (b3 : den ag) : aj fT lV 5000 (fc v7 v8 b0 b1 b2 b3) aE (lp aH 2) (fd v7 v8 b0 b1 b2 b3) = jT v7 v8 b0 b1 b2 b3 := by kernel_rfl
noncomputable def cR (v7 : den ae) (v8 : den ae) (b0 : List (den ab)) (b1 : den ag) (b2 : den (Ty.slc ae)) (b3 : den ag) : List bW := [{ fx := ar, todo := ce aq 1 2, dst := some 10, s := ofS [(0, K.sl 0 ab), (1, K.clo am (K.kcons (K.ptr (0 + 1) ag []) (K.kcons (K.ptr (0 + 1 + 1) (Ty.slc ae) []) K.knil)))] }, { fx := bz, todo := ce bC 5 4, dst := some 22, s := ofS [(2, K.ptr (0 + 1) ag []), (3, K.ptr (0 + 1 + 1) (Ty.slc ae) []), (4, K.ptr (0 + 1 + 1 + 1) ag []), (6, K.clo am (K.kcons (K.ptr (0 + 1) ag []) (K.kcons (K.ptr (0 + 1 + 1) (Ty.slc ae) []) K.knil)))] }]
noncomputable def cQ (v7 : den ae) (v8 : den ae) (b0 : List (den ab)) (b1 : den ag) (b2 : den (Ty.slc ae)) (b3 : den ag) : Env := Env.of [(0, K.sl 0 ab), (1, K.clo am (K.kcons (K.ptr (0 + 1) ag []) (K.kcons (K.ptr (0 + 1 + 1) (Ty.slc ae) []) K.knil))), (7, K.val ae v7), (8, K.val ae v8)] [(0, Bx.row ab b0), (1, Bx.cell ag b1), (2, Bx.cell (Ty.slc ae) b2), (3, Bx.cell ag b3)]
noncomputable def jc (v7 : den ae) (v8 : den ae) (b0 : List (den ab)) (b1 : den ag) (b2 : den (Ty.slc ae)) (b3 : den ag) : af := af.ite (decide (v8 < v7)) (af.req (inB v8 (lnx ab b0)) (af.req (inB v8 (lnx ab b0)) (af.req True (af.ite (aJ (Prod.fst (Prod.fst b1)) b2 (el ab b0 v8)) (af.ite (decide (v8 = -1)) (af.ite (decide (lnx ab (Prod.fst (Prod.snd (Prod.snd b1))) = 0)) (af.req True (af.req (cG [(!eqb ab (Prod.fst (Prod.snd b1)) noM, true)] True) (af.all (den ab) (fun (q6 : den ab) ↦ q6 = noM) fun (q6 : den ab) ↦ af.ite (bif !eqb ab (Prod.fst (Prod.snd b1)) noM then aJ (Prod.fst (Prod.fst b1)) b2 (Prod.fst (Prod.snd b1)) else false) (af.req True (af.all (den ab) (fun (q7 : den ab) ↦ q7 = noM) fun (q7 : den ab) ↦ af.ret (K.val (Ty.pair ag (Ty.pair ae Ty.unit)) ((Prod.fst b1, q7, List.set (List.replicate 1 (zero ab)) 0 (Prod.fst b1), b0, Prod.snd (Prod.snd (Prod.snd (Prod.snd b1)))), 0, PUnit.unit)))) (af.ret (K.val (Ty.pair ag (Ty.pair ae Ty.unit)) ((Prod.fst b1, Prod.fst (Prod.snd b1), List.set (List.replicate 1 (zero ab)) 0 (Prod.fst b1), b0, Prod.snd (Prod.snd (Prod.snd (Prod.snd b1)))), 0, PUnit.unit)))))) (af.req True (af.req (cG [(!eqb ab (Prod.fst (Prod.snd b1)) noM, true)] True) (af.all (den ab) (fun (q6 : den ab) ↦ q6 = noM) fun (q6 : den ab) ↦ af.ite (bif !eqb ab (Prod.fst (Prod.snd b1)) noM then aJ (Prod.fst (Prod.fst b1)) b2 (Prod.fst (Prod.snd b1)) else false) (af.req True (af.all (den ab) (fun (q7 : den ab) ↦ q7 = noM) fun (q7 : den ab) ↦ af.ret (K.val (Ty.pair ag (Ty.pair ae Ty.unit)) ((Prod.fst b1, q7, Prod.fst (Prod.snd (Prod.snd b1)), b0, Prod.snd (Prod.snd (Prod.snd (Prod.snd b1)))), 0, PUnit.unit)))) (af.ret (K.val (Ty.pair ag (Ty.pair ae Ty.unit)) ((Prod.fst b1, Prod.fst (Prod.snd b1), Prod.fst (Prod.snd (Prod.snd b1)), b0, Prod.snd (Prod.snd (Prod.snd (Prod.snd b1)))), 0, PUnit.unit))))))) (af.loop [{ fx := bz, todo := ce bC 5 4, dst := some 22, s := ofS [(2, K.ptr (0 + 1) ag []), (3, K.ptr (0 + 1 + 1) (Ty.slc ae) []), (4, K.ptr (0 + 1 + 1 + 1) ag []), (6, K.clo am (K.kcons (K.ptr (0 + 1) ag []) (K.kcons (K.ptr (0 + 1 + 1) (Ty.slc ae) []) K.knil)))] }] ar (lp aq 5) [(0, K.sl 0 ab), (1, K.clo am (K.kcons (K.ptr (0 + 1) ag []) (K.kcons (K.ptr (0 + 1 + 1) (Ty.slc ae) []) K.knil))), (5, K.val ae v8), (6, K.val ae (IntKind.wrap IntKind.i64 (v8 + 1)))] [(0, Bx.row ab b0), (0 + 1, Bx.cell ag b1), (0 + 1 + 1, Bx.cell (Ty.slc ae) b2), (0 + 1 + 1 + 1, Bx.cell ag b3)])) (af.loop [{ fx := ar, todo := ce aq 1 2, dst := some 10, s := ofS [(0, K.sl 0 ab), (1, K.clo am (K.kcons (K.ptr (0 + 1) ag []) (K.kcons (K.ptr (0 + 1 + 1) (Ty.slc ae) []) K.knil)))] }, { fx := bz, todo := ce bC 5 4, dst := some 22, s := ofS [(2, K.ptr (0 + 1) ag []), (3, K.ptr (0 + 1 + 1) (Ty.slc ae) []), (4, K.ptr (0 + 1 + 1 + 1) ag []), (6, K.clo am (K.kcons (K.ptr (0 + 1) ag []) (K.kcons (K.ptr (0 + 1 + 1) (Ty.slc ae) []) K.knil)))] }] aE (lp aH 2) [(0, K.sl 0 ab), (1, K.clo am (K.kcons (K.ptr (0 + 1) ag []) (K.kcons (K.ptr (0 + 1 + 1) (Ty.slc ae) []) K.knil))), (7, K.val ae v7), (8, K.val ae (IntKind.wrap IntKind.i64 (v8 + 1)))] [(0, Bx.row ab b0), (0 + 1, Bx.cell ag b1), (0 + 1 + 1, Bx.cell (Ty.slc ae) b2), (0 + 1 + 1 + 1, Bx.cell ag b3)]))))) (af.ite (decide (-1 = -1)) (af.ite (decide (lnx ab (Prod.fst (Prod.snd (Prod.snd b1))) = 0)) (af.req True (af.req (cG [(!eqb ab (Prod.fst (Prod.snd b1)) noM, true)] True) (af.all (den ab) (fun (q6 : den ab) ↦ q6 = noM) fun (q6 : den ab) ↦ af.ite (bif !eqb ab (Prod.fst (Prod.snd b1)) noM then aJ (Prod.fst (Prod.fst b1)) b2 (Prod.fst (Prod.snd b1)) else false) (af.req True (af.all (den ab) (fun (q7 : den ab) ↦ q7 = noM) fun (q7 : den ab) ↦ af.ret (K.val (Ty.pair ag (Ty.pair ae Ty.unit)) ((Prod.fst b1, q7, List.set (List.replicate 1 (zero ab)) 0 (Prod.fst b1), b0, Prod.snd (Prod.snd (Prod.snd (Prod.snd b1)))), 0, PUnit.unit)))) (af.ret (K.val (Ty.pair ag (Ty.pair ae Ty.unit)) ((Prod.fst b1, Prod.fst (Prod.snd b1), List.set (List.replicate 1 (zero ab)) 0 (Prod.fst b1), b0, Prod.snd (Prod.snd (Prod.snd (Prod.snd b1)))), 0, PUnit.unit)))))) (af.req True (af.req (cG [(!eqb ab (Prod.fst (Prod.snd b1)) noM, true)] True) (af.all (den ab) (fun (q6 : den ab) ↦ q6 = noM) fun (q6 : den ab) ↦ af.ite (bif !eqb ab (Prod.fst (Prod.snd b1)) noM then aJ (Prod.fst (Prod.fst b1)) b2 (Prod.fst (Prod.snd b1)) else false) (af.req True (af.all (den ab) (fun (q7 : den ab) ↦ q7 = noM) fun (q7 : den ab) ↦ af.ret (K.val (Ty.pair ag (Ty.pair ae Ty.unit)) ((Prod.fst b1, q7, Prod.fst (Prod.snd (Prod.snd b1)), b0, Prod.snd (Prod.snd (Prod.snd (Prod.snd b1)))), 0, PUnit.unit)))) (af.ret (K.val (Ty.pair ag (Ty.pair ae Ty.unit)) ((Prod.fst b1, Prod.fst (Prod.snd b1), Prod.fst (Prod.snd (Prod.snd b1)), b0, Prod.snd (Prod.snd (Prod.snd (Prod.snd b1)))), 0, PUnit.unit))))))) (af.loop [{ fx := bz, todo := ce bC 5 4, dst := some 22, s := ofS [(2, K.ptr (0 + 1) ag []), (3, K.ptr (0 + 1 + 1) (Ty.slc ae) []), (4, K.ptr (0 + 1 + 1 + 1) ag []), (6, K.clo am (K.kcons (K.ptr (0 + 1) ag []) (K.kcons (K.ptr (0 + 1 + 1) (Ty.slc ae) []) K.knil)))] }] ar (lp aq 5) [(0, K.sl 0 ab), (1, K.clo am (K.kcons (K.ptr (0 + 1) ag []) (K.kcons (K.ptr (0 + 1 + 1) (Ty.slc ae) []) K.knil))), (5, K.val ae (-1)), (6, K.val ae (IntKind.wrap IntKind.i64 (-1 + 1)))] [(0, Bx.row ab b0), (0 + 1, Bx.cell ag b1), (0 + 1 + 1, Bx.cell (Ty.slc ae) b2), (0 + 1 + 1 + 1, Bx.cell ag b3)]))
theorem dL (v7 : den ae) (v8 : den ae) (b0 : List (den ab)) (b1 : den ag) (b2 : den (Ty.slc ae)) (b3 : den ag) : aj fT lV 5000 (cR v7 v8 b0 b1 b2 b3) aE (lp aH 2) (cQ v7 v8 b0 b1 b2 b3) = jc v7 v8 b0 b1 b2 b3 := by kernel_rfl
noncomputable def eU (v5 : den ae) (v6 : den ae) (b0 : List (den ab)) (b1 : den ag) (b2 : den (Ty.slc ae)) (b3 : den ag) : List bW := [{ fx := bz, todo := ce bC 4 4, dst := some 16, s := ofS [(2, K.ptr (0 + 1) ag []), (3, K.ptr (0 + 1 + 1) (Ty.slc ae) []), (4, K.ptr (0 + 1 + 1 + 1) ag []), (6, K.clo am (K.kcons (K.ptr (0 + 1) ag []) (K.kcons (K.ptr (0 + 1 + 1) (Ty.slc ae) []) K.knil)))] }]
noncomputable def eR (v5 : den ae) (v6 : den ae) (b0 : List (den ab)) (b1 : den ag) (b2 : den (Ty.slc ae)) (b3 : den ag) : Env := Env.of [(0, K.sl 0 ab), (1, K.clo am (K.kcons (K.ptr (0 + 1) ag []) (K.kcons (K.ptr (0 + 1 + 1) (Ty.slc ae) []) K.knil))), (5, K.val ae v5), (6, K.val ae v6)] [(0, Bx.row ab b0), (1, Bx.cell ag b1), (2, Bx.cell (Ty.slc ae) b2), (3, Bx.cell ag b3)]
noncomputable def jq (v5 : den ae) (v6 : den ae) (b0 : List (den ab)) (b1 : den ag) (b2 : den (Ty.slc ae)) (b3 : den ag) : af := af.ite (decide (v6 < lnx ab b0)) (af.req (inB v6 (lnx ab b0)) (af.req (inB v6 (lnx ab b0)) (af.req True (af.all (den Ty.bool) (fun (q6 : den Ty.bool) ↦ q6 = aJ (Prod.fst (Prod.fst b1)) b2 (el ab b0 v6)) fun (q6 : den Ty.bool) ↦ af.ite (!q6) (af.req (inB v5 (lnx ab b0)) (af.req (inB v5 (lnx ab b0)) (af.loop [{ fx := bz, todo := ce bC 4 4, dst := some 16, s := ofS [(2, K.ptr (0 + 1) ag []), (3, K.ptr (0 + 1 + 1) (Ty.slc ae) []), (4, K.ptr (0 + 1 + 1 + 1) ag []), (6, K.clo am (K.kcons (K.ptr (0 + 1) ag []) (K.kcons (K.ptr (0 + 1 + 1) (Ty.slc ae) []) K.knil)))] }] ar (lp aq 5) [(0, K.sl 0 ab), (1, K.clo am (K.kcons (K.ptr (0 + 1) ag []) (K.kcons (K.ptr (0 + 1 + 1) (Ty.slc ae) []) K.knil))), (5, K.val ae (IntKind.wrap IntKind.i64 (v5 + 1))), (6, K.val ae (IntKind.wrap IntKind.i64 (v6 + 1)))] [(0, Bx.row ab (xu ab b0 v5 (el ab b0 v6))), (0 + 1, Bx.cell ag b1), (0 + 1 + 1, Bx.cell (Ty.slc ae) b2), (0 + 1 + 1 + 1, Bx.cell ag b3)]))) (af.loop [{ fx := bz, todo := ce bC 4 4, dst := some 16, s := ofS [(2, K.ptr (0 + 1) ag []), (3, K.ptr (0 + 1 + 1) (Ty.slc ae) []), (4, K.ptr (0 + 1 + 1 + 1) ag []), (6, K.clo am (K.kcons (K.ptr (0 + 1) ag []) (K.kcons (K.ptr (0 + 1 + 1) (Ty.slc ae) []) K.knil)))] }] ar (lp aq 5) [(0, K.sl 0 ab), (1, K.clo am (K.kcons (K.ptr (0 + 1) ag []) (K.kcons (K.ptr (0 + 1 + 1) (Ty.slc ae) []) K.knil))), (5, K.val ae v5), (6, K.val ae (IntKind.wrap IntKind.i64 (v6 + 1)))] [(0, Bx.row ab b0), (0 + 1, Bx.cell ag b1), (0 + 1 + 1, Bx.cell (Ty.slc ae) b2), (0 + 1 + 1 + 1, Bx.cell ag b3)]))))) (af.req (vok 0 (List.length b0) (List.length b0)) (af.req (bE v5 (↑(List.length b0) : Int) (↑(List.length b0 - 0) : Int)) (af.req (vok (0 + Int.toNat v5) (Int.toNat (↑(List.length b0) : Int) - Int.toNat v5) (List.length b0)) (af.req (bE 0 v5 (lnx ab (over b0 (0 + Int.toNat v5) (List.replicate (Int.toNat (↑(List.length b0) : Int) - Int.toNat v5) (zero ab))))) (af.req (List.length (Prod.fst (Prod.snd (Prod.snd (Prod.snd b1)))) ≤ bF) (af.loop [{ fx := ar, todo := ce aq 1 2, dst := some 10, s := ofS [(0, K.sl 0 ab), (1, K.clo am (K.kcons (K.ptr (0 + 1) ag []) (K.kcons (K.ptr (0 + 1 + 1) (Ty.slc ae) []) K.knil)))] }, { fx := bz, todo := ce bC 5 4, dst := some 22, s := ofS [(2, K.ptr (0 + 1) ag []), (3, K.ptr (0 + 1 + 1) (Ty.slc ae) []), (4, K.ptr (0 + 1 + 1 + 1) ag []), (6, K.clo am (K.kcons (K.ptr (0 + 1) ag []) (K.kcons (K.ptr (0 + 1 + 1) (Ty.slc ae) []) K.knil)))] }] aE (lp aH 2) [(0, K.sl 0 ab), (1, K.clo am (K.kcons (K.ptr (0 + 1) ag []) (K.kcons (K.ptr (0 + 1 + 1) (Ty.slc ae) []) K.knil))), (7, K.val ae (lnx ab (Prod.fst (Prod.snd (Prod.snd (Prod.snd b1)))))), (8, K.val ae 0)] [(0, Bx.row ab (Prod.fst (Prod.snd (Prod.snd (Prod.snd b1))))), (0 + 1, Bx.cell ag (Prod.fst b1, Prod.fst (Prod.snd b1), List.take (Int.toNat v5) (over b0 (0 + Int.toNat v5) (List.replicate (Int.toNat (↑(List.length b0) : Int) - Int.toNat v5) (zero ab))), Prod.snd (Prod.snd (Prod.snd b1)))), (0 + 1 + 1, Bx.cell (Ty.slc ae) b2), (0 + 1 + 1 + 1, Bx.cell ag b3)]))))))
theorem dQ (v5 : den ae) (v6 : den ae) (b0 : List (den ab)) (b1 : den ag) (b2 : den (Ty.slc ae)) (b3 : den ag) : aj fT lV 5000 (eU v5 v6 b0 b1 b2 b3) ar (lp aq 5) (eR v5 v6 b0 b1 b2 b3) = jq v5 v6 b0 b1 b2 b3 := by kernel_rfl
noncomputable def d9 (v5 : den ae) (v6 : den ae) (b0 : List (den ab)) (b1 : den ag) (b2 : den (Ty.slc ae)) (b3 : den ag) : List bW := [{ fx := bz, todo := ce bC 5 4, dst := some 22, s := ofS [(2, K.ptr (0 + 1) ag []), (3, K.ptr (0 + 1 + 1) (Ty.slc ae) []), (4, K.ptr (0 + 1 + 1 + 1) ag []), (6, K.clo am (K.kcons (K.ptr (0 + 1) ag []) (K.kcons (K.ptr (0 + 1 + 1) (Ty.slc ae) []) K.knil)))] }]
noncomputable def er (v5 : den ae) (v6 : den ae) (b0 : List (den ab)) (b1 : den ag) (b2 : den (Ty.slc ae)) (b3 : den ag) : Env := Env.of [(0, K.sl 0 ab), (1, K.clo am (K.kcons (K.ptr (0 + 1) ag []) (K.kcons (K.ptr (0 + 1 + 1) (Ty.slc ae) []) K.knil))), (5, K.val ae v5), (6, K.val ae v6)] [(0, Bx.row ab b0), (1, Bx.cell ag b1), (2, Bx.cell (Ty.slc ae) b2), (3, Bx.cell ag b3)]
noncomputable def iN (v5 : den ae) (v6 : den ae) (b0 : List (den ab)) (b1 : den ag) (b2 : den (Ty.slc ae)) (b3 : den ag) : af := af.ite (decide (v6 < lnx ab b0)) (af.req (inB v6 (lnx ab b0)) (af.req (inB v6 (lnx ab b0)) (af.req True (af.all (den Ty.bool) (fun (q6 : den Ty.bool) ↦ q6 = aJ (Prod.fst (Prod.fst b1)) b2 (el ab b0 v6)) fun (q6 : den Ty.bool) ↦ af.ite (!q6) (af.req (inB v5 (lnx ab b0)) (af.req (inB v5 (lnx ab b0)) (af.loop [{ fx := bz, todo := ce bC 5 4, dst := some 22, s := ofS [(2, K.ptr (0 + 1) ag []), (3, K.ptr (0 + 1 + 1) (Ty.slc ae) []), (4, K.ptr (0 + 1 + 1 + 1) ag []), (6, K.clo am (K.kcons (K.ptr (0 + 1) ag []) (K.kcons (K.ptr (0 + 1 + 1) (Ty.slc ae) []) K.knil)))] }] ar (lp aq 5) [(0, K.sl 0 ab), (1, K.clo am (K.kcons (K.ptr (0 + 1) ag []) (K.kcons (K.ptr (0 + 1 + 1) (Ty.slc ae) []) K.knil))), (5, K.val ae (IntKind.wrap IntKind.i64 (v5 + 1))), (6, K.val ae (IntKind.wrap IntKind.i64 (v6 + 1)))] [(0, Bx.row ab (xu ab b0 v5 (el ab b0 v6))), (0 + 1, Bx.cell ag b1), (0 + 1 + 1, Bx.cell (Ty.slc ae) b2), (0 + 1 + 1 + 1, Bx.cell ag b3)]))) (af.loop [{ fx := bz, todo := ce bC 5 4, dst := some 22, s := ofS [(2, K.ptr (0 + 1) ag []), (3, K.ptr (0 + 1 + 1) (Ty.slc ae) []), (4, K.ptr (0 + 1 + 1 + 1) ag []), (6, K.clo am (K.kcons (K.ptr (0 + 1) ag []) (K.kcons (K.ptr (0 + 1 + 1) (Ty.slc ae) []) K.knil)))] }] ar (lp aq 5) [(0, K.sl 0 ab), (1, K.clo am (K.kcons (K.ptr (0 + 1) ag []) (K.kcons (K.ptr (0 + 1 + 1) (Ty.slc ae) []) K.knil))), (5, K.val ae v5), (6, K.val ae (IntKind.wrap IntKind.i64 (v6 + 1)))] [(0, Bx.row ab b0), (0 + 1, Bx.cell ag b1), (0 + 1 + 1, Bx.cell (Ty.slc ae) b2), (0 + 1 + 1 + 1, Bx.cell ag b3)]))))) (af.req (vok 0 (List.length b0) (List.length b0)) (af.req (bE v5 (↑(List.length b0) : Int) (↑(List.length b0 - 0) : Int)) (af.req (vok (0 + Int.toNat v5) (Int.toNat (↑(List.length b0) : Int) - Int.toNat v5) (List.length b0)) (af.req (bE 0 v5 (lnx ab (over b0 (0 + Int.toNat v5) (List.replicate (Int.toNat (↑(List.length b0) : Int) - Int.toNat v5) (zero ab))))) (af.ite (decide (lnx ab (Prod.fst (Prod.snd (Prod.snd b1))) = 0)) (af.req True (af.req (cG [(!eqb ab (Prod.fst (Prod.snd b1)) noM, true)] True) (af.all (den ab) (fun (q6 : den ab) ↦ q6 = noM) fun (q6 : den ab) ↦ af.ite (bif !eqb ab (Prod.fst (Prod.snd b1)) noM then aJ (Prod.fst (Prod.fst b1)) b2 (Prod.fst (Prod.snd b1)) else false) (af.req True (af.all (den ab) (fun (q7 : den ab) ↦ q7 = noM) fun (q7 : den ab) ↦ af.ret (K.val (Ty.pair ag (Ty.pair ae Ty.unit)) ((Prod.fst b1, q7, List.set (List.replicate 1 (zero ab)) 0 (Prod.fst b1), List.take (Int.toNat v5) (over b0 (0 + Int.toNat v5) (List.replicate (Int.toNat (↑(List.length b0) : Int) - Int.toNat v5) (zero ab))), Prod.snd (Prod.snd (Prod.snd (Prod.snd b1)))), 0, PUnit.unit)))) (af.ret (K.val (Ty.pair ag (Ty.pair ae Ty.unit)) ((Prod.fst b1, Prod.fst (Prod.snd b1), List.set (List.replicate 1 (zero ab)) 0 (Prod.fst b1), List.take (Int.toNat v5) (over b0 (0 + Int.toNat v5) (List.replicate (Int.toNat (↑(List.length b0) : Int) - Int.toNat v5) (zero ab))), Prod.snd (Prod.snd (Prod.snd (Prod.snd b1)))), 0, PUnit.unit)))))) (af.req True (af.req (cG [(!eqb ab (Prod.fst (Prod.snd b1)) noM, true)] True) (af.all (den ab) (fun (q6 : den ab) ↦ q6 = noM) fun (q6 : den ab) ↦ af.ite (bif !eqb ab (Prod.fst (Prod.snd b1)) noM then aJ (Prod.fst (Prod.fst b1)) b2 (Prod.fst (Prod.snd b1)) else false) (af.req True (af.all (den ab) (fun (q7 : den ab) ↦ q7 = noM) fun (q7 : den ab) ↦ af.ret (K.val (Ty.pair ag (Ty.pair ae Ty.unit)) ((Prod.fst b1, q7, Prod.fst (Prod.snd (Prod.snd b1)), List.take (Int.toNat v5) (over b0 (0 + Int.toNat v5) (List.replicate (Int.toNat (↑(List.length b0) : Int) - Int.toNat v5) (zero ab))), Prod.snd (Prod.snd (Prod.snd (Prod.snd b1)))), 0, PUnit.unit)))) (af.ret (K.val (Ty.pair ag (Ty.pair ae Ty.unit)) ((Prod.fst b1, Prod.fst (Prod.snd b1), Prod.fst (Prod.snd (Prod.snd b1)), List.take (Int.toNat v5) (over b0 (0 + Int.toNat v5) (List.replicate (Int.toNat (↑(List.length b0) : Int) - Int.toNat v5) (zero ab))), Prod.snd (Prod.snd (Prod.snd (Prod.snd b1)))), 0, PUnit.unit)))))))))))
theorem dG (v5 : den ae) (v6 : den ae) (b0 : List (den ab)) (b1 : den ag) (b2 : den (Ty.slc ae)) (b3 : den ag) : aj fT lV 5000 (d9 v5 v6 b0 b1 b2 b3) ar (lp aq 5) (er v5 v6 b0 b1 b2 b3) = iN v5 v6 b0 b1 b2 b3 := by kernel_rfl
end Go.Proofs.Ytimdnodkabnbfaa
namespace Go.Proofs.Ytimdnodkabnbfaa
open Go Go.RowKit
abbrev LL := List (List Mem)
abbrev GCc (O : Nat → Prop) (w0 : World) (bk : Option Nat) (s : LL) := br prog cp (rcx O w0 bk) (qx prog O w0 bk ab (s.flatten : List Mem))
theorem sE (s : LL) {i : Nat} (hi : i < s.length) : (s.take (i + 1)).flatten = (s.take i).flatten ++ s[i] := by
 rw [List.take_succ_eq_append_getElem hi, List.flatten_append, List.flatten_cons, List.flatten_nil, List.append_nil]
theorem uy (s : LL) (i : Nat) : (s.take i).flatten.length ≤ s.flatten.length := by
 have h : s.flatten = (s.take i).flatten ++ (s.drop i).flatten := by rw [← List.flatten_append, List.take_append_drop]
 rw [h, List.length_append]; omega
def EZ (O : Nat → Prop) (w0 : World) (bk : Option Nat) (s : LL) (hm : s.length ≤ maxLen) (ht : s.flatten.length ≤ 1073741824) :=
 PLift.up <| bf (σ := List Mem) s.length (fun i b => b = (s.take i).flatten)
  (fun i b => GCc O w0 bk s [] aQ (lp aP 11) (iR s (lnx (Ty.slc ab) s) (i : Nat) b))
  (fun i b hi hs ih => fE bV (gl s _ _ b) (by
   have e := sE s hi
   have hle := uy s (i + 1)
   refine ⟨fun _ => ⟨a6 hi, ?_⟩, fun hc => absurd hi (by rw [bB (e := Ty.slc ab)] at hc; exact of_decide_eq_false hc)⟩
   rw [bM (e := Ty.slc ab) hi, bG hi hm, hs, ← e]
   exact ⟨Nat.le_trans hle ht, ih _ rfl⟩))
  (fun b hs => fE bV (gl s _ _ b) ⟨fun hc => absurd (of_decide_eq_true hc) (Int.lt_irrefl _), fun _ => ⟨(by simp [vok]), by
   show K.val (.slc ab) (ml ab b 0 (List.length b)) = K.val (.slc ab) (s.flatten : List Mem)
   rw [xq _ rfl, hs, List.take_length]⟩⟩)
theorem E2 (O : Nat → Prop) (w0 : World) (bk : Option Nat) (s : LL) (hm : s.length ≤ maxLen) (ht : s.flatten.length ≤ 1073741824) : GCc O w0 bk s [] aQ (lp aP 11) (iS s (lnx (Ty.slc ab) s) 0) :=
  fE bV (mY s _ _) (by
    have hle := uy s (0 + 1)
    refine ⟨fun hc => ?_, fun hc => ?_⟩
    · have hi : 0 < s.length := Int.ofNat_lt.1 (of_decide_eq_true hc)
      have e := sE s hi
      refine ⟨a6 hi, ?_⟩
      have e0 : el (Ty.slc ab) s 0 = s[0] := bM (e := Ty.slc ab) hi
      have e1 : (s.take (0 + 1)).flatten = s[0] := by rw [e]; rfl
      rw [e0, show IntKind.wrap .i64 ((0 : Int) + 1) = ((0 + 1 : Nat) : Int) from rfl, ← e1]
      exact ⟨Nat.le_trans hle ht, (EZ O w0 bk s hm ht).down 1 _ hi rfl⟩
    · have hi : s.length = 0 := by
        have : ¬ (0 : Int) < ((s.length : Nat) : Int) := of_decide_eq_false hc
        omega
      show K.val (.slc ab) [] = K.val (.slc ab) (s.flatten : List Mem)
      rw [List.eq_nil_of_length_eq_zero hi]
      rfl)
theorem KZ {α : Type} {zs pre ys : List α} (h : zs.take pre.length = pre) (hl : pre.length + ys.length ≤ zs.length) : (over zs pre.length ys).take (pre ++ ys).length = pre ++ ys := by
 rw [List.length_append, K4 (by omega), h]
def F9 (O : Nat → Prop) (w0 : World) (bk : Option Nat) (s : LL) (hm : s.length ≤ maxLen) :=
 PLift.up <| bf (σ := List Mem) s.length (fun i b => b.length = s.flatten.length ∧ b.take (s.take i).flatten.length = (s.take i).flatten)
  (fun i b => GCc O w0 bk s [] aQ (lp aP 11) (ka 0 (s.take i).flatten.length s (lnx (Ty.slc ab) s) (i : Nat) b))
  (fun i b hi hs ih => fE bV (ie 0 _ s _ _ b) (by
   obtain ⟨h1, h2⟩ := hs
   have e := sE s hi
   have el' : (s.take (i + 1)).flatten.length = (s.take i).flatten.length + s[i].length := by rw [e, List.length_append]
   have hle := uy s (i + 1)
   have hle0 := uy s i
   refine ⟨fun _ => ⟨a6 hi, ?_⟩, fun hc => absurd hi (by rw [bB (e := Ty.slc ab)] at hc; exact of_decide_eq_false hc)⟩
   rw [bM (e := Ty.slc ab) hi, bG hi hm, Nat.zero_add, ← el', h1]
   refine ⟨(by unfold vok; omega), hle, ih _ ⟨?_, ?_⟩⟩
   ·show (over b (s.take i).flatten.length s[i]).length = _
    rw [A5 (by omega), h1]
   ·have := KZ (ys := s[i]) h2 (by omega)
    rw [← e] at this
    exact this))
  (fun b hs => fE bV (ie 0 _ s _ _ b) ⟨fun hc => absurd (of_decide_eq_true hc) (Int.lt_irrefl _), fun _ => by
   obtain ⟨h1, h2⟩ := hs
   rw [List.take_length] at h2 ⊢
   refine ⟨(by unfold vok; omega), ?_⟩
   show K.val (.slc ab) (ml ab b 0 (s.flatten : List Mem).length) = K.val (.slc ab) (s.flatten : List Mem)
   rw [Kz, h2]⟩)
def Lz (O : Nat → Prop) (w0 : World) (bk : Option Nat) (s : LL) (hm : s.length ≤ maxLen) (ht : s.flatten.length ≤ 1073741824) :=
 PLift.up <| bf (σ := Unit) s.length (fun _ _ => True)
  (fun i _ => GCc O w0 bk s [] aQ (lp aP 3) (kV s ((s.take i).flatten.length : Nat) s (lnx (Ty.slc ab) s) (i : Nat)))
  (fun i _ hi _ ih => fE bV (iw s _ s _ _) (by
   have e := sE s hi
   have el' : (s.take (i + 1)).flatten.length = (s.take i).flatten.length + s[i].length := by rw [e, List.length_append]
   have hle := uy s (i + 1)
   refine ⟨fun _ => ⟨a6 hi, ?_⟩, fun hc => absurd hi (by rw [bB (e := Ty.slc ab)] at hc; exact of_decide_eq_false hc)⟩
   have e2 : IntKind.wrap .i64 ((((s.take i).flatten.length : Nat) : Int) + lnx ab s[i]) = (((s.take (i + 1)).flatten.length : Nat) : Int) := by
    rw [el', show lnx ab s[i] = ((s[i].length : Nat) : Int) from rfl, cB (by omega)]; omega
   rw [bM (e := Ty.slc ab) hi, bG hi hm, e2]
   exact ⟨fun hc => absurd (of_decide_eq_true hc) (by omega), fun _ => ih () trivial⟩))
  (fun _ _ => fE bV (iw s _ s _ _) ⟨fun hc => absurd (of_decide_eq_true hc) (Int.lt_irrefl _), fun _ => by
   rw [List.take_length]
   have e0 : IntKind.wrap .i64 ((((s.flatten : List Mem).length : Nat) : Int) - IntKind.wrap .i64 (0 - 0)) = (((s.flatten : List Mem).length : Nat) : Int) := by
    rw [show IntKind.wrap .i64 ((0 : Int) - 0) = 0 from rfl, cB (by omega)]; omega
   rw [e0]
   refine ⟨fun hc => absurd (of_decide_eq_true hc) (Int.not_lt.2 (Int.natCast_nonneg _)), fun _ => ⟨fun hc => ?_, fun hc => E2 O w0 bk s hm ht⟩⟩
   have hc := of_decide_eq_true hc
   rw [Int.toNat_natCast]
   refine ⟨⟨Int.le_refl _, Int.le_refl _, Int.le_refl _⟩, hc, ht, (by simp [vok]), ⟨Int.le_refl _, Int.le_refl _, Int.natCast_nonneg _⟩, ?_⟩
   exact (F9 O w0 bk s hm).down 0 _ (Nat.zero_le _) ⟨List.length_replicate .., rfl⟩⟩)
theorem si : lj prog [] bN t5 :=
 DE bV (fx := aQ) rfl sh (by kernel_rfl) (T := fun _ y => lU y.1) (fun xs y _ => qk y.1) fun O w0 bk xs y hxl hy hp =>
  (Lz O w0 bk y.1 hy.1.1 hp).down 0 () (Nat.zero_le _) trivial
end Go.Proofs.Ytimdnodkabnbfaa
namespace Go.Proofs.Ytimdnodkabnbfaa
open Go Go.RowKit
structure jU (g : Mem → Bool) (l : List Mem) (k i : Nat) (b : List Mem) : Prop where
 le : k ≤ i
 il : i ≤ l.length
 len : b.length = l.length
 pre : b.take k = (l.take i).filter (fun m => !g m)
 post : b.drop i = l.drop i
theorem jU.at {g : Mem → Bool} {l b : List Mem} {k i : Nat} (h : jU g l k i b) (hi : i < l.length) (hb : i < b.length) : b[i] = l[i] := by
 have h1 := h.post
 rw [List.drop_eq_getElem_cons hb, List.drop_eq_getElem_cons hi] at h1
 exact (List.cons.inj h1).1
theorem jU.keep {g : Mem → Bool} {l b : List Mem} {k i : Nat} (h : jU g l k i b) (hi : i < l.length) (hg : g l[i] = false) : jU g l (k + 1) (i + 1) (b.set k l[i]) := by
 have h0 := h.le
 have h3 := h.len
 refine ⟨by omega, hi, by rw [List.length_set, h3], ?_, ?_⟩
 ·rw [List.take_succ_eq_append_getElem hi, List.filter_append, ← h.pre, List.take_succ_eq_append_getElem (by rw [List.length_set]; omega), List.getElem_set_self, List.take_set_of_le (Nat.le_refl _)]
  simp [hg]
 ·rw [List.drop_set_of_lt (by omega)]
  have h1 := h.post
  rw [List.drop_eq_getElem_cons (show i < b.length by omega), List.drop_eq_getElem_cons hi] at h1
  exact (List.cons.inj h1).2
theorem jU.skip {g : Mem → Bool} {l b : List Mem} {k i : Nat} (h : jU g l k i b) (hi : i < l.length) (hg : g l[i] = true) : jU g l k (i + 1) b := by
 have h0 := h.le
 have h3 := h.len
 refine ⟨by omega, hi, h3, ?_, ?_⟩
 ·rw [List.take_succ_eq_append_getElem hi, List.filter_append, ← h.pre]
  simp [hg]
 ·have h1 := h.post
  rw [List.drop_eq_getElem_cons (show i < b.length by omega), List.drop_eq_getElem_cons hi] at h1
  exact (List.cons.inj h1).2
theorem jU.first {g : Mem → Bool} {l : List Mem} {i : Nat} (hi : i < l.length) (h0 : ∀ m ∈ l.take i, g m = false) (hg : g l[i] = true) : jU g l i (i + 1) l :=
 ⟨Nat.le_succ _, hi, rfl, by
  rw [List.take_succ_eq_append_getElem hi, List.filter_append, List.filter_eq_self.2 (fun m hm => by simp [h0 m hm])]
  simp [hg], rfl⟩
theorem jU.done {g : Mem → Bool} {l b : List Mem} {k : Nat} (h : jU g l k l.length b) {z : Mem} {n : Nat} : (over b k (List.replicate n z)).take k = l.filter (fun m => !g m) := by
 have h0 := h.le
 have h3 := h.len
 rw [Ii (Nat.le_refl _) (by omega), h.pre, List.take_length]
theorem Gu {g : Mem → Bool} {l : List Mem} (h0 : ∀ m ∈ l, g m = false) : l.filter (fun m => !g m) = l := List.filter_eq_self.2 (fun m hm => by simp [h0 m hm])
end Go.Proofs.Ytimdnodkabnbfaa
namespace Go.Proofs.Ytimdnodkabnbfaa
open Go Go.RowKit
abbrev GDr (O : Nat → Prop) (w0 : World) (y : Nd) := br prog fT (Cx.base O w0) (bP prog O w0 iM fun z => z = (y, 0, ()))
theorem d7 : XOk prog fT := HQ m4 tZ Fr tM
def k9 (n : Nd) (nos : List Int) (f : List Mem) : Nd := (n.1, (bif (bif !decide (n.2.1 = noM) then aJ n.1.1 nos n.2.1 else false) then noM else n.2.1), k8 n n.2.2.1, f, ())
def LN (O : Nat → Prop) (w0 : World) (n r : Nd) (nos : List Int) (l : List Mem) (hm : l.length ≤ maxLen) :=
  PLift.up <| bf (σ := Nat × List Mem) l.length (fun i s => jU (aJ n.1.1 nos) l s.1 i s.2)
    (fun i s => GDr O w0 (k9 n nos (l.filter fun m => !aJ n.1.1 nos m)) (d9 (s.1 : Nat) (i : Nat) s.2 n nos r) ar (lp aq 5) (er (s.1 : Nat) (i : Nat) s.2 n nos r))
    (fun i s hi hs ih => aB d7 (dG _ _ s.2 n nos r) (by
      obtain ⟨k, b⟩ := s
      have hs : jU (aJ n.1.1 nos) l k i b := hs
      have hb : i < b.length := by rw [hs.len]; exact hi
      have hk : k < b.length := by have := hs.le; omega
      have hat := hs.at hi hb
      refine ⟨fun _ => ⟨a6 hb, a6 hb, trivial, ?_⟩, fun hc => absurd hb (by rw [bB] at hc; exact of_decide_eq_false hc)⟩
      rw [bM hb, hat, bG hi hm, bG (show k < l.length by rw [← hs.len]; exact hk) hm]
      refine bg ⟨fun hc => ⟨a6 hk, a6 hk, ih (k + 1, b.set k l[i]) (hs.keep hi ?_)⟩, fun hc => ih (k, b) (hs.skip hi ?_)⟩
      · have hc : (!aJ n.1.1 nos l[i]) = true := hc
        simpa using hc
      · have hc : (!aJ n.1.1 nos l[i]) = false := hc
        simpa using hc))
    (fun s hs => aB d7 (dG _ _ s.2 n nos r) (by
      obtain ⟨k, b⟩ := s
      have hs : jU (aJ n.1.1 nos) l k l.length b := hs
      have hl := hs.len
      have hle := hs.le
      refine ⟨fun hc => absurd (of_decide_eq_true hc) (by rw [show lnx ab b = ((l.length : Nat) : Int) from congrArg Nat.cast hl]; exact Int.lt_irrefl _), fun _ => ⟨(by simp [vok]), (show bE ((k : Nat) : Int) ((b.length : Nat) : Int) ((b.length - 0 : Nat) : Int) from ⟨by omega, by omega, by omega⟩), (by simp [vok]; omega), ?_, ?_⟩⟩
      · have : lnx ab (over b (0 + Int.toNat ((k : Nat) : Int)) (List.replicate (Int.toNat ((b.length : Nat) : Int) - Int.toNat ((k : Nat) : Int)) (zero ab))) = ((b.length : Nat) : Int) := congrArg Nat.cast (A5 (by rw [List.length_replicate]; simp only [Int.toNat_natCast]; omega))
        show bE 0 ((k : Nat) : Int) (lnx ab (over b (0 + Int.toNat ((k : Nat) : Int)) (List.replicate (Int.toNat ((b.length : Nat) : Int) - Int.toNat ((k : Nat) : Int)) (zero ab))))
        rw [this]
        exact ⟨Int.le_refl _, by omega, by omega⟩
      · have hF : List.take (Int.toNat ((k : Nat) : Int)) (over b (0 + Int.toNat ((k : Nat) : Int)) (List.replicate (Int.toNat ((b.length : Nat) : Int) - Int.toNat ((k : Nat) : Int)) (zero ab))) = l.filter fun m => !aJ n.1.1 nos m := by
          simp only [Int.toNat_natCast, Nat.zero_add]
          exact hs.done
        have fin : ∀ {p : Nd}, k9 n nos (l.filter fun m => !aJ n.1.1 nos m) = p → ∃ z, bq iM (K.val (Ty.pair ag (Ty.pair ae Ty.unit)) (p, 0, ())) = some z ∧ z = (k9 n nos (l.filter fun m => !aJ n.1.1 nos m), 0, ()) := fun {p} e => ⟨_, rfl, by rw [e]⟩
        rw [← hF] at fin ⊢
        have cases2 : ∀ {su : List Mem}, k8 n n.2.2.1 = su → True := fun _ => trivial
        refine ⟨fun h => ⟨trivial, fun _ => trivial, bg ⟨fun h2 => ⟨trivial, bg (fin ?_)⟩, fun h2 => fin ?_⟩⟩, fun h => ⟨trivial, fun _ => trivial, bg ⟨fun h2 => ⟨trivial, bg (fin ?_)⟩, fun h2 => fin ?_⟩⟩⟩
        all_goals
          rw [iI] at h2
          unfold k9 k8
          rw [h, h2]
          rfl))
theorem En {g : Mem → Bool} {l : List Mem} {i : Nat} (hi : i < l.length) (h : ∀ m ∈ l.take i, g m = false) (hg : g l[i] = false) : ∀ m ∈ l.take (i + 1), g m = false := fun m hm => by
 rw [List.take_succ_eq_append_getElem hi] at hm
 rcases List.mem_append.1 hm with hm | hm
 ·exact h m hm
 ·rw [List.mem_singleton.1 hm]; exact hg
def Ln (O : Nat → Prop) (w0 : World) (n r : Nd) (nos : List Int) (l : List Mem) (hm : l.length ≤ maxLen) :=
 PLift.up <| bf (σ := Unit) l.length (fun i _ => ∀ m ∈ l.take i, aJ n.1.1 nos m = false)
  (fun i _ => GDr O w0 (k9 n nos (l.filter fun m => !aJ n.1.1 nos m)) (cR (lnx ab l) (i : Nat) l n nos r) aE (lp aH 2) (cQ (lnx ab l) (i : Nat) l n nos r))
  (fun i _ hi hs ih => aB d7 (dL _ _ l n nos r) (by
   refine ⟨fun _ => ⟨a6 hi, a6 hi, trivial, ?_⟩, fun hc => absurd hi (by rw [bB] at hc; exact of_decide_eq_false hc)⟩
   rw [bM hi, bG hi hm]
   refine ⟨fun hg => ⟨fun hc => ?_, fun _ => (LN O w0 n r nos l hm).down (i + 1) (i, l) hi (.first hi hs hg)⟩, fun hg => ih () (En hi hs hg)⟩
   have hc : ((i : Nat) : Int) = -1 := of_decide_eq_true hc
   omega))
  (fun _ hs => aB d7 (dL _ _ l n nos r) (by
   rw [List.take_length] at hs
   have hF := Gu hs
   refine ⟨fun hc => absurd (of_decide_eq_true hc) (Int.lt_irrefl _), fun _ => ⟨fun _ => ?_, fun hc => (by cases hc)⟩⟩
   rw [hF]
   have fin : ∀ {p : Nd}, k9 n nos l = p → ∃ z, bq iM (K.val (Ty.pair ag (Ty.pair ae Ty.unit)) (p, 0, ())) = some z ∧ z = (k9 n nos l, 0, ()) := fun {p} e => ⟨_, rfl, by rw [e]⟩
   refine ⟨fun h => ⟨trivial, fun _ => trivial, bg ⟨fun h2 => ⟨trivial, bg (fin ?_)⟩, fun h2 => fin ?_⟩⟩, fun h => ⟨trivial, fun _ => trivial, bg ⟨fun h2 => ⟨trivial, bg (fin ?_)⟩, fun h2 => fin ?_⟩⟩⟩
   all_goals
    rw [iI] at h2
    unfold k9 k8
    rw [h, h2]
    rfl))
theorem N3 (n : Nd) (nos : List Int) : k9 (n.1, n.2.1, n.2.2.1.filter (fun m => !aJ n.1.1 nos m), n.2.2.2) nos (n.2.2.2.1.filter fun m => !aJ n.1.1 nos m) = eN n nos := rfl
theorem EL (O : Nat → Prop) (w0 : World) (n r : Nd) (nos : List Int) (su : List Mem) (hsu : su = n.2.2.1.filter (fun m => !aJ n.1.1 nos m)) (hf : n.2.2.2.1.length ≤ 16) :
    GDr O w0 (eN n nos) (cR (lnx ab n.2.2.2.1) 0 n.2.2.2.1 (n.1, n.2.1, su, n.2.2.2) nos r) aE (lp aH 2) (cQ (lnx ab n.2.2.2.1) 0 n.2.2.2.1 (n.1, n.2.1, su, n.2.2.2) nos r) := by
  subst hsu
  rw [← N3]
  exact (Ln O w0 (n.1, n.2.1, n.2.2.1.filter (fun m => !aJ n.1.1 nos m), n.2.2.2) r nos n.2.2.2.1 (Nat.le_trans hf (by decide))).down 0 () (Nat.zero_le _) (fun m hm => by cases hm)
def K0 (O : Nat → Prop) (w0 : World) (n r : Nd) (nos : List Int) (hm : n.2.2.1.length ≤ maxLen) (hf : n.2.2.2.1.length ≤ 16) :=
 PLift.up <| bf (σ := Nat × List Mem) n.2.2.1.length (fun i s => jU (aJ n.1.1 nos) n.2.2.1 s.1 i s.2)
  (fun i s => GDr O w0 (eN n nos) (eU (s.1 : Nat) (i : Nat) s.2 n nos r) ar (lp aq 5) (eR (s.1 : Nat) (i : Nat) s.2 n nos r))
  (fun i s hi hs ih => aB d7 (dQ _ _ s.2 n nos r) (by
   obtain ⟨k, b⟩ := s
   have hs : jU (aJ n.1.1 nos) n.2.2.1 k i b := hs
   have hb : i < b.length := by rw [hs.len]; exact hi
   have hk : k < b.length := by have := hs.le; omega
   have hat := hs.at hi hb
   refine ⟨fun _ => ⟨a6 hb, a6 hb, trivial, ?_⟩, fun hc => absurd hb (by rw [bB] at hc; exact of_decide_eq_false hc)⟩
   rw [bM hb, hat, bG hi hm, bG (show k < n.2.2.1.length by rw [← hs.len]; exact hk) hm]
   refine bg ⟨fun hc => ⟨a6 hk, a6 hk, ih (k + 1, b.set k n.2.2.1[i]) (hs.keep hi ?_)⟩, fun hc => ih (k, b) (hs.skip hi ?_)⟩
   ·have hc : (!aJ n.1.1 nos n.2.2.1[i]) = true := hc
    simpa using hc
   ·have hc : (!aJ n.1.1 nos n.2.2.1[i]) = false := hc
    simpa using hc))
  (fun s hs => aB d7 (dQ _ _ s.2 n nos r) (by
   obtain ⟨k, b⟩ := s
   have hs : jU (aJ n.1.1 nos) n.2.2.1 k n.2.2.1.length b := hs
   have hl := hs.len
   have hle := hs.le
   refine ⟨fun hc => absurd (of_decide_eq_true hc) (by rw [show lnx ab b = ((n.2.2.1.length : Nat) : Int) from congrArg Nat.cast hl]; exact Int.lt_irrefl _), fun _ => ⟨(by simp [vok]), (show bE ((k : Nat) : Int) ((b.length : Nat) : Int) ((b.length - 0 : Nat) : Int) from ⟨by omega, by omega, by omega⟩), (by simp [vok]; omega), ?_, Nat.le_trans hf (by decide), ?_⟩⟩
   ·have : lnx ab (over b (0 + Int.toNat ((k : Nat) : Int)) (List.replicate (Int.toNat ((b.length : Nat) : Int) - Int.toNat ((k : Nat) : Int)) (zero ab))) = ((b.length : Nat) : Int) := congrArg Nat.cast (A5 (by rw [List.length_replicate]; simp only [Int.toNat_natCast]; omega))
    show bE 0 ((k : Nat) : Int) (lnx ab (over b (0 + Int.toNat ((k : Nat) : Int)) (List.replicate (Int.toNat ((b.length : Nat) : Int) - Int.toNat ((k : Nat) : Int)) (zero ab))))
    rw [this]
    exact ⟨Int.le_refl _, by omega, by omega⟩
   ·refine EL O w0 n r nos _ ?_ hf
    simp only [Int.toNat_natCast, Nat.zero_add]
    exact hs.done))
def La (O : Nat → Prop) (w0 : World) (n r : Nd) (nos : List Int) (hm : n.2.2.1.length ≤ maxLen) (hf : n.2.2.2.1.length ≤ 16) :=
 PLift.up <| bf (σ := Unit) n.2.2.1.length (fun i _ => ∀ m ∈ n.2.2.1.take i, aJ n.1.1 nos m = false)
  (fun i _ => GDr O w0 (eN n nos) (fc (lnx ab n.2.2.1) (i : Nat) n.2.2.1 n nos r) aE (lp aH 2) (fd (lnx ab n.2.2.1) (i : Nat) n.2.2.1 n nos r))
  (fun i _ hi hs ih => aB d7 (dZ _ _ n.2.2.1 n nos r) (by
   refine ⟨fun _ => ⟨a6 hi, a6 hi, trivial, ?_⟩, fun hc => absurd hi (by rw [bB] at hc; exact of_decide_eq_false hc)⟩
   rw [bM hi, bG hi hm]
   refine ⟨fun hg => ⟨fun hc => ?_, fun _ => (K0 O w0 n r nos hm hf).down (i + 1) (i, n.2.2.1) hi (.first hi hs hg)⟩, fun hg => ih () (En hi hs hg)⟩
   have hc : ((i : Nat) : Int) = -1 := of_decide_eq_true hc
   omega))
  (fun _ hs => aB d7 (dZ _ _ n.2.2.1 n nos r) (by
   rw [List.take_length] at hs
   exact ⟨fun hc => absurd (of_decide_eq_true hc) (Int.lt_irrefl _), fun _ => ⟨fun _ => ⟨Nat.le_trans hf (by decide), EL O w0 n r nos n.2.2.1 (Gu hs).symm hf⟩, fun hc => (by cases hc)⟩⟩))
theorem GC {n : Nd} (h : aO n = true) : n.2.2.1.length ≤ 4 ∧ 1 ≤ n.2.2.1.length ∧ n.2.2.2.1.length ≤ 16 := by
 unfold aO u9 at h
 simp only [Bool.cond_eq_ite, Bool.ite_eq_true_distrib] at h
 have e1 : lnx ab n.2.2.1 = ((n.2.2.1.length : Nat) : Int) := rfl
 have e2 : lnx ab n.2.2.2.1 = ((n.2.2.2.1.length : Nat) : Int) := rfl
 rw [e1, e2] at h
 by_cases h1 : (1 : Int) ≤ ((n.2.2.1.length : Nat) : Int) <;> by_cases h2 : ((n.2.2.1.length : Nat) : Int) ≤ 4 <;> by_cases h3 : ((n.2.2.2.1.length : Nat) : Int) ≤ 16 <;> simp [h1, h2, h3] at h
 exact ⟨by omega, by omega, by omega⟩
theorem HY : ap prog [] oM oZ :=
 bw (S := oZ) d7 (fx := bz) FX (by kernel_rfl) (fun _ _ => trivial) (T := fun x => Ak x.1 x.2.1) (fun x => DX x.1 x.2.1) fun O w0 x _ _ => by
  obtain ⟨n, nos, ⟨⟩⟩ := x
  refine ⟨trivial, bg ⟨fun h => ⟨_, rfl, ?_⟩, fun h => ?_⟩⟩
  ·have h : (!aO n) = true := h
   show _ = ((fY n nos).1, (fY n nos).2, ())
   unfold fY
   rw [h]
   rfl
  ·have h : (!aO n) = false := h
   have hr : aO n = true := by simpa using h
   obtain ⟨l1, l2, l3⟩ := GC hr
   refine ⟨Nat.le_trans l1 (by decide), ?_⟩
   have e : fY n nos = (eN n nos, 0) := by unfold fY; rw [h]; rfl
   show br _ _ _ (bP prog O w0 iM fun z => z = ((fY n nos).1, (fY n nos).2, ())) _ _ _ _
   rw [e]
   exact (La O w0 n (zero ag) nos (Nat.le_trans l1 (by decide)) l3).down 0 () (Nat.zero_le _) (fun m hm => by cases hm)
end Go.Proofs.Ytimdnodkabnbfaa
namespace Go.Proofs.Ytimdnodkabnbfaa
open Go Go.RowKit
noncomputable abbrev mG : bl := ⟨BQ, Bv, fun x => (co x.1, ()), fun _ => True, true⟩
noncomputable abbrev gQ : bl := ⟨Ac, zR, fun x => (decide (x.1 = noM), ()), fun _ => True, true⟩
noncomputable abbrev ne : bl := ⟨ws, pH, fun x => (bL x.1 x.2.1, ()), fun _ => True, true⟩
noncomputable abbrev oU : bl := ⟨yC, yh, fun x => (aO x.1, ()), fun _ => True, true⟩
def bH (l : List Nd) : List Mem := l.map sfN
def be (n : Nd) : List Mem := [n.2.1] ++ n.2.2.1 ++ n.2.2.2.1
def bZ (l : List Nd) (no : Int) : Bool := l.any fun n => decide (n.1.1 = no)
def uI (l : List Nd) (no : Int) : Bool := bif decide ((ku (bH l) no).1 = no) then decide (0 ≤ no) else false
def noN : Nd := (noM, zero (Ty.pair ab (Ty.pair (Ty.slc ab) (Ty.pair (Ty.slc ab) Ty.unit))))
def c8 (l : List Nd) (no : Int) : Nd := (l.find? fun n => decide (n.1.1 = no)).getD noN
noncomputable abbrev gA : bl := ⟨uE, n5, fun x => (bH x.1.1, ()), fun x => List.length x.1.1 ≤ 1000000, false⟩
noncomputable abbrev jJ : bl := ⟨xC, xF, fun x => (be x.1, ()), fun x => (be x.1).length ≤ 1000000, false⟩
noncomputable abbrev jD : bl := ⟨yZ, yB, fun x => (uI x.1.1 x.2.1, ()), fun x => List.length x.1.1 ≤ 1000000, false⟩
noncomputable abbrev th : bl := ⟨BK, vO, fun x => (c8 x.1.1 x.2.1, ()), fun _ => True, true⟩
end Go.Proofs.Ytimdnodkabnbfaa
