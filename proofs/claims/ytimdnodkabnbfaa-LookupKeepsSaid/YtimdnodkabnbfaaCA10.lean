/- Part 10 of 10 of what this claim's proof stands on: a theory of programs on data, and the contracts of the functions that the law reaches. It holds no condition of its own. -/
import Derived.Test.YtimdnodkabnbfaaCA9
namespace Go.Proofs.Ytimdnodkabnbfaa
open Go Go.RowKit
noncomputable abbrev dy : Fx := { fn := dI, ann := { loops := [(3, { keep := [1, 3, 12, 13, 14] }), (8, { keep := [1, 3, 12, 13, 14, 41, 42, 43] })] }, share := true }
noncomputable abbrev kA : aZ := { D := { T := aX, F := [(hY, ii), (pQ, p8), (qd, pY), (se, so), (p0, p9)], R := [], ovl := [] }, inl := [] }
noncomputable abbrev wh : bh := .data tq
theorem LJ (h_r10_Members : ak prog [] hY ii) (h_r09_Right : ak prog [] pQ p8) (h_r10_Known : ak prog [] qd pY) (h_r07_Find : ak prog [] se so) (h_r07_Right : ak prog [] p0 p9) : XOk prog kA := xok (al (al (al (al (al (aF aK az) h_r07_Right) h_r07_Find) h_r10_Known) h_r09_Right) h_r10_Members) (by kernel_rfl) aE aL aM
noncomputable def BU (o : den ah) : af := af.req (List.length (Prod.fst o) ≤ 1000000) (af.all (den (Ty.slc ab)) (fun (q1 : den (Ty.slc ab)) ↦ q1 = aj (Prod.fst o)) fun (q1 : den (Ty.slc ab)) ↦ af.loop [] dy (lp dI 3) [(1, K.ptr 0 ah []), (3, K.val (Ty.slc ab) q1), (12, K.val (Ty.slc ag) (Prod.fst o)), (13, K.val ae (lnx ag (Prod.fst o))), (14, K.val ae 0)] [(0, Bx.cell ah o)])
theorem GJ (o : den ah) : ai kA wh 5000 [] dy (aA dI) (Env.of (aC Ab (o, ()) 0) []) = BU o := by kernel_rfl
noncomputable def qX (v3 : den (Ty.slc ab)) (v12 : den (Ty.slc ag)) (v13 : den ae) (v14 : den ae) (b0 : den ah) : Env := Env.of [(1, K.ptr 0 ah []), (3, K.val (Ty.slc ab) v3), (12, K.val (Ty.slc ag) v12), (13, K.val ae v13), (14, K.val ae v14)] [(0, Bx.cell ah b0)]
noncomputable def Gh (v3 : den (Ty.slc ab)) (v12 : den (Ty.slc ag)) (v13 : den ae) (v14 : den ae) (b0 : den ah) : af := af.ite (decide (v14 < v13)) (af.req (inB v14 (lnx ag v12)) (af.req True (af.req (da [(!aT (el ag v12 v14), false), (decide (0 < v14), true)] (inB (IntKind.wrap IntKind.i64 (v14 - 1)) (lnx ag (Prod.fst b0)))) (af.all (den Ty.bool) (fun (q5 : den Ty.bool) ↦ q5 = aT (el ag v12 v14)) fun (q5 : den Ty.bool) ↦ af.ite (bif !aT (el ag v12 v14) then true else bif decide (0 < v14) then decide (Prod.fst (Prod.fst (el ag v12 v14)) ≤ Prod.fst (Prod.fst (el ag (Prod.fst b0) (IntKind.wrap IntKind.i64 (v14 - 1))))) else false) (af.ret (K.val (Ty.pair Ty.bool Ty.unit) (false, PUnit.unit))) (af.req (List.length (bM (el ag v12 v14)) ≤ 1000000) (af.all (den (Ty.slc ab)) (fun (q6 : den (Ty.slc ab)) ↦ q6 = bM (el ag v12 v14)) fun (q6 : den (Ty.slc ab)) ↦ af.loop [] dy (lp dI 8) [(1, K.ptr 0 ah []), (3, K.val (Ty.slc ab) v3), (12, K.val (Ty.slc ag) v12), (13, K.val ae v13), (14, K.val ae v14), (41, K.val (Ty.slc ab) q6), (42, K.val ae (lnx ab q6)), (43, K.val ae 0)] [(0, Bx.cell ah b0)])))))) (af.req True (af.all (den Ty.bool) (fun (q5 : den Ty.bool) ↦ q5 = bf v3) fun (q5 : den Ty.bool) ↦ af.ret (K.val (Ty.pair Ty.bool Ty.unit) (q5, PUnit.unit))))
theorem rP (v3 : den (Ty.slc ab)) (v12 : den (Ty.slc ag)) (v13 : den ae) (v14 : den ae) (b0 : den ah) : ai kA wh 5000 [] dy (lp dI 3) (qX v3 v12 v13 v14 b0) = Gh v3 v12 v13 v14 b0 := by kernel_rfl
noncomputable def yp (v3 : den (Ty.slc ab)) (v12 : den (Ty.slc ag)) (v13 : den ae) (v14 : den ae) (v41 : den (Ty.slc ab)) (v42 : den ae) (v43 : den ae) (b0 : den ah) : Env := Env.of [(1, K.ptr 0 ah []), (3, K.val (Ty.slc ab) v3), (12, K.val (Ty.slc ag) v12), (13, K.val ae v13), (14, K.val ae v14), (41, K.val (Ty.slc ab) v41), (42, K.val ae v42), (43, K.val ae v43)] [(0, Bx.cell ah b0)]
noncomputable def FV (v3 : den (Ty.slc ab)) (v12 : den (Ty.slc ag)) (v13 : den ae) (v14 : den ae) (v41 : den (Ty.slc ab)) (v42 : den ae) (v43 : den ae) (b0 : den ah) : af := af.ite (decide (v43 < v42)) (af.req (inB v43 (lnx ab v41)) (af.req True (af.all (den ab) (fun (q8 : den ab) ↦ q8 = n7 v3 (Prod.fst (el ab v41 v43))) fun (q8 : den ab) ↦ af.ite (bif decide (0 ≤ Prod.fst q8) then !eqb ab q8 (el ab v41 v43) else false) (af.ret (K.val (Ty.pair Ty.bool Ty.unit) (false, PUnit.unit))) (af.loop [] dy (lp dI 8) [(1, K.ptr 0 ah []), (3, K.val (Ty.slc ab) v3), (12, K.val (Ty.slc ag) v12), (13, K.val ae v13), (14, K.val ae v14), (41, K.val (Ty.slc ab) v41), (42, K.val ae v42), (43, K.val ae (IntKind.wrap IntKind.i64 (v43 + 1)))] [(0, Bx.cell ah b0)])))) (af.loop [] dy (lp dI 3) [(1, K.ptr 0 ah []), (3, K.val (Ty.slc ab) v3), (12, K.val (Ty.slc ag) v12), (13, K.val ae v13), (14, K.val ae (IntKind.wrap IntKind.i64 (v14 + 1)))] [(0, Bx.cell ah b0)])
theorem rK (v3 : den (Ty.slc ab)) (v12 : den (Ty.slc ag)) (v13 : den ae) (v14 : den ae) (v41 : den (Ty.slc ab)) (v42 : den ae) (v43 : den ae) (b0 : den ah) : ai kA wh 5000 [] dy (lp dI 8) (yp v3 v12 v13 v14 v41 v42 v43 b0) = FV v3 v12 v13 v14 v41 v42 v43 b0 := by kernel_rfl
end Go.Proofs.Ytimdnodkabnbfaa
namespace Go.Proofs.Ytimdnodkabnbfaa
open Go Go.RowKit
end Go.Proofs.Ytimdnodkabnbfaa
namespace Go.Proofs.Ytimdnodkabnbfaa
open Go Go.RowKit
abbrev OkN (n : Nd) : Prop := okT ag n
theorem Mq {n : Nd} (h : OkN n) : okT ab n.1 ∧ okT ab n.2.1 ∧ OkM n.2.2.1 ∧ OkM n.2.2.2.1 := ⟨h.1, h.2.1, h.2.2.1.2, h.2.2.2.1.2⟩
theorem Rk {m : Mem} (h : db m = true) : 0 ≤ (m.1 : Int) ∧ (m.1 : Int) < 16 := by
 unfold db at h
 by_cases h1 : (0 : Int) ≤ m.1
 ·rw [decide_eq_true h1] at h
  exact ⟨h1, of_decide_eq_true h⟩
 ·rw [decide_eq_false h1] at h; cases h
theorem O9 (l : List Nd) (no : Int) : ((eH l no).2 = true ∧ n7 (aj l) no = (eH l no).1 ∧ (eH l no).1.1 = no ∧ ∃ n ∈ l, n.1 = (eH l no).1) ∨ ((eH l no).2 = false ∧ n7 (aj l) no = noM) := by
 unfold eH n7 aj
 rw [List.find?_map]
 cases h : l.find? ((fun m : Mem => decide (m.1 = no)) ∘ sfN) with
 | none =>
  have h' : l.find? (fun n => decide (n.1.1 = no)) = none := h
  rw [h']; exact .inr ⟨rfl, rfl⟩
 | some n =>
  have h' : l.find? (fun n => decide (n.1.1 = no)) = some n := h
  rw [h']
  exact .inl ⟨rfl, rfl, of_decide_eq_true (List.find?_some (p := fun n : Nd => decide (n.1.1 = no)) h'), n, List.mem_of_find?_eq_some h', rfl⟩
def lu (l : List Nd) (m : Mem) : Bool := bif decide (0 ≤ (n7 (aj l) m.1).1) then !decide (n7 (aj l) m.1 = m) else false
theorem G6 {l : List Nd} (hr : ∀ n ∈ l, aT n = true) (m : Mem) : lu l m = kU l m := by
 unfold lu kU
 rcases O9 l m.1 with ⟨h1, h2, h3, n, hn, hnm⟩ | ⟨h1, h2⟩
 ·have hno := (Rk ((FB n).1 (hr n hn)).self).1
  rw [hnm] at hno
  rw [h2, h1, decide_eq_true hno]
 ·rw [h1, h2]; rfl
abbrev GR3 (O : Nat → Prop) (w0 : World) (y : Bool) := bv prog kA (Cx.base O w0) (bR prog O w0 tq fun z => z = (y, ()))
theorem lM : XOk prog kA := LJ yx KL KJ Ni KX
def JF (O : Nat → Prop) (w0 : World) (o : Ov) (i : Nat) (K : List Mem) (y : Bool) (hm : K.length ≤ maxLen) (hbad : (K.all fun m => !lu o.1 m) = false → y = false)
    (hnext : (K.all fun m => !lu o.1 m) = true → GR3 O w0 y [] dy (lp dI 3) (qX (aj o.1) o.1 (lnx ag o.1) (IntKind.wrap .i64 (((i : Nat) : Int) + 1)) o)) :=
  PLift.up <| bl (σ := Unit) K.length (fun j _ => ((K.take j).all fun m => !lu o.1 m) = true)
    (fun j _ => GR3 O w0 y [] dy (lp dI 8) (yp (aj o.1) o.1 (lnx ag o.1) (i : Nat) K (lnx ab K) (j : Nat) o))
    (fun j _ hj hs ih => au lM (rK _ _ _ _ K _ _ o) (by
      refine ⟨fun _ => ⟨aU hj, trivial, bp ?_⟩, fun hc => absurd hj (by rw [bO] at hc; exact of_decide_eq_false hc)⟩
      rw [bD hj, bK hj hm]
      have key : ∀ c : Bool, (bif decide (0 ≤ (n7 (aj o.1) K[j].1).1) then !eqb ab (n7 (aj o.1) K[j].1) K[j] else false) = c → lu o.1 K[j] = c := fun c h => by
        unfold lu; rw [kB] at h; exact h
      refine ⟨fun hc => ⟨_, rfl, ?_⟩, fun hc => ih () ?_⟩
      · have hk := key true hc
        have : (K.all fun m => !lu o.1 m) = false := List.all_eq_false.2 ⟨K[j], List.getElem_mem hj, by rw [hk]; decide⟩
        rw [hbad this]
      · have hk := key false hc
        rw [List.take_succ_eq_append_getElem hj, List.all_append, hs]
        simp [hk]))
    (fun _ hs => au lM (rK _ _ _ _ K _ _ o) ⟨fun hc => absurd (of_decide_eq_true hc) (Int.lt_irrefl _), fun _ => hnext (by rw [List.take_length] at hs; exact hs)⟩)
theorem MQ {l : List Nd} (h : be l = true) : ∀ n ∈ l, aT n = true := fun _ hn => Fl h hn
def Of (O : Nat → Prop) (w0 : World) (o : Ov) (hm : o.1.length ≤ 1000000) :=
 PLift.up <| bl (σ := Unit) o.1.length (fun i _ => ∀ j, j < i → Bb o.1 (j : Nat) = false ∧ ((bM (el ag o.1 (j : Nat))).all fun m => !lu o.1 m) = true)
  (fun i _ => GR3 O w0 (be o.1) [] dy (lp dI 3) (qX (aj o.1) o.1 (lnx ag o.1) (i : Nat) o))
  (fun i _ hi hs ih => au lM (rP _ o.1 _ _ o) (by
   have hw : i < 1000000 := Nat.lt_of_lt_of_le hi hm
   have hsm : IntKind.wrap .i64 (((i : Nat) : Int) - 1) = (i : Int) - 1 := bE (n := (i : Int) - 1) (by omega)
   refine ⟨fun _ => ⟨aU hi, trivial, fun _ h0 => ?_, bp ?_⟩, fun hc => absurd hi (by rw [bO (e := ag)] at hc; exact of_decide_eq_false hc)⟩
   ·have h0 : (0 : Int) < (i : Nat) := of_decide_eq_true h0
    rw [hsm]
    exact ⟨by omega, show (i : Int) - 1 < ((o.1.length : Nat) : Int) by omega⟩
   ·rw [hsm]
    have hb : ∀ c : Bool, (bif !aT (el ag o.1 (i : Nat)) then true else bif decide ((0 : Int) < (i : Nat)) then decide ((el ag o.1 (i : Nat)).1.1 ≤ (el ag o.1 ((i : Nat) - 1)).1.1) else false) = c → Bb o.1 (i : Nat) = c := fun c h => h
    refine ⟨fun hc => ⟨_, rfl, ?_⟩, fun hc => ?_⟩
    ·have := hb true hc
     rw [oq hi (by unfold gl; rw [this]; rfl)]
    ·have hbn := hb false hc
     have hr : aT (el ag o.1 (i : Nat)) = true := by
      cases hn : aT (el ag o.1 (i : Nat)) with
      | true => rfl
      | false => unfold Bb at hbn; rw [hn] at hbn; cases hbn
     have hkl := AH hr
     refine ⟨Nat.le_trans hkl (by decide), bp ((JF O w0 o i (bM (el ag o.1 (i : Nat))) (be o.1) (Nat.le_trans hkl (by decide)) (fun h => ?_) (fun h => ?_)).down 0 () (Nat.zero_le _) rfl)⟩
     ·cases hg : be o.1 with
      | false => rfl
      | true =>
       exfalso
       have hno := Ca hg hi
       unfold gl at hno
       rw [hbn] at hno
       have hno : ((bM (el ag o.1 (i : Nat))).all fun m => !kU o.1 m) = true := hno
       have e : (fun m => !lu o.1 m) = fun m => !kU o.1 m := by funext m; rw [G6 (MQ hg)]
       rw [e, hno] at h
       cases h
     ·rw [bK hi (Nat.le_trans hm (by decide))]
      refine ih () fun j hj => ?_
      rcases Nat.lt_succ_iff_lt_or_eq.1 hj with h1 | h1
      ·exact hs j h1
      ·subst h1; exact ⟨hbn, h⟩))
  (fun _ hs => au lM (rP _ o.1 _ _ o) ⟨fun hc => absurd (of_decide_eq_true hc) (Int.lt_irrefl _), fun _ => ⟨trivial, bp ⟨_, rfl, by
   show (bf (aj o.1), ()) = (be o.1, ())
   have hr : ∀ n ∈ o.1, aT n = true := fun n hn => by
    obtain ⟨i, hi, rfl⟩ := List.getElem_of_mem hn
    have hb := (hs i hi).1
    unfold Bb at hb
    rw [bD (e := ag) hi] at hb
    cases hq : aT o.1[i] with
    | true => rfl
    | false => rw [hq] at hb; cases hb
   unfold be
   rw [show (List.range o.1.length).all (fun i => gl o.1 (i : Nat)) = true from List.all_eq_true.2 fun i hi => by
    obtain ⟨h1, h2⟩ := hs i (List.mem_range.1 hi)
    unfold gl
    rw [h1]
    show ((bM (el ag o.1 (i : Nat))).all fun m => !kU o.1 m) = true
    have e : (fun m => !kU o.1 m) = fun m => !lu o.1 m := by funext m; rw [G6 hr]
    rw [e]; exact h2]
   rfl⟩⟩⟩)
theorem Lh : ak prog [] pU pP :=
 bq (S := pP) lM (fx := dy) Jc (by kernel_rfl) (fun h => by cases h) (T := fun x => BU x.1) (fun x => GJ x.1) fun O w0 x _ hp =>
  ⟨hp, bp ((Of O w0 x.1 hp).down 0 () (Nat.zero_le _) (fun j hj => absurd hj (Nat.not_lt_zero _)))⟩
end Go.Proofs.Ytimdnodkabnbfaa
namespace Go.Proofs.Ytimdnodkabnbfaa
open Go Go.RowKit
def cN (l : List Nd) (id : List Int) (many : Int) : List Mem × Int :=
 bif (bif (bif !be l then true else decide (many < 1)) then true else decide (4 < many)) then ([], 1) else
 bif !decide ((cI (aj l) id).2 = 0) then ([], (cI (aj l) id).2) else
 bif !decide ((cU (aj l) (cI (aj l) id).1.1 (cw many ((aj l).length : Nat) - 1)).2 = 0) then ([], (cU (aj l) (cI (aj l) id).1.1 (cw many ((aj l).length : Nat) - 1)).2) else
 ((cI (aj l) id).1 :: (cU (aj l) (cI (aj l) id).1.1 (cw many ((aj l).length : Nat) - 1)).1, 0)
noncomputable abbrev lX : bg := ⟨uV, oz, fun x => ((cN x.1.1 x.2.1 x.2.2.1).1, (cN x.1.1 x.2.1 x.2.2.1).2, ()), fun x => List.length x.1.1 ≤ 1000000, false⟩
def E8 (l : List Nd) (many : Int) : Int := bif decide (((aj l).length : Int) < many) then ((aj l).length : Int) else many
def gL (l : List Nd) (id : List Int) (many : Int) : List Mem := gE (aj l) id :: (jU (aj l) (gE (aj l) id) (E8 l many - 1).toNat).1
noncomputable abbrev qb : bg := ⟨ze, A7, fun x => (gL x.1.1 x.2.1 x.2.2.1, ()), fun x => List.length x.1.1 ≤ 900 ∧ (1 : Int) ≤ x.2.2.1 ∧ (x.2.2.1 : Int) ≤ 4, false⟩
end Go.Proofs.Ytimdnodkabnbfaa
namespace Go.Proofs.Ytimdnodkabnbfaa
open Go Go.RowKit
noncomputable abbrev ve : Fx := { fn := pu, ann := { }, own := [50], share := true }
noncomputable abbrev wA : aZ := { D := { T := aX, F := [(im, ij), (f5, f7), (ou, lz), (n5, lx)], R := [], ovl := [] }, inl := [] }
noncomputable abbrev Fz : bh := .data oz
theorem Gg (h_chord_Right : ak prog [] im ij) (h_chord_Members : ak prog [] f5 f7) (h_ring_Owner : ak prog [] ou lz) (h_ring_After : ak prog [] n5 lx) : XOk prog wA := xok (al (al (al (al (aF aK az) h_ring_After) h_ring_Owner) h_chord_Members) h_chord_Right) (by kernel_rfl) aE aL aM
noncomputable def wu (o : den ah) (id : den tId) (many : den ae) : af := af.req (List.length (Prod.fst o) ≤ 1000000) (af.all (den Ty.bool) (fun (q3 : den Ty.bool) ↦ q3 = be (Prod.fst o)) fun (q3 : den Ty.bool) ↦ af.ite (bif bif !q3 then true else decide (many < 1) then true else decide (4 < many)) (af.ret (K.val (Ty.pair (Ty.slc ab) (Ty.pair ae Ty.unit)) ([], 1, PUnit.unit))) (af.req (List.length (Prod.fst o) ≤ 1000000) (af.all (den (Ty.slc ab)) (fun (q4 : den (Ty.slc ab)) ↦ q4 = aj (Prod.fst o)) fun (q4 : den (Ty.slc ab)) ↦ af.req True (af.all (den (Ty.pair ab (Ty.pair ae Ty.unit))) (fun (q5 : den (Ty.pair ab (Ty.pair ae Ty.unit))) ↦ q5 = (Prod.fst (cI q4 id), Prod.snd (cI q4 id), PUnit.unit)) fun (q5 : den (Ty.pair ab (Ty.pair ae Ty.unit))) ↦ af.ite (!decide (Prod.fst (Prod.snd q5) = 0)) (af.ret (K.val (Ty.pair (Ty.slc ab) (Ty.pair ae Ty.unit)) ([], Prod.fst (Prod.snd q5), PUnit.unit))) (af.req True (af.all (den (Ty.pair (Ty.slc ab) (Ty.pair ae Ty.unit))) (fun (q6 : den (Ty.pair (Ty.slc ab) (Ty.pair ae Ty.unit))) ↦ q6 = (Prod.fst (cU q4 (Prod.fst (Prod.fst q5)) (IntKind.wrap IntKind.i64 (cw many (lnx ab q4) - 1))), Prod.snd (cU q4 (Prod.fst (Prod.fst q5)) (IntKind.wrap IntKind.i64 (cw many (lnx ab q4) - 1))), PUnit.unit)) fun (q6 : den (Ty.pair (Ty.slc ab) (Ty.pair ae Ty.unit))) ↦ af.ite (!decide (Prod.fst (Prod.snd q6) = 0)) (af.ret (K.val (Ty.pair (Ty.slc ab) (Ty.pair ae Ty.unit)) ([], Prod.fst (Prod.snd q6), PUnit.unit))) (af.req (List.length (List.set (List.replicate 1 (zero ab)) 0 (Prod.fst q5) ++ Prod.fst q6) ≤ bH) (af.ret (K.val (Ty.pair (Ty.slc ab) (Ty.pair ae Ty.unit)) (List.set (List.replicate 1 (zero ab)) 0 (Prod.fst q5) ++ Prod.fst q6, 0, PUnit.unit))))))))))
theorem BF (o : den ah) (id : den tId) (many : den ae) : ai wA Fz 5000 [] ve (aA pu) (Env.of (aC uV (o, id, many, ()) 0) []) = wu o id many := by kernel_rfl
noncomputable abbrev AT : Fx := { fn := vL, ann := { }, own := [22], share := true }
noncomputable abbrev Cr : aZ := { D := { T := aX, F := [(hY, ii), (kE, kp), (pJ, p6)], R := [], ovl := [] }, inl := [] }
noncomputable abbrev La : bh := .data A7
theorem LV (h_r10_Members : ak prog [] hY ii) (h_r07_Owner : ak prog [] kE kp) (h_r07_After : ak prog [] pJ p6) : XOk prog Cr := xok (al (al (al (aF aK az) h_r07_After) h_r07_Owner) h_r10_Members) (by kernel_rfl) aE aL aM
noncomputable def Co (o : den ah) (id : den tId) (many : den ae) : af := af.req (List.length (Prod.fst o) ≤ 1000000) (af.all (den (Ty.slc ab)) (fun (q3 : den (Ty.slc ab)) ↦ q3 = aj (Prod.fst o)) fun (q3 : den (Ty.slc ab)) ↦ af.ite (decide (lnx ab q3 < many)) (af.req True (af.all (den ab) (fun (q4 : den ab) ↦ q4 = gE q3 id) fun (q4 : den ab) ↦ af.req (IntKind.wrap IntKind.i64 (lnx ab q3 - 1) ≤ 1000) (af.all (den (Ty.slc ab)) (fun (q5 : den (Ty.slc ab)) ↦ q5 = Prod.fst (jU q3 q4 (Int.toNat (IntKind.wrap IntKind.i64 (lnx ab q3 - 1))))) fun (q5 : den (Ty.slc ab)) ↦ af.req (List.length (List.set (List.replicate 1 (zero ab)) 0 q4 ++ q5) ≤ bH) (af.ret (K.val (Ty.pair (Ty.slc ab) Ty.unit) (List.set (List.replicate 1 (zero ab)) 0 q4 ++ q5, PUnit.unit)))))) (af.req True (af.all (den ab) (fun (q4 : den ab) ↦ q4 = gE q3 id) fun (q4 : den ab) ↦ af.req (IntKind.wrap IntKind.i64 (many - 1) ≤ 1000) (af.all (den (Ty.slc ab)) (fun (q5 : den (Ty.slc ab)) ↦ q5 = Prod.fst (jU q3 q4 (Int.toNat (IntKind.wrap IntKind.i64 (many - 1))))) fun (q5 : den (Ty.slc ab)) ↦ af.req (List.length (List.set (List.replicate 1 (zero ab)) 0 q4 ++ q5) ≤ bH) (af.ret (K.val (Ty.pair (Ty.slc ab) Ty.unit) (List.set (List.replicate 1 (zero ab)) 0 q4 ++ q5, PUnit.unit)))))))
theorem Fy (o : den ah) (id : den tId) (many : den ae) : ai Cr La 5000 [] AT (aA vL) (Env.of (aC ze (o, id, many, ()) 0) []) = Co o id many := by kernel_rfl
noncomputable abbrev qp : Fx := { fn := mF, ann := { }, share := true }
noncomputable abbrev rQ : aZ := { D := { T := aX, F := [(uP, uF), (mm, lX), (pU, pP), (qf, qh), (pX, qb), (sk, si)], R := [], ovl := [] }, inl := [] }
noncomputable abbrev BE : bh := .data zm
theorem BD (h_l11_few : ak prog [] uP uF) (h_lookup_Keeps : ak prog [] mm lX) (h_r10_Right : ak prog [] pU pP) (h_l11_alive : ak prog [] qf qh) (h_r11_Keeps : ak prog [] pX qb) (h_r07_Same : ak prog [] sk si) : XOk prog rQ := xok (al (al (al (al (al (al (aF aK az) h_r07_Same) h_r11_Keeps) h_l11_alive) h_r10_Right) h_lookup_Keeps) h_l11_few) (by kernel_rfl) aE aL aM
noncomputable def rH (o : den ah) (id : den tId) (many : den ae) : af := af.req True (af.all (den ah) (fun (q3 : den ah) ↦ q3 = (xc (Prod.fst o), PUnit.unit)) fun (q3 : den ah) ↦ af.req (List.length (Prod.fst q3) ≤ 1000000) (af.all (den (Ty.pair (Ty.slc ab) (Ty.pair ae Ty.unit))) (fun (q4 : den (Ty.pair (Ty.slc ab) (Ty.pair ae Ty.unit))) ↦ q4 = (Prod.fst (cN (Prod.fst q3) id many), Prod.snd (cN (Prod.fst q3) id many), PUnit.unit)) fun (q4 : den (Ty.pair (Ty.slc ab) (Ty.pair ae Ty.unit))) ↦ af.req (List.length (Prod.fst q3) ≤ 1000000) (af.all (den Ty.bool) (fun (q5 : den Ty.bool) ↦ q5 = be (Prod.fst q3)) fun (q5 : den Ty.bool) ↦ af.ite (bif bif !q5 then true else decide (many < 1) then true else decide (4 < many)) (af.req True (af.all (den Ty.bool) (fun (q6 : den Ty.bool) ↦ q6 = true) fun (q6 : den Ty.bool) ↦ af.ret (K.val (Ty.pair Ty.bool Ty.unit) (bif bif q6 then decide (Prod.fst (Prod.snd q4) = 1) else false then decide (lnx ab (Prod.fst q4) = 0) else false, PUnit.unit)))) (af.ite (decide (lnx ag (Prod.fst q3) = 0)) (af.req True (af.all (den Ty.bool) (fun (q6 : den Ty.bool) ↦ q6 = true) fun (q6 : den Ty.bool) ↦ af.ret (K.val (Ty.pair Ty.bool Ty.unit) (bif bif q6 then decide (Prod.fst (Prod.snd q4) = 6) else false then decide (lnx ab (Prod.fst q4) = 0) else false, PUnit.unit)))) (af.req True (af.all (den Ty.bool) (fun (q6 : den Ty.bool) ↦ q6 = true) fun (q6 : den Ty.bool) ↦ af.req (da [(bif q6 then decide (Prod.fst (Prod.snd q4) = 0) else false, true)] (List.length (Prod.fst q3) ≤ 900 ∧ 1 ≤ many ∧ many ≤ 4)) (af.req (da [(bif q6 then decide (Prod.fst (Prod.snd q4) = 0) else false, true)] True) (af.ret (K.val (Ty.pair Ty.bool Ty.unit) (bif bif q6 then decide (Prod.fst (Prod.snd q4) = 0) else false then decide (Prod.fst q4 = gL (Prod.fst q3) id many) else false, PUnit.unit))))))))))
theorem xQ (o : den ah) (id : den tId) (many : den ae) : ai rQ BE 5000 [] qp (aA mF) (Env.of (aC ew (o, id, many, ()) 0) []) = rH o id many := by kernel_rfl
end Go.Proofs.Ytimdnodkabnbfaa
namespace Go.Proofs.Ytimdnodkabnbfaa
open Go Go.RowKit
theorem Gq (l : List Nd) : (aj l).length = l.length := by unfold aj; rw [List.length_map]
theorem N2 (l : List Mem) (no many : Int) : (cU l no many).1.length ≤ 16 := by
 unfold cU
 by_cases h1 : many < 0
 ·rw [decide_eq_true h1]; exact Nat.zero_le _
 rw [decide_eq_false h1]
 by_cases h2 : 16 < many
 ·rw [decide_eq_true h2]; exact Nat.zero_le _
 rw [decide_eq_false h2]
 cases (!decide ((cg l no).2 = 0))
 ·show (oJ _ _).length ≤ 16
  rw [JT]; omega
 ·exact Nat.zero_le _
theorem Gw : ak prog [] mm lX :=
 bq (S := lX) (Gg yJ vj I1 I3) (fx := ve) Fo (by kernel_rfl) (fun h => by cases h) (T := fun x => wu x.1 x.2.1 x.2.2.1) (fun x => BF x.1 x.2.1 x.2.2.1) fun O w0 x _ hp => by
  obtain ⟨o, id, many, ⟨⟩⟩ := x
  have hp : o.1.length ≤ 1000000 := hp
  have leaf : ∀ {p : List Mem × Int}, cN o.1 id many = p → ∃ q, bu oz (K.val (Ty.pair (Ty.slc ab) (Ty.pair ae Ty.unit)) (p.1, p.2, PUnit.unit)) = some q ∧ q = ((cN o.1 id many).1, (cN o.1 id many).2, ()) := fun {p} e => ⟨_, rfl, by rw [e]⟩
  refine ⟨hp, bp ⟨fun h => leaf (p := (_, _)) ?_, fun h => ⟨hp, bp ⟨trivial, bp ⟨fun h2 => leaf (p := (_, _)) ?_, fun h2 => ⟨trivial, bp ?_⟩⟩⟩⟩⟩⟩
  ·have h : (bif (bif !be o.1 then true else decide ((many : Int) < 1)) then true else decide ((4 : Int) < many)) = true := h
   unfold cN; rw [h]; rfl
  ·have h : (bif (bif !be o.1 then true else decide ((many : Int) < 1)) then true else decide ((4 : Int) < many)) = false := h
   have h2 : (!decide ((cI (aj o.1) id).2 = 0)) = true := h2
   unfold cN; rw [h, h2]; rfl
  ·have h : (bif (bif !be o.1 then true else decide ((many : Int) < 1)) then true else decide ((4 : Int) < many)) = false := h
   have h2 : (!decide ((cI (aj o.1) id).2 = 0)) = false := h2
   have hb : (1 : Int) ≤ many ∧ (many : Int) ≤ 4 := by
    cases hq : be o.1 <;> rw [hq] at h
    ·cases h
    ·by_cases h3 : (many : Int) < 1
     ·rw [decide_eq_true h3] at h; cases h
     ·rw [decide_eq_false h3] at h
      exact ⟨Int.not_lt.1 h3, Int.not_lt.1 (of_decide_eq_false h)⟩
   have hw : IntKind.wrap .i64 (cw many (lnx ab (aj o.1)) - 1) = cw many ((aj o.1).length : Nat) - 1 := by
    have e : lnx ab (aj o.1) = (((aj o.1).length : Nat) : Int) := rfl
    rw [e]
    refine bE (n := cw many ((aj o.1).length : Nat) - 1) ?_
    have := Gq o.1
    unfold cw
    split <;> omega
   rw [hw]
   refine ⟨fun h3 => leaf (p := (_, _)) ?_, fun h3 => ⟨?_, leaf (p := (_, _)) ?_⟩⟩
   ·have h3 : (!decide ((cU (aj o.1) (cI (aj o.1) id).1.1 (cw many ((aj o.1).length : Nat) - 1)).2 = 0)) = true := h3
    unfold cN; rw [h, h2, h3]; rfl
   ·have := N2 (aj o.1) (cI (aj o.1) id).1.1 (cw many ((aj o.1).length : Nat) - 1)
    rw [List.length_append]
    exact Nat.le_trans (Nat.add_le_add_left this 1) (by decide)
   ·have h3 : (!decide ((cU (aj o.1) (cI (aj o.1) id).1.1 (cw many ((aj o.1).length : Nat) - 1)).2 = 0)) = false := h3
    unfold cN; rw [h, h2, h3]; rfl
theorem IU (l : List Mem) (m : Mem) : ∀ n, (jU l m n).1.length = n
 | 0 => rfl
 | n + 1 => by
  show ((jU l m n).1 ++ [_]).length = n + 1
  rw [List.length_append, IU l m n]; rfl
theorem OZ {x : Int} (h1 : 1 ≤ x) (h2 : x ≤ 4) : IntKind.wrap .i64 (x - 1) = x - 1 ∧ x - 1 ≤ 1000 := ⟨bE (by omega), by omega⟩
theorem LA : ak prog [] pX qb :=
 bq (S := qb) (LV yx Cl KH) (fx := AT) I0 (by kernel_rfl) (fun h => by cases h) (T := fun x => Co x.1 x.2.1 x.2.2.1) (fun x => Fy x.1 x.2.1 x.2.2.1) fun O w0 x _ hp => by
  obtain ⟨o, id, many, ⟨⟩⟩ := x
  obtain ⟨p1, p2, p3⟩ : o.1.length ≤ 900 ∧ (1 : Int) ≤ many ∧ (many : Int) ≤ 4 := hp
  have hml := Gq o.1
  have e1 : IntKind.wrap .i64 (lnx ab (aj o.1) - 1) = (((aj o.1).length : Nat) : Int) - 1 := bE (n := (((aj o.1).length : Nat) : Int) - 1) (by omega)
  obtain ⟨e2, hb2⟩ := OZ p2 p3
  have len : ∀ (n : Int), n ≤ 1000 → (List.set (List.replicate 1 (zero ab)) 0 (gE (aj o.1) id) ++ (jU (aj o.1) (gE (aj o.1) id) n.toNat).1).length ≤ bH := fun n hn => by
   rw [List.length_append, IU]
   exact Nat.le_trans (show 1 + n.toNat ≤ 1001 by omega) (by decide)
  refine ⟨Nat.le_trans p1 (by decide), bp ⟨fun h => ⟨trivial, bp ?_⟩, fun h => ⟨trivial, bp ?_⟩⟩⟩
  ·rw [e1]
   have h : decide ((((aj o.1).length : Nat) : Int) < many) = true := h
   have hb : (((aj o.1).length : Nat) : Int) - 1 ≤ 1000 := by omega
   refine ⟨hb, bp ⟨len _ hb, _, rfl, ?_⟩⟩
   show _ = (gL o.1 id many, ())
   unfold gL E8
   rw [h]; rfl
  ·rw [e2]
   have h : decide ((((aj o.1).length : Nat) : Int) < many) = false := h
   refine ⟨hb2, bp ⟨len _ hb2, _, rfl, ?_⟩⟩
   show _ = (gL o.1 id many, ())
   unfold gL E8
   rw [h]; rfl
theorem Lb {l : List Nd} (h : be l = true) : bf (aj l) = true := by
 unfold be at h
 rw [Bool.and_eq_true] at h
 exact h.2
abbrev OkO (l : List Nd) : Prop := ∀ n ∈ l, OkN n
theorem KS {l : List Nd} (h : OkO l) : OkM (aj l) := fun m hm => by
 obtain ⟨n, hn, rfl⟩ := List.mem_map.1 hm
 exact (Mq (h n hn)).1
theorem OC {l : List Nd} (hr : be l = true) (hk : OkO l) (h0 : 0 < l.length) {id : List Int} (hid : oB id) {many : Int} (h1 : 1 ≤ many) (h4 : many ≤ 4) : cN l id many = (gL l id many, 0) := by
 have hR := Lb hr
 have hM := KS hk
 have h0' : 0 < (aj l).length := by rw [Gq]; exact h0
 have ho := OA hR hM h0' hid
 have hmin := zQ hR hM h0' hid
 obtain ⟨n, hn⟩ : ∃ n : Nat, cw many ((aj l).length : Nat) - 1 = (n : Int) := ⟨(cw many ((aj l).length : Nat) - 1).toNat, by unfold cw; split <;> omega⟩
 have hn16 : n ≤ 16 := by
  have : cw many ((aj l).length : Nat) ≤ many := by unfold cw; split <;> omega
  omega
 have hmk : E8 l many = cw many ((aj l).length : Nat) := by
  unfold E8 cw
  by_cases h : (((aj l).length : Nat) : Int) < many
  ·rw [decide_eq_true h, if_pos h]; rfl
  ·rw [decide_eq_false h, if_neg h]; rfl
 have ha := Ny hR hmin.1 hn16
 unfold cN gL
 rw [hr, decide_eq_false (show ¬ many < 1 by omega), decide_eq_false (show ¬ 4 < many by omega), ho, hn, ha, hmk, hn]
 show (gE (aj l) id :: oJ (srt (aj l) (gE (aj l) id)) n, (0 : Int)) = _
 rw [Int.toNat_natCast, OK hR hM hmin.1]
theorem RW {l : List Nd} (h : OkO l) : OkO (xc l) := fun n hn => by
 obtain ⟨x, hx, rfl⟩ := List.mem_map.1 hn
 have hx := List.mem_of_mem_take hx
 obtain ⟨k1, k2, k3, k4⟩ := Mq (h x hx)
 refine ⟨k1, k2, ⟨?_, fun m hm => k3 m (List.mem_of_mem_take hm)⟩, ⟨?_, fun m hm => k4 m (List.mem_of_mem_take hm)⟩, trivial⟩
 ·exact Nat.le_trans (show (x.2.2.1.take 6).length ≤ 6 by rw [List.length_take]; omega) (by decide)
 ·exact Nat.le_trans (show (x.2.2.2.1.take 18).length ≤ 18 by rw [List.length_take]; omega) (by decide)
theorem BJ : ak prog [] rL (PF ew) :=
 bq (S := PF ew) (BD OI Gw Lh LP LA Nz) (fx := qp) zH (by kernel_rfl) (fun _ _ => trivial) (T := fun x => rH x.1 x.2.1 x.2.2.1) (fun x => xQ x.1 x.2.1 x.2.2.1) fun O w0 x hk _ => by
  obtain ⟨o, id, many, ⟨⟩⟩ := x
  refine ⟨trivial, bp ?_⟩
  have hql := Qa o.1
  have hko := RW (l := o.1) hk.1.1.2
  have hid : oB id := Ms hk.2.1
  generalize (xc o.1 : List Nd) = q at hql hko ⊢
  have hq : q.length ≤ 1000000 := Nat.le_trans hql (by decide)
  refine ⟨hq, bp ⟨hq, bp ⟨fun h => ⟨trivial, bp ⟨_, rfl, Prod.ext ?_ rfl⟩⟩, fun h => ?_⟩⟩⟩
  ·have h : (bif bif !be q then true else decide ((many : Int) < 1) then true else decide ((4 : Int) < many)) = true := h
   have e : cN q id many = ([], 1) := by unfold cN; rw [h]; rfl
   show (bif bif true then decide ((cN q id many).2 = 1) else false then decide (lnx ab (cN q id many).1 = 0) else false) = true
   rw [e]; rfl
  ·have h : (bif bif !be q then true else decide ((many : Int) < 1) then true else decide ((4 : Int) < many)) = false := h
   have h1 : be q = true := by
    cases hq : be q <;> rw [hq] at h
    cases h
   have hb : (1 : Int) ≤ many ∧ (many : Int) ≤ 4 := by
    rw [h1] at h
    by_cases h3 : (many : Int) < 1
    ·rw [decide_eq_true h3] at h; cases h
    ·rw [decide_eq_false h3] at h
     exact ⟨Int.not_lt.1 h3, Int.not_lt.1 (of_decide_eq_false h)⟩
   refine ⟨fun h0 => ⟨trivial, bp ⟨_, rfl, Prod.ext ?_ rfl⟩⟩, fun h0 => ⟨trivial, bp ⟨fun _ => ⟨Nat.le_trans hql (by decide), hb.1, hb.2⟩, fun _ => trivial, _, rfl, Prod.ext ?_ rfl⟩⟩⟩
   ·have h0 : ((q.length : Nat) : Int) = 0 := of_decide_eq_true h0
    have hq0 : q = [] := List.eq_nil_of_length_eq_zero (by omega)
    subst hq0
    have e : cN [] id many = ([], 6) := by
     unfold cN; rw [h]; rfl
    show (bif bif true then decide ((cN [] id many).2 = 6) else false then decide (lnx ab (cN [] id many).1 = 0) else false) = true
    rw [e]; rfl
   ·have h0 : ¬ ((q.length : Nat) : Int) = 0 := of_decide_eq_false h0
    show (bif bif true then decide ((cN q id many).2 = 0) else false then decide ((cN q id many).1 = gL q id many) else false) = true
    rw [OC h1 hko (by omega) hid hb.1 hb.2]
    rw [decide_eq_true (show (gL q id many, (0 : Int)).1 = gL q id many from rfl)]
    rfl
end Go.Proofs.Ytimdnodkabnbfaa
