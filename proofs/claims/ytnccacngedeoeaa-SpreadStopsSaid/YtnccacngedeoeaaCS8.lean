/- Part 8 of 8 of what this claim's proof stands on: a theory of programs on data, and the contracts of the functions that the law reaches. It holds no condition of its own. -/
import Derived.Test.YtnccacngedeoeaaCS7
namespace Go.Proofs.Ytnccacngedeoeaa
open Go Go.RowKit
structure Nx (O : Nat → Prop) (w0 : World) (l : List Lk) (y : Bool) : Prop where
 len : l.length ≤ 1000000
 same : (l.filter (fq (dv l))).length = l.length → y = decide (l.length = 0)
 next : (l.filter (fq (dv l))).length ≠ l.length → GA O w0 y [] ap (lp aq 4) (fZ (l.filter (fq (dv l))))
def FS (O : Nat → Prop) (w0 : World) (l : List Lk) (y : Bool) (h : Nx O w0 l y) :=
 PLift.up <| dZ (σ := Nat × List Lk) l.length (fun j s => s.1 < j ∧ s.2.length = l.length ∧ s.2.take s.1 = (l.take j).filter (fq (dv l)) ∧ s.2.drop j = l.drop j)
  (fun j s => GA O w0 y (dh l (s.1 : Nat) (j : Nat) s.2 (dv l)) aJ (lp aH 5) (dt l (s.1 : Nat) (j : Nat) s.2 (dv l)))
  (fun j s hj hs ih => aZ dE (cN l _ _ s.2 _) (by
   obtain ⟨h1, h2, h3, h4⟩ := hs
   have hl := h.len
   have hjb : j < s.2.length := by omega
   have ej : s.2[j] = l[j] := by
    have e1 : (s.2.drop j)[0]? = (l.drop j)[0]? := by rw [h4]
    rw [List.getElem?_drop, List.getElem?_drop, Nat.add_zero, List.getElem?_eq_getElem hjb, List.getElem?_eq_getElem hj] at e1
    exact Option.some.inj e1
   have ed : s.2.drop (j + 1) = l.drop (j + 1) := by
    have e1 := congrArg (List.drop 1) h4
    rwa [List.drop_drop, List.drop_drop] at e1
   have el1 : el ah s.2 (j : Nat) = l[j] := by rw [cV hjb, ej]
   refine ⟨fun _ => ⟨cO hjb, cO hjb, trivial, fun hc => ⟨cO (by omega), cO (by omega), ?_⟩, fun hc => ?_⟩, fun hc => ?_⟩
   ·rw [el1] at hc ⊢
    have hc : (!!fq (dv l) l[j]) = true := hc
    rw [Bool.not_not] at hc
    rw [dz (n := s.1) (m := s.2.length) (by omega) (by omega), dz hjb (by omega)]
    refine ih (s.1 + 1, kG ah s.2 (s.1 : Nat) l[j]) ⟨by show s.1 + 1 < j + 1; omega, ?_, ?_, ?_⟩
    ·show (List.set s.2 _ _).length = _
     rw [List.length_set]; exact h2
    ·show List.take (s.1 + 1) (List.set s.2 (Int.toNat (s.1 : Nat)) l[j]) = _
     rw [Int.toNat_natCast, List.take_succ_eq_append_getElem (by rw [List.length_set]; omega), List.getElem_set_self, List.take_set_of_le (Nat.le_refl _), h3, List.take_succ_eq_append_getElem hj, List.filter_append, List.filter_cons, if_pos hc]
     rfl
    ·show List.drop (j + 1) (List.set s.2 (Int.toNat (s.1 : Nat)) l[j]) = _
     rw [Int.toNat_natCast, List.drop_set_of_lt (by omega)]
     exact ed
   ·rw [el1] at hc
    have hc : (!!fq (dv l) l[j]) = false := hc
    rw [Bool.not_not] at hc
    rw [dz hjb (by omega)]
    refine ih (s.1, s.2) ⟨by show s.1 < j + 1; omega, h2, ?_, ed⟩
    show List.take s.1 s.2 = _
    rw [h3, List.take_succ_eq_append_getElem hj, List.filter_append, List.filter_cons, if_neg (by rw [hc]; simp), List.filter_nil, List.append_nil]
   ·rw [dn] at hc
    exact absurd hjb (of_decide_eq_false hc)))
  (fun s hs => aZ dE (cN l _ _ s.2 _) (by
   obtain ⟨h1, h2, h3, h4⟩ := hs
   have hi : s.1 < s.2.length := by omega
   rw [List.take_length] at h3
   have e0 : Int.toNat ((s.1 : Nat) : Int) = s.1 := Int.toNat_natCast _
   have e1 : Int.toNat ((s.2.length : Nat) : Int) = s.2.length := Int.toNat_natCast _
   have eov : ∀ ys : List Lk, List.take (Int.toNat ((s.1 : Nat) : Int)) (over s.2 (0 + Int.toNat ((s.1 : Nat) : Int)) ys) = l.filter (fq (dv l)) := fun ys => by
    unfold over
    rw [e0, Nat.zero_add, List.append_assoc, List.take_append_of_le_length (by rw [List.length_take]; omega), List.take_take, Nat.min_self, h3]
   have hov : ∀ ys : List Lk, s.1 ≤ (over s.2 (0 + Int.toNat ((s.1 : Nat) : Int)) ys).length := fun ys => by
    unfold over
    rw [e0, Nat.zero_add, List.length_append, List.length_append, List.length_take]
    omega
   refine ⟨fun hc => ?_, fun _ => ⟨Bt _, ⟨Int.natCast_nonneg _, by show ((s.1 : Nat) : Int) ≤ _; omega, by show ((s.2.length : Nat) : Int) ≤ ((s.2.length - 0 : Nat) : Int); omega⟩, ?_, ⟨by decide, Int.natCast_nonneg _, Int.ofNat_le.2 (hov _)⟩, DM O w0 l y _ rfl h.same h.next (eov _)⟩⟩
   ·rw [dn] at hc
    have := of_decide_eq_true hc
    omega
   ·unfold vok
    rw [e0, e1]
    omega))
def FY (O : Nat → Prop) (w0 : World) (l : List Lk) (y : Bool) (h : Nx O w0 l y) :=
 PLift.up <| dZ (σ := Unit) l.length (fun i _ => (l.take i).filter (fq (dv l)) = l.take i)
  (fun i _ => GA O w0 y (dx l (lnx ah l) (i : Nat) l (dv l)) bB (lp bw 2) (dw l (lnx ah l) (i : Nat) l (dv l)))
  (fun i _ hi hb ih => aZ dE (cT l _ _ l _) (by
   have hl := h.len
   have e : el ah l (i : Nat) = l[i] := cV hi
   refine ⟨fun _ => ⟨cO hi, cO hi, trivial, fun hc => ⟨fun h1 => ?_, fun _ => ?_⟩, fun hc => ?_⟩, fun hc => ?_⟩
   ·have h1 : ((i : Nat) : Int) = -1 := of_decide_eq_true h1
    omega
   ·rw [e] at hc
    have hc : (!fq (dv l) l[i]) = true := hc
    rw [dz hi (by omega)]
    refine (FS O w0 l y h).down (i + 1) (i, l) hi ⟨Nat.lt_succ_self i, rfl, ?_, rfl⟩
    show l.take i = _
    rw [List.take_succ_eq_append_getElem hi, List.filter_append, hb, List.filter_cons, if_neg (by simpa using hc), List.filter_nil, List.append_nil]
   ·rw [e] at hc
    have hc : (!fq (dv l) l[i]) = false := hc
    rw [dz hi (by omega)]
    refine ih () ?_
    rw [List.take_succ_eq_append_getElem hi, List.filter_append, hb, List.filter_cons, if_pos (by simpa using hc)]
    rfl
   ·rw [show decide ((i : Nat) < lnx ah l) = decide (i < l.length) from dn l] at hc
    exact absurd hi (of_decide_eq_false hc)))
  (fun _ hb => aZ dE (cT l _ _ l _) (by
   rw [List.take_length] at hb
   refine ⟨fun hc => ?_, fun _ => ⟨fun _ => DM O w0 l y _ rfl h.same h.next hb.symm, fun hc => by cases hc⟩⟩
   exact absurd (Int.ofNat_lt.1 (of_decide_eq_true hc)) (Nat.lt_irrefl _)))
def FO (O : Nat → Prop) (w0 : World) (l : List Lk) (y : Bool) (h : Nx O w0 l y) :=
 PLift.up <| dZ (σ := tv) l.length (fun i m => m = dv (l.take i))
  (fun i m => GA O w0 y [] ap (lp aq 6) (lS l l (lnx ah l) (i : Nat) m))
  (fun i m hi hm ih => aZ dE (jw l l _ _ m) (by
   have hl := h.len
   have e : el ah l (i : Nat) = l[i] := cV hi
   refine ⟨fun _ => ⟨cO hi, trivial, (fun hc => by cases hc), fun _ => ?_⟩, fun hc => ?_⟩
   ·rw [e, dz hi (by omega)]
    refine ih _ ?_
    rw [hm]
    unfold dv
    rw [List.take_succ_eq_append_getElem hi, List.foldl_append]
    rfl
   ·rw [dn] at hc
    exact absurd hi (of_decide_eq_false hc)))
  (fun m hm => aZ dE (jw l l _ _ m) (by
   rw [List.take_length] at hm
   subst hm
   refine ⟨fun hc => ?_, fun _ => ⟨Nat.le_trans h.len (by decide), (FY O w0 l y h).down 0 () (Nat.zero_le _) rfl⟩⟩
   rw [dn] at hc
   exact absurd (of_decide_eq_true hc) (Nat.lt_irrefl _)))
theorem DE (O : Nat → Prop) (w0 : World) : ∀ (n : Nat) (l : List Lk), l.length < n → l.length ≤ 1000000 → GA O w0 (le n l) [] ap (lp aq 4) (fZ l)
 | 0, l, h, _ => absurd h (Nat.not_lt_zero _)
 | n + 1, l, h, hl => by
  have hN : Nx O w0 l (le (n + 1) l) := ⟨hl, fun e => by
   rw [le, if_pos e], fun e => by
   rw [le, if_neg e]
   have h1 := List.length_filter_le (fq (dv l)) l
   exact DE O w0 n _ (by omega) (by omega)⟩
  refine aZ dE (qe l) ?_
  show GA O w0 _ [] ap (lp aq 6) (nh l l (lnx ah l) 0)
  cases l with
  | nil =>
   refine aZ dE (kh [] [] _ _) ⟨(fun hc => by cases hc), fun _ => ⟨Nat.zero_le _, ?_⟩⟩
   exact aZ dE (fV [] _ _ []) ⟨(fun hc => by cases hc), fun _ => ⟨fun _ => ⟨fun _ => ⟨_, rfl, rfl⟩, (fun hc => by cases hc)⟩, (fun hc => by cases hc)⟩⟩
  | cons x r =>
   have hi : 0 < (x :: r).length := Nat.succ_pos _
   have e : el ah (x :: r) ((0 : Nat) : Int) = x := rfl
   refine aZ dE (kh (x :: r) (x :: r) _ _) ⟨fun _ => ⟨cO hi, trivial, fun _ => ?_, (fun hc => by cases hc)⟩, fun hc => ?_⟩
   ·have hw : IntKind.wrap .i64 ((0 : Int) + 1) = ((1 : Nat) : Int) := by decide
    rw [hw]
    exact (FO O w0 (x :: r) _ hN).down 1 _ hi rfl
   ·have hc : ¬ ((0 : Int) < (((x :: r).length : Nat) : Int)) := of_decide_eq_false hc
    omega
theorem wg : aP prog [] iA fH :=
 fu (S := fH) dE (fx := ap) u2 (by kernel_rfl) (fun h => by cases h) (T := fun x => pC x.1) (fun x => tG x.1) fun O w0 x _ hp => by
  obtain ⟨l, ⟨⟩⟩ := x
  have hp : l.length ≤ 1000000 := hp
  refine ⟨fun h => ⟨_, rfl, ?_⟩, fun h => ⟨Nat.le_trans hp (by decide), ?_⟩⟩
  ·have h : (64 : Int) < ((l.length : Nat) : Int) := of_decide_eq_true h
   show (false, (2 : Int), ()) = ((cS l).1, (cS l).2, ())
   unfold cS
   rw [if_pos (by omega)]
  ·have h : ¬ (64 : Int) < ((l.length : Nat) : Int) := of_decide_eq_false h
   have e : fH.g (l, ()) = (le (l.length + 1) l, 0, ()) := by
    show ((cS l).1, (cS l).2, ()) = _
    unfold cS
    rw [if_neg (by omega)]
   rw [e]
   exact DE O w0 (l.length + 1) l (Nat.lt_succ_self _) hp
end Go.Proofs.Ytnccacngedeoeaa
namespace Go.Proofs.Ytnccacngedeoeaa
open Go Go.RowKit
noncomputable abbrev mJ : Fx := { fn := jC, ann := { }, share := true }
noncomputable abbrev jA : bS := { D := { T := bG, F := [(oZ, o6), (pe, oS), (dR, de), (jf, ge), (iA, fH), (mm, mu), (ny, nk)], R := [], ovl := [] }, inl := [] }
noncomputable abbrev ur : dC := .data sT
theorem uk (h_l14_few : aP prog [] oZ o6) (h_l14_cut : aP prog [] pe oS) (h_spread_Deliver : aP prog [] dR de) (h_spread_Links : aP prog [] jf ge) (h_proof_Acyclic : aP prog [] iA fH) (h_l14_alive : aP prog [] mm mu) (h_r14_Same : aP prog [] ny nk) : XOk prog jA := xok (aV (aV (aV (aV (aV (aV (aV (bg bt aW) h_r14_Same) h_l14_alive) h_proof_Acyclic) h_spread_Links) h_spread_Deliver) h_l14_cut) h_l14_few) (by kernel_rfl) cp cY cZ
noncomputable def fY (t : den (Ty.slc ab)) (p : den ag) (more : den ae) : af := af.req True (af.req True (af.all (den (Ty.slc ab)) (fun (q3 : den (Ty.slc ab)) ↦ q3 = gy t) fun (q3 : den (Ty.slc ab)) ↦ af.all (den ag) (fun (q4 : den ag) ↦ q4 = il p) fun (q4 : den ag) ↦ af.req (List.length (gy t) ≤ 1000000 ∧ List.length (Prod.fst (il p)) ≤ 1000000) (af.all (den (Ty.pair aj (Ty.pair ae Ty.unit))) (fun (q5 : den (Ty.pair aj (Ty.pair ae Ty.unit))) ↦ q5 = bf (gy t) (il p)) fun (q5 : den (Ty.pair aj (Ty.pair ae Ty.unit))) ↦ af.req (List.length (gy t) ≤ 1000000) (af.all (den (Ty.pair (Ty.slc ah) (Ty.pair ae Ty.unit))) (fun (q6 : den (Ty.pair (Ty.slc ah) (Ty.pair ae Ty.unit))) ↦ q6 = (Prod.fst (eZ (gy t)), Prod.snd (eZ (gy t)), PUnit.unit)) fun (q6 : den (Ty.pair (Ty.slc ah) (Ty.pair ae Ty.unit))) ↦ af.ite (bif !decide (Prod.fst (Prod.snd q5) = 0) then true else !decide (Prod.fst (Prod.snd q6) = 0)) (af.req True (af.all (den Ty.bool) (fun (q7 : den Ty.bool) ↦ q7 = true) fun (q7 : den Ty.bool) ↦ af.ret (K.val (Ty.pair Ty.bool Ty.unit) (bif q7 then decide (Prod.fst (Prod.snd (Prod.snd (Prod.snd (Prod.fst q5)))) = 0) else false, PUnit.unit)))) (af.req (List.length (Prod.fst q6) ≤ 1000000) (af.all (den (Ty.pair Ty.bool (Ty.pair ae Ty.unit))) (fun (q7 : den (Ty.pair Ty.bool (Ty.pair ae Ty.unit))) ↦ q7 = (Prod.fst (cS (Prod.fst q6)), Prod.snd (cS (Prod.fst q6)), PUnit.unit)) fun (q7 : den (Ty.pair Ty.bool (Ty.pair ae Ty.unit))) ↦ af.req (m3 [(bif !decide (Prod.fst (Prod.snd q7) = 0) then true else bif bif Prod.fst q7 then decide (IntKind.wrap IntKind.i64 (4 * IntKind.wrap IntKind.i64 (lnx ab (gy t) + 1)) ≤ Prod.fst (Prod.snd (il p))) else false then !decide (Prod.fst (Prod.snd (Prod.snd (Prod.fst q5))) = 0) else false, false)] True) (af.ite (bif bif !decide (Prod.fst (Prod.snd q7) = 0) then true else bif bif Prod.fst q7 then decide (IntKind.wrap IntKind.i64 (4 * IntKind.wrap IntKind.i64 (lnx ab (gy t) + 1)) ≤ Prod.fst (Prod.snd (il p))) else false then !decide (Prod.fst (Prod.snd (Prod.snd (Prod.fst q5))) = 0) else false then true else !true) (af.ret (K.val (Ty.pair Ty.bool Ty.unit) (false, PUnit.unit))) (af.req (nz 65) (af.req (nz 65) (af.ite (bif decide (0 < Prod.fst (Prod.snd (Prod.snd (Prod.fst q5)))) then true else decide (64 < IntKind.wrap IntKind.i64 (Prod.fst (Prod.snd (il p)) + Int.tmod (IntKind.wrap IntKind.i64 (Int.tmod more 65 + 65)) 65))) (af.ret (K.val (Ty.pair Ty.bool Ty.unit) (true, PUnit.unit))) (af.req (List.length (gy t) ≤ 1000000 ∧ List.length (Prod.fst (il p)) ≤ 1000000) (af.all (den (Ty.pair aj (Ty.pair ae Ty.unit))) (fun (q8 : den (Ty.pair aj (Ty.pair ae Ty.unit))) ↦ q8 = bf (gy t) (Prod.fst (il p), IntKind.wrap IntKind.i64 (Prod.fst (Prod.snd (il p)) + Int.tmod (IntKind.wrap IntKind.i64 (Int.tmod more 65 + 65)) 65), Prod.snd (Prod.snd (il p)))) fun (q8 : den (Ty.pair aj (Ty.pair ae Ty.unit))) ↦ af.req (m3 [(decide (Prod.fst (Prod.snd q8) = 0), true)] (List.length (Prod.fst (Prod.fst q5)) ≤ 1000000)) (af.ret (K.val (Ty.pair Ty.bool Ty.unit) (bif decide (Prod.fst (Prod.snd q8) = 0) then fm (Prod.fst q5) (Prod.fst q8) else false, PUnit.unit)))))))))))))))
theorem qY (t : den (Ty.slc ab)) (p : den ag) (more : den ae) : aM jA ur 5000 [] mJ (aN jC) (Env.of (aS dm (t, p, more, ()) 0) []) = fY t p more := by kernel_rfl
end Go.Proofs.Ytnccacngedeoeaa
namespace Go.Proofs.Ytnccacngedeoeaa
open Go Go.RowKit
def jm (id : den tId) (x : den ab) : Int := da x.1 id
theorem pK (id : den tId) : ∀ (t : List (den ab)) (m : Int) (l : den tId), (bE id t m l = (m, l) ∧ ∀ x ∈ t, jm id x ≤ m) ∨
    ∃ h, t.find? (fun x => decide (jm id x = (bE id t m l).1)) = some h ∧ (bE id t m l).2 = h.1 ∧ m < (bE id t m l).1 ∧ ∀ x ∈ t, jm id x ≤ (bE id t m l).1
  | [], m, l => .inl ⟨rfl, fun _ h => by cases h⟩
  | x :: t, m, l => by
    by_cases hx : m < jm id x
    · have e : bE id (x :: t) m l = bE id t (jm id x) x.1 := by rw [bE]; exact if_pos hx
      rw [e]
      rcases pK id t (jm id x) x.1 with ⟨h1, h2⟩ | ⟨h, h1, h2, h3, h4⟩
      · right
        rw [h1]
        refine ⟨x, by rw [List.find?_cons_of_pos (by simp)], rfl, hx, fun y hy => ?_⟩
        rcases List.mem_cons.1 hy with rfl | hy
        · exact Int.le_refl _
        · exact h2 y hy
      · right
        refine ⟨h, ?_, h2, by omega, fun y hy => ?_⟩
        · rw [List.find?_cons_of_neg (by simp; omega)]; exact h1
        · rcases List.mem_cons.1 hy with rfl | hy
          · omega
          · exact h4 y hy
    · have e : bE id (x :: t) m l = bE id t m l := by rw [bE]; exact if_neg hx
      rw [e]
      rcases pK id t m l with ⟨h1, h2⟩ | ⟨h, h1, h2, h3, h4⟩
      · left
        refine ⟨h1, fun y hy => ?_⟩
        rcases List.mem_cons.1 hy with rfl | hy
        · omega
        · exact h2 y hy
      · right
        refine ⟨h, ?_, h2, h3, fun y hy => ?_⟩
        · rw [List.find?_cons_of_neg (by simp; omega)]; exact h1
        · rcases List.mem_cons.1 hy with rfl | hy
          · omega
          · exact h4 y hy
end Go.Proofs.Ytnccacngedeoeaa
namespace Go.Proofs.Ytnccacngedeoeaa
open Go Go.RowKit
def xV (a b c d a' b' c' d' : Int) : Prop := a < a' ∨ (a = a' ∧ (b < b' ∨ (b = b' ∧ (c < c' ∨ (c = c' ∧ d < d')))))
def ir (a b : den ab) : Prop := xV (vB a.1) a.2.1.1 (vB a.2.1.2.1) a.2.1.2.2.1 (vB b.1) b.2.1.1 (vB b.2.1.2.1) b.2.1.2.2.1
theorem BV (x y : Int) : (x < y ∧ bX x y = -1) ∨ (x = y ∧ bX x y = 0) ∨ (y < x ∧ bX x y = 1) := by
 unfold bX
 rcases Int.lt_trichotomy x y with h | h | h
 ·left; exact ⟨h, if_pos h⟩
 ·right; left; exact ⟨h, by rw [if_neg (by omega), if_neg (by omega)]⟩
 ·right; right; exact ⟨h, by rw [if_neg (by omega), if_pos h]⟩
theorem Ah {x y z : Int} : orC (bX x y) z < 0 ↔ x < y ∨ (x = y ∧ z < 0) := by
 unfold orC
 rcases BV x y with ⟨h, e⟩ | ⟨h, e⟩ | ⟨h, e⟩ <;> rw [e]
 ·rw [if_neg (by decide)]; omega
 ·rw [if_pos rfl]; omega
 ·rw [if_neg (by decide)]; omega
theorem BM {a b : den ab} : mM a b < 0 ↔ ir a b := by
 unfold mM ir xV gO
 rw [Ah, Ah, Ah, E9]
section
variable {a b c d a' b' c' d' a'' b'' c'' d'' : Int}
theorem Cs (h : xV a b c d a' b' c' d') (k : xV a' b' c' d' a'' b'' c'' d'') : xV a b c d a'' b'' c'' d'' := by unfold xV at *; omega
end
theorem yi {a b c : den ab} (h : ir a b) (k : ir b c) : ir a c := Cs h k
structure Tab (t : List (den ab)) : Prop where
 may : ∀ x ∈ t, li x = true
 rise : ∀ (i j : Nat) (hj : j < t.length) (hij : i < j), ir (t[i]'(by omega)) t[j]
 len : t.length ≤ 32
theorem Ab {t : List (den ab)} (h : aT t = true) : Tab t := by
 unfold aT kQ at h
 rw [Bool.and_eq_true, decide_eq_true_eq, List.all_eq_true] at h
 obtain ⟨h1, h2⟩ := h
 have ok : ∀ i (hi : i < t.length), pY t i = true := fun i hi => h1 i (by rw [List.mem_range'_1]; omega)
 have step : ∀ i (hi : i + 1 < t.length), ir (t[i]'(by omega)) t[i + 1] := fun i hi => by
  have := ok (i + 1) hi
  unfold pY at this
  rw [Bool.and_eq_true] at this
  have h3 := this.2
  rw [show decide (i + 1 = 0) = false by simp, Bool.false_or, show (((i + 1 : Nat) : Int) - 1) = ((i : Nat) : Int) by omega, cV hi, cV (show i < t.length by omega)] at h3
  exact BM.1 (of_decide_eq_true h3)
 refine ⟨fun x hx => ?_, fun i j hj hij => ?_, h2⟩
 ·obtain ⟨i, hi, rfl⟩ := List.getElem_of_mem hx
  have := ok i hi
  unfold pY at this
  rw [Bool.and_eq_true, cV hi] at this
  exact this.1
 ·obtain ⟨k, rfl⟩ : ∃ k, j = i + 1 + k := ⟨j - (i + 1), by omega⟩
  have key : ∀ (k : Nat) (hj : i + 1 + k < t.length), ir (t[i]'(by omega)) t[i + 1 + k] := by
   intro k
   induction k with
   | zero => exact fun hj => step i hj
   | succ k ih => exact fun hj => yi (ih (by omega)) (step (i + 1 + k) hj)
  exact key k hj
theorem rK {t : List (den ab)} (ht : Tab t) (x : den ab) : ∃ p, p ≤ t.length ∧ (∀ i (hi : i < t.length), i < p → ir t[i] x) ∧ (∀ i (hi : i < t.length), p ≤ i → ¬ ir t[i] x) := by
 have : ∀ n, n ≤ t.length → ∃ p, p ≤ n ∧ (∀ i (hi : i < t.length), i < p → ir t[i] x) ∧ (∀ i (hi : i < t.length), i < n → p ≤ i → ¬ ir t[i] x) := by
  intro n
  induction n with
  | zero => exact fun _ => ⟨0, Nat.le_refl _, fun i _ h => by omega, fun i _ h => by omega⟩
  | succ n ih =>
   intro hn
   obtain ⟨p, h1, h2, h3⟩ := ih (by omega)
   by_cases hp : p = n
   ·subst hp
    by_cases hx : ir (t[p]'(by omega)) x
    ·refine ⟨p + 1, Nat.le_refl _, fun i hi h => ?_, fun i hi h h' => by omega⟩
     rcases Nat.lt_or_ge i p with h4 | h4
     ·exact h2 i hi h4
     ·have : i = p := by omega
      subst this; exact hx
    ·refine ⟨p, by omega, h2, fun i hi h h' => ?_⟩
     have : i = p := by omega
     subst this; exact hx
   ·refine ⟨p, by omega, h2, fun i hi h h' hlt => ?_⟩
    have hpl : p < t.length := by omega
    rcases Nat.lt_or_ge p i with h4 | h4
    ·exact h3 p hpl (by omega) (Nat.le_refl _) (yi (ht.rise p i hi h4) hlt)
    ·have : i = p := by omega
     subst this
     exact h3 i hi (by omega) (Nat.le_refl _) hlt
 obtain ⟨p, h1, h2, h3⟩ := this t.length (Nat.le_refl _)
 exact ⟨p, h1, h2, fun i hi h => h3 i hi hi h⟩
def zD (x : den ab) : Prop := (x.1.length = 32 ∧ byt x.1) ∧ x.2.1.2.1.length = 32 ∧ byt x.2.1.2.1
section
variable {A B : List (den ab)} {x y : den ab}
end
end Go.Proofs.Ytnccacngedeoeaa
namespace Go.Proofs.Ytnccacngedeoeaa
open Go Go.RowKit
theorem Dw {t : List (den ab)} : aT t = true ↔ (∀ x ∈ t, li x = true) ∧ t.Pairwise ir ∧ t.length ≤ 32 := by
 constructor
 ·intro h
  have hT := Ab h
  exact ⟨hT.may, List.pairwise_iff_getElem.2 fun i j hi hj hij => hT.rise i j hj hij, hT.len⟩
 ·rintro ⟨h1, h2, h3⟩
  rw [List.pairwise_iff_getElem] at h2
  unfold aT kQ
  rw [Bool.and_eq_true, decide_eq_true_eq, List.all_eq_true]
  refine ⟨fun i hi => ?_, h3⟩
  rw [List.mem_range'_1] at hi
  have hi : i < t.length := by omega
  unfold pY
  rw [cV hi, h1 _ (List.getElem_mem hi), Bool.true_and]
  cases i with
  | zero => rfl
  | succ j =>
   rw [show (((j + 1 : Nat) : Int) - 1) = ((j : Nat) : Int) by omega, cV (show j < t.length by omega)]
   have : w8 t[j] t[j + 1] = true := decide_eq_true (BM.2 (h2 j (j + 1) (by omega) hi (by omega)))
   rw [this, Bool.or_true]
theorem AK {t : List (den ab)} (id : den tId) (hr : aT t = true) : (aY t id = ([], 6) ∧ ∀ x ∈ t, jm id x ≤ 127) ∨
    ∃ h ∈ t, t.find? (fun x => decide (jm id x = jm id h)) = some h ∧ 127 < jm id h ∧ (∀ x ∈ t, jm id x ≤ jm id h) ∧ aY t id = (t.filter (fun x => decide (x.1 = h.1)), 0) := by
  unfold aY
  rw [if_pos hr]
  rcases pK id t 127 (zero tId) with ⟨h1, h2⟩ | ⟨h, h1, h2, h3, h4⟩
  · left
    rw [h1]
    exact ⟨if_pos (by decide), h2⟩
  · right
    have hm := List.mem_of_find?_eq_some h1
    have hh : jm id h = (bE id t 127 (zero tId)).1 := by simpa using List.find?_some h1
    rw [← hh] at h1 h3 h4
    refine ⟨h, hm, h1, h3, h4, ?_⟩
    rw [if_neg (by omega), h2]
end Go.Proofs.Ytnccacngedeoeaa
namespace Go.Proofs.Ytnccacngedeoeaa
open Go Go.RowKit
end Go.Proofs.Ytnccacngedeoeaa
namespace Go.Proofs.Ytnccacngedeoeaa
open Go Go.RowKit
theorem A4 {t : List Tg} {p : Pk} (h : ¬ (bf t p).2.1 = (0 : Int)) : (bf t p).1 = zero aj := by
 unfold bf at h ⊢
 split
 ·rename_i hy
  rw [if_pos hy] at h
  cases hr : fU t 1000 s0 0 [p] with
  | none => rfl
  | some x =>
   rw [hr] at h
   exact absurd rfl h
 ·rfl
theorem sG (t : List Tg) (n : Nat) (s : Sx) (k : Nat) (p : Pk) (q : List Pk) : fU t (n + 1) s k (p :: q) = fU t n ((aO t p).1.foldl dg s) (k + 1) (q ++ (aO t p).1.flatMap cx) := rfl
theorem zV (t : List Tg) (n : Nat) (s : Sx) (k : Nat) : fU t n s k [] = some (s, k) := by cases n <;> rfl
theorem z7 {a b : List Int} : ∀ (k i j : Nat), i ≤ j → j < cmn a b k i → kO a (j : Nat) = kO b (j : Nat)
 | 0, i, j, h1, h2 => by rw [cmn] at h2; omega
 | k + 1, i, j, h1, h2 => by
  rw [cmn] at h2
  split at h2
  ·rename_i hb
   by_cases e : j = i
   ·rw [e]; exact hb
   ·exact z7 k (i + 1) j (by omega) h2
  ·omega
theorem EI {l f : List Ent} : ∀ e ∈ (bO l f).1, e ∈ f ∨ e ∈ l := fun e he => by
 unfold bO at he
 split at he
 ·split at he
  ·exact List.mem_append.1 he
  ·cases he
 ·cases he
end Go.Proofs.Ytnccacngedeoeaa
namespace Go.Proofs.Ytnccacngedeoeaa
open Go Go.RowKit
def a5 (p : Pk) : Int := p.2.1
def fA (d : Int) (p : Pk) : Pk := (p.1, a5 p + d, p.2.2)
def onP (p : Pk) (f : List Ent) : Pk := ((bO (List.drop 1 p.1) f).1, cX (a5 p), p.2.2.1, ())
def F8 (p : Pk) : Ou := (1, (aK p).2.2.1, p, zero ab, 0, ())
section
variable {t : List Tg} {p : Pk}
theorem Cw (h : ¬ (am p = true ∧ aT t = true)) : (aO t p).1 = [] := by unfold aO; rw [if_neg h]
theorem xp (h : am p = true ∧ aT t = true) (hk : (aK p).1 = (2 : Int)) : (aO t p).1 = [F8 p] := by unfold aO; rw [if_pos h, if_pos hk]; rfl
theorem FM (h : am p = true ∧ aT t = true) (hk : ¬ (aK p).1 = (2 : Int)) (h0 : a5 p = 0) : (aO t p).1 = gT 9 := by unfold aO; rw [if_pos h, if_neg hk, if_pos (show (p.2.1 : Int) = 0 from h0)]
theorem zp (h : am p = true ∧ aT t = true) (hk : ¬ (aK p).1 = (2 : Int)) (h0 : ¬ a5 p = 0) (hm : (aY t (aK p).2.1).2 = 0) : (aO t p).1 = (aY t (aK p).2.1).1.map fun x => eK p x [x.2.1] := by
 unfold aO; rw [if_pos h, if_neg hk, if_neg (show ¬ (p.2.1 : Int) = 0 from h0), if_pos hm]
theorem zf (h : am p = true ∧ aT t = true) (hk : ¬ (aK p).1 = (2 : Int)) (h0 : ¬ a5 p = 0) (hm : ¬ (aY t (aK p).2.1).2 = 0) (h1 : 1 < p.1.length) : (aO t p).1 = [eK p (zero ab) []] := by
 unfold aO; rw [if_pos h, if_neg hk, if_neg (show ¬ (p.2.1 : Int) = 0 from h0), if_neg hm, if_pos h1]
theorem xL (h : am p = true ∧ aT t = true) (hk : ¬ (aK p).1 = (2 : Int)) (h0 : ¬ a5 p = 0) (hm : ¬ (aY t (aK p).2.1).2 = 0) (h1 : ¬ 1 < p.1.length) : (aO t p).1 = gT 6 := by
 unfold aO; rw [if_pos h, if_neg hk, if_neg (show ¬ (p.2.1 : Int) = 0 from h0), if_neg hm, if_neg h1]
end
theorem E4 (s : Sx) (p : Pk) (x : Tg) (f : List Ent) : dg s (eK p x f) = s := rfl
theorem FH (p : Pk) (x : Tg) (f : List Ent) : cx (eK p x f) = [onP p f] := rfl
theorem t3 (p : Pk) : ∀ (l : List Tg) (s : Sx), (l.map fun x => eK p x [x.2.1]).foldl dg s = s
 | [], _ => rfl
 | x :: l, s => by rw [List.map_cons, List.foldl_cons, E4]; exact t3 p l s
theorem qU (p : Pk) : ∀ l : List Tg, (l.map fun x => eK p x [x.2.1]).flatMap cx = l.map fun x => onP p [x.2.1]
 | [] => rfl
 | x :: l => by rw [List.map_cons, List.flatMap_cons, FH, qU p l]; rfl
theorem Dx (s : Sx) (o : Ou) : s.2.2 ≤ (dg s o).2.2 := by
 unfold dg
 split
 ·exact Int.le_refl _
 ·split
  ·exact Int.le_refl _
  ·split
   ·show s.2.2 ≤ s.2.2 + 1; omega
   ·exact Int.le_refl _
theorem s7 : ∀ (l : List Ou) (s : Sx), s.2.2 ≤ (l.foldl dg s).2.2
 | [], _ => Int.le_refl _
 | o :: l, s => Int.le_trans (Dx s o) (s7 l (dg s o))
theorem Ar (t : List Tg) : ∀ (n k : Nat) (s : Sx) (q : List Pk) (s' : Sx) (w : Nat), fU t n s k q = some (s', w) → s.2.2 ≤ s'.2.2
 | n, k, s, [], s', w, h => by
  rw [zV] at h
  have h := Option.some.inj h
  injection h with h1 h2
  rw [h1]; exact Int.le_refl _
 | 0, k, s, p :: q, s', w, h => by cases h
 | n + 1, k, s, p :: q, s', w, h => Int.le_trans (s7 _ s) (Ar t n (k + 1) _ _ s' w h)
def t9 (d : Int) (p : Pk) : Prop := 0 ≤ a5 p ∧ a5 p + d ≤ 64
theorem wF {d : Int} (hd : 0 ≤ d) {p : Pk} (h : t9 d p) : am (fA d p) = am p := by
 have e1 : decide ((0 : Int) ≤ a5 p) = true := decide_eq_true h.1
 have e2 : decide (a5 p ≤ (64 : Int)) = true := decide_eq_true (by have := h.2; omega)
 have e3 : decide ((0 : Int) ≤ a5 p + d) = true := decide_eq_true (by have := h.1; omega)
 have e4 : decide (a5 p + d ≤ (64 : Int)) = true := decide_eq_true h.2
 show (cE p.1 && decide ((0 : Int) ≤ a5 p + d) && decide (a5 p + d ≤ (64 : Int)) && decide (ByteArray.size p.2.2.1 ≤ 64)) = (cE p.1 && decide ((0 : Int) ≤ a5 p) && decide (a5 p ≤ (64 : Int)) && decide (ByteArray.size p.2.2.1 ≤ 64))
 rw [e1, e2, e3, e4]
theorem tW {d : Int} (hd : 0 ≤ d) {p : Pk} (h : t9 d p) (h0 : ¬ a5 p = 0) (f : List Ent) : onP (fA d p) f = fA d (onP p f) ∧ t9 d (onP p f) := by
 obtain ⟨h1, h2⟩ := h
 have e1 : cX (a5 p) = a5 p - 1 := wI h1 (by omega)
 have e2 : cX (a5 p + d) = a5 p - 1 + d := by rw [wI (by omega) h2]; omega
 refine ⟨?_, ?_, ?_⟩
 ·show (((bO (List.drop 1 p.1) f).1, cX (a5 p + d), p.2.2.1, ()) : Pk) = ((bO (List.drop 1 p.1) f).1, cX (a5 p) + d, p.2.2.1, ())
  rw [e1, e2]
 ·show 0 ≤ cX (a5 p)
  rw [e1]; omega
 ·show cX (a5 p) + d ≤ 64
  rw [e1]; omega
theorem De {t : List Tg} {d : Int} (hd : 0 ≤ d) {p : Pk} (h : t9 d p) {s : Sx} (hs : 0 ≤ s.2.2) (hz : ((aO t p).1.foldl dg s).2.2 = 0) :
    (aO t (fA d p)).1.foldl dg s = (aO t p).1.foldl dg s ∧ (aO t (fA d p)).1.flatMap cx = ((aO t p).1.flatMap cx).map (fA d) ∧ ∀ p' ∈ (aO t p).1.flatMap cx, t9 d p' := by
  have er := wF hd h
  by_cases hr : am p = true ∧ aT t = true
  · have hr' : am (fA d p) = true ∧ aT t = true := by rw [er]; exact hr
    by_cases hk : (aK p).1 = (2 : Int)
    · rw [xp hr hk, xp hr' (show (aK (fA d p)).1 = (2 : Int) from hk)]
      exact ⟨rfl, rfl, fun p' hp' => by cases hp'⟩
    · have hk' : ¬ (aK (fA d p)).1 = (2 : Int) := hk
      by_cases h0 : a5 p = 0
      · exfalso
        rw [FM hr hk h0] at hz
        have hz : s.2.2 + 1 = 0 := hz
        omega
      · have h0' : ¬ a5 (fA d p) = 0 := by
          show ¬ a5 p + d = 0
          have := h.1
          omega
        by_cases hm : (aY t (aK p).2.1).2 = 0
        · rw [zp hr hk h0 hm, zp hr' hk' h0' hm, t3, t3, qU, qU]
          refine ⟨rfl, ?_, fun p' hp' => ?_⟩
          · rw [List.map_map]
            exact List.map_congr_left fun x _ => (tW hd h h0 _).1
          · obtain ⟨x, _, rfl⟩ := List.mem_map.1 hp'
            exact (tW hd h h0 _).2
        · by_cases h1 : 1 < p.1.length
          · rw [zf hr hk h0 hm h1, zf hr' hk' h0' hm h1]
            refine ⟨rfl, ?_, fun p' hp' => ?_⟩
            · show [onP (fA d p) []] = [fA d (onP p [])]
              rw [(tW hd h h0 []).1]
            · have hp' : p' ∈ [onP p []] := hp'
              rw [List.mem_singleton.1 hp']
              exact (tW hd h h0 _).2
          · rw [xL hr hk h0 hm h1, xL hr' hk' h0' hm h1]
            exact ⟨rfl, rfl, fun p' hp' => by cases hp'⟩
  · have hr' : ¬ (am (fA d p) = true ∧ aT t = true) := by rw [er]; exact hr
    rw [Cw hr, Cw hr']
    exact ⟨rfl, rfl, fun p' hp' => by cases hp'⟩
theorem zM {t : List Tg} {d : Int} (hd : 0 ≤ d) : ∀ (n k : Nat) (s : Sx) (q : List Pk) (s' : Sx) (w : Nat), fU t n s k q = some (s', w) → s'.2.2 = 0 → 0 ≤ s.2.2 → (∀ p ∈ q, t9 d p) → fU t n s k (q.map (fA d)) = some (s', w)
 | n, k, s, [], s', w, h, _, _, _ => h
 | 0, k, s, p :: q, s', w, h, _, _, _ => by cases h
 | n + 1, k, s, p :: q, s', w, h, hz, hs, hq => by
  rw [sG] at h
  have m1 := s7 (aO t p).1 s
  have m2 := Ar t n (k + 1) _ _ s' w h
  obtain ⟨e1, e2, e3⟩ := De hd (hq p List.mem_cons_self) hs (show ((aO t p).1.foldl dg s).2.2 = 0 by omega)
  rw [List.map_cons, sG, e1, e2, ← List.map_append]
  refine zM hd n (k + 1) _ _ s' w h hz (by omega) fun p' hp' => ?_
  rcases List.mem_append.1 hp' with h1 | h1
  ·exact hq p' (List.mem_cons_of_mem _ h1)
  ·exact e3 p' h1
theorem BI : ∀ (n : Nat) (l : List Lk), le n l = true → ∃ rk : List Int → Nat, (∀ k, rk k ≤ l.length) ∧ ∀ x ∈ l, rk (a6 x.2.1) < rk (a6 x.1)
 | 0, l, h => by cases h
 | n + 1, l, h => by
  rw [le] at h
  split at h
  ·have hl : l = [] := List.eq_nil_of_length_eq_zero (of_decide_eq_true h)
   subst hl
   exact ⟨fun _ => 0, fun _ => Nat.zero_le _, fun x hx => by cases hx⟩
  ·rename_i hne
   obtain ⟨rk, h1, h2⟩ := BI n _ h
   have hle := List.length_filter_le (fq (dv l)) l
   refine ⟨fun k => if k ∈ l.map (fun x => a6 x.1) then rk k + 1 else 0, fun k => ?_, fun x hx => ?_⟩
   ·show (if k ∈ l.map (fun x => a6 x.1) then rk k + 1 else 0) ≤ _
    split
    ·have := h1 k; omega
    ·exact Nat.zero_le _
   ·show (if a6 x.2.1 ∈ l.map (fun x => a6 x.1) then rk (a6 x.2.1) + 1 else 0) < (if a6 x.1 ∈ l.map (fun x => a6 x.1) then rk (a6 x.1) + 1 else 0)
    rw [if_pos (List.mem_map.2 ⟨x, hx, rfl⟩)]
    split
    ·rename_i hin
     have hxr : x ∈ l.filter (fq (dv l)) := List.mem_filter.2 ⟨hx, by unfold fq; rw [EL]; exact decide_eq_true hin⟩
     have := h2 x hxr
     omega
    ·omega
theorem Et {a b : List Int} (ha : a.length = 32 ∧ byt a) (hb : b.length = 32 ∧ byt b) (h : 128 ≤ da a b) : a6 a = a6 b := by
 have h : 128 ≤ cmn a b 256 0 := by unfold da at h; omega
 unfold a6
 refine List.ext_getElem (by rw [List.length_take, List.length_take, ha.1, hb.1]) fun i h1 h2 => ?_
 rw [List.length_take] at h1 h2
 rw [List.getElem_take, List.getElem_take]
 have hia : i < a.length := by omega
 have hib : i < b.length := by omega
 obtain ⟨a0, a1⟩ := ha.2 _ (List.getElem_mem hia)
 obtain ⟨b0, b1⟩ := hb.2 _ (List.getElem_mem hib)
 have key : ∀ k : Nat, k < 8 → a[i] / 2 ^ (7 - k) % 2 = b[i] / 2 ^ (7 - k) % 2 := fun k hk => by
  have := z7 (a := a) (b := b) 256 0 (8 * i + k) (Nat.zero_le _) (by omega)
  unfold kO at this
  have e1 : ((8 * i + k : Nat) : Int) / 8 = (i : Nat) := by omega
  have e2 : ((8 * i + k : Nat) : Int) % 8 = (k : Nat) := by omega
  have e3 : ((7 : Int) - (k : Nat)).toNat = 7 - k := by omega
  rw [e1, e2, e3, cV (e := .int .u8) hia, cV (e := .int .u8) hib] at this
  exact this
 have k0 := key 0 (by omega)
 have k1 := key 1 (by omega)
 have k2 := key 2 (by omega)
 have k3 := key 3 (by omega)
 have k4 := key 4 (by omega)
 have k5 := key 5 (by omega)
 have k6 := key 6 (by omega)
 have k7 := key 7 (by omega)
 simp only [Nat.sub_zero, Nat.reduceSub, Int.reducePow] at k0 k1 k2 k3 k4 k5 k6 k7
 generalize a[i] = x at *
 generalize b[i] = y at *
 omega
def phi (rk : List Int → Nat) (e : Ent) : Nat := if e.1 = (1 : Int) then rk (a6 e.2.1) + 1 else 0
def ib (rk : List Int → Nat) : List Ent → Nat
 | [] => 0
 | e :: l => phi rk e + ib rk l
def Cd (e : Ent) : Prop := e.2.1.length = 32 ∧ byt e.2.1
def vZ (rk : List Int → Nat) (p : Pk) : Prop := ((ib rk p.1 : Nat) : Int) ≤ a5 p ∧ a5 p ≤ 64 ∧ ∀ e ∈ p.1, Cd e
theorem zh (rk : List Int → Nat) : ∀ a b : List Ent, ib rk (a ++ b) = ib rk a + ib rk b
 | [], b => by simp [ib]
 | e :: a, b => by rw [List.cons_append, ib, ib, zh rk a b]; omega
theorem BN {rk : List Int → Nat} {m : Nat} (h : ∀ k, rk k ≤ m) : ∀ l : List Ent, ib rk l ≤ l.length * (m + 1)
 | [] => Nat.zero_le _
 | e :: l => by
  rw [ib, List.length_cons, Nat.add_mul, Nat.one_mul]
  have h1 := BN h l
  have h2 : phi rk e ≤ m + 1 := by
   unfold phi
   split
   ·have := h (a6 e.2.1); omega
   ·exact Nat.zero_le _
  omega
theorem Em (rk : List Int → Nat) (l f : List Ent) : ib rk (bO l f).1 ≤ ib rk f + ib rk l := by
 unfold bO
 split
 ·split
  ·show ib rk (f ++ l) ≤ _
   rw [zh]; exact Nat.le_refl _
  ·exact Nat.zero_le _
 ·exact Nat.zero_le _
theorem C8 {rk : List Int → Nat} {p : Pk} (hp : vZ rk p) (hl : 1 ≤ p.1.length) (hk : (aK p).1 = (1 : Int)) {f : List Ent} (hf : ib rk f ≤ rk (a6 (aK p).2.1)) (hfi : ∀ e ∈ f, Cd e) : vZ rk (onP p f) := by
 obtain ⟨h1, h2, h3⟩ := hp
 obtain ⟨stk, hops, rest⟩ := p
 cases stk with
 | nil => exact absurd hl (by show ¬ 1 ≤ 0; omega)
 | cons e l =>
  have efst : aK ((e :: l, hops, rest) : Pk) = e := rfl
  rw [efst] at hk hf
  have e1 : phi rk e = rk (a6 e.2.1) + 1 := by unfold phi; rw [if_pos hk]
  have h1 : ((phi rk e + ib rk l : Nat) : Int) ≤ a5 ((e :: l, hops, rest) : Pk) := h1
  have hpos : 0 ≤ a5 ((e :: l, hops, rest) : Pk) := by omega
  have eh : cX (a5 ((e :: l, hops, rest) : Pk)) = a5 ((e :: l, hops, rest) : Pk) - 1 := wI hpos h2
  have hpp := Em rk l f
  refine ⟨?_, ?_, fun e' he' => ?_⟩
  ·show ((ib rk (bO l f).1 : Nat) : Int) ≤ cX (a5 ((e :: l, hops, rest) : Pk))
   rw [eh]; omega
  ·show cX (a5 ((e :: l, hops, rest) : Pk)) ≤ 64
   rw [eh]; omega
  ·rcases EI (l := l) (f := f) e' he' with h | h
   ·exact hfi e' h
   ·exact h3 e' (List.mem_cons_of_mem _ h)
theorem DV {t : List Tg} (hr : aT t = true) (hk : ∀ z ∈ t, zD z) {id : List Int} (hid : id.length = 32 ∧ byt id) {x : Tg} (hx : x ∈ (aY t id).1) : x ∈ t ∧ a6 x.1 = a6 id := by
 rcases AK id hr with ⟨h1, _⟩ | ⟨h, hm, _, h3, _, h5⟩
 ·rw [h1] at hx; cases hx
 ·rw [h5] at hx
  obtain ⟨hxt, he⟩ := List.mem_filter.1 hx
  have he : x.1 = h.1 := of_decide_eq_true he
  refine ⟨hxt, ?_⟩
  rw [he]
  exact Et (hk h hm).1 hid (by have : 127 < da h.1 id := h3; omega)
theorem Ev {t : List Tg} (hkt : ∀ z ∈ t, zD z) {rk : List Int → Nat} (hrk : ∀ x ∈ t, x.2.1.1 = (1 : Int) → rk (a6 x.2.1.2.1) < rk (a6 x.1)) {p : Pk} (hp : vZ rk p) (s : Sx) :
    ((aO t p).1.foldl dg s).2.2 = s.2.2 ∧ ∀ p' ∈ (aO t p).1.flatMap cx, vZ rk p' := by
  by_cases hr : am p = true ∧ aT t = true
  · obtain ⟨hl, _, _⟩ := gn hr.1
    by_cases hk : (aK p).1 = (2 : Int)
    · rw [xp hr hk]
      exact ⟨rfl, fun p' hp' => by cases hp'⟩
    · have hi := z0 hr.1
      unfold j2 at hi
      have hk1 : (aK p).1 = (1 : Int) := by
        by_cases h1 : (aK p).1 = (1 : Int)
        · exact h1
        · rw [if_neg h1, if_neg hk] at hi; cases hi
      have hlt : 0 < p.1.length := hl
      have hmem : aK p ∈ p.1 := by
        unfold aK
        have e : el ai p.1 0 = p.1[0] := cV (e := ai) (i := 0) hlt
        rw [e]
        exact List.getElem_mem hlt
      have hid := hp.2.2 _ hmem
      have h0 : ¬ a5 p = 0 := by
        intro h0
        have h1 := hp.1
        rw [h0] at h1
        obtain ⟨stk, hops, rest⟩ := p
        cases stk with
        | nil => exact absurd hl (by show ¬ 1 ≤ 0; omega)
        | cons e l =>
          have h1 : ((phi rk e + ib rk l : Nat) : Int) ≤ 0 := h1
          have hk1 : e.1 = (1 : Int) := hk1
          have e1 : phi rk e = rk (a6 e.2.1) + 1 := by unfold phi; rw [if_pos hk1]
          omega
      by_cases hm : (aY t (aK p).2.1).2 = 0
      · rw [zp hr hk h0 hm, t3, qU]
        refine ⟨rfl, fun p' hp' => ?_⟩
        obtain ⟨x, hx, rfl⟩ := List.mem_map.1 hp'
        obtain ⟨hxt, hkey⟩ := DV hr.2 hkt hid hx
        refine C8 hp hl hk1 ?_ (fun e he => by rw [List.mem_singleton.1 he]; exact (hkt x hxt).2)
        rw [← hkey]
        show phi rk x.2.1 + 0 ≤ _
        unfold phi
        split
        · rename_i h1
          have := hrk x hxt h1
          omega
        · exact Nat.zero_le _
      · by_cases h1 : 1 < p.1.length
        · rw [zf hr hk h0 hm h1]
          refine ⟨rfl, fun p' hp' => ?_⟩
          have hp' : p' ∈ [onP p []] := hp'
          rw [List.mem_singleton.1 hp']
          exact C8 hp hl hk1 (Nat.zero_le _) (fun e he => by cases he)
        · rw [xL hr hk h0 hm h1]
          exact ⟨rfl, fun p' hp' => by cases hp'⟩
  · rw [Cw hr]
    exact ⟨rfl, fun p' hp' => by cases hp'⟩
theorem BR {t : List Tg} (hkt : ∀ z ∈ t, zD z) {rk : List Int → Nat} (hrk : ∀ x ∈ t, x.2.1.1 = (1 : Int) → rk (a6 x.2.1.2.1) < rk (a6 x.1)) : ∀ (n k : Nat) (s : Sx) (q : List Pk) (s' : Sx) (w : Nat), fU t n s k q = some (s', w) → (∀ p ∈ q, vZ rk p) → s'.2.2 = s.2.2
 | n, k, s, [], s', w, h, _ => by
  rw [zV] at h
  have h := Option.some.inj h
  injection h with h1 h2
  rw [h1]
 | 0, k, s, p :: q, s', w, h, _ => by cases h
 | n + 1, k, s, p :: q, s', w, h, hq => by
  rw [sG] at h
  obtain ⟨e1, e2⟩ := Ev hkt hrk (hq p List.mem_cons_self) s
  rw [← e1]
  refine BR hkt hrk n (k + 1) _ _ s' w h fun p' hp' => ?_
  rcases List.mem_append.1 hp' with h1 | h1
  ·exact hq p' (List.mem_cons_of_mem _ h1)
  ·exact e2 p' h1
def eE (t : List Tg) : List Lk := (t.filter fun x => decide (x.2.1.1 = (1 : Int))).map jL
theorem wo (t : List Tg) : (eE t).length ≤ t.length := by
 unfold eE
 rw [List.length_map]
 exact List.length_filter_le _ _
theorem F9 {t : List Tg} (hkt : ∀ z ∈ t, zD z) {p : Pk} (hp : am p = true) (hid : ∀ e ∈ p.1, Cd e) {n : Nat} (ha : le n (eE t) = true) (hh : 4 * ((t.length : Int) + 1) ≤ a5 p) {s : Sx} {w : Nat} (hrun : fU t 1000 s0 0 [p] = some (s, w)) : s.2.2 = 0 := by
 obtain ⟨rk, h1, h2⟩ := BI n _ ha
 have hl := wo t
 obtain ⟨_, h4, _⟩ := gn hp
 have hrk : ∀ x ∈ t, x.2.1.1 = (1 : Int) → rk (a6 x.2.1.2.1) < rk (a6 x.1) := fun x hx hk =>
  h2 (jL x) (List.mem_map.2 ⟨x, List.mem_filter.2 ⟨hx, decide_eq_true hk⟩, rfl⟩)
 have hphi := BN (m := t.length) (fun k => Nat.le_trans (h1 k) hl) p.1
 have hmul : p.1.length * (t.length + 1) ≤ 4 * (t.length + 1) := Nat.mul_le_mul_right _ h4
 obtain ⟨_, h64, _⟩ := tq hp
 exact BR hkt hrk 1000 0 s0 [p] s w hrun fun p' hp' => by
  rw [List.mem_singleton.1 hp']
  exact ⟨by omega, h64, hid⟩
end Go.Proofs.Ytnccacngedeoeaa
namespace Go.Proofs.Ytnccacngedeoeaa
open Go Go.RowKit
theorem Ew : XOk prog jA := uk Dp DP nO xQ wg AT Cj
theorem Fd (n : Int) : 0 ≤ Int.tmod (IntKind.wrap .i64 (Int.tmod n 65 + 65)) 65 ∧ Int.tmod (IntKind.wrap .i64 (Int.tmod n 65 + 65)) 65 < 65 := by
 have h1 : -65 < Int.tmod n 65 ∧ Int.tmod n 65 < 65 := ⟨by have := Int.lt_tmod_of_pos n (show (0 : Int) < 65 by decide); omega, Int.tmod_lt_of_pos n (by decide)⟩
 rw [cB (by omega), Int.tmod_eq_emod_of_nonneg (by omega)]
 omega
theorem um : aP prog [] nf (Ec dm) :=
 fu (S := Ec dm) Ew (fx := mJ) ta (by kernel_rfl) (fun _ _ => trivial) (T := fun x => fY x.1 x.2.1 x.2.2.1) (fun x => qY x.1 x.2.1 x.2.2.1) fun O w0 x hk _ => by
  obtain ⟨t0, p0, more, ⟨⟩⟩ := x
  have hkt : ∀ z ∈ gy t0, zD z := fun z hz => ⟨k8 (hk.1.2 z (List.mem_of_mem_take hz)).1, k8 (hk.1.2 z (List.mem_of_mem_take hz)).2.1.2.1⟩
  have hid : ∀ e ∈ (il p0).1, Cd e := fun e he => k8 (hk.2.1.1.2 e (List.mem_of_mem_take (show e ∈ List.take 6 p0.1 from he))).2.1
  clear hk
  show aU _ _ _ _ _ (fY t0 p0 more)
  unfold fY
  have ht : (gy t0).length ≤ 34 := by unfold gy; rw [List.length_take]; omega
  have hp : (il p0).1.length ≤ 1000000 := by show (List.take 6 p0.1).length ≤ _; rw [List.length_take]; omega
  obtain ⟨d0, d1⟩ := Fd more
  generalize gy t0 = t at ht hkt
  generalize il p0 = p at hp hid
  generalize Int.tmod (IntKind.wrap .i64 (Int.tmod more 65 + 65)) 65 = d at d0 d1
  have ht' : t.length ≤ 1000000 := by omega
  by_cases hA : (bf t p).2.1 = (0 : Int)
  ·obtain ⟨hr, hpr, s, w, hrun, e, hI, hw⟩ := w9 hA
   have el : eZ t = (eE t, 0) := by unfold eZ; rw [if_pos hr]; rfl
   have hll := wo t
   have ea : cS (eE t) = (le ((eE t).length + 1) (eE t), 0) := by
    unfold cS
    rw [if_neg (by have := (Dw.1 hr).2.2; omega)]
   obtain ⟨p0', p64, _⟩ := tq hpr
   have hw4 : IntKind.wrap .i64 (4 * IntKind.wrap .i64 (lnx ab t + 1)) = 4 * ((t.length : Int) + 1) := by
    show IntKind.wrap .i64 (4 * IntKind.wrap .i64 ((t.length : Int) + 1)) = _
    rw [cB (n := (t.length : Int) + 1) (by omega), cB (by omega)]
   have hwd : IntKind.wrap .i64 (a5 p + d) = a5 p + d := cB (by
    have h1 : 0 ≤ a5 p := p0'
    have h2 : a5 p ≤ 64 := p64
    omega)
   rw [e, el]
   refine ⟨trivial, trivial, ga <| ga ⟨⟨ht', hp⟩, ga ⟨ht', ga ⟨(fun h => by cases h), fun _ => ⟨show (eE t).length ≤ 1000000 by omega, ?_⟩⟩⟩⟩⟩
   show aU _ _ _ _ _ (af.all _ (fun q7 => q7 = ((cS (eE t)).1, (cS (eE t)).2, ())) _)
   rw [ea]
   refine ga ⟨fun _ => trivial, fun h => ?_, fun _ => ⟨show (65 : Int) ≠ 0 by decide, show (65 : Int) ≠ 0 by decide, fun _ => ⟨_, rfl, rfl⟩, fun hM => ⟨⟨ht', hp⟩, ?_⟩⟩⟩
   ·exfalso
    have h : (bif bif bif !true then true else bif bif le ((eE t).length + 1) (eE t) then decide (IntKind.wrap .i64 (4 * IntKind.wrap .i64 (lnx ab t + 1)) ≤ a5 p) else false then !decide (s.2.2 = 0) else false then true else !true then true else false) = true := by
     revert h
     cases hb : (bif bif !true then true else bif bif le ((eE t).length + 1) (eE t) then decide (IntKind.wrap .i64 (4 * IntKind.wrap .i64 (lnx ab t + 1)) ≤ a5 p) else false then !decide (s.2.2 = 0) else false then true else !true) <;> intro h
     ·exact absurd (hb.symm.trans h) (by decide)
     ·rfl
    rw [hw4] at h
    cases hac : le ((eE t).length + 1) (eE t) with
    | false => rw [hac] at h; cases h
    | true =>
     by_cases hh : 4 * ((t.length : Int) + 1) ≤ a5 p
     ·have hz := F9 hkt hpr hid hac hh hrun
      rw [hac, decide_eq_true hh, decide_eq_true hz] at h
      cases h
     ·rw [hac, decide_eq_false hh] at h
      cases h
   ·have hM : (bif decide ((0 : Int) < s.2.2) then true else decide ((64 : Int) < IntKind.wrap .i64 (a5 p + d))) = false := hM
    have n1 : ¬ (0 : Int) < s.2.2 := fun e => by rw [decide_eq_true e] at hM; cases hM
    rw [decide_eq_false n1] at hM
    have n2 : ¬ (64 : Int) < IntKind.wrap .i64 (a5 p + d) := of_decide_eq_false hM
    rw [hwd] at n2
    have hs0 := hI.2.2.2.2.1
    have hz : s.2.2 = 0 := by omega
    have hmore := zM (t := t) d0 1000 0 s0 [p] s w hrun hz (Int.le_refl _) (fun p' hp' => by
     rw [List.mem_singleton.1 hp']
     exact ⟨p0', by omega⟩)
    have epk : ((p.1, IntKind.wrap .i64 (p.2.1 + d), p.2.2) : Pk) = fA d p := by
     show ((p.1, IntKind.wrap .i64 (a5 p + d), p.2.2) : Pk) = _
     rw [hwd]
     rfl
    have e8 : bf t (p.1, IntKind.wrap .i64 (p.2.1 + d), p.2.2) = ((d3 s.1 16, s.2.1, s.2.2, (w : Int), ()), 0, ()) := by
     rw [epk]
     unfold bf
     have hr' : am (fA d p) = true := by rw [wF d0 ⟨p0', by omega⟩]; exact hpr
     rw [if_pos ⟨hr, hr'⟩]
     show sO (fU t 1000 s0 0 ([p].map (fA d))) = _
     rw [hmore]
     rfl
    rw [e8]
    refine ga ⟨fun _ => zZ hI hw, _, rfl, ?_⟩
    show ((bif decide ((0 : Int) = 0) then fm (d3 s.1 16, s.2.1, s.2.2, (w : Int), ()) (d3 s.1 16, s.2.1, s.2.2, (w : Int), ()) else false), ()) = (true, ())
    rw [DW]
    rfl
  ·have hb := A4 hA
   have hd : decide ((bf t p).2.1 = (0 : Int)) = false := decide_eq_false hA
   refine ⟨trivial, trivial, ga <| ga ⟨⟨ht', hp⟩, ga ⟨ht', ga ⟨fun _ => ⟨trivial, ga ⟨_, rfl, ?_⟩⟩, fun h => ?_⟩⟩⟩⟩
   ·show ((bif true then decide (((bf t p).1.2.2.2.1 : Int) = 0) else false), ()) = (true, ())
    rw [hb]
    rfl
   ·exfalso
    have h : (bif !decide ((bf t p).2.1 = (0 : Int)) then true else !decide ((eZ t).2 = (0 : Int))) = false := h
    rw [hd] at h
    cases h
end Go.Proofs.Ytnccacngedeoeaa
