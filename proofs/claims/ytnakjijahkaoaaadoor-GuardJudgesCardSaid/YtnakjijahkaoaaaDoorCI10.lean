/- Part 10 of 10 of what this claim's proof stands on: a theory of programs on data, and the contracts of the functions that the law reaches. It holds no condition of its own. -/
import Derived.Test.YtnakjijahkaoaaaDoorCI9
namespace Go.Proofs.YtnakjijahkaoaaaDoor
open Go Go.RowKit
noncomputable abbrev li : Fx := { fn := it, ann := { }, share := true }
noncomputable abbrev lW : aZ := { D := { T := bc, F := [(nX, od), (eK, dN), (gz, gE), (kO, kI), (kM, k6), (iY, iN), (mn, ml), (kW, iG)], R := [], ovl := [], G := gl }, inl := [] }
noncomputable abbrev uF : bm := .data tE
theorem uH (h_l15_cut : au prog gl nX od) (h_guard_Judge : au prog gl eK dN) (h_guard_Trigger : au prog gl gz gE) (h_l15_alive : au prog gl kO kI) (h_r15_About : au prog gl kM k6) (h_r15_Trigger : au prog gl iY iN) (h_r05_Like : au prog gl mn ml) (h_r15_Judge : au prog gl kW iG) : XOk prog lW := xok (aB (aB (aB (aB (aB (aB (aB (aB (aO aT aE) h_r15_Judge) h_r05_Like) h_r15_Trigger) h_r15_About) h_l15_alive) h_guard_Trigger) h_guard_Judge) h_l15_cut) (by kernel_rfl) aG aQ aR
noncomputable def fj (secret : den Ty.str) (m : den aD) (now : den af) : ab := ab.req True (ab.req (bv 0 (bI (ax secret) 70) (ax secret)) (ab.all (den aD) (fun (q3 : den aD) ↦ q3 = bo m) fun (q3 : den aD) ↦ ab.req (List.length (Prod.fst (Prod.snd (Prod.snd (Prod.snd (bo m))))) ≤ 1000000) (ab.all (den (Ty.pair af (Ty.pair aD (Ty.pair af Ty.unit)))) (fun (q4 : den (Ty.pair af (Ty.pair aD (Ty.pair af Ty.unit)))) ↦ q4 = (Prod.fst (bG (a6 secret 0 (bI (ax secret) 70)) (bo m)), Prod.fst (Prod.snd (bG (a6 secret 0 (bI (ax secret) 70)) (bo m))), Prod.snd (Prod.snd (bG (a6 secret 0 (bI (ax secret) 70)) (bo m))), PUnit.unit)) fun (q4 : den (Ty.pair af (Ty.pair aD (Ty.pair af Ty.unit)))) ↦ ab.req (List.length (Prod.fst (Prod.snd (Prod.snd (Prod.snd (bo m))))) ≤ 1000000) (ab.all (den (Ty.pair bH (Ty.pair af Ty.unit))) (fun (q5 : den (Ty.pair bH (Ty.pair af Ty.unit))) ↦ q5 = (Prod.fst (cR (bo m) now), Prod.snd (cR (bo m) now), PUnit.unit)) fun (q5 : den (Ty.pair bH (Ty.pair af Ty.unit))) ↦ ab.req True (ab.all (den Ty.bool) (fun (q6 : den Ty.bool) ↦ q6 = true) fun (q6 : den Ty.bool) ↦ ab.ite (!q6) (ab.ret (K.val (Ty.pair Ty.bool Ty.unit) (false, PUnit.unit))) (ab.req (List.length (Prod.fst (Prod.snd (Prod.snd (Prod.snd (bo m))))) ≤ 1000000) (ab.all (den Ty.bool) (fun (q7 : den Ty.bool) ↦ q7 = cu (bo m)) fun (q7 : den Ty.bool) ↦ ab.ite (bif bif bif !q7 then true else decide (Prod.fst (bo m) = 6) then true else decide (now < 0) then true else decide (1099511627776 < now)) (ab.ite (bif !decide (Prod.fst (Prod.snd q5) = 1) then true else !eqb bH (Prod.fst q5) (zero (Ty.pair tId (Ty.pair ag (Ty.pair af Ty.unit))))) (ab.ret (K.val (Ty.pair Ty.bool Ty.unit) (false, PUnit.unit))) (ab.req (List.length (Prod.fst (Prod.snd (Prod.snd (Prod.snd (bo m))))) ≤ 1000000) (ab.all (den Ty.bool) (fun (q8 : den Ty.bool) ↦ q8 = cu (bo m)) fun (q8 : den Ty.bool) ↦ ab.ite (!q8) (ab.ite (!decide (1 = 0)) (ab.req (cr [(bif decide (Prod.fst (Prod.snd (Prod.snd q4)) = 1) then decide (Prod.fst q4 = 0) else false, true)] True) (ab.ret (K.val (Ty.pair Ty.bool Ty.unit) (bif bif decide (Prod.fst (Prod.snd (Prod.snd q4)) = 1) then decide (Prod.fst q4 = 0) else false then c7 (Prod.fst (Prod.snd q4)) (zero (Ty.pair af (Ty.pair tId (Ty.pair ag (Ty.pair (Ty.slc ag) (Ty.pair af (Ty.pair Ty.str (Ty.pair Ty.str Ty.unit)))))))) else false, PUnit.unit)))) (ab.req (ByteArray.size (a6 secret 0 (bI (ax secret) 70)) ≤ 100) (ab.all (den ar) (fun (q9 : den ar) ↦ q9 = (Prod.fst (bq (a6 secret 0 (bI (ax secret) 70)) (bo m)), Prod.snd (bq (a6 secret 0 (bI (ax secret) 70)) (bo m)), PUnit.unit)) fun (q9 : den ar) ↦ ab.req (cr [(bif decide (Prod.fst (Prod.snd (Prod.snd q4)) = 0) then decide (Prod.fst q4 = Prod.fst q9) else false, true)] True) (ab.ret (K.val (Ty.pair Ty.bool Ty.unit) (bif bif decide (Prod.fst (Prod.snd (Prod.snd q4)) = 0) then decide (Prod.fst q4 = Prod.fst q9) else false then c7 (Prod.fst (Prod.snd q4)) (Prod.fst (Prod.snd q9)) else false, PUnit.unit)))))) (ab.ite (decide (64 < ax (a6 secret 0 (bI (ax secret) 70)))) (ab.ite (!decide (2 = 0)) (ab.req (cr [(bif decide (Prod.fst (Prod.snd (Prod.snd q4)) = 2) then decide (Prod.fst q4 = 0) else false, true)] True) (ab.ret (K.val (Ty.pair Ty.bool Ty.unit) (bif bif decide (Prod.fst (Prod.snd (Prod.snd q4)) = 2) then decide (Prod.fst q4 = 0) else false then c7 (Prod.fst (Prod.snd q4)) (zero (Ty.pair af (Ty.pair tId (Ty.pair ag (Ty.pair (Ty.slc ag) (Ty.pair af (Ty.pair Ty.str (Ty.pair Ty.str Ty.unit)))))))) else false, PUnit.unit)))) (ab.req (ByteArray.size (a6 secret 0 (bI (ax secret) 70)) ≤ 100) (ab.all (den ar) (fun (q9 : den ar) ↦ q9 = (Prod.fst (bq (a6 secret 0 (bI (ax secret) 70)) (bo m)), Prod.snd (bq (a6 secret 0 (bI (ax secret) 70)) (bo m)), PUnit.unit)) fun (q9 : den ar) ↦ ab.req (cr [(bif decide (Prod.fst (Prod.snd (Prod.snd q4)) = 0) then decide (Prod.fst q4 = Prod.fst q9) else false, true)] True) (ab.ret (K.val (Ty.pair Ty.bool Ty.unit) (bif bif decide (Prod.fst (Prod.snd (Prod.snd q4)) = 0) then decide (Prod.fst q4 = Prod.fst q9) else false then c7 (Prod.fst (Prod.snd q4)) (Prod.fst (Prod.snd q9)) else false, PUnit.unit)))))) (ab.ite (!decide (0 = 0)) (ab.req (cr [(bif decide (Prod.fst (Prod.snd (Prod.snd q4)) = 0) then decide (Prod.fst q4 = 0) else false, true)] True) (ab.ret (K.val (Ty.pair Ty.bool Ty.unit) (bif bif decide (Prod.fst (Prod.snd (Prod.snd q4)) = 0) then decide (Prod.fst q4 = 0) else false then c7 (Prod.fst (Prod.snd q4)) (zero (Ty.pair af (Ty.pair tId (Ty.pair ag (Ty.pair (Ty.slc ag) (Ty.pair af (Ty.pair Ty.str (Ty.pair Ty.str Ty.unit)))))))) else false, PUnit.unit)))) (ab.req (ByteArray.size (a6 secret 0 (bI (ax secret) 70)) ≤ 100) (ab.all (den ar) (fun (q9 : den ar) ↦ q9 = (Prod.fst (bq (a6 secret 0 (bI (ax secret) 70)) (bo m)), Prod.snd (bq (a6 secret 0 (bI (ax secret) 70)) (bo m)), PUnit.unit)) fun (q9 : den ar) ↦ ab.req (cr [(bif decide (Prod.fst (Prod.snd (Prod.snd q4)) = 0) then decide (Prod.fst q4 = Prod.fst q9) else false, true)] True) (ab.ret (K.val (Ty.pair Ty.bool Ty.unit) (bif bif decide (Prod.fst (Prod.snd (Prod.snd q4)) = 0) then decide (Prod.fst q4 = Prod.fst q9) else false then c7 (Prod.fst (Prod.snd q4)) (Prod.fst (Prod.snd q9)) else false, PUnit.unit)))))))))) (ab.req (cr [(!decide (Prod.fst (Prod.snd q5) = 0), false)] True) (ab.ite (bif !decide (Prod.fst (Prod.snd q5) = 0) then true else !eqb bH (Prod.fst q5) (g9 (bo m) now)) (ab.ret (K.val (Ty.pair Ty.bool Ty.unit) (false, PUnit.unit))) (ab.req (List.length (Prod.fst (Prod.snd (Prod.snd (Prod.snd (bo m))))) ≤ 1000000) (ab.all (den Ty.bool) (fun (q8 : den Ty.bool) ↦ q8 = cu (bo m)) fun (q8 : den Ty.bool) ↦ ab.ite (!q8) (ab.ite (!decide (1 = 0)) (ab.req (cr [(bif decide (Prod.fst (Prod.snd (Prod.snd q4)) = 1) then decide (Prod.fst q4 = 0) else false, true)] True) (ab.ret (K.val (Ty.pair Ty.bool Ty.unit) (bif bif decide (Prod.fst (Prod.snd (Prod.snd q4)) = 1) then decide (Prod.fst q4 = 0) else false then c7 (Prod.fst (Prod.snd q4)) (zero (Ty.pair af (Ty.pair tId (Ty.pair ag (Ty.pair (Ty.slc ag) (Ty.pair af (Ty.pair Ty.str (Ty.pair Ty.str Ty.unit)))))))) else false, PUnit.unit)))) (ab.req (ByteArray.size (a6 secret 0 (bI (ax secret) 70)) ≤ 100) (ab.all (den ar) (fun (q9 : den ar) ↦ q9 = (Prod.fst (bq (a6 secret 0 (bI (ax secret) 70)) (bo m)), Prod.snd (bq (a6 secret 0 (bI (ax secret) 70)) (bo m)), PUnit.unit)) fun (q9 : den ar) ↦ ab.req (cr [(bif decide (Prod.fst (Prod.snd (Prod.snd q4)) = 0) then decide (Prod.fst q4 = Prod.fst q9) else false, true)] True) (ab.ret (K.val (Ty.pair Ty.bool Ty.unit) (bif bif decide (Prod.fst (Prod.snd (Prod.snd q4)) = 0) then decide (Prod.fst q4 = Prod.fst q9) else false then c7 (Prod.fst (Prod.snd q4)) (Prod.fst (Prod.snd q9)) else false, PUnit.unit)))))) (ab.ite (decide (64 < ax (a6 secret 0 (bI (ax secret) 70)))) (ab.ite (!decide (2 = 0)) (ab.req (cr [(bif decide (Prod.fst (Prod.snd (Prod.snd q4)) = 2) then decide (Prod.fst q4 = 0) else false, true)] True) (ab.ret (K.val (Ty.pair Ty.bool Ty.unit) (bif bif decide (Prod.fst (Prod.snd (Prod.snd q4)) = 2) then decide (Prod.fst q4 = 0) else false then c7 (Prod.fst (Prod.snd q4)) (zero (Ty.pair af (Ty.pair tId (Ty.pair ag (Ty.pair (Ty.slc ag) (Ty.pair af (Ty.pair Ty.str (Ty.pair Ty.str Ty.unit)))))))) else false, PUnit.unit)))) (ab.req (ByteArray.size (a6 secret 0 (bI (ax secret) 70)) ≤ 100) (ab.all (den ar) (fun (q9 : den ar) ↦ q9 = (Prod.fst (bq (a6 secret 0 (bI (ax secret) 70)) (bo m)), Prod.snd (bq (a6 secret 0 (bI (ax secret) 70)) (bo m)), PUnit.unit)) fun (q9 : den ar) ↦ ab.req (cr [(bif decide (Prod.fst (Prod.snd (Prod.snd q4)) = 0) then decide (Prod.fst q4 = Prod.fst q9) else false, true)] True) (ab.ret (K.val (Ty.pair Ty.bool Ty.unit) (bif bif decide (Prod.fst (Prod.snd (Prod.snd q4)) = 0) then decide (Prod.fst q4 = Prod.fst q9) else false then c7 (Prod.fst (Prod.snd q4)) (Prod.fst (Prod.snd q9)) else false, PUnit.unit)))))) (ab.ite (!decide (0 = 0)) (ab.req (cr [(bif decide (Prod.fst (Prod.snd (Prod.snd q4)) = 0) then decide (Prod.fst q4 = 0) else false, true)] True) (ab.ret (K.val (Ty.pair Ty.bool Ty.unit) (bif bif decide (Prod.fst (Prod.snd (Prod.snd q4)) = 0) then decide (Prod.fst q4 = 0) else false then c7 (Prod.fst (Prod.snd q4)) (zero (Ty.pair af (Ty.pair tId (Ty.pair ag (Ty.pair (Ty.slc ag) (Ty.pair af (Ty.pair Ty.str (Ty.pair Ty.str Ty.unit)))))))) else false, PUnit.unit)))) (ab.req (ByteArray.size (a6 secret 0 (bI (ax secret) 70)) ≤ 100) (ab.all (den ar) (fun (q9 : den ar) ↦ q9 = (Prod.fst (bq (a6 secret 0 (bI (ax secret) 70)) (bo m)), Prod.snd (bq (a6 secret 0 (bI (ax secret) 70)) (bo m)), PUnit.unit)) fun (q9 : den ar) ↦ ab.req (cr [(bif decide (Prod.fst (Prod.snd (Prod.snd q4)) = 0) then decide (Prod.fst q4 = Prod.fst q9) else false, true)] True) (ab.ret (K.val (Ty.pair Ty.bool Ty.unit) (bif bif decide (Prod.fst (Prod.snd (Prod.snd q4)) = 0) then decide (Prod.fst q4 = Prod.fst q9) else false then c7 (Prod.fst (Prod.snd q4)) (Prod.fst (Prod.snd q9)) else false, PUnit.unit))))))))))))))))))
theorem qo (secret : den Ty.str) (m : den aD) (now : den af) : al lW uF 5000 [] li (aA it) (Env.of (aN db (secret, m, now, ()) 0) []) = fj secret m now := by kernel_rfl
end Go.Proofs.YtnakjijahkaoaaaDoor
namespace Go.Proofs.YtnakjijahkaoaaaDoor
open Go Go.RowKit
theorem rb {m : Mg} (h : cu m = true) : aL m = true ∧ (m.1 = (2 : Int) ∨ m.1 = (4 : Int) ∨ m.1 = (6 : Int)) := by
 unfold cu at h
 cases hw : aL m with
 | false => rw [hw] at h; cases h
 | true =>
  rw [hw, cond_true] at h
  refine ⟨rfl, ?_⟩
  by_cases h2 : m.1 = (2 : Int)
  ·exact .inl h2
  ·by_cases h4 : m.1 = (4 : Int)
   ·exact .inr (.inl h4)
   ·rw [decide_eq_false h2, decide_eq_false h4] at h
    exact .inr (.inr (of_decide_eq_true h))
theorem Ge {m : Mg} (h : cu m = false) : (bif !bZ bB m.1 then true else !aL m) = true := by
 unfold cu at h
 cases hw : aL m with
 | false => cases bZ bB m.1 <;> rfl
 | true =>
  rw [hw, cond_true] at h
  rcases BB m.1 with ⟨e, _⟩ | ⟨e, _⟩ | ⟨e, _⟩ | ⟨_, _, _, e⟩
  ·rw [decide_eq_true e] at h; cases h
  ·rw [decide_eq_true e] at h
   cases hd : decide (m.1 = (2 : Int)) <;> rw [hd] at h <;> cases h
  ·rw [decide_eq_true e] at h
   cases hd : decide (m.1 = (2 : Int)) <;> cases hd' : decide (m.1 = (4 : Int)) <;> rw [hd, hd'] at h <;> cases h
  ·rw [e]; rfl
theorem wP {s : ByteArray} {m : Mg} (h : cu m = false) : bG s m = (0, fg, 1) := by
 unfold bG
 rw [Ge h]
 rfl
theorem At {m : Mg} (h : cu m = true) : (bif !bZ bB m.1 then true else !aL m) = false := by
 obtain ⟨h1, h2⟩ := rb h
 have e : bZ bB m.1 = true := by rcases h2 with e | e | e <;> rw [e] <;> rfl
 rw [e, h1]
 rfl
theorem IR {n : Int} (h1 : 0 ≤ n) (h2 : n < 16) : ¬ (n < 0 ∨ 16 ≤ n) := by omega
theorem E1 {e : den ag} (h : dF e = true) : (e.1 = (1 : Int) ∨ e.1 = (2 : Int)) ∧ ¬ ((e.2.2.1 : Int) < 0 ∨ 16 ≤ (e.2.2.1 : Int)) := by
 unfold dF at h
 split at h
 ·rename_i h1
  have h : (e.2.2.1 : Int) = 0 := of_decide_eq_true h
  exact ⟨.inl h1, by rw [h]; decide⟩
 ·split at h
  ·rename_i h2
   simp only [Bool.and_eq_true, decide_eq_true_eq] at h
   have h3 : (0 : Int) ≤ e.2.2.1 := h.1.2
   have h4 : (e.2.2.1 : Int) < 16 := h.2
   exact ⟨.inr h2, IR h3 h4⟩
  ·cases h
theorem Ca {m : Mg} (h : aL m = true) (hk : m.1 = (2 : Int) ∨ m.1 = (4 : Int) ∨ m.1 = (6 : Int)) : dF m.2.2.1 = true := by
 have hf : (mf m).2.1 = true := by unfold mf; rcases hk with e | e | e <;> rw [e] <;> rfl
 cases hi : dF m.2.2.1 with
 | true => rfl
 | false =>
  exfalso
  have h3 : w3 m = true := by unfold w3; rw [hf, hi]; rfl
  unfold aL at h
  rw [h3] at h
  revert h
  cases w0 m <;> cases w1 m <;> cases w2 m <;> intro h <;> cases h
theorem IM {m : Mg} {nonce : ByteArray} : (m.1 = (2 : Int) → d4 m nonce = dQ m) ∧ (m.1 = (4 : Int) → d4 m nonce = en m nonce 2) ∧ (m.1 = (6 : Int) → d4 m nonce = en m nonce 3) := by
 refine ⟨fun e => ?_, fun e => ?_, fun e => ?_⟩ <;> unfold d4 <;> rw [e] <;> rfl
theorem xV {s : ByteArray} {m : Mg} (h : cu m = true) (hs : 64 < s.size) : bG s m = (0, fg, 2) := by
 obtain ⟨h1, h2⟩ := rb h
 have hh := (E1 (Ca h1 h2)).2
 have e : bj s m.2.1 (cH m) = (e0, 2) := Gm hh hs
 unfold bG
 rw [At h, e]
 rfl
theorem Ak {s : ByteArray} {m : Mg} (h : cu m = true) (hs : ¬ 64 < s.size) (hb : Byt m.2.1) (hc : Byt (fu m).2.1) : bG s m = ((bq s m).1, (bq s m).2, 0) := by
 obtain ⟨h1, h2⟩ := rb h
 obtain ⟨ht, hh⟩ := E1 (Ca h1 h2)
 have e : bj s m.2.1 (cH m) = (cm s m.2.1 (cH m), 0) := FU hh hs
 have hl := Gh hb hc
 obtain ⟨j2, j4, j6⟩ := IM (m := m) (nonce := cm s m.2.1 (cH m))
 have ht : fB m = (1 : Int) ∨ fB m = (2 : Int) := ht
 unfold bG
 rw [At h, e]
 show (bif decide (d4 m (cm s m.2.1 (cH m)) = 1) then (d4 m (cm s m.2.1 (cH m)), Bg 3 m.2.1 m.2.2.1 0 (cm s m.2.1 (cH m)), (0 : Int)) else (d4 m (cm s m.2.1 (cH m)), fg, 0)) = _
 unfold bq
 rw [hl]
 rcases h2 with e2 | e4 | e6
 ·rw [j2 e2, if_pos e2, if_pos e2]
  unfold dQ
  rcases ht with t | t
  ·rw [t]
   cases gN m.2.1 (fu m).2.1 <;> rfl
  ·rw [t]; rfl
 ·have n2 : ¬ m.1 = (2 : Int) := by rw [e4]; decide
  rw [j4 e4, if_neg n2, if_neg n2, if_pos e4]
  unfold en
  rcases ht with t | t
  ·rw [t]; rfl
  ·rw [t]
   cases eqb Ty.str (iH m) (cm s m.2.1 (cH m)) <;> rfl
 ·have n2 : ¬ m.1 = (2 : Int) := by rw [e6]; decide
  have n4 : ¬ m.1 = (4 : Int) := by rw [e6]; decide
  rw [j6 e6, if_neg n2, if_neg n2, if_neg n4]
  unfold en
  rcases ht with t | t
  ·rw [t]; rfl
  ·rw [t]
   cases eqb Ty.str (iH m) (cm s m.2.1 (cH m)) <;> rfl
def yV (m : Mg) (now : Int) : Bool := bif (bif (bif !cu m then true else decide (m.1 = (6 : Int))) then true else decide (now < 0)) then true else decide (1099511627776 < now)
theorem zZ {m : Mg} {now : Int} : yV m now = (bif bif bif (bif !decide (m.1 = (2 : Int)) then !decide (m.1 = (4 : Int)) else false) then true else !aL m then true else decide (now < 0) then true else decide (1099511627776 < now)) := by
 unfold yV cu
 have n26 : m.1 = (2 : Int) → ¬ m.1 = (6 : Int) := fun e => by rw [e]; decide
 have n46 : m.1 = (4 : Int) → ¬ m.1 = (6 : Int) := fun e => by rw [e]; decide
 by_cases h2 : m.1 = (2 : Int)
 ·rw [decide_eq_true h2, decide_eq_false (n26 h2)]
  cases aL m <;> rfl
 ·rw [decide_eq_false h2]
  by_cases h4 : m.1 = (4 : Int)
  ·rw [decide_eq_true h4, decide_eq_false (n46 h4)]
   cases aL m <;> rfl
  ·rw [decide_eq_false h4]
   cases aL m <;> cases decide (m.1 = (6 : Int)) <;> rfl
theorem IN {m : Mg} {now : Int} (h : yV m now = true) : cR m now = (xh, 1) := by
 rw [zZ] at h
 unfold cR
 rw [h]
 rfl
theorem GM {m : Mg} {now : Int} (h : yV m now = false) : cR m now = (g9 m now, 0) := by
 rw [zZ] at h
 unfold cR
 rw [h]
 rfl
theorem Ce (x : den bH) : eqb bH x x = true := (dL (t := bH) rfl _ _).2 rfl
theorem uJ : au prog gl lX (IL db) :=
 bw (S := IL db) (uH (bJ Gv) rF (bJ xY) Eh (bJ Ds) (bJ AD) (bJ FM) (bJ Dw)) (fx := li) s9 (by kernel_rfl) (fun _ _ => trivial) (T := fun x => fj x.1 x.2.1 x.2.2.1) (fun x => qo x.1 x.2.1 x.2.2.1) fun O v0 x hk _ => by
  obtain ⟨s0, m0, now, ⟨⟩⟩ := x
  have hb : Byt (bo m0).2.1 := GC hk.2.1.2.1
  have hc : Byt (fu (bo m0)).2.1 := GC hk.2.1.2.2.1.2.1
  have hlen : (bo m0).2.2.2.1.length ≤ 1000000 := by
   show (List.take 6 m0.2.2.2.1).length ≤ 1000000
   rw [List.length_take]; omega
  show a7 _ _ _ _ _ (fj s0 m0 now)
  unfold fj
  have hs := GF s0 70
  refine ⟨trivial, BX s0 70, ?_⟩
  have hs : (a6 s0 0 (bI (ax s0) 70)).size ≤ 70 := hs
  generalize a6 s0 0 (bI (ax s0) 70) = s at hs
  refine aM ?_
  generalize bo m0 = m at hb hc hlen
  have hs100 : s.size ≤ 100 := by omega
  refine ⟨hlen, fun q4 h4 => ⟨hlen, fun q5 h5 => ⟨trivial, aM ⟨(fun h => by cases h), fun _ => ⟨hlen, aM ⟨fun h => ?_, fun h => ?_⟩⟩⟩⟩⟩⟩
  ·have h : yV m now = true := h
   rw [IN h] at h5
   refine ⟨fun h2 => ?_, fun _ => ⟨hlen, aM ⟨fun hA => ⟨fun _ => ⟨fun _ => trivial, _, rfl, Prod.ext ?_ rfl⟩, (fun h => by cases h)⟩, fun hA => ⟨fun hL => ⟨fun _ => ⟨fun _ => trivial, _, rfl, Prod.ext ?_ rfl⟩, (fun h => by cases h)⟩, fun hL => ⟨(fun h => by cases h), fun _ => ⟨hs100, aM ⟨fun _ => trivial, _, rfl, Prod.ext ?_ rfl⟩⟩⟩⟩⟩⟩⟩
   ·exfalso
    rw [h5] at h2
    have h2 : (bif !decide ((1 : Int) = 1) then true else !eqb bH xh xh) = true := h2
    rw [Ce] at h2
    cases h2
   ·have hA : cu m = false := by simpa using hA
    rw [wP hA] at h4
    rw [h4]
    exact jj fg
   ·have hA : cu m = true := by simpa using hA
    rw [xV hA (Int.ofNat_lt.1 (of_decide_eq_true hL))] at h4
    rw [h4]
    exact jj fg
   ·have hA : cu m = true := by simpa using hA
    rw [Ak hA (fun h3 => of_decide_eq_false hL (Int.ofNat_lt.2 h3)) hb hc] at h4
    rw [h4]
    show (bif (bif decide ((0 : Int) = 0) then decide ((bq s m).1 = (bq s m).1) else false) then c7 (bq s m).2 (bq s m).2 else false) = true
    rw [jj, decide_eq_true rfl, decide_eq_true rfl]
    rfl
  ·have h : yV m now = false := h
   rw [GM h] at h5
   refine ⟨fun _ => trivial, fun h2 => ?_, fun _ => ⟨hlen, aM ⟨fun hA => ⟨fun _ => ⟨fun _ => trivial, _, rfl, Prod.ext ?_ rfl⟩, (fun h => by cases h)⟩, fun hA => ⟨fun hL => ⟨fun _ => ⟨fun _ => trivial, _, rfl, Prod.ext ?_ rfl⟩, (fun h => by cases h)⟩, fun hL => ⟨(fun h => by cases h), fun _ => ⟨hs100, aM ⟨fun _ => trivial, _, rfl, Prod.ext ?_ rfl⟩⟩⟩⟩⟩⟩⟩
   ·exfalso
    rw [h5] at h2
    have h2 : (bif !decide ((0 : Int) = 0) then true else !eqb bH (g9 m now) (g9 m now)) = true := h2
    rw [Ce] at h2
    cases h2
   ·have hA : cu m = false := by simpa using hA
    rw [wP hA] at h4
    rw [h4]
    exact jj fg
   ·have hA : cu m = true := by simpa using hA
    rw [xV hA (Int.ofNat_lt.1 (of_decide_eq_true hL))] at h4
    rw [h4]
    exact jj fg
   ·have hA : cu m = true := by simpa using hA
    rw [Ak hA (fun h3 => of_decide_eq_false hL (Int.ofNat_lt.2 h3)) hb hc] at h4
    rw [h4]
    show (bif (bif decide ((0 : Int) = 0) then decide ((bq s m).1 = (bq s m).1) else false) then c7 (bq s m).2 (bq s m).2 else false) = true
    rw [jj, decide_eq_true rfl, decide_eq_true rfl]
    rfl
end Go.Proofs.YtnakjijahkaoaaaDoor
