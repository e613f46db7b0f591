/- Part 9 of 9 of what this claim's proof stands on: a theory of programs on data, and the contracts of the functions that the law reaches. It holds no condition of its own. -/
import Derived.Test.YtnakjijahkaoaaaDoorCG8
namespace Go.Proofs.YtnakjijahkaoaaaDoor
open Go Go.RowKit
theorem rF {m : Mg} (h0 : w0 m = false) (h1 : w1 m = false) (h2 : w2 m = false) (h3 : w3 m = false) (h4 : w4 m = false) (h5 : w5 m = false) (h6 : w6 m = false) (h7 : w7 m = false) (h8 : w8 m = false) (h9 : w9 m = false) (h10 : w10 m = false) (h11 : w11 m = true) : aQ m = true := by
 simp only [aQ, h0, h1, h2, h3, h4, h5, h6, h7, h8, h9, h10, h11, cond_false]
theorem zu (s : ByteArray) (n : Nat) : (bt s 0 (bO (aD s) (n : Int))).size ≤ n := by
 unfold bt bO aD
 rw [ByteArray.size_extract]
 split <;> omega
theorem vB : eqb Ty.str (zero Ty.str) ⟨⟨[]⟩⟩ = true := by kernel_rfl
theorem mT {secret : ByteArray} (hs : secret.size ≤ 64) (id : List Int) {host : Int} (hh : 0 ≤ host ∧ host < 16) : (aj secret id host).2 = 0 ∧ (aj secret id host).1.size = 16 := by
 unfold aj
 rw [if_neg (by omega), if_neg (by omega)]
 exact ⟨rfl, zk _ _ _⟩
def jD : Mg := (2, zero tId, (2, zero tId, 3, zero Ty.unit), zero (Ty.slc ah), 5, zero (Ty.pair Ty.str (Ty.pair Ty.str Ty.unit)))
theorem BW : aw ⟨⟨[115]⟩⟩ jD = (1, xQ 3 (zero tId) (2, zero tId, 3, zero Ty.unit) 0 (aj ⟨⟨[115]⟩⟩ (zero tId) 3).1, 0) := by
 have e1 : cg aZ jD.1 = true := rfl
 have e2 : aQ jD = true := by kernel_rfl
 obtain ⟨e3, _⟩ := mT (secret := ⟨⟨[115]⟩⟩) (by decide) (zero tId) (host := 3) (by decide)
 have e4 : ∀ c, dc jD c = 1 := fun _ => rfl
 have e5 : (aj ⟨⟨[115]⟩⟩ jD.2.1 (aP jD)).2 = 0 := e3
 unfold aw
 rw [e1, e2, e5, e4]
 rfl
theorem wz : aJ prog gl iZ iX :=
 cJ (S := iX) (wJ ns) (fx := oF) vZ (by kernel_rfl) (fun _ _ => trivial) (T := fun _ => qg) (fun _ => tj) fun O v0 x _ _ => by
  obtain ⟨_, e9⟩ := mT (secret := ⟨⟨[115]⟩⟩) (by decide) (zero tId) (host := 3) (by decide)
  have key : ∀ q : Int × Mg × Int × Unit, q = ((aw ⟨⟨[115]⟩⟩ jD).1, (aw ⟨⟨[115]⟩⟩ jD).2.1, (aw ⟨⟨[115]⟩⟩ jD).2.2, ()) → q.1 = 1 ∧ q.2.2.1 = 0 ∧ q.2.1.1 = (3 : Int) ∧ aD q.2.1.2.2.2.2.2.1 = 16 := fun q hq => by
   rw [hq, BW]
   refine ⟨rfl, rfl, rfl, ?_⟩
   show ((aj ⟨⟨[115]⟩⟩ (zero tId) 3).1.size : Int) = 16
   rw [e9]; rfl
  refine ⟨by decide, fun q hq => ?_⟩
  obtain ⟨k1, k2, k3, k4⟩ := key q hq
  refine ⟨_, rfl, Prod.ext ?_ rfl⟩
  show (bif bif bif decide (q.2.2.1 = 0) then decide (q.1 = 1) else false then decide (q.2.1.1 = (3 : Int)) else false then decide (aD q.2.1.2.2.2.2.2.1 = 16) else false) = true
  rw [k1, k2, k3, k4]
  rfl
end Go.Proofs.YtnakjijahkaoaaaDoor
namespace Go.Proofs.YtnakjijahkaoaaaDoor
open Go Go.RowKit
theorem na {c b : Bool} (h : (bif c then false else b) = true) : c = false ∧ b = true := by cases c <;> first | exact ⟨rfl, h⟩ | cases h
theorem va {m : Mg} (h : aQ m = true) : w0 m = false ∧ w2 m = false ∧ w3 m = false ∧ w7 m = false ∧ w8 m = false := by
 unfold aQ at h
 obtain ⟨a0, h⟩ := na h
 obtain ⟨a1, h⟩ := na h
 obtain ⟨a2, h⟩ := na h
 obtain ⟨a3, h⟩ := na h
 obtain ⟨a4, h⟩ := na h
 obtain ⟨a5, h⟩ := na h
 obtain ⟨a6, h⟩ := na h
 obtain ⟨a7, h⟩ := na h
 obtain ⟨a8, h⟩ := na h
 exact ⟨a0, a2, a3, a7, a8⟩
theorem wW {t : den ah} (h : dF t = true) : 0 ≤ (t.2.2.1 : Int) ∧ (t.2.2.1 : Int) < 16 := by
 unfold dF at h
 split at h
 ·have h : (t.2.2.1 : Int) = 0 := of_decide_eq_true h
  exact ⟨by rw [h]; decide, by rw [h]; decide⟩
 ·split at h
  ·rw [Bool.and_eq_true, Bool.and_eq_true] at h
   exact ⟨of_decide_eq_true h.1.2, of_decide_eq_true h.2⟩
  ·cases h
def mE (k : Int) (id : List Int) (t : den ah) (n : Int) (nonce : ByteArray) : Mg := (k, id, t, zero (Ty.slc ah), n, nonce, zero (Ty.pair Ty.str Ty.unit))
theorem tJ {t : den ah} (h : t.1 = (2 : Int)) : eqb ah t pr = false := by
 cases e : eqb ah t pr with
 | false => rfl
 | true =>
  have := (eH (t := ah) rfl t pr).1 e
  rw [this] at h
  exact absurd h (by decide)
theorem zK {id : List Int} {t : den ah} {n : Int} {nonce : ByteArray} (ht : t.1 = (2 : Int)) (hi : dF t = true) (h0 : 0 ≤ n) (h1 : n ≤ 1099511627776) (hs : nonce.size = 16) : aQ (mE 4 id t n nonce) = true := by
 refine rF rfl rfl ?_ ?_ rfl rfl rfl (decide_eq_false (show ¬ n < 0 by omega)) (decide_eq_false (show ¬ 1099511627776 < n by omega)) ?_ rfl ?_
 ·show (!eqO true (!eqb ah t pr)) = false
  rw [tJ ht]; rfl
 ·show (!dF t) = false
  rw [hi]; rfl
 ·show (!decide (aD nonce = 16)) = false
  rw [decide_eq_true (show aD nonce = 16 by unfold aD; rw [hs]; rfl)]; rfl
 ·show (bif eqb Ty.str (zero Ty.str) ⟨⟨[]⟩⟩ then true else _) = true
  rw [vB]; rfl
theorem Ae {id : List Int} {t : den ah} {nonce : ByteArray} (ht : t.1 = (2 : Int)) (hi : dF t = true) (hs : nonce.size = 16) : aQ (mE 6 id t 0 nonce) = true := by
 refine rF rfl rfl ?_ ?_ rfl rfl rfl rfl rfl ?_ rfl ?_
 ·show (!eqO true (!eqb ah t pr)) = false
  rw [tJ ht]; rfl
 ·show (!dF t) = false
  rw [hi]; rfl
 ·show (!decide (aD nonce = 16)) = false
  rw [decide_eq_true (show aD nonce = 16 by unfold aD; rw [hs]; rfl)]; rfl
 ·show (bif eqb Ty.str (zero Ty.str) ⟨⟨[]⟩⟩ then true else _) = true
  rw [vB]; rfl
theorem mD {s : ByteArray} {m : Mg} (h1 : cg aZ m.1 = true) (h2 : aQ m = true) (h3 : (aj s m.2.1 (aP m)).2 = 0) (h4 : dc m (aj s m.2.1 (aP m)).1 ≠ 1) : aw s m = (dc m (aj s m.2.1 (aP m)).1, hY, 0) := by
 unfold aw
 rw [h1, h2, h3, decide_eq_false h4]
 rfl
theorem tD {s : ByteArray} {m : Mg} (h2 : aQ m = false) : aw s m = (0, hY, 1) := by
 unfold aw
 rw [h2]
 cases cg aZ m.1 <;> rfl
theorem vk {m : Mg} {n : ByteArray} {g : Int} : dU m n g = bif (bif decide (fO m = 2) then eqb Ty.str (lZ m) n else false) then g else 4 := rfl
theorem yN {s : ByteArray} (hs : s.size ≤ 64) (m : Mg) : (∃ a b, aw s m = (a, hY, b) ∧ ¬ (b = 0 ∧ a = 1)) ∨
    (aw s m = (1, xQ 3 m.2.1 m.2.2.1 0 (aj s m.2.1 (aP m)).1, 0) ∧ m.2.2.1.1 = (2 : Int) ∧ dF m.2.2.1 = true ∧ 0 ≤ mN m ∧ mN m ≤ 1099511627776 ∧ (aj s m.2.1 (aP m)).2 = 0 ∧ (aj s m.2.1 (aP m)).1.size = 16) := by
  cases h1 : cg aZ m.1 with
  | false =>
    refine .inl ⟨0, 1, ?_, fun h => by cases h.1⟩
    unfold aw
    rw [h1]
    rfl
  | true =>
    cases h2 : aQ m with
    | false => exact .inl ⟨0, 1, tD h2, fun h => by cases h.1⟩
    | true =>
      obtain ⟨a0, a2, a3, a7, a8⟩ := va h2
      have hk : m.1 = 2 ∨ m.1 = 4 ∨ m.1 = (6 : Int) := by
        rcases qF m.1 with ⟨h, _⟩ | ⟨h, _⟩ | ⟨h, _⟩ | ⟨_, _, _, h⟩
        · exact .inl h
        · exact .inr (.inl h)
        · exact .inr (.inr h)
        · rw [h1] at h; cases h
      have hf : (mf m).2.1 = true := by
        unfold mf
        rcases hk with h | h | h <;> rw [h] <;> rfl
      have hi : dF m.2.2.1 = true := by
        unfold w3 at a3
        rw [hf] at a3
        cases h : dF m.2.2.1 with
        | true => rfl
        | false => rw [h] at a3; cases a3
      have hn := mT hs m.2.1 (wW hi)
      have h0 : 0 ≤ mN m := Int.not_lt.1 (of_decide_eq_false a7)
      have h8 : mN m ≤ 1099511627776 := Int.not_lt.1 (of_decide_eq_false a8)
      by_cases hj : dc m (aj s m.2.1 (aP m)).1 = 1
      · refine .inr ⟨?_, ?_, hi, h0, h8, hn⟩
        · unfold aw
          have h3 : (aj s m.2.1 (aP m)).2 = 0 := hn.1
          rw [h1, h2, h3, decide_eq_true hj, hj]
          rfl
        · unfold dc at hj
          rcases qF m.1 with ⟨_, _, h⟩ | ⟨_, _, h⟩ | ⟨_, _, h⟩ | ⟨_, _, _, h⟩
          · rw [h] at hj
            have hj : dm m = 1 := hj
            unfold dm at hj
            by_cases ht : fO m = 2
            · exact ht
            · rw [decide_eq_false ht] at hj
              cases hl : iF m.2.1 (lY m).2.1 <;> rw [hl] at hj <;> exact absurd hj (by decide)
          · rw [h] at hj
            have hj : dU m (aj s m.2.1 (aP m)).1 2 = 1 := hj
            rw [vk] at hj
            revert hj
            cases (bif decide (fO m = 2) then eqb Ty.str (lZ m) (aj s m.2.1 (aP m)).1 else false) <;> intro hj <;> exact absurd hj (by decide)
          · rw [h] at hj
            have hj : dU m (aj s m.2.1 (aP m)).1 3 = 1 := hj
            rw [vk] at hj
            revert hj
            cases (bif decide (fO m = 2) then eqb Ty.str (lZ m) (aj s m.2.1 (aP m)).1 else false) <;> intro hj <;> exact absurd hj (by decide)
          · rw [h1] at h; cases h
      · exact .inl ⟨_, 0, mD h1 h2 hn.1 hj, fun h => hj h.2⟩
theorem vL {s : ByteArray} (hs : s.size ≤ 64) (id : List Int) (t : den ah) (n : Int) (nonce : ByteArray) : (aw s (mE 4 id t n nonce) = (0, hY, 1)) ∨
    ((aj s id t.2.2.1).2 = 0 ∧ aw s (mE 4 id t n nonce) = ((bif (bif decide (t.1 = (2 : Int)) then eqb Ty.str nonce (aj s id t.2.2.1).1 else false) then 2 else 4), hY, 0)) := by
  cases h2 : aQ (mE 4 id t n nonce) with
  | false => exact .inl (tD h2)
  | true =>
    obtain ⟨a0, a2, a3, a7, a8⟩ := va h2
    have hi : dF t = true := by
      have a3 : (!dF t) = false := a3
      cases h : dF t with
      | true => rfl
      | false => rw [h] at a3; cases a3
    have hn := mT hs id (wW hi)
    have e4 : ∀ c, dc (mE 4 id t n nonce) c = bif (bif decide (t.1 = (2 : Int)) then eqb Ty.str nonce c else false) then 2 else 4 := fun _ => rfl
    have e6 : (aj s (mE 4 id t n nonce).2.1 (aP (mE 4 id t n nonce))) = aj s id t.2.2.1 := rfl
    refine .inr ⟨hn.1, ?_⟩
    have := mD (s := s) (m := mE 4 id t n nonce) rfl h2 hn.1 (by
      rw [e4, e6]
      cases (bif decide (t.1 = (2 : Int)) then eqb Ty.str nonce (aj s id t.2.2.1).1 else false) <;> decide)
    rw [e4, e6] at this
    exact this
theorem zX (a b : ByteArray) : eqb Ty.str a b = eqb Ty.str b a := by
 have h1 := eH (t := .str) rfl a b
 have h2 := eH (t := .str) rfl b a
 rw [Bool.eq_iff_iff, h1, h2]
 exact ⟨Eq.symm, Eq.symm⟩
theorem pP : aJ prog gl jw (AB cE) :=
 cJ (S := AB cE) (pQ (bG zA) ns wz nP) (fx := i8) po (by kernel_rfl) (fun _ _ => trivial) (T := fun x => ep x.1 x.2.1 x.2.2.1) (fun x => nf x.1 x.2.1 x.2.2.1) fun O v0 x _ _ => by
  obtain ⟨secret, m0, other0, ⟨⟩⟩ := x
  show aK _ _ _ _ _ (ep secret m0 other0)
  unfold ep
  have hs := zu secret 64
  refine ⟨trivial, trivial, vM secret 64, bo <| bo ?_⟩
  have hs : (bt secret 0 (bO (aD secret) 64)).size ≤ 64 := hs
  generalize bt secret 0 (bO (aD secret) 64) = s at hs
  have hm : (bc m0).2.2.2.1.length ≤ 1000000 := by
   show (List.take 6 m0.2.2.2.1).length ≤ _
   rw [List.length_take]; omega
  generalize bc m0 = m at hm
  generalize bc other0 = other
  refine ⟨hm, fun q5 h5 => ?_⟩
  rcases yN hs m with ⟨a, b, hj, hno⟩ | ⟨hj, ht, hi, h0, h1, hn, hz⟩
  ·rw [hj] at h5
   subst h5
   refine ⟨fun _ => ⟨trivial, bo ⟨_, rfl, rfl⟩⟩, fun h => ?_⟩
   exfalso
   have h : (bif !decide ((b : Int) = 0) then true else !decide ((a : Int) = 1)) = false := h
   by_cases hb : (b : Int) = 0
   ·by_cases ha : (a : Int) = 1
    ·exact hno ⟨hb, ha⟩
    ·rw [decide_eq_false ha, decide_eq_true hb] at h; cases h
   ·rw [decide_eq_false hb] at h; cases h
  ·rw [hj] at h5
   subst h5
   have j4 : aw s (mE 4 m.2.1 m.2.2.1 (mN m) (aj s m.2.1 (aP m)).1) = (2, hY, 0) := by
    rcases vL hs m.2.1 m.2.2.1 (mN m) (aj s m.2.1 (aP m)).1 with h | ⟨_, h⟩
    ·exfalso
     have h2 := zK (id := m.2.1) ht hi h0 h1 hz
     have hr := mD (s := s) (m := mE 4 m.2.1 m.2.2.1 (mN m) (aj s m.2.1 (aP m)).1) rfl h2 hn (by
      show (bif (bif decide (m.2.2.1.1 = (2 : Int)) then eqb Ty.str (aj s m.2.1 (aP m)).1 (aj s m.2.1 (aP m)).1 else false) then (2 : Int) else 4) ≠ 1
      cases (bif decide (m.2.2.1.1 = (2 : Int)) then eqb Ty.str (aj s m.2.1 (aP m)).1 (aj s m.2.1 (aP m)).1 else false) <;> decide)
     rw [hr] at h
     have : (0 : Int) = 1 := congrArg (fun p => p.2.2) h
     exact absurd this (by decide)
    ·rw [h, decide_eq_true ht]
     show ((bif eqb Ty.str (aj s m.2.1 (aP m)).1 (aj s m.2.1 (aP m)).1 then (2 : Int) else 4), hY, (0 : Int)) = _
     rw [(eH (t := .str) rfl _ _).2 rfl]
     rfl
   have j6 : aw s (mE 6 m.2.1 m.2.2.1 0 (aj s m.2.1 (aP m)).1) = (3, hY, 0) := by
    have h2 := Ae (id := m.2.1) ht hi hz
    have e4 : dc (mE 6 m.2.1 m.2.2.1 0 (aj s m.2.1 (aP m)).1) (aj s m.2.1 (aP m)).1 = 3 := by
     show (bif (bif decide (m.2.2.1.1 = (2 : Int)) then eqb Ty.str (aj s m.2.1 (aP m)).1 (aj s m.2.1 (aP m)).1 else false) then (3 : Int) else 4) = 3
     rw [decide_eq_true ht, (eH (t := .str) rfl _ _).2 rfl]
     rfl
    have hr := mD (s := s) (m := mE 6 m.2.1 m.2.2.1 0 (aj s m.2.1 (aP m)).1) rfl h2 hn (by
     have e4' : dc (mE 6 m.2.1 m.2.2.1 0 (aj s m.2.1 (aP m)).1) (aj s (mE 6 m.2.1 m.2.2.1 0 (aj s m.2.1 (aP m)).1).2.1 (aP (mE 6 m.2.1 m.2.2.1 0 (aj s m.2.1 (aP m)).1))).1 = 3 := e4
     rw [e4']; decide)
    have e4' : dc (mE 6 m.2.1 m.2.2.1 0 (aj s m.2.1 (aP m)).1) (aj s (mE 6 m.2.1 m.2.2.1 0 (aj s m.2.1 (aP m)).1).2.1 (aP (mE 6 m.2.1 m.2.2.1 0 (aj s m.2.1 (aP m)).1))).1 = 3 := e4
    rw [e4'] at hr
    exact hr
   have jx := vL hs other.2.1 other.2.2.1 (mN m) (aj s m.2.1 (aP m)).1
   generalize aj s m.2.1 (aP m) = nn at *
   refine ⟨(fun h => by have h : false = true := h; cases h), fun _ => ⟨by decide, fun q6 h6 => ⟨by decide, fun q7 h7 => ?_⟩⟩⟩
   have h6 : q6 = ((aw s (mE 4 m.2.1 m.2.2.1 (mN m) nn.1)).1, (aw s (mE 4 m.2.1 m.2.2.1 (mN m) nn.1)).2.1, (aw s (mE 4 m.2.1 m.2.2.1 (mN m) nn.1)).2.2, ()) := h6
   have h7 : q7 = ((aw s (mE 6 m.2.1 m.2.2.1 0 nn.1)).1, (aw s (mE 6 m.2.1 m.2.2.1 0 nn.1)).2.1, (aw s (mE 6 m.2.1 m.2.2.1 0 nn.1)).2.2, ()) := h7
   rw [j4] at h6
   rw [j6] at h7
   subst h6 h7
   refine ⟨fun _ => trivial, (fun h => by have h : false = true := h; cases h), fun _ => ⟨by decide, fun q8 h8 => ?_⟩⟩
   have h8 : q8 = ((aw s (mE 4 other.2.1 other.2.2.1 (mN m) nn.1)).1, (aw s (mE 4 other.2.1 other.2.2.1 (mN m) nn.1)).2.1, (aw s (mE 4 other.2.1 other.2.2.1 (mN m) nn.1)).2.2, ()) := h8
   rcases jx with jx | ⟨nx, jx⟩
   ·rw [jx] at h8
    subst h8
    exact ⟨fun _ => ⟨_, rfl, rfl⟩, (fun h => by have h : true = false := h; cases h)⟩
   ·rw [jx] at h8
    subst h8
    refine ⟨(fun h => by have h : false = true := h; cases h), fun _ => ⟨trivial, bo ⟨_, rfl, Prod.ext ?_ rfl⟩⟩⟩
    show (bif bif decide ((aj s other.2.1 other.2.2.1.2.2.1).2 = 0) then eqO (decide ((bif (bif decide (other.2.2.1.1 = (2 : Int)) then eqb Ty.str nn.1 (aj s other.2.1 other.2.2.1.2.2.1).1 else false) then (2 : Int) else 4) = 2)) (bif decide (other.2.2.1.1 = (2 : Int)) then eqb Ty.str (aj s other.2.1 other.2.2.1.2.2.1).1 nn.1 else false) else false then
     bif decide ((bif (bif decide (other.2.2.1.1 = (2 : Int)) then eqb Ty.str nn.1 (aj s other.2.1 other.2.2.1.2.2.1).1 else false) then (2 : Int) else 4) = 2) then true else decide ((bif (bif decide (other.2.2.1.1 = (2 : Int)) then eqb Ty.str nn.1 (aj s other.2.1 other.2.2.1.2.2.1).1 else false) then (2 : Int) else 4) = 4) else false) = true
    rw [nx, zX nn.1]
    cases (bif decide (other.2.2.1.1 = (2 : Int)) then eqb Ty.str (aj s other.2.1 other.2.2.1.2.2.1).1 nn.1 else false) <;> rfl
end Go.Proofs.YtnakjijahkaoaaaDoor
