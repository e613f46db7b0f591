/- Part 9 of 9 of what this claim's proof stands on: a theory of programs on data, and the contracts of the functions that the law reaches. It holds no condition of its own. -/
import Derived.Test.YtnakjijahkaoaaaDoorCE8
namespace Go.Proofs.YtnakjijahkaoaaaDoor
open Go Go.RowKit
theorem xy {m : Mg} (h0 : w0 m = false) (h1 : w1 m = false) (h2 : w2 m = false) (h3 : w3 m = false) (h4 : w4 m = false) (h5 : w5 m = false) (h6 : w6 m = false) (h7 : w7 m = false) (h8 : w8 m = false) (h9 : w9 m = false) (h10 : w10 m = false) (h11 : w11 m = true) : aY m = true := by
 simp only [aY, h0, h1, h2, h3, h4, h5, h6, h7, h8, h9, h10, h11, cond_false]
theorem A5 {m : Nat} (hm : 0 < m) (hs : m ≤ 1000000) (n : Int) : 0 ≤ Int.tmod (IntKind.wrap .i64 (Int.tmod n m + m)) m ∧ Int.tmod (IntKind.wrap .i64 (Int.tmod n m + m)) m < m := by
 obtain ⟨h1, h2, h3⟩ := yp hm hs n
 rw [h1, h2]
 exact ⟨Int.natCast_nonneg _, Int.ofNat_lt.2 h3⟩
theorem th (s : ByteArray) (n : Nat) : (bQ s 0 (dx (aP s) (n : Int))).size ≤ n := by
 unfold bQ dx aP
 rw [ByteArray.size_extract]
 split <;> omega
def gI (id dst : List Int) (n : Int) : Mg := (2, id, (1, dst, zero (Ty.pair af Ty.unit)), zero (Ty.slc al), n, zero (Ty.pair Ty.str (Ty.pair Ty.str Ty.unit)))
theorem vG : eqb Ty.str (zero Ty.str) ⟨⟨[]⟩⟩ = true := by kernel_rfl
theorem yk (id dst : List Int) {n : Int} (h0 : 0 ≤ n) (h1 : n < 1000) : aY (gI id dst n) = true := by
 refine xy rfl rfl ?_ rfl rfl rfl rfl (decide_eq_false (show ¬ n < 0 by omega)) (decide_eq_false (show ¬ 1099511627776 < n by omega)) rfl ?_ ?_
 ·kernel_rfl
 ·show (!eqb Ty.str (zero Ty.str) ⟨⟨[]⟩⟩) = false
  rw [vG]; rfl
 ·show (bif eqb Ty.str (zero Ty.str) ⟨⟨[]⟩⟩ then true else _) = true
  rw [vG]; rfl
theorem qf {secret : ByteArray} (hs : secret.size ≤ 64) (id : List Int) {host : Int} (hh : 0 ≤ host ∧ host < 16) : (aU secret id host).2 = 0 ∧ (aU secret id host).1.size = 16 := by
 unfold aU
 rw [if_neg (by omega), if_neg (by omega)]
 exact ⟨rfl, zb _ _ _⟩
theorem oD {secret : ByteArray} (hs : secret.size ≤ 64) (id dst : List Int) {n : Int} (h0 : 0 ≤ n) (h1 : n < 1000) : aD secret (gI id dst n) = ((bif c9 id dst then 2 else 4), t8, 0) := by
 have e1 : cp a6 (gI id dst n).1 = true := rfl
 have e2 := yk id dst h0 h1
 obtain ⟨e3, _⟩ := qf hs id (host := 0) (by decide)
 have e4 : ∀ c, iE (gI id dst n) c = bif c9 id dst then 2 else 4 := fun _ => rfl
 have e5 : (aU secret (gI id dst n).2.1 (gn (gI id dst n))).2 = 0 := e3
 unfold aD
 rw [e1, e2, e5, e4]
 cases c9 id dst <;> rfl
def jB : Mg := (2, zero tId, (2, zero tId, 3, zero Ty.unit), zero (Ty.slc al), 5, zero (Ty.pair Ty.str (Ty.pair Ty.str Ty.unit)))
theorem By : aD ⟨⟨[115]⟩⟩ jB = (1, Al 3 (zero tId) (2, zero tId, 3, zero Ty.unit) 0 (aU ⟨⟨[115]⟩⟩ (zero tId) 3).1, 0) := by
 have e1 : cp a6 jB.1 = true := rfl
 have e2 : aY jB = true := by kernel_rfl
 obtain ⟨e3, _⟩ := qf (secret := ⟨⟨[115]⟩⟩) (by decide) (zero tId) (host := 3) (by decide)
 have e4 : ∀ c, iE jB c = 1 := fun _ => rfl
 have e5 : (aU ⟨⟨[115]⟩⟩ jB.2.1 (gn jB)).2 = 0 := e3
 unfold aD
 rw [e1, e2, e5, e4]
 rfl
theorem vU : aJ prog gl iT iN :=
 cO (S := iN) (wo nx) (fx := oX) uu (by kernel_rfl) (fun _ _ => trivial) (T := fun _ => pV) (fun _ => sw) fun O v0 x _ _ => by
  obtain ⟨_, e9⟩ := qf (secret := ⟨⟨[115]⟩⟩) (by decide) (zero tId) (host := 3) (by decide)
  have key : ∀ q : Int × Mg × Int × Unit, q = ((aD ⟨⟨[115]⟩⟩ jB).1, (aD ⟨⟨[115]⟩⟩ jB).2.1, (aD ⟨⟨[115]⟩⟩ jB).2.2, ()) → q.1 = 1 ∧ q.2.2.1 = 0 ∧ q.2.1.1 = (3 : Int) ∧ aP q.2.1.2.2.2.2.2.1 = 16 := fun q hq => by
   rw [hq, By]
   refine ⟨rfl, rfl, rfl, ?_⟩
   show ((aU ⟨⟨[115]⟩⟩ (zero tId) 3).1.size : Int) = 16
   rw [e9]; rfl
  refine ⟨by decide, fun q hq => ?_⟩
  obtain ⟨k1, k2, k3, k4⟩ := key q hq
  refine ⟨_, rfl, Prod.ext ?_ rfl⟩
  show (bif bif bif decide (q.2.2.1 = 0) then decide (q.1 = 1) else false then decide (q.2.1.1 = (3 : Int)) else false then decide (aP q.2.1.2.2.2.2.2.1 = 16) else false) = true
  rw [k1, k2, k3, k4]
  rfl
theorem qT : aJ prog gl kh (zu cL) :=
 cO (S := zu cL) (qp nx vU n9 nj) (fx := jq) pz (by kernel_rfl) (fun _ _ => trivial) (T := fun x => eJ x.1 x.2.1 x.2.2.1 x.2.2.2.1 x.2.2.2.2.1) (fun x => nO x.1 x.2.1 x.2.2.1 x.2.2.2.1 x.2.2.2.2.1) fun O v0 x _ _ => by
  obtain ⟨a, b, id, dst, life, ⟨⟩⟩ := x
  show aF _ _ _ _ _ (eJ a b id dst life)
  unfold eJ
  have ha := th a 64
  have hb := th b 64
  obtain ⟨l0, l1⟩ := A5 (m := 1000) (by decide) (by decide) life
  refine ⟨yM a 64, yM b 64, show (1000 : Int) ≠ 0 by decide, show (1000 : Int) ≠ 0 by decide, ?_⟩
  have ha : (bQ a 0 (dx (aP a) 64)).size ≤ 64 := ha
  have hb : (bQ b 0 (dx (aP b) 64)).size ≤ 64 := hb
  have l0 : 0 ≤ Int.tmod (IntKind.wrap .i64 (Int.tmod life 1000 + 1000)) 1000 := l0
  have l1 : Int.tmod (IntKind.wrap .i64 (Int.tmod life 1000 + 1000)) 1000 < 1000 := l1
  generalize bQ a 0 (dx (aP a) 64) = a at ha
  generalize bQ b 0 (dx (aP b) 64) = b at hb
  generalize Int.tmod (IntKind.wrap .i64 (Int.tmod life 1000 + 1000)) 1000 = n at l0 l1
  have j1 := oD ha id dst l0 l1
  have j2 := oD hb id dst l0 l1
  have j3 := oD ha id (fc id) l0 l1
  rw [xA] at j3
  refine ⟨by decide, fun q5 h5 => ⟨by decide, fun q6 h6 => ⟨trivial, bq ⟨by decide, fun q8 h8 => ⟨trivial, bq ⟨fun _ => trivial, _, rfl, Prod.ext ?_ rfl⟩⟩⟩⟩⟩⟩
  have h5 : q5 = ((aD a (gI id dst n)).1, (aD a (gI id dst n)).2.1, (aD a (gI id dst n)).2.2, ()) := h5
  have h6 : q6 = ((aD b (gI id dst n)).1, (aD b (gI id dst n)).2.1, (aD b (gI id dst n)).2.2, ()) := h6
  have h8 : q8 = ((aD a (gI id (fc id) n)).1, (aD a (gI id (fc id) n)).2.1, (aD a (gI id (fc id) n)).2.2, ()) := h8
  rw [j1] at h5
  rw [j2] at h6
  rw [j3] at h8
  rw [h5, h6, h8]
  cases c9 id dst <;> rfl
end Go.Proofs.YtnakjijahkaoaaaDoor
