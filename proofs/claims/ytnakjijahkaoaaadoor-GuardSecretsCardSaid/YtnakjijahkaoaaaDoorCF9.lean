/- Part 9 of 9 of what this claim's proof stands on: a theory of programs on data, and the contracts of the functions that the law reaches. It holds no condition of its own. -/
import Derived.Test.YtnakjijahkaoaaaDoorCF8
namespace Go.Proofs.YtnakjijahkaoaaaDoor
open Go Go.RowKit
theorem xy {m : Mg} (h0 : w0 m = false) (h1 : w1 m = false) (h2 : w2 m = false) (h3 : w3 m = false) (h4 : w4 m = false) (h5 : w5 m = false) (h6 : w6 m = false) (h7 : w7 m = false) (h8 : w8 m = false) (h9 : w9 m = false) (h10 : w10 m = false) (h11 : w11 m = true) : aU m = true := by
 simp only [aU, h0, h1, h2, h3, h4, h5, h6, h7, h8, h9, h10, h11, cond_false]
theorem vR {m : Nat} (hm : 0 < m) (hs : m ≤ 1000000) (n : Int) : 0 ≤ Int.tmod (IntKind.wrap .i64 (Int.tmod n m + m)) m ∧ Int.tmod (IntKind.wrap .i64 (Int.tmod n m + m)) m < m := by
 obtain ⟨h1, h2, h3⟩ := yX hm hs n
 rw [h1, h2]
 exact ⟨Int.natCast_nonneg _, Int.ofNat_lt.2 h3⟩
theorem tr (s : ByteArray) (n : Nat) : (ce s 0 (c5 (aN s) (n : Int))).size ≤ n := by
 unfold ce c5 aN
 rw [ByteArray.size_extract]
 split <;> omega
def g9 (k : Int) (id : List Int) (host n : Int) (nonce : ByteArray) : Mg := (k, id, (2, zero tId, host, zero Ty.unit), zero (Ty.slc al), n, nonce, zero (Ty.pair Ty.str Ty.unit))
theorem Am : eqb Ty.str (zero Ty.str) ⟨⟨[]⟩⟩ = true := by kernel_rfl
theorem tt (id : List Int) {host n : Int} {nonce : ByteArray} (hh : 0 ≤ host ∧ host < 16) (h0 : 0 ≤ n) (h1 : n ≤ 1099511627776) (hs : nonce.size = 16) : aU (g9 4 id host n nonce) = true := by
 refine xy rfl rfl ?_ ?_ rfl rfl rfl (decide_eq_false (show ¬ n < 0 by omega)) (decide_eq_false (show ¬ 1099511627776 < n by omega)) ?_ rfl ?_
 ·kernel_rfl
 ·show (!((decide (List.replicate 32 (0 : Int) = List.replicate 32 0) && decide (0 ≤ host)) && decide (host < 16))) = false
  rw [decide_eq_true hh.1, decide_eq_true hh.2, decide_eq_true rfl]; rfl
 ·show (!decide (aN nonce = 16)) = false
  rw [decide_eq_true (show aN nonce = 16 by unfold aN; rw [hs]; rfl)]; rfl
 ·show (bif eqb Ty.str (zero Ty.str) ⟨⟨[]⟩⟩ then true else _) = true
  rw [Am]; rfl
theorem kT {secret : ByteArray} (hs : secret.size ≤ 64) (id : List Int) {host : Int} (hh : 0 ≤ host ∧ host < 16) : (ax secret id host).2 = 0 ∧ (ax secret id host).1.size = 16 := by
 unfold ax
 rw [if_neg (by omega), if_neg (by omega)]
 exact ⟨rfl, y8 _ _ _⟩
theorem yr {secret : ByteArray} (hs : secret.size ≤ 64) (id : List Int) {host n : Int} {nonce : ByteArray} (hh : 0 ≤ host ∧ host < 16) (h0 : 0 ≤ n) (h1 : n ≤ 1099511627776) (hz : nonce.size = 16) :
    aZ secret (g9 4 id host n nonce) = ((bif eqb Ty.str nonce (ax secret id host).1 then 2 else 4), ut, 0) := by
  have e1 : cr a6 (g9 4 id host n nonce).1 = true := rfl
  have e2 := tt id hh h0 h1 hz
  obtain ⟨e3, _⟩ := kT hs id hh
  have e4 : ∀ c, iG (g9 4 id host n nonce) c = bif eqb Ty.str nonce c then 2 else 4 := fun _ => rfl
  have e5 : (ax secret (g9 4 id host n nonce).2.1 (ga (g9 4 id host n nonce))).2 = 0 := e3
  have e6 : (ax secret (g9 4 id host n nonce).2.1 (ga (g9 4 id host n nonce))).1 = (ax secret id host).1 := rfl
  unfold aZ
  rw [e1, e2, e5, e4, e6]
  cases eqb Ty.str nonce (ax secret id host).1 <;> rfl
def jF : Mg := (2, zero tId, (2, zero tId, 3, zero Ty.unit), zero (Ty.slc al), 5, zero (Ty.pair Ty.str (Ty.pair Ty.str Ty.unit)))
theorem BT : aZ ⟨⟨[115]⟩⟩ jF = (1, Az 3 (zero tId) (2, zero tId, 3, zero Ty.unit) 0 (ax ⟨⟨[115]⟩⟩ (zero tId) 3).1, 0) := by
 have e1 : cr a6 jF.1 = true := rfl
 have e2 : aU jF = true := by kernel_rfl
 obtain ⟨e3, _⟩ := kT (secret := ⟨⟨[115]⟩⟩) (by decide) (zero tId) (host := 3) (by decide)
 have e4 : ∀ c, iG jF c = 1 := fun _ => rfl
 have e5 : (ax ⟨⟨[115]⟩⟩ jF.2.1 (ga jF)).2 = 0 := e3
 unfold aZ
 rw [e1, e2, e5, e4]
 rfl
theorem vV : aF prog gl iS iV :=
 cI (S := iV) (wr nH) (fx := ol) uA (by kernel_rfl) (fun _ _ => trivial) (T := fun _ => p5) (fun _ => sw) fun O v0 x _ _ => by
  obtain ⟨_, e9⟩ := kT (secret := ⟨⟨[115]⟩⟩) (by decide) (zero tId) (host := 3) (by decide)
  have key : ∀ q : Int × Mg × Int × Unit, q = ((aZ ⟨⟨[115]⟩⟩ jF).1, (aZ ⟨⟨[115]⟩⟩ jF).2.1, (aZ ⟨⟨[115]⟩⟩ jF).2.2, ()) → q.1 = 1 ∧ q.2.2.1 = 0 ∧ q.2.1.1 = (3 : Int) ∧ aN q.2.1.2.2.2.2.2.1 = 16 := fun q hq => by
   rw [hq, BT]
   refine ⟨rfl, rfl, rfl, ?_⟩
   show ((ax ⟨⟨[115]⟩⟩ (zero tId) 3).1.size : Int) = 16
   rw [e9]; rfl
  refine ⟨by decide, fun q hq => ?_⟩
  obtain ⟨k1, k2, k3, k4⟩ := key q hq
  refine ⟨_, rfl, Prod.ext ?_ rfl⟩
  show (bif bif bif decide (q.2.2.1 = 0) then decide (q.1 = 1) else false then decide (q.2.1.1 = (3 : Int)) else false then decide (aN q.2.1.2.2.2.2.2.1 = 16) else false) = true
  rw [k1, k2, k3, k4]
  rfl
theorem o5 : aF prog gl jc (zP cn) :=
 cI (S := zP cn) (oa nH (bA r8) vV nx) (fx := iB) nZ (by kernel_rfl) (fun _ _ => trivial) (T := fun x => dO x.1 x.2.1 x.2.2.1 x.2.2.2.1 x.2.2.2.2.1 x.2.2.2.2.2.1) (fun x => l9 x.1 x.2.1 x.2.2.1 x.2.2.2.1 x.2.2.2.2.1 x.2.2.2.2.2.1) fun O v0 x _ _ => by
  obtain ⟨a, b, id, host, life, now, ⟨⟩⟩ := x
  show aH _ _ _ _ _ (dO a b id host life now)
  unfold dO
  have ha := tr a 64
  have hb := tr b 64
  have hl := vR (m := 1000) (by decide) (by decide) life
  have hw := vR (m := 1000) (by decide) (by decide) now
  have hh := vR (m := 16) (by decide) (by decide) host
  refine ⟨yL a 64, yL b 64, show (16 : Int) ≠ 0 by decide, show (16 : Int) ≠ 0 by decide, show (1000 : Int) ≠ 0 by decide, show (1000 : Int) ≠ 0 by decide, show (1000 : Int) ≠ 0 by decide, show (1000 : Int) ≠ 0 by decide, trivial, ?_⟩
  have ha : (ce a 0 (c5 (aN a) 64)).size ≤ 64 := ha
  have hb : (ce b 0 (c5 (aN b) 64)).size ≤ 64 := hb
  have hl : 0 ≤ Int.tmod (IntKind.wrap .i64 (Int.tmod life 1000 + 1000)) 1000 ∧ Int.tmod (IntKind.wrap .i64 (Int.tmod life 1000 + 1000)) 1000 < 1000 := hl
  have hw : 0 ≤ Int.tmod (IntKind.wrap .i64 (Int.tmod now 1000 + 1000)) 1000 ∧ Int.tmod (IntKind.wrap .i64 (Int.tmod now 1000 + 1000)) 1000 < 1000 := hw
  have hh : 0 ≤ Int.tmod (IntKind.wrap .i64 (Int.tmod host 16 + 16)) 16 ∧ Int.tmod (IntKind.wrap .i64 (Int.tmod host 16 + 16)) 16 < 16 := hh
  generalize ce a 0 (c5 (aN a) 64) = a at ha
  generalize ce b 0 (c5 (aN b) 64) = b at hb
  generalize Int.tmod (IntKind.wrap .i64 (Int.tmod life 1000 + 1000)) 1000 = n at hl
  generalize Int.tmod (IntKind.wrap .i64 (Int.tmod now 1000 + 1000)) 1000 = t at hw
  generalize Int.tmod (IntKind.wrap .i64 (Int.tmod host 16 + 16)) 16 = h at hh
  obtain ⟨na, za⟩ := kT ha id hh
  obtain ⟨nb, zb⟩ := kT hb id hh
  have j1 := yr hb id hh hl.1 (by omega) za
  have ht : cf (g9 4 id h n (ax a id h).1) t = ((id, (2, zero tId, h, ()), t + n, ()), 0) := by
   have e1 := tt id hh hl.1 (show n ≤ 1099511627776 by omega) za
   unfold cf
   rw [e1, decide_eq_false (show ¬ t < 0 by omega), decide_eq_false (show ¬ 1099511627776 < t by omega)]
   have e2 : IntKind.wrap .i64 (t + n) = t + n := eK (by omega)
   have e3 : c5 (t + n) 1099511627776 = t + n := by unfold c5; rw [if_neg (by omega)]
   show ((id, (2, zero tId, h, ()), c5 (IntKind.wrap .i64 (t + n)) 1099511627776, ()), (0 : Int)) = _
   rw [e2, e3]
  refine fun q6 h6 => ⟨trivial, fun q7 h7 => ⟨by decide, fun q8 h8 => ⟨by decide, fun q9 h9 => ⟨trivial, bw ⟨_, rfl, Prod.ext ?_ rfl⟩⟩⟩⟩⟩
  subst h6
  have h8 : q8 = ((aZ b (g9 4 id h n (ax a id h).1)).1, (aZ b (g9 4 id h n (ax a id h).1)).2.1, (aZ b (g9 4 id h n (ax a id h).1)).2.2, ()) := h8
  have h9 : q9 = ((cf (g9 4 id h n (ax a id h).1) t).1, (cf (g9 4 id h n (ax a id h).1) t).2, ()) := h9
  rw [j1] at h8
  rw [ht] at h9
  have e2 : IntKind.wrap .i64 (t + n) = t + n := eK (by omega)
  rw [h7, h8, h9, na, nb, e2]
  show (bif bif bif bif bif bif bif bif true then decide ((0 : Int) = 0) else false then decide ((0 : Int) = 0) else false then decide ((0 : Int) = 0) else false then eqO (decide ((bif eqb Ty.str (ax a id h).1 (ax b id h).1 then (2 : Int) else 4) = 2)) (eqb Ty.str (ax a id h).1 (ax b id h).1) else false then decide ((0 : Int) = 0) else false then decide (t + n = t + n) else false then eqb tId id id else false then eqb al (2, zero tId, h, ()) (2, zero tId, h, ()) else false) = true
  rw [(gR (t := tId) rfl id id).2 rfl, (gR (t := al) rfl _ _).2 rfl, decide_eq_true (show t + n = t + n from rfl)]
  cases eqb Ty.str (ax a id h).1 (ax b id h).1 <;> rfl
end Go.Proofs.YtnakjijahkaoaaaDoor
