/- Part 9 of 10 of what this claim's proof stands on: a theory of programs on data, and the contracts of the functions that the law reaches. It holds no condition of its own. -/
import Derived.Test.YtnakjijahkaoaaaDoorCI8
namespace Go.Proofs.YtnakjijahkaoaaaDoor
open Go Go.RowKit
theorem GF (s : ByteArray) (n : Nat) : (a6 s 0 (bI (ax s) (n : Int))).size ≤ n := by
 unfold a6 bI ax
 rw [ByteArray.size_extract]
 split <;> omega
theorem Bz {secret : ByteArray} (hs : secret.size ≤ 64) (id : List Int) {host : Int} (hh : 0 ≤ host ∧ host < 16) : (bj secret id host).2 = 0 ∧ (bj secret id host).1.size = 16 := by
 unfold bj
 rw [if_neg (by omega), if_neg (by omega)]
 exact ⟨rfl, HL _ _ _⟩
def mq : Mg := (2, zero tId, (2, zero tId, 3, zero Ty.unit), zero (Ty.slc ag), 5, zero (Ty.pair Ty.str (Ty.pair Ty.str Ty.unit)))
theorem Kz : bG ⟨⟨[115]⟩⟩ mq = (1, Bg 3 (zero tId) (2, zero tId, 3, zero Ty.unit) 0 (bj ⟨⟨[115]⟩⟩ (zero tId) 3).1, 0) := by
 have e1 : bZ bB mq.1 = true := rfl
 have e2 : aL mq = true := by kernel_rfl
 obtain ⟨e3, _⟩ := Bz (secret := ⟨⟨[115]⟩⟩) (by decide) (zero tId) (host := 3) (by decide)
 have e4 : ∀ c, d4 mq c = 1 := fun _ => rfl
 have e5 : (bj ⟨⟨[115]⟩⟩ mq.2.1 (cH mq)).2 = 0 := e3
 unfold bG
 rw [e1, e2, e5, e4]
 rfl
theorem Eh : au prog gl kO kI :=
 bw (S := kI) (Ej rF) (fx := sM) CE (by kernel_rfl) (fun _ _ => trivial) (T := fun _ => u7) (fun _ => zF) fun O v0 x _ _ => by
  obtain ⟨_, e9⟩ := Bz (secret := ⟨⟨[115]⟩⟩) (by decide) (zero tId) (host := 3) (by decide)
  have key : ∀ q : Int × Mg × Int × Unit, q = ((bG ⟨⟨[115]⟩⟩ mq).1, (bG ⟨⟨[115]⟩⟩ mq).2.1, (bG ⟨⟨[115]⟩⟩ mq).2.2, ()) → q.1 = 1 ∧ q.2.2.1 = 0 ∧ q.2.1.1 = (3 : Int) ∧ ax q.2.1.2.2.2.2.2.1 = 16 := fun q hq => by
   rw [hq, Kz]
   refine ⟨rfl, rfl, rfl, ?_⟩
   show ((bj ⟨⟨[115]⟩⟩ (zero tId) 3).1.size : Int) = 16
   rw [e9]; rfl
  refine ⟨by decide, fun q hq => ?_⟩
  obtain ⟨k1, k2, k3, k4⟩ := key q hq
  refine ⟨_, rfl, Prod.ext ?_ rfl⟩
  show (bif bif bif decide (q.2.2.1 = 0) then decide (q.1 = 1) else false then decide (q.2.1.1 = (3 : Int)) else false then decide (ax q.2.1.2.2.2.2.2.1 = 16) else false) = true
  rw [k1, k2, k3, k4]
  rfl
end Go.Proofs.YtnakjijahkaoaaaDoor
namespace Go.Proofs.YtnakjijahkaoaaaDoor
open Go Go.RowKit
end Go.Proofs.YtnakjijahkaoaaaDoor
namespace Go.Proofs.YtnakjijahkaoaaaDoor
open Go Go.RowKit
noncomputable abbrev cD : Fx := { fn := cy, ann := { loops := [(3, { keep := [0, 3], own := [(3, (.int .u8))] }), (8, { keep := [3, 4, 5, 6], own := [(3, (.int .u8))] })] }, own := [8, 11, 18, 34] }
noncomputable abbrev fF : aZ := { D := { T := bc, F := [], R := [], ovl := [] }, inl := [] }
noncomputable abbrev mW : bm := .data iL
theorem gM : XOk prog fF := xok ((aO aT aE)) (by kernel_rfl) aG aQ aR
noncomputable def tO (s : den Ty.str) : ab := ab.req (ByteArray.size s ≤ cJ) (ab.req (List.length (aK s ++ List.set (List.replicate 1 (zero (Ty.int IntKind.u8))) 0 128) ≤ cJ) (ab.loop [] cD (lp cy 3) [(0, K.val Ty.str s), (3, K.sl 0 (Ty.int IntKind.u8))] [(0, Bx.row (Ty.int IntKind.u8) (aK s ++ List.set (List.replicate 1 (zero (Ty.int IntKind.u8))) 0 128))]))
theorem xG (s : den Ty.str) : al fF mW 5000 [] cD (aA cy) (Env.of (aN rT (s, ()) 0) []) = tO s := by kernel_rfl
noncomputable def pX (v0 : den Ty.str) (b0 : List (den (Ty.int IntKind.u8))) : Env := Env.of [(0, K.val Ty.str v0), (3, K.sl 0 (Ty.int IntKind.u8))] [(0, Bx.row (Ty.int IntKind.u8) b0)]
noncomputable def xn (v0 : den Ty.str) (b0 : List (den (Ty.int IntKind.u8))) : ab := ab.req (nz 64) (ab.ite (!decide (Int.tmod (lnx (Ty.int IntKind.u8) b0) 64 = 56)) (ab.req (List.length (b0 ++ List.set (List.replicate 1 (zero (Ty.int IntKind.u8))) 0 0) ≤ cJ) (ab.loop [] cD (lp cy 3) [(0, K.val Ty.str v0), (3, K.sl 0 (Ty.int IntKind.u8))] [(0, Bx.row (Ty.int IntKind.u8) (b0 ++ List.set (List.replicate 1 (zero (Ty.int IntKind.u8))) 0 0))])) (ab.loop [] cD (lp cy 8) [(3, K.sl 0 (Ty.int IntKind.u8)), (4, K.val (Ty.int IntKind.u64) (IntKind.wrap IntKind.u64 (IntKind.wrap IntKind.u64 (ax v0) * 8))), (5, K.val (Ty.int IntKind.u64) 72057594037927936), (6, K.val af 0)] [(0, Bx.row (Ty.int IntKind.u8) b0)]))
theorem ll (v0 : den Ty.str) (b0 : List (den (Ty.int IntKind.u8))) : al fF mW 5000 [] cD (lp cy 3) (pX v0 b0) = xn v0 b0 := by kernel_rfl
noncomputable def p9 (v4 : den (Ty.int IntKind.u64)) (v5 : den (Ty.int IntKind.u64)) (v6 : den af) (b0 : List (den (Ty.int IntKind.u8))) : Env := Env.of [(3, K.sl 0 (Ty.int IntKind.u8)), (4, K.val (Ty.int IntKind.u64) v4), (5, K.val (Ty.int IntKind.u64) v5), (6, K.val af v6)] [(0, Bx.row (Ty.int IntKind.u8) b0)]
noncomputable def yr (v4 : den (Ty.int IntKind.u64)) (v5 : den (Ty.int IntKind.u64)) (v6 : den af) (b0 : List (den (Ty.int IntKind.u8))) : ab := ab.ite (decide (v6 < 8)) (ab.req (nz v5) (ab.req (nz 256) (ab.req (List.length (b0 ++ List.set (List.replicate 1 (zero (Ty.int IntKind.u8))) 0 (IntKind.wrap IntKind.u8 (Int.tmod (IntKind.wrap IntKind.u64 (Int.tdiv v4 v5)) 256))) ≤ cJ) (ab.req (nz 256) (ab.loop [] cD (lp cy 8) [(3, K.sl 0 (Ty.int IntKind.u8)), (4, K.val (Ty.int IntKind.u64) v4), (5, K.val (Ty.int IntKind.u64) (IntKind.wrap IntKind.u64 (Int.tdiv v5 256))), (6, K.val af (IntKind.wrap IntKind.i64 (v6 + 1)))] [(0, Bx.row (Ty.int IntKind.u8) (b0 ++ List.set (List.replicate 1 (zero (Ty.int IntKind.u8))) 0 (IntKind.wrap IntKind.u8 (Int.tmod (IntKind.wrap IntKind.u64 (Int.tdiv v4 v5)) 256))))]))))) (ab.ret (K.val (Ty.pair Ty.str Ty.unit) (aj b0, PUnit.unit)))
theorem lx (v4 : den (Ty.int IntKind.u64)) (v5 : den (Ty.int IntKind.u64)) (v6 : den af) (b0 : List (den (Ty.int IntKind.u8))) : al fF mW 5000 [] cD (lp cy 8) (p9 v4 v5 v6 b0) = yr v4 v5 v6 b0 := by kernel_rfl
end Go.Proofs.YtnakjijahkaoaaaDoor
namespace Go.Proofs.YtnakjijahkaoaaaDoor
open Go Go.RowKit
theorem tV : ∀ (n : Nat) (l : List Int), (mw n l).length = l.length + n
 | 0, l => rfl
 | n + 1, l => by
  show (mw n (l ++ [0])).length = _
  rw [tV, List.length_append, List.length_singleton]
  omega
theorem nw (s : ByteArray) : ∀ (n : Nat) (l : List Int), (mb s n l).length = l.length + n
 | 0, l => rfl
 | n + 1, l => by
  show (mb s n l ++ [ut s n]).length = _
  rw [List.length_append, nw, List.length_singleton]
  omega
theorem A3 (s : ByteArray) : (jf s).length = 64 * g8 s := by
 unfold jf
 rw [nw, tV]
 unfold g6 g8
 rw [List.length_append, List.length_singleton, eM]
 omega
theorem uv {n : Nat} (h : n ≤ 2000) : n ≤ cJ := Nat.le_trans h (by decide)
theorem Ik : ∀ n : Nat, n < 8 → C9 n ≠ 0 := by decide
def yh (O : Nat → Prop) (w0 : World) (s : ByteArray) (l : List Int) (hl : l.length ≤ 1200) (out : ByteArray) (ho : out = aj (mb s 8 l)) :=
 PLift.up <| bP (σ := List Int) 8 (fun i b => b = mb s i l)
  (fun i b => bC prog fF (Cx.base O w0) (cN prog O w0 iL fun y => y = (out, ())) [] cD (lp cy 8) (p9 (IntKind.wrap IntKind.u64 (IntKind.wrap IntKind.u64 (ax s) * 8)) (C9 i) (i : Nat) b))
  (fun i b hi hb ih => aI gM (lx _ _ _ b) (by
   refine ⟨fun _ => ⟨Ik i hi, show (256 : Int) ≠ 0 by decide, ?_, show (256 : Int) ≠ 0 by decide, ?_⟩, fun h => ?_⟩
   ·rw [hb, List.length_append, nw]
    exact uv (show _ + 1 ≤ _ by omega)
   ·rw [da hi (by omega)]
    refine ih _ ?_
    rw [hb]
    rfl
   ·exact absurd (Int.ofNat_lt.2 hi) (of_decide_eq_false h)))
  (fun b hb => aI gM (lx _ _ _ b) (by
   refine ⟨fun h => ?_, fun _ => ⟨_, rfl, ?_⟩⟩
   ·exact absurd (of_decide_eq_true h) (by decide)
   ·show (aj b, ()) = (out, ())
    rw [hb, ho]))
theorem xi (O : Nat → Prop) (w0 : World) (s : ByteArray) (k : Nat) : ∀ (b : List Int) (out : ByteArray), g6 b = k → b.length + k ≤ 1200 → out = aj (mb s 8 (mw k b)) →
    bC prog fF (Cx.base O w0) (cN prog O w0 iL fun y => y = (out, ())) [] cD (lp cy 3) (pX s b) := by
  have key : ∀ b : List Int, (!decide (Int.tmod (lnx (.int .u8) b) 64 = 56)) = !decide (g6 b = 0) := fun b => by
    have h : Int.tmod (lnx (.int .u8) b) 64 = 56 ↔ g6 b = 0 := by
      have h1 : lnx (.int .u8) b = (b.length : Int) := rfl
      rw [h1, Int.tmod_eq_emod_of_nonneg (by omega)]
      unfold g6
      omega
    rw [decide_eq_decide.2 h]
  induction k with
  | zero =>
    intro b out hk hl ho
    refine aI gM (ll s b) ⟨show (64 : Int) ≠ 0 by decide, fun h => ?_, fun _ => ?_⟩
    · have h : (!decide (Int.tmod (lnx (.int .u8) b) 64 = 56)) = true := h
      rw [key b, hk] at h
      cases h
    · exact (yh O w0 s b hl out ho).down 0 _ (Nat.zero_le _) rfl
  | succ k ih =>
    intro b out hk hl ho
    have hk' : g6 (b ++ [0]) = k := by
      unfold g6 at hk ⊢
      rw [List.length_append, List.length_singleton]
      omega
    refine aI gM (ll s b) ⟨show (64 : Int) ≠ 0 by decide, fun _ => ⟨?_, ?_⟩, fun h => ?_⟩
    · rw [List.length_append]
      exact uv (show _ + 1 ≤ _ by omega)
    · exact ih (b ++ [0]) out hk' (by rw [List.length_append, List.length_singleton]; omega) ho
    · have h : (!decide (Int.tmod (lnx (.int .u8) b) 64 = 56)) = false := h
      rw [key b, hk] at h
      cases h
theorem Cq : au prog [] jB jE :=
 bw (S := jE) gM (fx := cD) AC (by kernel_rfl) (fun h => by cases h) (T := fun x => tO x.1) (fun x => xG x.1) fun O w0 x _ hp => by
  obtain ⟨s, ⟨⟩⟩ := x
  have hp : s.size ≤ 1000 := hp
  refine ⟨uv (by omega), ?_, ?_⟩
  ·rw [List.length_append, eM]
   exact uv (show _ + 1 ≤ _ by omega)
  ·refine xi O w0 s _ (aK s ++ [128]) _ rfl ?_ rfl
   rw [List.length_append, List.length_singleton, eM]
   unfold g6
   omega
end Go.Proofs.YtnakjijahkaoaaaDoor
namespace Go.Proofs.YtnakjijahkaoaaaDoor
open Go Go.RowKit
noncomputable abbrev gg : Fx := { fn := fK, ann := { loops := [(2, { keep := [0, 1, 5] })] } }
noncomputable abbrev mc : aZ := { D := { T := bc, F := [], R := [], ovl := [] }, inl := [] }
noncomputable abbrev xK : bm := .data o9
theorem qN : XOk prog mc := xok ((aO aT aE)) (by kernel_rfl) aG aQ aR
noncomputable def xW (x : den (Ty.int IntKind.u32)) (n : den af) : ab := ab.loop [] gg (lp fK 2) [(0, K.val (Ty.int IntKind.u32) x), (1, K.val af n), (5, K.val af 0)] []
theorem Az (x : den (Ty.int IntKind.u32)) (n : den af) : al mc xK 5000 [] gg (aA fK) (Env.of (aN va (x, n, ()) 0) []) = xW x n := by kernel_rfl
noncomputable def so (v0 : den (Ty.int IntKind.u32)) (v1 : den af) (v5 : den af) : Env := Env.of [(0, K.val (Ty.int IntKind.u32) v0), (1, K.val af v1), (5, K.val af v5)] []
noncomputable def Au (v0 : den (Ty.int IntKind.u32)) (v1 : den af) (v5 : den af) : ab := ab.ite (decide (v5 < v1)) (ab.req (nz 2) (ab.req (nz 2) (ab.loop [] gg (lp fK 2) [(0, K.val (Ty.int IntKind.u32) (IntKind.wrap IntKind.u32 (IntKind.wrap IntKind.u32 (Int.tdiv v0 2) + IntKind.wrap IntKind.u32 (Int.tmod v0 2 * 2147483648)))), (1, K.val af v1), (5, K.val af (IntKind.wrap IntKind.i64 (v5 + 1)))] []))) (ab.ret (K.val (Ty.pair (Ty.int IntKind.u32) Ty.unit) (v0, PUnit.unit)))
theorem nL (v0 : den (Ty.int IntKind.u32)) (v1 : den af) (v5 : den af) : al mc xK 5000 [] gg (lp fK 2) (so v0 v1 v5) = Au v0 v1 v5 := by kernel_rfl
noncomputable abbrev sN : Fx := { fn := po, ann := { } }
noncomputable abbrev vf : aZ := { D := { T := bc, F := [], R := [], ovl := [] }, inl := [] }
noncomputable abbrev DA : bm := .data sq
theorem DL : XOk prog vf := xok ((aO aT aE)) (by kernel_rfl) aG aQ aR
noncomputable def vd : ab := ab.ret (K.val (Ty.pair (Ty.slc (Ty.int IntKind.u32)) Ty.unit) (List.set (List.set (List.set (List.set (List.set (List.set (List.set (List.set (List.replicate 8 (zero (Ty.int IntKind.u32))) 0 1779033703) 1 3144134277) 2 1013904242) 3 2773480762) 4 1359893119) 5 2600822924) 6 528734635) 7 1541459225, PUnit.unit))
theorem zH : al vf DA 5000 [] sN (aA po) (Env.of (aN sb () 0) []) = vd := by kernel_rfl
noncomputable abbrev vJ : Fx := { fn := qM, ann := { } }
noncomputable abbrev xU : aZ := { D := { T := bc, F := [], R := [], ovl := [] }, inl := [] }
noncomputable abbrev F8 : bm := .data vE
theorem FH : XOk prog xU := xok ((aO aT aE)) (by kernel_rfl) aG aQ aR
noncomputable def yo : ab := ab.ret (K.val (Ty.pair (Ty.slc (Ty.int IntKind.u32)) Ty.unit) (List.set (List.set (List.set (List.set (List.set (List.set (List.set (List.set (List.set (List.set (List.set (List.set (List.set (List.set (List.set (List.set (List.set (List.set (List.set (List.set (List.set (List.set (List.set (List.set (List.set (List.set (List.set (List.set (List.set (List.set (List.set (List.set (List.set (List.set (List.set (List.set (List.set (List.set (List.set (List.set (List.set (List.set (List.set (List.set (List.set (List.set (List.set (List.set (List.set (List.set (List.set (List.set (List.set (List.set (List.set (List.set (List.set (List.set (List.set (List.set (List.set (List.set (List.set (List.set (List.replicate 64 (zero (Ty.int IntKind.u32))) 0 1116352408) 1 1899447441) 2 3049323471) 3 3921009573) 4 961987163) 5 1508970993) 6 2453635748) 7 2870763221) 8 3624381080) 9 310598401) 10 607225278) 11 1426881987) 12 1925078388) 13 2162078206) 14 2614888103) 15 3248222580) 16 3835390401) 17 4022224774) 18 264347078) 19 604807628) 20 770255983) 21 1249150122) 22 1555081692) 23 1996064986) 24 2554220882) 25 2821834349) 26 2952996808) 27 3210313671) 28 3336571891) 29 3584528711) 30 113926993) 31 338241895) 32 666307205) 33 773529912) 34 1294757372) 35 1396182291) 36 1695183700) 37 1986661051) 38 2177026350) 39 2456956037) 40 2730485921) 41 2820302411) 42 3259730800) 43 3345764771) 44 3516065817) 45 3600352804) 46 4094571909) 47 275423344) 48 430227734) 49 506948616) 50 659060556) 51 883997877) 52 958139571) 53 1322822218) 54 1537002063) 55 1747873779) 56 1955562222) 57 2024104815) 58 2227730452) 59 2361852424) 60 2428436474) 61 2756734187) 62 3204031479) 63 3329325298, PUnit.unit))
theorem AN : al xU F8 5000 [] vJ (aA qM) (Env.of (aN vc () 0) []) = yo := by kernel_rfl
end Go.Proofs.YtnakjijahkaoaaaDoor
namespace Go.Proofs.YtnakjijahkaoaaaDoor
open Go Go.RowKit
def tuI (x : Int) : Int := IntKind.wrap .u32 (IntKind.wrap .u32 (Int.tdiv x 2) + IntKind.wrap .u32 (Int.tmod x 2 * 2147483648))
def xS (x : Int) : Nat → Int
 | 0 => x
 | i + 1 => tuI (xS x i)
def leI (a b : Int) : Prop := a ≤ b
def bf (x n : Int) : Int := xS x n.toNat
noncomputable abbrev il : bh := ⟨va, o9, fun x => (bf x.1 x.2.1, ()), fun x => leI x.2.1 1000, false⟩
def D6 (O : Nat → Prop) (v0 : World) (x n : Int) (hn : n ≤ 1000) :=
 PLift.up <| bP (σ := Int) n.toNat (fun i s => s = xS x i)
  (fun i s => bC prog mc (Cx.base O v0) (cN prog O v0 o9 fun y => y = (bf x n, ())) [] gg (lp fK 2) (so s n (i : Nat)))
  (fun i s hi hs ih => aI qN (nL s n _) (by
   refine ⟨fun _ => ⟨show (2 : Int) ≠ 0 by decide, show (2 : Int) ≠ 0 by decide, ?_⟩, fun h => ?_⟩
   ·rw [da hi (by omega)]
    refine ih _ ?_
    rw [hs]
    rfl
   ·have h := of_decide_eq_false h
    exact absurd (show (i : Int) < n by omega) h))
  (fun s hs => aI qN (nL s n _) (by
   refine ⟨fun h => ?_, fun _ => ⟨_, rfl, ?_⟩⟩
   ·have h : ((n.toNat : Nat) : Int) < n := of_decide_eq_true h
    omega
   ·show (s, ()) = (bf x n, ())
    rw [hs]; rfl))
theorem xb : au prog [] im il :=
 bw (S := il) qN (fx := gg) D1 (by kernel_rfl) (fun h => by cases h) (T := fun x => xW x.1 x.2.1) (fun x => Az x.1 x.2.1) fun O v0 x _ hp =>
  (D6 O v0 x.1 x.2.1 hp).down 0 _ (Nat.zero_le _) rfl
noncomputable abbrev k8 : bh := ⟨sb, sq, fun _ => (dO, ()), fun _ => True, true⟩
theorem DP : au prog [] kX k8 :=
 bw (S := k8) DL (fx := sN) B3 (by kernel_rfl) (fun _ _ => trivial) (T := fun _ => vd) (fun _ => zH) fun O v0 x _ _ => ⟨_, rfl, by show _ = _; kernel_rfl⟩
def iq : List Int := ie
noncomputable abbrev mA : bh := ⟨vc, vE, fun _ => (iq, ()), fun _ => True, true⟩
theorem FW : au prog [] mr mA :=
 bw (S := mA) FH (fx := vJ) Di (by kernel_rfl) (fun _ _ => trivial) (T := fun _ => yo) (fun _ => AN) fun O v0 x _ _ => ⟨_, rfl, by show _ = _; kernel_rfl⟩
def t1I (v : List Int) (k w : Int) : Int :=
 cZ (cZ (cZ (cZ (ao v 7) (dW (dW (bf (ao v 4) 6) (bf (ao v 4) 11)) (bf (ao v 4) 25))) (dW (gp (ao v 4) (ao v 5)) (gp (IntKind.wrap .u32 (4294967295 - ao v 4)) (ao v 6)))) k) w
def t2I (v : List Int) : Int :=
 cZ (dW (dW (bf (ao v 0) 2) (bf (ao v 0) 13)) (bf (ao v 0) 22)) (dW (dW (gp (ao v 0) (ao v 1)) (gp (ao v 0) (ao v 2))) (gp (ao v 1) (ao v 2)))
def ig (v : List Int) (k w : Int) : List Int := [cZ (t1I v k w) (t2I v), ao v 0, ao v 1, ao v 2, cZ (ao v 3) (t1I v k w), ao v 4, ao v 5, ao v 6]
noncomputable abbrev kS : bh := ⟨sL, ti, fun x => (ig x.1 x.2.1 x.2.2.1, ()), fun x => x.1.length = 8, false⟩
end Go.Proofs.YtnakjijahkaoaaaDoor
namespace Go.Proofs.YtnakjijahkaoaaaDoor
open Go Go.RowKit
noncomputable abbrev tt : Fx := { fn := o4, ann := { }, share := true, shareD := true }
noncomputable abbrev uT : aZ := { D := { T := bc, F := [(im, il)], R := [], ovl := [] }, inl := [] }
noncomputable abbrev D9 : bm := .data ti
theorem Ec (h_r02_turn : au prog [] im il) : XOk prog uT := xok (aB (aO aT aE) h_r02_turn) (by kernel_rfl) aG aQ aR
noncomputable def u2 (v : den (Ty.slc (Ty.int IntKind.u32))) (k : den (Ty.int IntKind.u32)) (w : den (Ty.int IntKind.u32)) : ab := ab.req (inB 0 (lnx (Ty.int IntKind.u32) v)) (ab.req (inB 4 (lnx (Ty.int IntKind.u32) v)) (ab.req (inB 7 (lnx (Ty.int IntKind.u32) v)) (ab.req (leI 6 1000) (ab.req (leI 11 1000) (ab.req (leI 25 1000) (ab.req (inB 5 (lnx (Ty.int IntKind.u32) v)) (ab.req (inB 6 (lnx (Ty.int IntKind.u32) v)) (ab.all (den (Ty.int IntKind.u32)) (fun (q3 : den (Ty.int IntKind.u32)) ↦ q3 = bf (el (Ty.int IntKind.u32) v 4) 6) fun (q3 : den (Ty.int IntKind.u32)) ↦ ab.all (den (Ty.int IntKind.u32)) (fun (q4 : den (Ty.int IntKind.u32)) ↦ q4 = bf (el (Ty.int IntKind.u32) v 4) 11) fun (q4 : den (Ty.int IntKind.u32)) ↦ ab.all (den (Ty.int IntKind.u32)) (fun (q5 : den (Ty.int IntKind.u32)) ↦ q5 = bf (el (Ty.int IntKind.u32) v 4) 25) fun (q5 : den (Ty.int IntKind.u32)) ↦ ab.all (den (Ty.int IntKind.u32)) (fun (q6 : den (Ty.int IntKind.u32)) ↦ q6 = IntKind.wrap IntKind.u32 (IntKind.wrap IntKind.u32 (IntKind.wrap IntKind.u32 (IntKind.wrap IntKind.u32 (el (Ty.int IntKind.u32) v 7 + IntKind.wrap IntKind.u32 (↑(BitVec.toNat (BitVec.ofInt (IntKind.bits IntKind.u32) (IntKind.wrap IntKind.u32 (↑(BitVec.toNat (BitVec.ofInt (IntKind.bits IntKind.u32) (bf (el (Ty.int IntKind.u32) v 4) 6) ^^^ BitVec.ofInt (IntKind.bits IntKind.u32) (bf (el (Ty.int IntKind.u32) v 4) 11))) : Int)) ^^^ BitVec.ofInt (IntKind.bits IntKind.u32) (bf (el (Ty.int IntKind.u32) v 4) 25))) : Int)) + IntKind.wrap IntKind.u32 (↑(BitVec.toNat (BitVec.ofInt (IntKind.bits IntKind.u32) (IntKind.wrap IntKind.u32 (↑(BitVec.toNat (BitVec.ofInt (IntKind.bits IntKind.u32) (el (Ty.int IntKind.u32) v 4) &&& BitVec.ofInt (IntKind.bits IntKind.u32) (el (Ty.int IntKind.u32) v 5))) : Int)) ^^^ BitVec.ofInt (IntKind.bits IntKind.u32) (IntKind.wrap IntKind.u32 (↑(BitVec.toNat (BitVec.ofInt (IntKind.bits IntKind.u32) (IntKind.wrap IntKind.u32 (4294967295 - el (Ty.int IntKind.u32) v 4)) &&& BitVec.ofInt (IntKind.bits IntKind.u32) (el (Ty.int IntKind.u32) v 6))) : Int)))) : Int)) + k) + w)) fun (q6 : den (Ty.int IntKind.u32)) ↦ ab.req (leI 2 1000) (ab.req (leI 13 1000) (ab.req (leI 22 1000) (ab.req (inB 1 (lnx (Ty.int IntKind.u32) v)) (ab.req (inB 2 (lnx (Ty.int IntKind.u32) v)) (ab.req (inB 1 (lnx (Ty.int IntKind.u32) v)) (ab.req (inB 2 (lnx (Ty.int IntKind.u32) v)) (ab.all (den (Ty.int IntKind.u32)) (fun (q7 : den (Ty.int IntKind.u32)) ↦ q7 = bf (el (Ty.int IntKind.u32) v 0) 2) fun (q7 : den (Ty.int IntKind.u32)) ↦ ab.all (den (Ty.int IntKind.u32)) (fun (q8 : den (Ty.int IntKind.u32)) ↦ q8 = bf (el (Ty.int IntKind.u32) v 0) 13) fun (q8 : den (Ty.int IntKind.u32)) ↦ ab.all (den (Ty.int IntKind.u32)) (fun (q9 : den (Ty.int IntKind.u32)) ↦ q9 = bf (el (Ty.int IntKind.u32) v 0) 22) fun (q9 : den (Ty.int IntKind.u32)) ↦ ab.all (den (Ty.int IntKind.u32)) (fun (q10 : den (Ty.int IntKind.u32)) ↦ q10 = IntKind.wrap IntKind.u32 (IntKind.wrap IntKind.u32 (↑(BitVec.toNat (BitVec.ofInt (IntKind.bits IntKind.u32) (IntKind.wrap IntKind.u32 (↑(BitVec.toNat (BitVec.ofInt (IntKind.bits IntKind.u32) (bf (el (Ty.int IntKind.u32) v 0) 2) ^^^ BitVec.ofInt (IntKind.bits IntKind.u32) (bf (el (Ty.int IntKind.u32) v 0) 13))) : Int)) ^^^ BitVec.ofInt (IntKind.bits IntKind.u32) (bf (el (Ty.int IntKind.u32) v 0) 22))) : Int) + IntKind.wrap IntKind.u32 (↑(BitVec.toNat (BitVec.ofInt (IntKind.bits IntKind.u32) (IntKind.wrap IntKind.u32 (↑(BitVec.toNat (BitVec.ofInt (IntKind.bits IntKind.u32) (IntKind.wrap IntKind.u32 (↑(BitVec.toNat (BitVec.ofInt (IntKind.bits IntKind.u32) (el (Ty.int IntKind.u32) v 0) &&& BitVec.ofInt (IntKind.bits IntKind.u32) (el (Ty.int IntKind.u32) v 1))) : Int)) ^^^ BitVec.ofInt (IntKind.bits IntKind.u32) (IntKind.wrap IntKind.u32 (↑(BitVec.toNat (BitVec.ofInt (IntKind.bits IntKind.u32) (el (Ty.int IntKind.u32) v 0) &&& BitVec.ofInt (IntKind.bits IntKind.u32) (el (Ty.int IntKind.u32) v 2))) : Int)))) : Int)) ^^^ BitVec.ofInt (IntKind.bits IntKind.u32) (IntKind.wrap IntKind.u32 (↑(BitVec.toNat (BitVec.ofInt (IntKind.bits IntKind.u32) (el (Ty.int IntKind.u32) v 1) &&& BitVec.ofInt (IntKind.bits IntKind.u32) (el (Ty.int IntKind.u32) v 2))) : Int)))) : Int))) fun (q10 : den (Ty.int IntKind.u32)) ↦ ab.req (inB 1 (lnx (Ty.int IntKind.u32) v)) (ab.req (inB 2 (lnx (Ty.int IntKind.u32) v)) (ab.req (inB 3 (lnx (Ty.int IntKind.u32) v)) (ab.req (inB 5 (lnx (Ty.int IntKind.u32) v)) (ab.req (inB 6 (lnx (Ty.int IntKind.u32) v)) (ab.all (den (Ty.slc (Ty.int IntKind.u32))) (fun (q11 : den (Ty.slc (Ty.int IntKind.u32))) ↦ q11 = List.set (List.set (List.set (List.set (List.set (List.set (List.set (List.set (List.replicate 8 (zero (Ty.int IntKind.u32))) 0 (IntKind.wrap IntKind.u32 (q6 + q10))) 1 (el (Ty.int IntKind.u32) v 0)) 2 (el (Ty.int IntKind.u32) v 1)) 3 (el (Ty.int IntKind.u32) v 2)) 4 (IntKind.wrap IntKind.u32 (el (Ty.int IntKind.u32) v 3 + q6))) 5 (el (Ty.int IntKind.u32) v 4)) 6 (el (Ty.int IntKind.u32) v 5)) 7 (el (Ty.int IntKind.u32) v 6)) fun (q11 : den (Ty.slc (Ty.int IntKind.u32))) ↦ ab.ret (K.val (Ty.pair (Ty.slc (Ty.int IntKind.u32)) Ty.unit) (q11, PUnit.unit))))))))))))))))))))))
theorem zt (v : den (Ty.slc (Ty.int IntKind.u32))) (k : den (Ty.int IntKind.u32)) (w : den (Ty.int IntKind.u32)) : al uT D9 5000 [] tt (aA o4) (Env.of (aN sL (v, k, w, ()) 0) []) = u2 v k w := by kernel_rfl
end Go.Proofs.YtnakjijahkaoaaaDoor
namespace Go.Proofs.YtnakjijahkaoaaaDoor
open Go Go.RowKit
theorem D0 : au prog [] kL kS :=
 bw (S := kS) (Ec xb) (fx := tt) BZ (by kernel_rfl) (fun h => by cases h) (T := fun x => u2 x.1 x.2.1 x.2.2.1) (fun x => zt x.1 x.2.1 x.2.2.1) fun O v0 x _ hp => by
  obtain ⟨v, k, w, ⟨⟩⟩ := x
  have hp : v.length = 8 := hp
  have hl : lnx (.int .u32) v = ((8 : Nat) : Int) := by show ((v.length : Nat) : Int) = _; rw [hp]
  have hB : ∀ i : Nat, i < 8 → inB (i : Int) (lnx (.int .u32) v) := fun i hi => by rw [hl]; exact gH hi
  have hL : ∀ i : Int, i ≤ 1000 → leI i 1000 := fun i h => h
  exact ⟨hB 0 (by decide), hB 4 (by decide), hB 7 (by decide), hL _ (by decide), hL _ (by decide), hL _ (by decide), hB 5 (by decide), hB 6 (by decide), aM <| aM <| aM <| aM
   ⟨hL _ (by decide), hL _ (by decide), hL _ (by decide), hB 1 (by decide), hB 2 (by decide), hB 1 (by decide), hB 2 (by decide), aM <| aM <| aM <| aM
   ⟨hB 1 (by decide), hB 2 (by decide), hB 3 (by decide), hB 5 (by decide), hB 6 (by decide), aM ⟨_, rfl, rfl⟩⟩⟩⟩
def w16 (s : ByteArray) (t : Int) (x : Int) (i : Int) : Int := IntKind.wrap .u32 (IntKind.wrap .u32 (256 * x) + IntKind.wrap .u32 (sAt s (IntKind.wrap .i64 (IntKind.wrap .i64 (4 * t) + i))))
def yM (s : ByteArray) (t : Int) : Nat → Int
 | 0 => 0
 | i + 1 => w16 s t (yM s t i) (i : Nat)
def bw1 (s : ByteArray) : Nat → List Int
 | 0 => []
 | t + 1 => bw1 s t ++ [yM s (t : Nat) 4]
def nxI (b : List Int) (t : Int) : Int :=
 cZ (cZ (cZ (dW (dW (bf (ao b (IntKind.wrap .i64 (t - 2))) 17) (bf (ao b (IntKind.wrap .i64 (t - 2))) 19)) (IntKind.wrap .u32 (Int.tdiv (ao b (IntKind.wrap .i64 (t - 2))) 1024))) (ao b (IntKind.wrap .i64 (t - 7))))
  (dW (dW (bf (ao b (IntKind.wrap .i64 (t - 15))) 7) (bf (ao b (IntKind.wrap .i64 (t - 15))) 18)) (IntKind.wrap .u32 (Int.tdiv (ao b (IntKind.wrap .i64 (t - 15))) 8)))) (ao b (IntKind.wrap .i64 (t - 16)))
def bw2 (s : ByteArray) : Nat → List Int
 | 0 => bw1 s 16
 | j + 1 => bw2 s j ++ [nxI (bw2 s j) ((16 + j : Nat) : Int)]
def rv (h w : List Int) : Nat → List Int
 | 0 => h
 | t + 1 => ig (rv h w t) (ao iq (t : Nat)) (ao w (t : Nat))
def ob (h v : List Int) : Nat → List Int
 | 0 => []
 | i + 1 => ob h v i ++ [cZ (ao h (i : Nat)) (ao v (i : Nat))]
def gd (h : List Int) (s : ByteArray) : List Int := ob h (rv h (bw2 s 48) 64) 8
noncomputable abbrev kU : bh := ⟨r8, nq, fun x => (gd x.1 x.2.1, ()), fun x => x.1.length = 8 ∧ ByteArray.size x.2.1 = 64, false⟩
theorem pF (s : ByteArray) : ∀ t : Nat, (bw1 s t).length = t
 | 0 => rfl
 | t + 1 => by rw [bw1, List.length_append, pF s t]; rfl
theorem mG (s : ByteArray) : ∀ j : Nat, (bw2 s j).length = 16 + j
 | 0 => pF s 16
 | j + 1 => by rw [bw2, List.length_append, mG s j]; rfl
theorem yE {h : List Int} (hh : h.length = 8) (w : List Int) : ∀ t : Nat, (rv h w t).length = 8
 | 0 => hh
 | t + 1 => rfl
theorem CA (h v : List Int) : ∀ i : Nat, (ob h v i).length = i
 | 0 => rfl
 | i + 1 => by rw [ob, List.length_append, CA h v i]; rfl
theorem G7 : iq.length = 64 := by kernel_rfl
end Go.Proofs.YtnakjijahkaoaaaDoor
namespace Go.Proofs.YtnakjijahkaoaaaDoor
open Go Go.RowKit
noncomputable abbrev aS : Fx := { fn := aW, ann := { loops := [(3, { keep := [0, 1, 5, 6], own := [(5, (.int .u32))] }), (7, { keep := [0, 1, 5, 6, 7, 8], own := [(5, (.int .u32))] }), (12, { keep := [0, 5, 9], own := [(5, (.int .u32))] }), (20, { keep := [0, 5, 12, 13, 14] }), (25, { keep := [0, 12, 15, 104, 105], own := [(15, (.int .u32))] })], frz := [(18, [5])] }, own := [17, 102], share := true }
noncomputable abbrev dA : aZ := { D := { T := bc, F := [(im, il), (kL, kS), (mr, mA)], R := [], ovl := [] }, inl := [] }
noncomputable abbrev gf : bm := .data nq
theorem DF (h_r02_turn : au prog [] im il) (h_r02_round : au prog [] kL kS) (h_r02_Keys : au prog [] mr mA) : XOk prog dA := xok (aB (aB (aB (aO aT aE) h_r02_Keys) h_r02_round) h_r02_turn) (by kernel_rfl) aG aQ aR
noncomputable def u4 (h : den (Ty.slc (Ty.int IntKind.u32))) (s : den Ty.str) : ab := ab.loop [] aS (lp aW 3) [(0, K.val (Ty.slc (Ty.int IntKind.u32)) h), (1, K.val Ty.str s), (5, K.sl 0 (Ty.int IntKind.u32)), (6, K.val af 0)] [(0, Bx.row (Ty.int IntKind.u32) (List.replicate 0 (zero (Ty.int IntKind.u32))))]
theorem zg (h : den (Ty.slc (Ty.int IntKind.u32))) (s : den Ty.str) : al dA gf 5000 [] aS (aA aW) (Env.of (aN r8 (h, s, ()) 0) []) = u4 h s := by kernel_rfl
noncomputable def lD (v0 : den (Ty.slc (Ty.int IntKind.u32))) (v1 : den Ty.str) (v6 : den af) (b0 : List (den (Ty.int IntKind.u32))) : Env := Env.of [(0, K.val (Ty.slc (Ty.int IntKind.u32)) v0), (1, K.val Ty.str v1), (5, K.sl 0 (Ty.int IntKind.u32)), (6, K.val af v6)] [(0, Bx.row (Ty.int IntKind.u32) b0)]
noncomputable def zq (v0 : den (Ty.slc (Ty.int IntKind.u32))) (v1 : den Ty.str) (v6 : den af) (b0 : List (den (Ty.int IntKind.u32))) : ab := ab.ite (decide (v6 < 16)) (ab.loop [] aS (lp aW 7) [(0, K.val (Ty.slc (Ty.int IntKind.u32)) v0), (1, K.val Ty.str v1), (5, K.sl 0 (Ty.int IntKind.u32)), (6, K.val af v6), (7, K.val (Ty.int IntKind.u32) 0), (8, K.val af 0)] [(0, Bx.row (Ty.int IntKind.u32) b0)]) (ab.loop [] aS (lp aW 12) [(0, K.val (Ty.slc (Ty.int IntKind.u32)) v0), (5, K.sl 0 (Ty.int IntKind.u32)), (9, K.val af 16)] [(0, Bx.row (Ty.int IntKind.u32) b0)])
theorem lS (v0 : den (Ty.slc (Ty.int IntKind.u32))) (v1 : den Ty.str) (v6 : den af) (b0 : List (den (Ty.int IntKind.u32))) : al dA gf 5000 [] aS (lp aW 3) (lD v0 v1 v6 b0) = zq v0 v1 v6 b0 := by kernel_rfl
noncomputable def rK (v0 : den (Ty.slc (Ty.int IntKind.u32))) (v1 : den Ty.str) (v6 : den af) (v7 : den (Ty.int IntKind.u32)) (v8 : den af) (b0 : List (den (Ty.int IntKind.u32))) : Env := Env.of [(0, K.val (Ty.slc (Ty.int IntKind.u32)) v0), (1, K.val Ty.str v1), (5, K.sl 0 (Ty.int IntKind.u32)), (6, K.val af v6), (7, K.val (Ty.int IntKind.u32) v7), (8, K.val af v8)] [(0, Bx.row (Ty.int IntKind.u32) b0)]
noncomputable def zG (v0 : den (Ty.slc (Ty.int IntKind.u32))) (v1 : den Ty.str) (v6 : den af) (v7 : den (Ty.int IntKind.u32)) (v8 : den af) (b0 : List (den (Ty.int IntKind.u32))) : ab := ab.ite (decide (v8 < 4)) (ab.req (inB (IntKind.wrap IntKind.i64 (IntKind.wrap IntKind.i64 (4 * v6) + v8)) (ax v1)) (ab.loop [] aS (lp aW 7) [(0, K.val (Ty.slc (Ty.int IntKind.u32)) v0), (1, K.val Ty.str v1), (5, K.sl 0 (Ty.int IntKind.u32)), (6, K.val af v6), (7, K.val (Ty.int IntKind.u32) (IntKind.wrap IntKind.u32 (IntKind.wrap IntKind.u32 (256 * v7) + IntKind.wrap IntKind.u32 (sAt v1 (IntKind.wrap IntKind.i64 (IntKind.wrap IntKind.i64 (4 * v6) + v8)))))), (8, K.val af (IntKind.wrap IntKind.i64 (v8 + 1)))] [(0, Bx.row (Ty.int IntKind.u32) b0)])) (ab.req (List.length (b0 ++ List.set (List.replicate 1 (zero (Ty.int IntKind.u32))) 0 v7) ≤ cJ) (ab.loop [] aS (lp aW 3) [(0, K.val (Ty.slc (Ty.int IntKind.u32)) v0), (1, K.val Ty.str v1), (5, K.sl 0 (Ty.int IntKind.u32)), (6, K.val af (IntKind.wrap IntKind.i64 (v6 + 1)))] [(0, Bx.row (Ty.int IntKind.u32) (b0 ++ List.set (List.replicate 1 (zero (Ty.int IntKind.u32))) 0 v7))]))
theorem lT (v0 : den (Ty.slc (Ty.int IntKind.u32))) (v1 : den Ty.str) (v6 : den af) (v7 : den (Ty.int IntKind.u32)) (v8 : den af) (b0 : List (den (Ty.int IntKind.u32))) : al dA gf 5000 [] aS (lp aW 7) (rK v0 v1 v6 v7 v8 b0) = zG v0 v1 v6 v7 v8 b0 := by kernel_rfl
noncomputable def p8 (v0 : den (Ty.slc (Ty.int IntKind.u32))) (v9 : den af) (b0 : List (den (Ty.int IntKind.u32))) : Env := Env.of [(0, K.val (Ty.slc (Ty.int IntKind.u32)) v0), (5, K.sl 0 (Ty.int IntKind.u32)), (9, K.val af v9)] [(0, Bx.row (Ty.int IntKind.u32) b0)]
noncomputable def xp (v0 : den (Ty.slc (Ty.int IntKind.u32))) (v9 : den af) (b0 : List (den (Ty.int IntKind.u32))) : ab := ab.ite (decide (v9 < 64)) (ab.req (inB (IntKind.wrap IntKind.i64 (v9 - 15)) (lnx (Ty.int IntKind.u32) b0)) (ab.req (inB (IntKind.wrap IntKind.i64 (v9 - 15)) (lnx (Ty.int IntKind.u32) b0)) (ab.req (inB (IntKind.wrap IntKind.i64 (v9 - 2)) (lnx (Ty.int IntKind.u32) b0)) (ab.req (inB (IntKind.wrap IntKind.i64 (v9 - 2)) (lnx (Ty.int IntKind.u32) b0)) (ab.req (leI 17 1000) (ab.req (leI 19 1000) (ab.req (nz 1024) (ab.req (inB (IntKind.wrap IntKind.i64 (v9 - 7)) (lnx (Ty.int IntKind.u32) b0)) (ab.req (inB (IntKind.wrap IntKind.i64 (v9 - 7)) (lnx (Ty.int IntKind.u32) b0)) (ab.req (leI 7 1000) (ab.req (leI 18 1000) (ab.req (nz 8) (ab.req (inB (IntKind.wrap IntKind.i64 (v9 - 16)) (lnx (Ty.int IntKind.u32) b0)) (ab.req (inB (IntKind.wrap IntKind.i64 (v9 - 16)) (lnx (Ty.int IntKind.u32) b0)) (ab.req (List.length (b0 ++ List.set (List.replicate 1 (zero (Ty.int IntKind.u32))) 0 (IntKind.wrap IntKind.u32 (IntKind.wrap IntKind.u32 (IntKind.wrap IntKind.u32 (IntKind.wrap IntKind.u32 (↑(BitVec.toNat (BitVec.ofInt (IntKind.bits IntKind.u32) (IntKind.wrap IntKind.u32 (↑(BitVec.toNat (BitVec.ofInt (IntKind.bits IntKind.u32) (bf (el (Ty.int IntKind.u32) b0 (IntKind.wrap IntKind.i64 (v9 - 2))) 17) ^^^ BitVec.ofInt (IntKind.bits IntKind.u32) (bf (el (Ty.int IntKind.u32) b0 (IntKind.wrap IntKind.i64 (v9 - 2))) 19))) : Int)) ^^^ BitVec.ofInt (IntKind.bits IntKind.u32) (IntKind.wrap IntKind.u32 (Int.tdiv (el (Ty.int IntKind.u32) b0 (IntKind.wrap IntKind.i64 (v9 - 2))) 1024)))) : Int) + el (Ty.int IntKind.u32) b0 (IntKind.wrap IntKind.i64 (v9 - 7))) + IntKind.wrap IntKind.u32 (↑(BitVec.toNat (BitVec.ofInt (IntKind.bits IntKind.u32) (IntKind.wrap IntKind.u32 (↑(BitVec.toNat (BitVec.ofInt (IntKind.bits IntKind.u32) (bf (el (Ty.int IntKind.u32) b0 (IntKind.wrap IntKind.i64 (v9 - 15))) 7) ^^^ BitVec.ofInt (IntKind.bits IntKind.u32) (bf (el (Ty.int IntKind.u32) b0 (IntKind.wrap IntKind.i64 (v9 - 15))) 18))) : Int)) ^^^ BitVec.ofInt (IntKind.bits IntKind.u32) (IntKind.wrap IntKind.u32 (Int.tdiv (el (Ty.int IntKind.u32) b0 (IntKind.wrap IntKind.i64 (v9 - 15))) 8)))) : Int)) + el (Ty.int IntKind.u32) b0 (IntKind.wrap IntKind.i64 (v9 - 16))))) ≤ cJ) (ab.all (den (Ty.int IntKind.u32)) (fun (q3 : den (Ty.int IntKind.u32)) ↦ q3 = bf (el (Ty.int IntKind.u32) b0 (IntKind.wrap IntKind.i64 (v9 - 2))) 17) fun (q3 : den (Ty.int IntKind.u32)) ↦ ab.all (den (Ty.int IntKind.u32)) (fun (q4 : den (Ty.int IntKind.u32)) ↦ q4 = bf (el (Ty.int IntKind.u32) b0 (IntKind.wrap IntKind.i64 (v9 - 2))) 19) fun (q4 : den (Ty.int IntKind.u32)) ↦ ab.all (den (Ty.int IntKind.u32)) (fun (q5 : den (Ty.int IntKind.u32)) ↦ q5 = bf (el (Ty.int IntKind.u32) b0 (IntKind.wrap IntKind.i64 (v9 - 15))) 7) fun (q5 : den (Ty.int IntKind.u32)) ↦ ab.all (den (Ty.int IntKind.u32)) (fun (q6 : den (Ty.int IntKind.u32)) ↦ q6 = bf (el (Ty.int IntKind.u32) b0 (IntKind.wrap IntKind.i64 (v9 - 15))) 18) fun (q6 : den (Ty.int IntKind.u32)) ↦ ab.loop [] aS (lp aW 12) [(0, K.val (Ty.slc (Ty.int IntKind.u32)) v0), (5, K.sl 0 (Ty.int IntKind.u32)), (9, K.val af (IntKind.wrap IntKind.i64 (v9 + 1)))] [(0, Bx.row (Ty.int IntKind.u32) (b0 ++ List.set (List.replicate 1 (zero (Ty.int IntKind.u32))) 0 (IntKind.wrap IntKind.u32 (IntKind.wrap IntKind.u32 (IntKind.wrap IntKind.u32 (IntKind.wrap IntKind.u32 (↑(BitVec.toNat (BitVec.ofInt (IntKind.bits IntKind.u32) (IntKind.wrap IntKind.u32 (↑(BitVec.toNat (BitVec.ofInt (IntKind.bits IntKind.u32) (bf (el (Ty.int IntKind.u32) b0 (IntKind.wrap IntKind.i64 (v9 - 2))) 17) ^^^ BitVec.ofInt (IntKind.bits IntKind.u32) (bf (el (Ty.int IntKind.u32) b0 (IntKind.wrap IntKind.i64 (v9 - 2))) 19))) : Int)) ^^^ BitVec.ofInt (IntKind.bits IntKind.u32) (IntKind.wrap IntKind.u32 (Int.tdiv (el (Ty.int IntKind.u32) b0 (IntKind.wrap IntKind.i64 (v9 - 2))) 1024)))) : Int) + el (Ty.int IntKind.u32) b0 (IntKind.wrap IntKind.i64 (v9 - 7))) + IntKind.wrap IntKind.u32 (↑(BitVec.toNat (BitVec.ofInt (IntKind.bits IntKind.u32) (IntKind.wrap IntKind.u32 (↑(BitVec.toNat (BitVec.ofInt (IntKind.bits IntKind.u32) (bf (el (Ty.int IntKind.u32) b0 (IntKind.wrap IntKind.i64 (v9 - 15))) 7) ^^^ BitVec.ofInt (IntKind.bits IntKind.u32) (bf (el (Ty.int IntKind.u32) b0 (IntKind.wrap IntKind.i64 (v9 - 15))) 18))) : Int)) ^^^ BitVec.ofInt (IntKind.bits IntKind.u32) (IntKind.wrap IntKind.u32 (Int.tdiv (el (Ty.int IntKind.u32) b0 (IntKind.wrap IntKind.i64 (v9 - 15))) 8)))) : Int)) + el (Ty.int IntKind.u32) b0 (IntKind.wrap IntKind.i64 (v9 - 16))))))])))))))))))))))) (ab.req True (ab.all (den (Ty.slc (Ty.int IntKind.u32))) (fun (q3 : den (Ty.slc (Ty.int IntKind.u32))) ↦ q3 = iq) fun (q3 : den (Ty.slc (Ty.int IntKind.u32))) ↦ ab.loop [] aS (lp aW 20) [(0, K.val (Ty.slc (Ty.int IntKind.u32)) v0), (5, K.val (Ty.slc (Ty.int IntKind.u32)) b0), (12, K.val (Ty.slc (Ty.int IntKind.u32)) v0), (13, K.val (Ty.slc (Ty.int IntKind.u32)) q3), (14, K.val af 0)] []))
theorem le (v0 : den (Ty.slc (Ty.int IntKind.u32))) (v9 : den af) (b0 : List (den (Ty.int IntKind.u32))) : al dA gf 5000 [] aS (lp aW 12) (p8 v0 v9 b0) = xp v0 v9 b0 := by kernel_rfl
noncomputable def pW (v0 : den (Ty.slc (Ty.int IntKind.u32))) (v5 : den (Ty.slc (Ty.int IntKind.u32))) (v12 : den (Ty.slc (Ty.int IntKind.u32))) (v13 : den (Ty.slc (Ty.int IntKind.u32))) (v14 : den af) : Env := Env.of [(0, K.val (Ty.slc (Ty.int IntKind.u32)) v0), (5, K.val (Ty.slc (Ty.int IntKind.u32)) v5), (12, K.val (Ty.slc (Ty.int IntKind.u32)) v12), (13, K.val (Ty.slc (Ty.int IntKind.u32)) v13), (14, K.val af v14)] []
noncomputable def yu (v0 : den (Ty.slc (Ty.int IntKind.u32))) (v5 : den (Ty.slc (Ty.int IntKind.u32))) (v12 : den (Ty.slc (Ty.int IntKind.u32))) (v13 : den (Ty.slc (Ty.int IntKind.u32))) (v14 : den af) : ab := ab.ite (decide (v14 < 64)) (ab.req (inB v14 (lnx (Ty.int IntKind.u32) v13)) (ab.req (inB v14 (lnx (Ty.int IntKind.u32) v5)) (ab.req (List.length v12 = 8) (ab.all (den (Ty.slc (Ty.int IntKind.u32))) (fun (q5 : den (Ty.slc (Ty.int IntKind.u32))) ↦ q5 = ig v12 (el (Ty.int IntKind.u32) v13 v14) (el (Ty.int IntKind.u32) v5 v14)) fun (q5 : den (Ty.slc (Ty.int IntKind.u32))) ↦ ab.loop [] aS (lp aW 20) [(0, K.val (Ty.slc (Ty.int IntKind.u32)) v0), (5, K.val (Ty.slc (Ty.int IntKind.u32)) v5), (12, K.val (Ty.slc (Ty.int IntKind.u32)) (ig v12 (el (Ty.int IntKind.u32) v13 v14) (el (Ty.int IntKind.u32) v5 v14))), (13, K.val (Ty.slc (Ty.int IntKind.u32)) v13), (14, K.val af (IntKind.wrap IntKind.i64 (v14 + 1)))] [])))) (ab.loop [] aS (lp aW 25) [(0, K.val (Ty.slc (Ty.int IntKind.u32)) v0), (12, K.val (Ty.slc (Ty.int IntKind.u32)) v12), (15, K.sl 0 (Ty.int IntKind.u32)), (104, K.val af (lnx (Ty.int IntKind.u32) v0)), (105, K.val af 0)] [(0, Bx.row (Ty.int IntKind.u32) (List.replicate 0 (zero (Ty.int IntKind.u32))))])
theorem lz (v0 : den (Ty.slc (Ty.int IntKind.u32))) (v5 : den (Ty.slc (Ty.int IntKind.u32))) (v12 : den (Ty.slc (Ty.int IntKind.u32))) (v13 : den (Ty.slc (Ty.int IntKind.u32))) (v14 : den af) : al dA gf 5000 [] aS (lp aW 20) (pW v0 v5 v12 v13 v14) = yu v0 v5 v12 v13 v14 := by kernel_rfl
noncomputable def kr (v0 : den (Ty.slc (Ty.int IntKind.u32))) (v12 : den (Ty.slc (Ty.int IntKind.u32))) (v104 : den af) (v105 : den af) (b0 : List (den (Ty.int IntKind.u32))) : Env := Env.of [(0, K.val (Ty.slc (Ty.int IntKind.u32)) v0), (12, K.val (Ty.slc (Ty.int IntKind.u32)) v12), (15, K.sl 0 (Ty.int IntKind.u32)), (104, K.val af v104), (105, K.val af v105)] [(0, Bx.row (Ty.int IntKind.u32) b0)]
noncomputable def yv (v0 : den (Ty.slc (Ty.int IntKind.u32))) (v12 : den (Ty.slc (Ty.int IntKind.u32))) (v104 : den af) (v105 : den af) (b0 : List (den (Ty.int IntKind.u32))) : ab := ab.ite (decide (v105 < v104)) (ab.req (inB v105 (lnx (Ty.int IntKind.u32) v0)) (ab.req (inB v105 (lnx (Ty.int IntKind.u32) v12)) (ab.req (List.length (b0 ++ List.set (List.replicate 1 (zero (Ty.int IntKind.u32))) 0 (IntKind.wrap IntKind.u32 (el (Ty.int IntKind.u32) v0 v105 + el (Ty.int IntKind.u32) v12 v105))) ≤ cJ) (ab.loop [] aS (lp aW 25) [(0, K.val (Ty.slc (Ty.int IntKind.u32)) v0), (12, K.val (Ty.slc (Ty.int IntKind.u32)) v12), (15, K.sl 0 (Ty.int IntKind.u32)), (104, K.val af v104), (105, K.val af (IntKind.wrap IntKind.i64 (v105 + 1)))] [(0, Bx.row (Ty.int IntKind.u32) (b0 ++ List.set (List.replicate 1 (zero (Ty.int IntKind.u32))) 0 (IntKind.wrap IntKind.u32 (el (Ty.int IntKind.u32) v0 v105 + el (Ty.int IntKind.u32) v12 v105))))])))) (ab.ret (K.val (Ty.pair (Ty.slc (Ty.int IntKind.u32)) Ty.unit) (b0, PUnit.unit)))
theorem lv (v0 : den (Ty.slc (Ty.int IntKind.u32))) (v12 : den (Ty.slc (Ty.int IntKind.u32))) (v104 : den af) (v105 : den af) (b0 : List (den (Ty.int IntKind.u32))) : al dA gf 5000 [] aS (lp aW 25) (kr v0 v12 v104 v105 b0) = yv v0 v12 v104 v105 b0 := by kernel_rfl
end Go.Proofs.YtnakjijahkaoaaaDoor
namespace Go.Proofs.YtnakjijahkaoaaaDoor
open Go Go.RowKit
theorem ep : XOk prog dA := DF xb D0 FW
abbrev GBl (O : Nat → Prop) (v0 : World) (y : List Int) := bC prog dA (Cx.base O v0) (cN prog O v0 nq fun z => z = (y, ()))
theorem oM {l : List Int} {n : Nat} (h : l.length = n) : lnx (.int .u32) l = ((n : Nat) : Int) := by show ((l.length : Nat) : Int) = _; rw [h]
theorem zr {n : Nat} (h : n ≤ 200) : n ≤ cJ := Nat.le_trans h (by decide)
def JP (O : Nat → Prop) (v0 : World) (h v : List Int) (hh : h.length = 8) (hv : v.length = 8) :=
 PLift.up <| bP (σ := List Int) 8 (fun i b => b = ob h v i)
  (fun i b => GBl O v0 (ob h v 8) [] aS (lp aW 25) (kr h v ((8 : Nat) : Int) (i : Nat) b))
  (fun i b hi hb ih => aI ep (lv h v _ _ b) (by
   refine ⟨fun _ => ⟨by rw [oM hh]; exact gH hi, by rw [oM hv]; exact gH hi, ?_, ?_⟩, fun hc => absurd (Int.ofNat_lt.2 hi) (of_decide_eq_false hc)⟩
   ·rw [List.length_append, hb, CA]
    exact zr (show i + 1 ≤ 200 by omega)
   ·rw [da hi (by decide)]
    refine ih _ ?_
    rw [hb]
    rfl))
  (fun b hb => aI ep (lv h v _ _ b) (by
   refine ⟨fun hc => absurd (of_decide_eq_true hc) (by decide), fun _ => ⟨_, rfl, ?_⟩⟩
   show (b, ()) = (ob h v 8, ())
   rw [hb]))
def I8 (O : Nat → Prop) (v0 : World) (h w : List Int) (hh : h.length = 8) (hw : w.length = 64) :=
 PLift.up <| bP (σ := List Int) 64 (fun i v => v = rv h w i)
  (fun i v => GBl O v0 (ob h (rv h w 64) 8) [] aS (lp aW 20) (pW h w v iq (i : Nat)))
  (fun i v hi hv ih => aI ep (lz h w v iq _) (by
   refine ⟨fun _ => ⟨by rw [oM G7]; exact gH hi, by rw [oM hw]; exact gH hi, by rw [hv]; exact yE hh w i, aM ?_⟩, fun hc => absurd (Int.ofNat_lt.2 hi) (of_decide_eq_false hc)⟩
   rw [da hi (by decide)]
   refine ih _ ?_
   rw [hv]
   rfl))
  (fun v hv => aI ep (lz h w v iq _) (by
   refine ⟨fun hc => absurd (of_decide_eq_true hc) (by decide), fun _ => ?_⟩
   show GBl O v0 _ [] aS (lp aW 25) (kr h v (lnx (.int .u32) h) 0 [])
   rw [oM hh, hv]
   exact (JP O v0 h _ hh (yE hh w 64)).down 0 _ (Nat.zero_le _) rfl))
def JH (O : Nat → Prop) (v0 : World) (h : List Int) (s : ByteArray) (hh : h.length = 8) :=
 PLift.up <| bP (σ := List Int) 64 (fun i b => 16 ≤ i ∧ b = bw2 s (i - 16))
  (fun i b => GBl O v0 (gd h s) [] aS (lp aW 12) (p8 h (i : Nat) b))
  (fun i b hi hb ih => aI ep (le h _ b) (by
   obtain ⟨h16, hb⟩ := hb
   have hlen : b.length = i := by rw [hb, mG]; omega
   have hin : ∀ k : Int, 0 < k → k ≤ 16 → inB (IntKind.wrap .i64 ((i : Int) - k)) (lnx (.int .u32) b) := fun k h1 h2 => by
    rw [oM hlen, bp (by omega)]
    exact ⟨by omega, by omega⟩
   have hL : ∀ i : Int, i ≤ 1000 → leI i 1000 := fun i h => h
   have i15 := hin 15 (by decide) (by decide)
   have i2 := hin 2 (by decide) (by decide)
   have i7 := hin 7 (by decide) (by decide)
   have i16 := hin 16 (by decide) (by decide)
   refine ⟨fun _ => ⟨i15, i15, i2, i2, hL _ (by decide), hL _ (by decide), show (1024 : Int) ≠ 0 by decide, i7, i7, hL _ (by decide), hL _ (by decide), show (8 : Int) ≠ 0 by decide, i16, i16, ?_, aM <| aM <| aM <| aM ?_⟩, fun hc => absurd (Int.ofNat_lt.2 hi) (of_decide_eq_false hc)⟩
   ·rw [List.length_append, hlen]
    exact zr (show i + 1 ≤ 200 by omega)
   ·rw [da hi (by decide)]
    refine ih (b ++ [nxI b (i : Nat)]) ⟨by omega, ?_⟩
    have e : i + 1 - 16 = (i - 16) + 1 := by omega
    have e2 : 16 + (i - 16) = i := by omega
    rw [e, bw2, ← hb, e2]))
  (fun b hb => aI ep (le h _ b) (by
   obtain ⟨_, hb⟩ := hb
   refine ⟨fun hc => absurd (of_decide_eq_true hc) (by decide), fun _ => ⟨trivial, aM ?_⟩⟩
   have hb : b = bw2 s 48 := hb
   rw [hb]
   exact (I8 O v0 h _ hh (mG s 48)).down 0 _ (Nat.zero_le _) rfl))
def JT (O : Nat → Prop) (v0 : World) (h b : List Int) (s : ByteArray) (hs : s.size = 64) (t : Nat) (ht : t < 16) (hb : b.length = t) (hnext : GBl O v0 (gd h s) [] aS (lp aW 3) (lD h s ((t + 1 : Nat) : Int) (b ++ [yM s (t : Nat) 4]))) :=
 PLift.up <| bP (σ := Int) 4 (fun i x => x = yM s (t : Nat) i)
  (fun i x => GBl O v0 (gd h s) [] aS (lp aW 7) (rK h s (t : Nat) x (i : Nat) b))
  (fun i x hi hx ih => aI ep (lT h s _ x _ b) (by
   refine ⟨fun _ => ⟨?_, ?_⟩, fun hc => absurd (Int.ofNat_lt.2 hi) (of_decide_eq_false hc)⟩
   ·rw [bp (n := 4 * (t : Int)) (by omega), bp (by omega)]
    refine ⟨by omega, ?_⟩
    show _ < ((s.size : Nat) : Int)
    rw [hs]; omega
   ·rw [da hi (by decide)]
    refine ih _ ?_
    rw [hx]
    rfl))
  (fun x hx => aI ep (lT h s _ x _ b) (by
   refine ⟨fun hc => absurd (of_decide_eq_true hc) (by decide), fun _ => ⟨?_, ?_⟩⟩
   ·rw [List.length_append, hb]
    exact zr (show t + 1 ≤ 200 by omega)
   ·rw [da ht (by decide), hx]
    exact hnext))
def JS (O : Nat → Prop) (v0 : World) (h : List Int) (s : ByteArray) (hh : h.length = 8) (hs : s.size = 64) :=
 PLift.up <| bP (σ := List Int) 16 (fun t b => b = bw1 s t)
  (fun t b => GBl O v0 (gd h s) [] aS (lp aW 3) (lD h s (t : Nat) b))
  (fun t b ht hb ih => aI ep (lS h s _ b) (by
   refine ⟨fun _ => ?_, fun hc => absurd (Int.ofNat_lt.2 ht) (of_decide_eq_false hc)⟩
   exact (JT O v0 h b s hs t ht (by rw [hb, pF]) (ih _ (by rw [hb]; rfl))).down 0 _ (Nat.zero_le _) rfl))
  (fun b hb => aI ep (lS h s _ b) (by
   refine ⟨fun hc => absurd (of_decide_eq_true hc) (by decide), fun _ => ?_⟩
   exact (JH O v0 h s hh).down 16 b (by decide) ⟨Nat.le_refl _, hb⟩))
theorem DY : au prog [] kN kU :=
 bw (S := kU) ep (fx := aS) CT (by kernel_rfl) (fun h => by cases h) (T := fun x => u4 x.1 x.2.1) (fun x => zg x.1 x.2.1) fun O v0 x _ hp =>
  (JS O v0 x.1 x.2.1 hp.1 hp.2).down 0 _ (Nat.zero_le _) rfl
end Go.Proofs.YtnakjijahkaoaaaDoor
namespace Go.Proofs.YtnakjijahkaoaaaDoor
open Go Go.RowKit
noncomputable abbrev dl : Fx := { fn := dr, ann := { loops := [(4, { keep := [2, 3, 4, 5] }), (9, { keep := [2, 6, 26, 27, 28] })] } }
noncomputable abbrev jq : aZ := { D := { T := bc, F := [(kX, k8), (jB, jE), (kN, kU)], R := [], ovl := [] }, inl := [] }
noncomputable abbrev tk : bm := .data qO
theorem HI (h_r02_First : au prog [] kX k8) (h_r02_Filled : au prog [] jB jE) (h_r02_block : au prog [] kN kU) : XOk prog jq := xok (aB (aB (aB (aO aT aE) h_r02_block) h_r02_Filled) h_r02_First) (by kernel_rfl) aG aQ aR
noncomputable def Ao (s : den Ty.str) : ab := ab.req True (ab.req (ByteArray.size s ≤ 1000) (ab.loop [] dl (lp dr 4) [(2, K.ptr 0 tId []), (3, K.val (Ty.slc (Ty.int IntKind.u32)) dO), (4, K.val Ty.str (aj (jf s))), (5, K.val af 0)] [(0, Bx.cell tId (zero tId))]))
theorem Df (s : den Ty.str) : al jq tk 5000 [] dl (aA dr) (Env.of (aN xe (s, ()) 0) []) = Ao s := by kernel_rfl
noncomputable def vv (v3 : den (Ty.slc (Ty.int IntKind.u32))) (v4 : den Ty.str) (v5 : den af) (b0 : den tId) : Env := Env.of [(2, K.ptr 0 tId []), (3, K.val (Ty.slc (Ty.int IntKind.u32)) v3), (4, K.val Ty.str v4), (5, K.val af v5)] [(0, Bx.cell tId b0)]
noncomputable def tW (v3 : den (Ty.slc (Ty.int IntKind.u32))) (v4 : den Ty.str) (v5 : den af) (b0 : den tId) : ab := ab.ite (decide (v5 < ax v4)) (ab.req (bv v5 (IntKind.wrap IntKind.i64 (v5 + 64)) (ax v4)) (ab.req (List.length v3 = 8 ∧ ByteArray.size (a6 v4 v5 (IntKind.wrap IntKind.i64 (v5 + 64))) = 64) (ab.loop [] dl (lp dr 4) [(2, K.ptr 0 tId []), (3, K.val (Ty.slc (Ty.int IntKind.u32)) (gd v3 (a6 v4 v5 (IntKind.wrap IntKind.i64 (v5 + 64))))), (4, K.val Ty.str v4), (5, K.val af (IntKind.wrap IntKind.i64 (v5 + 64)))] [(0, Bx.cell tId b0)]))) (ab.loop [] dl (lp dr 9) [(2, K.ptr 0 tId []), (6, K.ptr (0 + 1) tId []), (26, K.val (Ty.slc (Ty.int IntKind.u32)) v3), (27, K.val af (lnx (Ty.int IntKind.u32) v3)), (28, K.val af 0)] [(0, Bx.cell tId b0), (0 + 1, Bx.cell tId (List.replicate 32 (zero (Ty.int IntKind.u8))))])
theorem oy (v3 : den (Ty.slc (Ty.int IntKind.u32))) (v4 : den Ty.str) (v5 : den af) (b0 : den tId) : al jq tk 5000 [] dl (lp dr 4) (vv v3 v4 v5 b0) = tW v3 v4 v5 b0 := by kernel_rfl
noncomputable def pf (v26 : den (Ty.slc (Ty.int IntKind.u32))) (v27 : den af) (v28 : den af) (b0 : den tId) (b1 : den tId) : Env := Env.of [(2, K.ptr 0 tId []), (6, K.ptr (0 + 1) tId []), (26, K.val (Ty.slc (Ty.int IntKind.u32)) v26), (27, K.val af v27), (28, K.val af v28)] [(0, Bx.cell tId b0), (1, Bx.cell tId b1)]
noncomputable def BD (v26 : den (Ty.slc (Ty.int IntKind.u32))) (v27 : den af) (v28 : den af) (b0 : den tId) (b1 : den tId) : ab := ab.ite (decide (v28 < v27)) (ab.req (inB v28 (lnx (Ty.int IntKind.u32) v26)) (ab.req (nz 16777216) (ab.req (inB (IntKind.wrap IntKind.i64 (4 * v28)) (↑32 : Int)) (ab.req (nz 65536) (ab.req (nz 256) (ab.req (inB (IntKind.wrap IntKind.i64 (IntKind.wrap IntKind.i64 (4 * v28) + 1)) (↑32 : Int)) (ab.req (nz 256) (ab.req (nz 256) (ab.req (inB (IntKind.wrap IntKind.i64 (IntKind.wrap IntKind.i64 (4 * v28) + 2)) (↑32 : Int)) (ab.req (nz 256) (ab.req (inB (IntKind.wrap IntKind.i64 (IntKind.wrap IntKind.i64 (4 * v28) + 3)) (↑32 : Int)) (ab.loop [] dl (lp dr 9) [(2, K.ptr 0 tId []), (6, K.ptr (0 + 1) tId []), (26, K.val (Ty.slc (Ty.int IntKind.u32)) v26), (27, K.val af v27), (28, K.val af (IntKind.wrap IntKind.i64 (v28 + 1)))] [(0, Bx.cell tId b0), (0 + 1, Bx.cell tId (bR (Ty.int IntKind.u8) (bR (Ty.int IntKind.u8) (bR (Ty.int IntKind.u8) (bR (Ty.int IntKind.u8) b1 (IntKind.wrap IntKind.i64 (4 * v28)) (IntKind.wrap IntKind.u8 (IntKind.wrap IntKind.u32 (Int.tdiv (el (Ty.int IntKind.u32) v26 v28) 16777216)))) (IntKind.wrap IntKind.i64 (IntKind.wrap IntKind.i64 (4 * v28) + 1)) (IntKind.wrap IntKind.u8 (Int.tmod (IntKind.wrap IntKind.u32 (Int.tdiv (el (Ty.int IntKind.u32) v26 v28) 65536)) 256))) (IntKind.wrap IntKind.i64 (IntKind.wrap IntKind.i64 (4 * v28) + 2)) (IntKind.wrap IntKind.u8 (Int.tmod (IntKind.wrap IntKind.u32 (Int.tdiv (el (Ty.int IntKind.u32) v26 v28) 256)) 256))) (IntKind.wrap IntKind.i64 (IntKind.wrap IntKind.i64 (4 * v28) + 3)) (IntKind.wrap IntKind.u8 (Int.tmod (el (Ty.int IntKind.u32) v26 v28) 256))))])))))))))))) (ab.ret (K.val (Ty.pair tId Ty.unit) (b1, PUnit.unit)))
theorem oz (v26 : den (Ty.slc (Ty.int IntKind.u32))) (v27 : den af) (v28 : den af) (b0 : den tId) (b1 : den tId) : al jq tk 5000 [] dl (lp dr 9) (pf v26 v27 v28 b0 b1) = BD v26 v27 v28 b0 b1 := by kernel_rfl
end Go.Proofs.YtnakjijahkaoaaaDoor
namespace Go.Proofs.YtnakjijahkaoaaaDoor
open Go Go.RowKit
def goB (all : ByteArray) : Nat → List Int
 | 0 => dO
 | m + 1 => gd (goB all m) (a6 all ((64 * m : Nat) : Int) ((64 * m + 64 : Nat) : Int))
def stO (h b : List Int) (i : Int) : List Int :=
 bR (Ty.int IntKind.u8) (bR (Ty.int IntKind.u8) (bR (Ty.int IntKind.u8) (bR (Ty.int IntKind.u8) b (IntKind.wrap .i64 (4 * i)) (IntKind.wrap .u8 (IntKind.wrap .u32 (Int.tdiv (ao h i) 16777216))))
  (IntKind.wrap .i64 (IntKind.wrap .i64 (4 * i) + 1)) (IntKind.wrap .u8 (Int.tmod (IntKind.wrap .u32 (Int.tdiv (ao h i) 65536)) 256)))
  (IntKind.wrap .i64 (IntKind.wrap .i64 (4 * i) + 2)) (IntKind.wrap .u8 (Int.tmod (IntKind.wrap .u32 (Int.tdiv (ao h i) 256)) 256))) (IntKind.wrap .i64 (IntKind.wrap .i64 (4 * i) + 3)) (IntKind.wrap .u8 (Int.tmod (ao h i) 256))
def tZ (h : List Int) : Nat → List Int
 | 0 => List.replicate 32 (zero (Ty.int IntKind.u8))
 | i + 1 => stO h (tZ h i) (i : Nat)
def iz (s : ByteArray) : List Int := tZ (goB (aj (jf s)) (g8 s)) 8
noncomputable abbrev jn : bh := ⟨xe, qO, fun x => (iz x.1, ()), fun x => ByteArray.size x.1 ≤ 900, false⟩
theorem uj (all : ByteArray) : ∀ m : Nat, (goB all m).length = 8
 | 0 => rfl
 | m + 1 => CA _ _ 8
abbrev GS2 (O : Nat → Prop) (v0 : World) (y : List Int) := bC prog jq (Cx.base O v0) (cN prog O v0 qO fun z => z = (y, ()))
theorem pP : XOk prog jq := HI DP Cq DY
def Jj (O : Nat → Prop) (v0 : World) (h b0 : List Int) (hh : h.length = 8) :=
 PLift.up <| bP (σ := List Int) 8 (fun i b => b = tZ h i)
  (fun i b => GS2 O v0 (tZ h 8) [] dl (lp dr 9) (pf h ((8 : Nat) : Int) (i : Nat) b0 b))
  (fun i b hi hb ih => aI pP (oz h _ _ b0 b) (by
   have e4 : IntKind.wrap .i64 (4 * (i : Int)) = 4 * (i : Int) := bp (by omega)
   have hin : ∀ k : Int, 0 ≤ k → k < 4 → inB (IntKind.wrap .i64 (IntKind.wrap .i64 (4 * (i : Int)) + k)) ((32 : Nat) : Int) := fun k h1 h2 => by
    rw [e4, bp (by omega)]
    exact ⟨by omega, by omega⟩
   have hn : ∀ k : Int, k ≠ 0 → nz k := fun k h => h
   refine ⟨fun _ => ⟨by rw [oM hh]; exact gH hi, hn _ (by decide), ?_, hn _ (by decide), hn _ (by decide), hin 1 (by decide) (by decide), hn _ (by decide), hn _ (by decide), hin 2 (by decide) (by decide), hn _ (by decide), hin 3 (by decide) (by decide), ?_⟩, fun hc => absurd (Int.ofNat_lt.2 hi) (of_decide_eq_false hc)⟩
   ·rw [e4]
    exact ⟨by omega, by omega⟩
   ·rw [da hi (by decide)]
    refine ih _ ?_
    rw [hb]
    rfl))
  (fun b hb => aI pP (oz h _ _ b0 b) (by
   refine ⟨fun hc => absurd (of_decide_eq_true hc) (by decide), fun _ => ⟨_, rfl, ?_⟩⟩
   show (b, ()) = (tZ h 8, ())
   rw [hb]))
def Jy (O : Nat → Prop) (v0 : World) (all : ByteArray) (n : Nat) (hn : n ≤ 1000) (ha : all.size = 64 * n) (b0 : List Int) :=
 PLift.up <| bP (σ := List Int) n (fun m h => h = goB all m)
  (fun m h => GS2 O v0 (tZ (goB all n) 8) [] dl (lp dr 4) (vv h all ((64 * m : Nat) : Int) b0))
  (fun m h hm hh ih => aI pP (oy h all _ b0) (by
   have e64 : IntKind.wrap .i64 (((64 * m : Nat) : Int) + 64) = ((64 * m + 64 : Nat) : Int) := by
    rw [bp (by omega)]
    omega
   have hl : ax all = ((64 * n : Nat) : Int) := by unfold ax; rw [ha]
   unfold tW
   rw [e64]
   refine ⟨fun _ => ⟨?_, ⟨by rw [hh]; exact uj all m, ?_⟩, ?_⟩, fun hc => ?_⟩
   ·rw [hl]
    exact ⟨by omega, by omega, by omega⟩
   ·unfold a6
    rw [ByteArray.size_extract, Int.toNat_natCast, Int.toNat_natCast, ha]
    omega
   ·refine ih _ ?_
    rw [hh]
    rfl
   ·have hc := of_decide_eq_false hc
    rw [hl] at hc
    exact absurd (show ((64 * m : Nat) : Int) < ((64 * n : Nat) : Int) by omega) hc))
  (fun h hh => aI pP (oy h all _ b0) (by
   have hl : ax all = ((64 * n : Nat) : Int) := by unfold ax; rw [ha]
   refine ⟨fun hc => ?_, fun _ => ?_⟩
   ·have hc := of_decide_eq_true hc
    rw [hl] at hc
    exact absurd hc (Int.lt_irrefl _)
   ·show GS2 O v0 _ [] dl (lp dr 9) (pf h (lnx (.int .u32) h) 0 b0 (List.replicate 32 (zero (Ty.int IntKind.u8))))
    have hz : h.length = 8 := by rw [hh]; exact uj all n
    rw [oM hz, ← hh]
    exact (Jj O v0 h b0 hz).down 0 _ (Nat.zero_le _) rfl))
theorem nW : au prog [] jm jn :=
 bw (S := jn) pP (fx := dl) F9 (by kernel_rfl) (fun h => by cases h) (T := fun x => Ao x.1) (fun x => Df x.1) fun O v0 x _ hp => by
  obtain ⟨s, ⟨⟩⟩ := x
  have hp : s.size ≤ 900 := hp
  refine ⟨trivial, by omega, ?_⟩
  exact (Jy O v0 (aj (jf s)) (g8 s) (by unfold g8; omega) (by rw [d8, A3]) (zero tId)).down 0 _ (Nat.zero_le _) rfl
end Go.Proofs.YtnakjijahkaoaaaDoor
namespace Go.Proofs.YtnakjijahkaoaaaDoor
open Go Go.RowKit
def isW (x : Int) : Prop := ∃ n : Nat, x = (n : Int) ∧ n < 4294967296
theorem C5 (n : Int) : isW (IntKind.wrap .u32 n) := by
 rw [cM]
 exact ⟨(n % 4294967296).toNat, by omega, by omega⟩
theorem uf (a b : Int) : isW (cZ a b) := C5 _
theorem I4 {y : Nat} (hy : y < 4294967296) : tuI (y : Int) = ((Bh y : Nat) : Int) := by
 unfold tuI Bh
 have e1 : Int.tdiv (y : Int) 2 = ((y / 2 : Nat) : Int) := rfl
 have e2 : Int.tmod (y : Int) 2 = ((y % 2 : Nat) : Int) := rfl
 rw [e1, e2, cM, cM, cM]
 omega
theorem Aa {x : Nat} (hx : x < 4294967296) : ∀ k : Nat, k ≤ 32 → xS (x : Int) k = ((m9 x k : Nat) : Int)
 | 0, _ => by
  show (x : Int) = _
  unfold m9
  rw [Nat.pow_zero, Nat.div_one, Nat.mod_one, Nat.zero_mul, Nat.add_zero]
 | k + 1, hk => by
  show tuI (xS (x : Int) k) = _
  rw [Aa hx k (by omega), I4 (E5 hx (by omega)), H1 (by omega)]
theorem IK {x n : Nat} (hx : x < 4294967296) (hn : n ≤ 32) : bf (x : Int) (n : Int) = ((m9 x n : Nat) : Int) := by
 unfold bf
 rw [Int.toNat_natCast]
 exact Aa hx n hn
theorem ol {x : Int} (hx : isW x) {n : Nat} (hn : 0 < n ∧ n < 32) (k : Int) (hk : pQ k = ((32 - n : Nat) : Int)) (hk2 : IntKind.wrap .u64 (32 - ((32 - n : Nat) : Int)) = (n : Int)) : bO x k = bf x (n : Int) := by
 obtain ⟨a, rfl, ha⟩ := hx
 rw [IQ ha hn k hk hk2, IK ha (by omega)]
theorem J2 {e f g : Int} (he : isW e) (hf : isW f) (hg : isW g) : dW g (gp e (dW f g)) = dW (gp e f) (gp (IntKind.wrap .u32 (4294967295 - e)) g) := by
 obtain ⟨e, rfl, he⟩ := he
 obtain ⟨f, rfl, hf⟩ := hf
 obtain ⟨g, rfl, hg⟩ := hg
 have e1 : IntKind.wrap .u32 (4294967295 - (e : Int)) = ((4294967295 - e : Nat) : Int) := by rw [cM]; omega
 have l1 : f ^^^ g < 4294967296 := Nat.xor_lt_two_pow (n := 32) hf hg
 have l2 : 4294967295 - e < 4294967296 := by omega
 rw [e1, nf hf hg, je he l1, nf hg (Nat.lt_of_le_of_lt Nat.and_le_left he), je he hf, je l2 hg, nf (Nat.lt_of_le_of_lt Nat.and_le_left he) (Nat.lt_of_le_of_lt Nat.and_le_left l2), Jw he hf hg]
theorem Jq {a b c : Int} (ha : isW a) (hb : isW b) (hc : isW c) : lor (gp a b) (gp c (lor a b)) = dW (dW (gp a b) (gp a c)) (gp b c) := by
 obtain ⟨a, rfl, ha⟩ := ha
 obtain ⟨b, rfl, hb⟩ := hb
 obtain ⟨c, rfl, hc⟩ := hc
 have l1 : a &&& b < 4294967296 := Nat.lt_of_le_of_lt Nat.and_le_left ha
 have l2 : a &&& c < 4294967296 := Nat.lt_of_le_of_lt Nat.and_le_left ha
 have l3 : b &&& c < 4294967296 := Nat.lt_of_le_of_lt Nat.and_le_left hb
 have l4 : a ||| b < 4294967296 := Nat.or_lt_two_pow (n := 32) ha hb
 rw [je ha hb, zL ha hb, je hc l4, zL l1 (Nat.lt_of_le_of_lt Nat.and_le_left hc), je ha hc, je hb hc, nf l1 l2, nf (Nat.xor_lt_two_pow (n := 32) l1 l2) l3, Is ha hb hc]
theorem BP (n : Nat) (h : n < 1000) : IntKind.wrap .i64 (sP (n : Int)) = -(n : Int) := by
 unfold sP
 rw [bp (by omega)]
 omega
theorem ud {x c : Int} (hx : isW x) {a b : Nat} (ha : 0 < a ∧ a < 32) (hb : 0 < b ∧ b < 32) (ka : pQ (-(a : Int)) = ((32 - a : Nat) : Int)) (ka2 : IntKind.wrap .u64 (32 - ((32 - a : Nat) : Int)) = (a : Int)) (kb : pQ (-(b : Int)) = ((32 - b : Nat) : Int)) (kb2 : IntKind.wrap .u64 (32 - ((32 - b : Nat) : Int)) = (b : Int)) :
    cP x (a : Int) (b : Int) c = dW (dW (bf x (a : Int)) (bf x (b : Int))) c := by
  unfold cP
  rw [BP a (by omega), BP b (by omega), ol hx ha _ ka ka2, ol hx hb _ kb kb2]
theorem GO {v : List Int} (hv : v.length = 8) (hw : ∀ x ∈ v, isW x) (k w : Int) : ovV k w v = ig v k w := by
 have hi : ∀ i : Nat, i < 8 → isW (ao v (i : Nat)) := fun i h => by
  have : ao v (i : Nat) = v[i]'(by omega) := kJ (e := .int .u32) (by omega)
  rw [this]
  exact hw _ (List.getElem_mem _)
 have i0 : isW (ao v 0) := hi 0 (by decide)
 have i1 : isW (ao v 1) := hi 1 (by decide)
 have i2 : isW (ao v 2) := hi 2 (by decide)
 have i4 : isW (ao v 4) := hi 4 (by decide)
 have i5 : isW (ao v 5) := hi 5 (by decide)
 have i6 : isW (ao v 6) := hi 6 (by decide)
 have up : F2 k w v = t1I v k w := by
  unfold F2 t1I
  have e1 := ud (c := bO (ao v 4) (-25)) i4 (a := 6) (b := 11) (by decide) (by decide) (by decide) (by decide) (by decide) (by decide)
  have e2 := ol i4 (n := 25) (by decide) (-25) (by decide) (by decide)
  rw [show cP (ao v 4) 6 11 (bO (ao v 4) (-25)) = _ from e1, show bO (ao v 4) (-25) = _ from e2, J2 i4 i5 i6]
  rfl
 have mj : cZ (cP (ao v 0) 2 13 (bO (ao v 0) (-22))) (Cp v) = t2I v := by
  unfold Cp t2I
  have e1 := ud (c := bO (ao v 0) (-22)) i0 (a := 2) (b := 13) (by decide) (by decide) (by decide) (by decide) (by decide) (by decide)
  have e2 := ol i0 (n := 22) (by decide) (-22) (by decide) (by decide)
  rw [show cP (ao v 0) 2 13 (bO (ao v 0) (-22)) = _ from e1, show bO (ao v 0) (-22) = _ from e2, Jq i0 i1 i2]
  rfl
 have asc : ∀ a b c : Int, cZ (cZ a b) c = cZ a (cZ b c) := fun a b c => by
  unfold cZ
  rw [cM, cM, cM, cM]
  omega
 unfold ovV ig
 rw [asc, mj, up]
 rfl
end Go.Proofs.YtnakjijahkaoaaaDoor
namespace Go.Proofs.YtnakjijahkaoaaaDoor
open Go Go.RowKit
theorem qu (l : List Int) (i : Nat) : ao l (i : Nat) = (l[i]?).getD 0 := by
 show List.getD l (Int.toNat (i : Nat)) _ = _
 rw [Int.toNat_natCast, List.getD_eq_getElem?_getD]
 rfl
theorem zX {l m : List Int} {t i : Nat} (h : l.take t = m.take t) (hi : i < t) : ao l (i : Nat) = ao m (i : Nat) := by
 have e : ∀ l : List Int, l[i]? = (l.take t)[i]? := fun l => by rw [List.getElem?_take, if_pos hi]
 rw [qu, qu, e l, e m, h]
theorem Bl {l : List Int} {t : Nat} (h : t < l.length) (x : Int) : (bR (.int .u32) l (t : Nat) x).take (t + 1) = l.take t ++ [x] := by
 show (List.set l (Int.toNat (t : Nat)) x).take (t + 1) = _
 rw [Int.toNat_natCast, List.take_succ_eq_append_getElem (by rw [List.length_set]; exact h), List.getElem_set_self, List.take_set_of_le (Nat.le_refl _)]
theorem uy (s : ByteArray) (i : Int) : ∃ b : Nat, sAt s i = (b : Int) ∧ b < 256 := by
 unfold sAt
 exact ⟨_, rfl, UInt8.toNat_lt _⟩
theorem qP {n b : Nat} (hn : n < 16777216) (hb : b < 256) : ga (n : Int) (b : Int) = ((256 * n + b : Nat) : Int) := by
 have e8 : min (Int.toNat 8) (IntKind.bits .u32) = 8 := rfl
 have e1 : IntKind.wrap .u32 ((n : Int) * 2 ^ min (Int.toNat 8) (IntKind.bits .u32)) = ((n * 256 : Nat) : Int) := by
  rw [e8, cM, show (2 : Int) ^ 8 = 256 from rfl]; omega
 have e2 : IntKind.wrap .u32 (b : Int) = (b : Int) := by rw [cM]; omega
 unfold ga
 rw [e1, e2, zL (by omega) (by omega)]
 have := Nat.shiftLeft_add_eq_or_of_lt (i := 8) (show b < 2 ^ 8 from hb) n
 rw [Nat.shiftLeft_eq] at this
 rw [show n * 256 = n * 2 ^ 8 from rfl, ← this]
 omega
theorem qL {n b : Nat} (hn : n < 16777216) (hb : b < 256) (s : ByteArray) (t i : Int) (h : sAt s (IntKind.wrap .i64 (IntKind.wrap .i64 (4 * t) + i)) = (b : Int)) : w16 s t (n : Int) i = ((256 * n + b : Nat) : Int) := by
 unfold w16
 rw [h, cM, cM, cM]
 omega
theorem JJ {s : ByteArray} (hs : s.size = 64) {t : Nat} (ht : t < 16) : ovB s (t : Nat) = yM s (t : Nat) 4 := by
 have e4 : IntKind.wrap .i64 (4 * (t : Int)) = ((4 * t : Nat) : Int) := by rw [bp (by omega)]; omega
 have e44 : IntKind.wrap .i64 (((4 * t : Nat) : Int) + 4) = ((4 * t + 4 : Nat) : Int) := by rw [bp (by omega)]; omega
 have hz : (a6 s ((4 * t : Nat) : Int) ((4 * t + 4 : Nat) : Int)).size = 4 := by
  unfold a6
  rw [ByteArray.size_extract, Int.toNat_natCast, Int.toNat_natCast, hs]
  omega
 have hat : ∀ i : Nat, i < 4 → sAt (a6 s ((4 * t : Nat) : Int) ((4 * t + 4 : Nat) : Int)) (i : Nat) = sAt s (IntKind.wrap .i64 (IntKind.wrap .i64 (4 * (t : Int)) + (i : Nat))) := fun i hi => by
  have e5 : IntKind.wrap .i64 (((4 * t : Nat) : Int) + (i : Nat)) = ((4 * t + i : Nat) : Int) := by rw [bp (by omega)]; omega
  rw [e4, e5]
  unfold sAt a6
  rw [Int.toNat_natCast, Int.toNat_natCast, Int.toNat_natCast, Int.toNat_natCast, ByteArray.data_extract, Array.getElem?_extract]
  rw [if_pos (by have : s.data.size = 64 := hs; omega)]
 obtain ⟨b0, h0, l0⟩ := uy s (IntKind.wrap .i64 (IntKind.wrap .i64 (4 * (t : Int)) + (0 : Nat)))
 obtain ⟨b1, h1, l1⟩ := uy s (IntKind.wrap .i64 (IntKind.wrap .i64 (4 * (t : Int)) + (1 : Nat)))
 obtain ⟨b2, h2, l2⟩ := uy s (IntKind.wrap .i64 (IntKind.wrap .i64 (4 * (t : Int)) + (2 : Nat)))
 obtain ⟨b3, h3, l3⟩ := uy s (IntKind.wrap .i64 (IntKind.wrap .i64 (4 * (t : Int)) + (3 : Nat)))
 have hb : aK (a6 s ((4 * t : Nat) : Int) ((4 * t + 4 : Nat) : Int)) = [(b0 : Int), b1, b2, b3] := by
  refine List.ext_getElem (by rw [eM, hz]; rfl) fun i hi1 hi2 => ?_
  have hi : i < 4 := by rw [eM, hz] at hi1; exact hi1
  rw [Cd _ (by rw [hz]; exact hi), hat i hi]
  match i, hi with
  | 0, _ => exact h0
  | 1, _ => exact h1
  | 2, _ => exact h2
  | 3, _ => exact h3
 unfold ovB
 rw [e4, e44]
 unfold nD
 rw [hb]
 show ga (ga (ga (ga ((0 : Nat) : Int) b0) b1) b2) b3 = w16 s t (w16 s t (w16 s t (w16 s t ((0 : Nat) : Int) (0 : Nat)) (1 : Nat)) (2 : Nat)) (3 : Nat)
 rw [qP (by omega) l0, qP (by omega) l1, qP (by omega) l2, qP (by omega) l3, qL (by omega) l0 s t _ h0, qL (by omega) l1 s t _ h1, qL (by omega) l2 s t _ h2, qL (by omega) l3 s t _ h3]
theorem E2 {x : Int} (hx : isW x) (k : Nat) (hk : k < 32) : kH x (k : Int) = IntKind.wrap .u32 (Int.tdiv x (2 ^ k)) := by
 obtain ⟨a, rfl, ha⟩ := hx
 unfold kH
 have m1 : min (Int.toNat (k : Int)) (IntKind.bits .u32) = k := by
  have e32 : IntKind.bits .u32 = 32 := rfl
  rw [e32, Int.toNat_natCast]; omega
 have e2 : (2 : Int) ^ k = ((2 ^ k : Nat) : Int) := by rw [Int.natCast_pow]; rfl
 rw [m1, e2, Int.fdiv_eq_ediv_of_nonneg _ (Int.natCast_nonneg _), show Int.tdiv (a : Int) ((2 ^ k : Nat) : Int) = ((a / 2 ^ k : Nat) : Int) from rfl, ke, Nat.mod_eq_of_lt (Nat.lt_of_le_of_lt (Nat.div_le_self _ _) ha)]
 rfl
end Go.Proofs.YtnakjijahkaoaaaDoor
namespace Go.Proofs.YtnakjijahkaoaaaDoor
open Go Go.RowKit
theorem EA (s : ByteArray) (t : Nat) : ∀ d : Nat, (bw1 s (t + d)).take t = bw1 s t
 | 0 => List.take_of_length_le (by rw [Nat.add_zero, pF]; exact Nat.le_refl _)
 | d + 1 => by
  rw [← Nat.add_assoc, bw1, List.take_append_of_le_length (by rw [pF]; omega)]
  exact EA s t d
theorem EB (s : ByteArray) (j : Nat) : ∀ d : Nat, (bw2 s (j + d)).take (16 + j) = bw2 s j
 | 0 => List.take_of_length_le (by rw [Nat.add_zero, mG]; exact Nat.le_refl _)
 | d + 1 => by
  rw [← Nat.add_assoc, bw2, List.take_append_of_le_length (by rw [mG]; omega)]
  exact EB s j d
theorem wA (s : ByteArray) {t : Nat} (h : 16 ≤ t) (h' : t ≤ 64) : (bw2 s 48).take t = bw2 s (t - 16) := by
 have := EB s (t - 16) (64 - t)
 rwa [show t - 16 + (64 - t) = 48 by omega, show 16 + (t - 16) = t by omega] at this
theorem Cm (s : ByteArray) {t : Nat} (h : t ≤ 16) : (bw2 s 48).take t = bw1 s t := by
 have h1 := wA s (t := 16) (Nat.le_refl _) (by decide)
 have h2 : bw2 s (16 - 16) = bw1 s 16 := rfl
 have h3 := EA s t (16 - t)
 rw [show t + (16 - t) = 16 by omega, ← h2, ← h1, List.take_take, Nat.min_eq_left h] at h3
 exact h3
theorem Il (s : ByteArray) (t : Int) : isW (yM s t 4) := C5 _
theorem BC (s : ByteArray) : ∀ t : Nat, ∀ x ∈ bw1 s t, isW x
 | 0, x, h => by cases h
 | t + 1, x, h => by
  rw [bw1, List.mem_append, List.mem_singleton] at h
  rcases h with h | rfl
  ·exact BC s t x h
  ·exact Il s _
theorem Br (s : ByteArray) : ∀ j : Nat, ∀ x ∈ bw2 s j, isW x
 | 0, x, h => BC s 16 x h
 | j + 1, x, h => by
  rw [bw2, List.mem_append, List.mem_singleton] at h
  rcases h with h | rfl
  ·exact Br s j x h
  ·exact uf _ _
theorem s6 {l : List Int} (h : ∀ x ∈ l, isW x) {i : Nat} (hi : i < l.length) : isW (ao l (i : Nat)) := by
 have : ao l (i : Nat) = l[i] := kJ (e := .int .u32) hi
 rw [this]
 exact h _ (List.getElem_mem _)
theorem EK {h : List Int} (hl : h.length = 8) (hw : ∀ x ∈ h, isW x) (w : List Int) : ∀ t : Nat, ∀ x ∈ rv h w t, isW x
 | 0, x, hx => hw x hx
 | t + 1, x, hx => by
  have ih := EK hl hw w t
  have hz := yE hl w t
  have hu : ∀ i : Nat, i < 8 → isW (ao (rv h w t) (i : Nat)) := fun i hi => s6 ih (by rw [hz]; exact hi)
  have hx : x ∈ ig (rv h w t) (ao iq (t : Nat)) (ao w (t : Nat)) := hx
  unfold ig at hx
  simp only [List.mem_cons, List.not_mem_nil, or_false] at hx
  rcases hx with rfl | rfl | rfl | rfl | rfl | rfl | rfl | rfl
  ·exact uf _ _
  ·exact hu 0 (by decide)
  ·exact hu 1 (by decide)
  ·exact hu 2 (by decide)
  ·exact uf _ _
  ·exact hu 4 (by decide)
  ·exact hu 5 (by decide)
  ·exact hu 6 (by decide)
theorem Io {l b : List Int} {t : Nat} (h16 : 16 ≤ t) (h64 : t < 64) (hb : b.length = t) (hw : ∀ x ∈ b, isW x) (ht : l.take t = b.take t) : ovN l (t : Nat) = nxI b (t : Nat) := by
 have ek : ∀ k : Nat, 0 < k → k ≤ 16 → IntKind.wrap .i64 ((t : Int) - (k : Int)) = ((t - k : Nat) : Int) := fun k h1 h2 => by rw [bp (by omega)]; omega
 have el : ∀ k : Nat, 0 < k → k ≤ 16 → ao l ((t - k : Nat) : Int) = ao b ((t - k : Nat) : Int) := fun k h1 h2 => zX ht (by omega)
 have wd : ∀ k : Nat, 0 < k → k ≤ 16 → isW (ao b ((t - k : Nat) : Int)) := fun k h1 h2 => s6 hw (by omega)
 have k2 := ek 2 (by decide) (by decide)
 have k7 := ek 7 (by decide) (by decide)
 have k15 := ek 15 (by decide) (by decide)
 have k16 := ek 16 (by decide) (by decide)
 have a1 := ud (c := kH (ao b ((t - 2 : Nat) : Int)) 10) (wd 2 (by decide) (by decide)) (a := 17) (b := 19) (by decide) (by decide) (by decide) (by decide) (by decide) (by decide)
 have a2 := ud (c := kH (ao b ((t - 15 : Nat) : Int)) 3) (wd 15 (by decide) (by decide)) (a := 7) (b := 18) (by decide) (by decide) (by decide) (by decide) (by decide) (by decide)
 have s1 := E2 (wd 2 (by decide) (by decide)) 10 (by decide)
 have s2 := E2 (wd 15 (by decide) (by decide)) 3 (by decide)
 unfold ovN nxI
 rw [show IntKind.wrap .i64 ((t : Int) - 2) = _ from k2, show IntKind.wrap .i64 ((t : Int) - 7) = _ from k7, show IntKind.wrap .i64 ((t : Int) - 15) = _ from k15, show IntKind.wrap .i64 ((t : Int) - 16) = _ from k16,
  el 2 (by decide) (by decide), el 7 (by decide) (by decide), el 15 (by decide) (by decide), el 16 (by decide) (by decide)]
 rw [show cP (ao b ((t - 2 : Nat) : Int)) 17 19 (kH (ao b ((t - 2 : Nat) : Int)) 10) = _ from a1, show cP (ao b ((t - 15 : Nat) : Int)) 7 18 (kH (ao b ((t - 15 : Nat) : Int)) 3) = _ from a2,
  show kH (ao b ((t - 2 : Nat) : Int)) 10 = _ from s1, show kH (ao b ((t - 15 : Nat) : Int)) 3 = _ from s2]
 rfl
theorem EM {s : ByteArray} (hs : s.size = 64) {h : List Int} (hl : h.length = 8) (hw : ∀ x ∈ h, isW x) : ∀ t : Nat, t ≤ 64 → (ovS s h t).1.length = 64 ∧ (ovS s h t).1.take t = (bw2 s 48).take t ∧ (ovS s h t).2 = rv h (bw2 s 48) t
 | 0, _ => ⟨by show (List.replicate 64 (zero (Ty.int IntKind.u32))).length = 64; rw [List.length_replicate], by rw [List.take_zero, List.take_zero], rfl⟩
 | t + 1, ht => by
  obtain ⟨h1, h2, h3⟩ := EM hs hl hw t (by omega)
  have hset : ∃ x, ovW s (ovS s h t).1 (t : Nat) = bR (.int .u32) (ovS s h t).1 (t : Nat) x ∧ (bw2 s 48).take (t + 1) = (bw2 s 48).take t ++ [x] := by
   by_cases h16 : t < 16
   ·refine ⟨ovB s (t : Nat), if_pos (Int.ofNat_lt.2 h16), ?_⟩
    rw [Cm s (by omega), Cm s (by omega), bw1, JJ hs h16]
   ·refine ⟨ovN (ovS s h t).1 (t : Nat), if_neg (fun h => h16 (Int.ofNat_lt.1 h)), ?_⟩
    have e1 := wA s (t := t) (by omega) (by omega)
    have e2 := wA s (t := t + 1) (by omega) ht
    have hb : (bw2 s (t - 16)).length = t := by rw [mG]; omega
    rw [e2, e1, show t + 1 - 16 = (t - 16) + 1 by omega, bw2, show 16 + (t - 16) = t by omega]
    rw [Io (b := bw2 s (t - 16)) (by omega) (by omega) hb (Br s _) (by rw [h2, e1, List.take_of_length_le (by omega)])]
  obtain ⟨x, hx, hB⟩ := hset
  have ew : (ovS s h (t + 1)).1 = bR (.int .u32) (ovS s h t).1 (t : Nat) x := hx
  have et : (ovS s h (t + 1)).1.take (t + 1) = (bw2 s 48).take (t + 1) := by rw [ew, Bl (by omega), hB, h2]
  refine ⟨?_, et, ?_⟩
  ·rw [ew]
   exact (List.length_set ..).trans h1
  ·show ovV (ao ie (t : Nat)) (ao (ovW s (ovS s h t).1 (t : Nat)) (t : Nat)) (ovS s h t).2 = ig (rv h (bw2 s 48) t) (ao iq (t : Nat)) (ao (bw2 s 48) (t : Nat))
   have eu : ao (ovW s (ovS s h t).1 (t : Nat)) (t : Nat) = ao (bw2 s 48) (t : Nat) := zX (t := t + 1) (show (ovS s h (t + 1)).1.take (t + 1) = _ from et) (Nat.lt_succ_self t)
   rw [eu, h3, GO (yE hl _ t) (EK hl hw _ t)]
   rfl
theorem EJ {h v : List Int} (hl : h.length = 8) : ∀ i : Nat, i ≤ 8 → (ovA h v i).length = 8 ∧ (ovA h v i).take i = ob h v i ∧ (ovA h v i).drop i = h.drop i
 | 0, _ => ⟨hl, rfl, rfl⟩
 | i + 1, hi => by
  obtain ⟨h1, h2, h3⟩ := EJ hl i (by omega)
  have hlt : i < (ovA h v i).length := Nat.lt_of_lt_of_eq (show i < 8 by omega) h1.symm
  have eh : ao (ovA h v i) (i : Nat) = ao h (i : Nat) := by
   have e0 : ∀ l : List Int, l[i]? = (l.drop i)[0]? := fun l => by rw [List.getElem?_drop, Nat.add_zero]
   rw [qu, qu, e0, e0 h, h3]
  refine ⟨(List.length_set ..).trans h1, ?_, ?_⟩
  ·show (bR (.int .u32) (ovA h v i) (i : Nat) (cZ (ao (ovA h v i) (i : Nat)) (ao v (i : Nat)))).take (i + 1) = ob h v i ++ [cZ (ao h (i : Nat)) (ao v (i : Nat))]
   rw [Bl hlt, h2, eh]
  ·show (List.set (ovA h v i) (Int.toNat (i : Nat)) _).drop (i + 1) = _
   rw [Int.toNat_natCast, List.drop_set_of_lt (by omega), ← List.drop_drop, h3, List.drop_drop]
theorem It {h : List Int} (hl : h.length = 8) (hw : ∀ x ∈ h, isW x) {s : ByteArray} (hs : s.size = 64) : nM h s = gd h s := by
 obtain ⟨_, _, e⟩ := EM hs hl hw 64 (Nat.le_refl _)
 unfold nM gd
 rw [e]
 obtain ⟨h1, h2, _⟩ := EJ (h := h) (v := rv h (bw2 s 48) 64) hl 8 (Nat.le_refl _)
 rw [← h2, List.take_of_length_le (by omega)]
theorem FG (h : List Int) (s : ByteArray) : ∀ x ∈ gd h s, isW x := by
 have key : ∀ (v : List Int) (i : Nat), ∀ x ∈ ob h v i, isW x := fun v i => by
  induction i with
  | zero => intro x hx; cases hx
  | succ i ih =>
   intro x hx
   rw [ob, List.mem_append, List.mem_singleton] at hx
   rcases hx with hx | rfl
   ·exact ih x hx
   ·exact uf _ _
 exact key _ 8
end Go.Proofs.YtnakjijahkaoaaaDoor
namespace Go.Proofs.YtnakjijahkaoaaaDoor
open Go Go.RowKit
theorem lk (s : ByteArray) (a b : Int) : (a6 s a b).data.toList = (s.data.toList.drop a.toNat).take (b.toNat - a.toNat) := by
 unfold a6
 rw [ByteArray.data_extract, Array.toList_extract, List.extract_eq_take_drop]
theorem lj {s t : ByteArray} (h : s.data.toList = t.data.toList) : s = t := ByteArray.ext (Array.ext' h)
theorem nv (s : ByteArray) : s.data.toList.length = s.size := by rw [Array.length_toList]; rfl
theorem Dl : ∀ x ∈ dO, isW x := by
 intro x hx
 unfold dO at hx
 simp only [List.mem_cons, List.not_mem_nil, or_false] at hx
 rcases hx with rfl | rfl | rfl | rfl | rfl | rfl | rfl | rfl <;> exact ⟨_, rfl, by decide⟩
theorem BR (all : ByteArray) : ∀ m : Nat, ∀ x ∈ goB all m, isW x
 | 0 => Dl
 | m + 1 => FG _ _
def lc (all : ByteArray) (m n : Nat) : ByteArray := a6 all ((64 * m : Nat) : Int) ((64 * n : Nat) : Int)
theorem lA (all : ByteArray) (m n : Nat) : (lc all m n).data.toList = (all.data.toList.drop (64 * m)).take (64 * n - 64 * m) := by
 unfold lc
 rw [lk, Int.toNat_natCast, Int.toNat_natCast]
theorem HH {all : ByteArray} {m n : Nat} (ha : all.size = 64 * n) (h : m ≤ n) : (lc all m n).size = 64 * (n - m) := by
 rw [← nv, lA, List.length_take, List.length_drop, nv, ha]
 omega
theorem HR {all : ByteArray} {m n : Nat} (h : m < n) : a6 (lc all m n) 0 64 = a6 all ((64 * m : Nat) : Int) ((64 * m + 64 : Nat) : Int) := lj (by
 have e0 : Int.toNat 0 = 0 := rfl
 have e64 : Int.toNat 64 = 64 := rfl
 rw [lk, lk, lA, e0, e64, Int.toNat_natCast, Int.toNat_natCast, List.drop_zero, List.take_take]
 congr 1
 omega)
theorem HJ {all : ByteArray} {m n : Nat} (ha : all.size = 64 * n) (h : m < n) : a6 (lc all m n) 64 (ax (lc all m n)) = lc all (m + 1) n := lj (by
 have e64 : Int.toNat 64 = 64 := rfl
 have el : Int.toNat (ax (lc all m n)) = 64 * (n - m) := by unfold ax; rw [Int.toNat_natCast, HH ha (by omega)]
 rw [lk, lA, lA, e64, el, List.drop_take, List.take_take, List.drop_drop]
 have e1 : 64 * m + 64 = 64 * (m + 1) := by omega
 rw [e1]
 congr 1
 omega)
theorem GI {all : ByteArray} {n : Nat} (ha : all.size = 64 * n) : ∀ d m : Nat, m + d = n → goR d (lc all m n) (goB all m) = goB all n
 | 0, m, h => by
  rw [show n = m by omega]
  rfl
 | d + 1, m, h => by
  have hs : (a6 all ((64 * m : Nat) : Int) ((64 * m + 64 : Nat) : Int)).size = 64 := by
   rw [← nv, lk, List.length_take, List.length_drop, nv, ha, Int.toNat_natCast, Int.toNat_natCast]
   omega
  rw [goR, HR (by omega), HJ ha (by omega), It (uj all m) (BR all m) hs]
  exact GI ha d (m + 1) (by omega)
theorem JO {all : ByteArray} {n : Nat} (ha : all.size = 64 * n) : goR n all dO = goB all n := by
 have := GI ha n 0 (Nat.zero_add n)
 have e : lc all 0 n = all := lj (by
  rw [lA, Nat.mul_zero, List.drop_zero]
  exact List.take_of_length_le (by rw [nv, ha]; omega))
 rw [e] at this
 exact this
end Go.Proofs.YtnakjijahkaoaaaDoor
namespace Go.Proofs.YtnakjijahkaoaaaDoor
open Go Go.RowKit
theorem zN (xs ys : List Int) : aj (xs ++ ys) = aj xs ++ aj ys := lj (by
 rw [ByteArray.data_append, Array.toList_append]
 show ((xs ++ ys).map _).toArray.toList = (xs.map _).toArray.toList ++ (ys.map _).toArray.toList
 rw [List.map_append])
theorem Ht (s : ByteArray) : aj (aK s) = s := lj (by
 show (List.map _ (List.map _ s.data.toList)).toArray.toList = _
 rw [List.map_map]
 show List.map _ s.data.toList = _
 refine (List.map_congr_left fun b _ => ?_).trans (List.map_id _)
 show UInt8.ofNat (Int.toNat (b.toNat : Int)) = b
 rw [Int.toNat_natCast]
 exact UInt8.ofNat_toNat)
theorem CP : ∀ (k : Nat) (l : List Int), mw k l = l ++ List.replicate k 0
 | 0, l => (List.append_nil l).symm
 | k + 1, l => by
  rw [mw, CP k, List.append_assoc, List.replicate_succ]
  rfl
theorem H0 {s : ByteArray} (hs : s.size ≤ 900) : lI s = ((g6 (aK s ++ [128]) : Nat) : Int) := by
 rw [pH (by omega)]
 unfold g6
 rw [List.length_append, eM]
 have : ([128] : List Int).length = 1 := rfl
 rw [this]
 omega
theorem Jo : ∀ n : Nat, n < 8 → C9 n = ((2 ^ (56 - 8 * n) : Nat) : Int) := by decide
theorem Jv {s : ByteArray} (hs : s.size ≤ 900) : oL s = ((8 * s.size : Nat) : Int) := by
 have e : min (Int.toNat 3) (IntKind.bits .u64) = 3 := rfl
 have w : ∀ n : Int, IntKind.wrap .u64 n = n % 18446744073709551616 := fun n => rfl
 unfold oL ax
 rw [e, w, w, show (2 : Int) ^ 3 = 8 from rfl]
 omega
theorem Je {s : ByteArray} (hs : s.size ≤ 900) {i : Nat} (hi : i < 8) : uc s (i : Nat) = aj [ut s i] := by
 have w : ∀ n : Int, IntKind.wrap .u64 n = n % 18446744073709551616 := fun n => rfl
 have w8 : ∀ n : Int, IntKind.wrap .u8 n = n % 256 := fun n => rfl
 have e1 : IntKind.wrap .i64 (8 * IntKind.wrap .i64 (7 - (i : Int))) = ((56 - 8 * i : Nat) : Int) := by
  rw [bp (n := 7 - (i : Int)) (by omega), bp (by omega)]
  omega
 have e2 : min (Int.toNat ((56 - 8 * i : Nat) : Int)) (IntKind.bits .u64) = 56 - 8 * i := by
  have e64 : IntKind.bits .u64 = 64 := rfl
  rw [e64, Int.toNat_natCast]; omega
 have e3 : (2 : Int) ^ (56 - 8 * i) = ((2 ^ (56 - 8 * i) : Nat) : Int) := by rw [Int.natCast_pow]; rfl
 have e4 : IntKind.wrap .u64 (IntKind.wrap .u64 (ax s) * 8) = ((8 * s.size : Nat) : Int) := by
  unfold ax
  rw [w, w]; omega
 have e5 : Int.tdiv ((8 * s.size : Nat) : Int) ((2 ^ (56 - 8 * i) : Nat) : Int) = ((8 * s.size / 2 ^ (56 - 8 * i) : Nat) : Int) := rfl
 have e6 : Int.fdiv ((8 * s.size : Nat) : Int) ((2 ^ (56 - 8 * i) : Nat) : Int) = ((8 * s.size / 2 ^ (56 - 8 * i) : Nat) : Int) := by
  rw [Int.fdiv_eq_ediv_of_nonneg _ (Int.natCast_nonneg _)]; rfl
 have hle : 8 * s.size / 2 ^ (56 - 8 * i) ≤ 7200 := Nat.le_trans (Nat.div_le_self _ _) (by omega)
 have key : IntKind.wrap .u8 (Int.fdiv (oL s) (2 ^ min (Int.toNat (IntKind.wrap .i64 (8 * IntKind.wrap .i64 (7 - (i : Int))))) (IntKind.bits .u64))) = ut s i := by
  unfold ut
  rw [e1, e2, e3, Jv hs, e6, e4, Jo i hi, e5]
  generalize 8 * s.size / 2 ^ (56 - 8 * i) = q at hle
  have e7 : Int.tmod (IntKind.wrap .u64 ((q : Nat) : Int)) 256 = ((q % 256 : Nat) : Int) := by
   rw [w, show ((q : Nat) : Int) % 18446744073709551616 = ((q : Nat) : Int) by omega]
   rfl
  rw [e7, w8, w8]
  omega
 show aj [IntKind.wrap .u8 _] = _
 rw [key]
theorem EQ {s : ByteArray} (hs : s.size ≤ 900) : ∀ i : Nat, i ≤ 8 → oZ s i = aj (mb s i (mw (g6 (aK s ++ [128])) (aK s ++ [128])))
 | 0, _ => by
  show s ++ tg ++ jP bz (lI s) = aj (mw (g6 (aK s ++ [128])) (aK s ++ [128]))
  rw [CP, zN, zN, Ht, H0 hs]
  have e : ∀ k : Nat, jP bz (k : Int) = aj (List.replicate k 0) := fun k => lj (by
   show (Lib.repeatL [0] (Int.toNat (k : Int))).toArray.toList = (List.map _ (List.replicate k (0 : Int))).toArray.toList
   rw [Int.toNat_natCast, List.map_replicate]
   show Lib.repeatL [0] k = List.replicate k 0
   induction k with
   | zero => rfl
   | succ k ih =>
    rw [List.replicate_succ, ← ih]
    rfl)
  rw [e]
  rfl
 | i + 1, hi => by
  show oZ s i ++ uc s (i : Nat) = aj (mb s i _ ++ [ut s i])
  rw [zN, ← EQ hs i (by omega), Je hs (by omega)]
end Go.Proofs.YtnakjijahkaoaaaDoor
namespace Go.Proofs.YtnakjijahkaoaaaDoor
open Go Go.RowKit
theorem uz {h : List Int} {j k a : Nat} (hj : j < 8) (hk : k < 4) (ha : ao h (j : Nat) = (a : Int)) : nE h ((4 * j + k : Nat) : Int) = ((a / 2 ^ (24 - 8 * k) % 256 : Nat) : Int) := by
 have e1 : IntKind.wrap .i64 (Int.tdiv ((4 * j + k : Nat) : Int) 4) = (j : Int) := by
  rw [Int.tdiv_eq_ediv_of_nonneg (Int.natCast_nonneg _), bp (by omega)]
  omega
 have e2 : Int.tmod ((4 * j + k : Nat) : Int) 4 = (k : Int) := by
  rw [Int.tmod_eq_emod_of_nonneg (Int.natCast_nonneg _)]
  omega
 have e3 : IntKind.wrap .i64 (24 - IntKind.wrap .i64 (8 * (k : Int))) = ((24 - 8 * k : Nat) : Int) := by
  rw [bp (n := 8 * (k : Int)) (by omega), bp (by omega)]
  omega
 have e4 : min (Int.toNat ((24 - 8 * k : Nat) : Int)) (IntKind.bits .u32) = 24 - 8 * k := by
  have e32 : IntKind.bits .u32 = 32 := rfl
  rw [e32, Int.toNat_natCast]; omega
 have e5 : (2 : Int) ^ (24 - 8 * k) = ((2 ^ (24 - 8 * k) : Nat) : Int) := by rw [Int.natCast_pow]; rfl
 have w8 : ∀ n : Int, IntKind.wrap .u8 n = n % 256 := fun n => rfl
 unfold nE
 rw [e1, e2, e3, e4, e5, show el (Ty.int IntKind.u32) h (j : Nat) = (a : Int) from ha, Int.fdiv_eq_ediv_of_nonneg _ (Int.natCast_nonneg _), w8]
 rfl
theorem EZ {h : List Int} (hl : h.length = 8) (hw : ∀ x ∈ h, isW x) : ∀ j : Nat, j ≤ 8 → tZ h j = qZ h (4 * j)
 | 0, _ => rfl
 | j + 1, hj => by
  have ih := EZ hl hw j (by omega)
  obtain ⟨a, ha, hlt⟩ := s6 hw (i := j) (by omega)
  have w8 : ∀ n : Int, IntKind.wrap .u8 n = n % 256 := fun n => rfl
  have i0 : IntKind.wrap .i64 (4 * (j : Int)) = ((4 * j : Nat) : Int) := by rw [bp (by omega)]; omega
  have i1 : IntKind.wrap .i64 (((4 * j : Nat) : Int) + 1) = ((4 * j + 1 : Nat) : Int) := by rw [bp (by omega)]; omega
  have i2 : IntKind.wrap .i64 (((4 * j : Nat) : Int) + 2) = ((4 * j + 2 : Nat) : Int) := by rw [bp (by omega)]; omega
  have i3 : IntKind.wrap .i64 (((4 * j : Nat) : Int) + 3) = ((4 * j + 3 : Nat) : Int) := by rw [bp (by omega)]; omega
  have t0 : Int.tdiv (a : Int) 16777216 = ((a / 16777216 : Nat) : Int) := rfl
  have t1 : Int.tdiv (a : Int) 65536 = ((a / 65536 : Nat) : Int) := rfl
  have t2 : Int.tdiv (a : Int) 256 = ((a / 256 : Nat) : Int) := rfl
  have tm : ∀ n : Nat, Int.tmod (n : Int) 256 = ((n % 256 : Nat) : Int) := fun n => rfl
  have q : ∀ n : Nat, n ≤ a → IntKind.wrap .u32 (n : Int) = (n : Int) := fun n h => by rw [cM]; omega
  have o0 := uz (k := 0) (show j < 8 by omega) (by decide) ha
  have o1 := uz (k := 1) (show j < 8 by omega) (by decide) ha
  have o2 := uz (k := 2) (show j < 8 by omega) (by decide) ha
  have o3 := uz (k := 3) (show j < 8 by omega) (by decide) ha
  have v0 : IntKind.wrap .u8 (IntKind.wrap .u32 (Int.tdiv (a : Int) 16777216)) = nE h ((4 * j + 0 : Nat) : Int) := by
   rw [o0, t0, q _ (Nat.div_le_self _ _), w8]; rfl
  have v1 : IntKind.wrap .u8 (Int.tmod (IntKind.wrap .u32 (Int.tdiv (a : Int) 65536)) 256) = nE h ((4 * j + 1 : Nat) : Int) := by
   rw [o1, t1, q _ (Nat.div_le_self _ _), tm, w8, show 2 ^ (24 - 8 * 1) = 65536 from rfl]; omega
  have v2 : IntKind.wrap .u8 (Int.tmod (IntKind.wrap .u32 (Int.tdiv (a : Int) 256)) 256) = nE h ((4 * j + 2 : Nat) : Int) := by
   rw [o2, t2, q _ (Nat.div_le_self _ _), tm, w8, show 2 ^ (24 - 8 * 2) = 256 from rfl]; omega
  have v3 : IntKind.wrap .u8 (Int.tmod (a : Int) 256) = nE h ((4 * j + 3 : Nat) : Int) := by
   rw [o3, tm, w8, show 2 ^ (24 - 8 * 3) = 1 from rfl]; omega
  show stO h (tZ h j) (j : Nat) = bR (Ty.int IntKind.u8) (bR (Ty.int IntKind.u8) (bR (Ty.int IntKind.u8) (bR (Ty.int IntKind.u8) (qZ h (4 * j)) ((4 * j : Nat) : Int) (nE h ((4 * j : Nat) : Int))) ((4 * j + 1 : Nat) : Int) (nE h ((4 * j + 1 : Nat) : Int))) ((4 * j + 2 : Nat) : Int) (nE h ((4 * j + 2 : Nat) : Int))) ((4 * j + 3 : Nat) : Int) (nE h ((4 * j + 3 : Nat) : Int))
  unfold stO
  rw [ih, ha, i0, i1, i2, i3, v0, v1, v2, v3]
  rfl
theorem EE {s : ByteArray} (hs : s.size ≤ 900) : iz s = xC s := by
 have e : aj (jf s) = oZ s 8 := (EQ hs 8 (Nat.le_refl _)).symm
 unfold iz xC
 rw [e, JO (CQ (s := s) (by omega)), EZ (uj _ _) (BR _ _) 8 (Nat.le_refl _)]
end Go.Proofs.YtnakjijahkaoaaaDoor
namespace Go.Proofs.YtnakjijahkaoaaaDoor
open Go Go.RowKit
noncomputable abbrev gi : Fx := { fn := fT, ann := { loops := [(4, { keep := [4, 5, 6, 7] })] }, share := true }
noncomputable abbrev mi : aZ := { D := { T := bc, F := [(jm, jn), (jh, jk)], R := [], ovl := [] }, inl := [] }
noncomputable abbrev xk : bm := .data kR
theorem rc (h_r02_Sum : au prog [] jm jn) (h_r03_Key : au prog [] jh jk) : XOk prog mi := xok (aB (aB (aO aT aE) h_r03_Key) h_r02_Sum) (by kernel_rfl) aG aQ aR
noncomputable def wT (word : den Ty.str) (a : den tId) : ab := ab.req True (ab.all (den Ty.str) (fun (q2 : den Ty.str) ↦ q2 = bt a) fun (q2 : den Ty.str) ↦ ab.req (ByteArray.size word + ByteArray.size q2 ≤ 1099511627776) (ab.req (ByteArray.size (word ++ q2) ≤ 900) (ab.all (den tId) (fun (q3 : den tId) ↦ q3 = iz (word ++ q2)) fun (q3 : den tId) ↦ ab.loop [] gi (lp fT 4) [(4, K.ptr 0 tId []), (5, K.ptr (0 + 1) tId []), (6, K.ptr (0 + 1 + 1) tId []), (7, K.val af 0)] [(0, Bx.cell tId (zero tId)), (0 + 1, Bx.cell tId q3), (0 + 1 + 1, Bx.cell tId (List.replicate 32 (zero (Ty.int IntKind.u8))))])))
theorem Ax (word : den Ty.str) (a : den tId) : al mi xk 5000 [] gi (aA fT) (Env.of (aN ve (word, a, ()) 0) []) = wT word a := by kernel_rfl
noncomputable def su (v7 : den af) (b0 : den tId) (b1 : den tId) (b2 : den tId) : Env := Env.of [(4, K.ptr 0 tId []), (5, K.ptr (0 + 1) tId []), (6, K.ptr (0 + 1 + 1) tId []), (7, K.val af v7)] [(0, Bx.cell tId b0), (1, Bx.cell tId b1), (2, Bx.cell tId b2)]
noncomputable def Ay (v7 : den af) (b0 : den tId) (b1 : den tId) (b2 : den tId) : ab := ab.ite (decide (v7 < 16)) (ab.req (inB v7 (↑32 : Int)) (ab.req (inB v7 (↑32 : Int)) (ab.loop [] gi (lp fT 4) [(4, K.ptr 0 tId []), (5, K.ptr (0 + 1) tId []), (6, K.ptr (0 + 1 + 1) tId []), (7, K.val af (IntKind.wrap IntKind.i64 (v7 + 1)))] [(0, Bx.cell tId b0), (0 + 1, Bx.cell tId b1), (0 + 1 + 1, Bx.cell tId (bR (Ty.int IntKind.u8) b2 v7 (el (Ty.int IntKind.u8) b1 v7)))]))) (ab.ret (K.val (Ty.pair tId Ty.unit) (b2, PUnit.unit)))
theorem nQ (v7 : den af) (b0 : den tId) (b1 : den tId) (b2 : den tId) : al mi xk 5000 [] gi (lp fT 4) (su v7 b0 b1 b2) = Ay v7 b0 b1 b2 := by kernel_rfl
noncomputable abbrev sZ : Fx := { fn := pc, ann := { frz := [(1, [4]), (2, [7])] }, share := true }
noncomputable abbrev vu : aZ := { D := { T := bc, F := [(jm, jn)], R := [], ovl := [] }, inl := [] }
noncomputable abbrev D2 : bm := .data sE
theorem DV (h_r02_Sum : au prog [] jm jn) : XOk prog vu := xok (aB (aO aT aE) h_r02_Sum) (by kernel_rfl) aG aQ aR
noncomputable def vp (secret : den Ty.str) (id : den tId) (host : den af) : ab := ab.req (ByteArray.size { data := { toList := [110, 111, 110, 99, 101] } } + ByteArray.size secret ≤ 1099511627776) (ab.req (bv 0 (↑32 : Int) (↑32 : Int)) (ab.req (ByteArray.size ({ data := { toList := [110, 111, 110, 99, 101] } } ++ secret) + ByteArray.size (aj (bF (Ty.int IntKind.u8) id 0 (↑32 : Int))) ≤ 1099511627776) (ab.req (ByteArray.size ({ data := { toList := [110, 111, 110, 99, 101] } } ++ secret ++ aj (bF (Ty.int IntKind.u8) id 0 (↑32 : Int))) + ByteArray.size (aj (List.set (List.replicate 1 (zero (Ty.int IntKind.u8))) 0 (IntKind.wrap IntKind.u8 host))) ≤ 1099511627776) (ab.req (ByteArray.size ({ data := { toList := [110, 111, 110, 99, 101] } } ++ secret ++ aj (bF (Ty.int IntKind.u8) id 0 (↑32 : Int)) ++ aj (List.set (List.replicate 1 (zero (Ty.int IntKind.u8))) 0 (IntKind.wrap IntKind.u8 host))) ≤ 900) (ab.all (den tId) (fun (q3 : den tId) ↦ q3 = iz ({ data := { toList := [110, 111, 110, 99, 101] } } ++ secret ++ aj (bF (Ty.int IntKind.u8) id 0 (↑32 : Int)) ++ aj (List.set (List.replicate 1 (zero (Ty.int IntKind.u8))) 0 (IntKind.wrap IntKind.u8 host)))) fun (q3 : den tId) ↦ ab.req (bv 0 16 (↑32 : Int)) (ab.ret (K.val (Ty.pair Ty.str Ty.unit) (aj (bF (Ty.int IntKind.u8) (iz ({ data := { toList := [110, 111, 110, 99, 101] } } ++ secret ++ aj (bF (Ty.int IntKind.u8) id 0 (↑32 : Int)) ++ aj (List.set (List.replicate 1 (zero (Ty.int IntKind.u8))) 0 (IntKind.wrap IntKind.u8 host)))) 0 16), PUnit.unit))))))))
theorem zO (secret : den Ty.str) (id : den tId) (host : den af) : al vu D2 5000 [] sZ (aA pc) (Env.of (aN r7 (secret, id, host, ()) 0) []) = vp secret id host := by kernel_rfl
end Go.Proofs.YtnakjijahkaoaaaDoor
namespace Go.Proofs.YtnakjijahkaoaaaDoor
open Go Go.RowKit
theorem GH (a b : ByteArray) : bL [a, b] e0 = a ++ b := by
 rw [qz]
 refine lj ?_
 rw [ByteArray.data_append, Array.toList_append]
 simp
theorem FO (a b c d : ByteArray) : bL [a, b, c, d] e0 = a ++ b ++ c ++ d := by
 rw [qz]
 refine lj ?_
 rw [ByteArray.data_append, ByteArray.data_append, ByteArray.data_append, Array.toList_append, Array.toList_append, Array.toList_append]
 simp
theorem jc (a b : ByteArray) : (a ++ b).size = a.size + b.size := ByteArray.size_append
theorem Hz (a : List Int) : (iv a).size ≤ 16 := by unfold iv; rw [d8]; exact un a 16
def cm (secret : ByteArray) (id : List Int) (host : Int) : ByteArray := aj (bF (.int .u8) (fl (pO secret id host)) 0 16)
noncomputable abbrev mm : bh := ⟨ve, kR, fun x => (dR x.1 x.2.1, ()), fun x => ByteArray.size x.1 ≤ 100, false⟩
noncomputable abbrev k9 : bh := ⟨r7, sE, fun x => (cm x.1 x.2.1 x.2.2.1, ()), fun x => ByteArray.size x.1 ≤ 100, false⟩
def yO (d : List Int) : Nat → List Int
 | 0 => List.replicate 32 (zero (Ty.int IntKind.u8))
 | i + 1 => bR (Ty.int IntKind.u8) (yO d i) (i : Nat) (el (Ty.int IntKind.u8) d (i : Nat))
theorem vY {d : List Int} (hd : d.length = 32) : ∀ i : Nat, i ≤ 32 → yO d i = d.take i ++ List.replicate (32 - i) 0
 | 0, _ => rfl
 | i + 1, hi => by
  have ih := vY hd i (by omega)
  show List.set (yO d i) (Int.toNat (i : Nat)) (el (Ty.int IntKind.u8) d (i : Nat)) = _
  have e : el (Ty.int IntKind.u8) d (i : Nat) = d[i]'(by omega) := kJ (e := .int .u8) (by omega)
  have hl : (d.take i).length = i := by rw [List.length_take]; omega
  rw [ih, Int.toNat_natCast, e, List.set_append_right _ _ (by omega), hl, Nat.sub_self, show 32 - i = (32 - (i + 1)) + 1 by omega, List.replicate_succ, List.set_cons_zero, List.take_succ_eq_append_getElem (by omega), List.append_assoc]
  rfl
theorem Ey (word : ByteArray) (a : List Int) : dR word a = yO (fl [word, iv a]) 16 := by
 have hs := zC [word, iv a]
 rw [vY hs 16 (by decide)]
 unfold dR over bF eJ
 have e0' : Int.toNat 0 = 0 := rfl
 have e32 : Int.toNat 32 = 32 := rfl
 generalize fl [word, iv a] = S at hs
 have hl : (List.take 16 S).length = 16 := by rw [List.length_take, hs]; rfl
 rw [e0', e32, List.drop_zero, List.take_take, List.take_zero, List.nil_append, Nat.min_eq_left (by decide), hl]
 rfl
abbrev GM3 (O : Nat → Prop) (v0 : World) (y : List Int) := bC prog mi (Cx.base O v0) (cN prog O v0 kR fun z => z = (y, ()))
def DE (O : Nat → Prop) (v0 : World) (b0 d y : List Int) (hy : y = yO d 16) :=
 PLift.up <| bP (σ := List Int) 16 (fun i b => b = yO d i)
  (fun i b => GM3 O v0 y [] gi (lp fT 4) (su (i : Nat) b0 d b))
  (fun i b hi hb ih => aI (rc nW oC) (nQ _ b0 d b) (by
   have hB : inB (i : Int) ((32 : Nat) : Int) := ⟨by omega, by omega⟩
   refine ⟨fun _ => ⟨hB, hB, ?_⟩, fun hc => absurd (Int.ofNat_lt.2 hi) (of_decide_eq_false hc)⟩
   rw [da hi (by decide)]
   refine ih _ ?_
   rw [hb]
   rfl))
  (fun b hb => aI (rc nW oC) (nQ _ b0 d b) (by
   refine ⟨fun hc => absurd (of_decide_eq_true hc) (by decide), fun _ => ⟨_, rfl, ?_⟩⟩
   show (b, ()) = (y, ())
   rw [hb, hy]))
theorem F5 : au prog [] mz mm :=
 bw (S := mm) (rc nW oC) (fx := gi) DZ (by kernel_rfl) (fun h => by cases h) (T := fun x => wT x.1 x.2.1) (fun x => Ax x.1 x.2.1) fun O v0 x _ hp => by
  obtain ⟨word, a, ⟨⟩⟩ := x
  have hp : word.size ≤ 100 := hp
  have hk := Hz a
  have hz : (word ++ iv a).size ≤ 900 := by rw [jc]; omega
  refine ⟨trivial, aM ⟨show word.size + (iv a).size ≤ 1099511627776 by omega, hz, aM ?_⟩⟩
  show bC _ _ _ (cN prog O v0 kR fun z => z = (dR word a, ())) _ _ _ _
  have e : iz (word ++ iv a) = fl [word, iv a] := by
   rw [EE hz]
   unfold fl
   rw [GH]
  exact (DE O v0 (zero tId) (iz (word ++ iv a)) (dR word a) (by rw [e]; exact Ey word a)).down 0 _ (Nat.zero_le _) rfl
theorem D4 : au prog [] kP k9 :=
 bw (S := k9) (DV nW) (fx := sZ) CZ (by kernel_rfl) (fun h => by cases h) (T := fun x => vp x.1 x.2.1 x.2.2.1) (fun x => zO x.1 x.2.1 x.2.2.1) fun O v0 x _ hp => by
  obtain ⟨secret, id, host, ⟨⟩⟩ := x
  have hp : secret.size ≤ 100 := hp
  have h1 : ly.size = 5 := rfl
  have h2 : (aj (bF (.int .u8) id 0 32)).size ≤ 32 := by rw [d8]; exact un id 32
  have h3 : (aj [IntKind.wrap .u8 host]).size = 1 := rfl
  have hz : (ly ++ secret ++ aj (bF (.int .u8) id 0 32) ++ aj [IntKind.wrap .u8 host]).size ≤ 900 := by rw [jc, jc, jc]; omega
  have e : iz (ly ++ secret ++ aj (bF (.int .u8) id 0 32) ++ aj [IntKind.wrap .u8 host]) = fl (pO secret id host) := by
   rw [EE hz]
   unfold fl pO
   rw [FO]
  refine ⟨show ly.size + secret.size ≤ 1099511627776 by omega, ⟨by decide, by decide, by decide⟩, show (ly ++ secret).size + (aj (bF (.int .u8) id 0 32)).size ≤ 1099511627776 by rw [jc]; omega, show (ly ++ secret ++ aj (bF (.int .u8) id 0 32)).size + (aj [IntKind.wrap .u8 host]).size ≤ 1099511627776 by rw [jc, jc]; omega, hz, aM ⟨⟨by decide, by decide, by decide⟩, _, rfl, ?_⟩⟩
  show (aj (bF (.int .u8) (iz (ly ++ secret ++ aj (bF (.int .u8) id 0 32) ++ aj [IntKind.wrap .u8 host])) 0 16), ()) = (cm secret id host, ())
  rw [e]
  rfl
end Go.Proofs.YtnakjijahkaoaaaDoor
namespace Go.Proofs.YtnakjijahkaoaaaDoor
open Go Go.RowKit
noncomputable abbrev tI : Fx := { fn := pd, ann := { } }
noncomputable abbrev vF : aZ := { D := { T := bc, F := [(jh, jk), (mz, mm)], R := [], ovl := [] }, inl := [] }
noncomputable abbrev DR : bm := .data sd
theorem DG (h_r03_Key : au prog [] jh jk) (h_r03_Made : au prog [] mz mm) : XOk prog vF := xok (aB (aB (aO aT aE) h_r03_Made) h_r03_Key) (by kernel_rfl) aG aQ aR
noncomputable def vo (a : den tId) (b : den tId) : ab := ab.req True (ab.req (ByteArray.size { data := { toList := [108, 101, 102, 116] } } ≤ 100) (ab.req True (ab.req (cr [(eqb Ty.str (bt b) (bt (dR { data := { toList := [108, 101, 102, 116] } } a)), false)] True) (ab.req (cr [(eqb Ty.str (bt b) (bt (dR { data := { toList := [108, 101, 102, 116] } } a)), false)] (ByteArray.size { data := { toList := [114, 105, 103, 104, 116] } } ≤ 100)) (ab.req (cr [(eqb Ty.str (bt b) (bt (dR { data := { toList := [108, 101, 102, 116] } } a)), false)] True) (ab.ret (K.val (Ty.pair Ty.bool Ty.unit) (bif eqb Ty.str (bt b) (bt (dR { data := { toList := [108, 101, 102, 116] } } a)) then true else eqb Ty.str (bt a) (bt (dR { data := { toList := [114, 105, 103, 104, 116] } } b)), PUnit.unit))))))))
theorem zh (a : den tId) (b : den tId) : al vF DR 5000 [] tI (aA pd) (Env.of (aN sw (a, b, ()) 0) []) = vo a b := by kernel_rfl
end Go.Proofs.YtnakjijahkaoaaaDoor
namespace Go.Proofs.YtnakjijahkaoaaaDoor
open Go Go.RowKit
def gR (a b : List Int) : Bool := bif eqb Ty.str (bt b) (bt (lB a)) then true else eqb Ty.str (bt a) (bt (pN b))
noncomputable abbrev kK : bh := ⟨sw, sd, fun x => (gR x.1 x.2.1, ()), fun _ => True, true⟩
theorem DQ : au prog [] kC kK :=
 bw (S := kK) (DG oC F5) (fx := tI) Ci (by kernel_rfl) (fun _ _ => trivial) (T := fun x => vo x.1 x.2.1) (fun x => zh x.1 x.2.1) fun O v0 x _ _ =>
  ⟨trivial, by decide, trivial, fun _ => trivial, fun _ => (show 5 ≤ 100 by decide), fun _ => trivial, _, rfl, rfl⟩
end Go.Proofs.YtnakjijahkaoaaaDoor
namespace Go.Proofs.YtnakjijahkaoaaaDoor
open Go Go.RowKit
end Go.Proofs.YtnakjijahkaoaaaDoor
namespace Go.Proofs.YtnakjijahkaoaaaDoor
open Go Go.RowKit
def Byt (l : List Int) : Prop := ∀ y ∈ l, 0 ≤ y ∧ y ≤ 255
theorem Kl (n : Int) : 0 ≤ IntKind.wrap .u8 n ∧ IntKind.wrap .u8 n ≤ 255 := by
 have e : IntKind.wrap .u8 n = n % 256 := rfl
 rw [e]
 omega
theorem CM (h : List Int) : ∀ n : Nat, Byt (qZ h n)
 | 0 => fun y hy => by
  rw [List.eq_of_mem_replicate hy]
  decide
 | n + 1 => fun y hy => by
  rcases List.mem_or_eq_of_mem_set hy with hy | rfl
  ·exact CM h n y hy
  ·exact Kl _
theorem BA (w : ByteArray) (a : List Int) : Byt (dR w a) := by
 have hs := zC [w, iv a]
 rw [Ey, vY hs 16 (by decide)]
 intro y hy
 rcases List.mem_append.1 hy with hy | hy
 ·exact CM _ _ y (List.mem_of_mem_take hy)
 ·rw [List.eq_of_mem_replicate hy]
  decide
theorem Ar {a : List Int} (ha : Byt a) : aK (bt a) = cU a := Hq (xs := List.take 16 a) fun y hy => ha y (List.mem_of_mem_take hy)
theorem BV {a b : List Int} (ha : Byt a) (hb : Byt b) : eqb Ty.str (bt a) (bt b) = eqb bT (cU a) (cU b) := by
 rw [Bool.eq_iff_iff, dL (t := .str) rfl, dL (t := bT) rfl]
 refine ⟨fun h => ?_, fun h => ?_⟩
 ·rw [← Ar ha, ← Ar hb, h]
 ·have h : List.take 16 a = List.take 16 b := h
  show aj (List.take 16 a) = aj (List.take 16 b)
  rw [h]
theorem Gh {a b : List Int} (ha : Byt a) (hb : Byt b) : gR a b = gN a b := by
 have h1 : Byt (lB a) := BA _ _
 have h2 : Byt (pN b) := BA _ _
 unfold gR gN
 rw [BV hb h1, BV ha h2]
theorem Gm {s : ByteArray} {a : List Int} {host : Int} (h : ¬ (host < 0 ∨ 16 ≤ host)) (h2 : 64 < s.size) : bj s a host = (e0, 2) := by unfold bj; rw [if_neg h, if_pos h2]
theorem FU {s : ByteArray} {a : List Int} {host : Int} (h : ¬ (host < 0 ∨ 16 ≤ host)) (h2 : ¬ 64 < s.size) : bj s a host = (cm s a host, 0) := by unfold bj; rw [if_neg h, if_neg h2]; rfl
theorem C0 (s : ByteArray) : eqb Ty.str s s = true := (dL (t := .str) rfl _ _).2 rfl
end Go.Proofs.YtnakjijahkaoaaaDoor
namespace Go.Proofs.YtnakjijahkaoaaaDoor
open Go Go.RowKit
def Gd : List ByteArray := [⟨⟨[]⟩⟩, ⟨⟨[115, 110, 100]⟩⟩, ⟨⟨[105, 116, 110]⟩⟩, ⟨⟨[105, 116, 111]⟩⟩, ⟨⟨[105, 116, 110, 111]⟩⟩, ⟨⟨[105, 116]⟩⟩, ⟨⟨[105, 116, 111]⟩⟩, ⟨⟨[105]⟩⟩, ⟨⟨[105, 110]⟩⟩, ⟨⟨[105, 110]⟩⟩, ⟨⟨[105, 110]⟩⟩]
def Gf (k : Int) : ByteArray := el .str Gd k
def bg (k f : Int) : Bool := if k < 1 ∨ 10 < k then false else decide (f ∈ aK (Gf k))
noncomputable abbrev oa : bh := ⟨ym, qR, fun x => (bg x.1 x.2.1, ()), fun _ => True, true⟩
noncomputable abbrev iA : bh := ⟨s5, nF, fun x => (aL x.1, ()), fun x => x.1.2.2.2.1.length ≤ 1000000, false⟩
noncomputable abbrev mg : bh := ⟨vr, pp, fun x => (decide (x.1 = x.2.1), ()), fun _ => True, true⟩
def c7 (a b : Mg) : Bool :=
 bif bif bif bif bif bif decide (a.1 = b.1) then eqb tId a.2.1 b.2.1 else false then eqb ag a.2.2.1 b.2.2.1 else false then decide (a.2.2.2.1 = b.2.2.2.1) else false then decide (a.2.2.2.2.1 = b.2.2.2.2.1) else false then eqb Ty.str a.2.2.2.2.2.1 b.2.2.2.2.2.1 else false then eqb Ty.str a.2.2.2.2.2.2.1 b.2.2.2.2.2.2.1 else false
noncomputable abbrev ml : bh := ⟨vD, uU, fun x => (c7 x.1 x.2.1, ()), fun _ => True, true⟩
def cu (m : Mg) : Bool := bif aL m then (bif (bif decide (m.1 = (2 : Int)) then true else decide (m.1 = (4 : Int))) then true else decide (m.1 = (6 : Int))) else false
noncomputable abbrev k6 : bh := ⟨sW, sI, fun x => (cu x.1, ()), fun x => x.1.2.2.2.1.length ≤ 1000000, false⟩
def bq (secret : ByteArray) (m : Mg) : Int × Mg :=
 if fB m = 1 then (if m.1 = (2 : Int) then (bif gR m.2.1 (fu m).2.1 then (2, fg) else (4, fg)) else (4, fg))
 else if m.1 = (2 : Int) then (1, Bg 3 m.2.1 (fu m) 0 (cm secret m.2.1 (cH m)))
 else bif eqb Ty.str (iH m) (cm secret m.2.1 (cH m)) then (if m.1 = (4 : Int) then (2, fg) else (3, fg)) else (4, fg)
noncomputable abbrev iG : bh := ⟨sG, m4, fun x => (((bq x.1 x.2.1).1, (bq x.1 x.2.1).2, ()), ()), fun x => ByteArray.size x.1 ≤ 100, false⟩
def wk (m : Mg) (now : Int) : Int := if IntKind.wrap .i64 (now + mN m) > 1099511627776 then 1099511627776 else IntKind.wrap .i64 (now + mN m)
def g9 (m : Mg) (now : Int) : den bH := (m.2.1, m.2.2.1, wk m now, ())
noncomputable abbrev iN : bh := ⟨p6, pr, fun x => (g9 x.1 x.2.1, ()), fun _ => True, true⟩
end Go.Proofs.YtnakjijahkaoaaaDoor
namespace Go.Proofs.YtnakjijahkaoaaaDoor
open Go Go.RowKit
noncomputable abbrev g7 : Fx := { fn := gS, ann := { loops := [(5, { keep := [1, 5, 6] })] } }
noncomputable abbrev sk : aZ := { D := { T := bc, F := [], R := [], ovl := [] }, inl := [] }
noncomputable abbrev Af : bm := .data qR
theorem r6 : XOk prog sk := xok ((aO aT aE)) (by kernel_rfl) aG aQ aR
noncomputable def Am (kind : den af) (field : den (Ty.int IntKind.u8)) : ab := ab.ite (bif decide (kind < 1) then true else decide (10 < kind)) (ab.ret (K.val (Ty.pair Ty.bool Ty.unit) (false, PUnit.unit))) (ab.req (inB kind (lnx Ty.str (List.set (List.set (List.set (List.set (List.set (List.set (List.set (List.set (List.set (List.set (List.set (List.replicate 11 (zero Ty.str)) 0 { data := { toList := [] } }) 1 { data := { toList := [115, 110, 100] } }) 2 { data := { toList := [105, 116, 110] } }) 3 { data := { toList := [105, 116, 111] } }) 4 { data := { toList := [105, 116, 110, 111] } }) 5 { data := { toList := [105, 116] } }) 6 { data := { toList := [105, 116, 111] } }) 7 { data := { toList := [105] } }) 8 { data := { toList := [105, 110] } }) 9 { data := { toList := [105, 110] } }) 10 { data := { toList := [105, 110] } }))) (ab.loop [] g7 (lp gS 5) [(1, K.val (Ty.int IntKind.u8) field), (5, K.val Ty.str (el Ty.str (List.set (List.set (List.set (List.set (List.set (List.set (List.set (List.set (List.set (List.set (List.set (List.replicate 11 (zero Ty.str)) 0 { data := { toList := [] } }) 1 { data := { toList := [115, 110, 100] } }) 2 { data := { toList := [105, 116, 110] } }) 3 { data := { toList := [105, 116, 111] } }) 4 { data := { toList := [105, 116, 110, 111] } }) 5 { data := { toList := [105, 116] } }) 6 { data := { toList := [105, 116, 111] } }) 7 { data := { toList := [105] } }) 8 { data := { toList := [105, 110] } }) 9 { data := { toList := [105, 110] } }) 10 { data := { toList := [105, 110] } }) kind)), (6, K.val af 0)] []))
theorem Cu (kind : den af) (field : den (Ty.int IntKind.u8)) : al sk Af 5000 [] g7 (aA gS) (Env.of (aN ym (kind, field, ()) 0) []) = Am kind field := by kernel_rfl
noncomputable def u9 (v1 : den (Ty.int IntKind.u8)) (v5 : den Ty.str) (v6 : den af) : Env := Env.of [(1, K.val (Ty.int IntKind.u8) v1), (5, K.val Ty.str v5), (6, K.val af v6)] []
noncomputable def CY (v1 : den (Ty.int IntKind.u8)) (v5 : den Ty.str) (v6 : den af) : ab := ab.ite (decide (v6 < ax v5)) (ab.req (inB v6 (ax v5)) (ab.ite (decide (sAt v5 v6 = v1)) (ab.ret (K.val (Ty.pair Ty.bool Ty.unit) (true, PUnit.unit))) (ab.loop [] g7 (lp gS 5) [(1, K.val (Ty.int IntKind.u8) v1), (5, K.val Ty.str v5), (6, K.val af (IntKind.wrap IntKind.i64 (v6 + 1)))] []))) (ab.ret (K.val (Ty.pair Ty.bool Ty.unit) (false, PUnit.unit)))
theorem om (v1 : den (Ty.int IntKind.u8)) (v5 : den Ty.str) (v6 : den af) : al sk Af 5000 [] g7 (lp gS 5) (u9 v1 v5 v6) = CY v1 v5 v6 := by kernel_rfl
noncomputable abbrev gh : Fx := { fn := fL, ann := { loops := [(4, { keep := [0, 1, 12, 13] })] } }
noncomputable abbrev l9 : aZ := { D := { T := bc, F := [], R := [], ovl := [] }, inl := [] }
noncomputable abbrev xH : bm := .data pp
theorem qS : XOk prog l9 := xok ((aO aT aE)) (by kernel_rfl) aG aQ aR
noncomputable def xB (a : den (Ty.slc ag)) (b : den (Ty.slc ag)) : ab := ab.ite (!decide (lnx ag a = lnx ag b)) (ab.ret (K.val (Ty.pair Ty.bool Ty.unit) (false, PUnit.unit))) (ab.loop [] gh (lp fL 4) [(0, K.val (Ty.slc ag) a), (1, K.val (Ty.slc ag) b), (12, K.val af (lnx ag a)), (13, K.val af 0)] [])
theorem AE (a : den (Ty.slc ag)) (b : den (Ty.slc ag)) : al l9 xH 5000 [] gh (aA fL) (Env.of (aN vr (a, b, ()) 0) []) = xB a b := by kernel_rfl
noncomputable def s7 (v0 : den (Ty.slc ag)) (v1 : den (Ty.slc ag)) (v12 : den af) (v13 : den af) : Env := Env.of [(0, K.val (Ty.slc ag) v0), (1, K.val (Ty.slc ag) v1), (12, K.val af v12), (13, K.val af v13)] []
noncomputable def A1 (v0 : den (Ty.slc ag)) (v1 : den (Ty.slc ag)) (v12 : den af) (v13 : den af) : ab := ab.ite (decide (v13 < v12)) (ab.req (inB v13 (lnx ag v0)) (ab.req (inB v13 (lnx ag v1)) (ab.ite (!eqb ag (el ag v0 v13) (el ag v1 v13)) (ab.ret (K.val (Ty.pair Ty.bool Ty.unit) (false, PUnit.unit))) (ab.loop [] gh (lp fL 4) [(0, K.val (Ty.slc ag) v0), (1, K.val (Ty.slc ag) v1), (12, K.val af v12), (13, K.val af (IntKind.wrap IntKind.i64 (v13 + 1)))] [])))) (ab.ret (K.val (Ty.pair Ty.bool Ty.unit) (true, PUnit.unit)))
theorem nj (v0 : den (Ty.slc ag)) (v1 : den (Ty.slc ag)) (v12 : den af) (v13 : den af) : al l9 xH 5000 [] gh (lp fL 4) (s7 v0 v1 v12 v13) = A1 v0 v1 v12 v13 := by kernel_rfl
noncomputable abbrev vm : Fx := { fn := qB, ann := { }, share := true }
noncomputable abbrev xz : aZ := { D := { T := bc, F := [(ma, mg)], R := [], ovl := [] }, inl := [] }
noncomputable abbrev Fq : bm := .data uU
theorem E7 (h_r04_Same : au prog [] ma mg) : XOk prog xz := xok (aB (aO aT aE) h_r04_Same) (by kernel_rfl) aG aQ aR
noncomputable def xZ (a : den aD) (b : den aD) : ab := ab.req (cr [(bif bif decide (Prod.fst a = Prod.fst b) then eqb tId (Prod.fst (Prod.snd a)) (Prod.fst (Prod.snd b)) else false then eqb ag (Prod.fst (Prod.snd (Prod.snd a))) (Prod.fst (Prod.snd (Prod.snd b))) else false, true)] True) (ab.ret (K.val (Ty.pair Ty.bool Ty.unit) (bif bif bif bif bif bif decide (Prod.fst a = Prod.fst b) then eqb tId (Prod.fst (Prod.snd a)) (Prod.fst (Prod.snd b)) else false then eqb ag (Prod.fst (Prod.snd (Prod.snd a))) (Prod.fst (Prod.snd (Prod.snd b))) else false then decide (Prod.fst (Prod.snd (Prod.snd (Prod.snd a))) = Prod.fst (Prod.snd (Prod.snd (Prod.snd b)))) else false then decide (Prod.fst (Prod.snd (Prod.snd (Prod.snd (Prod.snd a)))) = Prod.fst (Prod.snd (Prod.snd (Prod.snd (Prod.snd b))))) else false then eqb Ty.str (Prod.fst (Prod.snd (Prod.snd (Prod.snd (Prod.snd (Prod.snd a)))))) (Prod.fst (Prod.snd (Prod.snd (Prod.snd (Prod.snd (Prod.snd b)))))) else false then eqb Ty.str (Prod.fst (Prod.snd (Prod.snd (Prod.snd (Prod.snd (Prod.snd (Prod.snd a))))))) (Prod.fst (Prod.snd (Prod.snd (Prod.snd (Prod.snd (Prod.snd (Prod.snd b))))))) else false, PUnit.unit)))
theorem AU (a : den aD) (b : den aD) : al xz Fq 5000 [] vm (aA qB) (Env.of (aN vD (a, b, ()) 0) []) = xZ a b := by kernel_rfl
noncomputable abbrev sA : Fx := { fn := oY, ann := { frz := [(4, [3])] }, share := true }
noncomputable abbrev u6 : aZ := { D := { T := bc, F := [(n8, oa), (ku, m8), (kA, kQ)], R := [], ovl := [] }, inl := [] }
noncomputable abbrev DX : bm := .data nF
theorem Do (h_r05_has : au prog [] n8 oa) (h_r04_Is : au prog [] ku m8) (h_r04_Right : au prog [] kA kQ) : XOk prog u6 := xok (aB (aB (aB (aO aT aE) h_r04_Right) h_r04_Is) h_r05_has) (by kernel_rfl) aG aQ aR
noncomputable def vg (m : den aD) : ab := ab.ite (bif bif bif bif decide (Prod.fst m < 1) then true else decide (10 < Prod.fst m) then true else decide (Prod.fst (Prod.snd (Prod.snd (Prod.snd (Prod.snd m)))) < 0) then true else decide (1099511627776 < Prod.fst (Prod.snd (Prod.snd (Prod.snd (Prod.snd m))))) then true else decide (64 < ax (Prod.fst (Prod.snd (Prod.snd (Prod.snd (Prod.snd (Prod.snd (Prod.snd m))))))))) (ab.ret (K.val (Ty.pair Ty.bool Ty.unit) (false, PUnit.unit))) (ab.req True (ab.all (den Ty.bool) (fun (q1 : den Ty.bool) ↦ q1 = bg (Prod.fst m) 105) fun (q1 : den Ty.bool) ↦ ab.req (cr [(bif !q1 then !eqb tId (Prod.fst (Prod.snd m)) (zero tId) else false, false)] True) (ab.req (cr [(bif bif !q1 then !eqb tId (Prod.fst (Prod.snd m)) (zero tId) else false then true else bif !bg (Prod.fst m) 116 then !eqb ag (Prod.fst (Prod.snd (Prod.snd m))) (zero ag) else false, false)] True) (ab.ite (bif bif bif !q1 then !eqb tId (Prod.fst (Prod.snd m)) (zero tId) else false then true else bif !bg (Prod.fst m) 116 then !eqb ag (Prod.fst (Prod.snd (Prod.snd m))) (zero ag) else false then true else bif !bg (Prod.fst m) 115 then decide (0 < lnx ag (Prod.fst (Prod.snd (Prod.snd (Prod.snd m))))) else false) (ab.ret (K.val (Ty.pair Ty.bool Ty.unit) (false, PUnit.unit))) (ab.req True (ab.all (den Ty.bool) (fun (q2 : den Ty.bool) ↦ q2 = bg (Prod.fst m) 110) fun (q2 : den Ty.bool) ↦ ab.req (cr [(bif !q2 then !decide (Prod.fst (Prod.snd (Prod.snd (Prod.snd (Prod.snd m)))) = 0) else false, false)] True) (ab.ite (bif bif !q2 then !decide (Prod.fst (Prod.snd (Prod.snd (Prod.snd (Prod.snd m)))) = 0) else false then true else bif !bg (Prod.fst m) 100 then !eqb Ty.str (Prod.fst (Prod.snd (Prod.snd (Prod.snd (Prod.snd (Prod.snd (Prod.snd m))))))) { data := { toList := [] } } else false) (ab.ret (K.val (Ty.pair Ty.bool Ty.unit) (false, PUnit.unit))) (ab.req True (ab.all (den Ty.bool) (fun (q3 : den Ty.bool) ↦ q3 = bg (Prod.fst m) 116) fun (q3 : den Ty.bool) ↦ ab.req (cr [(q3, true)] True) (ab.req (cr [(bif q3 then !dF (Prod.fst (Prod.snd (Prod.snd m))) else false, false)] True) (ab.req (cr [(bif q3 then !dF (Prod.fst (Prod.snd (Prod.snd m))) else false, false), (bg (Prod.fst m) 115, true)] (List.length (Prod.fst (Prod.snd (Prod.snd (Prod.snd m)))) ≤ 1000000)) (ab.ite (bif bif q3 then !dF (Prod.fst (Prod.snd (Prod.snd m))) else false then true else bif bg (Prod.fst m) 115 then !cx (Prod.fst (Prod.snd (Prod.snd (Prod.snd m)))) else false) (ab.ret (K.val (Ty.pair Ty.bool Ty.unit) (false, PUnit.unit))) (ab.req True (ab.all (den Ty.bool) (fun (q4 : den Ty.bool) ↦ q4 = bg (Prod.fst m) 111) fun (q4 : den Ty.bool) ↦ ab.ite q4 (ab.ret (K.val (Ty.pair Ty.bool Ty.unit) (decide (ax (Prod.fst (Prod.snd (Prod.snd (Prod.snd (Prod.snd (Prod.snd m)))))) = 16), PUnit.unit))) (ab.ret (K.val (Ty.pair Ty.bool Ty.unit) (eqb Ty.str (Prod.fst (Prod.snd (Prod.snd (Prod.snd (Prod.snd (Prod.snd m)))))) { data := { toList := [] } }, PUnit.unit)))))))))))))))))
theorem zM (m : den aD) : al u6 DX 5000 [] sA (aA oY) (Env.of (aN s5 (m, ()) 0) []) = vg m := by kernel_rfl
noncomputable abbrev th : Fx := { fn := oS, ann := { }, share := true }
noncomputable abbrev vB : aZ := { D := { T := bc, F := [(kF, iA)], R := [], ovl := [] }, inl := [] }
noncomputable abbrev Em : bm := .data sI
theorem Dv (h_r05_Right : au prog [] kF iA) : XOk prog vB := xok (aB (aO aT aE) h_r05_Right) (by kernel_rfl) aG aQ aR
noncomputable def vH (m : den aD) : ab := ab.req (List.length (Prod.fst (Prod.snd (Prod.snd (Prod.snd m)))) ≤ 1000000) (ab.all (den Ty.bool) (fun (q1 : den Ty.bool) ↦ q1 = aL m) fun (q1 : den Ty.bool) ↦ ab.ret (K.val (Ty.pair Ty.bool Ty.unit) (bif q1 then bif bif decide (Prod.fst m = 2) then true else decide (Prod.fst m = 4) then true else decide (Prod.fst m = 6) else false, PUnit.unit)))
theorem yX (m : den aD) : al vB Em 5000 [] th (aA oS) (Env.of (aN sW (m, ()) 0) []) = vH m := by kernel_rfl
noncomputable abbrev tN : Fx := { fn := o6, ann := { }, share := true }
noncomputable abbrev uO : aZ := { D := { T := bc, F := [(kC, kK), (kP, k9)], R := [], ovl := [] }, inl := [] }
noncomputable abbrev Dx : bm := .data m4
theorem DD (h_r03_Links : au prog [] kC kK) (h_r03_Nonce : au prog [] kP k9) : XOk prog uO := xok (aB (aB (aO aT aE) h_r03_Nonce) h_r03_Links) (by kernel_rfl) aG aQ aR
noncomputable def vq (secret : den Ty.str) (m : den aD) : ab := ab.ite (decide (Prod.fst (Prod.fst (Prod.snd (Prod.snd m))) = 1)) (ab.req (cr [(decide (Prod.fst m = 2), true)] True) (ab.ite (bif decide (Prod.fst m = 2) then gR (Prod.fst (Prod.snd m)) (Prod.fst (Prod.snd (Prod.fst (Prod.snd (Prod.snd m))))) else false) (ab.ret (K.val (Ty.pair ar Ty.unit) ((2, zero (Ty.pair aD Ty.unit)), PUnit.unit))) (ab.ret (K.val (Ty.pair ar Ty.unit) ((4, zero (Ty.pair aD Ty.unit)), PUnit.unit))))) (ab.req (ByteArray.size secret ≤ 100) (ab.all (den Ty.str) (fun (q2 : den Ty.str) ↦ q2 = cm secret (Prod.fst (Prod.snd m)) (Prod.fst (Prod.snd (Prod.snd (Prod.fst (Prod.snd (Prod.snd m))))))) fun (q2 : den Ty.str) ↦ ab.ite (decide (Prod.fst m = 2)) (ab.ret (K.val (Ty.pair ar Ty.unit) ((1, (3, Prod.fst (Prod.snd m), Prod.fst (Prod.snd (Prod.snd m)), zero (Ty.slc ag), zero af, q2, zero (Ty.pair Ty.str Ty.unit)), zero Ty.unit), PUnit.unit))) (ab.ite (!eqb Ty.str (Prod.fst (Prod.snd (Prod.snd (Prod.snd (Prod.snd (Prod.snd m)))))) q2) (ab.ret (K.val (Ty.pair ar Ty.unit) ((4, zero (Ty.pair aD Ty.unit)), PUnit.unit))) (ab.ite (decide (Prod.fst m = 4)) (ab.ret (K.val (Ty.pair ar Ty.unit) ((2, zero (Ty.pair aD Ty.unit)), PUnit.unit))) (ab.ret (K.val (Ty.pair ar Ty.unit) ((3, zero (Ty.pair aD Ty.unit)), PUnit.unit)))))))
theorem zD (secret : den Ty.str) (m : den aD) : al uO Dx 5000 [] tN (aA o6) (Env.of (aN sG (secret, m, ()) 0) []) = vq secret m := by kernel_rfl
noncomputable abbrev qi : Fx := { fn := lF, ann := { } }
noncomputable abbrev ri : aZ := { D := { T := bc, F := [], R := [], ovl := [] }, inl := [] }
noncomputable abbrev AJ : bm := .data pr
theorem AW : XOk prog ri := xok ((aO aT aE)) (by kernel_rfl) aG aQ aR
noncomputable def rJ (m : den aD) (now : den af) : ab := ab.ite (decide (1099511627776 < IntKind.wrap IntKind.i64 (now + Prod.fst (Prod.snd (Prod.snd (Prod.snd (Prod.snd m))))))) (ab.ret (K.val (Ty.pair bH Ty.unit) ((Prod.fst (Prod.snd m), Prod.fst (Prod.snd (Prod.snd m)), 1099511627776, zero Ty.unit), PUnit.unit))) (ab.ret (K.val (Ty.pair bH Ty.unit) ((Prod.fst (Prod.snd m), Prod.fst (Prod.snd (Prod.snd m)), IntKind.wrap IntKind.i64 (now + Prod.fst (Prod.snd (Prod.snd (Prod.snd (Prod.snd m))))), zero Ty.unit), PUnit.unit)))
theorem wl (m : den aD) (now : den af) : al ri AJ 5000 [] qi (aA lF) (Env.of (aN p6 (m, now, ()) 0) []) = rJ m now := by kernel_rfl
end Go.Proofs.YtnakjijahkaoaaaDoor
namespace Go.Proofs.YtnakjijahkaoaaaDoor
open Go Go.RowKit
theorem E3 (x y : den ag) : eqb ag x y = decide (x = y) := by
 have := dL (t := ag) rfl x y
 cases h : eqb ag x y
 ·have : ¬ x = y := fun e => by rw [this.2 e] at h; cases h
  simp [this]
 ·simp [this.1 h]
theorem G2 {s : ByteArray} {i : Nat} (h : i < (aK s).length) : (aK s)[i] = sAt s (i : Nat) := by
 have h' : i < s.data.size := by simpa [aK] using h
 have e : (aK s)[i]? = some (sAt s (i : Nat)) := by
  unfold aK sAt
  rw [List.getElem?_map, Int.toNat_natCast, Array.getElem?_toList, Array.getElem?_eq_getElem h']
  rfl
 rw [List.getElem?_eq_getElem h] at e
 exact Option.some.inj e
def FR (O : Nat → Prop) (v0 : World) (f : Int) (s : ByteArray) (hs : s.size ≤ 10) :=
 PLift.up <| bP (σ := Unit) s.size (fun i _ => f ∉ (aK s).take i)
  (fun i _ => Ku O v0 (decide (f ∈ aK s)) [] g7 (lp gS 5) (u9 f s (i : Nat)))
  (fun i _ hi hf ih => aI r6 (om f s _) (by
   have hl : i < (aK s).length := by rw [dM]; exact hi
   have ht : (aK s).take (i + 1) = (aK s).take i ++ [sAt s (i : Nat)] := by rw [List.take_succ_eq_append_getElem hl, G2 hl]
   refine ⟨fun _ => ⟨⟨Int.natCast_nonneg _, Int.ofNat_lt.2 hi⟩, fun hc => ⟨_, rfl, ?_⟩, fun hc => ?_⟩, fun hc => absurd (show (i : Int) < ax s from Int.ofNat_lt.2 hi) (of_decide_eq_false hc)⟩
   ·have hc : sAt s (i : Nat) = f := of_decide_eq_true hc
    have : f ∈ aK s := List.mem_of_mem_take (i := i + 1) (by rw [ht, hc]; exact List.mem_append.2 (.inr List.mem_cons_self))
    rw [decide_eq_true this]
   ·have hc : ¬ sAt s (i : Nat) = f := of_decide_eq_false hc
    rw [da hi (by omega)]
    refine ih () fun hm => ?_
    rw [ht] at hm
    rcases List.mem_append.1 hm with hm | hm
    ·exact hf hm
    ·exact hc (List.mem_singleton.1 hm).symm))
  (fun _ hf => aI r6 (om f s _) (by
   refine ⟨fun hc => absurd (of_decide_eq_true hc) (Int.lt_irrefl _), fun _ => ⟨_, rfl, ?_⟩⟩
   rw [← dM, List.take_length] at hf
   rw [decide_eq_false hf]))
theorem Hd (k : Int) : (Gf k).size ≤ 10 := by
 unfold Gf el
 generalize Int.toNat k = n
 have h : ∀ x ∈ Gd, x.size ≤ 10 := by decide
 rw [List.getD_eq_getElem?_getD]
 cases e : Gd[n]? with
 | none => exact Nat.zero_le _
 | some x => exact h x (List.mem_of_getElem? e)
theorem J3 (k : Int) (h : ¬ (k < 1 ∨ 10 < k)) : 0 ≤ k ∧ k < 11 := by omega
theorem HX {k j : Int} (h : k < 1 ∨ 10 < k) (hj : 1 ≤ j ∧ j ≤ 10) : k ≠ j := by omega
theorem Ho : au prog [] n8 oa :=
 bw (S := oa) r6 (fx := g7) Fh (by kernel_rfl) (fun _ _ => trivial) (T := fun x => Am x.1 x.2.1) (fun x => Cu x.1 x.2.1) fun O v0 x _ _ => by
  obtain ⟨k, f, ⟨⟩⟩ := x
  have e : ∀ {b : Bool}, (b = true ↔ (k < 1 ∨ 10 < k)) → b = decide (k < 1 ∨ 10 < k) := fun {b} h => by
   cases b
   ·exact (decide_eq_false fun h' => by have := h.2 h'; cases this).symm
   ·exact (decide_eq_true (h.1 rfl)).symm
  have hb : ∀ k : Int, ((bif decide (k < 1) then true else decide (10 < k)) = true) ↔ (k < 1 ∨ 10 < k) := fun k => by
   by_cases h0 : k < 1
   ·rw [decide_eq_true h0]; simp [h0]
   ·rw [decide_eq_false h0]; simp [h0]
  refine ⟨fun h => ⟨_, rfl, ?_⟩, fun h => ⟨?_, ?_⟩⟩
  ·show (false, ()) = (bg k f, ())
   unfold bg
   rw [if_pos ((hb k).1 h)]
  ·have h : ¬ (k < 1 ∨ 10 < k) := fun h' => by rw [(hb k).2 h'] at h; cases h
   exact J3 k h
  ·have h : ¬ (k < 1 ∨ 10 < k) := fun h' => by rw [(hb k).2 h'] at h; cases h
   show bC _ _ _ (cN prog O v0 qR fun z => z = (bg k f, ())) _ _ _ _
   unfold bg
   rw [if_neg h]
   exact (FR O v0 f (Gf k) (Hd k)).down 0 () (Nat.zero_le _) (by rw [List.take_zero]; exact List.not_mem_nil)
abbrev Kv (O : Nat → Prop) (v0 : World) (y : Bool) := bC prog l9 (Cx.base O v0) (cN prog O v0 pp fun z => z = (y, ()))
def Ek (O : Nat → Prop) (v0 : World) (a b : List (den ag)) (hl : a.length = b.length) (hm : a.length ≤ maxLen) :=
 PLift.up <| bP (σ := Unit) a.length (fun i _ => a.take i = b.take i)
  (fun i _ => Kv O v0 (decide (a = b)) [] gh (lp fL 4) (s7 a b (lnx ag a) (i : Nat)))
  (fun i _ hi hs ih => aI qS (nj a b _ _) (by
   have hi' : i < b.length := by omega
   refine ⟨fun _ => ⟨gH hi, gH hi', ?_⟩, fun hc => absurd hi (by rw [pK] at hc; exact of_decide_eq_false hc)⟩
   rw [kJ hi, kJ hi', da hi hm, E3]
   refine ⟨fun h => ⟨_, rfl, ?_⟩, fun h => ih () ?_⟩
   ·have h : ¬ a[i] = b[i] := by simpa using h
    rw [decide_eq_false (fun e : a = b => h (by subst e; rfl))]
   ·have h : a[i] = b[i] := by simpa using h
    rw [List.take_succ_eq_append_getElem hi, List.take_succ_eq_append_getElem hi', hs, h]))
  (fun _ hs => aI qS (nj a b _ _) (by
   refine ⟨fun hc => absurd (of_decide_eq_true hc) (Int.lt_irrefl _), fun _ => ⟨_, rfl, ?_⟩⟩
   rw [List.take_length, hl, List.take_length] at hs
   rw [decide_eq_true hs]))
theorem FP : au prog [] ma mg :=
  bw (S := mg) qS (fx := gh) Eu (by kernel_rfl) (fun _ _ => trivial) (T := fun x => xB x.1 x.2.1) (fun x => AE x.1 x.2.1) fun O v0 x hk _ => by
    refine ⟨fun h => ⟨_, rfl, ?_⟩, fun h => ?_⟩
    · have h : ¬ (x.1.length : Int) = (x.2.1.length : Int) := by
        have h : (!decide (lnx ag x.1 = lnx ag x.2.1)) = true := h
        simp only [Bool.not_eq_true', decide_eq_false_iff_not] at h
        exact h
      have : ¬ x.1 = x.2.1 := fun e => h (by rw [e])
      simp [this]
    · have h : (x.1.length : Int) = (x.2.1.length : Int) := by
        have h : (!decide (lnx ag x.1 = lnx ag x.2.1)) = false := h
        simp only [Bool.not_eq_false', decide_eq_true_eq] at h
        exact h
      exact (Ek O v0 x.1 x.2.1 (by omega) hk.1.1).down 0 () (Nat.zero_le _) rfl
theorem FM : au prog [] mn ml :=
 bw (S := ml) (E7 FP) (fx := vm) DN (by kernel_rfl) (fun _ _ => trivial) (T := fun x => xZ x.1 x.2.1) (fun x => AU x.1 x.2.1) fun O v0 x _ _ =>
  ⟨fun _ => trivial, _, rfl, rfl⟩
theorem jj (m : Mg) : c7 m m = true := by
 unfold c7
 rw [decide_eq_true rfl, decide_eq_true rfl, decide_eq_true rfl, C0, C0, E3, decide_eq_true rfl, J8, decide_eq_true rfl]
 rfl
theorem GP {k : Int} (h : ¬ (k < 1 ∨ 10 < k)) : bZ cj k = true ∧ cw cj k = (bg k 105, bg k 116, bg k 115, bg k 110, bg k 111, bg k 100, ()) := by
 have : k = 1 ∨ k = 2 ∨ k = 3 ∨ k = 4 ∨ k = 5 ∨ k = 6 ∨ k = 7 ∨ k = 8 ∨ k = 9 ∨ k = 10 := by omega
 rcases this with rfl | rfl | rfl | rfl | rfl | rfl | rfl | rfl | rfl | rfl <;> exact ⟨rfl, by kernel_rfl⟩
theorem FA {k : Int} (h : k < 1 ∨ 10 < k) : bZ cj k = false := by
 have e : ∀ j : Int, k ≠ j → ¬ eqb af k j = true := fun j h h' => h (of_decide_eq_true h')
 unfold bZ js cj
 rw [List.find?_eq_none.2 (fun q hq => ?_)]
 ·rfl
 ·have hin : ∀ q ∈ cj, (1 : Int) ≤ q.1 ∧ (q.1 : Int) ≤ 10 := by decide
  exact e _ (HX h (hin q hq))
theorem FK (fi ft fs fn fo fd A B I L S Z M X O E D T : Bool) (h1 : I = true → B = false) (h2 : S = true → L = true) (h3 : D = true → T = false) :
    (bif bif bif M then true else X then true else T then false else
     bif bif bif bif !fi then !A else false then true else bif !ft then !B else false then true else bif !fs then L else false then false else
     bif bif bif !fn then !Z else false then true else bif !fd then !D else false then false else
     bif bif bif ft then !I else false then true else bif fs then !S else false then false else
     bif fo then O else E) =
    (bif (bif !fi then !A else false) then false else bif !(ft == !B) then false else bif (bif ft then !I else false) then false else bif !(fs == L) then false else bif (bif fs then !S else false) then false else
      bif (bif !fn then !Z else false) then false else bif M then false else bif X then false else bif (bif fo then !O else false) then false else bif (bif !fo then !E else false) then false else
      bif D then true else bif fd then !T else false) := by
  cases fi <;> cases ft <;> cases fs <;> cases fn <;> cases fo <;> cases fd <;> simp only [Bool.cond_true, Bool.cond_false, Bool.not_true, Bool.not_false] <;> grind (splits := 30)
def FQ (m : Mg) : Bool :=
 bif bif bif (bif bif decide (m.1 < 1) then true else decide (10 < m.1) then true else decide (mN m < 0)) then true else decide (1099511627776 < mN m) then true else decide (64 < ax m.2.2.2.2.2.2.1) then false else
 bif bif bif bif !bg m.1 105 then !eqb tId m.2.1 (zero tId) else false then true else bif !bg m.1 116 then !eqb ag m.2.2.1 ur else false then true else bif !bg m.1 115 then decide (0 < lnx ag m.2.2.2.1) else false then false else
 bif bif bif !bg m.1 110 then !decide (mN m = 0) else false then true else bif !bg m.1 100 then !eqb Ty.str m.2.2.2.2.2.2.1 ⟨⟨[]⟩⟩ else false then false else
 bif bif bif bg m.1 116 then !dF m.2.2.1 else false then true else bif bg m.1 115 then !cx m.2.2.2.1 else false then false else
 bif bg m.1 111 then decide (ax m.2.2.2.2.2.1 = 16) else eqb Ty.str m.2.2.2.2.2.1 ⟨⟨[]⟩⟩
theorem J1 {s t : ByteArray} : eqb Ty.str s t = true ↔ s = t := dL (t := .str) rfl s t
theorem JW (m : Mg) : FQ m = aL m := by
  by_cases hk : m.1 < 1 ∨ 10 < m.1
  · have e1 : (bif decide (m.1 < 1) then true else decide (10 < m.1)) = true := by
      by_cases h0 : m.1 < 1
      · rw [decide_eq_true h0]; rfl
      · rw [decide_eq_false h0, decide_eq_true (hk.resolve_left h0)]; rfl
    have e2 : w0 m = true := by unfold w0; rw [FA hk]; rfl
    simp only [FQ, aL, e1, e2, cond_true]
  · obtain ⟨e1, e2⟩ := GP hk
    have e3 : (bif decide (m.1 < 1) then true else decide (10 < m.1)) = false := by
      rw [decide_eq_false (fun h => hk (.inl h)), decide_eq_false (fun h => hk (.inr h))]; rfl
    have e4 : w0 m = false := by unfold w0; rw [e1]; rfl
    have e5 : mf m = (bg m.1 105, bg m.1 116, bg m.1 115, bg m.1 110, bg m.1 111, bg m.1 100, ()) := e2
    have h1 : dF m.2.2.1 = true → eqb ag m.2.2.1 ur = false := fun h => by
      cases hz : eqb ag m.2.2.1 ur with
      | false => rfl
      | true =>
        have : m.2.2.1 = ur := (dL (t := ag) rfl _ _).1 hz
        rw [this] at h
        exact absurd h (by decide)
    have h2 : cx m.2.2.2.1 = true → decide (0 < lnx ag m.2.2.2.1) = true := fun h => by
      unfold cx at h
      simp only [Bool.and_eq_true, decide_eq_true_eq] at h
      refine decide_eq_true ?_
      show (0 : Int) < (m.2.2.2.1.length : Int)
      have := h.1.1
      omega
    have h3 : eqb Ty.str m.2.2.2.2.2.2.1 ⟨⟨[]⟩⟩ = true → decide (64 < ax m.2.2.2.2.2.2.1) = false := fun h => by
      rw [J1.1 h]
      rfl
    have key := FK (bg m.1 105) (bg m.1 116) (bg m.1 115) (bg m.1 110) (bg m.1 111) (bg m.1 100) (eqb tId m.2.1 (zero tId)) (eqb ag m.2.2.1 ur) (dF m.2.2.1) (decide (0 < lnx ag m.2.2.2.1)) (cx m.2.2.2.1) (decide (mN m = 0)) (decide (mN m < 0)) (decide (1099511627776 < mN m)) (decide (ax m.2.2.2.2.2.1 = 16)) (eqb Ty.str m.2.2.2.2.2.1 ⟨⟨[]⟩⟩) (eqb Ty.str m.2.2.2.2.2.2.1 ⟨⟨[]⟩⟩) (decide (64 < ax m.2.2.2.2.2.2.1)) h1 h2 h3
    have e6 : w11 m = (bif eqb Ty.str m.2.2.2.2.2.2.1 ⟨⟨[]⟩⟩ then true else bif bg m.1 100 then !decide (64 < ax m.2.2.2.2.2.2.1) else false) := by
      unfold w11
      rw [e5]
      have : decide (ax m.2.2.2.2.2.2.1 ≤ 64) = !decide (64 < ax m.2.2.2.2.2.2.1) := by
        rw [Bool.eq_iff_iff]
        simp only [decide_eq_true_eq, Bool.not_eq_true', decide_eq_false_iff_not]
        omega
      rw [this]
    refine Eq.trans ?_ (key.trans ?_)
    · unfold FQ
      rw [e3]
      rfl
    unfold aL
    rw [e4, e6]
    unfold w1 w2 w3 w4 w5 w6 w7 w8 w9 w10
    rw [e5]
    rfl
theorem Ev : au prog [] kF iA :=
 bw (S := iA) (Do Ho qC Er) (fx := sA) Dg (by kernel_rfl) (fun h => by cases h) (T := fun x => vg x.1) (fun x => zM x.1) fun O v0 x _ hp => by
  obtain ⟨m, ⟨⟩⟩ := x
  have hp : m.2.2.2.1.length ≤ 1000000 := hp
  have leaf : ∀ {b : Bool}, FQ m = b → ∃ z, be nF (K.val (Ty.pair Ty.bool Ty.unit) (b, ())) = some z ∧ z = iA.g (m, ()) := fun {b} e => ⟨_, rfl, by show (b, ()) = (aL m, ()); rw [← JW, e]⟩
  refine ⟨fun h => leaf ?_, fun h0 => ⟨trivial, aM ⟨fun _ => trivial, fun _ => trivial, fun h => leaf ?_, fun h1 => ⟨trivial, aM ⟨fun _ => trivial, fun h => leaf ?_, fun h2 => ⟨trivial, aM ⟨fun _ => trivial, fun _ => trivial, fun _ _ => hp, fun h => leaf ?_, fun h3 => ⟨trivial, aM ⟨fun h => leaf ?_, fun h => leaf ?_⟩⟩⟩⟩⟩⟩⟩⟩⟩
  ·exact (congrArg (fun b => bif b then false else _) h)
  ·exact (congrArg (fun b => bif b then false else _) h0).trans (congrArg (fun b => bif b then false else _) h)
  ·exact (congrArg (fun b => bif b then false else _) h0).trans ((congrArg (fun b => bif b then false else _) h1).trans (congrArg (fun b => bif b then false else _) h))
  ·exact (congrArg (fun b => bif b then false else _) h0).trans ((congrArg (fun b => bif b then false else _) h1).trans ((congrArg (fun b => bif b then false else _) h2).trans (congrArg (fun b => bif b then false else _) h)))
  ·exact (congrArg (fun b => bif b then false else _) h0).trans ((congrArg (fun b => bif b then false else _) h1).trans ((congrArg (fun b => bif b then false else _) h2).trans ((congrArg (fun b => bif b then false else _) h3).trans (congrArg (fun b => bif b then _ else _) h))))
  ·exact (congrArg (fun b => bif b then false else _) h0).trans ((congrArg (fun b => bif b then false else _) h1).trans ((congrArg (fun b => bif b then false else _) h2).trans ((congrArg (fun b => bif b then false else _) h3).trans (congrArg (fun b => bif b then _ else _) h))))
theorem Ds : au prog [] kM k6 :=
 bw (S := k6) (Dv Ev) (fx := th) C6 (by kernel_rfl) (fun h => by cases h) (T := fun x => vH x.1) (fun x => yX x.1) fun O v0 x _ hp => ⟨hp, aM ⟨_, rfl, rfl⟩⟩
theorem AD : au prog [] iY iN :=
 bw (S := iN) AW (fx := qi) zP (by kernel_rfl) (fun _ _ => trivial) (T := fun x => rJ x.1 x.2.1) (fun x => wl x.1 x.2.1) fun O v0 x _ _ => by
  obtain ⟨m, now, ⟨⟩⟩ := x
  refine ⟨fun h => ⟨_, rfl, ?_⟩, fun h => ⟨_, rfl, ?_⟩⟩
  ·have h : (1099511627776 : Int) < IntKind.wrap .i64 (now + mN m) := of_decide_eq_true h
   show ((m.2.1, m.2.2.1, (1099511627776 : Int), ()), ()) = (g9 m now, ())
   unfold g9 wk
   rw [if_pos h]
  ·have h : ¬ (1099511627776 : Int) < IntKind.wrap .i64 (now + mN m) := of_decide_eq_false h
   show ((m.2.1, m.2.2.1, IntKind.wrap .i64 (now + mN m), ()), ()) = (g9 m now, ())
   unfold g9 wk
   rw [if_neg h]
theorem Dw : au prog [] kW iG :=
  bw (S := iG) (DD DQ D4) (fx := tN) BG (by kernel_rfl) (fun h => by cases h) (T := fun x => vq x.1 x.2.1) (fun x => zD x.1 x.2.1) fun O v0 x _ hp => by
    obtain ⟨s, m, ⟨⟩⟩ := x
    have leaf : ∀ {a : Int} {b : Mg}, bq s m = (a, b) → ∃ z, be m4 (K.val (Ty.pair ar Ty.unit) ((a, b, ()), ())) = some z ∧ z = iG.g (s, m, ()) := fun {a b} e =>
      ⟨_, rfl, by show ((a, b, ()), ()) = (((bq s m).1, (bq s m).2, ()), ()); rw [e]⟩
    refine ⟨fun h => ⟨fun _ => trivial, fun h1 => leaf ?_, fun h1 => leaf ?_⟩, fun h => ⟨hp, aM ⟨fun h1 => leaf ?_, fun h1 => ⟨fun h2 => leaf ?_, fun h2 => ⟨fun h3 => leaf ?_, fun h3 => leaf ?_⟩⟩⟩⟩⟩
    all_goals unfold bq
    · have h : fB m = 1 := of_decide_eq_true h
      rw [if_pos h]
      have h1 : (bif decide (m.1 = (2 : Int)) then gR m.2.1 (fu m).2.1 else false) = true := h1
      by_cases h2 : m.1 = (2 : Int)
      · rw [decide_eq_true h2, cond_true] at h1
        rw [if_pos h2, h1]; rfl
      · rw [decide_eq_false h2] at h1; cases h1
    · have h : fB m = 1 := of_decide_eq_true h
      rw [if_pos h]
      have h1 : (bif decide (m.1 = (2 : Int)) then gR m.2.1 (fu m).2.1 else false) = false := h1
      by_cases h2 : m.1 = (2 : Int)
      · rw [decide_eq_true h2, cond_true] at h1
        rw [if_pos h2, h1]; rfl
      · rw [if_neg h2]; rfl
    all_goals have h : ¬ fB m = 1 := of_decide_eq_false h
    all_goals rw [if_neg h]
    · have h1 : m.1 = (2 : Int) := of_decide_eq_true h1
      rw [if_pos h1]; rfl
    all_goals have h1 : ¬ m.1 = (2 : Int) := of_decide_eq_false h1
    all_goals rw [if_neg h1]
    · have h2 : eqb Ty.str (iH m) (cm s m.2.1 (cH m)) = false := by
        have h2 : (!eqb Ty.str (iH m) (cm s m.2.1 (cH m))) = true := h2
        simpa using h2
      rw [h2]; rfl
    all_goals have h2 : eqb Ty.str (iH m) (cm s m.2.1 (cH m)) = true := by
                have h2 : (!eqb Ty.str (iH m) (cm s m.2.1 (cH m))) = false := h2
                simpa using h2
    all_goals rw [h2]
    · have h3 : m.1 = (4 : Int) := of_decide_eq_true h3
      rw [cond_true, if_pos h3]; rfl
    · have h3 : ¬ m.1 = (4 : Int) := of_decide_eq_false h3
      rw [cond_true, if_neg h3]; rfl
end Go.Proofs.YtnakjijahkaoaaaDoor
