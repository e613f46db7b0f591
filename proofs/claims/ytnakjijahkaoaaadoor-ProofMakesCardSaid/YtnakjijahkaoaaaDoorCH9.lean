/- Part 9 of 9 of what this claim's proof stands on: a theory of programs on data, and the contracts of the functions that the law reaches. It holds no condition of its own. -/
import Derived.Test.YtnakjijahkaoaaaDoorCH8
namespace Go.Proofs.YtnakjijahkaoaaaDoor
open Go Go.RowKit
theorem BP (s : ByteArray) (n : Nat) : (bI s 0 (g9 (aY s) (n : Int))).size ≤ n := by
 unfold bI g9 aY
 rw [ByteArray.size_extract]
 split <;> omega
end Go.Proofs.YtnakjijahkaoaaaDoor
namespace Go.Proofs.YtnakjijahkaoaaaDoor
open Go Go.RowKit
end Go.Proofs.YtnakjijahkaoaaaDoor
namespace Go.Proofs.YtnakjijahkaoaaaDoor
open Go Go.RowKit
noncomputable abbrev cq : Fx := { fn := cn, ann := { loops := [(3, { keep := [0, 3], own := [(3, (.int .u8))] }), (8, { keep := [3, 4, 5, 6], own := [(3, (.int .u8))] })] }, own := [8, 11, 18, 34] }
noncomputable abbrev fp : bp := { D := { T := bT, F := [], R := [], ovl := [] }, inl := [] }
noncomputable abbrev mh : bS := .data ii
theorem gu : XOk prog fp := xok ((bv bE bm)) (by kernel_rfl) bj bu bt
noncomputable def p7 (s : den Ty.str) : ab := ab.req (ByteArray.size s ≤ bX) (ab.req (List.length (aU s ++ List.set (List.replicate 1 (zero (Ty.int IntKind.u8))) 0 128) ≤ bX) (ab.loop [] cq (lp cn 3) [(0, K.val Ty.str s), (3, K.sl 0 (Ty.int IntKind.u8))] [(0, Bx.row (Ty.int IntKind.u8) (aU s ++ List.set (List.replicate 1 (zero (Ty.int IntKind.u8))) 0 128))]))
theorem ux (s : den Ty.str) : ax fp mh 5000 [] cq (aX cn) (Env.of (a6 pl (s, ()) 0) []) = p7 s := by kernel_rfl
noncomputable def nt (v0 : den Ty.str) (b0 : List (den (Ty.int IntKind.u8))) : Env := Env.of [(0, K.val Ty.str v0), (3, K.sl 0 (Ty.int IntKind.u8))] [(0, Bx.row (Ty.int IntKind.u8) b0)]
noncomputable def uq (v0 : den Ty.str) (b0 : List (den (Ty.int IntKind.u8))) : ab := ab.req (nz 64) (ab.ite (!decide (Int.tmod (lnx (Ty.int IntKind.u8) b0) 64 = 56)) (ab.req (List.length (b0 ++ List.set (List.replicate 1 (zero (Ty.int IntKind.u8))) 0 0) ≤ bX) (ab.loop [] cq (lp cn 3) [(0, K.val Ty.str v0), (3, K.sl 0 (Ty.int IntKind.u8))] [(0, Bx.row (Ty.int IntKind.u8) (b0 ++ List.set (List.replicate 1 (zero (Ty.int IntKind.u8))) 0 0))])) (ab.loop [] cq (lp cn 8) [(3, K.sl 0 (Ty.int IntKind.u8)), (4, K.val (Ty.int IntKind.u64) (IntKind.wrap IntKind.u64 (IntKind.wrap IntKind.u64 (aY v0) * 8))), (5, K.val (Ty.int IntKind.u64) 72057594037927936), (6, K.val ag 0)] [(0, Bx.row (Ty.int IntKind.u8) b0)]))
theorem j8 (v0 : den Ty.str) (b0 : List (den (Ty.int IntKind.u8))) : ax fp mh 5000 [] cq (lp cn 3) (nt v0 b0) = uq v0 b0 := by kernel_rfl
noncomputable def nK (v4 : den (Ty.int IntKind.u64)) (v5 : den (Ty.int IntKind.u64)) (v6 : den ag) (b0 : List (den (Ty.int IntKind.u8))) : Env := Env.of [(3, K.sl 0 (Ty.int IntKind.u8)), (4, K.val (Ty.int IntKind.u64) v4), (5, K.val (Ty.int IntKind.u64) v5), (6, K.val ag v6)] [(0, Bx.row (Ty.int IntKind.u8) b0)]
noncomputable def tP (v4 : den (Ty.int IntKind.u64)) (v5 : den (Ty.int IntKind.u64)) (v6 : den ag) (b0 : List (den (Ty.int IntKind.u8))) : ab := ab.ite (decide (v6 < 8)) (ab.req (nz v5) (ab.req (nz 256) (ab.req (List.length (b0 ++ List.set (List.replicate 1 (zero (Ty.int IntKind.u8))) 0 (IntKind.wrap IntKind.u8 (Int.tmod (IntKind.wrap IntKind.u64 (Int.tdiv v4 v5)) 256))) ≤ bX) (ab.req (nz 256) (ab.loop [] cq (lp cn 8) [(3, K.sl 0 (Ty.int IntKind.u8)), (4, K.val (Ty.int IntKind.u64) v4), (5, K.val (Ty.int IntKind.u64) (IntKind.wrap IntKind.u64 (Int.tdiv v5 256))), (6, K.val ag (IntKind.wrap IntKind.i64 (v6 + 1)))] [(0, Bx.row (Ty.int IntKind.u8) (b0 ++ List.set (List.replicate 1 (zero (Ty.int IntKind.u8))) 0 (IntKind.wrap IntKind.u8 (Int.tmod (IntKind.wrap IntKind.u64 (Int.tdiv v4 v5)) 256))))]))))) (ab.ret (K.val (Ty.pair Ty.str Ty.unit) (al b0, PUnit.unit)))
theorem j7 (v4 : den (Ty.int IntKind.u64)) (v5 : den (Ty.int IntKind.u64)) (v6 : den ag) (b0 : List (den (Ty.int IntKind.u8))) : ax fp mh 5000 [] cq (lp cn 8) (nK v4 v5 v6 b0) = tP v4 v5 v6 b0 := by kernel_rfl
end Go.Proofs.YtnakjijahkaoaaaDoor
namespace Go.Proofs.YtnakjijahkaoaaaDoor
open Go Go.RowKit
theorem qG : ∀ (n : Nat) (l : List Int), (k5 n l).length = l.length + n
 | 0, l => rfl
 | n + 1, l => by
  show (k5 n (l ++ [0])).length = _
  rw [qG, List.length_append, List.length_singleton]
  omega
theorem lw (s : ByteArray) : ∀ (n : Nat) (l : List Int), (kW s n l).length = l.length + n
 | 0, l => rfl
 | n + 1, l => by
  show (kW s n l ++ [rx s n]).length = _
  rw [List.length_append, lw, List.length_singleton]
  omega
theorem wg (s : ByteArray) : (io s).length = 64 * gQ s := by
 unfold io
 rw [lw, qG]
 unfold gX gQ
 rw [List.length_append, List.length_singleton, eN]
 omega
theorem rr {n : Nat} (h : n ≤ 2000) : n ≤ bX := Nat.le_trans h (by decide)
theorem CT : ∀ n : Nat, n < 8 → xN n ≠ 0 := by decide
def uo (O : Nat → Prop) (w0 : World) (s : ByteArray) (l : List Int) (hl : l.length ≤ 1200) (out : ByteArray) (ho : out = al (kW s 8 l)) :=
 PLift.up <| bO (σ := List Int) 8 (fun i b => b = kW s i l)
  (fun i b => br prog fp (Cx.base O w0) (dQ prog O w0 ii fun y => y = (out, ())) [] cq (lp cn 8) (nK (IntKind.wrap IntKind.u64 (IntKind.wrap IntKind.u64 (aY s) * 8)) (xN i) (i : Nat) b))
  (fun i b hi hb ih => aF gu (j7 _ _ _ b) (by
   refine ⟨fun _ => ⟨CT i hi, show (256 : Int) ≠ 0 by decide, ?_, show (256 : Int) ≠ 0 by decide, ?_⟩, fun h => ?_⟩
   ·rw [hb, List.length_append, lw]
    exact rr (show _ + 1 ≤ _ by omega)
   ·rw [cJ hi (by omega)]
    refine ih _ ?_
    rw [hb]
    rfl
   ·exact absurd (Int.ofNat_lt.2 hi) (of_decide_eq_false h)))
  (fun b hb => aF gu (j7 _ _ _ b) (by
   refine ⟨fun h => ?_, fun _ => ⟨_, rfl, ?_⟩⟩
   ·exact absurd (of_decide_eq_true h) (by decide)
   ·show (al b, ()) = (out, ())
    rw [hb, ho]))
theorem th (O : Nat → Prop) (w0 : World) (s : ByteArray) (k : Nat) : ∀ (b : List Int) (out : ByteArray), gX b = k → b.length + k ≤ 1200 → out = al (kW s 8 (k5 k b)) →
    br prog fp (Cx.base O w0) (dQ prog O w0 ii fun y => y = (out, ())) [] cq (lp cn 3) (nt s b) := by
  have key : ∀ b : List Int, (!decide (Int.tmod (lnx (.int .u8) b) 64 = 56)) = !decide (gX b = 0) := fun b => by
    have h : Int.tmod (lnx (.int .u8) b) 64 = 56 ↔ gX b = 0 := by
      have h1 : lnx (.int .u8) b = (b.length : Int) := rfl
      rw [h1, Int.tmod_eq_emod_of_nonneg (by omega)]
      unfold gX
      omega
    rw [decide_eq_decide.2 h]
  induction k with
  | zero =>
    intro b out hk hl ho
    refine aF gu (j8 s b) ⟨show (64 : Int) ≠ 0 by decide, fun h => ?_, fun _ => ?_⟩
    · have h : (!decide (Int.tmod (lnx (.int .u8) b) 64 = 56)) = true := h
      rw [key b, hk] at h
      cases h
    · exact (uo O w0 s b hl out ho).down 0 _ (Nat.zero_le _) rfl
  | succ k ih =>
    intro b out hk hl ho
    have hk' : gX (b ++ [0]) = k := by
      unfold gX at hk ⊢
      rw [List.length_append, List.length_singleton]
      omega
    refine aF gu (j8 s b) ⟨show (64 : Int) ≠ 0 by decide, fun _ => ⟨?_, ?_⟩, fun h => ?_⟩
    · rw [List.length_append]
      exact rr (show _ + 1 ≤ _ by omega)
    · exact ih (b ++ [0]) out hk' (by rw [List.length_append, List.length_singleton]; omega) ho
    · have h : (!decide (Int.tmod (lnx (.int .u8) b) 64 = 56)) = false := h
      rw [key b, hk] at h
      cases h
theorem xP : aL prog [] i8 jc :=
 cE (S := jc) gu (fx := cq) wm (by kernel_rfl) (fun h => by cases h) (T := fun x => p7 x.1) (fun x => ux x.1) fun O w0 x _ hp => by
  obtain ⟨s, ⟨⟩⟩ := x
  have hp : s.size ≤ 1000 := hp
  refine ⟨rr (by omega), ?_, ?_⟩
  ·rw [List.length_append, eN]
   exact rr (show _ + 1 ≤ _ by omega)
  ·refine th O w0 s _ (aU s ++ [128]) _ rfl ?_ rfl
   rw [List.length_append, List.length_singleton, eN]
   unfold gX
   omega
end Go.Proofs.YtnakjijahkaoaaaDoor
namespace Go.Proofs.YtnakjijahkaoaaaDoor
open Go Go.RowKit
noncomputable abbrev fY : Fx := { fn := fB, ann := { loops := [(2, { keep := [0, 1, 5] })] } }
noncomputable abbrev kS : bp := { D := { T := bT, F := [], R := [], ovl := [] }, inl := [] }
noncomputable abbrev tw : bS := .data nj
theorem oM : XOk prog kS := xok ((bv bE bm)) (by kernel_rfl) bj bu bt
noncomputable def ur (x : den (Ty.int IntKind.u32)) (n : den ag) : ab := ab.loop [] fY (lp fB 2) [(0, K.val (Ty.int IntKind.u32) x), (1, K.val ag n), (5, K.val ag 0)] []
theorem we (x : den (Ty.int IntKind.u32)) (n : den ag) : ax kS tw 5000 [] fY (aX fB) (Env.of (a6 se (x, n, ()) 0) []) = ur x n := by kernel_rfl
noncomputable def p9 (v0 : den (Ty.int IntKind.u32)) (v1 : den ag) (v5 : den ag) : Env := Env.of [(0, K.val (Ty.int IntKind.u32) v0), (1, K.val ag v1), (5, K.val ag v5)] []
noncomputable def wz (v0 : den (Ty.int IntKind.u32)) (v1 : den ag) (v5 : den ag) : ab := ab.ite (decide (v5 < v1)) (ab.req (nz 2) (ab.req (nz 2) (ab.loop [] fY (lp fB 2) [(0, K.val (Ty.int IntKind.u32) (IntKind.wrap IntKind.u32 (IntKind.wrap IntKind.u32 (Int.tdiv v0 2) + IntKind.wrap IntKind.u32 (Int.tmod v0 2 * 2147483648)))), (1, K.val ag v1), (5, K.val ag (IntKind.wrap IntKind.i64 (v5 + 1)))] []))) (ab.ret (K.val (Ty.pair (Ty.int IntKind.u32) Ty.unit) (v0, PUnit.unit)))
theorem lF (v0 : den (Ty.int IntKind.u32)) (v1 : den ag) (v5 : den ag) : ax kS tw 5000 [] fY (lp fB 2) (p9 v0 v1 v5) = wz v0 v1 v5 := by kernel_rfl
noncomputable abbrev pI : Fx := { fn := m8, ann := { } }
noncomputable abbrev rR : bp := { D := { T := bT, F := [], R := [], ovl := [] }, inl := [] }
noncomputable abbrev yA : bS := .data qP
theorem yF : XOk prog rR := xok ((bv bE bm)) (by kernel_rfl) bj bu bt
noncomputable def sc : ab := ab.ret (K.val (Ty.pair (Ty.slc (Ty.int IntKind.u32)) Ty.unit) (List.set (List.set (List.set (List.set (List.set (List.set (List.set (List.set (List.replicate 8 (zero (Ty.int IntKind.u32))) 0 1779033703) 1 3144134277) 2 1013904242) 3 2773480762) 4 1359893119) 5 2600822924) 6 528734635) 7 1541459225, PUnit.unit))
theorem vo : ax rR yA 5000 [] pI (aX m8) (Env.of (a6 pW () 0) []) = sc := by kernel_rfl
noncomputable abbrev sf : Fx := { fn := oI, ann := { } }
noncomputable abbrev uy : bp := { D := { T := bT, F := [], R := [], ovl := [] }, inl := [] }
noncomputable abbrev AD : bS := .data rS
theorem A4 : XOk prog uy := xok ((bv bE bm)) (by kernel_rfl) bj bu bt
noncomputable def tz : ab := ab.ret (K.val (Ty.pair (Ty.slc (Ty.int IntKind.u32)) Ty.unit) (List.set (List.set (List.set (List.set (List.set (List.set (List.set (List.set (List.set (List.set (List.set (List.set (List.set (List.set (List.set (List.set (List.set (List.set (List.set (List.set (List.set (List.set (List.set (List.set (List.set (List.set (List.set (List.set (List.set (List.set (List.set (List.set (List.set (List.set (List.set (List.set (List.set (List.set (List.set (List.set (List.set (List.set (List.set (List.set (List.set (List.set (List.set (List.set (List.set (List.set (List.set (List.set (List.set (List.set (List.set (List.set (List.set (List.set (List.set (List.set (List.set (List.set (List.set (List.set (List.replicate 64 (zero (Ty.int IntKind.u32))) 0 1116352408) 1 1899447441) 2 3049323471) 3 3921009573) 4 961987163) 5 1508970993) 6 2453635748) 7 2870763221) 8 3624381080) 9 310598401) 10 607225278) 11 1426881987) 12 1925078388) 13 2162078206) 14 2614888103) 15 3248222580) 16 3835390401) 17 4022224774) 18 264347078) 19 604807628) 20 770255983) 21 1249150122) 22 1555081692) 23 1996064986) 24 2554220882) 25 2821834349) 26 2952996808) 27 3210313671) 28 3336571891) 29 3584528711) 30 113926993) 31 338241895) 32 666307205) 33 773529912) 34 1294757372) 35 1396182291) 36 1695183700) 37 1986661051) 38 2177026350) 39 2456956037) 40 2730485921) 41 2820302411) 42 3259730800) 43 3345764771) 44 3516065817) 45 3600352804) 46 4094571909) 47 275423344) 48 430227734) 49 506948616) 50 659060556) 51 883997877) 52 958139571) 53 1322822218) 54 1537002063) 55 1747873779) 56 1955562222) 57 2024104815) 58 2227730452) 59 2361852424) 60 2428436474) 61 2756734187) 62 3204031479) 63 3329325298, PUnit.unit))
theorem wl : ax uy AD 5000 [] sf (aX oI) (Env.of (a6 r8 () 0) []) = tz := by kernel_rfl
end Go.Proofs.YtnakjijahkaoaaaDoor
namespace Go.Proofs.YtnakjijahkaoaaaDoor
open Go Go.RowKit
def tuI (x : Int) : Int := IntKind.wrap .u32 (IntKind.wrap .u32 (Int.tdiv x 2) + IntKind.wrap .u32 (Int.tmod x 2 * 2147483648))
def tE (x : Int) : Nat → Int
 | 0 => x
 | i + 1 => tuI (tE x i)
def leI (a b : Int) : Prop := a ≤ b
def a7 (x n : Int) : Int := tE x n.toNat
noncomputable abbrev gO : bW := ⟨se, nj, fun x => (a7 x.1 x.2.1, ()), fun x => leI x.2.1 1000, false⟩
def zn (O : Nat → Prop) (v0 : World) (x n : Int) (hn : n ≤ 1000) :=
 PLift.up <| bO (σ := Int) n.toNat (fun i s => s = tE x i)
  (fun i s => br prog kS (Cx.base O v0) (dQ prog O v0 nj fun y => y = (a7 x n, ())) [] fY (lp fB 2) (p9 s n (i : Nat)))
  (fun i s hi hs ih => aF oM (lF s n _) (by
   refine ⟨fun _ => ⟨show (2 : Int) ≠ 0 by decide, show (2 : Int) ≠ 0 by decide, ?_⟩, fun h => ?_⟩
   ·rw [cJ hi (by omega)]
    refine ih _ ?_
    rw [hs]
    rfl
   ·have h := of_decide_eq_false h
    exact absurd (show (i : Int) < n by omega) h))
  (fun s hs => aF oM (lF s n _) (by
   refine ⟨fun h => ?_, fun _ => ⟨_, rfl, ?_⟩⟩
   ·have h : ((n.toNat : Nat) : Int) < n := of_decide_eq_true h
    omega
   ·show (s, ()) = (a7 x n, ())
    rw [hs]; rfl))
theorem tK : aL prog [] gL gO :=
 cE (S := gO) oM (fx := fY) y6 (by kernel_rfl) (fun h => by cases h) (T := fun x => ur x.1 x.2.1) (fun x => we x.1 x.2.1) fun O v0 x _ hp =>
  (zn O v0 x.1 x.2.1 hp).down 0 _ (Nat.zero_le _) rfl
noncomputable abbrev jV : bW := ⟨pW, qP, fun _ => (dz, ()), fun _ => True, true⟩
theorem zm : aL prog [] jZ jV :=
 cE (S := jV) yF (fx := pI) xM (by kernel_rfl) (fun _ _ => trivial) (T := fun _ => sc) (fun _ => vo) fun O v0 x _ _ => ⟨_, rfl, by show _ = _; kernel_rfl⟩
def gS : List Int := gV
noncomputable abbrev kU : bW := ⟨r8, rS, fun _ => (gS, ()), fun _ => True, true⟩
theorem AE : aL prog [] k9 kU :=
 cE (S := kU) A4 (fx := sf) zq (by kernel_rfl) (fun _ _ => trivial) (T := fun _ => tz) (fun _ => wl) fun O v0 x _ _ => ⟨_, rfl, by show _ = _; kernel_rfl⟩
def t1I (v : List Int) (k w : Int) : Int :=
 cL (cL (cL (cL (ar v 7) (dI (dI (a7 (ar v 4) 6) (a7 (ar v 4) 11)) (a7 (ar v 4) 25))) (dI (f6 (ar v 4) (ar v 5)) (f6 (IntKind.wrap .u32 (4294967295 - ar v 4)) (ar v 6)))) k) w
def t2I (v : List Int) : Int :=
 cL (dI (dI (a7 (ar v 0) 2) (a7 (ar v 0) 13)) (a7 (ar v 0) 22)) (dI (dI (f6 (ar v 0) (ar v 1)) (f6 (ar v 0) (ar v 2))) (f6 (ar v 1) (ar v 2)))
def gF (v : List Int) (k w : Int) : List Int := [cL (t1I v k w) (t2I v), ar v 0, ar v 1, ar v 2, cL (ar v 3) (t1I v k w), ar v 4, ar v 5, ar v 6]
noncomputable abbrev jT : bW := ⟨pO, qy, fun x => (gF x.1 x.2.1 x.2.2.1, ()), fun x => x.1.length = 8, false⟩
end Go.Proofs.YtnakjijahkaoaaaDoor
namespace Go.Proofs.YtnakjijahkaoaaaDoor
open Go Go.RowKit
noncomputable abbrev qU : Fx := { fn := mX, ann := { }, share := true, shareD := true }
noncomputable abbrev sq : bp := { D := { T := bT, F := [(gL, gO)], R := [], ovl := [] }, inl := [] }
noncomputable abbrev zc : bS := .data qy
theorem yQ (h_r02_turn : aL prog [] gL gO) : XOk prog sq := xok (aO (bv bE bm) h_r02_turn) (by kernel_rfl) bj bu bt
noncomputable def r7 (v : den (Ty.slc (Ty.int IntKind.u32))) (k : den (Ty.int IntKind.u32)) (w : den (Ty.int IntKind.u32)) : ab := ab.req (inB 0 (lnx (Ty.int IntKind.u32) v)) (ab.req (inB 4 (lnx (Ty.int IntKind.u32) v)) (ab.req (inB 7 (lnx (Ty.int IntKind.u32) v)) (ab.req (leI 6 1000) (ab.req (leI 11 1000) (ab.req (leI 25 1000) (ab.req (inB 5 (lnx (Ty.int IntKind.u32) v)) (ab.req (inB 6 (lnx (Ty.int IntKind.u32) v)) (ab.all (den (Ty.int IntKind.u32)) (fun (q3 : den (Ty.int IntKind.u32)) ↦ q3 = a7 (el (Ty.int IntKind.u32) v 4) 6) fun (q3 : den (Ty.int IntKind.u32)) ↦ ab.all (den (Ty.int IntKind.u32)) (fun (q4 : den (Ty.int IntKind.u32)) ↦ q4 = a7 (el (Ty.int IntKind.u32) v 4) 11) fun (q4 : den (Ty.int IntKind.u32)) ↦ ab.all (den (Ty.int IntKind.u32)) (fun (q5 : den (Ty.int IntKind.u32)) ↦ q5 = a7 (el (Ty.int IntKind.u32) v 4) 25) fun (q5 : den (Ty.int IntKind.u32)) ↦ ab.all (den (Ty.int IntKind.u32)) (fun (q6 : den (Ty.int IntKind.u32)) ↦ q6 = IntKind.wrap IntKind.u32 (IntKind.wrap IntKind.u32 (IntKind.wrap IntKind.u32 (IntKind.wrap IntKind.u32 (el (Ty.int IntKind.u32) v 7 + IntKind.wrap IntKind.u32 (↑(BitVec.toNat (BitVec.ofInt (IntKind.bits IntKind.u32) (IntKind.wrap IntKind.u32 (↑(BitVec.toNat (BitVec.ofInt (IntKind.bits IntKind.u32) (a7 (el (Ty.int IntKind.u32) v 4) 6) ^^^ BitVec.ofInt (IntKind.bits IntKind.u32) (a7 (el (Ty.int IntKind.u32) v 4) 11))) : Int)) ^^^ BitVec.ofInt (IntKind.bits IntKind.u32) (a7 (el (Ty.int IntKind.u32) v 4) 25))) : Int)) + IntKind.wrap IntKind.u32 (↑(BitVec.toNat (BitVec.ofInt (IntKind.bits IntKind.u32) (IntKind.wrap IntKind.u32 (↑(BitVec.toNat (BitVec.ofInt (IntKind.bits IntKind.u32) (el (Ty.int IntKind.u32) v 4) &&& BitVec.ofInt (IntKind.bits IntKind.u32) (el (Ty.int IntKind.u32) v 5))) : Int)) ^^^ BitVec.ofInt (IntKind.bits IntKind.u32) (IntKind.wrap IntKind.u32 (↑(BitVec.toNat (BitVec.ofInt (IntKind.bits IntKind.u32) (IntKind.wrap IntKind.u32 (4294967295 - el (Ty.int IntKind.u32) v 4)) &&& BitVec.ofInt (IntKind.bits IntKind.u32) (el (Ty.int IntKind.u32) v 6))) : Int)))) : Int)) + k) + w)) fun (q6 : den (Ty.int IntKind.u32)) ↦ ab.req (leI 2 1000) (ab.req (leI 13 1000) (ab.req (leI 22 1000) (ab.req (inB 1 (lnx (Ty.int IntKind.u32) v)) (ab.req (inB 2 (lnx (Ty.int IntKind.u32) v)) (ab.req (inB 1 (lnx (Ty.int IntKind.u32) v)) (ab.req (inB 2 (lnx (Ty.int IntKind.u32) v)) (ab.all (den (Ty.int IntKind.u32)) (fun (q7 : den (Ty.int IntKind.u32)) ↦ q7 = a7 (el (Ty.int IntKind.u32) v 0) 2) fun (q7 : den (Ty.int IntKind.u32)) ↦ ab.all (den (Ty.int IntKind.u32)) (fun (q8 : den (Ty.int IntKind.u32)) ↦ q8 = a7 (el (Ty.int IntKind.u32) v 0) 13) fun (q8 : den (Ty.int IntKind.u32)) ↦ ab.all (den (Ty.int IntKind.u32)) (fun (q9 : den (Ty.int IntKind.u32)) ↦ q9 = a7 (el (Ty.int IntKind.u32) v 0) 22) fun (q9 : den (Ty.int IntKind.u32)) ↦ ab.all (den (Ty.int IntKind.u32)) (fun (q10 : den (Ty.int IntKind.u32)) ↦ q10 = IntKind.wrap IntKind.u32 (IntKind.wrap IntKind.u32 (↑(BitVec.toNat (BitVec.ofInt (IntKind.bits IntKind.u32) (IntKind.wrap IntKind.u32 (↑(BitVec.toNat (BitVec.ofInt (IntKind.bits IntKind.u32) (a7 (el (Ty.int IntKind.u32) v 0) 2) ^^^ BitVec.ofInt (IntKind.bits IntKind.u32) (a7 (el (Ty.int IntKind.u32) v 0) 13))) : Int)) ^^^ BitVec.ofInt (IntKind.bits IntKind.u32) (a7 (el (Ty.int IntKind.u32) v 0) 22))) : Int) + IntKind.wrap IntKind.u32 (↑(BitVec.toNat (BitVec.ofInt (IntKind.bits IntKind.u32) (IntKind.wrap IntKind.u32 (↑(BitVec.toNat (BitVec.ofInt (IntKind.bits IntKind.u32) (IntKind.wrap IntKind.u32 (↑(BitVec.toNat (BitVec.ofInt (IntKind.bits IntKind.u32) (el (Ty.int IntKind.u32) v 0) &&& BitVec.ofInt (IntKind.bits IntKind.u32) (el (Ty.int IntKind.u32) v 1))) : Int)) ^^^ BitVec.ofInt (IntKind.bits IntKind.u32) (IntKind.wrap IntKind.u32 (↑(BitVec.toNat (BitVec.ofInt (IntKind.bits IntKind.u32) (el (Ty.int IntKind.u32) v 0) &&& BitVec.ofInt (IntKind.bits IntKind.u32) (el (Ty.int IntKind.u32) v 2))) : Int)))) : Int)) ^^^ BitVec.ofInt (IntKind.bits IntKind.u32) (IntKind.wrap IntKind.u32 (↑(BitVec.toNat (BitVec.ofInt (IntKind.bits IntKind.u32) (el (Ty.int IntKind.u32) v 1) &&& BitVec.ofInt (IntKind.bits IntKind.u32) (el (Ty.int IntKind.u32) v 2))) : Int)))) : Int))) fun (q10 : den (Ty.int IntKind.u32)) ↦ ab.req (inB 1 (lnx (Ty.int IntKind.u32) v)) (ab.req (inB 2 (lnx (Ty.int IntKind.u32) v)) (ab.req (inB 3 (lnx (Ty.int IntKind.u32) v)) (ab.req (inB 5 (lnx (Ty.int IntKind.u32) v)) (ab.req (inB 6 (lnx (Ty.int IntKind.u32) v)) (ab.all (den (Ty.slc (Ty.int IntKind.u32))) (fun (q11 : den (Ty.slc (Ty.int IntKind.u32))) ↦ q11 = List.set (List.set (List.set (List.set (List.set (List.set (List.set (List.set (List.replicate 8 (zero (Ty.int IntKind.u32))) 0 (IntKind.wrap IntKind.u32 (q6 + q10))) 1 (el (Ty.int IntKind.u32) v 0)) 2 (el (Ty.int IntKind.u32) v 1)) 3 (el (Ty.int IntKind.u32) v 2)) 4 (IntKind.wrap IntKind.u32 (el (Ty.int IntKind.u32) v 3 + q6))) 5 (el (Ty.int IntKind.u32) v 4)) 6 (el (Ty.int IntKind.u32) v 5)) 7 (el (Ty.int IntKind.u32) v 6)) fun (q11 : den (Ty.slc (Ty.int IntKind.u32))) ↦ ab.ret (K.val (Ty.pair (Ty.slc (Ty.int IntKind.u32)) Ty.unit) (q11, PUnit.unit))))))))))))))))))))))
theorem uN (v : den (Ty.slc (Ty.int IntKind.u32))) (k : den (Ty.int IntKind.u32)) (w : den (Ty.int IntKind.u32)) : ax sq zc 5000 [] qU (aX mX) (Env.of (a6 pO (v, k, w, ()) 0) []) = r7 v k w := by kernel_rfl
end Go.Proofs.YtnakjijahkaoaaaDoor
namespace Go.Proofs.YtnakjijahkaoaaaDoor
open Go Go.RowKit
theorem y4 : aL prog [] jR jT :=
 cE (S := jT) (yQ tK) (fx := qU) w5 (by kernel_rfl) (fun h => by cases h) (T := fun x => r7 x.1 x.2.1 x.2.2.1) (fun x => uN x.1 x.2.1 x.2.2.1) fun O v0 x _ hp => by
  obtain ⟨v, k, w, ⟨⟩⟩ := x
  have hp : v.length = 8 := hp
  have hl : lnx (.int .u32) v = ((8 : Nat) : Int) := by show ((v.length : Nat) : Int) = _; rw [hp]
  have hB : ∀ i : Nat, i < 8 → inB (i : Int) (lnx (.int .u32) v) := fun i hi => by rw [hl]; exact eD hi
  have hL : ∀ i : Int, i ≤ 1000 → leI i 1000 := fun i h => h
  exact ⟨hB 0 (by decide), hB 4 (by decide), hB 7 (by decide), hL _ (by decide), hL _ (by decide), hL _ (by decide), hB 5 (by decide), hB 6 (by decide), aR <| aR <| aR <| aR
   ⟨hL _ (by decide), hL _ (by decide), hL _ (by decide), hB 1 (by decide), hB 2 (by decide), hB 1 (by decide), hB 2 (by decide), aR <| aR <| aR <| aR
   ⟨hB 1 (by decide), hB 2 (by decide), hB 3 (by decide), hB 5 (by decide), hB 6 (by decide), aR ⟨_, rfl, rfl⟩⟩⟩⟩
def w16 (s : ByteArray) (t : Int) (x : Int) (i : Int) : Int := IntKind.wrap .u32 (IntKind.wrap .u32 (256 * x) + IntKind.wrap .u32 (sAt s (IntKind.wrap .i64 (IntKind.wrap .i64 (4 * t) + i))))
def u7 (s : ByteArray) (t : Int) : Nat → Int
 | 0 => 0
 | i + 1 => w16 s t (u7 s t i) (i : Nat)
def bw1 (s : ByteArray) : Nat → List Int
 | 0 => []
 | t + 1 => bw1 s t ++ [u7 s (t : Nat) 4]
def nxI (b : List Int) (t : Int) : Int :=
 cL (cL (cL (dI (dI (a7 (ar b (IntKind.wrap .i64 (t - 2))) 17) (a7 (ar b (IntKind.wrap .i64 (t - 2))) 19)) (IntKind.wrap .u32 (Int.tdiv (ar b (IntKind.wrap .i64 (t - 2))) 1024))) (ar b (IntKind.wrap .i64 (t - 7))))
  (dI (dI (a7 (ar b (IntKind.wrap .i64 (t - 15))) 7) (a7 (ar b (IntKind.wrap .i64 (t - 15))) 18)) (IntKind.wrap .u32 (Int.tdiv (ar b (IntKind.wrap .i64 (t - 15))) 8)))) (ar b (IntKind.wrap .i64 (t - 16)))
def bw2 (s : ByteArray) : Nat → List Int
 | 0 => bw1 s 16
 | j + 1 => bw2 s j ++ [nxI (bw2 s j) ((16 + j : Nat) : Int)]
def rv (h w : List Int) : Nat → List Int
 | 0 => h
 | t + 1 => gF (rv h w t) (ar gS (t : Nat)) (ar w (t : Nat))
def ob (h v : List Int) : Nat → List Int
 | 0 => []
 | i + 1 => ob h v i ++ [cL (ar h (i : Nat)) (ar v (i : Nat))]
def fZ (h : List Int) (s : ByteArray) : List Int := ob h (rv h (bw2 s 48) 64) 8
noncomputable abbrev jW : bW := ⟨qu, lC, fun x => (fZ x.1 x.2.1, ()), fun x => x.1.length = 8 ∧ ByteArray.size x.2.1 = 64, false⟩
theorem nX (s : ByteArray) : ∀ t : Nat, (bw1 s t).length = t
 | 0 => rfl
 | t + 1 => by rw [bw1, List.length_append, nX s t]; rfl
theorem lk (s : ByteArray) : ∀ j : Nat, (bw2 s j).length = 16 + j
 | 0 => nX s 16
 | j + 1 => by rw [bw2, List.length_append, lk s j]; rfl
theorem ub {h : List Int} (hh : h.length = 8) (w : List Int) : ∀ t : Nat, (rv h w t).length = 8
 | 0 => hh
 | t + 1 => rfl
theorem yq (h v : List Int) : ∀ i : Nat, (ob h v i).length = i
 | 0 => rfl
 | i + 1 => by rw [ob, List.length_append, yq h v i]; rfl
theorem B7 : gS.length = 64 := by kernel_rfl
end Go.Proofs.YtnakjijahkaoaaaDoor
namespace Go.Proofs.YtnakjijahkaoaaaDoor
open Go Go.RowKit
noncomputable abbrev aM : Fx := { fn := aQ, ann := { loops := [(3, { keep := [0, 1, 5, 6], own := [(5, (.int .u32))] }), (7, { keep := [0, 1, 5, 6, 7, 8], own := [(5, (.int .u32))] }), (12, { keep := [0, 5, 9], own := [(5, (.int .u32))] }), (20, { keep := [0, 5, 12, 13, 14] }), (25, { keep := [0, 12, 15, 104, 105], own := [(15, (.int .u32))] })], frz := [(18, [5])] }, own := [17, 102], share := true }
noncomputable abbrev dn : bp := { D := { T := bT, F := [(gL, gO), (jR, jT), (k9, kU)], R := [], ovl := [] }, inl := [] }
noncomputable abbrev fU : bS := .data lC
theorem zx (h_r02_turn : aL prog [] gL gO) (h_r02_round : aL prog [] jR jT) (h_r02_Keys : aL prog [] k9 kU) : XOk prog dn := xok (aO (aO (aO (bv bE bm) h_r02_Keys) h_r02_round) h_r02_turn) (by kernel_rfl) bj bu bt
noncomputable def sk (h : den (Ty.slc (Ty.int IntKind.u32))) (s : den Ty.str) : ab := ab.loop [] aM (lp aQ 3) [(0, K.val (Ty.slc (Ty.int IntKind.u32)) h), (1, K.val Ty.str s), (5, K.sl 0 (Ty.int IntKind.u32)), (6, K.val ag 0)] [(0, Bx.row (Ty.int IntKind.u32) (List.replicate 0 (zero (Ty.int IntKind.u32))))]
theorem uR (h : den (Ty.slc (Ty.int IntKind.u32))) (s : den Ty.str) : ax dn fU 5000 [] aM (aX aQ) (Env.of (a6 qu (h, s, ()) 0) []) = sk h s := by kernel_rfl
noncomputable def kA (v0 : den (Ty.slc (Ty.int IntKind.u32))) (v1 : den Ty.str) (v6 : den ag) (b0 : List (den (Ty.int IntKind.u32))) : Env := Env.of [(0, K.val (Ty.slc (Ty.int IntKind.u32)) v0), (1, K.val Ty.str v1), (5, K.sl 0 (Ty.int IntKind.u32)), (6, K.val ag v6)] [(0, Bx.row (Ty.int IntKind.u32) b0)]
noncomputable def uP (v0 : den (Ty.slc (Ty.int IntKind.u32))) (v1 : den Ty.str) (v6 : den ag) (b0 : List (den (Ty.int IntKind.u32))) : ab := ab.ite (decide (v6 < 16)) (ab.loop [] aM (lp aQ 7) [(0, K.val (Ty.slc (Ty.int IntKind.u32)) v0), (1, K.val Ty.str v1), (5, K.sl 0 (Ty.int IntKind.u32)), (6, K.val ag v6), (7, K.val (Ty.int IntKind.u32) 0), (8, K.val ag 0)] [(0, Bx.row (Ty.int IntKind.u32) b0)]) (ab.loop [] aM (lp aQ 12) [(0, K.val (Ty.slc (Ty.int IntKind.u32)) v0), (5, K.sl 0 (Ty.int IntKind.u32)), (9, K.val ag 16)] [(0, Bx.row (Ty.int IntKind.u32) b0)])
theorem kQ (v0 : den (Ty.slc (Ty.int IntKind.u32))) (v1 : den Ty.str) (v6 : den ag) (b0 : List (den (Ty.int IntKind.u32))) : ax dn fU 5000 [] aM (lp aQ 3) (kA v0 v1 v6 b0) = uP v0 v1 v6 b0 := by kernel_rfl
noncomputable def pt (v0 : den (Ty.slc (Ty.int IntKind.u32))) (v1 : den Ty.str) (v6 : den ag) (v7 : den (Ty.int IntKind.u32)) (v8 : den ag) (b0 : List (den (Ty.int IntKind.u32))) : Env := Env.of [(0, K.val (Ty.slc (Ty.int IntKind.u32)) v0), (1, K.val Ty.str v1), (5, K.sl 0 (Ty.int IntKind.u32)), (6, K.val ag v6), (7, K.val (Ty.int IntKind.u32) v7), (8, K.val ag v8)] [(0, Bx.row (Ty.int IntKind.u32) b0)]
noncomputable def u4 (v0 : den (Ty.slc (Ty.int IntKind.u32))) (v1 : den Ty.str) (v6 : den ag) (v7 : den (Ty.int IntKind.u32)) (v8 : den ag) (b0 : List (den (Ty.int IntKind.u32))) : ab := ab.ite (decide (v8 < 4)) (ab.req (inB (IntKind.wrap IntKind.i64 (IntKind.wrap IntKind.i64 (4 * v6) + v8)) (aY v1)) (ab.loop [] aM (lp aQ 7) [(0, K.val (Ty.slc (Ty.int IntKind.u32)) v0), (1, K.val Ty.str v1), (5, K.sl 0 (Ty.int IntKind.u32)), (6, K.val ag v6), (7, K.val (Ty.int IntKind.u32) (IntKind.wrap IntKind.u32 (IntKind.wrap IntKind.u32 (256 * v7) + IntKind.wrap IntKind.u32 (sAt v1 (IntKind.wrap IntKind.i64 (IntKind.wrap IntKind.i64 (4 * v6) + v8)))))), (8, K.val ag (IntKind.wrap IntKind.i64 (v8 + 1)))] [(0, Bx.row (Ty.int IntKind.u32) b0)])) (ab.req (List.length (b0 ++ List.set (List.replicate 1 (zero (Ty.int IntKind.u32))) 0 v7) ≤ bX) (ab.loop [] aM (lp aQ 3) [(0, K.val (Ty.slc (Ty.int IntKind.u32)) v0), (1, K.val Ty.str v1), (5, K.sl 0 (Ty.int IntKind.u32)), (6, K.val ag (IntKind.wrap IntKind.i64 (v6 + 1)))] [(0, Bx.row (Ty.int IntKind.u32) (b0 ++ List.set (List.replicate 1 (zero (Ty.int IntKind.u32))) 0 v7))]))
theorem kO (v0 : den (Ty.slc (Ty.int IntKind.u32))) (v1 : den Ty.str) (v6 : den ag) (v7 : den (Ty.int IntKind.u32)) (v8 : den ag) (b0 : List (den (Ty.int IntKind.u32))) : ax dn fU 5000 [] aM (lp aQ 7) (pt v0 v1 v6 v7 v8 b0) = u4 v0 v1 v6 v7 v8 b0 := by kernel_rfl
noncomputable def nT (v0 : den (Ty.slc (Ty.int IntKind.u32))) (v9 : den ag) (b0 : List (den (Ty.int IntKind.u32))) : Env := Env.of [(0, K.val (Ty.slc (Ty.int IntKind.u32)) v0), (5, K.sl 0 (Ty.int IntKind.u32)), (9, K.val ag v9)] [(0, Bx.row (Ty.int IntKind.u32) b0)]
noncomputable def uH (v0 : den (Ty.slc (Ty.int IntKind.u32))) (v9 : den ag) (b0 : List (den (Ty.int IntKind.u32))) : ab := ab.ite (decide (v9 < 64)) (ab.req (inB (IntKind.wrap IntKind.i64 (v9 - 15)) (lnx (Ty.int IntKind.u32) b0)) (ab.req (inB (IntKind.wrap IntKind.i64 (v9 - 15)) (lnx (Ty.int IntKind.u32) b0)) (ab.req (inB (IntKind.wrap IntKind.i64 (v9 - 2)) (lnx (Ty.int IntKind.u32) b0)) (ab.req (inB (IntKind.wrap IntKind.i64 (v9 - 2)) (lnx (Ty.int IntKind.u32) b0)) (ab.req (leI 17 1000) (ab.req (leI 19 1000) (ab.req (nz 1024) (ab.req (inB (IntKind.wrap IntKind.i64 (v9 - 7)) (lnx (Ty.int IntKind.u32) b0)) (ab.req (inB (IntKind.wrap IntKind.i64 (v9 - 7)) (lnx (Ty.int IntKind.u32) b0)) (ab.req (leI 7 1000) (ab.req (leI 18 1000) (ab.req (nz 8) (ab.req (inB (IntKind.wrap IntKind.i64 (v9 - 16)) (lnx (Ty.int IntKind.u32) b0)) (ab.req (inB (IntKind.wrap IntKind.i64 (v9 - 16)) (lnx (Ty.int IntKind.u32) b0)) (ab.req (List.length (b0 ++ List.set (List.replicate 1 (zero (Ty.int IntKind.u32))) 0 (IntKind.wrap IntKind.u32 (IntKind.wrap IntKind.u32 (IntKind.wrap IntKind.u32 (IntKind.wrap IntKind.u32 (↑(BitVec.toNat (BitVec.ofInt (IntKind.bits IntKind.u32) (IntKind.wrap IntKind.u32 (↑(BitVec.toNat (BitVec.ofInt (IntKind.bits IntKind.u32) (a7 (el (Ty.int IntKind.u32) b0 (IntKind.wrap IntKind.i64 (v9 - 2))) 17) ^^^ BitVec.ofInt (IntKind.bits IntKind.u32) (a7 (el (Ty.int IntKind.u32) b0 (IntKind.wrap IntKind.i64 (v9 - 2))) 19))) : Int)) ^^^ BitVec.ofInt (IntKind.bits IntKind.u32) (IntKind.wrap IntKind.u32 (Int.tdiv (el (Ty.int IntKind.u32) b0 (IntKind.wrap IntKind.i64 (v9 - 2))) 1024)))) : Int) + el (Ty.int IntKind.u32) b0 (IntKind.wrap IntKind.i64 (v9 - 7))) + IntKind.wrap IntKind.u32 (↑(BitVec.toNat (BitVec.ofInt (IntKind.bits IntKind.u32) (IntKind.wrap IntKind.u32 (↑(BitVec.toNat (BitVec.ofInt (IntKind.bits IntKind.u32) (a7 (el (Ty.int IntKind.u32) b0 (IntKind.wrap IntKind.i64 (v9 - 15))) 7) ^^^ BitVec.ofInt (IntKind.bits IntKind.u32) (a7 (el (Ty.int IntKind.u32) b0 (IntKind.wrap IntKind.i64 (v9 - 15))) 18))) : Int)) ^^^ BitVec.ofInt (IntKind.bits IntKind.u32) (IntKind.wrap IntKind.u32 (Int.tdiv (el (Ty.int IntKind.u32) b0 (IntKind.wrap IntKind.i64 (v9 - 15))) 8)))) : Int)) + el (Ty.int IntKind.u32) b0 (IntKind.wrap IntKind.i64 (v9 - 16))))) ≤ bX) (ab.all (den (Ty.int IntKind.u32)) (fun (q3 : den (Ty.int IntKind.u32)) ↦ q3 = a7 (el (Ty.int IntKind.u32) b0 (IntKind.wrap IntKind.i64 (v9 - 2))) 17) fun (q3 : den (Ty.int IntKind.u32)) ↦ ab.all (den (Ty.int IntKind.u32)) (fun (q4 : den (Ty.int IntKind.u32)) ↦ q4 = a7 (el (Ty.int IntKind.u32) b0 (IntKind.wrap IntKind.i64 (v9 - 2))) 19) fun (q4 : den (Ty.int IntKind.u32)) ↦ ab.all (den (Ty.int IntKind.u32)) (fun (q5 : den (Ty.int IntKind.u32)) ↦ q5 = a7 (el (Ty.int IntKind.u32) b0 (IntKind.wrap IntKind.i64 (v9 - 15))) 7) fun (q5 : den (Ty.int IntKind.u32)) ↦ ab.all (den (Ty.int IntKind.u32)) (fun (q6 : den (Ty.int IntKind.u32)) ↦ q6 = a7 (el (Ty.int IntKind.u32) b0 (IntKind.wrap IntKind.i64 (v9 - 15))) 18) fun (q6 : den (Ty.int IntKind.u32)) ↦ ab.loop [] aM (lp aQ 12) [(0, K.val (Ty.slc (Ty.int IntKind.u32)) v0), (5, K.sl 0 (Ty.int IntKind.u32)), (9, K.val ag (IntKind.wrap IntKind.i64 (v9 + 1)))] [(0, Bx.row (Ty.int IntKind.u32) (b0 ++ List.set (List.replicate 1 (zero (Ty.int IntKind.u32))) 0 (IntKind.wrap IntKind.u32 (IntKind.wrap IntKind.u32 (IntKind.wrap IntKind.u32 (IntKind.wrap IntKind.u32 (↑(BitVec.toNat (BitVec.ofInt (IntKind.bits IntKind.u32) (IntKind.wrap IntKind.u32 (↑(BitVec.toNat (BitVec.ofInt (IntKind.bits IntKind.u32) (a7 (el (Ty.int IntKind.u32) b0 (IntKind.wrap IntKind.i64 (v9 - 2))) 17) ^^^ BitVec.ofInt (IntKind.bits IntKind.u32) (a7 (el (Ty.int IntKind.u32) b0 (IntKind.wrap IntKind.i64 (v9 - 2))) 19))) : Int)) ^^^ BitVec.ofInt (IntKind.bits IntKind.u32) (IntKind.wrap IntKind.u32 (Int.tdiv (el (Ty.int IntKind.u32) b0 (IntKind.wrap IntKind.i64 (v9 - 2))) 1024)))) : Int) + el (Ty.int IntKind.u32) b0 (IntKind.wrap IntKind.i64 (v9 - 7))) + IntKind.wrap IntKind.u32 (↑(BitVec.toNat (BitVec.ofInt (IntKind.bits IntKind.u32) (IntKind.wrap IntKind.u32 (↑(BitVec.toNat (BitVec.ofInt (IntKind.bits IntKind.u32) (a7 (el (Ty.int IntKind.u32) b0 (IntKind.wrap IntKind.i64 (v9 - 15))) 7) ^^^ BitVec.ofInt (IntKind.bits IntKind.u32) (a7 (el (Ty.int IntKind.u32) b0 (IntKind.wrap IntKind.i64 (v9 - 15))) 18))) : Int)) ^^^ BitVec.ofInt (IntKind.bits IntKind.u32) (IntKind.wrap IntKind.u32 (Int.tdiv (el (Ty.int IntKind.u32) b0 (IntKind.wrap IntKind.i64 (v9 - 15))) 8)))) : Int)) + el (Ty.int IntKind.u32) b0 (IntKind.wrap IntKind.i64 (v9 - 16))))))])))))))))))))))) (ab.req True (ab.all (den (Ty.slc (Ty.int IntKind.u32))) (fun (q3 : den (Ty.slc (Ty.int IntKind.u32))) ↦ q3 = gS) fun (q3 : den (Ty.slc (Ty.int IntKind.u32))) ↦ ab.loop [] aM (lp aQ 20) [(0, K.val (Ty.slc (Ty.int IntKind.u32)) v0), (5, K.val (Ty.slc (Ty.int IntKind.u32)) b0), (12, K.val (Ty.slc (Ty.int IntKind.u32)) v0), (13, K.val (Ty.slc (Ty.int IntKind.u32)) q3), (14, K.val ag 0)] []))
theorem j9 (v0 : den (Ty.slc (Ty.int IntKind.u32))) (v9 : den ag) (b0 : List (den (Ty.int IntKind.u32))) : ax dn fU 5000 [] aM (lp aQ 12) (nT v0 v9 b0) = uH v0 v9 b0 := by kernel_rfl
noncomputable def nJ (v0 : den (Ty.slc (Ty.int IntKind.u32))) (v5 : den (Ty.slc (Ty.int IntKind.u32))) (v12 : den (Ty.slc (Ty.int IntKind.u32))) (v13 : den (Ty.slc (Ty.int IntKind.u32))) (v14 : den ag) : Env := Env.of [(0, K.val (Ty.slc (Ty.int IntKind.u32)) v0), (5, K.val (Ty.slc (Ty.int IntKind.u32)) v5), (12, K.val (Ty.slc (Ty.int IntKind.u32)) v12), (13, K.val (Ty.slc (Ty.int IntKind.u32)) v13), (14, K.val ag v14)] []
noncomputable def ud (v0 : den (Ty.slc (Ty.int IntKind.u32))) (v5 : den (Ty.slc (Ty.int IntKind.u32))) (v12 : den (Ty.slc (Ty.int IntKind.u32))) (v13 : den (Ty.slc (Ty.int IntKind.u32))) (v14 : den ag) : ab := ab.ite (decide (v14 < 64)) (ab.req (inB v14 (lnx (Ty.int IntKind.u32) v13)) (ab.req (inB v14 (lnx (Ty.int IntKind.u32) v5)) (ab.req (List.length v12 = 8) (ab.all (den (Ty.slc (Ty.int IntKind.u32))) (fun (q5 : den (Ty.slc (Ty.int IntKind.u32))) ↦ q5 = gF v12 (el (Ty.int IntKind.u32) v13 v14) (el (Ty.int IntKind.u32) v5 v14)) fun (q5 : den (Ty.slc (Ty.int IntKind.u32))) ↦ ab.loop [] aM (lp aQ 20) [(0, K.val (Ty.slc (Ty.int IntKind.u32)) v0), (5, K.val (Ty.slc (Ty.int IntKind.u32)) v5), (12, K.val (Ty.slc (Ty.int IntKind.u32)) (gF v12 (el (Ty.int IntKind.u32) v13 v14) (el (Ty.int IntKind.u32) v5 v14))), (13, K.val (Ty.slc (Ty.int IntKind.u32)) v13), (14, K.val ag (IntKind.wrap IntKind.i64 (v14 + 1)))] [])))) (ab.loop [] aM (lp aQ 25) [(0, K.val (Ty.slc (Ty.int IntKind.u32)) v0), (12, K.val (Ty.slc (Ty.int IntKind.u32)) v12), (15, K.sl 0 (Ty.int IntKind.u32)), (104, K.val ag (lnx (Ty.int IntKind.u32) v0)), (105, K.val ag 0)] [(0, Bx.row (Ty.int IntKind.u32) (List.replicate 0 (zero (Ty.int IntKind.u32))))])
theorem kh (v0 : den (Ty.slc (Ty.int IntKind.u32))) (v5 : den (Ty.slc (Ty.int IntKind.u32))) (v12 : den (Ty.slc (Ty.int IntKind.u32))) (v13 : den (Ty.slc (Ty.int IntKind.u32))) (v14 : den ag) : ax dn fU 5000 [] aM (lp aQ 20) (nJ v0 v5 v12 v13 v14) = ud v0 v5 v12 v13 v14 := by kernel_rfl
noncomputable def jz (v0 : den (Ty.slc (Ty.int IntKind.u32))) (v12 : den (Ty.slc (Ty.int IntKind.u32))) (v104 : den ag) (v105 : den ag) (b0 : List (den (Ty.int IntKind.u32))) : Env := Env.of [(0, K.val (Ty.slc (Ty.int IntKind.u32)) v0), (12, K.val (Ty.slc (Ty.int IntKind.u32)) v12), (15, K.sl 0 (Ty.int IntKind.u32)), (104, K.val ag v104), (105, K.val ag v105)] [(0, Bx.row (Ty.int IntKind.u32) b0)]
noncomputable def uc (v0 : den (Ty.slc (Ty.int IntKind.u32))) (v12 : den (Ty.slc (Ty.int IntKind.u32))) (v104 : den ag) (v105 : den ag) (b0 : List (den (Ty.int IntKind.u32))) : ab := ab.ite (decide (v105 < v104)) (ab.req (inB v105 (lnx (Ty.int IntKind.u32) v0)) (ab.req (inB v105 (lnx (Ty.int IntKind.u32) v12)) (ab.req (List.length (b0 ++ List.set (List.replicate 1 (zero (Ty.int IntKind.u32))) 0 (IntKind.wrap IntKind.u32 (el (Ty.int IntKind.u32) v0 v105 + el (Ty.int IntKind.u32) v12 v105))) ≤ bX) (ab.loop [] aM (lp aQ 25) [(0, K.val (Ty.slc (Ty.int IntKind.u32)) v0), (12, K.val (Ty.slc (Ty.int IntKind.u32)) v12), (15, K.sl 0 (Ty.int IntKind.u32)), (104, K.val ag v104), (105, K.val ag (IntKind.wrap IntKind.i64 (v105 + 1)))] [(0, Bx.row (Ty.int IntKind.u32) (b0 ++ List.set (List.replicate 1 (zero (Ty.int IntKind.u32))) 0 (IntKind.wrap IntKind.u32 (el (Ty.int IntKind.u32) v0 v105 + el (Ty.int IntKind.u32) v12 v105))))])))) (ab.ret (K.val (Ty.pair (Ty.slc (Ty.int IntKind.u32)) Ty.unit) (b0, PUnit.unit)))
theorem kp (v0 : den (Ty.slc (Ty.int IntKind.u32))) (v12 : den (Ty.slc (Ty.int IntKind.u32))) (v104 : den ag) (v105 : den ag) (b0 : List (den (Ty.int IntKind.u32))) : ax dn fU 5000 [] aM (lp aQ 25) (jz v0 v12 v104 v105 b0) = uc v0 v12 v104 v105 b0 := by kernel_rfl
end Go.Proofs.YtnakjijahkaoaaaDoor
namespace Go.Proofs.YtnakjijahkaoaaaDoor
open Go Go.RowKit
theorem dW : XOk prog dn := zx tK y4 AE
abbrev GBl (O : Nat → Prop) (v0 : World) (y : List Int) := br prog dn (Cx.base O v0) (dQ prog O v0 lC fun z => z = (y, ()))
theorem mW {l : List Int} {n : Nat} (h : l.length = n) : lnx (.int .u32) l = ((n : Nat) : Int) := by show ((l.length : Nat) : Int) = _; rw [h]
theorem vl {n : Nat} (h : n ≤ 200) : n ≤ bX := Nat.le_trans h (by decide)
def Ej (O : Nat → Prop) (v0 : World) (h v : List Int) (hh : h.length = 8) (hv : v.length = 8) :=
 PLift.up <| bO (σ := List Int) 8 (fun i b => b = ob h v i)
  (fun i b => GBl O v0 (ob h v 8) [] aM (lp aQ 25) (jz h v ((8 : Nat) : Int) (i : Nat) b))
  (fun i b hi hb ih => aF dW (kp h v _ _ b) (by
   refine ⟨fun _ => ⟨by rw [mW hh]; exact eD hi, by rw [mW hv]; exact eD hi, ?_, ?_⟩, fun hc => absurd (Int.ofNat_lt.2 hi) (of_decide_eq_false hc)⟩
   ·rw [List.length_append, hb, yq]
    exact vl (show i + 1 ≤ 200 by omega)
   ·rw [cJ hi (by decide)]
    refine ih _ ?_
    rw [hb]
    rfl))
  (fun b hb => aF dW (kp h v _ _ b) (by
   refine ⟨fun hc => absurd (of_decide_eq_true hc) (by decide), fun _ => ⟨_, rfl, ?_⟩⟩
   show (b, ()) = (ob h v 8, ())
   rw [hb]))
def DN (O : Nat → Prop) (v0 : World) (h w : List Int) (hh : h.length = 8) (hw : w.length = 64) :=
 PLift.up <| bO (σ := List Int) 64 (fun i v => v = rv h w i)
  (fun i v => GBl O v0 (ob h (rv h w 64) 8) [] aM (lp aQ 20) (nJ h w v gS (i : Nat)))
  (fun i v hi hv ih => aF dW (kh h w v gS _) (by
   refine ⟨fun _ => ⟨by rw [mW B7]; exact eD hi, by rw [mW hw]; exact eD hi, by rw [hv]; exact ub hh w i, aR ?_⟩, fun hc => absurd (Int.ofNat_lt.2 hi) (of_decide_eq_false hc)⟩
   rw [cJ hi (by decide)]
   refine ih _ ?_
   rw [hv]
   rfl))
  (fun v hv => aF dW (kh h w v gS _) (by
   refine ⟨fun hc => absurd (of_decide_eq_true hc) (by decide), fun _ => ?_⟩
   show GBl O v0 _ [] aM (lp aQ 25) (jz h v (lnx (.int .u32) h) 0 [])
   rw [mW hh, hv]
   exact (Ej O v0 h _ hh (ub hh w 64)).down 0 _ (Nat.zero_le _) rfl))
def D3 (O : Nat → Prop) (v0 : World) (h : List Int) (s : ByteArray) (hh : h.length = 8) :=
 PLift.up <| bO (σ := List Int) 64 (fun i b => 16 ≤ i ∧ b = bw2 s (i - 16))
  (fun i b => GBl O v0 (fZ h s) [] aM (lp aQ 12) (nT h (i : Nat) b))
  (fun i b hi hb ih => aF dW (j9 h _ b) (by
   obtain ⟨h16, hb⟩ := hb
   have hlen : b.length = i := by rw [hb, lk]; omega
   have hin : ∀ k : Int, 0 < k → k ≤ 16 → inB (IntKind.wrap .i64 ((i : Int) - k)) (lnx (.int .u32) b) := fun k h1 h2 => by
    rw [mW hlen, bc (by omega)]
    exact ⟨by omega, by omega⟩
   have hL : ∀ i : Int, i ≤ 1000 → leI i 1000 := fun i h => h
   have i15 := hin 15 (by decide) (by decide)
   have i2 := hin 2 (by decide) (by decide)
   have i7 := hin 7 (by decide) (by decide)
   have i16 := hin 16 (by decide) (by decide)
   refine ⟨fun _ => ⟨i15, i15, i2, i2, hL _ (by decide), hL _ (by decide), show (1024 : Int) ≠ 0 by decide, i7, i7, hL _ (by decide), hL _ (by decide), show (8 : Int) ≠ 0 by decide, i16, i16, ?_, aR <| aR <| aR <| aR ?_⟩, fun hc => absurd (Int.ofNat_lt.2 hi) (of_decide_eq_false hc)⟩
   ·rw [List.length_append, hlen]
    exact vl (show i + 1 ≤ 200 by omega)
   ·rw [cJ hi (by decide)]
    refine ih (b ++ [nxI b (i : Nat)]) ⟨by omega, ?_⟩
    have e : i + 1 - 16 = (i - 16) + 1 := by omega
    have e2 : 16 + (i - 16) = i := by omega
    rw [e, bw2, ← hb, e2]))
  (fun b hb => aF dW (j9 h _ b) (by
   obtain ⟨_, hb⟩ := hb
   refine ⟨fun hc => absurd (of_decide_eq_true hc) (by decide), fun _ => ⟨trivial, aR ?_⟩⟩
   have hb : b = bw2 s 48 := hb
   rw [hb]
   exact (DN O v0 h _ hh (lk s 48)).down 0 _ (Nat.zero_le _) rfl))
def Eq (O : Nat → Prop) (v0 : World) (h b : List Int) (s : ByteArray) (hs : s.size = 64) (t : Nat) (ht : t < 16) (hb : b.length = t) (hnext : GBl O v0 (fZ h s) [] aM (lp aQ 3) (kA h s ((t + 1 : Nat) : Int) (b ++ [u7 s (t : Nat) 4]))) :=
 PLift.up <| bO (σ := Int) 4 (fun i x => x = u7 s (t : Nat) i)
  (fun i x => GBl O v0 (fZ h s) [] aM (lp aQ 7) (pt h s (t : Nat) x (i : Nat) b))
  (fun i x hi hx ih => aF dW (kO h s _ x _ b) (by
   refine ⟨fun _ => ⟨?_, ?_⟩, fun hc => absurd (Int.ofNat_lt.2 hi) (of_decide_eq_false hc)⟩
   ·rw [bc (n := 4 * (t : Int)) (by omega), bc (by omega)]
    refine ⟨by omega, ?_⟩
    show _ < ((s.size : Nat) : Int)
    rw [hs]; omega
   ·rw [cJ hi (by decide)]
    refine ih _ ?_
    rw [hx]
    rfl))
  (fun x hx => aF dW (kO h s _ x _ b) (by
   refine ⟨fun hc => absurd (of_decide_eq_true hc) (by decide), fun _ => ⟨?_, ?_⟩⟩
   ·rw [List.length_append, hb]
    exact vl (show t + 1 ≤ 200 by omega)
   ·rw [cJ ht (by decide), hx]
    exact hnext))
def ED (O : Nat → Prop) (v0 : World) (h : List Int) (s : ByteArray) (hh : h.length = 8) (hs : s.size = 64) :=
 PLift.up <| bO (σ := List Int) 16 (fun t b => b = bw1 s t)
  (fun t b => GBl O v0 (fZ h s) [] aM (lp aQ 3) (kA h s (t : Nat) b))
  (fun t b ht hb ih => aF dW (kQ h s _ b) (by
   refine ⟨fun _ => ?_, fun hc => absurd (Int.ofNat_lt.2 ht) (of_decide_eq_false hc)⟩
   exact (Eq O v0 h b s hs t ht (by rw [hb, nX]) (ih _ (by rw [hb]; rfl))).down 0 _ (Nat.zero_le _) rfl))
  (fun b hb => aF dW (kQ h s _ b) (by
   refine ⟨fun hc => absurd (of_decide_eq_true hc) (by decide), fun _ => ?_⟩
   exact (D3 O v0 h s hh).down 16 b (by decide) ⟨Nat.le_refl _, hb⟩))
theorem yV : aL prog [] j1 jW :=
 cE (S := jW) dW (fx := aM) xy (by kernel_rfl) (fun h => by cases h) (T := fun x => sk x.1 x.2.1) (fun x => uR x.1 x.2.1) fun O v0 x _ hp =>
  (ED O v0 x.1 x.2.1 hp.1 hp.2).down 0 _ (Nat.zero_le _) rfl
end Go.Proofs.YtnakjijahkaoaaaDoor
namespace Go.Proofs.YtnakjijahkaoaaaDoor
open Go Go.RowKit
noncomputable abbrev c6 : Fx := { fn := de, ann := { loops := [(4, { keep := [2, 3, 4, 5] }), (9, { keep := [2, 6, 26, 27, 28] })] } }
noncomputable abbrev iG : bp := { D := { T := bT, F := [(jZ, jV), (i8, jc), (j1, jW)], R := [], ovl := [] }, inl := [] }
noncomputable abbrev p4 : bS := .data oA
theorem B3 (h_r02_First : aL prog [] jZ jV) (h_r02_Filled : aL prog [] i8 jc) (h_r02_block : aL prog [] j1 jW) : XOk prog iG := xok (aO (aO (aO (bv bE bm) h_r02_block) h_r02_Filled) h_r02_First) (by kernel_rfl) bj bu bt
noncomputable def vS (s : den Ty.str) : ab := ab.req True (ab.req (ByteArray.size s ≤ 1000) (ab.loop [] c6 (lp de 4) [(2, K.ptr 0 tId []), (3, K.val (Ty.slc (Ty.int IntKind.u32)) dz), (4, K.val Ty.str (al (io s))), (5, K.val ag 0)] [(0, Bx.cell tId (zero tId))]))
theorem yu (s : den Ty.str) : ax iG p4 5000 [] c6 (aX de) (Env.of (a6 ti (s, ()) 0) []) = vS s := by kernel_rfl
noncomputable def rN (v3 : den (Ty.slc (Ty.int IntKind.u32))) (v4 : den Ty.str) (v5 : den ag) (b0 : den tId) : Env := Env.of [(2, K.ptr 0 tId []), (3, K.val (Ty.slc (Ty.int IntKind.u32)) v3), (4, K.val Ty.str v4), (5, K.val ag v5)] [(0, Bx.cell tId b0)]
noncomputable def pH (v3 : den (Ty.slc (Ty.int IntKind.u32))) (v4 : den Ty.str) (v5 : den ag) (b0 : den tId) : ab := ab.ite (decide (v5 < aY v4)) (ab.req (bo v5 (IntKind.wrap IntKind.i64 (v5 + 64)) (aY v4)) (ab.req (List.length v3 = 8 ∧ ByteArray.size (bI v4 v5 (IntKind.wrap IntKind.i64 (v5 + 64))) = 64) (ab.loop [] c6 (lp de 4) [(2, K.ptr 0 tId []), (3, K.val (Ty.slc (Ty.int IntKind.u32)) (fZ v3 (bI v4 v5 (IntKind.wrap IntKind.i64 (v5 + 64))))), (4, K.val Ty.str v4), (5, K.val ag (IntKind.wrap IntKind.i64 (v5 + 64)))] [(0, Bx.cell tId b0)]))) (ab.loop [] c6 (lp de 9) [(2, K.ptr 0 tId []), (6, K.ptr (0 + 1) tId []), (26, K.val (Ty.slc (Ty.int IntKind.u32)) v3), (27, K.val ag (lnx (Ty.int IntKind.u32) v3)), (28, K.val ag 0)] [(0, Bx.cell tId b0), (0 + 1, Bx.cell tId (List.replicate 32 (zero (Ty.int IntKind.u8))))])
theorem mJ (v3 : den (Ty.slc (Ty.int IntKind.u32))) (v4 : den Ty.str) (v5 : den ag) (b0 : den tId) : ax iG p4 5000 [] c6 (lp de 4) (rN v3 v4 v5 b0) = pH v3 v4 v5 b0 := by kernel_rfl
noncomputable def ni (v26 : den (Ty.slc (Ty.int IntKind.u32))) (v27 : den ag) (v28 : den ag) (b0 : den tId) (b1 : den tId) : Env := Env.of [(2, K.ptr 0 tId []), (6, K.ptr (0 + 1) tId []), (26, K.val (Ty.slc (Ty.int IntKind.u32)) v26), (27, K.val ag v27), (28, K.val ag v28)] [(0, Bx.cell tId b0), (1, Bx.cell tId b1)]
noncomputable def xL (v26 : den (Ty.slc (Ty.int IntKind.u32))) (v27 : den ag) (v28 : den ag) (b0 : den tId) (b1 : den tId) : ab := ab.ite (decide (v28 < v27)) (ab.req (inB v28 (lnx (Ty.int IntKind.u32) v26)) (ab.req (nz 16777216) (ab.req (inB (IntKind.wrap IntKind.i64 (4 * v28)) (↑32 : Int)) (ab.req (nz 65536) (ab.req (nz 256) (ab.req (inB (IntKind.wrap IntKind.i64 (IntKind.wrap IntKind.i64 (4 * v28) + 1)) (↑32 : Int)) (ab.req (nz 256) (ab.req (nz 256) (ab.req (inB (IntKind.wrap IntKind.i64 (IntKind.wrap IntKind.i64 (4 * v28) + 2)) (↑32 : Int)) (ab.req (nz 256) (ab.req (inB (IntKind.wrap IntKind.i64 (IntKind.wrap IntKind.i64 (4 * v28) + 3)) (↑32 : Int)) (ab.loop [] c6 (lp de 9) [(2, K.ptr 0 tId []), (6, K.ptr (0 + 1) tId []), (26, K.val (Ty.slc (Ty.int IntKind.u32)) v26), (27, K.val ag v27), (28, K.val ag (IntKind.wrap IntKind.i64 (v28 + 1)))] [(0, Bx.cell tId b0), (0 + 1, Bx.cell tId (bF (Ty.int IntKind.u8) (bF (Ty.int IntKind.u8) (bF (Ty.int IntKind.u8) (bF (Ty.int IntKind.u8) b1 (IntKind.wrap IntKind.i64 (4 * v28)) (IntKind.wrap IntKind.u8 (IntKind.wrap IntKind.u32 (Int.tdiv (el (Ty.int IntKind.u32) v26 v28) 16777216)))) (IntKind.wrap IntKind.i64 (IntKind.wrap IntKind.i64 (4 * v28) + 1)) (IntKind.wrap IntKind.u8 (Int.tmod (IntKind.wrap IntKind.u32 (Int.tdiv (el (Ty.int IntKind.u32) v26 v28) 65536)) 256))) (IntKind.wrap IntKind.i64 (IntKind.wrap IntKind.i64 (4 * v28) + 2)) (IntKind.wrap IntKind.u8 (Int.tmod (IntKind.wrap IntKind.u32 (Int.tdiv (el (Ty.int IntKind.u32) v26 v28) 256)) 256))) (IntKind.wrap IntKind.i64 (IntKind.wrap IntKind.i64 (4 * v28) + 3)) (IntKind.wrap IntKind.u8 (Int.tmod (el (Ty.int IntKind.u32) v26 v28) 256))))])))))))))))) (ab.ret (K.val (Ty.pair tId Ty.unit) (b1, PUnit.unit)))
theorem mR (v26 : den (Ty.slc (Ty.int IntKind.u32))) (v27 : den ag) (v28 : den ag) (b0 : den tId) (b1 : den tId) : ax iG p4 5000 [] c6 (lp de 9) (ni v26 v27 v28 b0 b1) = xL v26 v27 v28 b0 b1 := by kernel_rfl
end Go.Proofs.YtnakjijahkaoaaaDoor
namespace Go.Proofs.YtnakjijahkaoaaaDoor
open Go Go.RowKit
def goB (all : ByteArray) : Nat → List Int
 | 0 => dz
 | m + 1 => fZ (goB all m) (bI all ((64 * m : Nat) : Int) ((64 * m + 64 : Nat) : Int))
def stO (h b : List Int) (i : Int) : List Int :=
 bF (Ty.int IntKind.u8) (bF (Ty.int IntKind.u8) (bF (Ty.int IntKind.u8) (bF (Ty.int IntKind.u8) b (IntKind.wrap .i64 (4 * i)) (IntKind.wrap .u8 (IntKind.wrap .u32 (Int.tdiv (ar h i) 16777216))))
  (IntKind.wrap .i64 (IntKind.wrap .i64 (4 * i) + 1)) (IntKind.wrap .u8 (Int.tmod (IntKind.wrap .u32 (Int.tdiv (ar h i) 65536)) 256)))
  (IntKind.wrap .i64 (IntKind.wrap .i64 (4 * i) + 2)) (IntKind.wrap .u8 (Int.tmod (IntKind.wrap .u32 (Int.tdiv (ar h i) 256)) 256))) (IntKind.wrap .i64 (IntKind.wrap .i64 (4 * i) + 3)) (IntKind.wrap .u8 (Int.tmod (ar h i) 256))
def qE (h : List Int) : Nat → List Int
 | 0 => List.replicate 32 (zero (Ty.int IntKind.u8))
 | i + 1 => stO h (qE h i) (i : Nat)
def hY (s : ByteArray) : List Int := qE (goB (al (io s)) (gQ s)) 8
noncomputable abbrev iK : bW := ⟨ti, oA, fun x => (hY x.1, ()), fun x => ByteArray.size x.1 ≤ 900, false⟩
theorem rn (all : ByteArray) : ∀ m : Nat, (goB all m).length = 8
 | 0 => rfl
 | m + 1 => yq _ _ 8
abbrev GS2 (O : Nat → Prop) (v0 : World) (y : List Int) := br prog iG (Cx.base O v0) (dQ prog O v0 oA fun z => z = (y, ()))
theorem nI : XOk prog iG := B3 zm xP yV
def D7 (O : Nat → Prop) (v0 : World) (h b0 : List Int) (hh : h.length = 8) :=
 PLift.up <| bO (σ := List Int) 8 (fun i b => b = qE h i)
  (fun i b => GS2 O v0 (qE h 8) [] c6 (lp de 9) (ni h ((8 : Nat) : Int) (i : Nat) b0 b))
  (fun i b hi hb ih => aF nI (mR h _ _ b0 b) (by
   have e4 : IntKind.wrap .i64 (4 * (i : Int)) = 4 * (i : Int) := bc (by omega)
   have hin : ∀ k : Int, 0 ≤ k → k < 4 → inB (IntKind.wrap .i64 (IntKind.wrap .i64 (4 * (i : Int)) + k)) ((32 : Nat) : Int) := fun k h1 h2 => by
    rw [e4, bc (by omega)]
    exact ⟨by omega, by omega⟩
   have hn : ∀ k : Int, k ≠ 0 → nz k := fun k h => h
   refine ⟨fun _ => ⟨by rw [mW hh]; exact eD hi, hn _ (by decide), ?_, hn _ (by decide), hn _ (by decide), hin 1 (by decide) (by decide), hn _ (by decide), hn _ (by decide), hin 2 (by decide) (by decide), hn _ (by decide), hin 3 (by decide) (by decide), ?_⟩, fun hc => absurd (Int.ofNat_lt.2 hi) (of_decide_eq_false hc)⟩
   ·rw [e4]
    exact ⟨by omega, by omega⟩
   ·rw [cJ hi (by decide)]
    refine ih _ ?_
    rw [hb]
    rfl))
  (fun b hb => aF nI (mR h _ _ b0 b) (by
   refine ⟨fun hc => absurd (of_decide_eq_true hc) (by decide), fun _ => ⟨_, rfl, ?_⟩⟩
   show (b, ()) = (qE h 8, ())
   rw [hb]))
def DW (O : Nat → Prop) (v0 : World) (all : ByteArray) (n : Nat) (hn : n ≤ 1000) (ha : all.size = 64 * n) (b0 : List Int) :=
 PLift.up <| bO (σ := List Int) n (fun m h => h = goB all m)
  (fun m h => GS2 O v0 (qE (goB all n) 8) [] c6 (lp de 4) (rN h all ((64 * m : Nat) : Int) b0))
  (fun m h hm hh ih => aF nI (mJ h all _ b0) (by
   have e64 : IntKind.wrap .i64 (((64 * m : Nat) : Int) + 64) = ((64 * m + 64 : Nat) : Int) := by
    rw [bc (by omega)]
    omega
   have hl : aY all = ((64 * n : Nat) : Int) := by unfold aY; rw [ha]
   unfold pH
   rw [e64]
   refine ⟨fun _ => ⟨?_, ⟨by rw [hh]; exact rn all m, ?_⟩, ?_⟩, fun hc => ?_⟩
   ·rw [hl]
    exact ⟨by omega, by omega, by omega⟩
   ·unfold bI
    rw [ByteArray.size_extract, Int.toNat_natCast, Int.toNat_natCast, ha]
    omega
   ·refine ih _ ?_
    rw [hh]
    rfl
   ·have hc := of_decide_eq_false hc
    rw [hl] at hc
    exact absurd (show ((64 * m : Nat) : Int) < ((64 * n : Nat) : Int) by omega) hc))
  (fun h hh => aF nI (mJ h all _ b0) (by
   have hl : aY all = ((64 * n : Nat) : Int) := by unfold aY; rw [ha]
   refine ⟨fun hc => ?_, fun _ => ?_⟩
   ·have hc := of_decide_eq_true hc
    rw [hl] at hc
    exact absurd hc (Int.lt_irrefl _)
   ·show GS2 O v0 _ [] c6 (lp de 9) (ni h (lnx (.int .u32) h) 0 b0 (List.replicate 32 (zero (Ty.int IntKind.u8))))
    have hz : h.length = 8 := by rw [hh]; exact rn all n
    rw [mW hz, ← hh]
    exact (D7 O v0 h b0 hz).down 0 _ (Nat.zero_le _) rfl))
theorem mV : aL prog [] iC iK :=
 cE (S := iK) nI (fx := c6) AI (by kernel_rfl) (fun h => by cases h) (T := fun x => vS x.1) (fun x => yu x.1) fun O v0 x _ hp => by
  obtain ⟨s, ⟨⟩⟩ := x
  have hp : s.size ≤ 900 := hp
  refine ⟨trivial, by omega, ?_⟩
  exact (DW O v0 (al (io s)) (gQ s) (by unfold gQ; omega) (by rw [dR, wg]) (zero tId)).down 0 _ (Nat.zero_le _) rfl
end Go.Proofs.YtnakjijahkaoaaaDoor
namespace Go.Proofs.YtnakjijahkaoaaaDoor
open Go Go.RowKit
def isW (x : Int) : Prop := ∃ n : Nat, x = (n : Int) ∧ n < 4294967296
theorem xQ (n : Int) : isW (IntKind.wrap .u32 n) := by
 rw [cz]
 exact ⟨(n % 4294967296).toNat, by omega, by omega⟩
theorem rz (a b : Int) : isW (cL a b) := xQ _
theorem DD {y : Nat} (hy : y < 4294967296) : tuI (y : Int) = ((wN y : Nat) : Int) := by
 unfold tuI wN
 have e1 : Int.tdiv (y : Int) 2 = ((y / 2 : Nat) : Int) := rfl
 have e2 : Int.tmod (y : Int) 2 = ((y % 2 : Nat) : Int) := rfl
 rw [e1, e2, cz, cz, cz]
 omega
theorem vN {x : Nat} (hx : x < 4294967296) : ∀ k : Nat, k ≤ 32 → tE (x : Int) k = ((lD x k : Nat) : Int)
 | 0, _ => by
  show (x : Int) = _
  unfold lD
  rw [Nat.pow_zero, Nat.div_one, Nat.mod_one, Nat.zero_mul, Nat.add_zero]
 | k + 1, hk => by
  show tuI (tE (x : Int) k) = _
  rw [vN hx k (by omega), DD (zE hx (by omega)), C1 (by omega)]
theorem CD {x n : Nat} (hx : x < 4294967296) (hn : n ≤ 32) : a7 (x : Int) (n : Int) = ((lD x n : Nat) : Int) := by
 unfold a7
 rw [Int.toNat_natCast]
 exact vN hx n hn
theorem mu {x : Int} (hx : isW x) {n : Nat} (hn : 0 < n ∧ n < 32) (k : Int) (hk : nA k = ((32 - n : Nat) : Int)) (hk2 : IntKind.wrap .u64 (32 - ((32 - n : Nat) : Int)) = (n : Int)) : bM x k = a7 x (n : Int) := by
 obtain ⟨a, rfl, ha⟩ := hx
 rw [Dg ha hn k hk hk2, CD ha (by omega)]
theorem EK {e f g : Int} (he : isW e) (hf : isW f) (hg : isW g) : dI g (f6 e (dI f g)) = dI (f6 e f) (f6 (IntKind.wrap .u32 (4294967295 - e)) g) := by
 obtain ⟨e, rfl, he⟩ := he
 obtain ⟨f, rfl, hf⟩ := hf
 obtain ⟨g, rfl, hg⟩ := hg
 have e1 : IntKind.wrap .u32 (4294967295 - (e : Int)) = ((4294967295 - e : Nat) : Int) := by rw [cz]; omega
 have l1 : f ^^^ g < 4294967296 := Nat.xor_lt_two_pow (n := 32) hf hg
 have l2 : 4294967295 - e < 4294967296 := by omega
 rw [e1, md hf hg, iq he l1, md hg (Nat.lt_of_le_of_lt Nat.and_le_left he), iq he hf, iq l2 hg, md (Nat.lt_of_le_of_lt Nat.and_le_left he) (Nat.lt_of_le_of_lt Nat.and_le_left l2), Ep he hf hg]
theorem D8 {a b c : Int} (ha : isW a) (hb : isW b) (hc : isW c) : lor (f6 a b) (f6 c (lor a b)) = dI (dI (f6 a b) (f6 a c)) (f6 b c) := by
 obtain ⟨a, rfl, ha⟩ := ha
 obtain ⟨b, rfl, hb⟩ := hb
 obtain ⟨c, rfl, hc⟩ := hc
 have l1 : a &&& b < 4294967296 := Nat.lt_of_le_of_lt Nat.and_le_left ha
 have l2 : a &&& c < 4294967296 := Nat.lt_of_le_of_lt Nat.and_le_left ha
 have l3 : b &&& c < 4294967296 := Nat.lt_of_le_of_lt Nat.and_le_left hb
 have l4 : a ||| b < 4294967296 := Nat.or_lt_two_pow (n := 32) ha hb
 rw [iq ha hb, vj ha hb, iq hc l4, vj l1 (Nat.lt_of_le_of_lt Nat.and_le_left hc), iq ha hc, iq hb hc, md l1 l2, md (Nat.xor_lt_two_pow (n := 32) l1 l2) l3, Dm ha hb hc]
theorem yo (n : Nat) (h : n < 1000) : IntKind.wrap .i64 (qN (n : Int)) = -(n : Int) := by
 unfold qN
 rw [bc (by omega)]
 omega
theorem rA {x c : Int} (hx : isW x) {a b : Nat} (ha : 0 < a ∧ a < 32) (hb : 0 < b ∧ b < 32) (ka : nA (-(a : Int)) = ((32 - a : Nat) : Int)) (ka2 : IntKind.wrap .u64 (32 - ((32 - a : Nat) : Int)) = (a : Int)) (kb : nA (-(b : Int)) = ((32 - b : Nat) : Int)) (kb2 : IntKind.wrap .u64 (32 - ((32 - b : Nat) : Int)) = (b : Int)) :
    cB x (a : Int) (b : Int) c = dI (dI (a7 x (a : Int)) (a7 x (b : Int))) c := by
  unfold cB
  rw [yo a (by omega), yo b (by omega), mu hx ha _ ka ka2, mu hx hb _ kb kb2]
theorem Br {v : List Int} (hv : v.length = 8) (hw : ∀ x ∈ v, isW x) (k w : Int) : ovV k w v = gF v k w := by
 have hi : ∀ i : Nat, i < 8 → isW (ar v (i : Nat)) := fun i h => by
  have : ar v (i : Nat) = v[i]'(by omega) := rh (e := .int .u32) (by omega)
  rw [this]
  exact hw _ (List.getElem_mem _)
 have i0 : isW (ar v 0) := hi 0 (by decide)
 have i1 : isW (ar v 1) := hi 1 (by decide)
 have i2 : isW (ar v 2) := hi 2 (by decide)
 have i4 : isW (ar v 4) := hi 4 (by decide)
 have i5 : isW (ar v 5) := hi 5 (by decide)
 have i6 : isW (ar v 6) := hi 6 (by decide)
 have up : A9 k w v = t1I v k w := by
  unfold A9 t1I
  have e1 := rA (c := bM (ar v 4) (-25)) i4 (a := 6) (b := 11) (by decide) (by decide) (by decide) (by decide) (by decide) (by decide)
  have e2 := mu i4 (n := 25) (by decide) (-25) (by decide) (by decide)
  rw [show cB (ar v 4) 6 11 (bM (ar v 4) (-25)) = _ from e1, show bM (ar v 4) (-25) = _ from e2, EK i4 i5 i6]
  rfl
 have mj : cL (cB (ar v 0) 2 13 (bM (ar v 0) (-22))) (ya v) = t2I v := by
  unfold ya t2I
  have e1 := rA (c := bM (ar v 0) (-22)) i0 (a := 2) (b := 13) (by decide) (by decide) (by decide) (by decide) (by decide) (by decide)
  have e2 := mu i0 (n := 22) (by decide) (-22) (by decide) (by decide)
  rw [show cB (ar v 0) 2 13 (bM (ar v 0) (-22)) = _ from e1, show bM (ar v 0) (-22) = _ from e2, D8 i0 i1 i2]
  rfl
 have asc : ∀ a b c : Int, cL (cL a b) c = cL a (cL b c) := fun a b c => by
  unfold cL
  rw [cz, cz, cz, cz]
  omega
 unfold ovV gF
 rw [asc, mj, up]
 rfl
end Go.Proofs.YtnakjijahkaoaaaDoor
namespace Go.Proofs.YtnakjijahkaoaaaDoor
open Go Go.RowKit
theorem oT (l : List Int) (i : Nat) : ar l (i : Nat) = (l[i]?).getD 0 := by
 show List.getD l (Int.toNat (i : Nat)) _ = _
 rw [Int.toNat_natCast, List.getD_eq_getElem?_getD]
 rfl
theorem vK {l m : List Int} {t i : Nat} (h : l.take t = m.take t) (hi : i < t) : ar l (i : Nat) = ar m (i : Nat) := by
 have e : ∀ l : List Int, l[i]? = (l.take t)[i]? := fun l => by rw [List.getElem?_take, if_pos hi]
 rw [oT, oT, e l, e m, h]
theorem xt {l : List Int} {t : Nat} (h : t < l.length) (x : Int) : (bF (.int .u32) l (t : Nat) x).take (t + 1) = l.take t ++ [x] := by
 show (List.set l (Int.toNat (t : Nat)) x).take (t + 1) = _
 rw [Int.toNat_natCast, List.take_succ_eq_append_getElem (by rw [List.length_set]; exact h), List.getElem_set_self, List.take_set_of_le (Nat.le_refl _)]
theorem rq (s : ByteArray) (i : Int) : ∃ b : Nat, sAt s i = (b : Int) ∧ b < 256 := by
 unfold sAt
 exact ⟨_, rfl, UInt8.toNat_lt _⟩
theorem n9 {n b : Nat} (hn : n < 16777216) (hb : b < 256) : f5 (n : Int) (b : Int) = ((256 * n + b : Nat) : Int) := by
 have e8 : min (Int.toNat 8) (IntKind.bits .u32) = 8 := rfl
 have e1 : IntKind.wrap .u32 ((n : Int) * 2 ^ min (Int.toNat 8) (IntKind.bits .u32)) = ((n * 256 : Nat) : Int) := by
  rw [e8, cz, show (2 : Int) ^ 8 = 256 from rfl]; omega
 have e2 : IntKind.wrap .u32 (b : Int) = (b : Int) := by rw [cz]; omega
 unfold f5
 rw [e1, e2, vj (by omega) (by omega)]
 have := Nat.shiftLeft_add_eq_or_of_lt (i := 8) (show b < 2 ^ 8 from hb) n
 rw [Nat.shiftLeft_eq] at this
 rw [show n * 256 = n * 2 ^ 8 from rfl, ← this]
 omega
theorem oU {n b : Nat} (hn : n < 16777216) (hb : b < 256) (s : ByteArray) (t i : Int) (h : sAt s (IntKind.wrap .i64 (IntKind.wrap .i64 (4 * t) + i)) = (b : Int)) : w16 s t (n : Int) i = ((256 * n + b : Nat) : Int) := by
 unfold w16
 rw [h, cz, cz, cz]
 omega
theorem DC {s : ByteArray} (hs : s.size = 64) {t : Nat} (ht : t < 16) : ovB s (t : Nat) = u7 s (t : Nat) 4 := by
 have e4 : IntKind.wrap .i64 (4 * (t : Int)) = ((4 * t : Nat) : Int) := by rw [bc (by omega)]; omega
 have e44 : IntKind.wrap .i64 (((4 * t : Nat) : Int) + 4) = ((4 * t + 4 : Nat) : Int) := by rw [bc (by omega)]; omega
 have hz : (bI s ((4 * t : Nat) : Int) ((4 * t + 4 : Nat) : Int)).size = 4 := by
  unfold bI
  rw [ByteArray.size_extract, Int.toNat_natCast, Int.toNat_natCast, hs]
  omega
 have hat : ∀ i : Nat, i < 4 → sAt (bI s ((4 * t : Nat) : Int) ((4 * t + 4 : Nat) : Int)) (i : Nat) = sAt s (IntKind.wrap .i64 (IntKind.wrap .i64 (4 * (t : Int)) + (i : Nat))) := fun i hi => by
  have e5 : IntKind.wrap .i64 (((4 * t : Nat) : Int) + (i : Nat)) = ((4 * t + i : Nat) : Int) := by rw [bc (by omega)]; omega
  rw [e4, e5]
  unfold sAt bI
  rw [Int.toNat_natCast, Int.toNat_natCast, Int.toNat_natCast, Int.toNat_natCast, ByteArray.data_extract, Array.getElem?_extract]
  rw [if_pos (by have : s.data.size = 64 := hs; omega)]
 obtain ⟨b0, h0, l0⟩ := rq s (IntKind.wrap .i64 (IntKind.wrap .i64 (4 * (t : Int)) + (0 : Nat)))
 obtain ⟨b1, h1, l1⟩ := rq s (IntKind.wrap .i64 (IntKind.wrap .i64 (4 * (t : Int)) + (1 : Nat)))
 obtain ⟨b2, h2, l2⟩ := rq s (IntKind.wrap .i64 (IntKind.wrap .i64 (4 * (t : Int)) + (2 : Nat)))
 obtain ⟨b3, h3, l3⟩ := rq s (IntKind.wrap .i64 (IntKind.wrap .i64 (4 * (t : Int)) + (3 : Nat)))
 have hb : aU (bI s ((4 * t : Nat) : Int) ((4 * t + 4 : Nat) : Int)) = [(b0 : Int), b1, b2, b3] := by
  refine List.ext_getElem (by rw [eN, hz]; rfl) fun i hi1 hi2 => ?_
  have hi : i < 4 := by rw [eN, hz] at hi1; exact hi1
  rw [yn _ (by rw [hz]; exact hi), hat i hi]
  match i, hi with
  | 0, _ => exact h0
  | 1, _ => exact h1
  | 2, _ => exact h2
  | 3, _ => exact h3
 unfold ovB
 rw [e4, e44]
 unfold lH
 rw [hb]
 show f5 (f5 (f5 (f5 ((0 : Nat) : Int) b0) b1) b2) b3 = w16 s t (w16 s t (w16 s t (w16 s t ((0 : Nat) : Int) (0 : Nat)) (1 : Nat)) (2 : Nat)) (3 : Nat)
 rw [n9 (by omega) l0, n9 (by omega) l1, n9 (by omega) l2, n9 (by omega) l3, oU (by omega) l0 s t _ h0, oU (by omega) l1 s t _ h1, oU (by omega) l2 s t _ h2, oU (by omega) l3 s t _ h3]
theorem zU {x : Int} (hx : isW x) (k : Nat) (hk : k < 32) : jP x (k : Int) = IntKind.wrap .u32 (Int.tdiv x (2 ^ k)) := by
 obtain ⟨a, rfl, ha⟩ := hx
 unfold jP
 have m1 : min (Int.toNat (k : Int)) (IntKind.bits .u32) = k := by
  have e32 : IntKind.bits .u32 = 32 := rfl
  rw [e32, Int.toNat_natCast]; omega
 have e2 : (2 : Int) ^ k = ((2 ^ k : Nat) : Int) := by rw [Int.natCast_pow]; rfl
 rw [m1, e2, Int.fdiv_eq_ediv_of_nonneg _ (Int.natCast_nonneg _), show Int.tdiv (a : Int) ((2 ^ k : Nat) : Int) = ((a / 2 ^ k : Nat) : Int) from rfl, jw, Nat.mod_eq_of_lt (Nat.lt_of_le_of_lt (Nat.div_le_self _ _) ha)]
 rfl
end Go.Proofs.YtnakjijahkaoaaaDoor
namespace Go.Proofs.YtnakjijahkaoaaaDoor
open Go Go.RowKit
theorem zL (s : ByteArray) (t : Nat) : ∀ d : Nat, (bw1 s (t + d)).take t = bw1 s t
 | 0 => List.take_of_length_le (by rw [Nat.add_zero, nX]; exact Nat.le_refl _)
 | d + 1 => by
  rw [← Nat.add_assoc, bw1, List.take_append_of_le_length (by rw [nX]; omega)]
  exact zL s t d
theorem zz (s : ByteArray) (j : Nat) : ∀ d : Nat, (bw2 s (j + d)).take (16 + j) = bw2 s j
 | 0 => List.take_of_length_le (by rw [Nat.add_zero, lk]; exact Nat.le_refl _)
 | d + 1 => by
  rw [← Nat.add_assoc, bw2, List.take_append_of_le_length (by rw [lk]; omega)]
  exact zz s j d
theorem td (s : ByteArray) {t : Nat} (h : 16 ≤ t) (h' : t ≤ 64) : (bw2 s 48).take t = bw2 s (t - 16) := by
 have := zz s (t - 16) (64 - t)
 rwa [show t - 16 + (64 - t) = 48 by omega, show 16 + (t - 16) = t by omega] at this
theorem xp (s : ByteArray) {t : Nat} (h : t ≤ 16) : (bw2 s 48).take t = bw1 s t := by
 have h1 := td s (t := 16) (Nat.le_refl _) (by decide)
 have h2 : bw2 s (16 - 16) = bw1 s 16 := rfl
 have h3 := zL s t (16 - t)
 rw [show t + (16 - t) = 16 by omega, ← h2, ← h1, List.take_take, Nat.min_eq_left h] at h3
 exact h3
theorem C7 (s : ByteArray) (t : Int) : isW (u7 s t 4) := xQ _
theorem xv (s : ByteArray) : ∀ t : Nat, ∀ x ∈ bw1 s t, isW x
 | 0, x, h => by cases h
 | t + 1, x, h => by
  rw [bw1, List.mem_append, List.mem_singleton] at h
  rcases h with h | rfl
  ·exact xv s t x h
  ·exact C7 s _
theorem xw (s : ByteArray) : ∀ j : Nat, ∀ x ∈ bw2 s j, isW x
 | 0, x, h => xv s 16 x h
 | j + 1, x, h => by
  rw [bw2, List.mem_append, List.mem_singleton] at h
  rcases h with h | rfl
  ·exact xw s j x h
  ·exact rz _ _
theorem qM {l : List Int} (h : ∀ x ∈ l, isW x) {i : Nat} (hi : i < l.length) : isW (ar l (i : Nat)) := by
 have : ar l (i : Nat) = l[i] := rh (e := .int .u32) hi
 rw [this]
 exact h _ (List.getElem_mem _)
theorem zK {h : List Int} (hl : h.length = 8) (hw : ∀ x ∈ h, isW x) (w : List Int) : ∀ t : Nat, ∀ x ∈ rv h w t, isW x
 | 0, x, hx => hw x hx
 | t + 1, x, hx => by
  have ih := zK hl hw w t
  have hz := ub hl w t
  have hu : ∀ i : Nat, i < 8 → isW (ar (rv h w t) (i : Nat)) := fun i hi => qM ih (by rw [hz]; exact hi)
  have hx : x ∈ gF (rv h w t) (ar gS (t : Nat)) (ar w (t : Nat)) := hx
  unfold gF at hx
  simp only [List.mem_cons, List.not_mem_nil, or_false] at hx
  rcases hx with rfl | rfl | rfl | rfl | rfl | rfl | rfl | rfl
  ·exact rz _ _
  ·exact hu 0 (by decide)
  ·exact hu 1 (by decide)
  ·exact hu 2 (by decide)
  ·exact rz _ _
  ·exact hu 4 (by decide)
  ·exact hu 5 (by decide)
  ·exact hu 6 (by decide)
theorem C2 {l b : List Int} {t : Nat} (h16 : 16 ≤ t) (h64 : t < 64) (hb : b.length = t) (hw : ∀ x ∈ b, isW x) (ht : l.take t = b.take t) : ovN l (t : Nat) = nxI b (t : Nat) := by
 have ek : ∀ k : Nat, 0 < k → k ≤ 16 → IntKind.wrap .i64 ((t : Int) - (k : Int)) = ((t - k : Nat) : Int) := fun k h1 h2 => by rw [bc (by omega)]; omega
 have el : ∀ k : Nat, 0 < k → k ≤ 16 → ar l ((t - k : Nat) : Int) = ar b ((t - k : Nat) : Int) := fun k h1 h2 => vK ht (by omega)
 have wd : ∀ k : Nat, 0 < k → k ≤ 16 → isW (ar b ((t - k : Nat) : Int)) := fun k h1 h2 => qM hw (by omega)
 have k2 := ek 2 (by decide) (by decide)
 have k7 := ek 7 (by decide) (by decide)
 have k15 := ek 15 (by decide) (by decide)
 have k16 := ek 16 (by decide) (by decide)
 have a1 := rA (c := jP (ar b ((t - 2 : Nat) : Int)) 10) (wd 2 (by decide) (by decide)) (a := 17) (b := 19) (by decide) (by decide) (by decide) (by decide) (by decide) (by decide)
 have a2 := rA (c := jP (ar b ((t - 15 : Nat) : Int)) 3) (wd 15 (by decide) (by decide)) (a := 7) (b := 18) (by decide) (by decide) (by decide) (by decide) (by decide) (by decide)
 have s1 := zU (wd 2 (by decide) (by decide)) 10 (by decide)
 have s2 := zU (wd 15 (by decide) (by decide)) 3 (by decide)
 unfold ovN nxI
 rw [show IntKind.wrap .i64 ((t : Int) - 2) = _ from k2, show IntKind.wrap .i64 ((t : Int) - 7) = _ from k7, show IntKind.wrap .i64 ((t : Int) - 15) = _ from k15, show IntKind.wrap .i64 ((t : Int) - 16) = _ from k16,
  el 2 (by decide) (by decide), el 7 (by decide) (by decide), el 15 (by decide) (by decide), el 16 (by decide) (by decide)]
 rw [show cB (ar b ((t - 2 : Nat) : Int)) 17 19 (jP (ar b ((t - 2 : Nat) : Int)) 10) = _ from a1, show cB (ar b ((t - 15 : Nat) : Int)) 7 18 (jP (ar b ((t - 15 : Nat) : Int)) 3) = _ from a2,
  show jP (ar b ((t - 2 : Nat) : Int)) 10 = _ from s1, show jP (ar b ((t - 15 : Nat) : Int)) 3 = _ from s2]
 rfl
theorem zA {s : ByteArray} (hs : s.size = 64) {h : List Int} (hl : h.length = 8) (hw : ∀ x ∈ h, isW x) : ∀ t : Nat, t ≤ 64 → (ovS s h t).1.length = 64 ∧ (ovS s h t).1.take t = (bw2 s 48).take t ∧ (ovS s h t).2 = rv h (bw2 s 48) t
 | 0, _ => ⟨by show (List.replicate 64 (zero (Ty.int IntKind.u32))).length = 64; rw [List.length_replicate], by rw [List.take_zero, List.take_zero], rfl⟩
 | t + 1, ht => by
  obtain ⟨h1, h2, h3⟩ := zA hs hl hw t (by omega)
  have hset : ∃ x, ovW s (ovS s h t).1 (t : Nat) = bF (.int .u32) (ovS s h t).1 (t : Nat) x ∧ (bw2 s 48).take (t + 1) = (bw2 s 48).take t ++ [x] := by
   by_cases h16 : t < 16
   ·refine ⟨ovB s (t : Nat), if_pos (Int.ofNat_lt.2 h16), ?_⟩
    rw [xp s (by omega), xp s (by omega), bw1, DC hs h16]
   ·refine ⟨ovN (ovS s h t).1 (t : Nat), if_neg (fun h => h16 (Int.ofNat_lt.1 h)), ?_⟩
    have e1 := td s (t := t) (by omega) (by omega)
    have e2 := td s (t := t + 1) (by omega) ht
    have hb : (bw2 s (t - 16)).length = t := by rw [lk]; omega
    rw [e2, e1, show t + 1 - 16 = (t - 16) + 1 by omega, bw2, show 16 + (t - 16) = t by omega]
    rw [C2 (b := bw2 s (t - 16)) (by omega) (by omega) hb (xw s _) (by rw [h2, e1, List.take_of_length_le (by omega)])]
  obtain ⟨x, hx, hB⟩ := hset
  have ew : (ovS s h (t + 1)).1 = bF (.int .u32) (ovS s h t).1 (t : Nat) x := hx
  have et : (ovS s h (t + 1)).1.take (t + 1) = (bw2 s 48).take (t + 1) := by rw [ew, xt (by omega), hB, h2]
  refine ⟨?_, et, ?_⟩
  ·rw [ew]
   exact (List.length_set ..).trans h1
  ·show ovV (ar gV (t : Nat)) (ar (ovW s (ovS s h t).1 (t : Nat)) (t : Nat)) (ovS s h t).2 = gF (rv h (bw2 s 48) t) (ar gS (t : Nat)) (ar (bw2 s 48) (t : Nat))
   have eu : ar (ovW s (ovS s h t).1 (t : Nat)) (t : Nat) = ar (bw2 s 48) (t : Nat) := vK (t := t + 1) (show (ovS s h (t + 1)).1.take (t + 1) = _ from et) (Nat.lt_succ_self t)
   rw [eu, h3, Br (ub hl _ t) (zK hl hw _ t)]
   rfl
theorem z6 {h v : List Int} (hl : h.length = 8) : ∀ i : Nat, i ≤ 8 → (ovA h v i).length = 8 ∧ (ovA h v i).take i = ob h v i ∧ (ovA h v i).drop i = h.drop i
 | 0, _ => ⟨hl, rfl, rfl⟩
 | i + 1, hi => by
  obtain ⟨h1, h2, h3⟩ := z6 hl i (by omega)
  have hlt : i < (ovA h v i).length := Nat.lt_of_lt_of_eq (show i < 8 by omega) h1.symm
  have eh : ar (ovA h v i) (i : Nat) = ar h (i : Nat) := by
   have e0 : ∀ l : List Int, l[i]? = (l.drop i)[0]? := fun l => by rw [List.getElem?_drop, Nat.add_zero]
   rw [oT, oT, e0, e0 h, h3]
  refine ⟨(List.length_set ..).trans h1, ?_, ?_⟩
  ·show (bF (.int .u32) (ovA h v i) (i : Nat) (cL (ar (ovA h v i) (i : Nat)) (ar v (i : Nat)))).take (i + 1) = ob h v i ++ [cL (ar h (i : Nat)) (ar v (i : Nat))]
   rw [xt hlt, h2, eh]
  ·show (List.set (ovA h v i) (Int.toNat (i : Nat)) _).drop (i + 1) = _
   rw [Int.toNat_natCast, List.drop_set_of_lt (by omega), ← List.drop_drop, h3, List.drop_drop]
theorem CG {h : List Int} (hl : h.length = 8) (hw : ∀ x ∈ h, isW x) {s : ByteArray} (hs : s.size = 64) : lI h s = fZ h s := by
 obtain ⟨_, _, e⟩ := zA hs hl hw 64 (Nat.le_refl _)
 unfold lI fZ
 rw [e]
 obtain ⟨h1, h2, _⟩ := z6 (h := h) (v := rv h (bw2 s 48) 64) hl 8 (Nat.le_refl _)
 rw [← h2, List.take_of_length_le (by omega)]
theorem AX (h : List Int) (s : ByteArray) : ∀ x ∈ fZ h s, isW x := by
 have key : ∀ (v : List Int) (i : Nat), ∀ x ∈ ob h v i, isW x := fun v i => by
  induction i with
  | zero => intro x hx; cases hx
  | succ i ih =>
   intro x hx
   rw [ob, List.mem_append, List.mem_singleton] at hx
   rcases hx with hx | rfl
   ·exact ih x hx
   ·exact rz _ _
 exact key _ 8
end Go.Proofs.YtnakjijahkaoaaaDoor
namespace Go.Proofs.YtnakjijahkaoaaaDoor
open Go Go.RowKit
theorem ko (s : ByteArray) (a b : Int) : (bI s a b).data.toList = (s.data.toList.drop a.toNat).take (b.toNat - a.toNat) := by
 unfold bI
 rw [ByteArray.data_extract, Array.toList_extract, List.extract_eq_take_drop]
theorem j5 {s t : ByteArray} (h : s.data.toList = t.data.toList) : s = t := ByteArray.ext (Array.ext' h)
theorem lR (s : ByteArray) : s.data.toList.length = s.size := by rw [Array.length_toList]; rfl
theorem za : ∀ x ∈ dz, isW x := by
 intro x hx
 unfold dz at hx
 simp only [List.mem_cons, List.not_mem_nil, or_false] at hx
 rcases hx with rfl | rfl | rfl | rfl | rfl | rfl | rfl | rfl <;> exact ⟨_, rfl, by decide⟩
theorem xl (all : ByteArray) : ∀ m : Nat, ∀ x ∈ goB all m, isW x
 | 0 => za
 | m + 1 => AX _ _
def jQ (all : ByteArray) (m n : Nat) : ByteArray := bI all ((64 * m : Nat) : Int) ((64 * n : Nat) : Int)
theorem kg (all : ByteArray) (m n : Nat) : (jQ all m n).data.toList = (all.data.toList.drop (64 * m)).take (64 * n - 64 * m) := by
 unfold jQ
 rw [ko, Int.toNat_natCast, Int.toNat_natCast]
theorem BA {all : ByteArray} {m n : Nat} (ha : all.size = 64 * n) (h : m ≤ n) : (jQ all m n).size = 64 * (n - m) := by
 rw [← lR, kg, List.length_take, List.length_drop, lR, ha]
 omega
theorem BI {all : ByteArray} {m n : Nat} (h : m < n) : bI (jQ all m n) 0 64 = bI all ((64 * m : Nat) : Int) ((64 * m + 64 : Nat) : Int) := j5 (by
 have e0 : Int.toNat 0 = 0 := rfl
 have e64 : Int.toNat 64 = 64 := rfl
 rw [ko, ko, kg, e0, e64, Int.toNat_natCast, Int.toNat_natCast, List.drop_zero, List.take_take]
 congr 1
 omega)
theorem B5 {all : ByteArray} {m n : Nat} (ha : all.size = 64 * n) (h : m < n) : bI (jQ all m n) 64 (aY (jQ all m n)) = jQ all (m + 1) n := j5 (by
 have e64 : Int.toNat 64 = 64 := rfl
 have el : Int.toNat (aY (jQ all m n)) = 64 * (n - m) := by unfold aY; rw [Int.toNat_natCast, BA ha (by omega)]
 rw [ko, kg, kg, e64, el, List.drop_take, List.take_take, List.drop_drop]
 have e1 : 64 * m + 64 = 64 * (m + 1) := by omega
 rw [e1]
 congr 1
 omega)
theorem Co {all : ByteArray} {n : Nat} (ha : all.size = 64 * n) : ∀ d m : Nat, m + d = n → goR d (jQ all m n) (goB all m) = goB all n
 | 0, m, h => by
  rw [show n = m by omega]
  rfl
 | d + 1, m, h => by
  have hs : (bI all ((64 * m : Nat) : Int) ((64 * m + 64 : Nat) : Int)).size = 64 := by
   rw [← lR, ko, List.length_take, List.length_drop, lR, ha, Int.toNat_natCast, Int.toNat_natCast]
   omega
  rw [goR, BI (by omega), B5 ha (by omega), CG (rn all m) (xl all m) hs]
  exact Co ha d (m + 1) (by omega)
theorem Ea {all : ByteArray} {n : Nat} (ha : all.size = 64 * n) : goR n all dz = goB all n := by
 have := Co ha n 0 (Nat.zero_add n)
 have e : jQ all 0 n = all := j5 (by
  rw [kg, Nat.mul_zero, List.drop_zero]
  exact List.take_of_length_le (by rw [lR, ha]; omega))
 rw [e] at this
 exact this
end Go.Proofs.YtnakjijahkaoaaaDoor
namespace Go.Proofs.YtnakjijahkaoaaaDoor
open Go Go.RowKit
theorem uW (xs ys : List Int) : al (xs ++ ys) = al xs ++ al ys := j5 (by
 rw [ByteArray.data_append, Array.toList_append]
 show ((xs ++ ys).map _).toArray.toList = (xs.map _).toArray.toList ++ (ys.map _).toArray.toList
 rw [List.map_append])
theorem Cc (s : ByteArray) : al (aU s) = s := j5 (by
 show (List.map _ (List.map _ s.data.toList)).toArray.toList = _
 rw [List.map_map]
 show List.map _ s.data.toList = _
 refine (List.map_congr_left fun b _ => ?_).trans (List.map_id _)
 show UInt8.ofNat (Int.toNat (b.toNat : Int)) = b
 rw [Int.toNat_natCast]
 exact UInt8.ofNat_toNat)
theorem w6 : ∀ (k : Nat) (l : List Int), k5 k l = l ++ List.replicate k 0
 | 0, l => (List.append_nil l).symm
 | k + 1, l => by
  rw [k5, w6 k, List.append_assoc, List.replicate_succ]
  rfl
theorem C6 {s : ByteArray} (hs : s.size ≤ 900) : kI s = ((gX (aU s ++ [128]) : Nat) : Int) := by
 rw [nU (by omega)]
 unfold gX
 rw [List.length_append, eN]
 have : ([128] : List Int).length = 1 := rfl
 rw [this]
 omega
theorem Ee : ∀ n : Nat, n < 8 → xN n = ((2 ^ (56 - 8 * n) : Nat) : Int) := by decide
theorem DY {s : ByteArray} (hs : s.size ≤ 900) : mP s = ((8 * s.size : Nat) : Int) := by
 have e : min (Int.toNat 3) (IntKind.bits .u64) = 3 := rfl
 have w : ∀ n : Int, IntKind.wrap .u64 n = n % 18446744073709551616 := fun n => rfl
 unfold mP aY
 rw [e, w, w, show (2 : Int) ^ 3 = 8 from rfl]
 omega
theorem D0 {s : ByteArray} (hs : s.size ≤ 900) {i : Nat} (hi : i < 8) : rB s (i : Nat) = al [rx s i] := by
 have w : ∀ n : Int, IntKind.wrap .u64 n = n % 18446744073709551616 := fun n => rfl
 have w8 : ∀ n : Int, IntKind.wrap .u8 n = n % 256 := fun n => rfl
 have e1 : IntKind.wrap .i64 (8 * IntKind.wrap .i64 (7 - (i : Int))) = ((56 - 8 * i : Nat) : Int) := by
  rw [bc (n := 7 - (i : Int)) (by omega), bc (by omega)]
  omega
 have e2 : min (Int.toNat ((56 - 8 * i : Nat) : Int)) (IntKind.bits .u64) = 56 - 8 * i := by
  have e64 : IntKind.bits .u64 = 64 := rfl
  rw [e64, Int.toNat_natCast]; omega
 have e3 : (2 : Int) ^ (56 - 8 * i) = ((2 ^ (56 - 8 * i) : Nat) : Int) := by rw [Int.natCast_pow]; rfl
 have e4 : IntKind.wrap .u64 (IntKind.wrap .u64 (aY s) * 8) = ((8 * s.size : Nat) : Int) := by
  unfold aY
  rw [w, w]; omega
 have e5 : Int.tdiv ((8 * s.size : Nat) : Int) ((2 ^ (56 - 8 * i) : Nat) : Int) = ((8 * s.size / 2 ^ (56 - 8 * i) : Nat) : Int) := rfl
 have e6 : Int.fdiv ((8 * s.size : Nat) : Int) ((2 ^ (56 - 8 * i) : Nat) : Int) = ((8 * s.size / 2 ^ (56 - 8 * i) : Nat) : Int) := by
  rw [Int.fdiv_eq_ediv_of_nonneg _ (Int.natCast_nonneg _)]; rfl
 have hle : 8 * s.size / 2 ^ (56 - 8 * i) ≤ 7200 := Nat.le_trans (Nat.div_le_self _ _) (by omega)
 have key : IntKind.wrap .u8 (Int.fdiv (mP s) (2 ^ min (Int.toNat (IntKind.wrap .i64 (8 * IntKind.wrap .i64 (7 - (i : Int))))) (IntKind.bits .u64))) = rx s i := by
  unfold rx
  rw [e1, e2, e3, DY hs, e6, e4, Ee i hi, e5]
  generalize 8 * s.size / 2 ^ (56 - 8 * i) = q at hle
  have e7 : Int.tmod (IntKind.wrap .u64 ((q : Nat) : Int)) 256 = ((q % 256 : Nat) : Int) := by
   rw [w, show ((q : Nat) : Int) % 18446744073709551616 = ((q : Nat) : Int) by omega]
   rfl
  rw [e7, w8, w8]
  omega
 show al [IntKind.wrap .u8 _] = _
 rw [key]
theorem zQ {s : ByteArray} (hs : s.size ≤ 900) : ∀ i : Nat, i ≤ 8 → m6 s i = al (kW s i (k5 (gX (aU s ++ [128])) (aU s ++ [128])))
 | 0, _ => by
  show s ++ qR ++ iR bz (kI s) = al (k5 (gX (aU s ++ [128])) (aU s ++ [128]))
  rw [w6, uW, uW, Cc, C6 hs]
  have e : ∀ k : Nat, iR bz (k : Int) = al (List.replicate k 0) := fun k => j5 (by
   show (Lib.repeatL [0] (Int.toNat (k : Int))).toArray.toList = (List.map _ (List.replicate k (0 : Int))).toArray.toList
   rw [Int.toNat_natCast, List.map_replicate]
   show Lib.repeatL [0] k = List.replicate k 0
   induction k with
   | zero => rfl
   | succ k ih =>
    rw [List.replicate_succ, ← ih]
    rfl)
  rw [e]
  rfl
 | i + 1, hi => by
  show m6 s i ++ rB s (i : Nat) = al (kW s i _ ++ [rx s i])
  rw [uW, ← zQ hs i (by omega), D0 hs (by omega)]
end Go.Proofs.YtnakjijahkaoaaaDoor
namespace Go.Proofs.YtnakjijahkaoaaaDoor
open Go Go.RowKit
theorem rD {h : List Int} {j k a : Nat} (hj : j < 8) (hk : k < 4) (ha : ar h (j : Nat) = (a : Int)) : mg h ((4 * j + k : Nat) : Int) = ((a / 2 ^ (24 - 8 * k) % 256 : Nat) : Int) := by
 have e1 : IntKind.wrap .i64 (Int.tdiv ((4 * j + k : Nat) : Int) 4) = (j : Int) := by
  rw [Int.tdiv_eq_ediv_of_nonneg (Int.natCast_nonneg _), bc (by omega)]
  omega
 have e2 : Int.tmod ((4 * j + k : Nat) : Int) 4 = (k : Int) := by
  rw [Int.tmod_eq_emod_of_nonneg (Int.natCast_nonneg _)]
  omega
 have e3 : IntKind.wrap .i64 (24 - IntKind.wrap .i64 (8 * (k : Int))) = ((24 - 8 * k : Nat) : Int) := by
  rw [bc (n := 8 * (k : Int)) (by omega), bc (by omega)]
  omega
 have e4 : min (Int.toNat ((24 - 8 * k : Nat) : Int)) (IntKind.bits .u32) = 24 - 8 * k := by
  have e32 : IntKind.bits .u32 = 32 := rfl
  rw [e32, Int.toNat_natCast]; omega
 have e5 : (2 : Int) ^ (24 - 8 * k) = ((2 ^ (24 - 8 * k) : Nat) : Int) := by rw [Int.natCast_pow]; rfl
 have w8 : ∀ n : Int, IntKind.wrap .u8 n = n % 256 := fun n => rfl
 unfold mg
 rw [e1, e2, e3, e4, e5, show el (Ty.int IntKind.u32) h (j : Nat) = (a : Int) from ha, Int.fdiv_eq_ediv_of_nonneg _ (Int.natCast_nonneg _), w8]
 rfl
theorem zZ {h : List Int} (hl : h.length = 8) (hw : ∀ x ∈ h, isW x) : ∀ j : Nat, j ≤ 8 → qE h j = oK h (4 * j)
 | 0, _ => rfl
 | j + 1, hj => by
  have ih := zZ hl hw j (by omega)
  obtain ⟨a, ha, hlt⟩ := qM hw (i := j) (by omega)
  have w8 : ∀ n : Int, IntKind.wrap .u8 n = n % 256 := fun n => rfl
  have i0 : IntKind.wrap .i64 (4 * (j : Int)) = ((4 * j : Nat) : Int) := by rw [bc (by omega)]; omega
  have i1 : IntKind.wrap .i64 (((4 * j : Nat) : Int) + 1) = ((4 * j + 1 : Nat) : Int) := by rw [bc (by omega)]; omega
  have i2 : IntKind.wrap .i64 (((4 * j : Nat) : Int) + 2) = ((4 * j + 2 : Nat) : Int) := by rw [bc (by omega)]; omega
  have i3 : IntKind.wrap .i64 (((4 * j : Nat) : Int) + 3) = ((4 * j + 3 : Nat) : Int) := by rw [bc (by omega)]; omega
  have t0 : Int.tdiv (a : Int) 16777216 = ((a / 16777216 : Nat) : Int) := rfl
  have t1 : Int.tdiv (a : Int) 65536 = ((a / 65536 : Nat) : Int) := rfl
  have t2 : Int.tdiv (a : Int) 256 = ((a / 256 : Nat) : Int) := rfl
  have tm : ∀ n : Nat, Int.tmod (n : Int) 256 = ((n % 256 : Nat) : Int) := fun n => rfl
  have q : ∀ n : Nat, n ≤ a → IntKind.wrap .u32 (n : Int) = (n : Int) := fun n h => by rw [cz]; omega
  have o0 := rD (k := 0) (show j < 8 by omega) (by decide) ha
  have o1 := rD (k := 1) (show j < 8 by omega) (by decide) ha
  have o2 := rD (k := 2) (show j < 8 by omega) (by decide) ha
  have o3 := rD (k := 3) (show j < 8 by omega) (by decide) ha
  have v0 : IntKind.wrap .u8 (IntKind.wrap .u32 (Int.tdiv (a : Int) 16777216)) = mg h ((4 * j + 0 : Nat) : Int) := by
   rw [o0, t0, q _ (Nat.div_le_self _ _), w8]; rfl
  have v1 : IntKind.wrap .u8 (Int.tmod (IntKind.wrap .u32 (Int.tdiv (a : Int) 65536)) 256) = mg h ((4 * j + 1 : Nat) : Int) := by
   rw [o1, t1, q _ (Nat.div_le_self _ _), tm, w8, show 2 ^ (24 - 8 * 1) = 65536 from rfl]; omega
  have v2 : IntKind.wrap .u8 (Int.tmod (IntKind.wrap .u32 (Int.tdiv (a : Int) 256)) 256) = mg h ((4 * j + 2 : Nat) : Int) := by
   rw [o2, t2, q _ (Nat.div_le_self _ _), tm, w8, show 2 ^ (24 - 8 * 2) = 256 from rfl]; omega
  have v3 : IntKind.wrap .u8 (Int.tmod (a : Int) 256) = mg h ((4 * j + 3 : Nat) : Int) := by
   rw [o3, tm, w8, show 2 ^ (24 - 8 * 3) = 1 from rfl]; omega
  show stO h (qE h j) (j : Nat) = bF (Ty.int IntKind.u8) (bF (Ty.int IntKind.u8) (bF (Ty.int IntKind.u8) (bF (Ty.int IntKind.u8) (oK h (4 * j)) ((4 * j : Nat) : Int) (mg h ((4 * j : Nat) : Int))) ((4 * j + 1 : Nat) : Int) (mg h ((4 * j + 1 : Nat) : Int))) ((4 * j + 2 : Nat) : Int) (mg h ((4 * j + 2 : Nat) : Int))) ((4 * j + 3 : Nat) : Int) (mg h ((4 * j + 3 : Nat) : Int))
  unfold stO
  rw [ih, ha, i0, i1, i2, i3, v0, v1, v2, v3]
  rfl
theorem z7 {s : ByteArray} (hs : s.size ≤ 900) : hY s = t6 s := by
 have e : al (io s) = m6 s 8 := (zQ hs 8 (Nat.le_refl _)).symm
 unfold hY t6
 rw [e, Ea (yf (s := s) (by omega)), zZ (rn _ _) (xl _ _) 8 (Nat.le_refl _)]
end Go.Proofs.YtnakjijahkaoaaaDoor
namespace Go.Proofs.YtnakjijahkaoaaaDoor
open Go Go.RowKit
noncomputable abbrev fW : Fx := { fn := fD, ann := { loops := [(4, { keep := [4, 5, 6, 7] })] }, share := true }
noncomputable abbrev kT : bp := { D := { T := bT, F := [(iC, iK), (iD, iI)], R := [], ovl := [] }, inl := [] }
noncomputable abbrev tM : bS := .data jU
theorem oF (h_r02_Sum : aL prog [] iC iK) (h_r03_Key : aL prog [] iD iI) : XOk prog kT := xok (aO (aO (bv bE bm) h_r03_Key) h_r02_Sum) (by kernel_rfl) bj bu bt
noncomputable def uG (word : den Ty.str) (a : den tId) : ab := ab.req True (ab.all (den Ty.str) (fun (q2 : den Ty.str) ↦ q2 = bf a) fun (q2 : den Ty.str) ↦ ab.req (ByteArray.size word + ByteArray.size q2 ≤ 1099511627776) (ab.req (ByteArray.size (word ++ q2) ≤ 900) (ab.all (den tId) (fun (q3 : den tId) ↦ q3 = hY (word ++ q2)) fun (q3 : den tId) ↦ ab.loop [] fW (lp fD 4) [(4, K.ptr 0 tId []), (5, K.ptr (0 + 1) tId []), (6, K.ptr (0 + 1 + 1) tId []), (7, K.val ag 0)] [(0, Bx.cell tId (zero tId)), (0 + 1, Bx.cell tId q3), (0 + 1 + 1, Bx.cell tId (List.replicate 32 (zero (Ty.int IntKind.u8))))])))
theorem wv (word : den Ty.str) (a : den tId) : ax kT tM 5000 [] fW (aX fD) (Env.of (a6 rV (word, a, ()) 0) []) = uG word a := by kernel_rfl
noncomputable def qY (v7 : den ag) (b0 : den tId) (b1 : den tId) (b2 : den tId) : Env := Env.of [(4, K.ptr 0 tId []), (5, K.ptr (0 + 1) tId []), (6, K.ptr (0 + 1 + 1) tId []), (7, K.val ag v7)] [(0, Bx.cell tId b0), (1, Bx.cell tId b1), (2, Bx.cell tId b2)]
noncomputable def wk (v7 : den ag) (b0 : den tId) (b1 : den tId) (b2 : den tId) : ab := ab.ite (decide (v7 < 16)) (ab.req (inB v7 (↑32 : Int)) (ab.req (inB v7 (↑32 : Int)) (ab.loop [] fW (lp fD 4) [(4, K.ptr 0 tId []), (5, K.ptr (0 + 1) tId []), (6, K.ptr (0 + 1 + 1) tId []), (7, K.val ag (IntKind.wrap IntKind.i64 (v7 + 1)))] [(0, Bx.cell tId b0), (0 + 1, Bx.cell tId b1), (0 + 1 + 1, Bx.cell tId (bF (Ty.int IntKind.u8) b2 v7 (el (Ty.int IntKind.u8) b1 v7)))]))) (ab.ret (K.val (Ty.pair tId Ty.unit) (b2, PUnit.unit)))
theorem lT (v7 : den ag) (b0 : den tId) (b1 : den tId) (b2 : den tId) : ax kT tM 5000 [] fW (lp fD 4) (qY v7 b0 b1 b2) = wk v7 b0 b1 b2 := by kernel_rfl
noncomputable abbrev qp : Fx := { fn := ne, ann := { frz := [(1, [4]), (2, [7])] }, share := true }
noncomputable abbrev so : bp := { D := { T := bT, F := [(iC, iK)], R := [], ovl := [] }, inl := [] }
noncomputable abbrev yJ : bS := .data qB
theorem zj (h_r02_Sum : aL prog [] iC iK) : XOk prog so := xok (aO (bv bE bm) h_r02_Sum) (by kernel_rfl) bj bu bt
noncomputable def rX (secret : den Ty.str) (id : den tId) (host : den ag) : ab := ab.req (ByteArray.size { data := { toList := [110, 111, 110, 99, 101] } } + ByteArray.size secret ≤ 1099511627776) (ab.req (bo 0 (↑32 : Int) (↑32 : Int)) (ab.req (ByteArray.size ({ data := { toList := [110, 111, 110, 99, 101] } } ++ secret) + ByteArray.size (al (bB (Ty.int IntKind.u8) id 0 (↑32 : Int))) ≤ 1099511627776) (ab.req (ByteArray.size ({ data := { toList := [110, 111, 110, 99, 101] } } ++ secret ++ al (bB (Ty.int IntKind.u8) id 0 (↑32 : Int))) + ByteArray.size (al (List.set (List.replicate 1 (zero (Ty.int IntKind.u8))) 0 (IntKind.wrap IntKind.u8 host))) ≤ 1099511627776) (ab.req (ByteArray.size ({ data := { toList := [110, 111, 110, 99, 101] } } ++ secret ++ al (bB (Ty.int IntKind.u8) id 0 (↑32 : Int)) ++ al (List.set (List.replicate 1 (zero (Ty.int IntKind.u8))) 0 (IntKind.wrap IntKind.u8 host))) ≤ 900) (ab.all (den tId) (fun (q3 : den tId) ↦ q3 = hY ({ data := { toList := [110, 111, 110, 99, 101] } } ++ secret ++ al (bB (Ty.int IntKind.u8) id 0 (↑32 : Int)) ++ al (List.set (List.replicate 1 (zero (Ty.int IntKind.u8))) 0 (IntKind.wrap IntKind.u8 host)))) fun (q3 : den tId) ↦ ab.req (bo 0 16 (↑32 : Int)) (ab.ret (K.val (Ty.pair Ty.str Ty.unit) (al (bB (Ty.int IntKind.u8) (hY ({ data := { toList := [110, 111, 110, 99, 101] } } ++ secret ++ al (bB (Ty.int IntKind.u8) id 0 (↑32 : Int)) ++ al (List.set (List.replicate 1 (zero (Ty.int IntKind.u8))) 0 (IntKind.wrap IntKind.u8 host)))) 0 16), PUnit.unit))))))))
theorem uO (secret : den Ty.str) (id : den tId) (host : den ag) : ax so yJ 5000 [] qp (aX ne) (Env.of (a6 qa (secret, id, host, ()) 0) []) = rX secret id host := by kernel_rfl
end Go.Proofs.YtnakjijahkaoaaaDoor
namespace Go.Proofs.YtnakjijahkaoaaaDoor
open Go Go.RowKit
theorem Ci (a b : ByteArray) : bC [a, b] e0 = a ++ b := by
 rw [oG]
 refine j5 ?_
 rw [ByteArray.data_append, Array.toList_append]
 simp
theorem Ak (a b c d : ByteArray) : bC [a, b, c, d] e0 = a ++ b ++ c ++ d := by
 rw [oG]
 refine j5 ?_
 rw [ByteArray.data_append, ByteArray.data_append, ByteArray.data_append, Array.toList_append, Array.toList_append, Array.toList_append]
 simp
theorem it (a b : ByteArray) : (a ++ b).size = a.size + b.size := ByteArray.size_append
theorem Cf (a : List Int) : (g7 a).size ≤ 16 := by unfold g7; rw [dR]; exact rE a 16
def iB (secret : ByteArray) (id : List Int) (host : Int) : ByteArray := al (bB (.int .u8) (eE (lr secret id host)) 0 16)
noncomputable abbrev gG : bW := ⟨rV, jU, fun x => (bA x.1 x.2.1, ()), fun x => ByteArray.size x.1 ≤ 100, false⟩
noncomputable abbrev jX : bW := ⟨qa, qB, fun x => (iB x.1 x.2.1 x.2.2.1, ()), fun x => ByteArray.size x.1 ≤ 100, false⟩
def vr (d : List Int) : Nat → List Int
 | 0 => List.replicate 32 (zero (Ty.int IntKind.u8))
 | i + 1 => bF (Ty.int IntKind.u8) (vr d i) (i : Nat) (el (Ty.int IntKind.u8) d (i : Nat))
theorem sT {d : List Int} (hd : d.length = 32) : ∀ i : Nat, i ≤ 32 → vr d i = d.take i ++ List.replicate (32 - i) 0
 | 0, _ => rfl
 | i + 1, hi => by
  have ih := sT hd i (by omega)
  show List.set (vr d i) (Int.toNat (i : Nat)) (el (Ty.int IntKind.u8) d (i : Nat)) = _
  have e : el (Ty.int IntKind.u8) d (i : Nat) = d[i]'(by omega) := rh (e := .int .u8) (by omega)
  have hl : (d.take i).length = i := by rw [List.length_take]; omega
  rw [ih, Int.toNat_natCast, e, List.set_append_right _ _ (by omega), hl, Nat.sub_self, show 32 - i = (32 - (i + 1)) + 1 by omega, List.replicate_succ, List.set_cons_zero, List.take_succ_eq_append_getElem (by omega), List.append_assoc]
  rfl
theorem zS (word : ByteArray) (a : List Int) : bA word a = vr (eE [word, g7 a]) 16 := by
 have hs := vC [word, g7 a]
 rw [sT hs 16 (by decide)]
 unfold bA over bB eS
 have e0' : Int.toNat 0 = 0 := rfl
 have e32 : Int.toNat 32 = 32 := rfl
 generalize eE [word, g7 a] = S at hs
 have hl : (List.take 16 S).length = 16 := by rw [List.length_take, hs]; rfl
 rw [e0', e32, List.drop_zero, List.take_take, List.take_zero, List.nil_append, Nat.min_eq_left (by decide), hl]
 rfl
abbrev GM3 (O : Nat → Prop) (v0 : World) (y : List Int) := br prog kT (Cx.base O v0) (dQ prog O v0 jU fun z => z = (y, ()))
def yO (O : Nat → Prop) (v0 : World) (b0 d y : List Int) (hy : y = vr d 16) :=
 PLift.up <| bO (σ := List Int) 16 (fun i b => b = vr d i)
  (fun i b => GM3 O v0 y [] fW (lp fD 4) (qY (i : Nat) b0 d b))
  (fun i b hi hb ih => aF (oF mV my) (lT _ b0 d b) (by
   have hB : inB (i : Int) ((32 : Nat) : Int) := ⟨by omega, by omega⟩
   refine ⟨fun _ => ⟨hB, hB, ?_⟩, fun hc => absurd (Int.ofNat_lt.2 hi) (of_decide_eq_false hc)⟩
   rw [cJ hi (by decide)]
   refine ih _ ?_
   rw [hb]
   rfl))
  (fun b hb => aF (oF mV my) (lT _ b0 d b) (by
   refine ⟨fun hc => absurd (of_decide_eq_true hc) (by decide), fun _ => ⟨_, rfl, ?_⟩⟩
   show (b, ()) = (y, ())
   rw [hb, hy]))
theorem ul : aL prog [] gR gG :=
 cE (S := gG) (oF mV my) (fx := fW) y5 (by kernel_rfl) (fun h => by cases h) (T := fun x => uG x.1 x.2.1) (fun x => wv x.1 x.2.1) fun O v0 x _ hp => by
  obtain ⟨word, a, ⟨⟩⟩ := x
  have hp : word.size ≤ 100 := hp
  have hk := Cf a
  have hz : (word ++ g7 a).size ≤ 900 := by rw [it]; omega
  refine ⟨trivial, aR ⟨show word.size + (g7 a).size ≤ 1099511627776 by omega, hz, aR ?_⟩⟩
  show br _ _ _ (dQ prog O v0 jU fun z => z = (bA word a, ())) _ _ _ _
  have e : hY (word ++ g7 a) = eE [word, g7 a] := by
   rw [z7 hz]
   unfold eE
   rw [Ci]
  exact (yO O v0 (zero tId) (hY (word ++ g7 a)) (bA word a) (by rw [e]; exact zS word a)).down 0 _ (Nat.zero_le _) rfl
theorem yL : aL prog [] jS jX :=
 cE (S := jX) (zj mV) (fx := qp) wT (by kernel_rfl) (fun h => by cases h) (T := fun x => rX x.1 x.2.1 x.2.2.1) (fun x => uO x.1 x.2.1 x.2.2.1) fun O v0 x _ hp => by
  obtain ⟨secret, id, host, ⟨⟩⟩ := x
  have hp : secret.size ≤ 100 := hp
  have h1 : kw.size = 5 := rfl
  have h2 : (al (bB (.int .u8) id 0 32)).size ≤ 32 := by rw [dR]; exact rE id 32
  have h3 : (al [IntKind.wrap .u8 host]).size = 1 := rfl
  have hz : (kw ++ secret ++ al (bB (.int .u8) id 0 32) ++ al [IntKind.wrap .u8 host]).size ≤ 900 := by rw [it, it, it]; omega
  have e : hY (kw ++ secret ++ al (bB (.int .u8) id 0 32) ++ al [IntKind.wrap .u8 host]) = eE (lr secret id host) := by
   rw [z7 hz]
   unfold eE lr
   rw [Ak]
  refine ⟨show kw.size + secret.size ≤ 1099511627776 by omega, ⟨by decide, by decide, by decide⟩, show (kw ++ secret).size + (al (bB (.int .u8) id 0 32)).size ≤ 1099511627776 by rw [it]; omega, show (kw ++ secret ++ al (bB (.int .u8) id 0 32)).size + (al [IntKind.wrap .u8 host]).size ≤ 1099511627776 by rw [it, it]; omega, hz, aR ⟨⟨by decide, by decide, by decide⟩, _, rfl, ?_⟩⟩
  show (al (bB (.int .u8) (hY (kw ++ secret ++ al (bB (.int .u8) id 0 32) ++ al [IntKind.wrap .u8 host])) 0 16), ()) = (iB secret id host, ())
  rw [e]
  rfl
end Go.Proofs.YtnakjijahkaoaaaDoor
namespace Go.Proofs.YtnakjijahkaoaaaDoor
open Go Go.RowKit
noncomputable abbrev qw : Fx := { fn := mZ, ann := { } }
noncomputable abbrev rW : bp := { D := { T := bT, F := [(iD, iI), (gR, gG)], R := [], ovl := [] }, inl := [] }
noncomputable abbrev yW : bS := .data qZ
theorem zo (h_r03_Key : aL prog [] iD iI) (h_r03_Made : aL prog [] gR gG) : XOk prog rW := xok (aO (aO (bv bE bm) h_r03_Made) h_r03_Key) (by kernel_rfl) bj bu bt
noncomputable def sb (a : den tId) (b : den tId) : ab := ab.req True (ab.req (ByteArray.size { data := { toList := [108, 101, 102, 116] } } ≤ 100) (ab.req True (ab.req (ip [(eqb Ty.str (bf b) (bf (bA { data := { toList := [108, 101, 102, 116] } } a)), false)] True) (ab.req (ip [(eqb Ty.str (bf b) (bf (bA { data := { toList := [108, 101, 102, 116] } } a)), false)] (ByteArray.size { data := { toList := [114, 105, 103, 104, 116] } } ≤ 100)) (ab.req (ip [(eqb Ty.str (bf b) (bf (bA { data := { toList := [108, 101, 102, 116] } } a)), false)] True) (ab.ret (K.val (Ty.pair Ty.bool Ty.unit) (bif eqb Ty.str (bf b) (bf (bA { data := { toList := [108, 101, 102, 116] } } a)) then true else eqb Ty.str (bf a) (bf (bA { data := { toList := [114, 105, 103, 104, 116] } } b)), PUnit.unit))))))))
theorem vh (a : den tId) (b : den tId) : ax rW yW 5000 [] qw (aX mZ) (Env.of (a6 qA (a, b, ()) 0) []) = sb a b := by kernel_rfl
end Go.Proofs.YtnakjijahkaoaaaDoor
namespace Go.Proofs.YtnakjijahkaoaaaDoor
open Go Go.RowKit
def gy (a b : List Int) : Bool := bif eqb Ty.str (bf b) (bf (cK a)) then true else eqb Ty.str (bf a) (bf (fq b))
noncomputable abbrev jH : bW := ⟨qA, qZ, fun x => (gy x.1 x.2.1, ()), fun _ => True, true⟩
theorem y8 : aL prog [] jY jH :=
 cE (S := jH) (zo my ul) (fx := qw) yi (by kernel_rfl) (fun _ _ => trivial) (T := fun x => sb x.1 x.2.1) (fun x => vh x.1 x.2.1) fun O v0 x _ _ =>
  ⟨trivial, by decide, trivial, fun _ => trivial, fun _ => (show 5 ≤ 100 by decide), fun _ => trivial, _, rfl, rfl⟩
end Go.Proofs.YtnakjijahkaoaaaDoor
namespace Go.Proofs.YtnakjijahkaoaaaDoor
open Go Go.RowKit
noncomputable abbrev kP : Fx := { fn := iA, ann := { frz := [(2, [4, 5])] }, share := true }
noncomputable abbrev lP : bp := { D := { T := bT, F := [(eB, d9), (dr, dt), (d7, d8), (ef, eC), (gR, gG), (jY, jH), (jS, jX), (jN, j2)], R := [], ovl := [], G := gl }, inl := [] }
noncomputable abbrev sL : bS := .data rG
theorem ta (h_proof_Nonce : aL prog gl eB d9) (h_proof_Left : aL prog gl dr dt) (h_proof_Right : aL prog gl d7 d8) (h_proof_Links : aL prog gl ef eC) (h_r03_Made : aL prog gl gR gG) (h_r03_Links : aL prog gl jY jH) (h_r03_Nonce : aL prog gl jS jX) (h_l03_alive : aL prog gl jN j2) : XOk prog lP := xok (aO (aO (aO (aO (aO (aO (aO (aO (bv bE bm) h_l03_alive) h_r03_Nonce) h_r03_Links) h_r03_Made) h_proof_Links) h_proof_Right) h_proof_Left) h_proof_Nonce) (by kernel_rfl) bj bu bt
noncomputable def fw (a : den tId) (b : den tId) (secret : den Ty.str) (host : den ag) : ab := ab.req (bo 0 (g9 (aY secret) 70) (aY secret)) (ab.req True (ab.all (den (Ty.pair Ty.str (Ty.pair ag Ty.unit))) (fun (q4 : den (Ty.pair Ty.str (Ty.pair ag Ty.unit))) ↦ q4 = (Prod.fst (bJ (bI secret 0 (g9 (aY secret) 70)) a host), Prod.snd (bJ (bI secret 0 (g9 (aY secret) 70)) a host), PUnit.unit)) fun (q4 : den (Ty.pair Ty.str (Ty.pair ag Ty.unit))) ↦ ab.req True (ab.req (ByteArray.size { data := { toList := [108, 101, 102, 116] } } ≤ 100) (ab.req (ip [(!eqb tId (cK a) (bA { data := { toList := [108, 101, 102, 116] } } a), false)] True) (ab.req (ip [(!eqb tId (cK a) (bA { data := { toList := [108, 101, 102, 116] } } a), false)] (ByteArray.size { data := { toList := [114, 105, 103, 104, 116] } } ≤ 100)) (ab.req (ip [(bif !eqb tId (cK a) (bA { data := { toList := [108, 101, 102, 116] } } a) then true else !eqb tId (fq a) (bA { data := { toList := [114, 105, 103, 104, 116] } } a), false)] True) (ab.req (ip [(bif !eqb tId (cK a) (bA { data := { toList := [108, 101, 102, 116] } } a) then true else !eqb tId (fq a) (bA { data := { toList := [114, 105, 103, 104, 116] } } a), false)] True) (ab.req (ip [(bif bif !eqb tId (cK a) (bA { data := { toList := [108, 101, 102, 116] } } a) then true else !eqb tId (fq a) (bA { data := { toList := [114, 105, 103, 104, 116] } } a) then true else !eqO (dA a b) (gy a b), false)] True) (ab.all (den tId) (fun (q5 : den tId) ↦ q5 = cK a) fun (q5 : den tId) ↦ ab.all (den tId) (fun (q6 : den tId) ↦ q6 = bA { data := { toList := [108, 101, 102, 116] } } a) fun (q6 : den tId) ↦ ab.ite (bif bif bif !eqb tId (cK a) (bA { data := { toList := [108, 101, 102, 116] } } a) then true else !eqb tId (fq a) (bA { data := { toList := [114, 105, 103, 104, 116] } } a) then true else !eqO (dA a b) (gy a b) then true else !true) (ab.ret (K.val (Ty.pair Ty.bool Ty.unit) (false, PUnit.unit))) (ab.ite (bif decide (host < 0) then true else decide (15 < host)) (ab.ret (K.val (Ty.pair Ty.bool Ty.unit) (bif decide (Prod.fst (Prod.snd q4) = 1) then eqb Ty.str (Prod.fst q4) { data := { toList := [] } } else false, PUnit.unit))) (ab.ite (decide (64 < aY (bI secret 0 (g9 (aY secret) 70)))) (ab.ret (K.val (Ty.pair Ty.bool Ty.unit) (bif decide (Prod.fst (Prod.snd q4) = 2) then eqb Ty.str (Prod.fst q4) { data := { toList := [] } } else false, PUnit.unit))) (ab.req (ip [(decide (Prod.fst (Prod.snd q4) = 0), true)] (ByteArray.size (bI secret 0 (g9 (aY secret) 70)) ≤ 100)) (ab.ret (K.val (Ty.pair Ty.bool Ty.unit) (bif decide (Prod.fst (Prod.snd q4) = 0) then eqb Ty.str (Prod.fst q4) (iB (bI secret 0 (g9 (aY secret) 70)) a host) else false, PUnit.unit)))))))))))))))
theorem pC (a : den tId) (b : den tId) (secret : den Ty.str) (host : den ag) : ax lP sL 5000 [] kP (aX iA) (Env.of (a6 da (a, b, secret, host, ()) 0) []) = fw a b secret host := by kernel_rfl
end Go.Proofs.YtnakjijahkaoaaaDoor
namespace Go.Proofs.YtnakjijahkaoaaaDoor
open Go Go.RowKit
def Byt (l : List Int) : Prop := ∀ y ∈ l, 0 ≤ y ∧ y ≤ 255
theorem EO (n : Int) : 0 ≤ IntKind.wrap .u8 n ∧ IntKind.wrap .u8 n ≤ 255 := by
 have e : IntKind.wrap .u8 n = n % 256 := rfl
 rw [e]
 omega
theorem xC (h : List Int) : ∀ n : Nat, Byt (oK h n)
 | 0 => fun y hy => by
  rw [List.eq_of_mem_replicate hy]
  decide
 | n + 1 => fun y hy => by
  rcases List.mem_or_eq_of_mem_set hy with hy | rfl
  ·exact xC h n y hy
  ·exact EO _
theorem yk (w : ByteArray) (a : List Int) : Byt (bA w a) := by
 have hs := vC [w, g7 a]
 rw [zS, sT hs 16 (by decide)]
 intro y hy
 rcases List.mem_append.1 hy with hy | hy
 ·exact xC _ _ y (List.mem_of_mem_take hy)
 ·rw [List.eq_of_mem_replicate hy]
  decide
theorem wa {a : List Int} (ha : Byt a) : aU (bf a) = bD a := Cn (xs := List.take 16 a) fun y hy => ha y (List.mem_of_mem_take hy)
theorem xq {a b : List Int} (ha : Byt a) (hb : Byt b) : eqb Ty.str (bf a) (bf b) = eqb aj (bD a) (bD b) := by
 rw [Bool.eq_iff_iff, fT (t := .str) rfl, fT (t := aj) rfl]
 refine ⟨fun h => ?_, fun h => ?_⟩
 ·rw [← wa ha, ← wa hb, h]
 ·have h : List.take 16 a = List.take 16 b := h
  show al (List.take 16 a) = al (List.take 16 b)
  rw [h]
theorem At {a b : List Int} (ha : Byt a) (hb : Byt b) : gy a b = dA a b := by
 have h1 : Byt (cK a) := yk _ _
 have h2 : Byt (fq b) := yk _ _
 unfold gy dA
 rw [xq hb h1, xq ha h2]
theorem Df (host : Int) (h : (bif decide (host < 0) then true else decide (15 < host)) = true) : host < 0 ∨ 16 ≤ host := by
 by_cases h0 : host < 0
 ·exact .inl h0
 ·rw [decide_eq_false h0] at h
  have := of_decide_eq_true h
  exact .inr (by omega)
theorem vU (host : Int) (h : (bif decide (host < 0) then true else decide (15 < host)) = false) : ¬ (host < 0 ∨ 16 ≤ host) := by
 by_cases h0 : host < 0
 ·rw [decide_eq_true h0] at h; cases h
 ·rw [decide_eq_false h0] at h
  have : ¬ (15 : Int) < host := of_decide_eq_false h
  omega
theorem Cj {s : ByteArray} {a : List Int} {host : Int} (h : host < 0 ∨ 16 ≤ host) : bJ s a host = (e0, 1) := by unfold bJ; rw [if_pos h]
theorem AT {s : ByteArray} {a : List Int} {host : Int} (h : ¬ (host < 0 ∨ 16 ≤ host)) (h2 : 64 < s.size) : bJ s a host = (e0, 2) := by unfold bJ; rw [if_neg h, if_pos h2]
theorem A6 {s : ByteArray} {a : List Int} {host : Int} (h : ¬ (host < 0 ∨ 16 ≤ host)) (h2 : ¬ 64 < s.size) : bJ s a host = (iB s a host, 0) := by unfold bJ; rw [if_neg h, if_neg h2]; rfl
theorem Do (s : ByteArray) : eqb Ty.str s s = true := (fT (t := .str) rfl _ _).2 rfl
theorem sy : aL prog gl lY (Dj da) :=
 cE (S := Dj da) (ta oZ lX pf pv (bQ ul) (bQ y8) (bQ yL) yI) (fx := kP) rK (by kernel_rfl) (fun _ _ => trivial) (T := fun x => fw x.1 x.2.1 x.2.2.1 x.2.2.2.1) (fun x => pC x.1 x.2.1 x.2.2.1 x.2.2.2.1) fun O v0 x hk _ => by
  obtain ⟨a, b, secret, host, ⟨⟩⟩ := x
  have ha : Byt a := BO hk.1
  have hb : Byt b := BO hk.2.1
  have e1 : eqb tId (cK a) (bA Ba a) = true := by rw [Bt]; exact decide_eq_true rfl
  have e2 : eqb tId (fq a) (bA tA a) = true := by rw [Bt]; exact decide_eq_true rfl
  have e3 : eqO (dA a b) (gy a b) = true := by rw [At ha hb]; cases dA a b <;> rfl
  show aK _ _ _ _ _ (fw a b secret host)
  unfold fw
  have hs := BP secret 70
  refine ⟨Ew secret 70, ?_⟩
  have hs : (bI secret 0 (g9 (aY secret) 70)).size ≤ 70 := hs
  generalize bI secret 0 (g9 (aY secret) 70) = s at hs
  refine ⟨trivial, aR ⟨trivial, by decide, fun _ => trivial, fun _ => (show tA.size ≤ 100 by decide), fun _ => trivial, fun _ => trivial, fun _ => trivial, aR <| aR ⟨fun h => ?_, fun _ => ⟨fun h => ?_, fun h => ⟨fun h2 => ?_, fun h2 => ⟨fun _ => (show s.size ≤ 100 by omega), ?_⟩⟩⟩⟩⟩⟩
  ·exfalso
   have h : (bif bif bif !eqb tId (cK a) (bA Ba a) then true else !eqb tId (fq a) (bA tA a) then true else !eqO (dA a b) (gy a b) then true else !true) = true := h
   rw [e1, e2, e3] at h
   cases h
  ·rw [Cj (Df host h)]
   exact ⟨_, rfl, rfl⟩
  ·rw [AT (vU host h) (Int.ofNat_lt.1 (of_decide_eq_true h2))]
   exact ⟨_, rfl, rfl⟩
  ·have e := A6 (s := s) (a := a) (vU host h) (fun h3 => of_decide_eq_false h2 (Int.ofNat_lt.2 h3))
   refine ⟨_, rfl, Prod.ext ?_ rfl⟩
   show (bif decide ((bJ s a host).2 = 0) then eqb Ty.str (bJ s a host).1 (iB s a host) else false) = true
   rw [e]
   show (bif decide ((0 : Int) = 0) then eqb Ty.str (iB s a host) (iB s a host) else false) = true
   rw [Do]
   rfl
end Go.Proofs.YtnakjijahkaoaaaDoor
