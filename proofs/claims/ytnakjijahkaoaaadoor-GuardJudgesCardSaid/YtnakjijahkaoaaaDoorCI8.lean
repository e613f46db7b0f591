/- Part 8 of 10 of what this claim's proof stands on: a theory of programs on data, and the contracts of the functions that the law reaches. It holds no condition of its own. -/
import Derived.Test.YtnakjijahkaoaaaDoorCI7
namespace Go.Proofs.YtnakjijahkaoaaaDoor
open Go Go.RowKit
theorem Hn (xs : List (List UInt8)) : Lib.join xs [] = xs.flatten := by
 cases xs with
 | nil => rfl
 | cons x r =>
  rw [Lib.join_cons]
  unfold Lib.joinTail
  have : (fun y : List UInt8 => [] ++ y) = id := by funext y; rfl
  rw [this, List.map_id, List.flatten_cons]
theorem qz (xs : List ByteArray) : bL xs e0 = ⟨((xs.map (·.data.toList)).flatten).toArray⟩ := by
 unfold bL
 have : e0.data.toList = [] := rfl
 rw [this, Hn]
theorem HY (n : Nat) : ∀ xs : List ByteArray, (∀ x ∈ xs, x.size ≤ n) → (bL xs e0).size ≤ xs.length * n := by
 intro xs h
 rw [qz, t8]
 induction xs with
 | nil => simp
 | cons x r ih =>
  rw [List.map_cons, List.flatten_cons, List.length_append, List.length_cons, Nat.add_mul, Nat.one_mul]
  have h1 := ih fun y hy => h y (List.mem_cons_of_mem _ hy)
  have h2 := h x List.mem_cons_self
  have h3 : x.data.toList.length = x.size := rfl
  omega
end Go.Proofs.YtnakjijahkaoaaaDoor
namespace Go.Proofs.YtnakjijahkaoaaaDoor
open Go Go.RowKit
noncomputable abbrev ru : Fx := { fn := nA, ann := { frz := [(1, [3]), (3, [5])] }, share := true }
noncomputable abbrev tA : aZ := { D := { T := bc, F := [(fq, fy)], R := [], ovl := [], G := gl }, inl := [] }
noncomputable abbrev Cz : bm := .data rD
theorem CW (h_digest_Sum : au prog gl fq fy) : XOk prog tA := xok (aB (aO aT aE) h_digest_Sum) (by kernel_rfl) aG aQ aR
noncomputable def tP (word : den Ty.str) (a : den tId) : ab := ab.req (bv 0 16 (↑32 : Int)) (ab.req (List.length (List.set (List.set (List.replicate 2 (zero Ty.str)) 0 word) 1 (aj (bF (Ty.int IntKind.u8) a 0 16))) ≤ 1000000 ∧ ByteArray.size (bL (List.set (List.set (List.replicate 2 (zero Ty.str)) 0 word) 1 (aj (bF (Ty.int IntKind.u8) a 0 16))) e0) ≤ 900000) (ab.all (den tId) (fun (q2 : den tId) ↦ q2 = fl (List.set (List.set (List.replicate 2 (zero Ty.str)) 0 word) 1 (aj (bF (Ty.int IntKind.u8) a 0 16)))) fun (q2 : den tId) ↦ ab.req (bv 0 16 (↑32 : Int)) (ab.req (bv 0 (↑32 : Int) (↑32 : Int)) (ab.ret (K.val (Ty.pair tId Ty.unit) (over (zero tId) (Int.toNat 0) (List.take (Int.toNat 16 - Int.toNat 0) (bF (Ty.int IntKind.u8) q2 0 (↑32 : Int))), PUnit.unit))))))
theorem yt (word : den Ty.str) (a : den tId) : al tA Cz 5000 [] ru (aA nA) (Env.of (aN rA (word, a, ()) 0) []) = tP word a := by kernel_rfl
noncomputable abbrev pV : Fx := { fn := lL, ann := { frz := [(5, [4]), (6, [8])] }, share := true }
noncomputable abbrev rB : aZ := { D := { T := bc, F := [(fq, fy)], R := [], ovl := [], G := gl }, inl := [] }
noncomputable abbrev AY : bm := .data pJ
theorem AI (h_digest_Sum : au prog gl fq fy) : XOk prog rB := xok (aB (aO aT aE) h_digest_Sum) (by kernel_rfl) aG aQ aR
noncomputable def rQ (secret : den Ty.str) (id : den tId) (host : den af) : ab := ab.ite (bif decide (host < 0) then true else decide (16 ≤ host)) (ab.ret (K.val (Ty.pair Ty.str (Ty.pair af Ty.unit)) ({ data := { toList := [] } }, 1, PUnit.unit))) (ab.ite (decide (64 < ax secret)) (ab.ret (K.val (Ty.pair Ty.str (Ty.pair af Ty.unit)) ({ data := { toList := [] } }, 2, PUnit.unit))) (ab.req (bv 0 (↑32 : Int) (↑32 : Int)) (ab.req (List.length (List.set (List.set (List.set (List.set (List.replicate 4 (zero Ty.str)) 0 { data := { toList := [110, 111, 110, 99, 101] } }) 1 secret) 2 (aj (bF (Ty.int IntKind.u8) id 0 (↑32 : Int)))) 3 (aj (List.set (List.replicate 1 (zero (Ty.int IntKind.u8))) 0 (IntKind.wrap IntKind.u8 host)))) ≤ 1000000 ∧ ByteArray.size (bL (List.set (List.set (List.set (List.set (List.replicate 4 (zero Ty.str)) 0 { data := { toList := [110, 111, 110, 99, 101] } }) 1 secret) 2 (aj (bF (Ty.int IntKind.u8) id 0 (↑32 : Int)))) 3 (aj (List.set (List.replicate 1 (zero (Ty.int IntKind.u8))) 0 (IntKind.wrap IntKind.u8 host)))) e0) ≤ 900000) (ab.all (den tId) (fun (q3 : den tId) ↦ q3 = fl (List.set (List.set (List.set (List.set (List.replicate 4 (zero Ty.str)) 0 { data := { toList := [110, 111, 110, 99, 101] } }) 1 secret) 2 (aj (bF (Ty.int IntKind.u8) id 0 (↑32 : Int)))) 3 (aj (List.set (List.replicate 1 (zero (Ty.int IntKind.u8))) 0 (IntKind.wrap IntKind.u8 host))))) fun (q3 : den tId) ↦ ab.req (bv 0 16 (↑32 : Int)) (ab.ret (K.val (Ty.pair Ty.str (Ty.pair af Ty.unit)) (aj (bF (Ty.int IntKind.u8) (fl (List.set (List.set (List.set (List.set (List.replicate 4 (zero Ty.str)) 0 { data := { toList := [110, 111, 110, 99, 101] } }) 1 secret) 2 (aj (bF (Ty.int IntKind.u8) id 0 (↑32 : Int)))) 3 (aj (List.set (List.replicate 1 (zero (Ty.int IntKind.u8))) 0 (IntKind.wrap IntKind.u8 host))))) 0 16), 0, PUnit.unit)))))))
theorem wb (secret : den Ty.str) (id : den tId) (host : den af) : al rB AY 5000 [] pV (aA lL) (Env.of (aN qa (secret, id, host, ()) 0) []) = rQ secret id host := by kernel_rfl
end Go.Proofs.YtnakjijahkaoaaaDoor
namespace Go.Proofs.YtnakjijahkaoaaaDoor
open Go Go.RowKit
theorem d8 (xs : List Int) : (aj xs).size = xs.length := by
 show (xs.map _).toArray.size = _
 rw [List.size_toArray, List.length_map]
theorem un (xs : List Int) (h : Nat) : (bF (.int .u8) xs 0 (h : Int)).length ≤ h := by
 unfold bF eJ
 rw [List.length_drop, List.length_take]
 omega
theorem vK {l : List ByteArray} {n : Nat} (h : ∀ x ∈ l, x.size ≤ n) (hn : l.length * n ≤ 900000) (hl : l.length ≤ 1000000) : l.length ≤ 1000000 ∧ ByteArray.size (bL l e0) ≤ 900000 :=
 ⟨hl, Nat.le_trans (HY n l h) hn⟩
def Ks : ByteArray := ⟨⟨[108, 101, 102, 116]⟩⟩
def JY : ByteArray := ⟨⟨[114, 105, 103, 104, 116]⟩⟩
def ly : ByteArray := ⟨⟨[110, 111, 110, 99, 101]⟩⟩
def iv (a : List Int) : ByteArray := aj (bF (.int .u8) a 0 16)
def dR (word : ByteArray) (a : List Int) : List Int := over (zero tId) 0 (List.take 16 (bF (.int .u8) (fl [word, iv a]) 0 32))
noncomputable abbrev fE : bh := ⟨rA, rD, fun x => (dR x.1 x.2.1, ()), fun x => ByteArray.size x.1 ≤ 1000, false⟩
theorem tM : au prog gl fA fE :=
 bw (S := fE) (CW si) (fx := ru) AM (by kernel_rfl) (fun h => by cases h) (T := fun x => tP x.1 x.2.1) (fun x => yt x.1 x.2.1) fun O w0 x _ hp => by
  obtain ⟨word, a, ⟨⟩⟩ := x
  have hp : word.size ≤ 1000 := hp
  have hk : (iv a).size ≤ 16 := by unfold iv; rw [d8]; exact un a 16
  refine ⟨⟨by decide, by decide, by decide⟩, vK (l := [word, iv a]) (n := 1000) (fun x hx => ?_) (show 2 * 1000 ≤ 900000 by decide) (show 2 ≤ 1000000 by decide), aM ⟨⟨by decide, by decide, by decide⟩, ⟨by decide, by decide, by decide⟩, _, rfl, rfl⟩⟩
  rcases List.mem_cons.1 hx with rfl | hx
  ·exact hp
  ·rcases List.mem_cons.1 hx with rfl | hx
   ·omega
   ·cases hx
def pO (secret : ByteArray) (id : List Int) (host : Int) : List ByteArray := [ly, secret, aj (bF (.int .u8) id 0 32), aj [IntKind.wrap .u8 host]]
def bj (secret : ByteArray) (id : List Int) (host : Int) : ByteArray × Int :=
 if host < 0 ∨ 16 ≤ host then (e0, 1) else if 64 < secret.size then (e0, 2) else (aj (bF (.int .u8) (fl (pO secret id host)) 0 16), 0)
noncomputable abbrev iJ : bh := ⟨qa, pJ, fun x => ((bj x.1 x.2.1 x.2.2.1).1, (bj x.1 x.2.1 x.2.2.1).2, ()), fun _ => True, true⟩
theorem AA : au prog gl iM iJ :=
 bw (S := iJ) (AI si) (fx := pV) yK (by kernel_rfl) (fun _ _ => trivial) (T := fun x => rQ x.1 x.2.1 x.2.2.1) (fun x => wb x.1 x.2.1 x.2.2.1) fun O w0 x _ _ => by
  obtain ⟨secret, id, host, ⟨⟩⟩ := x
  have key : ∀ host : Int, (decide (host < 0 ∨ 16 ≤ host)) = bif decide (host < 0) then true else decide (16 ≤ host) := fun host => by
   by_cases h1 : host < 0
   ·rw [decide_eq_true h1, decide_eq_true (.inl h1)]; rfl
   ·rw [decide_eq_false h1]
    rw [decide_eq_decide.2 (show (host < 0 ∨ 16 ≤ host) ↔ 16 ≤ host by omega)]; rfl
  refine ⟨fun h => ⟨_, rfl, ?_⟩, fun h => ⟨fun h2 => ⟨_, rfl, ?_⟩, fun h2 => ⟨⟨by decide, by decide, by decide⟩, ?_, aM ⟨⟨by decide, by decide, by decide⟩, _, rfl, ?_⟩⟩⟩⟩
  ·have h := of_decide_eq_true ((key host).trans h)
   show (e0, (1 : Int), ()) = ((bj secret id host).1, (bj secret id host).2, ())
   unfold bj
   rw [if_pos h]
  ·have h := of_decide_eq_false ((key host).trans h)
   have h2 : (64 : Int) < (secret.size : Int) := of_decide_eq_true h2
   show (e0, (2 : Int), ()) = ((bj secret id host).1, (bj secret id host).2, ())
   unfold bj
   rw [if_neg h, if_pos (by omega)]
  ·have h2 : ¬ (64 : Int) < (secret.size : Int) := of_decide_eq_false h2
   refine vK (l := pO secret id host) (n := 64) (fun x hx => ?_) (show 4 * 64 ≤ 900000 by decide) (show 4 ≤ 1000000 by decide)
   rcases List.mem_cons.1 hx with rfl | hx
   ·decide
   ·rcases List.mem_cons.1 hx with rfl | hx
    ·omega
    ·rcases List.mem_cons.1 hx with rfl | hx
     ·rw [d8]
      exact Nat.le_trans (un id 32) (by decide)
     ·rcases List.mem_cons.1 hx with rfl | hx
      ·rw [d8]; exact show 1 ≤ 64 by decide
      ·cases hx
  ·have h := of_decide_eq_false ((key host).trans h)
   have h2 : ¬ (64 : Int) < (secret.size : Int) := of_decide_eq_false h2
   show (_, (0 : Int), ()) = ((bj secret id host).1, (bj secret id host).2, ())
   unfold bj
   rw [if_neg h, if_neg (by omega)]
   rfl
end Go.Proofs.YtnakjijahkaoaaaDoor
namespace Go.Proofs.YtnakjijahkaoaaaDoor
open Go Go.RowKit
noncomputable abbrev rP : Fx := { fn := nC, ann := { } }
noncomputable abbrev sn : aZ := { D := { T := bc, F := [(fA, fE)], R := [], ovl := [], G := gl }, inl := [] }
noncomputable abbrev CL : bm := .data rS
theorem B1 (h_proof_made : au prog gl fA fE) : XOk prog sn := xok (aB (aO aT aE) h_proof_made) (by kernel_rfl) aG aQ aR
noncomputable def tK (a : den tId) : ab := ab.req (ByteArray.size { data := { toList := [108, 101, 102, 116] } } ≤ 1000) (ab.ret (K.val (Ty.pair tId Ty.unit) (dR { data := { toList := [108, 101, 102, 116] } } a, PUnit.unit)))
theorem xx (a : den tId) : al sn CL 5000 [] rP (aA nC) (Env.of (aN rn (a, ()) 0) []) = tK a := by kernel_rfl
noncomputable abbrev qf : Fx := { fn := lO, ann := { } }
noncomputable abbrev rr : aZ := { D := { T := bc, F := [(fA, fE)], R := [], ovl := [], G := gl }, inl := [] }
noncomputable abbrev AS : bm := .data pC
theorem AG (h_proof_made : au prog gl fA fE) : XOk prog rr := xok (aB (aO aT aE) h_proof_made) (by kernel_rfl) aG aQ aR
noncomputable def rh (a : den tId) : ab := ab.req (ByteArray.size { data := { toList := [114, 105, 103, 104, 116] } } ≤ 1000) (ab.ret (K.val (Ty.pair tId Ty.unit) (dR { data := { toList := [114, 105, 103, 104, 116] } } a, PUnit.unit)))
theorem vP (a : den tId) : al rr AS 5000 [] qf (aA lO) (Env.of (aN pw (a, ()) 0) []) = rh a := by kernel_rfl
end Go.Proofs.YtnakjijahkaoaaaDoor
namespace Go.Proofs.YtnakjijahkaoaaaDoor
open Go Go.RowKit
def lB (a : List Int) : List Int := dR Ks a
def pN (a : List Int) : List Int := dR JY a
noncomputable abbrev jL : bh := ⟨rn, rS, fun x => (lB x.1, ()), fun _ => True, true⟩
noncomputable abbrev iX : bh := ⟨pw, pC, fun x => (pN x.1, ()), fun _ => True, true⟩
theorem Cr : au prog gl jO jL :=
 bw (S := jL) (B1 tM) (fx := rP) AZ (by kernel_rfl) (fun _ _ => trivial) (T := fun x => tK x.1) (fun x => xx x.1) fun O w0 x _ _ => ⟨by decide, _, rfl, rfl⟩
theorem A2 : au prog gl iS iX :=
 bw (S := iX) (AG tM) (fx := qf) zc (by kernel_rfl) (fun _ _ => trivial) (T := fun x => rh x.1) (fun x => vP x.1) fun O w0 x _ _ => ⟨by decide, _, rfl, rfl⟩
def gN (f t : List Int) : Bool := bif eqb bT (cU t) (cU (lB f)) then true else eqb bT (cU f) (cU (pN t))
noncomputable abbrev iU : bh := ⟨px, py, fun x => (gN x.1 x.2.1, ()), fun _ => True, true⟩
end Go.Proofs.YtnakjijahkaoaaaDoor
namespace Go.Proofs.YtnakjijahkaoaaaDoor
open Go Go.RowKit
noncomputable abbrev qg : Fx := { fn := lH, ann := { } }
noncomputable abbrev rU : aZ := { D := { T := bc, F := [(iQ, iK), (jO, jL), (iS, iX)], R := [], ovl := [], G := gl }, inl := [] }
noncomputable abbrev AF : bm := .data py
theorem AV (h_proof_keyOf : au prog gl iQ iK) (h_proof_Left : au prog gl jO jL) (h_proof_Right : au prog gl iS iX) : XOk prog rU := xok (aB (aB (aB (aO aT aE) h_proof_Right) h_proof_Left) h_proof_keyOf) (by kernel_rfl) aG aQ aR
noncomputable def rO (a : den tId) (b : den tId) : ab := ab.req True (ab.req True (ab.req True (ab.req (cr [(eqb bT (cU b) (cU (lB a)), false)] True) (ab.req (cr [(eqb bT (cU b) (cU (lB a)), false)] True) (ab.req (cr [(eqb bT (cU b) (cU (lB a)), false)] True) (ab.ret (K.val (Ty.pair Ty.bool Ty.unit) (bif eqb bT (cU b) (cU (lB a)) then true else eqb bT (cU a) (cU (pN b)), PUnit.unit))))))))
theorem ws (a : den tId) (b : den tId) : al rU AF 5000 [] qg (aA lH) (Env.of (aN px (a, b, ()) 0) []) = rO a b := by kernel_rfl
end Go.Proofs.YtnakjijahkaoaaaDoor
namespace Go.Proofs.YtnakjijahkaoaaaDoor
open Go Go.RowKit
theorem AT : au prog gl iI iU :=
 bw (S := iU) (AV (bJ Av) Cr A2) (fx := qg) y3 (by kernel_rfl) (fun _ _ => trivial) (T := fun x => rO x.1 x.2.1) (fun x => ws x.1 x.2.1) fun O w0 x _ _ =>
  ⟨trivial, trivial, trivial, fun _ => trivial, fun _ => trivial, fun _ => trivial, _, rfl, rfl⟩
theorem H5 (h : List Int) : ∀ n : Nat, (qZ h n).length = 32 := fun n => by
 induction n with
 | zero => rfl
 | succ n ih => exact (List.length_set ..).trans ih
theorem zC (l : List ByteArray) : (fl l).length = 32 := by
 unfold fl xC
 exact H5 _ _
theorem HL (secret : ByteArray) (id : List Int) (host : Int) : (aj (bF (.int .u8) (fl (pO secret id host)) 0 16)).size = 16 := by
 rw [d8]
 unfold bF eJ
 have e16 : Int.toNat 16 = 16 := rfl
 have e0 : Int.toNat 0 = 0 := rfl
 rw [e16, e0, List.length_drop, List.length_take, zC]
 rfl
end Go.Proofs.YtnakjijahkaoaaaDoor
namespace Go.Proofs.YtnakjijahkaoaaaDoor
open Go Go.RowKit
theorem J8 (a b : List Int) : eqb tId a b = decide (a = b) := by
 have := dL (t := tId) rfl a b
 cases h : eqb tId a b
 ·exact (decide_eq_false fun e => by rw [this.2 e] at h; cases h).symm
 ·exact (decide_eq_true (this.1 h)).symm
end Go.Proofs.YtnakjijahkaoaaaDoor
namespace Go.Proofs.YtnakjijahkaoaaaDoor
open Go Go.RowKit
noncomputable abbrev xw : Fx := { fn := sD, ann := { frz := [(1, [1])] } }
noncomputable abbrev z6 : aZ := { D := { T := bc, F := [], R := [], ovl := [] }, inl := [] }
noncomputable abbrev Hh : bm := .data yz
theorem Hw : XOk prog z6 := xok ((aO aT aE)) (by kernel_rfl) aG aQ aR
noncomputable def Ah (a : den tId) : ab := ab.req (bv 0 16 (↑32 : Int)) (ab.ret (K.val (Ty.pair Ty.str Ty.unit) (aj (bF (Ty.int IntKind.u8) a 0 16), PUnit.unit)))
theorem C4 (a : den tId) : al z6 Hh 5000 [] xw (aA sD) (Env.of (aN x9 (a, ()) 0) []) = Ah a := by kernel_rfl
noncomputable abbrev GV : aZ := { D := { T := bc, F := [], R := [], ovl := [] }, inl := [] }
end Go.Proofs.YtnakjijahkaoaaaDoor
namespace Go.Proofs.YtnakjijahkaoaaaDoor
open Go Go.RowKit
def bt (a : List Int) : ByteArray := iv a
noncomputable abbrev jk : bh := ⟨x9, yz, fun x => (bt x.1, ()), fun _ => True, true⟩
theorem oC : au prog [] jh jk :=
 bw (S := jk) Hw (fx := xw) Fw (by kernel_rfl) (fun _ _ => trivial) (T := fun x => Ah x.1) (fun x => C4 x.1) fun O w0 x _ _ => ⟨⟨by decide, by decide, by decide⟩, _, rfl, rfl⟩
def lf (l : List ByteArray) (s : ByteArray) : Bool := l.any fun x => decide (x = s)
theorem wN {l : List ByteArray} {s : ByteArray} : lf l s = true ↔ s ∈ l := by
 unfold lf
 rw [List.any_eq_true]
 exact ⟨fun ⟨x, hx, e⟩ => of_decide_eq_true e ▸ hx, fun h => ⟨s, h, decide_eq_true rfl⟩⟩
theorem B7 {l : List ByteArray} {s : ByteArray} : lf l s = false ↔ s ∉ l := by
 rw [← wN]
 cases lf l s <;> simp
abbrev Ku (O : Nat → Prop) (w0 : World) (y : Bool) := bC prog GV (Cx.base O w0) (cN prog O w0 Gj fun z => z = (y, ()))
def stF (now : List ByteArray) (s : List ByteArray × List ByteArray) (x : Lk) : List ByteArray × List ByteArray :=
 if (lf now (bt x.1) && !lf s.1 (bt x.2.1)) = true then (s.1 ++ [bt x.2.1], s.2 ++ [bt x.2.1]) else s
theorem EV (now : List ByteArray) : ∀ (l : List Lk) (s : List ByteArray × List ByteArray), ∃ d : List ByteArray, l.foldl (stF now) s = (s.1 ++ d, s.2 ++ d) ∧
    (∀ x ∈ l, bt x.1 ∈ now → bt x.2.1 ∈ s.1 ++ d) ∧ (∀ t ∈ d, ∃ x ∈ l, bt x.1 ∈ now ∧ bt x.2.1 = t) ∧ (s.1.Nodup → (s.1 ++ d).Nodup)
  | [], s => ⟨[], by simp, (fun x hx => by cases hx), (fun t ht => by cases ht), fun h => by simpa using h⟩
  | x :: l, s => by
    rw [List.foldl_cons]
    obtain ⟨d, e, h1, h2, h3⟩ := EV now l (stF now s x)
    by_cases hc : (lf now (bt x.1) && !lf s.1 (bt x.2.1)) = true
    · have es : stF now s x = (s.1 ++ [bt x.2.1], s.2 ++ [bt x.2.1]) := if_pos hc
      rw [es] at e h1 h3 ⊢
      rw [Bool.and_eq_true, wN, Bool.not_eq_true', B7] at hc
      refine ⟨bt x.2.1 :: d, by rw [e, List.append_assoc, List.append_assoc]; rfl, fun y hy hn => ?_, fun t ht => ?_, fun hd => ?_⟩
      · rcases List.mem_cons.1 hy with rfl | hy
        · exact List.mem_append.2 (.inr List.mem_cons_self)
        · have := h1 y hy hn
          rwa [List.append_assoc] at this
      · rcases List.mem_cons.1 ht with rfl | ht
        · exact ⟨x, List.mem_cons_self, hc.1, rfl⟩
        · obtain ⟨y, hy, h⟩ := h2 t ht
          exact ⟨y, List.mem_cons_of_mem _ hy, h⟩
      · have := h3 (by
          rw [List.nodup_append]
          exact ⟨hd, by simp, fun a ha b hb => by rw [List.mem_singleton.1 hb]; exact fun e => hc.2 (e ▸ ha)⟩)
        rwa [List.append_assoc] at this
    · have es : stF now s x = s := if_neg hc
      rw [es] at e h1 h3 ⊢
      refine ⟨d, e, fun y hy hn => ?_, fun t ht => ?_, h3⟩
      · rcases List.mem_cons.1 hy with rfl | hy
        · rw [Bool.and_eq_true, wN, Bool.not_eq_true', B7] at hc
          exact List.mem_append.2 (.inl (Classical.byContradiction fun hn' => hc ⟨hn, hn'⟩))
        · exact h1 y hy hn
      · obtain ⟨y, hy, h⟩ := h2 t ht
        exact ⟨y, List.mem_cons_of_mem _ hy, h⟩
structure Id (l : List Lk) (k : ByteArray) (n : Nat) (now out : List ByteArray) : Prop where
 nd : out.Nodup
 sub : ∀ t ∈ out, ∃ x ∈ l, bt x.2.1 = t
 fuel : now = [] ∨ l.length + 1 ≤ out.length + n
theorem Id.next {l : List Lk} {k : ByteArray} {n : Nat} {now out : List ByteArray} (h : Id l k (n + 1) now out) (hn : now ≠ []) : Id l k n (l.foldl (stF now) (out, [])).2 (l.foldl (stF now) (out, [])).1 := by
 obtain ⟨d, e, h1, h2, h3⟩ := EV now l (out, [])
 rw [e]
 have hsub : ∀ t ∈ out ++ d, ∃ x ∈ l, bt x.2.1 = t := fun t ht => by
  rcases List.mem_append.1 ht with ht | ht
  ·exact h.sub t ht
  ·obtain ⟨x, hx, _, e⟩ := h2 t ht
   exact ⟨x, hx, e⟩
 refine ⟨h3 h.nd, hsub, ?_⟩
 rcases h.fuel with h | h
 ·exact absurd h hn
 ·show [] ++ d = [] ∨ l.length + 1 ≤ (out ++ d).length + n
  by_cases hd : d = []
  ·exact .inl hd
  ·have : 0 < d.length := List.length_pos_iff.2 hd
   rw [List.length_append]
   exact .inr (by omega)
end Go.Proofs.YtnakjijahkaoaaaDoor
namespace Go.Proofs.YtnakjijahkaoaaaDoor
open Go Go.RowKit
end Go.Proofs.YtnakjijahkaoaaaDoor
namespace Go.Proofs.YtnakjijahkaoaaaDoor
open Go Go.RowKit
inductive Rch (l : List Lk) : ByteArray → ByteArray → Prop where
 | one (x : Lk) (h : x ∈ l) : Rch l (bt x.1) (bt x.2.1)
 | step (x : Lk) (h : x ∈ l) {b : ByteArray} (r : Rch l (bt x.2.1) b) : Rch l (bt x.1) b
theorem Rch.trans {l : List Lk} {a b c : ByteArray} (h : Rch l a b) (k : Rch l b c) : Rch l a c := by
 induction h with
 | one y hy => exact .step y hy k
 | step y hy _ ih => exact .step y hy (ih k)
theorem Hq {xs : List Int} (h : ∀ x ∈ xs, 0 ≤ x ∧ x ≤ 255) : aK (aj xs) = xs := by
 show ((xs.map fun n => UInt8.ofNat n.toNat).toArray.toList.map fun b => (b.toNat : Int)) = xs
 rw [List.map_map]
 refine (List.map_congr_left fun x hx => ?_).trans (List.map_id xs)
 obtain ⟨h0, h1⟩ := h x hx
 show (((UInt8.ofNat x.toNat).toNat : Nat) : Int) = x
 rw [UInt8.toNat_ofNat']
 omega
theorem GC {x : den tId} (h : okT tId x) : ∀ y ∈ x, 0 ≤ y ∧ y ≤ 255 := fun y hy => by
 have : InK .u8 y := h.2 y hy
 have h1 : IntKind.min .u8 = 0 := by decide
 have h2 : IntKind.max .u8 = 255 := by decide
 unfold InK at this
 rw [h1, h2] at this
 exact this
end Go.Proofs.YtnakjijahkaoaaaDoor
namespace Go.Proofs.YtnakjijahkaoaaaDoor
open Go Go.RowKit
theorem cM (n : Int) : IntKind.wrap .u32 n = n % 4294967296 := rfl
theorem ke (n : Nat) : IntKind.wrap .u32 (n : Int) = ((n % 4294967296 : Nat) : Int) := by rw [cM]; rfl
theorem jl {n : Nat} (h : n < 4294967296) : (BitVec.ofInt (IntKind.bits .u32) (n : Int)).toNat = n := by
 have e : IntKind.bits .u32 = 32 := rfl
 rw [e, BitVec.toNat_ofInt]
 have : ((2 ^ 32 : Nat) : Int) = 4294967296 := rfl
 rw [this]
 omega
theorem nf {a b : Nat} (ha : a < 4294967296) (hb : b < 4294967296) : dW (a : Int) (b : Int) = ((a ^^^ b : Nat) : Int) := by
 unfold dW
 rw [BitVec.toNat_xor, jl ha, jl hb, ke, Nat.mod_eq_of_lt (Nat.xor_lt_two_pow (n := 32) ha hb)]
theorem je {a b : Nat} (ha : a < 4294967296) (hb : b < 4294967296) : gp (a : Int) (b : Int) = ((a &&& b : Nat) : Int) := by
 unfold gp
 rw [BitVec.toNat_and, jl ha, jl hb, ke, Nat.mod_eq_of_lt (Nat.lt_of_le_of_lt Nat.and_le_left ha)]
theorem zL {a b : Nat} (ha : a < 4294967296) (hb : b < 4294967296) : lor (a : Int) (b : Int) = ((a ||| b : Nat) : Int) := by
 unfold lor
 rw [BitVec.toNat_or, jl ha, jl hb, ke, Nat.mod_eq_of_lt (Nat.or_lt_two_pow (n := 32) ha hb)]
def m9 (x n : Nat) : Nat := x / 2 ^ n + x % 2 ^ n * 2 ^ (32 - n)
theorem E5 {x n : Nat} (hx : x < 4294967296) (hn : n ≤ 32) : m9 x n < 4294967296 := by
 unfold m9
 have e : 2 ^ n * 2 ^ (32 - n) = 4294967296 := by rw [← Nat.pow_add, Nat.add_sub_cancel' hn]
 have h1 : x / 2 ^ n < 2 ^ (32 - n) := by
  rw [Nat.div_lt_iff_lt_mul (Nat.two_pow_pos n), Nat.mul_comm, e]; exact hx
 have h2 : x % 2 ^ n + 1 ≤ 2 ^ n := Nat.mod_lt _ (Nat.two_pow_pos n)
 have h3 := Nat.mul_le_mul_right (2 ^ (32 - n)) h2
 rw [e, Nat.add_mul, Nat.one_mul] at h3
 omega
theorem JX {x n : Nat} (hx : x < 4294967296) (hn : n ≤ 32) : (x * 2 ^ (32 - n) % 4294967296) ||| (x / 2 ^ n) = m9 x n := by
 have e : 4294967296 = 2 ^ n * 2 ^ (32 - n) := by rw [← Nat.pow_add, Nat.add_sub_cancel' hn]
 have h1 : x / 2 ^ n < 2 ^ (32 - n) := by
  rw [Nat.div_lt_iff_lt_mul (Nat.two_pow_pos n), Nat.mul_comm, ← e]; exact hx
 rw [e, Nat.mul_mod_mul_right]
 have := Nat.shiftLeft_add_eq_or_of_lt h1 (x % 2 ^ n)
 rw [Nat.shiftLeft_eq] at this
 rw [← this]
 unfold m9
 omega
theorem IQ {x n : Nat} (hx : x < 4294967296) (hn : 0 < n ∧ n < 32) (k : Int) (hk : pQ k = ((32 - n : Nat) : Int)) (hk2 : IntKind.wrap .u64 (32 - ((32 - n : Nat) : Int)) = (n : Int)) : bO (x : Int) k = ((m9 x n : Nat) : Int) := by
 unfold bO
 rw [hk, hk2]
 have e32 : IntKind.bits .u32 = 32 := rfl
 have m1 : min (Int.toNat ((32 - n : Nat) : Int)) (IntKind.bits .u32) = 32 - n := by rw [e32, Int.toNat_natCast]; omega
 have m2 : min (Int.toNat (n : Int)) (IntKind.bits .u32) = n := by rw [e32, Int.toNat_natCast]; omega
 rw [m1, m2]
 have p1 : (x : Int) * 2 ^ (32 - n) = ((x * 2 ^ (32 - n) : Nat) : Int) := by rw [Int.natCast_mul, Int.natCast_pow]; rfl
 have p2 : Int.fdiv (x : Int) (2 ^ n) = ((x / 2 ^ n : Nat) : Int) := by
  rw [show (2 : Int) ^ n = ((2 ^ n : Nat) : Int) by rw [Int.natCast_pow]; rfl, Int.fdiv_eq_ediv_of_nonneg _ (Int.natCast_nonneg _)]
  rfl
 rw [p1, p2, ke (x * 2 ^ (32 - n)), BitVec.toNat_or, jl (Nat.mod_lt _ (by decide)), jl (Nat.lt_of_le_of_lt (Nat.div_le_self _ _) hx), JX hx (by omega), ke, Nat.mod_eq_of_lt (E5 hx (by omega))]
def Bh (y : Nat) : Nat := y / 2 + y % 2 * 2147483648
theorem H1 {x k : Nat} (hk : k < 32) : Bh (m9 x k) = m9 x (k + 1) := by
 unfold Bh m9
 have e1 : 32 - k = (31 - k) + 1 := by omega
 have e2 : 32 - (k + 1) = 31 - k := by omega
 have e3 : (2147483648 : Nat) = 2 ^ k * 2 ^ (31 - k) := by
  rw [← Nat.pow_add, show k + (31 - k) = 31 by omega]
 have e4 : x / 2 ^ (k + 1) = x / 2 ^ k / 2 := by rw [Nat.pow_succ, Nat.div_div_eq_div_mul]
 have e5 : x % 2 ^ (k + 1) = x % 2 ^ k + 2 ^ k * (x / 2 ^ k % 2) := Nat.mod_pow_succ
 rw [e1, e2, e3, e4, e5, Nat.pow_succ]
 generalize x / 2 ^ k = q
 generalize x % 2 ^ k = r
 generalize 2 ^ (31 - k) = p
 generalize 2 ^ k = s
 have h1 : (q + r * (p * 2)) / 2 = q / 2 + r * p := by
  rw [show q + r * (p * 2) = q + r * p * 2 by rw [Nat.mul_assoc], Nat.add_mul_div_right _ _ (by decide)]
 have h2 : (q + r * (p * 2)) % 2 = q % 2 := by
  rw [show q + r * (p * 2) = q + r * p * 2 by rw [Nat.mul_assoc], Nat.add_mul_mod_self_right]
 rw [h1, h2, Nat.add_mul, Nat.add_assoc]
 congr 2
 rw [Nat.mul_comm (q % 2), Nat.mul_right_comm]
theorem EG {a b : Nat} (ha : a < 4294967296) (hb : b < 4294967296) (h : ∀ i, i < 32 → a.testBit i = b.testBit i) : a = b := by
 refine Nat.eq_of_testBit_eq fun i => ?_
 by_cases hi : i < 32
 ·exact h i hi
 ·have h2 : 4294967296 ≤ 2 ^ i := Nat.le_trans (show 4294967296 ≤ 2 ^ 32 by decide) (Nat.pow_le_pow_right (by decide) (by omega))
  rw [Nat.testBit_lt_two_pow (Nat.lt_of_lt_of_le ha h2), Nat.testBit_lt_two_pow (Nat.lt_of_lt_of_le hb h2)]
theorem Jw {e f g : Nat} (he : e < 4294967296) (hf : f < 4294967296) (hg : g < 4294967296) : g ^^^ (e &&& (f ^^^ g)) = (e &&& f) ^^^ ((4294967295 - e) &&& g) := by
 have h1 : 4294967295 - e < 4294967296 := by omega
 refine EG (Nat.xor_lt_two_pow (n := 32) hg (Nat.lt_of_le_of_lt Nat.and_le_left he)) (Nat.xor_lt_two_pow (n := 32) (Nat.lt_of_le_of_lt Nat.and_le_left he) (Nat.lt_of_le_of_lt Nat.and_le_left h1)) fun i hi => ?_
 have h2 : (4294967295 - e).testBit i = !e.testBit i := by
  have := Nat.testBit_two_pow_sub_succ (n := 32) (x := e) he i
  rw [show 2 ^ 32 - (e + 1) = 4294967295 - e by omega] at this
  rw [this, decide_eq_true hi, Bool.true_and]
 simp only [Nat.testBit_xor, Nat.testBit_and, h2]
 cases e.testBit i <;> cases f.testBit i <;> cases g.testBit i <;> rfl
theorem Is {a b c : Nat} (ha : a < 4294967296) (hb : b < 4294967296) (hc : c < 4294967296) : (a &&& b) ||| (c &&& (a ||| b)) = (a &&& b) ^^^ (a &&& c) ^^^ (b &&& c) := by
 have l1 : a &&& b < 4294967296 := Nat.lt_of_le_of_lt Nat.and_le_left ha
 have l2 : a &&& c < 4294967296 := Nat.lt_of_le_of_lt Nat.and_le_left ha
 have l3 : b &&& c < 4294967296 := Nat.lt_of_le_of_lt Nat.and_le_left hb
 refine EG (Nat.or_lt_two_pow (n := 32) l1 (Nat.lt_of_le_of_lt Nat.and_le_left hc)) (Nat.xor_lt_two_pow (n := 32) (Nat.xor_lt_two_pow (n := 32) l1 l2) l3) fun i _ => ?_
 simp only [Nat.testBit_xor, Nat.testBit_and, Nat.testBit_or]
 cases a.testBit i <;> cases b.testBit i <;> cases c.testBit i <;> rfl
end Go.Proofs.YtnakjijahkaoaaaDoor
namespace Go.Proofs.YtnakjijahkaoaaaDoor
open Go Go.RowKit
noncomputable abbrev qT : aF := { T := bc, F := [], n := (l7).ntmps }
noncomputable abbrev xo : Ann := { }
theorem Gg : cO prog qT := J4 ((aO aT aE))
theorem D3 : dX qT = true := by kernel_rfl
noncomputable def xJ (e : den ag) : dz := dz.ite (decide (Prod.fst e = 1)) (dz.ret (K.val (Ty.pair Ty.bool Ty.unit) (decide (Prod.fst (Prod.snd (Prod.snd e)) = 0), PUnit.unit))) (dz.ite (decide (Prod.fst e = 2)) (dz.ret (K.val (Ty.pair Ty.bool Ty.unit) (bif bif eqb tId (Prod.fst (Prod.snd e)) (List.replicate 32 (zero (Ty.int IntKind.u8))) then decide (0 ≤ Prod.fst (Prod.snd (Prod.snd e))) else false then decide (Prod.fst (Prod.snd (Prod.snd e)) < 16) else false, PUnit.unit))) (dz.ret (K.val (Ty.pair Ty.bool Ty.unit) (false, PUnit.unit))))
theorem A0 (e : den ag) : fQ qT xo vL l7 1000 (aA l7) (Env.of (aN uS (e, ()) 0) []) = xJ e := by kernel_rfl
noncomputable abbrev np : aF := { T := bc, F := [], n := (ff).ntmps }
noncomputable abbrev vO : Ann := { loops := [(3, { keep := [1, 3, 7, 8] })] }
theorem wv : cO prog np := J4 ((aO aT aE))
theorem t7 : dX np = true := by kernel_rfl
noncomputable def BI (e : den ag) : dz := dz.loop (lp ff 3) [(1, K.ptr 1 ag []), (3, K.val Ty.bool true), (7, K.val tId (Prod.fst (Prod.snd e))), (8, K.val af 0)] [(1, Bx.cell ag e)]
theorem DJ (e : den ag) : fQ np vO oq ff 1000 (aA ff) (Env.of (aN zY (e, ()) 0) []) = BI e := by kernel_rfl
noncomputable def xL (v3 : den Ty.bool) (v7 : den tId) (v8 : den af) (b1 : den ag) : Env := Env.of [(1, K.ptr 1 ag []), (3, K.val Ty.bool v3), (7, K.val tId v7), (8, K.val af v8)] [(1, Bx.cell ag b1)]
noncomputable def Eg (v3 : den Ty.bool) (v7 : den tId) (v8 : den af) (b1 : den ag) : dz := dz.ite (decide (v8 < 32)) (dz.req (inB v8 ↑32) (dz.loop (lp ff 3) [(1, K.ptr 1 ag []), (3, K.val Ty.bool (bif v3 then decide (el (Ty.int IntKind.u8) v7 v8 = 0) else false)), (7, K.val tId v7), (8, K.val af (IntKind.wrap IntKind.i64 (v8 + 1)))] [(1, Bx.cell ag b1)])) (dz.ret (K.val (Ty.pair Ty.bool Ty.unit) (bif bif decide (Prod.fst b1 = 1) then decide (Prod.fst (Prod.snd (Prod.snd b1)) = 0) else false then true else bif bif bif decide (Prod.fst b1 = 2) then v3 else false then decide (0 ≤ Prod.fst (Prod.snd (Prod.snd b1))) else false then decide (Prod.fst (Prod.snd (Prod.snd b1)) ≤ 15) else false, PUnit.unit)))
theorem pz (v3 : den Ty.bool) (v7 : den tId) (v8 : den af) (b1 : den ag) : fQ np vO oq ff 1000 (lp ff 3) (xL v3 v7 v8 b1) = Eg v3 v7 v8 b1 := by kernel_rfl
end Go.Proofs.YtnakjijahkaoaaaDoor
namespace Go.Proofs.YtnakjijahkaoaaaDoor
open Go Go.RowKit
def dF (e : den ag) : Bool :=
 if e.1 = 1 then decide (e.2.2.1 = 0)
 else if e.1 = 2 then decide (e.2.1 = List.replicate 32 0) && decide (0 ≤ e.2.2.1) && decide (e.2.2.1 < 16)
 else false
noncomputable abbrev jF : bh := ⟨uS, vL, fun x => (dF x.1, ()), fun _ => True, true⟩
theorem I5 (x y : den tId) : eqb tId x y = decide (x = y) := by
 have := dL (t := tId) rfl x y
 cases h : eqb tId x y
 ·have : ¬ x = y := fun e => by rw [this.2 e] at h; cases h
  simp [this]
 ·simp [this.1 h]
theorem l8 : au prog [] hH jF :=
 J9 Gg D3 Eb (by kernel_rfl) (fun _ _ => trivial) (A := xo) (T := fun x => xJ x.1) (fun x => A0 x.1) fun O w0 x _ _ => by
  obtain ⟨e, ⟨⟩⟩ := x
  refine ⟨fun h => ⟨_, rfl, ?_⟩, fun h => ⟨fun h' => ⟨_, rfl, ?_⟩, fun h' => ⟨_, rfl, ?_⟩⟩⟩
  ·have h : e.1 = 1 := of_decide_eq_true h
   simp [dF, h]
  ·have h : ¬ e.1 = 1 := of_decide_eq_false h
   have h' : e.1 = 2 := of_decide_eq_true h'
   rw [I5]
   simp [dF, h', zero, cond_eq_ite]
   rfl
  ·have h : ¬ e.1 = 1 := of_decide_eq_false h
   have h' : ¬ e.1 = 2 := of_decide_eq_false h'
   simp [dF, h, h']
noncomputable abbrev m8 : bh := ⟨zY, oq, fun x => (dF x.1, ()), fun _ => True, true⟩
theorem HW {l : List Int} : (l.all fun c => decide (c = 0)) = decide (l = List.replicate l.length 0) := by
 induction l with
 | nil => rfl
 | cons x l ih =>
  rw [List.all_cons, ih]
  by_cases h : x = 0 <;> simp [h, List.replicate_succ]
theorem zT (O : Nat → Prop) (w0 : World) (e : den ag) (id : List Int) (hl : id.length = 32) : ∀ (k i : Nat) (nn : Bool), k + i = 32 →
    iw prog np O w0 ff (cN prog O w0 oq fun y => y = ((decide (e.1 = 1) && decide (e.2.2.1 = 0)) || (decide (e.1 = 2) && (nn && (id.drop i).all fun c => decide (c = 0)) && decide (0 ≤ e.2.2.1) && decide (e.2.2.1 < 16)), ())) (lp ff 3) (xL nn id (i : Nat) e)
  | 0, i, nn, hi => Gu wv t7 (pz nn id _ e) ⟨fun h => by
      have h : (i : Int) < 32 := of_decide_eq_true h
      omega, fun _ => ⟨_, rfl, by
        rw [List.drop_eq_nil_of_le (by omega)]
        have h1 : ∀ z : Int, decide (z ≤ 15) = decide (z < 16) := fun z => by congr 1; exact propext ⟨fun h => by omega, fun h => by omega⟩
        rw [h1 e.2.2.1]
        cases decide (e.1 = 1) <;> cases decide (e.2.2.1 = 0) <;> cases decide (e.1 = 2) <;> cases nn <;> cases decide ((0 : Int) ≤ e.2.2.1) <;> cases decide ((e.2.2.1 : Int) < 16) <;> rfl⟩⟩
  | k + 1, i, nn, hi => Gu wv t7 (pz nn id _ e) ⟨fun _ => by
      have hlt : i < id.length := by omega
      refine ⟨gH (n := 32) (by omega), ?_⟩
      rw [kJ (e := .int .u8) hlt, da hlt (by omega), List.drop_eq_getElem_cons hlt]
      have := zT O w0 e id hl k (i + 1) (bif nn then decide (id[i] = 0) else false) (by omega)
      rw [List.all_cons]
      have e1 : (nn && (decide (id[i] = 0) && (id.drop (i + 1)).all fun c => decide (c = 0))) = ((bif nn then decide (id[i] = 0) else false) && (id.drop (i + 1)).all fun c => decide (c = 0)) := by
        cases nn <;> simp
      rw [e1]
      exact this, fun h => by
      have h : ¬ (i : Int) < 32 := of_decide_eq_false h
      omega⟩
theorem Js (e : den ag) (h : e.2.1.length = 32) : dF e = ((decide (e.1 = 1) && decide (e.2.2.1 = 0)) || (decide (e.1 = 2) && (true && (e.2.1.drop 0).all fun c => decide (c = 0)) && decide (0 ≤ e.2.2.1) && decide (e.2.2.1 < 16))) := by
 unfold dF
 rw [List.drop_zero]
 have := HW (l := e.2.1)
 rw [h] at this
 rw [this]
 by_cases h1 : e.1 = 1
 ·simp [h1]
 ·by_cases h2 : e.1 = 2
  ·simp [h2]
  ·simp [h1, h2]
theorem qC : au prog [] ku m8 :=
 J9 wv t7 GE (by kernel_rfl) (fun _ _ => trivial) (A := vO) (T := fun x => BI x.1) (fun x => DJ x.1) fun O w0 x hk _ => by
  have hp : x.1.2.1.length = 32 := hk.1.2.1.1
  have := zT O w0 x.1 x.1.2.1 hp 32 0 true (by omega)
  rw [← Js x.1 hp] at this
  exact this
end Go.Proofs.YtnakjijahkaoaaaDoor
namespace Go.Proofs.YtnakjijahkaoaaaDoor
open Go Go.RowKit
end Go.Proofs.YtnakjijahkaoaaaDoor
namespace Go.Proofs.YtnakjijahkaoaaaDoor
open Go Go.RowKit
end Go.Proofs.YtnakjijahkaoaaaDoor
namespace Go.Proofs.YtnakjijahkaoaaaDoor
open Go Go.RowKit
end Go.Proofs.YtnakjijahkaoaaaDoor
namespace Go.Proofs.YtnakjijahkaoaaaDoor
open Go Go.RowKit
abbrev Ent := den ag
def fh (l : List Ent) : Bool := l.all dF
def cx (l : List Ent) : Bool := decide (1 ≤ l.length) && decide (l.length ≤ 4) && fh l
noncomputable abbrev kD : bh := ⟨tp, mZ, fun x => (fh x.1, ()), fun x => x.1.length ≤ 1000000, false⟩
noncomputable abbrev oB : bh := ⟨xT, qw, fun x => (fh x.1, ()), fun x => x.1.length ≤ 1000000, false⟩
noncomputable abbrev iZ : bh := ⟨p4, pZ, fun x => (cx x.1, ()), fun x => x.1.length ≤ 1000000, false⟩
noncomputable abbrev kQ : bh := ⟨tB, sK, fun x => (cx x.1, ()), fun x => x.1.length ≤ 1000000, false⟩
end Go.Proofs.YtnakjijahkaoaaaDoor
namespace Go.Proofs.YtnakjijahkaoaaaDoor
open Go Go.RowKit
noncomputable abbrev cK : Fx := { fn := bX, ann := { } }
noncomputable abbrev co : Fx := { fn := bV, ann := { loops := [(2, { keep := [0, 1, 7, 8] })] } }
noncomputable abbrev yR : Fx := { fn := rp, ann := { } }
noncomputable abbrev gG : Fx := { fn := ge, ann := { } }
noncomputable abbrev kB : aZ := { D := { T := bc, F := [(hH, jF)], R := [], ovl := [] }, inl := [(fH, cK), (gO, co), (f6, yR)] }
noncomputable abbrev vk : bm := .data mZ
theorem oT (h_stack_Is : au prog [] hH jF) : XOk prog kB := xok (aB (aO aT aE) h_stack_Is) (by kernel_rfl) aG (mF kd (by kernel_rfl) (mF mh (by kernel_rfl) (mF zj (by kernel_rfl) aQ))) aR
noncomputable def vj (l : den (Ty.slc ag)) : ab := ab.loop [{ fx := cK, todo := io bX 1 2, dst := some 7, s := ofS [] }, { fx := gG, todo := io ge 1 1, dst := some 4, s := ofS [] }] co (lp bV 2) [(0, K.val (Ty.slc ag) l), (1, K.fnc f6), (7, K.val af (lnx ag l)), (8, K.val af 0)] []
theorem zf (l : den (Ty.slc ag)) : al kB vk 5000 [] gG (aA ge) (Env.of (aN tp (l, ()) 0) []) = vj l := by kernel_rfl
noncomputable def dH (v0 : den (Ty.slc ag)) (v7 : den af) (v8 : den af) : List bS := [{ fx := cK, todo := io bX 1 2, dst := some 7, s := ofS [] }, { fx := gG, todo := io ge 1 1, dst := some 4, s := ofS [] }]
noncomputable def dG (v0 : den (Ty.slc ag)) (v7 : den af) (v8 : den af) : Env := Env.of [(0, K.val (Ty.slc ag) v0), (1, K.fnc f6), (7, K.val af v7), (8, K.val af v8)] []
noncomputable def gF (v0 : den (Ty.slc ag)) (v7 : den af) (v8 : den af) : ab := ab.ite (decide (v8 < v7)) (ab.req (inB v8 (lnx ag v0)) (ab.req True (ab.ite (!dF (el ag v0 v8)) (ab.ret (K.val (Ty.pair Ty.bool Ty.unit) (!decide (0 ≤ v8), PUnit.unit))) (ab.loop [{ fx := cK, todo := io bX 1 2, dst := some 7, s := ofS [] }, { fx := gG, todo := io ge 1 1, dst := some 4, s := ofS [] }] co (lp bV 2) [(0, K.val (Ty.slc ag) v0), (1, K.fnc f6), (7, K.val af v7), (8, K.val af (IntKind.wrap IntKind.i64 (v8 + 1)))] [])))) (ab.ret (K.val (Ty.pair Ty.bool Ty.unit) (!decide (0 ≤ -1), PUnit.unit)))
theorem de (v0 : den (Ty.slc ag)) (v7 : den af) (v8 : den af) : al kB vk 5000 (dH v0 v7 v8) co (lp bV 2) (dG v0 v7 v8) = gF v0 v7 v8 := by kernel_rfl
noncomputable abbrev hP : Fx := { fn := gQ, ann := { loops := [(2, { keep := [5, 6, 7] })] } }
noncomputable abbrev n1 : aZ := { D := { T := bc, F := [(ku, m8)], R := [], ovl := [] }, inl := [] }
noncomputable abbrev z8 : bm := .data qw
theorem tn (h_r04_Is : au prog [] ku m8) : XOk prog n1 := xok (aB (aO aT aE) h_r04_Is) (by kernel_rfl) aG aQ aR
noncomputable def Al (l : den (Ty.slc ag)) : ab := ab.loop [] hP (lp gQ 2) [(5, K.val (Ty.slc ag) l), (6, K.val af (lnx ag l)), (7, K.val af 0)] []
theorem CF (l : den (Ty.slc ag)) : al n1 z8 5000 [] hP (aA gQ) (Env.of (aN xT (l, ()) 0) []) = Al l := by kernel_rfl
noncomputable def vI (v5 : den (Ty.slc ag)) (v6 : den af) (v7 : den af) : Env := Env.of [(5, K.val (Ty.slc ag) v5), (6, K.val af v6), (7, K.val af v7)] []
noncomputable def B9 (v5 : den (Ty.slc ag)) (v6 : den af) (v7 : den af) : ab := ab.ite (decide (v7 < v6)) (ab.req (inB v7 (lnx ag v5)) (ab.req True (ab.ite (!dF (el ag v5 v7)) (ab.ret (K.val (Ty.pair Ty.bool Ty.unit) (false, PUnit.unit))) (ab.loop [] hP (lp gQ 2) [(5, K.val (Ty.slc ag) v5), (6, K.val af v6), (7, K.val af (IntKind.wrap IntKind.i64 (v7 + 1)))] [])))) (ab.ret (K.val (Ty.pair Ty.bool Ty.unit) (true, PUnit.unit)))
theorem n9 (v5 : den (Ty.slc ag)) (v6 : den af) (v7 : den af) : al n1 z8 5000 [] hP (lp gQ 2) (vI v5 v6 v7) = B9 v5 v6 v7 := by kernel_rfl
noncomputable abbrev pM : Fx := { fn := lG, ann := { } }
noncomputable abbrev rz : aZ := { D := { T := bc, F := [(k5, kD)], R := [], ovl := [] }, inl := [] }
noncomputable abbrev AO : bm := .data pZ
theorem A8 (h_stack_all : au prog [] k5 kD) : XOk prog rz := xok (aB (aO aT aE) h_stack_all) (by kernel_rfl) aG aQ aR
noncomputable def rG (l : den (Ty.slc ag)) : ab := ab.req (cr [(bif decide (1 ≤ lnx ag l) then decide (lnx ag l ≤ 4) else false, true)] (List.length l ≤ 1000000)) (ab.ret (K.val (Ty.pair Ty.bool Ty.unit) (bif bif decide (1 ≤ lnx ag l) then decide (lnx ag l ≤ 4) else false then fh l else false, PUnit.unit)))
theorem wD (l : den (Ty.slc ag)) : al rz AO 5000 [] pM (aA lG) (Env.of (aN p4 (l, ()) 0) []) = rG l := by kernel_rfl
noncomputable abbrev sr : Fx := { fn := pn, ann := { } }
noncomputable abbrev vM : aZ := { D := { T := bc, F := [(oR, oB)], R := [], ovl := [] }, inl := [] }
noncomputable abbrev Ed : bm := .data sK
theorem Dh (h_r04_All : au prog [] oR oB) : XOk prog vM := xok (aB (aO aT aE) h_r04_All) (by kernel_rfl) aG aQ aR
noncomputable def uR (l : den (Ty.slc ag)) : ab := ab.req (cr [(bif decide (0 < lnx ag l) then decide (lnx ag l < 5) else false, true)] (List.length l ≤ 1000000)) (ab.ret (K.val (Ty.pair Ty.bool Ty.unit) (bif bif decide (0 < lnx ag l) then decide (lnx ag l < 5) else false then fh l else false, PUnit.unit)))
theorem yJ (l : den (Ty.slc ag)) : al vM Ed 5000 [] sr (aA pn) (Env.of (aN tB (l, ()) 0) []) = uR l := by kernel_rfl
end Go.Proofs.YtnakjijahkaoaaaDoor
namespace Go.Proofs.YtnakjijahkaoaaaDoor
open Go Go.RowKit
theorem Bp {l : List Ent} {i : Nat} (hi : i < l.length) (h : fh (l.take i) = true) : fh (l.take (i + 1)) = dF l[i] := by
 unfold fh at h ⊢
 rw [List.take_succ_eq_append_getElem hi, List.all_append, h, List.all_cons, List.all_nil, Bool.and_true, Bool.true_and]
theorem EI {l : List Ent} {i : Nat} (hi : i < l.length) (h : dF l[i] = false) : fh l = false := by
 unfold fh
 rw [List.all_eq_false]
 exact ⟨l[i], List.getElem_mem hi, by rw [h]; simp⟩
def By (O : Nat → Prop) (w0 : World) (l : List Ent) (hl : l.length ≤ 1000000) :=
 PLift.up <| bP (σ := Unit) l.length (fun i _ => fh (l.take i) = true)
  (fun i _ => bC prog kB (Cx.base O w0) (cN prog O w0 mZ fun y => y = (fh l, ())) (dH l (lnx ag l) (i : Nat)) co (lp bV 2) (dG l (lnx ag l) (i : Nat)))
  (fun i s hi hb ih => aI (oT l8) (de l _ _) (by
   refine ⟨fun _ => ⟨gH hi, trivial, fun h => ⟨_, rfl, ?_⟩, fun h => ?_⟩, fun h => ?_⟩
   ·rw [kJ hi] at h
    have h1 : dF l[i] = false := by simpa using h
    rw [EI hi h1, decide_eq_true (Int.natCast_nonneg i)]
    rfl
   ·rw [kJ hi] at h
    rw [da hi (by omega)]
    refine ih () ?_
    rw [Bp hi hb]
    simpa using h
   ·rw [pK] at h
    exact absurd hi (of_decide_eq_false h)))
  (fun s hb => aI (oT l8) (de l _ _) (by
   refine ⟨fun h => ?_, fun _ => ⟨_, rfl, ?_⟩⟩
   ·rw [pK] at h
    exact absurd (of_decide_eq_true h) (Nat.lt_irrefl _)
   ·rw [List.take_length] at hb
    rw [hb]
    rfl))
theorem Dt : au prog [] k5 kD :=
 bw (S := kD) (oT l8) (fx := gG) CV (by kernel_rfl) (fun h => by cases h) (T := fun x => vj x.1) (fun x => zf x.1) fun O w0 x _ hp =>
  (By O w0 x.1 hp).down 0 () (Nat.zero_le _) rfl
def FN (O : Nat → Prop) (w0 : World) (l : List Ent) (hl : l.length ≤ 1000000) :=
 PLift.up <| bP (σ := Unit) l.length (fun i _ => fh (l.take i) = true)
  (fun i _ => bC prog n1 (Cx.base O w0) (cN prog O w0 qw fun y => y = (fh l, ())) [] hP (lp gQ 2) (vI l (lnx ag l) (i : Nat)))
  (fun i s hi hb ih => aI (tn qC) (n9 l _ _) (by
   refine ⟨fun _ => ⟨gH hi, trivial, fun h => ⟨_, rfl, ?_⟩, fun h => ?_⟩, fun h => ?_⟩
   ·rw [kJ hi] at h
    have h1 : dF l[i] = false := by simpa using h
    rw [EI hi h1]
   ·rw [kJ hi] at h
    rw [da hi (by omega)]
    refine ih () ?_
    rw [Bp hi hb]
    simpa using h
   ·rw [pK] at h
    exact absurd hi (of_decide_eq_false h)))
  (fun s hb => aI (tn qC) (n9 l _ _) (by
   refine ⟨fun h => ?_, fun _ => ⟨_, rfl, ?_⟩⟩
   ·rw [pK] at h
    exact absurd (of_decide_eq_true h) (Nat.lt_irrefl _)
   ·rw [List.take_length] at hb
    rw [hb]))
theorem HF : au prog [] oR oB :=
 bw (S := oB) (tn qC) (fx := hP) E6 (by kernel_rfl) (fun h => by cases h) (T := fun x => Al x.1) (fun x => CF x.1) fun O w0 x _ hp =>
  (FN O w0 x.1 hp).down 0 () (Nat.zero_le _) rfl
theorem BJ (l : List Ent) {a b : Bool} (ha : a = decide (1 ≤ l.length)) (hb : b = decide (l.length ≤ 4)) : (bif bif a then b else false then fh l else false) = cx l := by
 unfold cx
 rw [ha, hb]
 cases decide (1 ≤ l.length) <;> cases decide (l.length ≤ 4) <;> cases fh l <;> rfl
theorem uC (l : List Ent) : decide ((1 : Int) ≤ lnx ag l) = decide (1 ≤ l.length) ∧ decide (lnx ag l ≤ 4) = decide (l.length ≤ 4) ∧ decide ((0 : Int) < lnx ag l) = decide (1 ≤ l.length) ∧ decide (lnx ag l < 5) = decide (l.length ≤ 4) := by
 have h : lnx ag l = (l.length : Int) := rfl
 rw [h]
 refine ⟨?_, ?_, ?_, ?_⟩ <;> (rw [Bool.eq_iff_iff, decide_eq_true_eq, decide_eq_true_eq]; omega)
theorem AR : au prog [] iR iZ :=
 bw (S := iZ) (A8 Dt) (fx := pM) yS (by kernel_rfl) (fun h => by cases h) (T := fun x => rG x.1) (fun x => wD x.1) fun O w0 x _ hp =>
  ⟨fun _ => hp, _, rfl, Prod.ext (BJ x.1 (uC x.1).1 (uC x.1).2.1) rfl⟩
theorem Er : au prog [] kA kQ :=
 bw (S := kQ) (Dh HF) (fx := sr) Bt (by kernel_rfl) (fun h => by cases h) (T := fun x => uR x.1) (fun x => yJ x.1) fun O w0 x _ hp =>
  ⟨fun _ => hp, _, rfl, Prod.ext (BJ x.1 (uC x.1).2.2.1 (uC x.1).2.2.2) rfl⟩
end Go.Proofs.YtnakjijahkaoaaaDoor
namespace Go.Proofs.YtnakjijahkaoaaaDoor
open Go Go.RowKit
noncomputable abbrev rR : Fx := { fn := m5, ann := { } }
noncomputable abbrev sT : aZ := { D := { T := bc, F := [], R := [], ovl := [] }, inl := [] }
noncomputable abbrev BK : bm := .data rq
theorem CB : XOk prog sT := xok ((aO aT aE)) (by kernel_rfl) aG aQ aR
noncomputable def tT : ab := ab.ret (K.val (Ty.pair (Ty.mp af cX) Ty.unit) (cY (cY (cY (cY (cY (cY (cY (cY (cY (cY [] 1 (Prod.fst (zero (Ty.pair Ty.bool (Ty.pair Ty.bool (Ty.pair Ty.bool (Ty.pair Ty.bool (Ty.pair Ty.bool (Ty.pair Ty.bool Ty.unit))))))), Prod.fst (Prod.snd (zero (Ty.pair Ty.bool (Ty.pair Ty.bool (Ty.pair Ty.bool (Ty.pair Ty.bool (Ty.pair Ty.bool (Ty.pair Ty.bool Ty.unit)))))))), true, true, Prod.fst (Prod.snd (Prod.snd (Prod.snd (Prod.snd (zero (Ty.pair Ty.bool (Ty.pair Ty.bool (Ty.pair Ty.bool (Ty.pair Ty.bool (Ty.pair Ty.bool (Ty.pair Ty.bool Ty.unit))))))))))), true, Prod.snd (Prod.snd (Prod.snd (Prod.snd (Prod.snd (Prod.snd (zero (Ty.pair Ty.bool (Ty.pair Ty.bool (Ty.pair Ty.bool (Ty.pair Ty.bool (Ty.pair Ty.bool (Ty.pair Ty.bool Ty.unit)))))))))))))) 2 (true, true, Prod.fst (Prod.snd (Prod.snd (zero (Ty.pair Ty.bool (Ty.pair Ty.bool (Ty.pair Ty.bool (Ty.pair Ty.bool (Ty.pair Ty.bool (Ty.pair Ty.bool Ty.unit))))))))), true, Prod.snd (Prod.snd (Prod.snd (Prod.snd (zero (Ty.pair Ty.bool (Ty.pair Ty.bool (Ty.pair Ty.bool (Ty.pair Ty.bool (Ty.pair Ty.bool (Ty.pair Ty.bool Ty.unit)))))))))))) 3 (true, true, Prod.fst (Prod.snd (Prod.snd (zero (Ty.pair Ty.bool (Ty.pair Ty.bool (Ty.pair Ty.bool (Ty.pair Ty.bool (Ty.pair Ty.bool (Ty.pair Ty.bool Ty.unit))))))))), Prod.fst (Prod.snd (Prod.snd (Prod.snd (zero (Ty.pair Ty.bool (Ty.pair Ty.bool (Ty.pair Ty.bool (Ty.pair Ty.bool (Ty.pair Ty.bool (Ty.pair Ty.bool Ty.unit)))))))))), true, Prod.snd (Prod.snd (Prod.snd (Prod.snd (Prod.snd (zero (Ty.pair Ty.bool (Ty.pair Ty.bool (Ty.pair Ty.bool (Ty.pair Ty.bool (Ty.pair Ty.bool (Ty.pair Ty.bool Ty.unit))))))))))))) 4 (true, true, Prod.fst (Prod.snd (Prod.snd (zero (Ty.pair Ty.bool (Ty.pair Ty.bool (Ty.pair Ty.bool (Ty.pair Ty.bool (Ty.pair Ty.bool (Ty.pair Ty.bool Ty.unit))))))))), true, true, Prod.snd (Prod.snd (Prod.snd (Prod.snd (Prod.snd (zero (Ty.pair Ty.bool (Ty.pair Ty.bool (Ty.pair Ty.bool (Ty.pair Ty.bool (Ty.pair Ty.bool (Ty.pair Ty.bool Ty.unit))))))))))))) 5 (true, true, Prod.snd (Prod.snd (zero (Ty.pair Ty.bool (Ty.pair Ty.bool (Ty.pair Ty.bool (Ty.pair Ty.bool (Ty.pair Ty.bool (Ty.pair Ty.bool Ty.unit)))))))))) 6 (true, true, Prod.fst (Prod.snd (Prod.snd (zero (Ty.pair Ty.bool (Ty.pair Ty.bool (Ty.pair Ty.bool (Ty.pair Ty.bool (Ty.pair Ty.bool (Ty.pair Ty.bool Ty.unit))))))))), Prod.fst (Prod.snd (Prod.snd (Prod.snd (zero (Ty.pair Ty.bool (Ty.pair Ty.bool (Ty.pair Ty.bool (Ty.pair Ty.bool (Ty.pair Ty.bool (Ty.pair Ty.bool Ty.unit)))))))))), true, Prod.snd (Prod.snd (Prod.snd (Prod.snd (Prod.snd (zero (Ty.pair Ty.bool (Ty.pair Ty.bool (Ty.pair Ty.bool (Ty.pair Ty.bool (Ty.pair Ty.bool (Ty.pair Ty.bool Ty.unit))))))))))))) 7 (true, Prod.snd (zero (Ty.pair Ty.bool (Ty.pair Ty.bool (Ty.pair Ty.bool (Ty.pair Ty.bool (Ty.pair Ty.bool (Ty.pair Ty.bool Ty.unit))))))))) 8 (true, Prod.fst (Prod.snd (zero (Ty.pair Ty.bool (Ty.pair Ty.bool (Ty.pair Ty.bool (Ty.pair Ty.bool (Ty.pair Ty.bool (Ty.pair Ty.bool Ty.unit)))))))), Prod.fst (Prod.snd (Prod.snd (zero (Ty.pair Ty.bool (Ty.pair Ty.bool (Ty.pair Ty.bool (Ty.pair Ty.bool (Ty.pair Ty.bool (Ty.pair Ty.bool Ty.unit))))))))), true, Prod.snd (Prod.snd (Prod.snd (Prod.snd (zero (Ty.pair Ty.bool (Ty.pair Ty.bool (Ty.pair Ty.bool (Ty.pair Ty.bool (Ty.pair Ty.bool (Ty.pair Ty.bool Ty.unit)))))))))))) 9 (true, Prod.fst (Prod.snd (zero (Ty.pair Ty.bool (Ty.pair Ty.bool (Ty.pair Ty.bool (Ty.pair Ty.bool (Ty.pair Ty.bool (Ty.pair Ty.bool Ty.unit)))))))), Prod.fst (Prod.snd (Prod.snd (zero (Ty.pair Ty.bool (Ty.pair Ty.bool (Ty.pair Ty.bool (Ty.pair Ty.bool (Ty.pair Ty.bool (Ty.pair Ty.bool Ty.unit))))))))), true, Prod.snd (Prod.snd (Prod.snd (Prod.snd (zero (Ty.pair Ty.bool (Ty.pair Ty.bool (Ty.pair Ty.bool (Ty.pair Ty.bool (Ty.pair Ty.bool (Ty.pair Ty.bool Ty.unit)))))))))))) 10 (true, Prod.fst (Prod.snd (zero (Ty.pair Ty.bool (Ty.pair Ty.bool (Ty.pair Ty.bool (Ty.pair Ty.bool (Ty.pair Ty.bool (Ty.pair Ty.bool Ty.unit)))))))), Prod.fst (Prod.snd (Prod.snd (zero (Ty.pair Ty.bool (Ty.pair Ty.bool (Ty.pair Ty.bool (Ty.pair Ty.bool (Ty.pair Ty.bool (Ty.pair Ty.bool Ty.unit))))))))), true, Prod.snd (Prod.snd (Prod.snd (Prod.snd (zero (Ty.pair Ty.bool (Ty.pair Ty.bool (Ty.pair Ty.bool (Ty.pair Ty.bool (Ty.pair Ty.bool (Ty.pair Ty.bool Ty.unit))))))))))), PUnit.unit))
theorem yk : al sT BK 5000 [] rR (aA m5) (Env.of (aN rg () 0) []) = tT := by kernel_rfl
noncomputable abbrev j1 : Fx := { fn := gW, ann := { frz := [(1, [3])] } }
noncomputable abbrev lq : aZ := { D := { T := bc, F := [], R := [], ovl := [] }, inl := [] }
noncomputable abbrev td : bm := .data j3
theorem sF : XOk prog lq := xok ((aO aT aE)) (by kernel_rfl) aG aQ aR
noncomputable def lC (m : den aD) (nonce : den Ty.str) (good : den (Ty.ref af)) : ab := ab.ite (bif decide (Prod.fst (Prod.fst (Prod.snd (Prod.snd m))) = 2) then eqb Ty.str (Prod.fst (Prod.snd (Prod.snd (Prod.snd (Prod.snd (Prod.snd m)))))) nonce else false) (ab.ret (K.val (Ty.pair af Ty.unit) (good, PUnit.unit))) (ab.ret (K.val (Ty.pair af Ty.unit) (4, PUnit.unit)))
theorem pT (m : den aD) (nonce : den Ty.str) (good : den (Ty.ref af)) : al lq td 5000 [] j1 (aA gW) (Env.of (aN jY (m, nonce, good, ()) 0) []) = lC m nonce good := by kernel_rfl
noncomputable abbrev lV : Fx := { fn := jd, ann := { frz := [(1, [2])] } }
noncomputable abbrev nB : aZ := { D := { T := bc, F := [(iI, iU)], R := [], ovl := [], G := gl }, inl := [] }
noncomputable abbrev wr : bm := .data fm
theorem vR (h_proof_Links : au prog gl iI iU) : XOk prog nB := xok (aB (aO aT aE) h_proof_Links) (by kernel_rfl) aG aQ aR
noncomputable def mT (m : den aD) (nonce : den Ty.str) : ab := ab.ite (decide (Prod.fst (Prod.fst (Prod.snd (Prod.snd m))) = 2)) (ab.ret (K.val (Ty.pair af Ty.unit) (1, PUnit.unit))) (ab.req True (ab.ite (gN (Prod.fst (Prod.snd m)) (Prod.fst (Prod.snd (Prod.fst (Prod.snd (Prod.snd m)))))) (ab.ret (K.val (Ty.pair af Ty.unit) (2, PUnit.unit))) (ab.ret (K.val (Ty.pair af Ty.unit) (4, PUnit.unit)))))
theorem rX (m : den aD) (nonce : den Ty.str) : al nB wr 5000 [] lV (aA jd) (Env.of (aN iu (m, nonce, ()) 0) []) = mT m nonce := by kernel_rfl
noncomputable abbrev ye : Fx := { fn := tr, ann := { } }
noncomputable abbrev As : aZ := { D := { T := bc, F := [], R := [], ovl := [] }, inl := [] }
noncomputable abbrev GL : bm := .data yq
theorem HV : XOk prog As := xok ((aO aT aE)) (by kernel_rfl) aG aQ aR
noncomputable def zW (m : den aD) : ab := ab.req (bv 0 (bI (lnx ag (Prod.fst (Prod.snd (Prod.snd (Prod.snd m))))) 6) (lnx ag (Prod.fst (Prod.snd (Prod.snd (Prod.snd m)))))) (ab.req (bv 0 (bI (ax (Prod.fst (Prod.snd (Prod.snd (Prod.snd (Prod.snd (Prod.snd m))))))) 20) (ax (Prod.fst (Prod.snd (Prod.snd (Prod.snd (Prod.snd (Prod.snd m)))))))) (ab.req (bv 0 (bI (ax (Prod.fst (Prod.snd (Prod.snd (Prod.snd (Prod.snd (Prod.snd (Prod.snd m)))))))) 70) (ax (Prod.fst (Prod.snd (Prod.snd (Prod.snd (Prod.snd (Prod.snd (Prod.snd m))))))))) (ab.ret (K.val (Ty.pair aD Ty.unit) ((Prod.fst m, Prod.fst (Prod.snd m), Prod.fst (Prod.snd (Prod.snd m)), bF ag (Prod.fst (Prod.snd (Prod.snd (Prod.snd m)))) 0 (bI (lnx ag (Prod.fst (Prod.snd (Prod.snd (Prod.snd m))))) 6), Prod.fst (Prod.snd (Prod.snd (Prod.snd (Prod.snd m)))), a6 (Prod.fst (Prod.snd (Prod.snd (Prod.snd (Prod.snd (Prod.snd m)))))) 0 (bI (ax (Prod.fst (Prod.snd (Prod.snd (Prod.snd (Prod.snd (Prod.snd m))))))) 20), a6 (Prod.fst (Prod.snd (Prod.snd (Prod.snd (Prod.snd (Prod.snd (Prod.snd m))))))) 0 (bI (ax (Prod.fst (Prod.snd (Prod.snd (Prod.snd (Prod.snd (Prod.snd (Prod.snd m)))))))) 70), Prod.snd (Prod.snd (Prod.snd (Prod.snd (Prod.snd (Prod.snd (Prod.snd m))))))), PUnit.unit)))))
theorem Bv (m : den aD) : al As GL 5000 [] ye (aA tr) (Env.of (aN yD (m, ()) 0) []) = zW m := by kernel_rfl
end Go.Proofs.YtnakjijahkaoaaaDoor
namespace Go.Proofs.YtnakjijahkaoaaaDoor
open Go Go.RowKit
abbrev Mg := den aD
abbrev Fd := den cX
def fd (id target stack n nonce data : Bool) : Fd := (id, target, stack, n, nonce, data, ())
def cj : List (den af × den cX) := [(1, fd false false true true false true), (2, fd true true false true false false), (3, fd true true false false true false), (4, fd true true false true true false), (5, fd true true false false false false),
 (6, fd true true false false true false), (7, fd true false false false false false), (8, fd true false false true false false), (9, fd true false false true false false), (10, fd true false false true false false)]
noncomputable abbrev jy : bh := ⟨rg, rq, fun _ => (cj, ()), fun _ => True, true⟩
theorem Co : au prog [] jI jy :=
 bw (S := jy) CB (fx := rR) AX (by kernel_rfl) (fun _ _ => trivial) (T := fun _ => tT) (fun _ => yk) fun O w0 x _ _ => ⟨_, rfl, by show _ = _; kernel_rfl⟩
def fu (m : Mg) : den ag := m.2.2.1
def iH (m : Mg) : ByteArray := m.2.2.2.2.2.1
def fB (m : Mg) : Int := (fu m).1
def en (m : Mg) (nonce : ByteArray) (good : Int) : Int := bif (bif decide (fB m = 2) then eqb Ty.str (iH m) nonce else false) then good else 4
noncomputable abbrev eS : bh := ⟨jY, j3, fun x => (en x.1 x.2.1 x.2.2.1, ()), fun _ => True, true⟩
theorem sy : au prog [] eZ eS :=
 bw (S := eS) sF (fx := j1) rY (by kernel_rfl) (fun _ _ => trivial) (T := fun x => lC x.1 x.2.1 x.2.2.1) (fun x => pT x.1 x.2.1 x.2.2.1) fun O w0 x _ _ => by
  refine ⟨fun h => ⟨_, rfl, ?_⟩, fun h => ⟨_, rfl, ?_⟩⟩
  ·show (_, ()) = (en x.1 x.2.1 x.2.2.1, ())
   have h : (bif decide (fB x.1 = 2) then eqb Ty.str (iH x.1) x.2.1 else false) = true := h
   unfold en
   rw [h]
   rfl
  ·show ((4 : Int), ()) = (en x.1 x.2.1 x.2.2.1, ())
   have h : (bif decide (fB x.1 = 2) then eqb Ty.str (iH x.1) x.2.1 else false) = false := h
   unfold en
   rw [h]
   rfl
def dQ (m : Mg) : Int := bif decide (fB m = 2) then 1 else bif gN m.2.1 (fu m).2.1 then 2 else 4
noncomputable abbrev fV : bh := ⟨iu, fm, fun x => (dQ x.1, ()), fun _ => True, true⟩
theorem wm : au prog gl fS fV :=
 bw (S := fV) (vR AT) (fx := lV) uL (by kernel_rfl) (fun _ _ => trivial) (T := fun x => mT x.1 x.2.1) (fun x => rX x.1 x.2.1) fun O w0 x _ _ => by
  refine ⟨fun h => ⟨_, rfl, ?_⟩, fun h => ⟨trivial, fun h2 => ⟨_, rfl, ?_⟩, fun h2 => ⟨_, rfl, ?_⟩⟩⟩
  ·show ((1 : Int), ()) = (dQ x.1, ())
   have h : decide (fB x.1 = 2) = true := h
   unfold dQ
   rw [h]
   rfl
  ·show ((2 : Int), ()) = (dQ x.1, ())
   have h : decide (fB x.1 = 2) = false := h
   have h2 : gN x.1.2.1 (fu x.1).2.1 = true := h2
   unfold dQ
   rw [h, h2]
   rfl
  ·show ((4 : Int), ()) = (dQ x.1, ())
   have h : decide (fB x.1 = 2) = false := h
   have h2 : gN x.1.2.1 (fu x.1).2.1 = false := h2
   unfold dQ
   rw [h, h2]
   rfl
def bB : List (den af × den (.fn (.pair aD (.pair .str .unit)) fm)) :=
 [(2, some fun x => (dQ x.1, ())), (4, some fun x => (en x.1 x.2.1 2, ())), (6, some fun x => (en x.1 x.2.1 3, ()))]
noncomputable abbrev ib : bh := ⟨oc, oD, fun _ => (bB, ()), fun _ => True, true⟩
end Go.Proofs.YtnakjijahkaoaaaDoor
namespace Go.Proofs.YtnakjijahkaoaaaDoor
open Go Go.RowKit
noncomputable abbrev rj : Fx := { fn := mM, ann := { frz := [(1, [1]), (2, [3])] }, share := true }
noncomputable abbrev tU : aZ := { D := { T := bc, F := [(jI, jy), (hH, jF), (iR, iZ)], R := [], ovl := [] }, inl := [] }
noncomputable abbrev Bn : bm := .data lK
theorem CC (h_wire_kinds : au prog [] jI jy) (h_stack_Is : au prog [] hH jF) (h_stack_Right : au prog [] iR iZ) : XOk prog tU := xok (aB (aB (aB (aO aT aE) h_stack_Right) h_stack_Is) h_wire_kinds) (by kernel_rfl) aG aQ aR
noncomputable def sV (m : den aD) : ab := ab.req True (ab.all (den (Ty.mp af cX)) (fun (q1 : den (Ty.mp af cX)) ↦ q1 = cj) fun (q1 : den (Ty.mp af cX)) ↦ ab.ite (!bZ cj (Prod.fst m)) (ab.ret (K.val (Ty.pair Ty.bool Ty.unit) (false, PUnit.unit))) (ab.ite (bif !Prod.fst (cw cj (Prod.fst m)) then !eqb tId (Prod.fst (Prod.snd m)) (List.replicate 32 (zero (Ty.int IntKind.u8))) else false) (ab.ret (K.val (Ty.pair Ty.bool Ty.unit) (false, PUnit.unit))) (ab.ite (!eqO (Prod.fst (Prod.snd (cw cj (Prod.fst m)))) !eqb ag (Prod.fst (Prod.snd (Prod.snd m))) (zero (Ty.pair af (Ty.pair tId (Ty.pair af Ty.unit))))) (ab.ret (K.val (Ty.pair Ty.bool Ty.unit) (false, PUnit.unit))) (ab.req (cr [(Prod.fst (Prod.snd (cw cj (Prod.fst m))), true)] True) (ab.ite (bif Prod.fst (Prod.snd (cw cj (Prod.fst m))) then !dF (Prod.fst (Prod.snd (Prod.snd m))) else false) (ab.ret (K.val (Ty.pair Ty.bool Ty.unit) (false, PUnit.unit))) (ab.ite (!eqO (Prod.fst (Prod.snd (Prod.snd (cw cj (Prod.fst m))))) (decide (0 < lnx ag (Prod.fst (Prod.snd (Prod.snd (Prod.snd m))))))) (ab.ret (K.val (Ty.pair Ty.bool Ty.unit) (false, PUnit.unit))) (ab.req (cr [(Prod.fst (Prod.snd (Prod.snd (cw cj (Prod.fst m)))), true)] (List.length (Prod.fst (Prod.snd (Prod.snd (Prod.snd m)))) ≤ 1000000)) (ab.ite (bif Prod.fst (Prod.snd (Prod.snd (cw cj (Prod.fst m)))) then !cx (Prod.fst (Prod.snd (Prod.snd (Prod.snd m)))) else false) (ab.ret (K.val (Ty.pair Ty.bool Ty.unit) (false, PUnit.unit))) (ab.ite (bif !Prod.fst (Prod.snd (Prod.snd (Prod.snd (cw cj (Prod.fst m))))) then !decide (Prod.fst (Prod.snd (Prod.snd (Prod.snd (Prod.snd m)))) = 0) else false) (ab.ret (K.val (Ty.pair Ty.bool Ty.unit) (false, PUnit.unit))) (ab.ite (decide (Prod.fst (Prod.snd (Prod.snd (Prod.snd (Prod.snd m)))) < 0)) (ab.ret (K.val (Ty.pair Ty.bool Ty.unit) (false, PUnit.unit))) (ab.ite (decide (1099511627776 < Prod.fst (Prod.snd (Prod.snd (Prod.snd (Prod.snd m)))))) (ab.ret (K.val (Ty.pair Ty.bool Ty.unit) (false, PUnit.unit))) (ab.ite (bif Prod.fst (Prod.snd (Prod.snd (Prod.snd (Prod.snd (cw cj (Prod.fst m)))))) then !decide (ax (Prod.fst (Prod.snd (Prod.snd (Prod.snd (Prod.snd (Prod.snd m)))))) = 16) else false) (ab.ret (K.val (Ty.pair Ty.bool Ty.unit) (false, PUnit.unit))) (ab.ite (bif !Prod.fst (Prod.snd (Prod.snd (Prod.snd (Prod.snd (cw cj (Prod.fst m)))))) then !eqb Ty.str (Prod.fst (Prod.snd (Prod.snd (Prod.snd (Prod.snd (Prod.snd m)))))) { data := { toList := [] } } else false) (ab.ret (K.val (Ty.pair Ty.bool Ty.unit) (false, PUnit.unit))) (ab.ret (K.val (Ty.pair Ty.bool Ty.unit) (bif eqb Ty.str (Prod.fst (Prod.snd (Prod.snd (Prod.snd (Prod.snd (Prod.snd (Prod.snd m))))))) { data := { toList := [] } } then true else bif Prod.fst (Prod.snd (Prod.snd (Prod.snd (Prod.snd (Prod.snd (cw cj (Prod.fst m))))))) then decide (ax (Prod.fst (Prod.snd (Prod.snd (Prod.snd (Prod.snd (Prod.snd (Prod.snd m))))))) ≤ 64) else false, PUnit.unit))))))))))))))))
theorem yc (m : den aD) : al tU Bn 5000 [] rj (aA mM) (Env.of (aN rk (m, ()) 0) []) = sV m := by kernel_rfl
noncomputable abbrev uD : Fx := { fn := nl, ann := { frz := [(1, [1])] } }
noncomputable abbrev oF : Fx := { fn := kw, ann := { } }
noncomputable abbrev pt : aZ := { D := { T := bc, F := [(eZ, eS), (fS, fV)], R := [], ovl := [], G := gl }, inl := [(mX, uD)] }
noncomputable abbrev zd : bm := .data oD
theorem zE (h_guard_judges_1_1 : au prog gl eZ eS) (h_guard_judges_2 : au prog gl fS fV) : XOk prog pt := xok (aB (aB (aO aT aE) h_guard_judges_2) h_guard_judges_1_1) (by kernel_rfl) aG (mF uM (by kernel_rfl) aQ) aR
noncomputable def pE : ab := ab.req (∀ (y : den (Ty.pair aD (Ty.pair Ty.str Ty.unit))), True) (ab.req (∀ (y : den (Ty.pair aD (Ty.pair Ty.str Ty.unit))), True) (ab.ret (K.val (Ty.pair (Ty.mp af (Ty.fn (Ty.pair aD (Ty.pair Ty.str Ty.unit)) (Ty.pair af Ty.unit))) Ty.unit) (cY (cY (cY [] 2 (some fun (x : den iu) ↦ (dQ (Prod.fst x), PUnit.unit))) 4 (some fun (y : den (Ty.pair aD (Ty.pair Ty.str Ty.unit))) ↦ (en (Prod.fst y) (Prod.fst (Prod.snd y)) 2, PUnit.unit))) 6 (some fun (y : den (Ty.pair aD (Ty.pair Ty.str Ty.unit))) ↦ (en (Prod.fst y) (Prod.fst (Prod.snd y)) 3, PUnit.unit)), PUnit.unit))))
theorem uI : al pt zd 5000 [] oF (aA kw) (Env.of (aN oc () 0) []) = pE := by kernel_rfl
end Go.Proofs.YtnakjijahkaoaaaDoor
namespace Go.Proofs.YtnakjijahkaoaaaDoor
open Go Go.RowKit
def ur : den ag := zero (Ty.pair af (Ty.pair tId (Ty.pair af Ty.unit)))
def mf (m : Mg) : Fd := cw cj m.1
def w0 (m : Mg) : Bool := !bZ cj m.1
def w1 (m : Mg) : Bool := bif !(mf m).1 then !eqb tId m.2.1 (List.replicate 32 (zero (Ty.int IntKind.u8))) else false
def w2 (m : Mg) : Bool := !eqO (mf m).2.1 (!eqb ag m.2.2.1 ur)
def w3 (m : Mg) : Bool := bif (mf m).2.1 then !dF m.2.2.1 else false
def w4 (m : Mg) : Bool := !eqO (mf m).2.2.1 (decide (0 < lnx ag m.2.2.2.1))
def w5 (m : Mg) : Bool := bif (mf m).2.2.1 then !cx m.2.2.2.1 else false
def mN (m : Mg) : Int := m.2.2.2.2.1
def w6 (m : Mg) : Bool := bif !(mf m).2.2.2.1 then !decide (mN m = 0) else false
def w7 (m : Mg) : Bool := decide (mN m < 0)
def w8 (m : Mg) : Bool := decide (1099511627776 < mN m)
def w9 (m : Mg) : Bool := bif (mf m).2.2.2.2.1 then !decide (ax m.2.2.2.2.2.1 = 16) else false
def w10 (m : Mg) : Bool := bif !(mf m).2.2.2.2.1 then !eqb Ty.str m.2.2.2.2.2.1 ⟨⟨[]⟩⟩ else false
def w11 (m : Mg) : Bool := bif eqb Ty.str m.2.2.2.2.2.2.1 ⟨⟨[]⟩⟩ then true else bif (mf m).2.2.2.2.2.1 then decide (ax m.2.2.2.2.2.2.1 ≤ 64) else false
def aL (m : Mg) : Bool := bif w0 m then false else bif w1 m then false else bif w2 m then false else bif w3 m then false else bif w4 m then false else bif w5 m then false else
 bif w6 m then false else bif w7 m then false else bif w8 m then false else bif w9 m then false else bif w10 m then false else w11 m
noncomputable abbrev d9 : bh := ⟨rk, lK, fun x => (aL x.1, ()), fun x => x.1.2.2.2.1.length ≤ 1000000, false⟩
theorem tG : au prog [] fw d9 :=
 bw (S := d9) (CC Co l8 AR) (fx := rj) AP (by kernel_rfl) (fun h => by cases h) (T := fun x => sV x.1) (fun x => yc x.1) fun O v0 x _ hp => by
  obtain ⟨m, ⟨⟩⟩ := x
  have hp : m.2.2.2.1.length ≤ 1000000 := hp
  have leaf : ∀ {b : Bool}, aL m = b → ∃ z, be lK (K.val (Ty.pair Ty.bool Ty.unit) (b, ())) = some z ∧ z = d9.g (m, ()) := fun {b} e => ⟨_, rfl, by show (b, ()) = (aL m, ()); rw [e]⟩
  refine ⟨trivial, aM ⟨fun h => leaf ?_, fun h0 => ⟨fun h => leaf ?_, fun h1 => ⟨fun h => leaf ?_, fun h2 => ⟨fun _ => trivial, fun h => leaf ?_, fun h3 => ⟨fun h => leaf ?_, fun h4 => ⟨fun _ => hp, fun h => leaf ?_, fun h5 => ⟨fun h => leaf ?_, fun h6 => ⟨fun h => leaf ?_, fun h7 => ⟨fun h => leaf ?_, fun h8 => ⟨fun h => leaf ?_, fun h9 => ⟨fun h => leaf ?_, fun h10 => leaf ?_⟩⟩⟩⟩⟩⟩⟩⟩⟩⟩⟩⟩
  ·have h : w0 m = true := h
   simp only [aL, h, cond_true]
  all_goals have h0 : w0 m = false := h0
  ·have h : w1 m = true := h
   simp only [aL, h0, h, cond_true, cond_false]
  all_goals have h1 : w1 m = false := h1
  ·have h : w2 m = true := h
   simp only [aL, h0, h1, h, cond_true, cond_false]
  all_goals have h2 : w2 m = false := h2
  ·have h : w3 m = true := h
   simp only [aL, h0, h1, h2, h, cond_true, cond_false]
  all_goals have h3 : w3 m = false := h3
  ·have h : w4 m = true := h
   simp only [aL, h0, h1, h2, h3, h, cond_true, cond_false]
  all_goals have h4 : w4 m = false := h4
  ·have h : w5 m = true := h
   simp only [aL, h0, h1, h2, h3, h4, h, cond_true, cond_false]
  all_goals have h5 : w5 m = false := h5
  ·have h : w6 m = true := h
   simp only [aL, h0, h1, h2, h3, h4, h5, h, cond_true, cond_false]
  all_goals have h6 : w6 m = false := h6
  ·have h : w7 m = true := h
   simp only [aL, h0, h1, h2, h3, h4, h5, h6, h, cond_true, cond_false]
  all_goals have h7 : w7 m = false := h7
  ·have h : w8 m = true := h
   simp only [aL, h0, h1, h2, h3, h4, h5, h6, h7, h, cond_true, cond_false]
  all_goals have h8 : w8 m = false := h8
  ·have h : w9 m = true := h
   simp only [aL, h0, h1, h2, h3, h4, h5, h6, h7, h8, h, cond_true, cond_false]
  all_goals have h9 : w9 m = false := h9
  ·have h : w10 m = true := h
   simp only [aL, h0, h1, h2, h3, h4, h5, h6, h7, h8, h9, h, cond_true, cond_false]
  ·have h10 : w10 m = false := h10
   simp only [aL, h0, h1, h2, h3, h4, h5, h6, h7, h8, h9, h10, cond_false]
   rfl
theorem y8 : au prog gl ii ib :=
 bw (S := ib) (zE (bJ sy) wm) (fx := oF) yF (by kernel_rfl) (fun _ _ => trivial) (T := fun _ => pE) (fun _ => uI) fun O v0 x _ _ => ⟨fun _ => trivial, fun _ => trivial, _, rfl, rfl⟩
def fg : Mg := zero aD
def cH (m : Mg) : Int := m.2.2.1.2.2.1
def d4 (m : Mg) (nonce : ByteArray) : Int := (Bb (a := .pair aD (.pair .str .unit)) (r := fm) (cw bB m.1) (m, nonce, ())).1
def Bg (kind : Int) (id : List Int) (target : den ag) (n : Int) (nonce : ByteArray) : Mg := (kind, id, target, [], n, nonce, e0, ())
def bG (secret : ByteArray) (m : Mg) : Int × Mg × Int :=
 bif (bif !bZ bB m.1 then true else !aL m) then (0, fg, 1)
 else bif !decide ((bj secret m.2.1 (cH m)).2 = 0) then (0, fg, (bj secret m.2.1 (cH m)).2)
 else bif decide (d4 m (bj secret m.2.1 (cH m)).1 = 1) then (d4 m (bj secret m.2.1 (cH m)).1, Bg 3 m.2.1 m.2.2.1 0 (bj secret m.2.1 (cH m)).1, 0)
 else (d4 m (bj secret m.2.1 (cH m)).1, fg, 0)
noncomputable abbrev dN : bh := ⟨qd, j7, fun x => ((bG x.1 x.2.1).1, (bG x.1 x.2.1).2.1, (bG x.1 x.2.1).2.2, ()), fun x => x.2.1.2.2.2.1.length ≤ 1000000, false⟩
def xh : den bH := zero bH
def cR (m : Mg) (now : Int) : den bH × Int :=
 bif (bif bif bif (bif !decide (m.1 = (2 : Int)) then !decide (m.1 = (4 : Int)) else false) then true else !aL m then true else decide (now < 0) then true else decide (1099511627776 < now)) then (xh, 1)
 else ((m.2.1, m.2.2.1, bI (IntKind.wrap .i64 (now + mN m)) 1099511627776, ()), 0)
noncomputable abbrev gE : bh := ⟨nk, mO, fun x => ((cR x.1 x.2.1).1, (cR x.1 x.2.1).2, ()), fun x => x.1.2.2.2.1.length ≤ 1000000, false⟩
noncomputable abbrev kI : bh := ⟨tH, sa, fun _ => (true, ()), fun _ => True, true⟩
def Ki (m : Mg) : Mg := (m.1, m.2.1, m.2.2.1, List.take 6 m.2.2.2.1, m.2.2.2.2.1, a6 m.2.2.2.2.2.1 0 (bI (ax m.2.2.2.2.2.1) 20), a6 m.2.2.2.2.2.2.1 0 (bI (ax m.2.2.2.2.2.2.1) 70), ())
def bo (m : Mg) : Mg := Ki m
noncomputable abbrev od : bh := ⟨yD, yq, fun x => (bo x.1, ()), fun _ => True, true⟩
theorem Gv : au prog [] nX od :=
 bw (S := od) HV (fx := ye) FC (by kernel_rfl) (fun _ _ => trivial) (T := fun x => zW x.1) (fun x => Bv x.1) fun O v0 x _ _ => by
  obtain ⟨m, ⟨⟩⟩ := x
  have hc := Kn (e := ag) m.2.2.2.1 6
  refine ⟨hc.2, BX _ 20, BX _ 70, _, rfl, ?_⟩
  show ((m.1, m.2.1, m.2.2.1, bF ag m.2.2.2.1 0 (bI (lnx ag m.2.2.2.1) ((6 : Nat) : Int)), _), ()) = (bo m, ())
  rw [hc.1]
  rfl
end Go.Proofs.YtnakjijahkaoaaaDoor
namespace Go.Proofs.YtnakjijahkaoaaaDoor
open Go Go.RowKit
noncomputable abbrev qh : Fx := { fn := lN, ann := { frz := [(1, [3])] }, share := true }
noncomputable abbrev rE : aZ := { D := { T := bc, F := [(ii, ib), (fw, d9), (iM, iJ)], R := [], ovl := [], G := gl }, inl := [] }
noncomputable abbrev AB : bm := .data j7
theorem A7 (h_guard_judges : au prog gl ii ib) (h_wire_Right : au prog gl fw d9) (h_proof_Nonce : au prog gl iM iJ) : XOk prog rE := xok (aB (aB (aB (aO aT aE) h_proof_Nonce) h_wire_Right) h_guard_judges) (by kernel_rfl) aG aQ aR
noncomputable def rf (secret : den Ty.str) (m : den aD) : ab := ab.req True (ab.all (den (Ty.mp af (Ty.fn (Ty.pair aD (Ty.pair Ty.str Ty.unit)) (Ty.pair af Ty.unit)))) (fun (q2 : den (Ty.mp af (Ty.fn (Ty.pair aD (Ty.pair Ty.str Ty.unit)) (Ty.pair af Ty.unit)))) ↦ q2 = bB) fun (q2 : den (Ty.mp af (Ty.fn (Ty.pair aD (Ty.pair Ty.str Ty.unit)) (Ty.pair af Ty.unit)))) ↦ ab.req (cr [(!bZ bB (Prod.fst m), false)] (List.length (Prod.fst (Prod.snd (Prod.snd (Prod.snd m)))) ≤ 1000000)) (ab.ite (bif !bZ bB (Prod.fst m) then true else !aL m) (ab.ret (K.val (Ty.pair af (Ty.pair aD (Ty.pair af Ty.unit))) (0, zero (Ty.pair af (Ty.pair tId (Ty.pair ag (Ty.pair (Ty.slc ag) (Ty.pair af (Ty.pair Ty.str (Ty.pair Ty.str Ty.unit))))))), 1, PUnit.unit))) (ab.req True (ab.all (den (Ty.pair Ty.str (Ty.pair af Ty.unit))) (fun (q3 : den (Ty.pair Ty.str (Ty.pair af Ty.unit))) ↦ q3 = (Prod.fst (bj secret (Prod.fst (Prod.snd m)) (Prod.fst (Prod.snd (Prod.snd (Prod.fst (Prod.snd (Prod.snd m))))))), Prod.snd (bj secret (Prod.fst (Prod.snd m)) (Prod.fst (Prod.snd (Prod.snd (Prod.fst (Prod.snd (Prod.snd m))))))), PUnit.unit)) fun (q3 : den (Ty.pair Ty.str (Ty.pair af Ty.unit))) ↦ ab.ite (!decide (Prod.fst (Prod.snd q3) = 0)) (ab.ret (K.val (Ty.pair af (Ty.pair aD (Ty.pair af Ty.unit))) (0, zero (Ty.pair af (Ty.pair tId (Ty.pair ag (Ty.pair (Ty.slc ag) (Ty.pair af (Ty.pair Ty.str (Ty.pair Ty.str Ty.unit))))))), Prod.fst (Prod.snd q3), PUnit.unit))) (ab.req (Kh (Ty.pair aD (Ty.pair Ty.str Ty.unit)) (Ty.pair af Ty.unit) (cw bB (Prod.fst m))) (ab.all (den af) (fun (q4 : den af) ↦ q4 = Prod.fst (J0 (Ty.pair aD (Ty.pair Ty.str Ty.unit)) (Ty.pair af Ty.unit) (cw bB (Prod.fst m)) (m, Prod.fst q3, PUnit.unit))) fun (q4 : den af) ↦ ab.ite (decide (q4 = 1)) (ab.ret (K.val (Ty.pair af (Ty.pair aD (Ty.pair af Ty.unit))) (q4, (3, Prod.fst (Prod.snd m), Prod.fst (Prod.snd (Prod.snd m)), Prod.fst (Prod.snd (Prod.snd (Prod.snd (zero (Ty.pair af (Ty.pair tId (Ty.pair ag (Ty.pair (Ty.slc ag) (Ty.pair af (Ty.pair Ty.str (Ty.pair Ty.str Ty.unit))))))))))), Prod.fst (Prod.snd (Prod.snd (Prod.snd (Prod.snd (zero (Ty.pair af (Ty.pair tId (Ty.pair ag (Ty.pair (Ty.slc ag) (Ty.pair af (Ty.pair Ty.str (Ty.pair Ty.str Ty.unit)))))))))))), Prod.fst q3, Prod.snd (Prod.snd (Prod.snd (Prod.snd (Prod.snd (Prod.snd (zero (Ty.pair af (Ty.pair tId (Ty.pair ag (Ty.pair (Ty.slc ag) (Ty.pair af (Ty.pair Ty.str (Ty.pair Ty.str Ty.unit)))))))))))))), 0, PUnit.unit))) (ab.ret (K.val (Ty.pair af (Ty.pair aD (Ty.pair af Ty.unit))) (q4, zero (Ty.pair af (Ty.pair tId (Ty.pair ag (Ty.pair (Ty.slc ag) (Ty.pair af (Ty.pair Ty.str (Ty.pair Ty.str Ty.unit))))))), 0, PUnit.unit)))))))))
theorem wC (secret : den Ty.str) (m : den aD) : al rE AB 5000 [] qh (aA lN) (Env.of (aN qd (secret, m, ()) 0) []) = rf secret m := by kernel_rfl
noncomputable abbrev ni : Fx := { fn := jA, ann := { frz := [(1, [2])] } }
noncomputable abbrev n6 : aZ := { D := { T := bc, F := [(fw, d9)], R := [], ovl := [] }, inl := [] }
noncomputable abbrev yx : bm := .data mO
theorem xf (h_wire_Right : au prog [] fw d9) : XOk prog n6 := xok (aB (aO aT aE) h_wire_Right) (by kernel_rfl) aG aQ aR
noncomputable def nY (m : den aD) (now : den af) : ab := ab.req (cr [(bif !decide (Prod.fst m = 2) then !decide (Prod.fst m = 4) else false, false)] (List.length (Prod.fst (Prod.snd (Prod.snd (Prod.snd m)))) ≤ 1000000)) (ab.ite (bif bif bif bif !decide (Prod.fst m = 2) then !decide (Prod.fst m = 4) else false then true else !aL m then true else decide (now < 0) then true else decide (1099511627776 < now)) (ab.ret (K.val (Ty.pair bH (Ty.pair af Ty.unit)) (zero (Ty.pair tId (Ty.pair ag (Ty.pair af Ty.unit))), 1, PUnit.unit))) (ab.ret (K.val (Ty.pair bH (Ty.pair af Ty.unit)) ((Prod.fst (Prod.snd m), Prod.fst (Prod.snd (Prod.snd m)), bI (IntKind.wrap IntKind.i64 (now + Prod.fst (Prod.snd (Prod.snd (Prod.snd (Prod.snd m)))))) 1099511627776, Prod.snd (Prod.snd (Prod.snd (zero (Ty.pair tId (Ty.pair ag (Ty.pair af Ty.unit))))))), 0, PUnit.unit))))
theorem ta (m : den aD) (now : den af) : al n6 yx 5000 [] ni (aA jA) (Env.of (aN nk (m, now, ()) 0) []) = nY m now := by kernel_rfl
end Go.Proofs.YtnakjijahkaoaaaDoor
namespace Go.Proofs.YtnakjijahkaoaaaDoor
open Go Go.RowKit
theorem BB (k : Int) : (k = 2 ∧ bZ bB k = true ∧ cw bB k = some (fun x => (dQ x.1, ()))) ∨ (k = 4 ∧ bZ bB k = true ∧ cw bB k = some (fun x => (en x.1 x.2.1 2, ()))) ∨
    (k = 6 ∧ bZ bB k = true ∧ cw bB k = some (fun x => (en x.1 x.2.1 3, ()))) ∨ (k ≠ 2 ∧ k ≠ 4 ∧ k ≠ 6 ∧ bZ bB k = false) := by
  by_cases h2 : k = 2
  · subst h2; exact .inl ⟨rfl, rfl, rfl⟩
  · by_cases h4 : k = 4
    · subst h4; exact .inr (.inl ⟨rfl, rfl, rfl⟩)
    · by_cases h6 : k = 6
      · subst h6; exact .inr (.inr (.inl ⟨rfl, rfl, rfl⟩))
      · refine .inr (.inr (.inr ⟨h2, h4, h6, ?_⟩))
        have e : ∀ j : Int, k ≠ j → eqb af k j = false := fun j h => decide_eq_false h
        unfold bZ js bB
        rw [List.find?_cons_of_neg (by rw [e _ h2]; decide), List.find?_cons_of_neg (by rw [e _ h4]; decide), List.find?_cons_of_neg (by rw [e _ h6]; decide)]
        rfl
theorem Kj {k : Int} (h : bZ bB k = true) : ∃ g, cw bB k = some g := by
 rcases BB k with ⟨_, _, e⟩ | ⟨_, _, e⟩ | ⟨_, _, e⟩ | ⟨_, _, _, e⟩
 ·exact ⟨_, e⟩
 ·exact ⟨_, e⟩
 ·exact ⟨_, e⟩
 ·rw [h] at e; cases e
theorem rF : au prog gl eK dN :=
 bw (S := dN) (A7 y8 (bJ tG) AA) (fx := qh) za (by kernel_rfl) (fun h => by cases h) (T := fun x => rf x.1 x.2.1) (fun x => wC x.1 x.2.1) fun O v0 x _ hp => by
  obtain ⟨secret, m, ⟨⟩⟩ := x
  have hp : m.2.2.2.1.length ≤ 1000000 := hp
  have leaf : ∀ {a : Int} {b : Mg} {c : Int}, bG secret m = (a, b, c) → ∃ z, be j7 (K.val (Ty.pair af (Ty.pair aD (Ty.pair af Ty.unit))) (a, b, c, ())) = some z ∧ z = dN.g (secret, m, ()) := fun {a b c} e =>
   ⟨_, rfl, by show (a, b, c, ()) = ((bG secret m).1, (bG secret m).2.1, (bG secret m).2.2, ()); rw [e]⟩
  refine ⟨trivial, aM ⟨fun _ => hp, fun h => leaf ?_, fun h0 => ⟨trivial, aM ⟨fun h => leaf ?_, fun h1 => ⟨?_, aM ⟨fun h => leaf ?_, fun h => leaf ?_⟩⟩⟩⟩⟩⟩
  ·have h : (bif !bZ bB m.1 then true else !aL m) = true := h
   simp only [bG, h, cond_true]
   rfl
  all_goals have h0 : (bif !bZ bB m.1 then true else !aL m) = false := h0
  ·have h : (!decide ((bj secret m.2.1 (cH m)).2 = 0)) = true := h
   simp only [bG, h0, h, cond_true, cond_false]
   rfl
  all_goals have h1 : (!decide ((bj secret m.2.1 (cH m)).2 = 0)) = false := h1
  ·refine Kj (k := m.1) ?_
   cases e : bZ bB m.1 with
   | true => rfl
   | false => rw [e] at h0; cases h0
  ·have h : decide (d4 m (bj secret m.2.1 (cH m)).1 = 1) = true := h
   simp only [bG, h0, h1, h, cond_true, cond_false]
   rfl
  ·have h : decide (d4 m (bj secret m.2.1 (cH m)).1 = 1) = false := h
   simp only [bG, h0, h1, h, cond_false]
   rfl
theorem xY : au prog [] gz gE :=
 bw (S := gE) (xf tG) (fx := ni) wG (by kernel_rfl) (fun h => by cases h) (T := fun x => nY x.1 x.2.1) (fun x => ta x.1 x.2.1) fun O v0 x _ hp => by
  obtain ⟨m, now, ⟨⟩⟩ := x
  have hp : m.2.2.2.1.length ≤ 1000000 := hp
  refine ⟨fun _ => hp, fun h => ⟨_, rfl, ?_⟩, fun h => ⟨_, rfl, ?_⟩⟩
  ·have h : (bif bif bif (bif !decide (m.1 = (2 : Int)) then !decide (m.1 = (4 : Int)) else false) then true else !aL m then true else decide ((now : Int) < 0) then true else decide ((1099511627776 : Int) < now)) = true := h
   show (xh, (1 : Int), ()) = ((cR m now).1, (cR m now).2, ())
   simp only [cR, h, cond_true]
  ·have h : (bif bif bif (bif !decide (m.1 = (2 : Int)) then !decide (m.1 = (4 : Int)) else false) then true else !aL m then true else decide ((now : Int) < 0) then true else decide ((1099511627776 : Int) < now)) = false := h
   show (_, (0 : Int), ()) = ((cR m now).1, (cR m now).2, ())
   simp only [cR, h, cond_false]
   rfl
end Go.Proofs.YtnakjijahkaoaaaDoor
namespace Go.Proofs.YtnakjijahkaoaaaDoor
open Go Go.RowKit
noncomputable abbrev sM : Fx := { fn := o8, ann := { frz := [(2, [2])] }, share := true }
noncomputable abbrev uN : aZ := { D := { T := bc, F := [(eK, dN)], R := [], ovl := [], G := gl }, inl := [] }
noncomputable abbrev Ew : bm := .data sa
theorem Ej (h_guard_Judge : au prog gl eK dN) : XOk prog uN := xok (aB (aO aT aE) h_guard_Judge) (by kernel_rfl) aG aQ aR
noncomputable def u7 : ab := ab.req (List.length (zero (Ty.slc ag)) ≤ 1000000) (ab.all (den (Ty.pair af (Ty.pair aD (Ty.pair af Ty.unit)))) (fun (q0 : den (Ty.pair af (Ty.pair aD (Ty.pair af Ty.unit)))) ↦ q0 = (Prod.fst (bG { data := { toList := [115] } } (2, zero tId, (2, zero tId, 3, zero Ty.unit), zero (Ty.slc ag), 5, zero (Ty.pair Ty.str (Ty.pair Ty.str Ty.unit)))), Prod.fst (Prod.snd (bG { data := { toList := [115] } } (2, zero tId, (2, zero tId, 3, zero Ty.unit), zero (Ty.slc ag), 5, zero (Ty.pair Ty.str (Ty.pair Ty.str Ty.unit))))), Prod.snd (Prod.snd (bG { data := { toList := [115] } } (2, zero tId, (2, zero tId, 3, zero Ty.unit), zero (Ty.slc ag), 5, zero (Ty.pair Ty.str (Ty.pair Ty.str Ty.unit))))), PUnit.unit)) fun (q0 : den (Ty.pair af (Ty.pair aD (Ty.pair af Ty.unit)))) ↦ ab.ret (K.val (Ty.pair Ty.bool Ty.unit) (bif bif bif decide (Prod.fst (Prod.snd (Prod.snd q0)) = 0) then decide (Prod.fst q0 = 1) else false then decide (Prod.fst (Prod.fst (Prod.snd q0)) = 3) else false then decide (ax (Prod.fst (Prod.snd (Prod.snd (Prod.snd (Prod.snd (Prod.snd (Prod.fst (Prod.snd q0)))))))) = 16) else false, PUnit.unit)))
theorem zF : al uN Ew 5000 [] sM (aA o8) (Env.of (aN tH () 0) []) = u7 := by kernel_rfl
end Go.Proofs.YtnakjijahkaoaaaDoor
