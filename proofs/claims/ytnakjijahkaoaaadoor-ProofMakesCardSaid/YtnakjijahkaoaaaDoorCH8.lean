/- Part 8 of 9 of what this claim's proof stands on: a theory of programs on data, and the contracts of the functions that the law reaches. It holds no condition of its own. -/
import Derived.Test.YtnakjijahkaoaaaDoorCH7
namespace Go.Proofs.YtnakjijahkaoaaaDoor
open Go Go.RowKit
theorem Bk (xs : List (List UInt8)) : Lib.join xs [] = xs.flatten := by
 cases xs with
 | nil => rfl
 | cons x r =>
  rw [Lib.join_cons]
  unfold Lib.joinTail
  have : (fun y : List UInt8 => [] ++ y) = id := by funext y; rfl
  rw [this, List.map_id, List.flatten_cons]
theorem oG (xs : List ByteArray) : bC xs e0 = ⟨((xs.map (·.data.toList)).flatten).toArray⟩ := by
 unfold bC
 have : e0.data.toList = [] := rfl
 rw [this, Bk]
theorem CS (n : Nat) : ∀ xs : List ByteArray, (∀ x ∈ xs, x.size ≤ n) → (bC xs e0).size ≤ xs.length * n := by
 intro xs h
 rw [oG, qJ]
 induction xs with
 | nil => simp
 | cons x r ih =>
  rw [List.map_cons, List.flatten_cons, List.length_append, List.length_cons, Nat.add_mul, Nat.one_mul]
  have h1 := ih fun y hy => h y (List.mem_cons_of_mem _ hy)
  have h2 := h x List.mem_cons_self
  have h3 : x.data.toList.length = x.size := rfl
  omega
end Go.Proofs.YtnakjijahkaoaaaDoor
namespace Go.Proofs.YtnakjijahkaoaaaDoor
open Go Go.RowKit
noncomputable abbrev pn : Fx := { fn := lz, ann := { frz := [(1, [3]), (3, [5])] }, share := true }
noncomputable abbrev qe : bp := { D := { T := bT, F := [(fi, fo)], R := [], ovl := [], G := gl }, inl := [] }
noncomputable abbrev xd : bS := .data pc
theorem xa (h_digest_Sum : aL prog gl fi fo) : XOk prog qe := xok (aO (bv bE bm) h_digest_Sum) (by kernel_rfl) bj bu bt
noncomputable def pT (word : den Ty.str) (a : den tId) : ab := ab.req (bo 0 16 (↑32 : Int)) (ab.req (List.length (List.set (List.set (List.replicate 2 (zero Ty.str)) 0 word) 1 (al (bB (Ty.int IntKind.u8) a 0 16))) ≤ 1000000 ∧ ByteArray.size (bC (List.set (List.set (List.replicate 2 (zero Ty.str)) 0 word) 1 (al (bB (Ty.int IntKind.u8) a 0 16))) e0) ≤ 900000) (ab.all (den tId) (fun (q2 : den tId) ↦ q2 = eE (List.set (List.set (List.replicate 2 (zero Ty.str)) 0 word) 1 (al (bB (Ty.int IntKind.u8) a 0 16)))) fun (q2 : den tId) ↦ ab.req (bo 0 16 (↑32 : Int)) (ab.req (bo 0 (↑32 : Int) (↑32 : Int)) (ab.ret (K.val (Ty.pair tId Ty.unit) (over (zero tId) (Int.toNat 0) (List.take (Int.toNat 16 - Int.toNat 0) (bB (Ty.int IntKind.u8) q2 0 (↑32 : Int))), PUnit.unit))))))
theorem t7 (word : den Ty.str) (a : den tId) : ax qe xd 5000 [] pn (aX lz) (Env.of (a6 pe (word, a, ()) 0) []) = pT word a := by kernel_rfl
noncomputable abbrev nC : Fx := { fn := kK, ann := { frz := [(5, [4]), (6, [8])] }, share := true }
noncomputable abbrev oY : bp := { D := { T := bT, F := [(fi, fo)], R := [], ovl := [], G := gl }, inl := [] }
noncomputable abbrev wx : bS := .data nS
theorem wA (h_digest_Sum : aL prog gl fi fo) : XOk prog oY := xok (aO (bv bE bm) h_digest_Sum) (by kernel_rfl) bj bu bt
noncomputable def pp (secret : den Ty.str) (id : den tId) (host : den ag) : ab := ab.ite (bif decide (host < 0) then true else decide (16 ≤ host)) (ab.ret (K.val (Ty.pair Ty.str (Ty.pair ag Ty.unit)) ({ data := { toList := [] } }, 1, PUnit.unit))) (ab.ite (decide (64 < aY secret)) (ab.ret (K.val (Ty.pair Ty.str (Ty.pair ag Ty.unit)) ({ data := { toList := [] } }, 2, PUnit.unit))) (ab.req (bo 0 (↑32 : Int) (↑32 : Int)) (ab.req (List.length (List.set (List.set (List.set (List.set (List.replicate 4 (zero Ty.str)) 0 { data := { toList := [110, 111, 110, 99, 101] } }) 1 secret) 2 (al (bB (Ty.int IntKind.u8) id 0 (↑32 : Int)))) 3 (al (List.set (List.replicate 1 (zero (Ty.int IntKind.u8))) 0 (IntKind.wrap IntKind.u8 host)))) ≤ 1000000 ∧ ByteArray.size (bC (List.set (List.set (List.set (List.set (List.replicate 4 (zero Ty.str)) 0 { data := { toList := [110, 111, 110, 99, 101] } }) 1 secret) 2 (al (bB (Ty.int IntKind.u8) id 0 (↑32 : Int)))) 3 (al (List.set (List.replicate 1 (zero (Ty.int IntKind.u8))) 0 (IntKind.wrap IntKind.u8 host)))) e0) ≤ 900000) (ab.all (den tId) (fun (q3 : den tId) ↦ q3 = eE (List.set (List.set (List.set (List.set (List.replicate 4 (zero Ty.str)) 0 { data := { toList := [110, 111, 110, 99, 101] } }) 1 secret) 2 (al (bB (Ty.int IntKind.u8) id 0 (↑32 : Int)))) 3 (al (List.set (List.replicate 1 (zero (Ty.int IntKind.u8))) 0 (IntKind.wrap IntKind.u8 host))))) fun (q3 : den tId) ↦ ab.req (bo 0 16 (↑32 : Int)) (ab.ret (K.val (Ty.pair Ty.str (Ty.pair ag Ty.unit)) (al (bB (Ty.int IntKind.u8) (eE (List.set (List.set (List.set (List.set (List.replicate 4 (zero Ty.str)) 0 { data := { toList := [110, 111, 110, 99, 101] } }) 1 secret) 2 (al (bB (Ty.int IntKind.u8) id 0 (↑32 : Int)))) 3 (al (List.set (List.replicate 1 (zero (Ty.int IntKind.u8))) 0 (IntKind.wrap IntKind.u8 host))))) 0 16), 0, PUnit.unit)))))))
theorem sw (secret : den Ty.str) (id : den tId) (host : den ag) : ax oY wx 5000 [] nC (aX kK) (Env.of (a6 nW (secret, id, host, ()) 0) []) = pp secret id host := by kernel_rfl
end Go.Proofs.YtnakjijahkaoaaaDoor
namespace Go.Proofs.YtnakjijahkaoaaaDoor
open Go Go.RowKit
theorem dR (xs : List Int) : (al xs).size = xs.length := by
 show (xs.map _).toArray.size = _
 rw [List.size_toArray, List.length_map]
theorem rE (xs : List Int) (h : Nat) : (bB (.int .u8) xs 0 (h : Int)).length ≤ h := by
 unfold bB eS
 rw [List.length_drop, List.length_take]
 omega
theorem sa {l : List ByteArray} {n : Nat} (h : ∀ x ∈ l, x.size ≤ n) (hn : l.length * n ≤ 900000) (hl : l.length ≤ 1000000) : l.length ≤ 1000000 ∧ ByteArray.size (bC l e0) ≤ 900000 :=
 ⟨hl, Nat.le_trans (CS n l h) hn⟩
def Ba : ByteArray := ⟨⟨[108, 101, 102, 116]⟩⟩
def tA : ByteArray := ⟨⟨[114, 105, 103, 104, 116]⟩⟩
def kw : ByteArray := ⟨⟨[110, 111, 110, 99, 101]⟩⟩
def g7 (a : List Int) : ByteArray := al (bB (.int .u8) a 0 16)
def bA (word : ByteArray) (a : List Int) : List Int := over (zero tId) 0 (List.take 16 (bB (.int .u8) (eE [word, g7 a]) 0 32))
noncomputable abbrev fk : bW := ⟨pe, pc, fun x => (bA x.1 x.2.1, ()), fun x => ByteArray.size x.1 ≤ 1000, false⟩
theorem pU : aL prog gl fm fk :=
 cE (S := fk) (xa qI) (fx := pn) ws (by kernel_rfl) (fun h => by cases h) (T := fun x => pT x.1 x.2.1) (fun x => t7 x.1 x.2.1) fun O w0 x _ hp => by
  obtain ⟨word, a, ⟨⟩⟩ := x
  have hp : word.size ≤ 1000 := hp
  have hk : (g7 a).size ≤ 16 := by unfold g7; rw [dR]; exact rE a 16
  refine ⟨⟨by decide, by decide, by decide⟩, sa (l := [word, g7 a]) (n := 1000) (fun x hx => ?_) (show 2 * 1000 ≤ 900000 by decide) (show 2 ≤ 1000000 by decide), aR ⟨⟨by decide, by decide, by decide⟩, ⟨by decide, by decide, by decide⟩, _, rfl, rfl⟩⟩
  rcases List.mem_cons.1 hx with rfl | hx
  ·exact hp
  ·rcases List.mem_cons.1 hx with rfl | hx
   ·omega
   ·cases hx
def lr (secret : ByteArray) (id : List Int) (host : Int) : List ByteArray := [kw, secret, al (bB (.int .u8) id 0 32), al [IntKind.wrap .u8 host]]
def bJ (secret : ByteArray) (id : List Int) (host : Int) : ByteArray × Int :=
 if host < 0 ∨ 16 ≤ host then (e0, 1) else if 64 < secret.size then (e0, 2) else (al (bB (.int .u8) (eE (lr secret id host)) 0 16), 0)
noncomputable abbrev d9 : bW := ⟨nW, nS, fun x => ((bJ x.1 x.2.1 x.2.2.1).1, (bJ x.1 x.2.1 x.2.2.1).2, ()), fun _ => True, true⟩
theorem oZ : aL prog gl eB d9 :=
 cE (S := d9) (wA qI) (fx := nC) vm (by kernel_rfl) (fun _ _ => trivial) (T := fun x => pp x.1 x.2.1 x.2.2.1) (fun x => sw x.1 x.2.1 x.2.2.1) fun O w0 x _ _ => by
  obtain ⟨secret, id, host, ⟨⟩⟩ := x
  have key : ∀ host : Int, (decide (host < 0 ∨ 16 ≤ host)) = bif decide (host < 0) then true else decide (16 ≤ host) := fun host => by
   by_cases h1 : host < 0
   ·rw [decide_eq_true h1, decide_eq_true (.inl h1)]; rfl
   ·rw [decide_eq_false h1]
    rw [decide_eq_decide.2 (show (host < 0 ∨ 16 ≤ host) ↔ 16 ≤ host by omega)]; rfl
  refine ⟨fun h => ⟨_, rfl, ?_⟩, fun h => ⟨fun h2 => ⟨_, rfl, ?_⟩, fun h2 => ⟨⟨by decide, by decide, by decide⟩, ?_, aR ⟨⟨by decide, by decide, by decide⟩, _, rfl, ?_⟩⟩⟩⟩
  ·have h := of_decide_eq_true ((key host).trans h)
   show (e0, (1 : Int), ()) = ((bJ secret id host).1, (bJ secret id host).2, ())
   unfold bJ
   rw [if_pos h]
  ·have h := of_decide_eq_false ((key host).trans h)
   have h2 : (64 : Int) < (secret.size : Int) := of_decide_eq_true h2
   show (e0, (2 : Int), ()) = ((bJ secret id host).1, (bJ secret id host).2, ())
   unfold bJ
   rw [if_neg h, if_pos (by omega)]
  ·have h2 : ¬ (64 : Int) < (secret.size : Int) := of_decide_eq_false h2
   refine sa (l := lr secret id host) (n := 64) (fun x hx => ?_) (show 4 * 64 ≤ 900000 by decide) (show 4 ≤ 1000000 by decide)
   rcases List.mem_cons.1 hx with rfl | hx
   ·decide
   ·rcases List.mem_cons.1 hx with rfl | hx
    ·omega
    ·rcases List.mem_cons.1 hx with rfl | hx
     ·rw [dR]
      exact Nat.le_trans (rE id 32) (by decide)
     ·rcases List.mem_cons.1 hx with rfl | hx
      ·rw [dR]; exact show 1 ≤ 64 by decide
      ·cases hx
  ·have h := of_decide_eq_false ((key host).trans h)
   have h2 : ¬ (64 : Int) < (secret.size : Int) := of_decide_eq_false h2
   show (_, (0 : Int), ()) = ((bJ secret id host).1, (bJ secret id host).2, ())
   unfold bJ
   rw [if_neg h, if_neg (by omega)]
   rfl
end Go.Proofs.YtnakjijahkaoaaaDoor
namespace Go.Proofs.YtnakjijahkaoaaaDoor
open Go Go.RowKit
noncomputable abbrev oX : Fx := { fn := lL, ann := { } }
noncomputable abbrev qz : bp := { D := { T := bT, F := [(fm, fk)], R := [], ovl := [], G := gl }, inl := [] }
noncomputable abbrev xz : bS := .data oW
theorem xg (h_proof_made : aL prog gl fm fk) : XOk prog qz := xok (aO (bv bE bm) h_proof_made) (by kernel_rfl) bj bu bt
noncomputable def pV (a : den tId) : ab := ab.req (ByteArray.size { data := { toList := [108, 101, 102, 116] } } ≤ 1000) (ab.ret (K.val (Ty.pair tId Ty.unit) (bA { data := { toList := [108, 101, 102, 116] } } a, PUnit.unit)))
theorem uu (a : den tId) : ax qz xz 5000 [] oX (aX lL) (Env.of (a6 po (a, ()) 0) []) = pV a := by kernel_rfl
noncomputable abbrev ny : Fx := { fn := kJ, ann := { } }
noncomputable abbrev o9 : bp := { D := { T := bT, F := [(fm, fk)], R := [], ovl := [], G := gl }, inl := [] }
noncomputable abbrev wC : bS := .data nM
theorem wo (h_proof_made : aL prog gl fm fk) : XOk prog o9 := xok (aO (bv bE bm) h_proof_made) (by kernel_rfl) bj bu bt
noncomputable def pg (a : den tId) : ab := ab.req (ByteArray.size { data := { toList := [114, 105, 103, 104, 116] } } ≤ 1000) (ab.ret (K.val (Ty.pair tId Ty.unit) (bA { data := { toList := [114, 105, 103, 104, 116] } } a, PUnit.unit)))
theorem sv (a : den tId) : ax o9 wC 5000 [] ny (aX kJ) (Env.of (a6 nq (a, ()) 0) []) = pg a := by kernel_rfl
end Go.Proofs.YtnakjijahkaoaaaDoor
namespace Go.Proofs.YtnakjijahkaoaaaDoor
open Go Go.RowKit
def cK (a : List Int) : List Int := bA Ba a
def fq (a : List Int) : List Int := bA tA a
noncomputable abbrev dt : bW := ⟨po, oW, fun x => (cK x.1, ()), fun _ => True, true⟩
noncomputable abbrev d8 : bW := ⟨nq, nM, fun x => (fq x.1, ()), fun _ => True, true⟩
theorem lX : aL prog gl dr dt :=
 cE (S := dt) (xg pU) (fx := oX) ww (by kernel_rfl) (fun _ _ => trivial) (T := fun x => pV x.1) (fun x => uu x.1) fun O w0 x _ _ => ⟨by decide, _, rfl, rfl⟩
theorem pf : aL prog gl d7 d8 :=
 cE (S := d8) (wo pU) (fx := ny) uM (by kernel_rfl) (fun _ _ => trivial) (T := fun x => pg x.1) (fun x => sv x.1) fun O w0 x _ _ => ⟨by decide, _, rfl, rfl⟩
def dA (f t : List Int) : Bool := bif eqb aj (bD t) (bD (cK f)) then true else eqb aj (bD f) (bD (fq t))
noncomputable abbrev eC : bW := ⟨nO, nw, fun x => (dA x.1 x.2.1, ()), fun _ => True, true⟩
noncomputable abbrev j2 : bW := ⟨qq, qd, fun _ => (true, ()), fun _ => True, true⟩
end Go.Proofs.YtnakjijahkaoaaaDoor
namespace Go.Proofs.YtnakjijahkaoaaaDoor
open Go Go.RowKit
noncomputable abbrev nx : Fx := { fn := kG, ann := { } }
noncomputable abbrev pw : bp := { D := { T := bT, F := [(er, ep), (dr, dt), (d7, d8)], R := [], ovl := [], G := gl }, inl := [] }
noncomputable abbrev wc : bS := .data nw
theorem wq (h_proof_keyOf : aL prog gl er ep) (h_proof_Left : aL prog gl dr dt) (h_proof_Right : aL prog gl d7 d8) : XOk prog pw := xok (aO (aO (aO (bv bE bm) h_proof_Right) h_proof_Left) h_proof_keyOf) (by kernel_rfl) bj bu bt
noncomputable def py (a : den tId) (b : den tId) : ab := ab.req True (ab.req True (ab.req True (ab.req (ip [(eqb aj (bD b) (bD (cK a)), false)] True) (ab.req (ip [(eqb aj (bD b) (bD (cK a)), false)] True) (ab.req (ip [(eqb aj (bD b) (bD (cK a)), false)] True) (ab.ret (K.val (Ty.pair Ty.bool Ty.unit) (bif eqb aj (bD b) (bD (cK a)) then true else eqb aj (bD a) (bD (fq b)), PUnit.unit))))))))
theorem sN (a : den tId) (b : den tId) : ax pw wc 5000 [] nx (aX kG) (Env.of (a6 nO (a, b, ()) 0) []) = py a b := by kernel_rfl
noncomputable abbrev pG : Fx := { fn := na, ann := { frz := [(2, [1])] }, share := true }
noncomputable abbrev rL : bp := { D := { T := bT, F := [(gq, eR), (eB, d9), (dr, dt), (ef, eC)], R := [], ovl := [], G := gl }, inl := [] }
noncomputable abbrev zi : bS := .data qd
theorem zg (h_proof_Acyclic : aL prog gl gq eR) (h_proof_Nonce : aL prog gl eB d9) (h_proof_Left : aL prog gl dr dt) (h_proof_Links : aL prog gl ef eC) : XOk prog rL := xok (aO (aO (aO (aO (bv bE bm) h_proof_Links) h_proof_Left) h_proof_Nonce) h_proof_Acyclic) (by kernel_rfl) bj bu bt
noncomputable def sj : ab := ab.req (List.length (List.set (List.replicate 1 (zero af)) 0 (List.set (List.replicate 32 (zero (Ty.int IntKind.u8))) 0 7, List.set (List.replicate 32 (zero (Ty.int IntKind.u8))) 0 7, Prod.snd (Prod.snd (zero (Ty.pair tId (Ty.pair tId Ty.unit)))))) ≤ 1000000) (ab.all (den (Ty.pair Ty.bool (Ty.pair ag Ty.unit))) (fun (q0 : den (Ty.pair Ty.bool (Ty.pair ag Ty.unit))) ↦ q0 = (Prod.fst (dp (List.set (List.replicate 1 (zero af)) 0 (List.set (List.replicate 32 (zero (Ty.int IntKind.u8))) 0 7, List.set (List.replicate 32 (zero (Ty.int IntKind.u8))) 0 7, Prod.snd (Prod.snd (zero (Ty.pair tId (Ty.pair tId Ty.unit))))))), Prod.snd (dp (List.set (List.replicate 1 (zero af)) 0 (List.set (List.replicate 32 (zero (Ty.int IntKind.u8))) 0 7, List.set (List.replicate 32 (zero (Ty.int IntKind.u8))) 0 7, Prod.snd (Prod.snd (zero (Ty.pair tId (Ty.pair tId Ty.unit))))))), PUnit.unit)) fun (q0 : den (Ty.pair Ty.bool (Ty.pair ag Ty.unit))) ↦ ab.req True (ab.all (den (Ty.pair Ty.str (Ty.pair ag Ty.unit))) (fun (q1 : den (Ty.pair Ty.str (Ty.pair ag Ty.unit))) ↦ q1 = (Prod.fst (bJ { data := { toList := [115] } } (List.set (List.replicate 32 (zero (Ty.int IntKind.u8))) 0 7) 3), Prod.snd (bJ { data := { toList := [115] } } (List.set (List.replicate 32 (zero (Ty.int IntKind.u8))) 0 7) 3), PUnit.unit)) fun (q1 : den (Ty.pair Ty.str (Ty.pair ag Ty.unit))) ↦ ab.req True (ab.req True (ab.all (den tId) (fun (q2 : den tId) ↦ q2 = cK (List.set (List.replicate 32 (zero (Ty.int IntKind.u8))) 0 7)) fun (q2 : den tId) ↦ ab.all (den Ty.bool) (fun (q3 : den Ty.bool) ↦ q3 = dA (List.set (List.replicate 32 (zero (Ty.int IntKind.u8))) 0 7) (cK (List.set (List.replicate 32 (zero (Ty.int IntKind.u8))) 0 7))) fun (q3 : den Ty.bool) ↦ ab.ret (K.val (Ty.pair Ty.bool Ty.unit) (bif bif bif bif dA (List.set (List.replicate 32 (zero (Ty.int IntKind.u8))) 0 7) (cK (List.set (List.replicate 32 (zero (Ty.int IntKind.u8))) 0 7)) then decide (Prod.fst (Prod.snd q0) = 0) else false then !Prod.fst q0 else false then decide (Prod.fst (Prod.snd q1) = 0) else false then decide (aY (Prod.fst q1) = 16) else false, PUnit.unit))))))
theorem vf : ax rL zi 5000 [] pG (aX na) (Env.of (a6 qq () 0) []) = sj := by kernel_rfl
end Go.Proofs.YtnakjijahkaoaaaDoor
namespace Go.Proofs.YtnakjijahkaoaaaDoor
open Go Go.RowKit
theorem CO (a : List Int) : eqb aj a a = true := by rw [eqK, decide_eq_true rfl]
theorem Ap (a : List Int) : dA a (cK a) = true := by
 unfold dA
 rw [CO]
 rfl
theorem pv : aL prog gl ef eC :=
 cE (S := eC) (wq (bQ o6) lX pf) (fx := nx) uV (by kernel_rfl) (fun _ _ => trivial) (T := fun x => py x.1 x.2.1) (fun x => sN x.1 x.2.1) fun O w0 x _ _ =>
  ⟨trivial, trivial, trivial, fun _ => trivial, fun _ => trivial, fun _ => trivial, _, rfl, rfl⟩
theorem C8 (h : List Int) : ∀ n : Nat, (oK h n).length = 32 := fun n => by
 induction n with
 | zero => rfl
 | succ n ih => exact (List.length_set ..).trans ih
theorem vC (l : List ByteArray) : (eE l).length = 32 := by
 unfold eE t6
 exact C8 _ _
theorem B4 (secret : ByteArray) (id : List Int) (host : Int) : (al (bB (.int .u8) (eE (lr secret id host)) 0 16)).size = 16 := by
 rw [dR]
 unfold bB eS
 have e16 : Int.toNat 16 = 16 := rfl
 have e0 : Int.toNat 0 = 0 := rfl
 rw [e16, e0, List.length_drop, List.length_take, vC]
 rfl
theorem Cq : dp (List.set (List.replicate 1 (zero af)) 0 (List.set (List.replicate 32 (zero (Ty.int IntKind.u8))) 0 7, List.set (List.replicate 32 (zero (Ty.int IntKind.u8))) 0 7, Prod.snd (Prod.snd (zero (Ty.pair tId (Ty.pair tId Ty.unit)))))) = (false, 0) := by kernel_rfl
theorem yI : aL prog gl jN j2 :=
 cE (S := j2) (zg (bQ tD) oZ lX pv) (fx := pG) xS (by kernel_rfl) (fun _ _ => trivial) (T := fun _ => sj) (fun _ => vf) fun O w0 x _ _ => by
  have e2 : ∀ id : List Int, bJ ⟨⟨[115]⟩⟩ id 3 = (al (bB (.int .u8) (eE (lr ⟨⟨[115]⟩⟩ id 3)) 0 16), 0) := fun id => by
   unfold bJ
   rw [if_neg (by decide), if_neg (by decide)]
  refine ⟨show 1 ≤ 1000000 by decide, aR ⟨trivial, aR ⟨trivial, trivial, aR <| aR ⟨_, rfl, ?_⟩⟩⟩⟩
  refine Prod.ext ?_ rfl
  dsimp only
  rw [Ap, e2, Cq]
  dsimp only
  unfold aY
  rw [B4]
  rfl
end Go.Proofs.YtnakjijahkaoaaaDoor
namespace Go.Proofs.YtnakjijahkaoaaaDoor
open Go Go.RowKit
theorem Bt (a b : List Int) : eqb tId a b = decide (a = b) := by
 have := fT (t := tId) rfl a b
 cases h : eqb tId a b
 ·exact (decide_eq_false fun e => by rw [this.2 e] at h; cases h).symm
 ·exact (decide_eq_true (this.1 h)).symm
end Go.Proofs.YtnakjijahkaoaaaDoor
namespace Go.Proofs.YtnakjijahkaoaaaDoor
open Go Go.RowKit
noncomputable abbrev tY : Fx := { fn := pR, ann := { frz := [(1, [1])] } }
noncomputable abbrev vT : bp := { D := { T := bT, F := [], R := [], ovl := [] }, inl := [] }
noncomputable abbrev Bh : bS := .data uh
theorem Cr : XOk prog vT := xok ((bv bE bm)) (by kernel_rfl) bj bu bt
noncomputable def vW (a : den tId) : ab := ab.req (bo 0 16 (↑32 : Int)) (ab.ret (K.val (Ty.pair Ty.str Ty.unit) (al (bB (Ty.int IntKind.u8) a 0 16), PUnit.unit)))
theorem xU (a : den tId) : ax vT Bh 5000 [] tY (aX pR) (Env.of (a6 tp (a, ()) 0) []) = vW a := by kernel_rfl
end Go.Proofs.YtnakjijahkaoaaaDoor
namespace Go.Proofs.YtnakjijahkaoaaaDoor
open Go Go.RowKit
def bf (a : List Int) : ByteArray := g7 a
noncomputable abbrev iI : bW := ⟨tp, uh, fun x => (bf x.1, ()), fun _ => True, true⟩
theorem my : aL prog [] iD iI :=
 cE (S := iI) Cr (fx := tY) AY (by kernel_rfl) (fun _ _ => trivial) (T := fun x => vW x.1) (fun x => xU x.1) fun O w0 x _ _ => ⟨⟨by decide, by decide, by decide⟩, _, rfl, rfl⟩
def kz (l : List ByteArray) (s : ByteArray) : Bool := l.any fun x => decide (x = s)
theorem sC {l : List ByteArray} {s : ByteArray} : kz l s = true ↔ s ∈ l := by
 unfold kz
 rw [List.any_eq_true]
 exact ⟨fun ⟨x, hx, e⟩ => of_decide_eq_true e ▸ hx, fun h => ⟨s, h, decide_eq_true rfl⟩⟩
theorem w7 {l : List ByteArray} {s : ByteArray} : kz l s = false ↔ s ∉ l := by
 rw [← sC]
 cases kz l s <;> simp
def stF (now : List ByteArray) (s : List ByteArray × List ByteArray) (x : Lk) : List ByteArray × List ByteArray :=
 if (kz now (bf x.1) && !kz s.1 (bf x.2.1)) = true then (s.1 ++ [bf x.2.1], s.2 ++ [bf x.2.1]) else s
theorem zV (now : List ByteArray) : ∀ (l : List Lk) (s : List ByteArray × List ByteArray), ∃ d : List ByteArray, l.foldl (stF now) s = (s.1 ++ d, s.2 ++ d) ∧
    (∀ x ∈ l, bf x.1 ∈ now → bf x.2.1 ∈ s.1 ++ d) ∧ (∀ t ∈ d, ∃ x ∈ l, bf x.1 ∈ now ∧ bf x.2.1 = t) ∧ (s.1.Nodup → (s.1 ++ d).Nodup)
  | [], s => ⟨[], by simp, (fun x hx => by cases hx), (fun t ht => by cases ht), fun h => by simpa using h⟩
  | x :: l, s => by
    rw [List.foldl_cons]
    obtain ⟨d, e, h1, h2, h3⟩ := zV now l (stF now s x)
    by_cases hc : (kz now (bf x.1) && !kz s.1 (bf x.2.1)) = true
    · have es : stF now s x = (s.1 ++ [bf x.2.1], s.2 ++ [bf x.2.1]) := if_pos hc
      rw [es] at e h1 h3 ⊢
      rw [Bool.and_eq_true, sC, Bool.not_eq_true', w7] at hc
      refine ⟨bf x.2.1 :: d, by rw [e, List.append_assoc, List.append_assoc]; rfl, fun y hy hn => ?_, fun t ht => ?_, fun hd => ?_⟩
      · rcases List.mem_cons.1 hy with rfl | hy
        · exact List.mem_append.2 (.inr List.mem_cons_self)
        · have := h1 y hy hn
          rwa [List.append_assoc] at this
      · rcases List.mem_cons.1 ht with rfl | ht
        · exact ⟨x, List.mem_cons_self, hc.1, rfl⟩
        · obtain ⟨y, hy, h⟩ := h2 t ht
          exact ⟨y, List.mem_cons_of_mem _ hy, h⟩
      · have := h3 (by
          rw [List.nodup_append]
          exact ⟨hd, by simp, fun a ha b hb => by rw [List.mem_singleton.1 hb]; exact fun e => hc.2 (e ▸ ha)⟩)
        rwa [List.append_assoc] at this
    · have es : stF now s x = s := if_neg hc
      rw [es] at e h1 h3 ⊢
      refine ⟨d, e, fun y hy hn => ?_, fun t ht => ?_, h3⟩
      · rcases List.mem_cons.1 hy with rfl | hy
        · rw [Bool.and_eq_true, sC, Bool.not_eq_true', w7] at hc
          exact List.mem_append.2 (.inl (Classical.byContradiction fun hn' => hc ⟨hn, hn'⟩))
        · exact h1 y hy hn
      · obtain ⟨y, hy, h⟩ := h2 t ht
        exact ⟨y, List.mem_cons_of_mem _ hy, h⟩
structure CL (l : List Lk) (k : ByteArray) (n : Nat) (now out : List ByteArray) : Prop where
 nd : out.Nodup
 sub : ∀ t ∈ out, ∃ x ∈ l, bf x.2.1 = t
 fuel : now = [] ∨ l.length + 1 ≤ out.length + n
theorem CL.next {l : List Lk} {k : ByteArray} {n : Nat} {now out : List ByteArray} (h : CL l k (n + 1) now out) (hn : now ≠ []) : CL l k n (l.foldl (stF now) (out, [])).2 (l.foldl (stF now) (out, [])).1 := by
 obtain ⟨d, e, h1, h2, h3⟩ := zV now l (out, [])
 rw [e]
 have hsub : ∀ t ∈ out ++ d, ∃ x ∈ l, bf x.2.1 = t := fun t ht => by
  rcases List.mem_append.1 ht with ht | ht
  ·exact h.sub t ht
  ·obtain ⟨x, hx, _, e⟩ := h2 t ht
   exact ⟨x, hx, e⟩
 refine ⟨h3 h.nd, hsub, ?_⟩
 rcases h.fuel with h | h
 ·exact absurd h hn
 ·show [] ++ d = [] ∨ l.length + 1 ≤ (out ++ d).length + n
  by_cases hd : d = []
  ·exact .inl hd
  ·have : 0 < d.length := List.length_pos_iff.2 hd
   rw [List.length_append]
   exact .inr (by omega)
end Go.Proofs.YtnakjijahkaoaaaDoor
namespace Go.Proofs.YtnakjijahkaoaaaDoor
open Go Go.RowKit
end Go.Proofs.YtnakjijahkaoaaaDoor
namespace Go.Proofs.YtnakjijahkaoaaaDoor
open Go Go.RowKit
inductive Rch (l : List Lk) : ByteArray → ByteArray → Prop where
 | one (x : Lk) (h : x ∈ l) : Rch l (bf x.1) (bf x.2.1)
 | step (x : Lk) (h : x ∈ l) {b : ByteArray} (r : Rch l (bf x.2.1) b) : Rch l (bf x.1) b
theorem Rch.trans {l : List Lk} {a b c : ByteArray} (h : Rch l a b) (k : Rch l b c) : Rch l a c := by
 induction h with
 | one y hy => exact .step y hy k
 | step y hy _ ih => exact .step y hy (ih k)
theorem Cn {xs : List Int} (h : ∀ x ∈ xs, 0 ≤ x ∧ x ≤ 255) : aU (al xs) = xs := by
 show ((xs.map fun n => UInt8.ofNat n.toNat).toArray.toList.map fun b => (b.toNat : Int)) = xs
 rw [List.map_map]
 refine (List.map_congr_left fun x hx => ?_).trans (List.map_id xs)
 obtain ⟨h0, h1⟩ := h x hx
 show (((UInt8.ofNat x.toNat).toNat : Nat) : Int) = x
 rw [UInt8.toNat_ofNat']
 omega
theorem BO {x : den tId} (h : okT tId x) : ∀ y ∈ x, 0 ≤ y ∧ y ≤ 255 := fun y hy => by
 have : InK .u8 y := h.2 y hy
 have h1 : IntKind.min .u8 = 0 := by decide
 have h2 : IntKind.max .u8 = 255 := by decide
 unfold InK at this
 rw [h1, h2] at this
 exact this
end Go.Proofs.YtnakjijahkaoaaaDoor
namespace Go.Proofs.YtnakjijahkaoaaaDoor
open Go Go.RowKit
theorem cz (n : Int) : IntKind.wrap .u32 n = n % 4294967296 := rfl
theorem jw (n : Nat) : IntKind.wrap .u32 (n : Int) = ((n % 4294967296 : Nat) : Int) := by rw [cz]; rfl
theorem iE {n : Nat} (h : n < 4294967296) : (BitVec.ofInt (IntKind.bits .u32) (n : Int)).toNat = n := by
 have e : IntKind.bits .u32 = 32 := rfl
 rw [e, BitVec.toNat_ofInt]
 have : ((2 ^ 32 : Nat) : Int) = 4294967296 := rfl
 rw [this]
 omega
theorem md {a b : Nat} (ha : a < 4294967296) (hb : b < 4294967296) : dI (a : Int) (b : Int) = ((a ^^^ b : Nat) : Int) := by
 unfold dI
 rw [BitVec.toNat_xor, iE ha, iE hb, jw, Nat.mod_eq_of_lt (Nat.xor_lt_two_pow (n := 32) ha hb)]
theorem iq {a b : Nat} (ha : a < 4294967296) (hb : b < 4294967296) : f6 (a : Int) (b : Int) = ((a &&& b : Nat) : Int) := by
 unfold f6
 rw [BitVec.toNat_and, iE ha, iE hb, jw, Nat.mod_eq_of_lt (Nat.lt_of_le_of_lt Nat.and_le_left ha)]
theorem vj {a b : Nat} (ha : a < 4294967296) (hb : b < 4294967296) : lor (a : Int) (b : Int) = ((a ||| b : Nat) : Int) := by
 unfold lor
 rw [BitVec.toNat_or, iE ha, iE hb, jw, Nat.mod_eq_of_lt (Nat.or_lt_two_pow (n := 32) ha hb)]
def lD (x n : Nat) : Nat := x / 2 ^ n + x % 2 ^ n * 2 ^ (32 - n)
theorem zE {x n : Nat} (hx : x < 4294967296) (hn : n ≤ 32) : lD x n < 4294967296 := by
 unfold lD
 have e : 2 ^ n * 2 ^ (32 - n) = 4294967296 := by rw [← Nat.pow_add, Nat.add_sub_cancel' hn]
 have h1 : x / 2 ^ n < 2 ^ (32 - n) := by
  rw [Nat.div_lt_iff_lt_mul (Nat.two_pow_pos n), Nat.mul_comm, e]; exact hx
 have h2 : x % 2 ^ n + 1 ≤ 2 ^ n := Nat.mod_lt _ (Nat.two_pow_pos n)
 have h3 := Nat.mul_le_mul_right (2 ^ (32 - n)) h2
 rw [e, Nat.add_mul, Nat.one_mul] at h3
 omega
theorem EJ {x n : Nat} (hx : x < 4294967296) (hn : n ≤ 32) : (x * 2 ^ (32 - n) % 4294967296) ||| (x / 2 ^ n) = lD x n := by
 have e : 4294967296 = 2 ^ n * 2 ^ (32 - n) := by rw [← Nat.pow_add, Nat.add_sub_cancel' hn]
 have h1 : x / 2 ^ n < 2 ^ (32 - n) := by
  rw [Nat.div_lt_iff_lt_mul (Nat.two_pow_pos n), Nat.mul_comm, ← e]; exact hx
 rw [e, Nat.mul_mod_mul_right]
 have := Nat.shiftLeft_add_eq_or_of_lt h1 (x % 2 ^ n)
 rw [Nat.shiftLeft_eq] at this
 rw [← this]
 unfold lD
 omega
theorem Dg {x n : Nat} (hx : x < 4294967296) (hn : 0 < n ∧ n < 32) (k : Int) (hk : nA k = ((32 - n : Nat) : Int)) (hk2 : IntKind.wrap .u64 (32 - ((32 - n : Nat) : Int)) = (n : Int)) : bM (x : Int) k = ((lD x n : Nat) : Int) := by
 unfold bM
 rw [hk, hk2]
 have e32 : IntKind.bits .u32 = 32 := rfl
 have m1 : min (Int.toNat ((32 - n : Nat) : Int)) (IntKind.bits .u32) = 32 - n := by rw [e32, Int.toNat_natCast]; omega
 have m2 : min (Int.toNat (n : Int)) (IntKind.bits .u32) = n := by rw [e32, Int.toNat_natCast]; omega
 rw [m1, m2]
 have p1 : (x : Int) * 2 ^ (32 - n) = ((x * 2 ^ (32 - n) : Nat) : Int) := by rw [Int.natCast_mul, Int.natCast_pow]; rfl
 have p2 : Int.fdiv (x : Int) (2 ^ n) = ((x / 2 ^ n : Nat) : Int) := by
  rw [show (2 : Int) ^ n = ((2 ^ n : Nat) : Int) by rw [Int.natCast_pow]; rfl, Int.fdiv_eq_ediv_of_nonneg _ (Int.natCast_nonneg _)]
  rfl
 rw [p1, p2, jw (x * 2 ^ (32 - n)), BitVec.toNat_or, iE (Nat.mod_lt _ (by decide)), iE (Nat.lt_of_le_of_lt (Nat.div_le_self _ _) hx), EJ hx (by omega), jw, Nat.mod_eq_of_lt (zE hx (by omega))]
def wN (y : Nat) : Nat := y / 2 + y % 2 * 2147483648
theorem C1 {x k : Nat} (hk : k < 32) : wN (lD x k) = lD x (k + 1) := by
 unfold wN lD
 have e1 : 32 - k = (31 - k) + 1 := by omega
 have e2 : 32 - (k + 1) = 31 - k := by omega
 have e3 : (2147483648 : Nat) = 2 ^ k * 2 ^ (31 - k) := by
  rw [← Nat.pow_add, show k + (31 - k) = 31 by omega]
 have e4 : x / 2 ^ (k + 1) = x / 2 ^ k / 2 := by rw [Nat.pow_succ, Nat.div_div_eq_div_mul]
 have e5 : x % 2 ^ (k + 1) = x % 2 ^ k + 2 ^ k * (x / 2 ^ k % 2) := Nat.mod_pow_succ
 rw [e1, e2, e3, e4, e5, Nat.pow_succ]
 generalize x / 2 ^ k = q
 generalize x % 2 ^ k = r
 generalize 2 ^ (31 - k) = p
 generalize 2 ^ k = s
 have h1 : (q + r * (p * 2)) / 2 = q / 2 + r * p := by
  rw [show q + r * (p * 2) = q + r * p * 2 by rw [Nat.mul_assoc], Nat.add_mul_div_right _ _ (by decide)]
 have h2 : (q + r * (p * 2)) % 2 = q % 2 := by
  rw [show q + r * (p * 2) = q + r * p * 2 by rw [Nat.mul_assoc], Nat.add_mul_mod_self_right]
 rw [h1, h2, Nat.add_mul, Nat.add_assoc]
 congr 2
 rw [Nat.mul_comm (q % 2), Nat.mul_right_comm]
theorem zG {a b : Nat} (ha : a < 4294967296) (hb : b < 4294967296) (h : ∀ i, i < 32 → a.testBit i = b.testBit i) : a = b := by
 refine Nat.eq_of_testBit_eq fun i => ?_
 by_cases hi : i < 32
 ·exact h i hi
 ·have h2 : 4294967296 ≤ 2 ^ i := Nat.le_trans (show 4294967296 ≤ 2 ^ 32 by decide) (Nat.pow_le_pow_right (by decide) (by omega))
  rw [Nat.testBit_lt_two_pow (Nat.lt_of_lt_of_le ha h2), Nat.testBit_lt_two_pow (Nat.lt_of_lt_of_le hb h2)]
theorem Ep {e f g : Nat} (he : e < 4294967296) (hf : f < 4294967296) (hg : g < 4294967296) : g ^^^ (e &&& (f ^^^ g)) = (e &&& f) ^^^ ((4294967295 - e) &&& g) := by
 have h1 : 4294967295 - e < 4294967296 := by omega
 refine zG (Nat.xor_lt_two_pow (n := 32) hg (Nat.lt_of_le_of_lt Nat.and_le_left he)) (Nat.xor_lt_two_pow (n := 32) (Nat.lt_of_le_of_lt Nat.and_le_left he) (Nat.lt_of_le_of_lt Nat.and_le_left h1)) fun i hi => ?_
 have h2 : (4294967295 - e).testBit i = !e.testBit i := by
  have := Nat.testBit_two_pow_sub_succ (n := 32) (x := e) he i
  rw [show 2 ^ 32 - (e + 1) = 4294967295 - e by omega] at this
  rw [this, decide_eq_true hi, Bool.true_and]
 simp only [Nat.testBit_xor, Nat.testBit_and, h2]
 cases e.testBit i <;> cases f.testBit i <;> cases g.testBit i <;> rfl
theorem Dm {a b c : Nat} (ha : a < 4294967296) (hb : b < 4294967296) (hc : c < 4294967296) : (a &&& b) ||| (c &&& (a ||| b)) = (a &&& b) ^^^ (a &&& c) ^^^ (b &&& c) := by
 have l1 : a &&& b < 4294967296 := Nat.lt_of_le_of_lt Nat.and_le_left ha
 have l2 : a &&& c < 4294967296 := Nat.lt_of_le_of_lt Nat.and_le_left ha
 have l3 : b &&& c < 4294967296 := Nat.lt_of_le_of_lt Nat.and_le_left hb
 refine zG (Nat.or_lt_two_pow (n := 32) l1 (Nat.lt_of_le_of_lt Nat.and_le_left hc)) (Nat.xor_lt_two_pow (n := 32) (Nat.xor_lt_two_pow (n := 32) l1 l2) l3) fun i _ => ?_
 simp only [Nat.testBit_xor, Nat.testBit_and, Nat.testBit_or]
 cases a.testBit i <;> cases b.testBit i <;> cases c.testBit i <;> rfl
end Go.Proofs.YtnakjijahkaoaaaDoor
namespace Go.Proofs.YtnakjijahkaoaaaDoor
open Go Go.RowKit
end Go.Proofs.YtnakjijahkaoaaaDoor
namespace Go.Proofs.YtnakjijahkaoaaaDoor
open Go Go.RowKit
end Go.Proofs.YtnakjijahkaoaaaDoor
namespace Go.Proofs.YtnakjijahkaoaaaDoor
open Go Go.RowKit
end Go.Proofs.YtnakjijahkaoaaaDoor
namespace Go.Proofs.YtnakjijahkaoaaaDoor
open Go Go.RowKit
end Go.Proofs.YtnakjijahkaoaaaDoor
namespace Go.Proofs.YtnakjijahkaoaaaDoor
open Go Go.RowKit
end Go.Proofs.YtnakjijahkaoaaaDoor
namespace Go.Proofs.YtnakjijahkaoaaaDoor
open Go Go.RowKit
end Go.Proofs.YtnakjijahkaoaaaDoor
namespace Go.Proofs.YtnakjijahkaoaaaDoor
open Go Go.RowKit
end Go.Proofs.YtnakjijahkaoaaaDoor
namespace Go.Proofs.YtnakjijahkaoaaaDoor
open Go Go.RowKit
end Go.Proofs.YtnakjijahkaoaaaDoor
namespace Go.Proofs.YtnakjijahkaoaaaDoor
open Go Go.RowKit
end Go.Proofs.YtnakjijahkaoaaaDoor
namespace Go.Proofs.YtnakjijahkaoaaaDoor
open Go Go.RowKit
abbrev Mg := den eU
abbrev Fd := den fX
def fd (id target stack n nonce data : Bool) : Fd := (id, target, stack, n, nonce, data, ())
def zO : List (den ag × den fX) := [(1, fd false false true true false true), (2, fd true true false true false false), (3, fd true true false false true false), (4, fd true true false true true false), (5, fd true true false false false false),
 (6, fd true true false false true false), (7, fd true false false false false false), (8, fd true false false true false false), (9, fd true false false true false false), (10, fd true false false true false false)]
end Go.Proofs.YtnakjijahkaoaaaDoor
namespace Go.Proofs.YtnakjijahkaoaaaDoor
open Go Go.RowKit
end Go.Proofs.YtnakjijahkaoaaaDoor
namespace Go.Proofs.YtnakjijahkaoaaaDoor
open Go Go.RowKit
def EQ : den dD := zero (Ty.pair ag (Ty.pair tId (Ty.pair ag Ty.unit)))
def mf (m : Mg) : Fd := gW zO m.1
def w0 (m : Mg) : Bool := !jJ zO m.1
def w1 (m : Mg) : Bool := bif !(mf m).1 then !eqb tId m.2.1 (List.replicate 32 (zero (Ty.int IntKind.u8))) else false
def w2 (m : Mg) : Bool := !eqO (mf m).2.1 (!eqb dD m.2.2.1 EQ)
def mN (m : Mg) : Int := m.2.2.2.2.1
def w8 (m : Mg) : Bool := decide (1099511627776 < mN m)
end Go.Proofs.YtnakjijahkaoaaaDoor
namespace Go.Proofs.YtnakjijahkaoaaaDoor
open Go Go.RowKit
end Go.Proofs.YtnakjijahkaoaaaDoor
namespace Go.Proofs.YtnakjijahkaoaaaDoor
open Go Go.RowKit
end Go.Proofs.YtnakjijahkaoaaaDoor
namespace Go.Proofs.YtnakjijahkaoaaaDoor
open Go Go.RowKit
end Go.Proofs.YtnakjijahkaoaaaDoor
