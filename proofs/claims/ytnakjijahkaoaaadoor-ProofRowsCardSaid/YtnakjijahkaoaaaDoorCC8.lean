/- Part 8 of 8 of what this claim's proof stands on: a theory of programs on data, and the contracts of the functions that the law reaches. It holds no condition of its own. -/
import Derived.Test.YtnakjijahkaoaaaDoorCC7
namespace Go.Proofs.YtnakjijahkaoaaaDoor
open Go Go.RowKit
theorem xB (xs : List (List UInt8)) : Lib.join xs [] = xs.flatten := by
 cases xs with
 | nil => rfl
 | cons x r =>
  rw [Lib.join_cons]
  unfold Lib.joinTail
  have : (fun y : List UInt8 => [] ++ y) = id := by funext y; rfl
  rw [this, List.map_id, List.flatten_cons]
theorem w3 (xs : List ByteArray) : bp xs e0 = ⟨((xs.map (·.data.toList)).flatten).toArray⟩ := by
 unfold bp
 have : e0.data.toList = [] := rfl
 rw [this, xB]
theorem zk (n : Nat) : ∀ xs : List ByteArray, (∀ x ∈ xs, x.size ≤ n) → (bp xs e0).size ≤ xs.length * n := by
 intro xs h
 rw [w3, nZ]
 induction xs with
 | nil => simp
 | cons x r ih =>
  rw [List.map_cons, List.flatten_cons, List.length_append, List.length_cons, Nat.add_mul, Nat.one_mul]
  have h1 := ih fun y hy => h y (List.mem_cons_of_mem _ hy)
  have h2 := h x List.mem_cons_self
  have h3 : x.data.toList.length = x.size := rfl
  omega
end Go.Proofs.YtnakjijahkaoaaaDoor
namespace Go.Proofs.YtnakjijahkaoaaaDoor
open Go Go.RowKit
noncomputable abbrev mZ : Fx := { fn := kp, ann := { frz := [(1, [3]), (3, [5])] }, share := true }
noncomputable abbrev oz : bj := { D := { T := cx, F := [(er, eH)], R := [], ovl := [], G := gl }, inl := [] }
noncomputable abbrev uD : cw := .data nj
theorem uK (h_digest_Sum : aZ prog gl er eH) : XOk prog oz := xok (bf (bO bV bu) h_digest_Sum) (by kernel_rfl) bt bP bM
noncomputable def n8 (word : den Ty.str) (a : den tId) : ab := ab.req (bg 0 16 (↑32 : Int)) (ab.req (List.length (List.set (List.set (List.replicate 2 (zero Ty.str)) 0 word) 1 (aN (bw (Ty.int IntKind.u8) a 0 16))) ≤ 1000000 ∧ ByteArray.size (bp (List.set (List.set (List.replicate 2 (zero Ty.str)) 0 word) 1 (aN (bw (Ty.int IntKind.u8) a 0 16))) e0) ≤ 900000) (ab.all (den tId) (fun (q2 : den tId) ↦ q2 = iY (List.set (List.set (List.replicate 2 (zero Ty.str)) 0 word) 1 (aN (bw (Ty.int IntKind.u8) a 0 16)))) fun (q2 : den tId) ↦ ab.req (bg 0 16 (↑32 : Int)) (ab.req (bg 0 (↑32 : Int) (↑32 : Int)) (ab.ret (K.val (Ty.pair tId Ty.unit) (over (zero tId) (Int.toNat 0) (List.take (Int.toNat 16 - Int.toNat 0) (bw (Ty.int IntKind.u8) q2 0 (↑32 : Int))), PUnit.unit))))))
theorem rz (word : den Ty.str) (a : den tId) : aC oz uD 5000 [] mZ (aY kp) (Env.of (ba nq (word, a, ()) 0) []) = n8 word a := by kernel_rfl
noncomputable abbrev lZ : Fx := { fn := jj, ann := { frz := [(5, [4]), (6, [8])] }, share := true }
noncomputable abbrev m9 : bj := { D := { T := cx, F := [(er, eH)], R := [], ovl := [], G := gl }, inl := [] }
noncomputable abbrev s6 : cw := .data lM
theorem sY (h_digest_Sum : aZ prog gl er eH) : XOk prog m9 := xok (bf (bO bV bu) h_digest_Sum) (by kernel_rfl) bt bP bM
noncomputable def np (secret : den Ty.str) (id : den tId) (host : den ag) : ab := ab.ite (bif decide (host < 0) then true else decide (16 ≤ host)) (ab.ret (K.val (Ty.pair Ty.str (Ty.pair ag Ty.unit)) ({ data := { toList := [] } }, 1, PUnit.unit))) (ab.ite (decide (64 < cj secret)) (ab.ret (K.val (Ty.pair Ty.str (Ty.pair ag Ty.unit)) ({ data := { toList := [] } }, 2, PUnit.unit))) (ab.req (bg 0 (↑32 : Int) (↑32 : Int)) (ab.req (List.length (List.set (List.set (List.set (List.set (List.replicate 4 (zero Ty.str)) 0 { data := { toList := [110, 111, 110, 99, 101] } }) 1 secret) 2 (aN (bw (Ty.int IntKind.u8) id 0 (↑32 : Int)))) 3 (aN (List.set (List.replicate 1 (zero (Ty.int IntKind.u8))) 0 (IntKind.wrap IntKind.u8 host)))) ≤ 1000000 ∧ ByteArray.size (bp (List.set (List.set (List.set (List.set (List.replicate 4 (zero Ty.str)) 0 { data := { toList := [110, 111, 110, 99, 101] } }) 1 secret) 2 (aN (bw (Ty.int IntKind.u8) id 0 (↑32 : Int)))) 3 (aN (List.set (List.replicate 1 (zero (Ty.int IntKind.u8))) 0 (IntKind.wrap IntKind.u8 host)))) e0) ≤ 900000) (ab.all (den tId) (fun (q3 : den tId) ↦ q3 = iY (List.set (List.set (List.set (List.set (List.replicate 4 (zero Ty.str)) 0 { data := { toList := [110, 111, 110, 99, 101] } }) 1 secret) 2 (aN (bw (Ty.int IntKind.u8) id 0 (↑32 : Int)))) 3 (aN (List.set (List.replicate 1 (zero (Ty.int IntKind.u8))) 0 (IntKind.wrap IntKind.u8 host))))) fun (q3 : den tId) ↦ ab.req (bg 0 16 (↑32 : Int)) (ab.ret (K.val (Ty.pair Ty.str (Ty.pair ag Ty.unit)) (aN (bw (Ty.int IntKind.u8) (iY (List.set (List.set (List.set (List.set (List.replicate 4 (zero Ty.str)) 0 { data := { toList := [110, 111, 110, 99, 101] } }) 1 secret) 2 (aN (bw (Ty.int IntKind.u8) id 0 (↑32 : Int)))) 3 (aN (List.set (List.replicate 1 (zero (Ty.int IntKind.u8))) 0 (IntKind.wrap IntKind.u8 host))))) 0 16), 0, PUnit.unit)))))))
theorem qa (secret : den Ty.str) (id : den tId) (host : den ag) : aC m9 s6 5000 [] lZ (aY jj) (Env.of (ba l9 (secret, id, host, ()) 0) []) = np secret id host := by kernel_rfl
end Go.Proofs.YtnakjijahkaoaaaDoor
namespace Go.Proofs.YtnakjijahkaoaaaDoor
open Go Go.RowKit
theorem ie (xs : List Int) : (aN xs).size = xs.length := by
 show (xs.map _).toArray.size = _
 rw [List.size_toArray, List.length_map]
theorem vE (xs : List Int) (h : Nat) : (bw (.int .u8) xs 0 (h : Int)).length ≤ h := by
 unfold bw d1
 rw [List.length_drop, List.length_take]
 omega
theorem py {l : List ByteArray} {n : Nat} (h : ∀ x ∈ l, x.size ≤ n) (hn : l.length * n ≤ 900000) (hl : l.length ≤ 1000000) : l.length ≤ 1000000 ∧ ByteArray.size (bp l e0) ≤ 900000 :=
 ⟨hl, Nat.le_trans (zk n l h) hn⟩
def AL : ByteArray := ⟨⟨[108, 101, 102, 116]⟩⟩
def Ay : ByteArray := ⟨⟨[114, 105, 103, 104, 116]⟩⟩
def Ao : ByteArray := ⟨⟨[110, 111, 110, 99, 101]⟩⟩
def t6 (a : List Int) : ByteArray := aN (bw (.int .u8) a 0 16)
def nF (word : ByteArray) (a : List Int) : List Int := over (zero tId) 0 (List.take 16 (bw (.int .u8) (iY [word, t6 a]) 0 32))
noncomputable abbrev eC : cv := ⟨nq, nj, fun x => (nF x.1 x.2.1, ()), fun x => ByteArray.size x.1 ≤ 1000, false⟩
theorem nH : aZ prog gl eJ eC :=
 dq (S := eC) (uK oE) (fx := mZ) sV (by kernel_rfl) (fun h => by cases h) (T := fun x => n8 x.1 x.2.1) (fun x => rz x.1 x.2.1) fun O w0 x _ hp => by
  obtain ⟨word, a, ⟨⟩⟩ := x
  have hp : word.size ≤ 1000 := hp
  have hk : (t6 a).size ≤ 16 := by unfold t6; rw [ie]; exact vE a 16
  refine ⟨⟨by decide, by decide, by decide⟩, py (l := [word, t6 a]) (n := 1000) (fun x hx => ?_) (show 2 * 1000 ≤ 900000 by decide) (show 2 ≤ 1000000 by decide), a7 ⟨⟨by decide, by decide, by decide⟩, ⟨by decide, by decide, by decide⟩, _, rfl, rfl⟩⟩
  rcases List.mem_cons.1 hx with rfl | hx
  ·exact hp
  ·rcases List.mem_cons.1 hx with rfl | hx
   ·omega
   ·cases hx
def qr (secret : ByteArray) (id : List Int) (host : Int) : List ByteArray := [Ao, secret, aN (bw (.int .u8) id 0 32), aN [IntKind.wrap .u8 host]]
def c4 (secret : ByteArray) (id : List Int) (host : Int) : ByteArray × Int :=
 if host < 0 ∨ 16 ≤ host then (e0, 1) else if 64 < secret.size then (e0, 2) else (aN (bw (.int .u8) (iY (qr secret id host)) 0 16), 0)
noncomputable abbrev gv : cv := ⟨l9, lM, fun x => ((c4 x.1 x.2.1 x.2.2.1).1, (c4 x.1 x.2.1 x.2.2.1).2, ()), fun _ => True, true⟩
theorem s5 : aZ prog gl gB gv :=
 dq (S := gv) (sY oE) (fx := lZ) sf (by kernel_rfl) (fun _ _ => trivial) (T := fun x => np x.1 x.2.1 x.2.2.1) (fun x => qa x.1 x.2.1 x.2.2.1) fun O w0 x _ _ => by
  obtain ⟨secret, id, host, ⟨⟩⟩ := x
  have key : ∀ host : Int, (decide (host < 0 ∨ 16 ≤ host)) = bif decide (host < 0) then true else decide (16 ≤ host) := fun host => by
   by_cases h1 : host < 0
   ·rw [decide_eq_true h1, decide_eq_true (.inl h1)]; rfl
   ·rw [decide_eq_false h1]
    rw [decide_eq_decide.2 (show (host < 0 ∨ 16 ≤ host) ↔ 16 ≤ host by omega)]; rfl
  refine ⟨fun h => ⟨_, rfl, ?_⟩, fun h => ⟨fun h2 => ⟨_, rfl, ?_⟩, fun h2 => ⟨⟨by decide, by decide, by decide⟩, ?_, a7 ⟨⟨by decide, by decide, by decide⟩, _, rfl, ?_⟩⟩⟩⟩
  ·have h := of_decide_eq_true ((key host).trans h)
   show (e0, (1 : Int), ()) = ((c4 secret id host).1, (c4 secret id host).2, ())
   unfold c4
   rw [if_pos h]
  ·have h := of_decide_eq_false ((key host).trans h)
   have h2 : (64 : Int) < (secret.size : Int) := of_decide_eq_true h2
   show (e0, (2 : Int), ()) = ((c4 secret id host).1, (c4 secret id host).2, ())
   unfold c4
   rw [if_neg h, if_pos (by omega)]
  ·have h2 : ¬ (64 : Int) < (secret.size : Int) := of_decide_eq_false h2
   refine py (l := qr secret id host) (n := 64) (fun x hx => ?_) (show 4 * 64 ≤ 900000 by decide) (show 4 ≤ 1000000 by decide)
   rcases List.mem_cons.1 hx with rfl | hx
   ·decide
   ·rcases List.mem_cons.1 hx with rfl | hx
    ·omega
    ·rcases List.mem_cons.1 hx with rfl | hx
     ·rw [ie]
      exact Nat.le_trans (vE id 32) (by decide)
     ·rcases List.mem_cons.1 hx with rfl | hx
      ·rw [ie]; exact show 1 ≤ 64 by decide
      ·cases hx
  ·have h := of_decide_eq_false ((key host).trans h)
   have h2 : ¬ (64 : Int) < (secret.size : Int) := of_decide_eq_false h2
   show (_, (0 : Int), ()) = ((c4 secret id host).1, (c4 secret id host).2, ())
   unfold c4
   rw [if_neg h, if_neg (by omega)]
   rfl
end Go.Proofs.YtnakjijahkaoaaaDoor
namespace Go.Proofs.YtnakjijahkaoaaaDoor
open Go Go.RowKit
noncomputable abbrev mY : Fx := { fn := kz, ann := { } }
noncomputable abbrev ob : bj := { D := { T := cx, F := [(eJ, eC)], R := [], ovl := [], G := gl }, inl := [] }
noncomputable abbrev ug : cw := .data m5
theorem t8 (h_proof_made : aZ prog gl eJ eC) : XOk prog ob := xok (bf (bO bV bu) h_proof_made) (by kernel_rfl) bt bP bM
noncomputable def nR (a : den tId) : ab := ab.req (ByteArray.size { data := { toList := [108, 101, 102, 116] } } ≤ 1000) (ab.ret (K.val (Ty.pair tId Ty.unit) (nF { data := { toList := [108, 101, 102, 116] } } a, PUnit.unit)))
theorem rm (a : den tId) : aC ob ug 5000 [] mY (aY kz) (Env.of (ba m4 (a, ()) 0) []) = nR a := by kernel_rfl
noncomputable abbrev lH : Fx := { fn := je, ann := { } }
noncomputable abbrev nm : bj := { D := { T := cx, F := [(eJ, eC)], R := [], ovl := [], G := gl }, inl := [] }
noncomputable abbrev s4 : cw := .data lG
theorem sO (h_proof_made : aZ prog gl eJ eC) : XOk prog nm := xok (bf (bO bV bu) h_proof_made) (by kernel_rfl) bt bP bM
noncomputable def m0 (a : den tId) : ab := ab.req (ByteArray.size { data := { toList := [114, 105, 103, 104, 116] } } ≤ 1000) (ab.ret (K.val (Ty.pair tId Ty.unit) (nF { data := { toList := [114, 105, 103, 104, 116] } } a, PUnit.unit)))
theorem pD (a : den tId) : aC nm s4 5000 [] lH (aY je) (Env.of (ba lQ (a, ()) 0) []) = m0 a := by kernel_rfl
end Go.Proofs.YtnakjijahkaoaaaDoor
namespace Go.Proofs.YtnakjijahkaoaaaDoor
open Go Go.RowKit
def gi (a : List Int) : List Int := nF AL a
def rI (a : List Int) : List Int := nF Ay a
noncomputable abbrev eF : cv := ⟨m4, m5, fun x => (gi x.1, ()), fun _ => True, true⟩
noncomputable abbrev gr : cv := ⟨lQ, lG, fun x => (rI x.1, ()), fun _ => True, true⟩
theorem ol : aZ prog gl eM eF :=
 dq (S := eF) (t8 nH) (fx := mY) tc (by kernel_rfl) (fun _ _ => trivial) (T := fun x => nR x.1) (fun x => rm x.1) fun O w0 x _ _ => ⟨by decide, _, rfl, rfl⟩
theorem s7 : aZ prog gl gA gr :=
 dq (S := gr) (sO nH) (fx := lH) se (by kernel_rfl) (fun _ _ => trivial) (T := fun x => m0 x.1) (fun x => pD x.1) fun O w0 x _ _ => ⟨by decide, _, rfl, rfl⟩
def kC (f t : List Int) : Bool := bif eqb aj (aH t) (aH (gi f)) then true else eqb aj (aH f) (aH (rI t))
noncomputable abbrev gt : cv := ⟨l8, lC, fun x => (kC x.1 x.2.1, ()), fun _ => True, true⟩
noncomputable abbrev iW : cv := ⟨og, nX, fun _ => (true, ()), fun _ => True, true⟩
end Go.Proofs.YtnakjijahkaoaaaDoor
namespace Go.Proofs.YtnakjijahkaoaaaDoor
open Go Go.RowKit
noncomputable abbrev lD : Fx := { fn := jm, ann := { } }
noncomputable abbrev nl : bj := { D := { T := cx, F := [(dN, dO), (eM, eF), (gA, gr)], R := [], ovl := [], G := gl }, inl := [] }
noncomputable abbrev sR : cw := .data lC
theorem sT (h_proof_keyOf : aZ prog gl dN dO) (h_proof_Left : aZ prog gl eM eF) (h_proof_Right : aZ prog gl gA gr) : XOk prog nl := xok (bf (bf (bf (bO bV bu) h_proof_Right) h_proof_Left) h_proof_keyOf) (by kernel_rfl) bt bP bM
noncomputable def mV (a : den tId) (b : den tId) : ab := ab.req True (ab.req True (ab.req True (ab.req (mi [(eqb aj (aH b) (aH (gi a)), false)] True) (ab.req (mi [(eqb aj (aH b) (aH (gi a)), false)] True) (ab.req (mi [(eqb aj (aH b) (aH (gi a)), false)] True) (ab.ret (K.val (Ty.pair Ty.bool Ty.unit) (bif eqb aj (aH b) (aH (gi a)) then true else eqb aj (aH a) (aH (rI b)), PUnit.unit))))))))
theorem pV (a : den tId) (b : den tId) : aC nl sR 5000 [] lD (aY jm) (Env.of (ba l8 (a, b, ()) 0) []) = mV a b := by kernel_rfl
noncomputable abbrev nJ : Fx := { fn := lB, ann := { frz := [(2, [1])] }, share := true }
noncomputable abbrev pw : bj := { D := { T := cx, F := [(db, cL), (gB, gv), (eM, eF), (gC, gt)], R := [], ovl := [], G := gl }, inl := [] }
noncomputable abbrev vB : cw := .data nX
theorem uW (h_proof_Acyclic : aZ prog gl db cL) (h_proof_Nonce : aZ prog gl gB gv) (h_proof_Left : aZ prog gl eM eF) (h_proof_Links : aZ prog gl gC gt) : XOk prog pw := xok (bf (bf (bf (bf (bO bV bu) h_proof_Links) h_proof_Left) h_proof_Nonce) h_proof_Acyclic) (by kernel_rfl) bt bP bM
noncomputable def ph : ab := ab.req (List.length (List.set (List.replicate 1 (zero ae)) 0 (List.set (List.replicate 32 (zero (Ty.int IntKind.u8))) 0 7, List.set (List.replicate 32 (zero (Ty.int IntKind.u8))) 0 7, Prod.snd (Prod.snd (zero (Ty.pair tId (Ty.pair tId Ty.unit)))))) ≤ 1000000) (ab.all (den (Ty.pair Ty.bool (Ty.pair ag Ty.unit))) (fun (q0 : den (Ty.pair Ty.bool (Ty.pair ag Ty.unit))) ↦ q0 = (Prod.fst (bA (List.set (List.replicate 1 (zero ae)) 0 (List.set (List.replicate 32 (zero (Ty.int IntKind.u8))) 0 7, List.set (List.replicate 32 (zero (Ty.int IntKind.u8))) 0 7, Prod.snd (Prod.snd (zero (Ty.pair tId (Ty.pair tId Ty.unit))))))), Prod.snd (bA (List.set (List.replicate 1 (zero ae)) 0 (List.set (List.replicate 32 (zero (Ty.int IntKind.u8))) 0 7, List.set (List.replicate 32 (zero (Ty.int IntKind.u8))) 0 7, Prod.snd (Prod.snd (zero (Ty.pair tId (Ty.pair tId Ty.unit))))))), PUnit.unit)) fun (q0 : den (Ty.pair Ty.bool (Ty.pair ag Ty.unit))) ↦ ab.req True (ab.all (den (Ty.pair Ty.str (Ty.pair ag Ty.unit))) (fun (q1 : den (Ty.pair Ty.str (Ty.pair ag Ty.unit))) ↦ q1 = (Prod.fst (c4 { data := { toList := [115] } } (List.set (List.replicate 32 (zero (Ty.int IntKind.u8))) 0 7) 3), Prod.snd (c4 { data := { toList := [115] } } (List.set (List.replicate 32 (zero (Ty.int IntKind.u8))) 0 7) 3), PUnit.unit)) fun (q1 : den (Ty.pair Ty.str (Ty.pair ag Ty.unit))) ↦ ab.req True (ab.req True (ab.all (den tId) (fun (q2 : den tId) ↦ q2 = gi (List.set (List.replicate 32 (zero (Ty.int IntKind.u8))) 0 7)) fun (q2 : den tId) ↦ ab.all (den Ty.bool) (fun (q3 : den Ty.bool) ↦ q3 = kC (List.set (List.replicate 32 (zero (Ty.int IntKind.u8))) 0 7) (gi (List.set (List.replicate 32 (zero (Ty.int IntKind.u8))) 0 7))) fun (q3 : den Ty.bool) ↦ ab.ret (K.val (Ty.pair Ty.bool Ty.unit) (bif bif bif bif kC (List.set (List.replicate 32 (zero (Ty.int IntKind.u8))) 0 7) (gi (List.set (List.replicate 32 (zero (Ty.int IntKind.u8))) 0 7)) then decide (Prod.fst (Prod.snd q0) = 0) else false then !Prod.fst q0 else false then decide (Prod.fst (Prod.snd q1) = 0) else false then decide (cj (Prod.fst q1) = 16) else false, PUnit.unit))))))
theorem sd : aC pw vB 5000 [] nJ (aY lB) (Env.of (ba og () 0) []) = ph := by kernel_rfl
end Go.Proofs.YtnakjijahkaoaaaDoor
namespace Go.Proofs.YtnakjijahkaoaaaDoor
open Go Go.RowKit
theorem vN : ∀ (n : Nat) (l : List Lk), hY n l = true → ∃ rk : List Int → Nat, (∀ k, rk k ≤ l.length) ∧ ∀ x ∈ l, rk (aH x.2.1) < rk (aH x.1)
 | 0, l, h => by cases h
 | n + 1, l, h => by
  rw [hY] at h
  split at h
  ·have hl : l = [] := List.eq_nil_of_length_eq_zero (of_decide_eq_true h)
   subst hl
   exact ⟨fun _ => 0, fun _ => Nat.zero_le _, fun x hx => by cases hx⟩
  ·rename_i hne
   obtain ⟨rk, h1, h2⟩ := vN n _ h
   have hle := List.length_filter_le (da (cn l)) l
   refine ⟨fun k => if k ∈ l.map (fun x => aH x.1) then rk k + 1 else 0, fun k => ?_, fun x hx => ?_⟩
   ·show (if k ∈ l.map (fun x => aH x.1) then rk k + 1 else 0) ≤ _
    split
    ·have := h1 k; omega
    ·exact Nat.zero_le _
   ·show (if aH x.2.1 ∈ l.map (fun x => aH x.1) then rk (aH x.2.1) + 1 else 0) < (if aH x.1 ∈ l.map (fun x => aH x.1) then rk (aH x.1) + 1 else 0)
    rw [if_pos (List.mem_map.2 ⟨x, hx, rfl⟩)]
    split
    ·rename_i hin
     have hxr : x ∈ l.filter (da (cn l)) := List.mem_filter.2 ⟨hx, by unfold da; rw [tE]; exact decide_eq_true hin⟩
     have := h2 x hxr
     omega
    ·omega
def xS (l : List Lk) : Prop := ∃ rk : List Int → Nat, ∀ x ∈ l, rk (aH x.2.1) < rk (aH x.1)
theorem n1 {rk : List Int → Nat} : ∀ (n : Nat) (l : List Lk), l.length < n → (∀ x ∈ l, rk (aH x.2.1) < rk (aH x.1)) → hY n l = true
 | 0, l, h, _ => absurd h (Nat.not_lt_zero _)
 | n + 1, l, h, hr => by
  rw [hY]
  split
  ·rename_i he
   have hf : ∀ x ∈ l, da (cn l) x = true := List.length_filter_eq_length_iff.1 he
   have key : ∀ m : Nat, ∀ x ∈ l, rk (aH x.1) = m → False := fun m => by
    induction m using Nat.strongRecOn with
    | _ m ih =>
     intro x hx e
     have h1 := hf x hx
     unfold da at h1
     rw [tE] at h1
     obtain ⟨y, hy, e1⟩ := List.mem_map.1 (of_decide_eq_true h1)
     have := hr x hx
     exact ih (rk (aH y.1)) (by rw [e1]; omega) y hy rfl
   cases l with
   | nil => rfl
   | cons x r => exact (key _ x List.mem_cons_self rfl).elim
  ·rename_i he
   have hle := List.length_filter_le (da (cn l)) l
   exact n1 n _ (by omega) fun x hx => hr x (List.mem_filter.1 hx).1
theorem y5 (l : List Lk) : hY (l.length + 1) l = true ↔ xS l :=
 ⟨fun h => let ⟨rk, _, h2⟩ := vN _ l h; ⟨rk, h2⟩, fun ⟨_, h⟩ => n1 _ l (Nat.lt_succ_self _) h⟩
theorem vX {l : List Lk} (h : l.length ≤ 64) : bA l = (hY (l.length + 1) l, 0) := by
 unfold bA
 rw [if_neg (by omega)]
theorem yW (a : List Int) : eqb aj a a = true := by rw [eqK, decide_eq_true rfl]
theorem wL (a : List Int) : kC a (gi a) = true := by
 unfold kC
 rw [yW]
 rfl
theorem sZ : aZ prog gl gC gt :=
 dq (S := gt) (sT (bB m7) ol s7) (fx := lD) rJ (by kernel_rfl) (fun _ _ => trivial) (T := fun x => mV x.1 x.2.1) (fun x => pV x.1 x.2.1) fun O w0 x _ _ =>
  ⟨trivial, trivial, trivial, fun _ => trivial, fun _ => trivial, fun _ => trivial, _, rfl, rfl⟩
theorem zj (h : List Int) : ∀ n : Nat, (sj h n).length = 32 := fun n => by
 induction n with
 | zero => rfl
 | succ n ih => exact (List.length_set ..).trans ih
theorem An (l : List ByteArray) : (iY l).length = 32 := by
 unfold iY wr
 exact zj _ _
theorem xV (secret : ByteArray) (id : List Int) (host : Int) : (aN (bw (.int .u8) (iY (qr secret id host)) 0 16)).size = 16 := by
 rw [ie]
 unfold bw d1
 have e16 : Int.toNat 16 = 16 := rfl
 have e0 : Int.toNat 0 = 0 := rfl
 rw [e16, e0, List.length_drop, List.length_take, An]
 rfl
theorem xG : bA (List.set (List.replicate 1 (zero ae)) 0 (List.set (List.replicate 32 (zero (Ty.int IntKind.u8))) 0 7, List.set (List.replicate 32 (zero (Ty.int IntKind.u8))) 0 7, Prod.snd (Prod.snd (zero (Ty.pair tId (Ty.pair tId Ty.unit)))))) = (false, 0) := by kernel_rfl
theorem u2 : aZ prog gl iZ iW :=
 dq (S := iW) (uW (bB kL) s5 ol sZ) (fx := nJ) tW (by kernel_rfl) (fun _ _ => trivial) (T := fun _ => ph) (fun _ => sd) fun O w0 x _ _ => by
  have e2 : ∀ id : List Int, c4 ⟨⟨[115]⟩⟩ id 3 = (aN (bw (.int .u8) (iY (qr ⟨⟨[115]⟩⟩ id 3)) 0 16), 0) := fun id => by
   unfold c4
   rw [if_neg (by decide), if_neg (by decide)]
  refine ⟨show 1 ≤ 1000000 by decide, a7 ⟨trivial, a7 ⟨trivial, trivial, a7 <| a7 ⟨_, rfl, ?_⟩⟩⟩⟩
  refine Prod.ext ?_ rfl
  dsimp only
  rw [wL, e2, xG]
  dsimp only
  unfold cj
  rw [xV]
  rfl
theorem zD (l : List Lk) (n : Nat) : bw ae l 0 (gg (lnx ae l) (n : Int)) = l.take n := (zu l n).1
end Go.Proofs.YtnakjijahkaoaaaDoor
namespace Go.Proofs.YtnakjijahkaoaaaDoor
open Go Go.RowKit
end Go.Proofs.YtnakjijahkaoaaaDoor
namespace Go.Proofs.YtnakjijahkaoaaaDoor
open Go Go.RowKit
noncomputable abbrev qu : Fx := { fn := nG, ann := { frz := [(1, [1])] } }
noncomputable abbrev sD : bj := { D := { T := cx, F := [], R := [], ovl := [] }, inl := [] }
noncomputable abbrev xJ : cw := .data qt
theorem xl : XOk prog sD := xok ((bO bV bu)) (by kernel_rfl) bt bP bM
noncomputable def ss (a : den tId) : ab := ab.req (bg 0 16 (↑32 : Int)) (ab.ret (K.val (Ty.pair Ty.str Ty.unit) (aN (bw (Ty.int IntKind.u8) a 0 16), PUnit.unit)))
theorem uG (a : den tId) : aC sD xJ 5000 [] qu (aY nG) (Env.of (ba rx (a, ()) 0) []) = ss a := by kernel_rfl
noncomputable abbrev gc : Fx := { fn := fU, ann := { loops := [(2, { keep := [1, 7, 8, 9] })] } }
noncomputable abbrev kX : bj := { D := { T := cx, F := [], R := [], ovl := [] }, inl := [] }
noncomputable abbrev sK : cw := .data mC
theorem ny : XOk prog kX := xok ((bO bV bu)) (by kernel_rfl) bt bP bM
noncomputable def sy (l : den (Ty.slc Ty.str)) (s : den Ty.str) : ab := ab.loop [] gc (lp fU 2) [(1, K.val Ty.str s), (7, K.val (Ty.slc Ty.str) l), (8, K.val ag (lnx Ty.str l)), (9, K.val ag 0)] []
theorem uM (l : den (Ty.slc Ty.str)) (s : den Ty.str) : aC kX sK 5000 [] gc (aY fU) (Env.of (ba qV (l, s, ()) 0) []) = sy l s := by kernel_rfl
noncomputable def pq (v1 : den Ty.str) (v7 : den (Ty.slc Ty.str)) (v8 : den ag) (v9 : den ag) : Env := Env.of [(1, K.val Ty.str v1), (7, K.val (Ty.slc Ty.str) v7), (8, K.val ag v8), (9, K.val ag v9)] []
noncomputable def tp (v1 : den Ty.str) (v7 : den (Ty.slc Ty.str)) (v8 : den ag) (v9 : den ag) : ab := ab.ite (decide (v9 < v8)) (ab.req (inB v9 (lnx Ty.str v7)) (ab.ite (eqb Ty.str (el Ty.str v7 v9) v1) (ab.ret (K.val (Ty.pair Ty.bool Ty.unit) (true, PUnit.unit))) (ab.loop [] gc (lp fU 2) [(1, K.val Ty.str v1), (7, K.val (Ty.slc Ty.str) v7), (8, K.val ag v8), (9, K.val ag (IntKind.wrap IntKind.i64 (v9 + 1)))] []))) (ab.ret (K.val (Ty.pair Ty.bool Ty.unit) (false, PUnit.unit)))
theorem kF (v1 : den Ty.str) (v7 : den (Ty.slc Ty.str)) (v8 : den ag) (v9 : den ag) : aC kX sK 5000 [] gc (lp fU 2) (pq v1 v7 v8 v9) = tp v1 v7 v8 v9 := by kernel_rfl
end Go.Proofs.YtnakjijahkaoaaaDoor
namespace Go.Proofs.YtnakjijahkaoaaaDoor
open Go Go.RowKit
def ar (a : List Int) : ByteArray := t6 a
noncomputable abbrev gT : cv := ⟨rx, qt, fun x => (ar x.1, ()), fun _ => True, true⟩
theorem sC : aZ prog [] gQ gT :=
 dq (S := gT) xl (fx := qu) wv (by kernel_rfl) (fun _ _ => trivial) (T := fun x => ss x.1) (fun x => uG x.1) fun O w0 x _ _ => ⟨⟨by decide, by decide, by decide⟩, _, rfl, rfl⟩
def bK (l : List ByteArray) (s : ByteArray) : Bool := l.any fun x => decide (x = s)
theorem mu {l : List ByteArray} {s : ByteArray} : bK l s = true ↔ s ∈ l := by
 unfold bK
 rw [List.any_eq_true]
 exact ⟨fun ⟨x, hx, e⟩ => of_decide_eq_true e ▸ hx, fun h => ⟨s, h, decide_eq_true rfl⟩⟩
theorem kh {l : List ByteArray} {s : ByteArray} : bK l s = false ↔ s ∉ l := by
 rw [← mu]
 cases bK l s <;> simp
noncomputable abbrev gO : cv := ⟨qV, mC, fun x => (bK x.1 x.2.1, ()), fun x => x.1.length ≤ 1000000, false⟩
abbrev AX (O : Nat → Prop) (w0 : World) (y : Bool) := bo prog kX (Cx.base O w0) (eZ prog O w0 mC fun z => z = (y, ()))
def Aq (O : Nat → Prop) (w0 : World) (l : List ByteArray) (s : ByteArray) (hl : l.length ≤ 1000000) :=
 PLift.up <| c9 (σ := Unit) l.length (fun i _ => s ∉ l.take i)
  (fun i _ => AX O w0 (bK l s) [] gc (lp fU 2) (pq s l (lnx .str l) (i : Nat)))
  (fun i _ hi hs ih => aQ ny (kF s l _ _) (by
   have e : el .str l (i : Nat) = l[i] := oQ hi
   refine ⟨fun _ => ⟨fV hi, fun hc => ⟨_, rfl, ?_⟩, fun hc => ?_⟩, fun hc => ?_⟩
   ·rw [e] at hc
    have hc : l[i] = s := of_decide_eq_true hc
    show (true, ()) = (bK l s, ())
    rw [mu.2 (hc ▸ List.getElem_mem hi)]
   ·rw [e] at hc
    have hc : ¬ l[i] = s := of_decide_eq_false hc
    rw [dD hi (by omega)]
    refine ih () fun hm => ?_
    rw [List.take_succ_eq_append_getElem hi, List.mem_append, List.mem_singleton] at hm
    exact hm.elim hs fun e => hc e.symm
   ·rw [eQ] at hc
    exact absurd hi (of_decide_eq_false hc)))
  (fun _ hs => aQ ny (kF s l _ _) (by
   rw [List.take_length] at hs
   refine ⟨fun hc => ?_, fun _ => ⟨_, rfl, ?_⟩⟩
   ·rw [eQ] at hc
    exact absurd (of_decide_eq_true hc) (Nat.lt_irrefl _)
   ·show (false, ()) = (bK l s, ())
    rw [kh.2 hs]))
theorem sH : aZ prog [] gR gO :=
 dq (S := gO) ny (fx := gc) w9 (by kernel_rfl) (fun h => by cases h) (T := fun x => sy x.1 x.2.1) (fun x => uM x.1 x.2.1) fun O w0 x _ hp =>
  (Aq O w0 x.1 x.2.1 hp).down 0 () (Nat.zero_le _) (by rw [List.take_zero]; exact List.not_mem_nil)
def stF (now : List ByteArray) (s : List ByteArray × List ByteArray) (x : Lk) : List ByteArray × List ByteArray :=
 if (bK now (ar x.1) && !bK s.1 (ar x.2.1)) = true then (s.1 ++ [ar x.2.1], s.2 ++ [ar x.2.1]) else s
def ju (l : List Lk) : Nat → List ByteArray → List ByteArray → List ByteArray
 | 0, _, out => out
 | n + 1, now, out => if now.length = 0 then out else ju l n (l.foldl (stF now) (out, [])).2 (l.foldl (stF now) (out, [])).1
def jN (l : List Lk) (k : ByteArray) : List ByteArray := ju l (l.length + 1) [k] []
noncomputable abbrev jB : cv := ⟨pB, li, fun x => (jN x.1 x.2.1, ()), fun x => x.1.length ≤ 64, false⟩
def fi (l : List Lk) : Bool := l.all fun x => !bK (jN l (ar x.1)) (ar x.1)
noncomputable abbrev gw : cv := ⟨lP, iN, fun x => (fi x.1, ()), fun x => x.1.length ≤ 64, false⟩
theorem oV (now : List ByteArray) : ∀ (l : List Lk) (s : List ByteArray × List ByteArray), ∃ d : List ByteArray, l.foldl (stF now) s = (s.1 ++ d, s.2 ++ d) ∧
    (∀ x ∈ l, ar x.1 ∈ now → ar x.2.1 ∈ s.1 ++ d) ∧ (∀ t ∈ d, ∃ x ∈ l, ar x.1 ∈ now ∧ ar x.2.1 = t) ∧ (s.1.Nodup → (s.1 ++ d).Nodup)
  | [], s => ⟨[], by simp, (fun x hx => by cases hx), (fun t ht => by cases ht), fun h => by simpa using h⟩
  | x :: l, s => by
    rw [List.foldl_cons]
    obtain ⟨d, e, h1, h2, h3⟩ := oV now l (stF now s x)
    by_cases hc : (bK now (ar x.1) && !bK s.1 (ar x.2.1)) = true
    · have es : stF now s x = (s.1 ++ [ar x.2.1], s.2 ++ [ar x.2.1]) := if_pos hc
      rw [es] at e h1 h3 ⊢
      rw [Bool.and_eq_true, mu, Bool.not_eq_true', kh] at hc
      refine ⟨ar x.2.1 :: d, by rw [e, List.append_assoc, List.append_assoc]; rfl, fun y hy hn => ?_, fun t ht => ?_, fun hd => ?_⟩
      · rcases List.mem_cons.1 hy with rfl | hy
        · exact List.mem_append.2 (.inr List.mem_cons_self)
        · have := h1 y hy hn
          rwa [List.append_assoc] at this
      · rcases List.mem_cons.1 ht with rfl | ht
        · exact ⟨x, List.mem_cons_self, hc.1, rfl⟩
        · obtain ⟨y, hy, h⟩ := h2 t ht
          exact ⟨y, List.mem_cons_of_mem _ hy, h⟩
      · have := h3 (by
          rw [List.nodup_append]
          exact ⟨hd, by simp, fun a ha b hb => by rw [List.mem_singleton.1 hb]; exact fun e => hc.2 (e ▸ ha)⟩)
        rwa [List.append_assoc] at this
    · have es : stF now s x = s := if_neg hc
      rw [es] at e h1 h3 ⊢
      refine ⟨d, e, fun y hy hn => ?_, fun t ht => ?_, h3⟩
      · rcases List.mem_cons.1 hy with rfl | hy
        · rw [Bool.and_eq_true, mu, Bool.not_eq_true', kh] at hc
          exact List.mem_append.2 (.inl (Classical.byContradiction fun hn' => hc ⟨hn, hn'⟩))
        · exact h1 y hy hn
      · obtain ⟨y, hy, h⟩ := h2 t ht
        exact ⟨y, List.mem_cons_of_mem _ hy, h⟩
structure pL (l : List Lk) (k : ByteArray) (n : Nat) (now out : List ByteArray) : Prop where
 nd : out.Nodup
 sub : ∀ t ∈ out, ∃ x ∈ l, ar x.2.1 = t
 fuel : now = [] ∨ l.length + 1 ≤ out.length + n
theorem fL {α β : Type} {f : β → α} : ∀ {out : List α} {l : List β}, out.Nodup → (∀ t ∈ out, ∃ x ∈ l, f x = t) → out.length ≤ l.length
 | [], _, _, _ => Nat.zero_le _
 | t :: r, l, hn, hs => by
  rw [List.nodup_cons] at hn
  obtain ⟨x, hx, e⟩ := hs t List.mem_cons_self
  obtain ⟨a, b, rfl⟩ := List.append_of_mem hx
  have := fL (l := a ++ b) hn.2 fun t' ht' => by
   obtain ⟨y, hy, e'⟩ := hs t' (List.mem_cons_of_mem _ ht')
   refine ⟨y, ?_, e'⟩
   rcases List.mem_append.1 hy with h | h
   ·exact List.mem_append.2 (.inl h)
   ·rcases List.mem_cons.1 h with rfl | h
    ·exact absurd (e ▸ e' ▸ ht') hn.1
    ·exact List.mem_append.2 (.inr h)
  simp only [List.length_append, List.length_cons] at this ⊢
  omega
theorem pL.next {l : List Lk} {k : ByteArray} {n : Nat} {now out : List ByteArray} (h : pL l k (n + 1) now out) (hn : now ≠ []) : pL l k n (l.foldl (stF now) (out, [])).2 (l.foldl (stF now) (out, [])).1 := by
 obtain ⟨d, e, h1, h2, h3⟩ := oV now l (out, [])
 rw [e]
 have hsub : ∀ t ∈ out ++ d, ∃ x ∈ l, ar x.2.1 = t := fun t ht => by
  rcases List.mem_append.1 ht with ht | ht
  ·exact h.sub t ht
  ·obtain ⟨x, hx, _, e⟩ := h2 t ht
   exact ⟨x, hx, e⟩
 refine ⟨h3 h.nd, hsub, ?_⟩
 rcases h.fuel with h | h
 ·exact absurd h hn
 ·show [] ++ d = [] ∨ l.length + 1 ≤ (out ++ d).length + n
  by_cases hd : d = []
  ·exact .inl hd
  ·have : 0 < d.length := List.length_pos_iff.2 hd
   rw [List.length_append]
   exact .inr (by omega)
end Go.Proofs.YtnakjijahkaoaaaDoor
namespace Go.Proofs.YtnakjijahkaoaaaDoor
open Go Go.RowKit
noncomputable abbrev bW : Fx := { fn := ce, ann := { loops := [(3, { keep := [0, 5, 6], own := [(5, .str), (6, (.ref .str))] }), (6, { keep := [0, 5, 6, 7, 17, 18, 19], own := [(5, .str), (7, .str)] })], frz := [(8, [9])] }, own := [10, 16], share := true }
noncomputable abbrev f7 : bj := { D := { T := cx, F := [(gQ, gT), (gR, gO)], R := [], ovl := [] }, inl := [] }
noncomputable abbrev md : cw := .data li
theorem vY (h_r03_Key : aZ prog [] gQ gT) (h_r03_has : aZ prog [] gR gO) : XOk prog f7 := xok (bf (bf (bO bV bu) h_r03_has) h_r03_Key) (by kernel_rfl) bt bP bM
noncomputable def qG (l : den (Ty.slc ae)) (k : den Ty.str) : ab := ab.loop [] bW (lp ce 3) [(0, K.val (Ty.slc ae) l), (5, K.sl 0 Ty.str), (6, K.val (Ty.slc Ty.str) (List.set (List.replicate 1 (zero Ty.str)) 0 k))] [(0, Bx.row Ty.str (List.replicate 0 (zero Ty.str)))]
theorem s9 (l : den (Ty.slc ae)) (k : den Ty.str) : aC f7 md 5000 [] bW (aY ce) (Env.of (ba pB (l, k, ()) 0) []) = qG l k := by kernel_rfl
noncomputable def jV (v0 : den (Ty.slc ae)) (v6 : den (Ty.slc Ty.str)) (b0 : List (den Ty.str)) : Env := Env.of [(0, K.val (Ty.slc ae) v0), (5, K.sl 0 Ty.str), (6, K.val (Ty.slc Ty.str) v6)] [(0, Bx.row Ty.str b0)]
noncomputable def sS (v0 : den (Ty.slc ae)) (v6 : den (Ty.slc Ty.str)) (b0 : List (den Ty.str)) : ab := ab.ite (decide (0 < lnx Ty.str v6)) (ab.loop [] bW (lp ce 6) [(0, K.val (Ty.slc ae) v0), (5, K.sl 0 Ty.str), (6, K.val (Ty.slc Ty.str) v6), (7, K.sl (0 + 1) Ty.str), (17, K.val (Ty.slc ae) v0), (18, K.val ag (lnx ae v0)), (19, K.val ag 0)] [(0, Bx.row Ty.str b0), (0 + 1, Bx.row Ty.str (List.replicate 0 (zero Ty.str)))]) (ab.ret (K.val (Ty.pair (Ty.slc Ty.str) Ty.unit) (b0, PUnit.unit)))
theorem ke (v0 : den (Ty.slc ae)) (v6 : den (Ty.slc Ty.str)) (b0 : List (den Ty.str)) : aC f7 md 5000 [] bW (lp ce 3) (jV v0 v6 b0) = sS v0 v6 b0 := by kernel_rfl
noncomputable def ou (v0 : den (Ty.slc ae)) (v6 : den (Ty.slc Ty.str)) (v17 : den (Ty.slc ae)) (v18 : den ag) (v19 : den ag) (b0 : List (den Ty.str)) (b1 : List (den Ty.str)) : Env := Env.of [(0, K.val (Ty.slc ae) v0), (5, K.sl 0 Ty.str), (6, K.val (Ty.slc Ty.str) v6), (7, K.sl (0 + 1) Ty.str), (17, K.val (Ty.slc ae) v17), (18, K.val ag v18), (19, K.val ag v19)] [(0, Bx.row Ty.str b0), (1, Bx.row Ty.str b1)]
noncomputable def s8 (v0 : den (Ty.slc ae)) (v6 : den (Ty.slc Ty.str)) (v17 : den (Ty.slc ae)) (v18 : den ag) (v19 : den ag) (b0 : List (den Ty.str)) (b1 : List (den Ty.str)) : ab := ab.ite (decide (v19 < v18)) (ab.req (inB v19 (lnx ae v17)) (ab.req True (ab.all (den Ty.str) (fun (q7 : den Ty.str) ↦ q7 = ar (Prod.fst (el ae v17 v19))) fun (q7 : den Ty.str) ↦ ab.req (List.length v6 ≤ 1000000) (ab.all (den Ty.bool) (fun (q8 : den Ty.bool) ↦ q8 = bK v6 q7) fun (q8 : den Ty.bool) ↦ ab.req (mi [(q8, true)] True) (ab.req (mi [(q8, true)] (List.length b0 ≤ 1000000)) (ab.ite (bif q8 then !bK b0 (ar (Prod.fst (Prod.snd (el ae v17 v19)))) else false) (ab.req True (ab.all (den Ty.str) (fun (q9 : den Ty.str) ↦ q9 = ar (Prod.fst (Prod.snd (el ae v17 v19)))) fun (q9 : den Ty.str) ↦ ab.req (List.length (b0 ++ List.set (List.replicate 1 (zero Ty.str)) 0 q9) ≤ bR) (ab.req True (ab.all (den Ty.str) (fun (q10 : den Ty.str) ↦ q10 = ar (Prod.fst (Prod.snd (el ae v17 v19)))) fun (q10 : den Ty.str) ↦ ab.req (List.length (b1 ++ List.set (List.replicate 1 (zero Ty.str)) 0 q10) ≤ bR) (ab.loop [] bW (lp ce 6) [(0, K.val (Ty.slc ae) v0), (5, K.sl 0 Ty.str), (6, K.val (Ty.slc Ty.str) v6), (7, K.sl (0 + 1) Ty.str), (17, K.val (Ty.slc ae) v17), (18, K.val ag v18), (19, K.val ag (IntKind.wrap IntKind.i64 (v19 + 1)))] [(0, Bx.row Ty.str (b0 ++ List.set (List.replicate 1 (zero Ty.str)) 0 q9)), (0 + 1, Bx.row Ty.str (b1 ++ List.set (List.replicate 1 (zero Ty.str)) 0 q10))]))))) (ab.loop [] bW (lp ce 6) [(0, K.val (Ty.slc ae) v0), (5, K.sl 0 Ty.str), (6, K.val (Ty.slc Ty.str) v6), (7, K.sl (0 + 1) Ty.str), (17, K.val (Ty.slc ae) v17), (18, K.val ag v18), (19, K.val ag (IntKind.wrap IntKind.i64 (v19 + 1)))] [(0, Bx.row Ty.str b0), (0 + 1, Bx.row Ty.str b1)]))))))) (ab.loop [] bW (lp ce 3) [(0, K.val (Ty.slc ae) v0), (5, K.sl 0 Ty.str), (6, K.val (Ty.slc Ty.str) b1)] [(0, Bx.row Ty.str b0)])
theorem j5 (v0 : den (Ty.slc ae)) (v6 : den (Ty.slc Ty.str)) (v17 : den (Ty.slc ae)) (v18 : den ag) (v19 : den ag) (b0 : List (den Ty.str)) (b1 : List (den Ty.str)) : aC f7 md 5000 [] bW (lp ce 6) (ou v0 v6 v17 v18 v19 b0 b1) = s8 v0 v6 v17 v18 v19 b0 b1 := by kernel_rfl
noncomputable abbrev dw : Fx := { fn := dh, ann := { loops := [(2, { keep := [0, 5, 6, 7] })], frz := [(4, [4])] }, share := true }
noncomputable abbrev fc : bj := { D := { T := cx, F := [(gQ, gT), (gR, gO), (jE, jB)], R := [], ovl := [] }, inl := [] }
noncomputable abbrev mW : cw := .data iN
theorem sM (h_r03_Key : aZ prog [] gQ gT) (h_r03_has : aZ prog [] gR gO) (h_r03_From : aZ prog [] jE jB) : XOk prog fc := xok (bf (bf (bf (bO bV bu) h_r03_From) h_r03_has) h_r03_Key) (by kernel_rfl) bt bP bM
noncomputable def m8 (l : den (Ty.slc ae)) : ab := ab.loop [] dw (lp dh 2) [(0, K.val (Ty.slc ae) l), (5, K.val (Ty.slc ae) l), (6, K.val ag (lnx ae l)), (7, K.val ag 0)] []
theorem pR (l : den (Ty.slc ae)) : aC fc mW 5000 [] dw (aY dh) (Env.of (ba lP (l, ()) 0) []) = m8 l := by kernel_rfl
noncomputable def kY (v0 : den (Ty.slc ae)) (v5 : den (Ty.slc ae)) (v6 : den ag) (v7 : den ag) : Env := Env.of [(0, K.val (Ty.slc ae) v0), (5, K.val (Ty.slc ae) v5), (6, K.val ag v6), (7, K.val ag v7)] []
noncomputable def pU (v0 : den (Ty.slc ae)) (v5 : den (Ty.slc ae)) (v6 : den ag) (v7 : den ag) : ab := ab.ite (decide (v7 < v6)) (ab.req (inB v7 (lnx ae v5)) (ab.req True (ab.req (List.length v0 ≤ 64) (ab.req True (ab.req (List.length (jN v0 (ar (Prod.fst (el ae v5 v7)))) ≤ 1000000) (ab.all (den Ty.str) (fun (q4 : den Ty.str) ↦ q4 = ar (Prod.fst (el ae v5 v7))) fun (q4 : den Ty.str) ↦ ab.all (den (Ty.slc Ty.str)) (fun (q5 : den (Ty.slc Ty.str)) ↦ q5 = jN v0 (ar (Prod.fst (el ae v5 v7)))) fun (q5 : den (Ty.slc Ty.str)) ↦ ab.all (den Ty.str) (fun (q6 : den Ty.str) ↦ q6 = ar (Prod.fst (el ae v5 v7))) fun (q6 : den Ty.str) ↦ ab.all (den Ty.bool) (fun (q7 : den Ty.bool) ↦ q7 = bK (jN v0 (ar (Prod.fst (el ae v5 v7)))) (ar (Prod.fst (el ae v5 v7)))) fun (q7 : den Ty.bool) ↦ ab.ite q7 (ab.ret (K.val (Ty.pair Ty.bool Ty.unit) (false, PUnit.unit))) (ab.loop [] dw (lp dh 2) [(0, K.val (Ty.slc ae) v0), (5, K.val (Ty.slc ae) v5), (6, K.val ag v6), (7, K.val ag (IntKind.wrap IntKind.i64 (v7 + 1)))] []))))))) (ab.ret (K.val (Ty.pair Ty.bool Ty.unit) (true, PUnit.unit)))
theorem iE (v0 : den (Ty.slc ae)) (v5 : den (Ty.slc ae)) (v6 : den ag) (v7 : den ag) : aC fc mW 5000 [] dw (lp dh 2) (kY v0 v5 v6 v7) = pU v0 v5 v6 v7 := by kernel_rfl
noncomputable abbrev jY : Fx := { fn := g7, ann := { }, share := true }
noncomputable abbrev lf : bj := { D := { T := cx, F := [(db, cL), (gD, gw), (iZ, iW)], R := [], ovl := [], G := gl }, inl := [] }
noncomputable abbrev qZ : cw := .data pN
theorem qO (h_proof_Acyclic : aZ prog gl db cL) (h_r03_Acyclic : aZ prog gl gD gw) (h_l03_alive : aZ prog gl iZ iW) : XOk prog lf := xok (bf (bf (bf (bO bV bu) h_l03_alive) h_r03_Acyclic) h_proof_Acyclic) (by kernel_rfl) bt bP bM
noncomputable def fB (l : den (Ty.slc ae)) : ab := ab.req (bg 0 (gg (lnx ae l) 66) (lnx ae l)) (ab.req (List.length (bw ae l 0 (gg (lnx ae l) 66)) ≤ 1000000) (ab.all (den (Ty.pair Ty.bool (Ty.pair ag Ty.unit))) (fun (q1 : den (Ty.pair Ty.bool (Ty.pair ag Ty.unit))) ↦ q1 = (Prod.fst (bA (bw ae l 0 (gg (lnx ae l) 66))), Prod.snd (bA (bw ae l 0 (gg (lnx ae l) 66))), PUnit.unit)) fun (q1 : den (Ty.pair Ty.bool (Ty.pair ag Ty.unit))) ↦ ab.ite (decide (64 < lnx ae (bw ae l 0 (gg (lnx ae l) 66)))) (ab.req True (ab.all (den Ty.bool) (fun (q2 : den Ty.bool) ↦ q2 = true) fun (q2 : den Ty.bool) ↦ ab.ret (K.val (Ty.pair Ty.bool Ty.unit) (bif bif q2 then decide (Prod.fst (Prod.snd q1) = 2) else false then !Prod.fst q1 else false, PUnit.unit)))) (ab.req True (ab.all (den Ty.bool) (fun (q2 : den Ty.bool) ↦ q2 = true) fun (q2 : den Ty.bool) ↦ ab.req (mi [(bif q2 then decide (Prod.fst (Prod.snd q1) = 0) else false, true)] (List.length (bw ae l 0 (gg (lnx ae l) 66)) ≤ 64)) (ab.ret (K.val (Ty.pair Ty.bool Ty.unit) (bif bif q2 then decide (Prod.fst (Prod.snd q1) = 0) else false then eqO (Prod.fst q1) (fi (bw ae l 0 (gg (lnx ae l) 66))) else false, PUnit.unit)))))))
theorem oh (l : den (Ty.slc ae)) : aC lf qZ 5000 [] jY (aY g7) (Env.of (ba cZ (l, ()) 0) []) = fB l := by kernel_rfl
end Go.Proofs.YtnakjijahkaoaaaDoor
namespace Go.Proofs.YtnakjijahkaoaaaDoor
open Go Go.RowKit
abbrev GF (O : Nat → Prop) (w0 : World) (y : List ByteArray) := bo prog f7 (Cx.base O w0) (eZ prog O w0 li fun z => z = (y, ()))
theorem l7 : XOk prog f7 := vY sC sH
def ze (O : Nat → Prop) (w0 : World) (l : List Lk) (now out y : List ByteArray) (hl : l.length ≤ 64) (hn : now.length ≤ 1000) (ho : out.length ≤ 64)
    (hnext : GF O w0 y [] bW (lp ce 3) (jV l (l.foldl (stF now) (out, [])).2 (l.foldl (stF now) (out, [])).1)) :=
  PLift.up <| c9 (σ := List ByteArray × List ByteArray) l.length (fun i s => s = (l.take i).foldl (stF now) (out, []) ∧ s.1.length ≤ out.length + i ∧ s.2.length ≤ i)
    (fun i s => GF O w0 y [] bW (lp ce 6) (ou l now l (lnx ae l) (i : Nat) s.1 s.2))
    (fun i s hi hs ih => aQ l7 (j5 l now l _ _ s.1 s.2) (by
      obtain ⟨h1, h2, h3⟩ := hs
      have e : el ae l (i : Nat) = l[i] := oQ hi
      have hmo : (1000 : Nat) ≤ bR := by decide
      have hst : (l.take (i + 1)).foldl (stF now) (out, []) = stF now s l[i] := by
        rw [List.take_succ_eq_append_getElem hi, List.foldl_append, ← h1]
        rfl
      refine ⟨fun _ => ?_, fun hc => ?_⟩
      · rw [e, dD hi (by omega)]
        refine ⟨fV hi, trivial, a7 ⟨by omega, a7 ⟨fun _ => trivial, fun _ => (show s.1.length ≤ 1000000 by omega), fun hc => ?_, fun hc => ?_⟩⟩⟩
        · have hc : (bK now (ar l[i].1) && !bK s.1 (ar l[i].2.1)) = true := by
            revert hc
            cases bK now (ar l[i].1) <;> intro hc <;> first | exact hc | cases hc
          have hs' : stF now s l[i] = (s.1 ++ [ar l[i].2.1], s.2 ++ [ar l[i].2.1]) := if_pos hc
          have l1 : (s.1 ++ [ar l[i].2.1]).length = s.1.length + 1 := List.length_append
          have l2 : (s.2 ++ [ar l[i].2.1]).length = s.2.length + 1 := List.length_append
          refine ⟨trivial, a7 ⟨show (s.1 ++ [ar l[i].2.1]).length ≤ bR by omega, trivial, a7 ⟨show (s.2 ++ [ar l[i].2.1]).length ≤ bR by omega, ih (s.1 ++ [ar l[i].2.1], s.2 ++ [ar l[i].2.1]) ⟨by rw [hst, hs'], by show (s.1 ++ _).length ≤ _; omega, by show (s.2 ++ _).length ≤ _; omega⟩⟩⟩⟩
        · have hc : ¬ (bK now (ar l[i].1) && !bK s.1 (ar l[i].2.1)) = true := by
            revert hc
            cases bK now (ar l[i].1) <;> cases bK s.1 (ar l[i].2.1) <;> intro hc <;> first | exact absurd hc (by decide) | decide
          have hs' : stF now s l[i] = s := if_neg hc
          exact ih s ⟨by rw [hst, hs'], by omega, by omega⟩
      · rw [eQ] at hc
        exact absurd hi (of_decide_eq_false hc)))
    (fun s hs => aQ l7 (j5 l now l _ _ s.1 s.2) (by
      obtain ⟨h1, h2, h3⟩ := hs
      rw [List.take_length] at h1
      subst h1
      refine ⟨fun hc => ?_, fun _ => hnext⟩
      rw [eQ] at hc
      exact absurd (of_decide_eq_true hc) (Nat.lt_irrefl _)))
theorem vO (O : Nat → Prop) (w0 : World) (l : List Lk) (k : ByteArray) (hl : l.length ≤ 64) : ∀ (n : Nat) (now out : List ByteArray), pL l k n now out → now.length ≤ 1000 → GF O w0 (ju l n now out) [] bW (lp ce 3) (jV l now out)
 | n, [], out, h, _ => by
  refine aQ l7 (ke l [] out) ⟨(fun hc => by cases hc), fun _ => ⟨_, rfl, ?_⟩⟩
  cases n <;> rfl
 | 0, x :: now, out, h, _ => by
  exfalso
  have := fL h.nd h.sub
  rcases h.fuel with h | h
  ·cases h
  ·omega
 | n + 1, x :: now, out, h, hn => by
  have ho := fL h.nd h.sub
  have hN := h.next (List.cons_ne_nil x now)
  obtain ⟨d, e, _⟩ := oV (x :: now) l (out, [])
  have ho' := fL hN.nd hN.sub
  have hn' : (l.foldl (stF (x :: now)) (out, [])).2.length ≤ 1000 := by
   rw [e] at ho' ⊢
   simp only [List.length_append, List.nil_append] at ho' ⊢
   omega
  have ih := vO O w0 l k hl n _ _ hN hn'
  have ef : ju l (n + 1) (x :: now) out = ju l n (l.foldl (stF (x :: now)) (out, [])).2 (l.foldl (stF (x :: now)) (out, [])).1 := if_neg (by simp)
  rw [ef]
  refine aQ l7 (ke l (x :: now) out) ⟨fun _ => ?_, fun hc => ?_⟩
  ·exact (ze O w0 l (x :: now) out _ hl hn (by omega) ih).down 0 (out, []) (Nat.zero_le _) ⟨rfl, by simp, Nat.zero_le _⟩
  ·have hc := of_decide_eq_false hc
   have : (0 : Int) < (((x :: now).length : Nat) : Int) := by rw [List.length_cons]; omega
   exact absurd this hc
theorem oy (l : List Lk) (k : ByteArray) : pL l k (l.length + 1) [k] [] := ⟨List.nodup_nil, (fun t ht => by cases ht), .inr (by simp)⟩
theorem wP : aZ prog [] jE jB :=
 dq (S := jB) l7 (fx := bW) vg (by kernel_rfl) (fun h => by cases h) (T := fun x => qG x.1 x.2.1) (fun x => s9 x.1 x.2.1) fun O w0 x _ hp =>
  vO O w0 x.1 x.2.1 hp _ [x.2.1] [] (oy x.1 x.2.1) (show 1 ≤ 1000 by decide)
theorem tU (l : List Lk) : ∀ (n : Nat) (now out : List ByteArray) (k : ByteArray), pL l k n now out → (ju l n now out).length ≤ l.length
 | 0, now, out, k, h => fL h.nd h.sub
 | n + 1, now, out, k, h => by
  rw [ju]
  split
  ·exact fL h.nd h.sub
  ·rename_i hn
   exact tU l n _ _ k (h.next fun e => hn (by rw [e]; rfl))
abbrev GA3 (O : Nat → Prop) (w0 : World) (y : Bool) := bo prog fc (Cx.base O w0) (eZ prog O w0 iN fun z => z = (y, ()))
theorem rT : XOk prog fc := sM sC sH wP
def Al (O : Nat → Prop) (w0 : World) (l : List Lk) (hl : l.length ≤ 64) :=
 PLift.up <| c9 (σ := Unit) l.length (fun i _ => (l.take i).all (fun x => !bK (jN l (ar x.1)) (ar x.1)) = true)
  (fun i _ => GA3 O w0 (fi l) [] dw (lp dh 2) (kY l l (lnx ae l) (i : Nat)))
  (fun i _ hi hs ih => aQ rT (iE l l _ _) (by
   have e : el ae l (i : Nat) = l[i] := oQ hi
   refine ⟨fun _ => ?_, fun hc => ?_⟩
   ·rw [e, dD hi (by omega)]
    have hfl := tU l _ _ _ _ (oy l (ar l[i].1))
    refine ⟨fV hi, trivial, hl, trivial, Nat.le_trans hfl (by omega), a7 <| a7 <| a7 <| a7 ⟨fun hc => ⟨_, rfl, ?_⟩, fun hc => ih () ?_⟩⟩
    ·show (false, ()) = (fi l, ())
     have : fi l = false := by
      unfold fi
      rw [List.all_eq_false]
      exact ⟨l[i], List.getElem_mem hi, by rw [hc]; decide⟩
     rw [this]
    ·rw [List.take_succ_eq_append_getElem hi, List.all_append, hs, Bool.true_and, List.all_cons, hc]
     rfl
   ·rw [eQ] at hc
    exact absurd hi (of_decide_eq_false hc)))
  (fun _ hs => aQ rT (iE l l _ _) (by
   rw [List.take_length] at hs
   refine ⟨fun hc => ?_, fun _ => ⟨_, rfl, ?_⟩⟩
   ·rw [eQ] at hc
    exact absurd (of_decide_eq_true hc) (Nat.lt_irrefl _)
   ·show (true, ()) = (fi l, ())
    unfold fi
    rw [hs]))
theorem tb : aZ prog [] gD gw :=
 dq (S := gw) rT (fx := dw) rV (by kernel_rfl) (fun h => by cases h) (T := fun x => m8 x.1) (fun x => pR x.1) fun O w0 x _ hp =>
  (Al O w0 x.1 hp).down 0 () (Nat.zero_le _) rfl
inductive Rch (l : List Lk) : ByteArray → ByteArray → Prop where
 | one (x : Lk) (h : x ∈ l) : Rch l (ar x.1) (ar x.2.1)
 | step (x : Lk) (h : x ∈ l) {b : ByteArray} (r : Rch l (ar x.2.1) b) : Rch l (ar x.1) b
theorem Rch.snoc {l : List Lk} {a b : ByteArray} (h : Rch l a b) (x : Lk) (hx : x ∈ l) (e : ar x.1 = b) : Rch l a (ar x.2.1) := by
 induction h with
 | one y hy => exact .step y hy (e ▸ .one x hx)
 | step y hy _ ih => exact .step y hy (ih e)
theorem Rch.trans {l : List Lk} {a b c : ByteArray} (h : Rch l a b) (k : Rch l b c) : Rch l a c := by
 induction h with
 | one y hy => exact .step y hy k
 | step y hy _ ih => exact .step y hy (ih k)
theorem xh (l : List Lk) (k : ByteArray) : ∀ (n : Nat) (now out : List ByteArray), pL l k n now out → (∀ t ∈ now, t = k ∨ t ∈ out) → (∀ t ∈ out, Rch l k t) →
    (∀ x ∈ l, (ar x.1 = k ∨ ar x.1 ∈ out) → ar x.1 ∈ now ∨ ar x.2.1 ∈ out) → ∀ t, t ∈ ju l n now out ↔ Rch l k t := by
  have fin : ∀ out : List ByteArray, (∀ t ∈ out, Rch l k t) → (∀ x ∈ l, (ar x.1 = k ∨ ar x.1 ∈ out) → ar x.1 ∈ ([] : List ByteArray) ∨ ar x.2.1 ∈ out) → ∀ t, t ∈ out ↔ Rch l k t := by
    intro out h1 h2 t
    refine ⟨h1 t, fun h => ?_⟩
    have key : ∀ a b, Rch l a b → (a = k ∨ a ∈ out) → b ∈ out := fun a b h => by
      induction h with
      | one x hx => exact fun h => (h2 x hx h).resolve_left List.not_mem_nil
      | step x hx _ ih => exact fun h => ih (.inr ((h2 x hx h).resolve_left List.not_mem_nil))
    exact key k t h (.inl rfl)
  intro n
  induction n with
  | zero =>
    intro now out hI h1 h2 h3
    rcases hI.fuel with rfl | h
    · exact fin out h2 h3
    · have := fL hI.nd hI.sub
      omega
  | succ n ih =>
    intro now out hI h1 h2 h3
    rw [ju]
    split
    · rename_i hn
      have : now = [] := List.eq_nil_of_length_eq_zero hn
      subst this
      exact fin out h2 h3
    · rename_i hn
      have hne : now ≠ [] := fun e => hn (by rw [e]; rfl)
      have hN := hI.next hne
      obtain ⟨d, e, g1, g2, g3⟩ := oV now l (out, [])
      rw [e] at hN ⊢
      refine ih _ _ hN (fun t ht => .inr (List.mem_append.2 (.inr (by simpa using ht)))) (fun t ht => ?_) (fun x hx hk => ?_)
      · rcases List.mem_append.1 ht with ht | ht
        · exact h2 t ht
        · obtain ⟨x, hx, hxn, e⟩ := g2 t ht
          rcases h1 _ hxn with h | h
          · rw [← e, ← h]
            exact .one x hx
          · rw [← e]
            exact (h2 _ h).snoc x hx rfl
      · have hk : (ar x.1 = k ∨ ar x.1 ∈ out) ∨ ar x.1 ∈ d := hk.elim (fun h => .inl (.inl h)) fun h => (List.mem_append.1 h).elim (fun h => .inl (.inr h)) .inr
        rcases hk with hk | hk
        · rcases h3 x hx hk with h | h
          · exact .inr (g1 x hx h)
          · exact .inr (List.mem_append.2 (.inl h))
        · exact .inl (by simpa using hk)
theorem yF (l : List Lk) : fi l = true ↔ ∀ x ∈ l, ¬ Rch l (ar x.1) (ar x.1) := by
 unfold fi
 rw [List.all_eq_true]
 refine ⟨fun h x hx hr => ?_, fun h x hx => ?_⟩ <;>
  have hs := xh l (ar x.1) (l.length + 1) [ar x.1] [] (oy l _) (fun t ht => .inl (List.mem_singleton.1 ht)) (fun t ht => by cases ht) (fun y hy hk => .inl (List.mem_singleton.2 (hk.resolve_right List.not_mem_nil)))
 ·have := h x hx
  rw [Bool.not_eq_true', kh] at this
  exact this ((hs _).2 hr)
 ·rw [Bool.not_eq_true', kh]
  exact fun hm => h x hx ((hs _).1 hm)
theorem yr {xs : List Int} (h : ∀ x ∈ xs, 0 ≤ x ∧ x ≤ 255) : a8 (aN xs) = xs := by
 show ((xs.map fun n => UInt8.ofNat n.toNat).toArray.toList.map fun b => (b.toNat : Int)) = xs
 rw [List.map_map]
 refine (List.map_congr_left fun x hx => ?_).trans (List.map_id xs)
 obtain ⟨h0, h1⟩ := h x hx
 show (((UInt8.ofNat x.toNat).toNat : Nat) : Int) = x
 rw [UInt8.toNat_ofNat']
 omega
theorem sr {α : Type} {p q : α → Bool} : ∀ {l : List α}, (∀ x ∈ l, p x = true → q x = true) → (∃ x ∈ l, q x = true ∧ p x = false) → l.countP p < l.countP q
 | [], _, ⟨x, hx, _⟩ => by cases hx
 | y :: l, h, ⟨x, hx, hq, hp⟩ => by
  have hle : l.countP p ≤ l.countP q := List.countP_mono_left fun z hz => h z (List.mem_cons_of_mem _ hz)
  rw [List.countP_cons, List.countP_cons]
  rcases List.mem_cons.1 hx with rfl | hx
  ·rw [hq, hp]
   simp
   omega
  ·have := sr (fun z hz => h z (List.mem_cons_of_mem _ hz)) ⟨x, hx, hq, hp⟩
   have h0 := h y List.mem_cons_self
   cases hpy : p y with
   | false => simp; omega
   | true => rw [h0 hpy]; simp; omega
open Classical in
theorem wl {l : List Lk} (hb : ∀ x ∈ l, (∀ y ∈ x.1, 0 ≤ y ∧ y ≤ 255) ∧ (∀ y ∈ x.2.1, 0 ≤ y ∧ y ≤ 255)) : xS l ↔ ∀ x ∈ l, ¬ Rch l (ar x.1) (ar x.1) := by
 have hk : ∀ a : List Int, (∀ y ∈ a, 0 ≤ y ∧ y ≤ 255) → a8 (ar a) = aH a := fun a ha => yr (xs := List.take 16 a) fun y hy => ha y (List.mem_of_mem_take hy)
 constructor
 ·rintro ⟨rk, hr⟩
  have key : ∀ a b, Rch l a b → rk (a8 b) < rk (a8 a) := fun a b h => by
   induction h with
   | one x hx => rw [hk _ (hb x hx).1, hk _ (hb x hx).2]; exact hr x hx
   | step x hx _ ih =>
    rw [hk _ (hb x hx).2] at ih
    rw [hk _ (hb x hx).1]
    exact Nat.lt_trans ih (hr x hx)
  exact fun x hx h => Nat.lt_irrefl _ (key _ _ h)
 ·intro h
  refine ⟨fun k => l.countP fun x => decide (aN k = ar x.1 ∨ Rch l (aN k) (ar x.1)), fun x hx => ?_⟩
  show (l.countP fun y => decide (ar x.2.1 = ar y.1 ∨ Rch l (ar x.2.1) (ar y.1))) < l.countP fun y => decide (ar x.1 = ar y.1 ∨ Rch l (ar x.1) (ar y.1))
  refine sr (fun y hy hp => decide_eq_true (.inr ?_)) ⟨x, hx, decide_eq_true (.inl rfl), decide_eq_false fun hp => ?_⟩
  ·rcases of_decide_eq_true hp with e | hr
   ·exact e ▸ .one x hx
   ·exact .step x hx hr
  ·rcases hp with e | hr
   ·exact h x hx (e ▸ Rch.one x hx : Rch l (ar x.1) (ar x.1))
   ·exact h x hx (.step x hx hr)
theorem yP {l : List Lk} (hb : ∀ x ∈ l, (∀ y ∈ x.1, 0 ≤ y ∧ y ≤ 255) ∧ (∀ y ∈ x.2.1, 0 ≤ y ∧ y ≤ 255)) : hY (l.length + 1) l = fi l := by
 rw [Bool.eq_iff_iff, y5, yF]
 exact wl hb
theorem yj {x : den tId} (h : okT tId x) : ∀ y ∈ x, 0 ≤ y ∧ y ≤ 255 := fun y hy => by
 have : InK .u8 y := h.2 y hy
 have h1 : IntKind.min .u8 = 0 := by decide
 have h2 : IntKind.max .u8 = 255 := by decide
 unfold InK at this
 rw [h1, h2] at this
 exact this
theorem qy : aZ prog gl k7 (yy cZ) :=
 dq (S := yy cZ) (qO (bB kL) (bB tb) u2) (fx := jY) qf (by kernel_rfl) (fun _ _ => trivial) (T := fun x => fB x.1) (fun x => oh x.1) fun O w0 x hk _ => by
  obtain ⟨l0, ⟨⟩⟩ := x
  have hb : ∀ x ∈ l0.take 66, (∀ y ∈ x.1, 0 ≤ y ∧ y ≤ 255) ∧ (∀ y ∈ x.2.1, 0 ≤ y ∧ y ≤ 255) := fun x hx => ⟨yj (hk.1.2 x (List.mem_of_mem_take hx)).1, yj (hk.1.2 x (List.mem_of_mem_take hx)).2.1⟩
  show aJ _ _ _ _ _ (fB l0)
  unfold fB
  refine ⟨(zu l0 66).2, ?_⟩
  have hc : bw ae l0 0 (gg (lnx ae l0) 66) = l0.take 66 := zD l0 66
  rw [hc]
  have hl : (l0.take 66).length ≤ 66 := by rw [List.length_take]; omega
  generalize l0.take 66 = l at hl hb
  refine ⟨by omega, a7 ⟨fun h => ?_, fun h => ?_⟩⟩
  ·have h : (64 : Int) < ((l.length : Nat) : Int) := of_decide_eq_true h
   have e : bA l = (false, 2) := by unfold bA; rw [if_pos (by omega)]
   rw [e]
   exact ⟨trivial, a7 ⟨_, rfl, rfl⟩⟩
  ·have h : ¬ (64 : Int) < ((l.length : Nat) : Int) := of_decide_eq_false h
   rw [vX (by omega), yP hb]
   refine ⟨trivial, a7 ⟨fun _ => (show l.length ≤ 64 by omega), _, rfl, ?_⟩⟩
   refine Prod.ext ?_ rfl
   cases fi l <;> rfl
end Go.Proofs.YtnakjijahkaoaaaDoor
