/- Part 8 of 8 of what this claim's proof stands on: a theory of programs on data, and the contracts of the functions that the law reaches. It holds no condition of its own. -/
import Derived.Test.YtnakjijahkaoaaaDoorCB7
namespace Go.Proofs.YtnakjijahkaoaaaDoor
open Go Go.RowKit
theorem wW (xs : List (List UInt8)) : Lib.join xs [] = xs.flatten := by
 cases xs with
 | nil => rfl
 | cons x r =>
  rw [Lib.join_cons]
  unfold Lib.joinTail
  have : (fun y : List UInt8 => [] ++ y) = id := by funext y; rfl
  rw [this, List.map_id, List.flatten_cons]
theorem uW (xs : List ByteArray) : bo xs e0 = ⟨((xs.map (·.data.toList)).flatten).toArray⟩ := by
 unfold bo
 have : e0.data.toList = [] := rfl
 rw [this, wW]
theorem xK (n : Nat) : ∀ xs : List ByteArray, (∀ x ∈ xs, x.size ≤ n) → (bo xs e0).size ≤ xs.length * n := by
 intro xs h
 rw [uW, nZ]
 induction xs with
 | nil => simp
 | cons x r ih =>
  rw [List.map_cons, List.flatten_cons, List.length_append, List.length_cons, Nat.add_mul, Nat.one_mul]
  have h1 := ih fun y hy => h y (List.mem_cons_of_mem _ hy)
  have h2 := h x List.mem_cons_self
  have h3 : x.data.toList.length = x.size := rfl
  omega
end Go.Proofs.YtnakjijahkaoaaaDoor
namespace Go.Proofs.YtnakjijahkaoaaaDoor
open Go Go.RowKit
noncomputable abbrev mS : Fx := { fn := jN, ann := { frz := [(1, [3]), (3, [5])] }, share := true }
noncomputable abbrev ni : bv := { D := { T := c4, F := [(eP, eR)], R := [], ovl := [], G := gl }, inl := [] }
noncomputable abbrev sC : c6 := .data mK
theorem sS (h_digest_Sum : ba prog gl eP eR) : XOk prog ni := xok (bm (cN cL bV) h_digest_Sum) (by kernel_rfl) bX cQ cP
noncomputable def nD (word : den Ty.str) (a : den tId) : ab := ab.req (bc 0 16 (↑32 : Int)) (ab.req (List.length (List.set (List.set (List.replicate 2 (zero Ty.str)) 0 word) 1 (aP (aS (Ty.int IntKind.u8) a 0 16))) ≤ 1000000 ∧ ByteArray.size (bo (List.set (List.set (List.replicate 2 (zero Ty.str)) 0 word) 1 (aP (aS (Ty.int IntKind.u8) a 0 16))) e0) ≤ 900000) (ab.all (den tId) (fun (q2 : den tId) ↦ q2 = iM (List.set (List.set (List.replicate 2 (zero Ty.str)) 0 word) 1 (aP (aS (Ty.int IntKind.u8) a 0 16)))) fun (q2 : den tId) ↦ ab.req (bc 0 16 (↑32 : Int)) (ab.req (bc 0 (↑32 : Int) (↑32 : Int)) (ab.ret (K.val (Ty.pair tId Ty.unit) (over (zero tId) (Int.toNat 0) (List.take (Int.toNat 16 - Int.toNat 0) (aS (Ty.int IntKind.u8) q2 0 (↑32 : Int))), PUnit.unit))))))
theorem qJ (word : den Ty.str) (a : den tId) : aF ni sC 5000 [] mS (a8 jN) (Env.of (bh mw (word, a, ()) 0) []) = nD word a := by kernel_rfl
noncomputable abbrev ll : Fx := { fn := iZ, ann := { frz := [(5, [4]), (6, [8])] }, share := true }
noncomputable abbrev mG : bv := { D := { T := c4, F := [(eP, eR)], R := [], ovl := [], G := gl }, inl := [] }
noncomputable abbrev rQ : c6 := .data lH
theorem rU (h_digest_Sum : ba prog gl eP eR) : XOk prog mG := xok (bm (cN cL bV) h_digest_Sum) (by kernel_rfl) bX cQ cP
noncomputable def mz (secret : den Ty.str) (id : den tId) (host : den ah) : ab := ab.ite (bif decide (host < 0) then true else decide (16 ≤ host)) (ab.ret (K.val (Ty.pair Ty.str (Ty.pair ah Ty.unit)) ({ data := { toList := [] } }, 1, PUnit.unit))) (ab.ite (decide (64 < bY secret)) (ab.ret (K.val (Ty.pair Ty.str (Ty.pair ah Ty.unit)) ({ data := { toList := [] } }, 2, PUnit.unit))) (ab.req (bc 0 (↑32 : Int) (↑32 : Int)) (ab.req (List.length (List.set (List.set (List.set (List.set (List.replicate 4 (zero Ty.str)) 0 { data := { toList := [110, 111, 110, 99, 101] } }) 1 secret) 2 (aP (aS (Ty.int IntKind.u8) id 0 (↑32 : Int)))) 3 (aP (List.set (List.replicate 1 (zero (Ty.int IntKind.u8))) 0 (IntKind.wrap IntKind.u8 host)))) ≤ 1000000 ∧ ByteArray.size (bo (List.set (List.set (List.set (List.set (List.replicate 4 (zero Ty.str)) 0 { data := { toList := [110, 111, 110, 99, 101] } }) 1 secret) 2 (aP (aS (Ty.int IntKind.u8) id 0 (↑32 : Int)))) 3 (aP (List.set (List.replicate 1 (zero (Ty.int IntKind.u8))) 0 (IntKind.wrap IntKind.u8 host)))) e0) ≤ 900000) (ab.all (den tId) (fun (q3 : den tId) ↦ q3 = iM (List.set (List.set (List.set (List.set (List.replicate 4 (zero Ty.str)) 0 { data := { toList := [110, 111, 110, 99, 101] } }) 1 secret) 2 (aP (aS (Ty.int IntKind.u8) id 0 (↑32 : Int)))) 3 (aP (List.set (List.replicate 1 (zero (Ty.int IntKind.u8))) 0 (IntKind.wrap IntKind.u8 host))))) fun (q3 : den tId) ↦ ab.req (bc 0 16 (↑32 : Int)) (ab.ret (K.val (Ty.pair Ty.str (Ty.pair ah Ty.unit)) (aP (aS (Ty.int IntKind.u8) (iM (List.set (List.set (List.set (List.set (List.replicate 4 (zero Ty.str)) 0 { data := { toList := [110, 111, 110, 99, 101] } }) 1 secret) 2 (aP (aS (Ty.int IntKind.u8) id 0 (↑32 : Int)))) 3 (aP (List.set (List.replicate 1 (zero (Ty.int IntKind.u8))) 0 (IntKind.wrap IntKind.u8 host))))) 0 16), 0, PUnit.unit)))))))
theorem pg (secret : den Ty.str) (id : den tId) (host : den ah) : aF mG rQ 5000 [] ll (a8 iZ) (Env.of (bh lw (secret, id, host, ()) 0) []) = mz secret id host := by kernel_rfl
end Go.Proofs.YtnakjijahkaoaaaDoor
namespace Go.Proofs.YtnakjijahkaoaaaDoor
open Go Go.RowKit
theorem gQ (xs : List Int) : (aP xs).size = xs.length := by
 show (xs.map _).toArray.size = _
 rw [List.size_toArray, List.length_map]
theorem uw (xs : List Int) (h : Nat) : (aS (.int .u8) xs 0 (h : Int)).length ≤ h := by
 unfold aS dw
 rw [List.length_drop, List.length_take]
 omega
theorem oP {l : List ByteArray} {n : Nat} (h : ∀ x ∈ l, x.size ≤ n) (hn : l.length * n ≤ 900000) (hl : l.length ≤ 1000000) : l.length ≤ 1000000 ∧ ByteArray.size (bo l e0) ≤ 900000 :=
 ⟨hl, Nat.le_trans (xK n l h) hn⟩
def zt : ByteArray := ⟨⟨[108, 101, 102, 116]⟩⟩
def zo : ByteArray := ⟨⟨[114, 105, 103, 104, 116]⟩⟩
def zm : ByteArray := ⟨⟨[110, 111, 110, 99, 101]⟩⟩
def pF (a : List Int) : ByteArray := aP (aS (.int .u8) a 0 16)
def iV (word : ByteArray) (a : List Int) : List Int := over (zero tId) 0 (List.take 16 (aS (.int .u8) (iM [word, pF a]) 0 32))
noncomputable abbrev eK : cS := ⟨mw, mK, fun x => (iV x.1 x.2.1, ()), fun x => ByteArray.size x.1 ≤ 1000, false⟩
theorem oc : ba prog gl eX eK :=
 fg (S := eK) (sS m4) (fx := mS) rZ (by kernel_rfl) (fun h => by cases h) (T := fun x => nD x.1 x.2.1) (fun x => qJ x.1 x.2.1) fun O w0 x _ hp => by
  obtain ⟨word, a, ⟨⟩⟩ := x
  have hp : word.size ≤ 1000 := hp
  have hk : (pF a).size ≤ 16 := by unfold pF; rw [gQ]; exact uw a 16
  refine ⟨⟨by decide, by decide, by decide⟩, oP (l := [word, pF a]) (n := 1000) (fun x hx => ?_) (show 2 * 1000 ≤ 900000 by decide) (show 2 ≤ 1000000 by decide), bj ⟨⟨by decide, by decide, by decide⟩, ⟨by decide, by decide, by decide⟩, _, rfl, rfl⟩⟩
  rcases List.mem_cons.1 hx with rfl | hx
  ·exact hp
  ·rcases List.mem_cons.1 hx with rfl | hx
   ·omega
   ·cases hx
def pO (secret : ByteArray) (id : List Int) (host : Int) : List ByteArray := [zm, secret, aP (aS (.int .u8) id 0 32), aP [IntKind.wrap .u8 host]]
def cY (secret : ByteArray) (id : List Int) (host : Int) : ByteArray × Int :=
 if host < 0 ∨ 16 ≤ host then (e0, 1) else if 64 < secret.size then (e0, 2) else (aP (aS (.int .u8) (iM (pO secret id host)) 0 16), 0)
noncomputable abbrev gv : cS := ⟨lw, lH, fun x => ((cY x.1 x.2.1 x.2.2.1).1, (cY x.1 x.2.1 x.2.2.1).2, ()), fun _ => True, true⟩
theorem sa : ba prog gl gr gv :=
 fg (S := gv) (rU m4) (fx := ll) rb (by kernel_rfl) (fun _ _ => trivial) (T := fun x => mz x.1 x.2.1 x.2.2.1) (fun x => pg x.1 x.2.1 x.2.2.1) fun O w0 x _ _ => by
  obtain ⟨secret, id, host, ⟨⟩⟩ := x
  have key : ∀ host : Int, (decide (host < 0 ∨ 16 ≤ host)) = bif decide (host < 0) then true else decide (16 ≤ host) := fun host => by
   by_cases h1 : host < 0
   ·rw [decide_eq_true h1, decide_eq_true (.inl h1)]; rfl
   ·rw [decide_eq_false h1]
    rw [decide_eq_decide.2 (show (host < 0 ∨ 16 ≤ host) ↔ 16 ≤ host by omega)]; rfl
  refine ⟨fun h => ⟨_, rfl, ?_⟩, fun h => ⟨fun h2 => ⟨_, rfl, ?_⟩, fun h2 => ⟨⟨by decide, by decide, by decide⟩, ?_, bj ⟨⟨by decide, by decide, by decide⟩, _, rfl, ?_⟩⟩⟩⟩
  ·have h := of_decide_eq_true ((key host).trans h)
   show (e0, (1 : Int), ()) = ((cY secret id host).1, (cY secret id host).2, ())
   unfold cY
   rw [if_pos h]
  ·have h := of_decide_eq_false ((key host).trans h)
   have h2 : (64 : Int) < (secret.size : Int) := of_decide_eq_true h2
   show (e0, (2 : Int), ()) = ((cY secret id host).1, (cY secret id host).2, ())
   unfold cY
   rw [if_neg h, if_pos (by omega)]
  ·have h2 : ¬ (64 : Int) < (secret.size : Int) := of_decide_eq_false h2
   refine oP (l := pO secret id host) (n := 64) (fun x hx => ?_) (show 4 * 64 ≤ 900000 by decide) (show 4 ≤ 1000000 by decide)
   rcases List.mem_cons.1 hx with rfl | hx
   ·decide
   ·rcases List.mem_cons.1 hx with rfl | hx
    ·omega
    ·rcases List.mem_cons.1 hx with rfl | hx
     ·rw [gQ]
      exact Nat.le_trans (uw id 32) (by decide)
     ·rcases List.mem_cons.1 hx with rfl | hx
      ·rw [gQ]; exact show 1 ≤ 64 by decide
      ·cases hx
  ·have h := of_decide_eq_false ((key host).trans h)
   have h2 : ¬ (64 : Int) < (secret.size : Int) := of_decide_eq_false h2
   show (_, (0 : Int), ()) = ((cY secret id host).1, (cY secret id host).2, ())
   unfold cY
   rw [if_neg h, if_neg (by omega)]
   rfl
end Go.Proofs.YtnakjijahkaoaaaDoor
namespace Go.Proofs.YtnakjijahkaoaaaDoor
open Go Go.RowKit
noncomputable abbrev mL : Fx := { fn := j4, ann := { } }
noncomputable abbrev nw : bv := { D := { T := c4, F := [(eX, eK)], R := [], ovl := [], G := gl }, inl := [] }
noncomputable abbrev so : c6 := .data mC
theorem sP (h_proof_made : ba prog gl eX eK) : XOk prog nw := xok (bm (cN cL bV) h_proof_made) (by kernel_rfl) bX cQ cP
noncomputable def nK (a : den tId) : ab := ab.req (ByteArray.size { data := { toList := [108, 101, 102, 116] } } ≤ 1000) (ab.ret (K.val (Ty.pair tId Ty.unit) (iV { data := { toList := [108, 101, 102, 116] } } a, PUnit.unit)))
theorem qA (a : den tId) : aF nw so 5000 [] mL (a8 j4) (Env.of (bh mN (a, ()) 0) []) = nK a := by kernel_rfl
noncomputable abbrev lj : Fx := { fn := i4, ann := { } }
noncomputable abbrev mT : bv := { D := { T := c4, F := [(eX, eK)], R := [], ovl := [], G := gl }, inl := [] }
noncomputable abbrev rT : c6 := .data lC
theorem r8 (h_proof_made : ba prog gl eX eK) : XOk prog mT := xok (bm (cN cL bV) h_proof_made) (by kernel_rfl) bX cQ cP
noncomputable def mQ (a : den tId) : ab := ab.req (ByteArray.size { data := { toList := [114, 105, 103, 104, 116] } } ≤ 1000) (ab.ret (K.val (Ty.pair tId Ty.unit) (iV { data := { toList := [114, 105, 103, 104, 116] } } a, PUnit.unit)))
theorem pB (a : den tId) : aF mT rT 5000 [] lj (a8 i4) (Env.of (bh lD (a, ()) 0) []) = mQ a := by kernel_rfl
end Go.Proofs.YtnakjijahkaoaaaDoor
namespace Go.Proofs.YtnakjijahkaoaaaDoor
open Go Go.RowKit
def bf (a : List Int) : List Int := iV zt a
def eY (a : List Int) : List Int := iV zo a
noncomputable abbrev da : cS := ⟨mN, mC, fun x => (bf x.1, ()), fun _ => True, true⟩
noncomputable abbrev dN : cS := ⟨lD, lC, fun x => (eY x.1, ()), fun _ => True, true⟩
theorem jF : ba prog gl db da :=
 fg (S := da) (sP oc) (fx := mL) rP (by kernel_rfl) (fun _ _ => trivial) (T := fun x => nK x.1) (fun x => qA x.1) fun O w0 x _ _ => ⟨by decide, _, rfl, rfl⟩
theorem mW : ba prog gl dM dN :=
 fg (S := dN) (r8 oc) (fx := lj) qQ (by kernel_rfl) (fun _ _ => trivial) (T := fun x => mQ x.1) (fun x => pB x.1) fun O w0 x _ _ => ⟨by decide, _, rfl, rfl⟩
def aI (f t : List Int) : Bool := bif eqb aj (aC t) (aC (bf f)) then true else eqb aj (aC f) (aC (eY t))
noncomputable abbrev dP : cS := ⟨lq, lx, fun x => (aI x.1 x.2.1, ()), fun _ => True, true⟩
noncomputable abbrev iH : cS := ⟨ns, nv, fun _ => (true, ()), fun _ => True, true⟩
end Go.Proofs.YtnakjijahkaoaaaDoor
namespace Go.Proofs.YtnakjijahkaoaaaDoor
open Go Go.RowKit
noncomputable abbrev lA : Fx := { fn := i8, ann := { } }
noncomputable abbrev mF : bv := { D := { T := c4, F := [(dR, dO), (db, da), (dM, dN)], R := [], ovl := [], G := gl }, inl := [] }
noncomputable abbrev r6 : c6 := .data lx
theorem rX (h_proof_keyOf : ba prog gl dR dO) (h_proof_Left : ba prog gl db da) (h_proof_Right : ba prog gl dM dN) : XOk prog mF := xok (bm (bm (bm (cN cL bV) h_proof_Right) h_proof_Left) h_proof_keyOf) (by kernel_rfl) bX cQ cP
noncomputable def mP (a : den tId) (b : den tId) : ab := ab.req True (ab.req True (ab.req True (ab.req (iu [(eqb aj (aC b) (aC (bf a)), false)] True) (ab.req (iu [(eqb aj (aC b) (aC (bf a)), false)] True) (ab.req (iu [(eqb aj (aC b) (aC (bf a)), false)] True) (ab.ret (K.val (Ty.pair Ty.bool Ty.unit) (bif eqb aj (aC b) (aC (bf a)) then true else eqb aj (aC a) (aC (eY b)), PUnit.unit))))))))
theorem pq (a : den tId) (b : den tId) : aF mF r6 5000 [] lA (a8 i8) (Env.of (bh lq (a, b, ()) 0) []) = mP a b := by kernel_rfl
noncomputable abbrev nf : Fx := { fn := lc, ann := { frz := [(2, [1])] }, share := true }
noncomputable abbrev oG : bv := { D := { T := c4, F := [(dg, cB), (gr, gv), (db, da), (dQ, dP)], R := [], ovl := [], G := gl }, inl := [] }
noncomputable abbrev tM : c6 := .data nv
theorem ud (h_proof_Acyclic : ba prog gl dg cB) (h_proof_Nonce : ba prog gl gr gv) (h_proof_Left : ba prog gl db da) (h_proof_Links : ba prog gl dQ dP) : XOk prog oG := xok (bm (bm (bm (bm (cN cL bV) h_proof_Links) h_proof_Left) h_proof_Nonce) h_proof_Acyclic) (by kernel_rfl) bX cQ cP
noncomputable def oO : ab := ab.req (List.length (List.set (List.replicate 1 (zero ae)) 0 (List.set (List.replicate 32 (zero (Ty.int IntKind.u8))) 0 7, List.set (List.replicate 32 (zero (Ty.int IntKind.u8))) 0 7, Prod.snd (Prod.snd (zero (Ty.pair tId (Ty.pair tId Ty.unit)))))) ≤ 1000000) (ab.all (den (Ty.pair Ty.bool (Ty.pair ah Ty.unit))) (fun (q0 : den (Ty.pair Ty.bool (Ty.pair ah Ty.unit))) ↦ q0 = (Prod.fst (bq (List.set (List.replicate 1 (zero ae)) 0 (List.set (List.replicate 32 (zero (Ty.int IntKind.u8))) 0 7, List.set (List.replicate 32 (zero (Ty.int IntKind.u8))) 0 7, Prod.snd (Prod.snd (zero (Ty.pair tId (Ty.pair tId Ty.unit))))))), Prod.snd (bq (List.set (List.replicate 1 (zero ae)) 0 (List.set (List.replicate 32 (zero (Ty.int IntKind.u8))) 0 7, List.set (List.replicate 32 (zero (Ty.int IntKind.u8))) 0 7, Prod.snd (Prod.snd (zero (Ty.pair tId (Ty.pair tId Ty.unit))))))), PUnit.unit)) fun (q0 : den (Ty.pair Ty.bool (Ty.pair ah Ty.unit))) ↦ ab.req True (ab.all (den (Ty.pair Ty.str (Ty.pair ah Ty.unit))) (fun (q1 : den (Ty.pair Ty.str (Ty.pair ah Ty.unit))) ↦ q1 = (Prod.fst (cY { data := { toList := [115] } } (List.set (List.replicate 32 (zero (Ty.int IntKind.u8))) 0 7) 3), Prod.snd (cY { data := { toList := [115] } } (List.set (List.replicate 32 (zero (Ty.int IntKind.u8))) 0 7) 3), PUnit.unit)) fun (q1 : den (Ty.pair Ty.str (Ty.pair ah Ty.unit))) ↦ ab.req True (ab.req True (ab.all (den tId) (fun (q2 : den tId) ↦ q2 = bf (List.set (List.replicate 32 (zero (Ty.int IntKind.u8))) 0 7)) fun (q2 : den tId) ↦ ab.all (den Ty.bool) (fun (q3 : den Ty.bool) ↦ q3 = aI (List.set (List.replicate 32 (zero (Ty.int IntKind.u8))) 0 7) (bf (List.set (List.replicate 32 (zero (Ty.int IntKind.u8))) 0 7))) fun (q3 : den Ty.bool) ↦ ab.ret (K.val (Ty.pair Ty.bool Ty.unit) (bif bif bif bif aI (List.set (List.replicate 32 (zero (Ty.int IntKind.u8))) 0 7) (bf (List.set (List.replicate 32 (zero (Ty.int IntKind.u8))) 0 7)) then decide (Prod.fst (Prod.snd q0) = 0) else false then !Prod.fst q0 else false then decide (Prod.fst (Prod.snd q1) = 0) else false then decide (bY (Prod.fst q1) = 16) else false, PUnit.unit))))))
theorem rl : aF oG tM 5000 [] nf (a8 lc) (Env.of (bh ns () 0) []) = oO := by kernel_rfl
noncomputable abbrev cV : Fx := { fn := cD, ann := { loops := [(3, { keep := [3, 4, 5, 6, 9, 10, 11] })], frz := [(2, [4, 5, 6]), (6, [9, 10])] }, own := [79], share := true }
noncomputable abbrev d4 : bv := { D := { T := c4, F := [(dg, cB), (db, da), (dM, dN), (dQ, dP), (iK, iH)], R := [], ovl := [], G := gl }, inl := [] }
noncomputable abbrev kN : c6 := .data j7
theorem qD (h_proof_Acyclic : ba prog gl dg cB) (h_proof_Left : ba prog gl db da) (h_proof_Right : ba prog gl dM dN) (h_proof_Links : ba prog gl dQ dP) (h_l03_alive : ba prog gl iK iH) : XOk prog d4 := xok (bm (bm (bm (bm (bm (cN cL bV) h_l03_alive) h_proof_Links) h_proof_Right) h_proof_Left) h_proof_Acyclic) (by kernel_rfl) bX cQ cP
noncomputable def kC (a : den tId) (b : den tId) (tail : den tId) (l : den (Ty.slc ae)) : ab := ab.loop [] cV (lp cD 3) [(3, K.val (Ty.slc ae) l), (4, K.ref tId a), (5, K.ref tId b), (6, K.ref tId tail), (9, K.ptr 0 tId []), (10, K.ptr (0 + 1) tId []), (11, K.val ah 16)] [(0, Bx.cell tId a), (0 + 1, Bx.cell tId b)]
theorem nx (a : den tId) (b : den tId) (tail : den tId) (l : den (Ty.slc ae)) : aF d4 kN 5000 [] cV (a8 cD) (Env.of (bh cZ (a, b, tail, l, ()) 0) []) = kC a b tail l := by kernel_rfl
noncomputable def jf (v3 : den (Ty.slc ae)) (v4 : den tId) (v5 : den tId) (v6 : den tId) (v11 : den ah) (b0 : den tId) (b1 : den tId) : Env := Env.of [(3, K.val (Ty.slc ae) v3), (4, K.ref tId v4), (5, K.ref tId v5), (6, K.ref tId v6), (9, K.ptr 0 tId []), (10, K.ptr (0 + 1) tId []), (11, K.val ah v11)] [(0, Bx.cell tId b0), (1, Bx.cell tId b1)]
noncomputable def nq (v3 : den (Ty.slc ae)) (v4 : den tId) (v5 : den tId) (v6 : den tId) (v11 : den ah) (b0 : den tId) (b1 : den tId) : ab := ab.ite (decide (v11 < 32)) (ab.req (inB v11 (↑32 : Int)) (ab.req (inB (IntKind.wrap IntKind.i64 (IntKind.wrap IntKind.i64 (31 - v11) + 16)) (↑32 : Int)) (ab.req (inB v11 (↑32 : Int)) (ab.req (inB v11 (↑32 : Int)) (ab.loop [] cV (lp cD 3) [(3, K.val (Ty.slc ae) v3), (4, K.ref tId v4), (5, K.ref tId v5), (6, K.ref tId v6), (9, K.ptr 0 tId []), (10, K.ptr (0 + 1) tId []), (11, K.val ah (IntKind.wrap IntKind.i64 (v11 + 1)))] [(0, Bx.cell tId (d9 (Ty.int IntKind.u8) b0 v11 (el (Ty.int IntKind.u8) v6 v11))), (0 + 1, Bx.cell tId (d9 (Ty.int IntKind.u8) b1 v11 (el (Ty.int IntKind.u8) v6 (IntKind.wrap IntKind.i64 (IntKind.wrap IntKind.i64 (31 - v11) + 16)))))]))))) (ab.req True (ab.req True (ab.req (iu [(!eqO (aI v4 v5) (aI b0 b1), false)] True) (ab.req (iu [(!eqO (aI v4 v5) (aI b0 b1), false)] True) (ab.req (iu [(bif !eqO (aI v4 v5) (aI b0 b1) then true else !eqb tId (bf v4) (bf b0), false)] True) (ab.req (iu [(bif !eqO (aI v4 v5) (aI b0 b1) then true else !eqb tId (bf v4) (bf b0), false)] True) (ab.req (iu [(bif bif !eqO (aI v4 v5) (aI b0 b1) then true else !eqb tId (bf v4) (bf b0) then true else !aI v4 (bf b0), false)] True) (ab.req (iu [(bif bif !eqO (aI v4 v5) (aI b0 b1) then true else !eqb tId (bf v4) (bf b0) then true else !aI v4 (bf b0), false)] True) (ab.req (iu [(bif bif bif !eqO (aI v4 v5) (aI b0 b1) then true else !eqb tId (bf v4) (bf b0) then true else !aI v4 (bf b0) then true else !aI (eY b1) v5, false)] True) (ab.all (den Ty.bool) (fun (q7 : den Ty.bool) ↦ q7 = aI v4 v5) fun (q7 : den Ty.bool) ↦ ab.all (den Ty.bool) (fun (q8 : den Ty.bool) ↦ q8 = aI b0 b1) fun (q8 : den Ty.bool) ↦ ab.ite (bif bif bif bif !eqO (aI v4 v5) (aI b0 b1) then true else !eqb tId (bf v4) (bf b0) then true else !aI v4 (bf b0) then true else !aI (eY b1) v5 then true else !true) (ab.ret (K.val (Ty.pair Ty.bool Ty.unit) (false, PUnit.unit))) (ab.req (bc 0 (c7 (lnx ae v3) 60) (lnx ae v3)) (ab.req (List.length (aS ae v3 0 (c7 (lnx ae v3) 60)) ≤ 1000000) (ab.all (den (Ty.pair Ty.bool (Ty.pair ah Ty.unit))) (fun (q9 : den (Ty.pair Ty.bool (Ty.pair ah Ty.unit))) ↦ q9 = (Prod.fst (bq (aS ae v3 0 (c7 (lnx ae v3) 60))), Prod.snd (bq (aS ae v3 0 (c7 (lnx ae v3) 60))), PUnit.unit)) fun (q9 : den (Ty.pair Ty.bool (Ty.pair ah Ty.unit))) ↦ ab.req (List.length (List.replicate 0 (zero ae) ++ aS ae v3 0 (c7 (lnx ae v3) 60)) ≤ bW) (ab.req (List.length (List.replicate 0 (zero ae) ++ aS ae v3 0 (c7 (lnx ae v3) 60) ++ List.set (List.set (List.replicate 2 (zero ae)) 0 (v4, v5, Prod.snd (Prod.snd (zero (Ty.pair tId (Ty.pair tId Ty.unit)))))) 1 (v5, v4, Prod.snd (Prod.snd (zero (Ty.pair tId (Ty.pair tId Ty.unit)))))) ≤ bW) (ab.req (List.length (List.replicate 0 (zero ae) ++ aS ae v3 0 (c7 (lnx ae v3) 60) ++ List.set (List.set (List.replicate 2 (zero ae)) 0 (v4, v5, Prod.snd (Prod.snd (zero (Ty.pair tId (Ty.pair tId Ty.unit)))))) 1 (v5, v4, Prod.snd (Prod.snd (zero (Ty.pair tId (Ty.pair tId Ty.unit)))))) ≤ 1000000) (ab.all (den (Ty.pair Ty.bool (Ty.pair ah Ty.unit))) (fun (q10 : den (Ty.pair Ty.bool (Ty.pair ah Ty.unit))) ↦ q10 = (Prod.fst (bq (List.replicate 0 (zero ae) ++ aS ae v3 0 (c7 (lnx ae v3) 60) ++ List.set (List.set (List.replicate 2 (zero ae)) 0 (v4, v5, Prod.snd (Prod.snd (zero (Ty.pair tId (Ty.pair tId Ty.unit)))))) 1 (v5, v4, Prod.snd (Prod.snd (zero (Ty.pair tId (Ty.pair tId Ty.unit))))))), Prod.snd (bq (List.replicate 0 (zero ae) ++ aS ae v3 0 (c7 (lnx ae v3) 60) ++ List.set (List.set (List.replicate 2 (zero ae)) 0 (v4, v5, Prod.snd (Prod.snd (zero (Ty.pair tId (Ty.pair tId Ty.unit)))))) 1 (v5, v4, Prod.snd (Prod.snd (zero (Ty.pair tId (Ty.pair tId Ty.unit))))))), PUnit.unit)) fun (q10 : den (Ty.pair Ty.bool (Ty.pair ah Ty.unit))) ↦ ab.req (nz 2) (ab.req (bc 0 (IntKind.wrap IntKind.i64 (Int.tdiv (lnx ae (aS ae v3 0 (c7 (lnx ae v3) 60))) 2)) (lnx ae (aS ae v3 0 (c7 (lnx ae v3) 60)))) (ab.req (List.length (aS ae (aS ae v3 0 (c7 (lnx ae v3) 60)) 0 (IntKind.wrap IntKind.i64 (Int.tdiv (lnx ae (aS ae v3 0 (c7 (lnx ae v3) 60))) 2))) ≤ 1000000) (ab.all (den (Ty.pair Ty.bool (Ty.pair ah Ty.unit))) (fun (q11 : den (Ty.pair Ty.bool (Ty.pair ah Ty.unit))) ↦ q11 = (Prod.fst (bq (aS ae (aS ae v3 0 (c7 (lnx ae v3) 60)) 0 (IntKind.wrap IntKind.i64 (Int.tdiv (lnx ae (aS ae v3 0 (c7 (lnx ae v3) 60))) 2)))), Prod.snd (bq (aS ae (aS ae v3 0 (c7 (lnx ae v3) 60)) 0 (IntKind.wrap IntKind.i64 (Int.tdiv (lnx ae (aS ae v3 0 (c7 (lnx ae v3) 60))) 2)))), PUnit.unit)) fun (q11 : den (Ty.pair Ty.bool (Ty.pair ah Ty.unit))) ↦ ab.ret (K.val (Ty.pair Ty.bool Ty.unit) (bif bif bif bif decide (Prod.fst (Prod.snd q9) = 0) then decide (Prod.fst (Prod.snd q10) = 0) else false then decide (Prod.fst (Prod.snd q11) = 0) else false then !Prod.fst q10 else false then bif !Prod.fst q9 then true else Prod.fst q11 else false, PUnit.unit)))))))))))))))))))))
theorem gI (v3 : den (Ty.slc ae)) (v4 : den tId) (v5 : den tId) (v6 : den tId) (v11 : den ah) (b0 : den tId) (b1 : den tId) : aF d4 kN 5000 [] cV (lp cD 3) (jf v3 v4 v5 v6 v11 b0 b1) = nq v3 v4 v5 v6 v11 b0 b1 := by kernel_rfl
end Go.Proofs.YtnakjijahkaoaaaDoor
namespace Go.Proofs.YtnakjijahkaoaaaDoor
open Go Go.RowKit
theorem uK : ∀ (n : Nat) (l : List Lk), er n l = true → ∃ rk : List Int → Nat, (∀ k, rk k ≤ l.length) ∧ ∀ x ∈ l, rk (aC x.2.1) < rk (aC x.1)
 | 0, l, h => by cases h
 | n + 1, l, h => by
  rw [er] at h
  split at h
  ·have hl : l = [] := List.eq_nil_of_length_eq_zero (of_decide_eq_true h)
   subst hl
   exact ⟨fun _ => 0, fun _ => Nat.zero_le _, fun x hx => by cases hx⟩
  ·rename_i hne
   obtain ⟨rk, h1, h2⟩ := uK n _ h
   have hle := List.length_filter_le (dk (ce l)) l
   refine ⟨fun k => if k ∈ l.map (fun x => aC x.1) then rk k + 1 else 0, fun k => ?_, fun x hx => ?_⟩
   ·show (if k ∈ l.map (fun x => aC x.1) then rk k + 1 else 0) ≤ _
    split
    ·have := h1 k; omega
    ·exact Nat.zero_le _
   ·show (if aC x.2.1 ∈ l.map (fun x => aC x.1) then rk (aC x.2.1) + 1 else 0) < (if aC x.1 ∈ l.map (fun x => aC x.1) then rk (aC x.1) + 1 else 0)
    rw [if_pos (List.mem_map.2 ⟨x, hx, rfl⟩)]
    split
    ·rename_i hin
     have hxr : x ∈ l.filter (dk (ce l)) := List.mem_filter.2 ⟨hx, by unfold dk; rw [s6]; exact decide_eq_true hin⟩
     have := h2 x hxr
     omega
    ·omega
def y5 (l : List Lk) : Prop := ∃ rk : List Int → Nat, ∀ x ∈ l, rk (aC x.2.1) < rk (aC x.1)
theorem nt {rk : List Int → Nat} : ∀ (n : Nat) (l : List Lk), l.length < n → (∀ x ∈ l, rk (aC x.2.1) < rk (aC x.1)) → er n l = true
 | 0, l, h, _ => absurd h (Nat.not_lt_zero _)
 | n + 1, l, h, hr => by
  rw [er]
  split
  ·rename_i he
   have hf : ∀ x ∈ l, dk (ce l) x = true := List.length_filter_eq_length_iff.1 he
   have key : ∀ m : Nat, ∀ x ∈ l, rk (aC x.1) = m → False := fun m => by
    induction m using Nat.strongRecOn with
    | _ m ih =>
     intro x hx e
     have h1 := hf x hx
     unfold dk at h1
     rw [s6] at h1
     obtain ⟨y, hy, e1⟩ := List.mem_map.1 (of_decide_eq_true h1)
     have := hr x hx
     exact ih (rk (aC y.1)) (by rw [e1]; omega) y hy rfl
   cases l with
   | nil => rfl
   | cons x r => exact (key _ x List.mem_cons_self rfl).elim
  ·rename_i he
   have hle := List.length_filter_le (dk (ce l)) l
   exact nt n _ (by omega) fun x hx => hr x (List.mem_filter.1 hx).1
theorem pt (l : List Lk) : er (l.length + 1) l = true ↔ y5 l :=
 ⟨fun h => let ⟨rk, _, h2⟩ := uK _ l h; ⟨rk, h2⟩, fun ⟨_, h⟩ => nt _ l (Nat.lt_succ_self _) h⟩
theorem yB {l m : List Lk} (h : ∀ x ∈ l, x ∈ m) : er (m.length + 1) m = true → er (l.length + 1) l = true := fun hm =>
 let ⟨rk, h2⟩ := (pt m).1 hm
 (pt l).2 ⟨rk, fun x hx => h2 x (h x hx)⟩
theorem lQ {l : List Lk} (h : l.length ≤ 64) : bq l = (er (l.length + 1) l, 0) := by
 unfold bq
 rw [if_neg (by omega)]
theorem xf {l : List Lk} {a b : List Int} (h1 : (a, b, ()) ∈ l) (h2 : (b, a, ()) ∈ l) : er (l.length + 1) l = false := by
 cases h : er (l.length + 1) l with
 | false => rfl
 | true =>
  obtain ⟨rk, hr⟩ := (pt l).1 h
  have e1 : rk (aC b) < rk (aC a) := hr _ h1
  have e2 : rk (aC a) < rk (aC b) := hr _ h2
  omega
theorem ml {a b : List Int} (h : a.take 16 = b.take 16) (w : ByteArray) : iV w a = iV w b := by
 have e : pF a = pF b := by
  unfold pF aS dw
  have e16 : Int.toNat 16 = 16 := rfl
  rw [e16, h]
 unfold iV
 rw [e]
theorem vW {a b x y : List Int} (h1 : a.take 16 = x.take 16) (h2 : b.take 16 = y.take 16) : aI a b = aI x y := by
 have e1 : bf a = bf x := ml h1 _
 have e2 : eY b = eY y := ml h2 _
 unfold aI aC
 rw [e1, e2, h1, h2]
theorem tG (a : List Int) : eqb aj a a = true := by rw [eqK, decide_eq_true rfl]
theorem qB (a : List Int) : aI a (bf a) = true := by
 unfold aI
 rw [tG]
 rfl
theorem tW (b : List Int) : aI (eY b) b = true := by
 unfold aI
 rw [tG]
 cases eqb aj (aC b) (aC (bf (eY b))) <;> rfl
theorem mO : ba prog gl dQ dP :=
 fg (S := dP) (rX (bG mE) jF mW) (fx := lA) ri (by kernel_rfl) (fun _ _ => trivial) (T := fun x => mP x.1 x.2.1) (fun x => pq x.1 x.2.1) fun O w0 x _ _ =>
  ⟨trivial, trivial, trivial, fun _ => trivial, fun _ => trivial, fun _ => trivial, _, rfl, rfl⟩
theorem xu (h : List Int) : ∀ n : Nat, (rr h n).length = 32 := fun n => by
 induction n with
 | zero => rfl
 | succ n ih => exact (List.length_set ..).trans ih
theorem yV (l : List ByteArray) : (iM l).length = 32 := by
 unfold iM uS
 exact xu _ _
theorem wv (secret : ByteArray) (id : List Int) (host : Int) : (aP (aS (.int .u8) (iM (pO secret id host)) 0 16)).size = 16 := by
 rw [gQ]
 unfold aS dw
 have e16 : Int.toNat 16 = 16 := rfl
 have e0 : Int.toNat 0 = 0 := rfl
 rw [e16, e0, List.length_drop, List.length_take, yV]
 rfl
theorem wG : bq (List.set (List.replicate 1 (zero ae)) 0 (List.set (List.replicate 32 (zero (Ty.int IntKind.u8))) 0 7, List.set (List.replicate 32 (zero (Ty.int IntKind.u8))) 0 7, Prod.snd (Prod.snd (zero (Ty.pair tId (Ty.pair tId Ty.unit)))))) = (false, 0) := by kernel_rfl
theorem ug : ba prog gl iK iH :=
 fg (S := iH) (ud (bG kf) sa jF mO) (fx := nf) tj (by kernel_rfl) (fun _ _ => trivial) (T := fun _ => oO) (fun _ => rl) fun O w0 x _ _ => by
  have e2 : ∀ id : List Int, cY ⟨⟨[115]⟩⟩ id 3 = (aP (aS (.int .u8) (iM (pO ⟨⟨[115]⟩⟩ id 3)) 0 16), 0) := fun id => by
   unfold cY
   rw [if_neg (by decide), if_neg (by decide)]
  refine ⟨show 1 ≤ 1000000 by decide, bj ⟨trivial, bj ⟨trivial, trivial, bj <| bj ⟨_, rfl, ?_⟩⟩⟩⟩
  refine Prod.ext ?_ rfl
  dsimp only
  rw [qB, e2, wG]
  dsimp only
  unfold bY
  rw [wv]
  rfl
theorem yD (l : List Lk) (n : Nat) : aS ae l 0 (c7 (lnx ae l) (n : Int)) = l.take n := (yh l n).1
end Go.Proofs.YtnakjijahkaoaaaDoor
namespace Go.Proofs.YtnakjijahkaoaaaDoor
open Go Go.RowKit
theorem qT : XOk prog d4 := qD (bG kf) jF mW mO ug
abbrev GK (O : Nat → Prop) (w0 : World) := bt prog d4 (Cx.base O w0) (fX prog O w0 j7 fun y => y = (true, ()))
theorem y7 (a b : List Int) : eqb tId a b = decide (a = b) := by
 have := iE (t := tId) rfl a b
 cases h : eqb tId a b
 ·exact (decide_eq_false fun e => by rw [this.2 e] at h; cases h).symm
 ·exact (decide_eq_true (this.1 h)).symm
def yQ (O : Nat → Prop) (w0 : World) (a b tail : List Int) (l0 : List Lk) :=
 PLift.up <| d8 (σ := List Int × List Int) 32 (fun i s => 16 ≤ i ∧ s.1.take 16 = a.take 16 ∧ s.2.take 16 = b.take 16)
  (fun i s => GK O w0 [] cV (lp cD 3) (jf l0 a b tail (i : Nat) s.1 s.2))
  (fun i s hi hs ih => a7 qT (gI l0 a b tail _ s.1 s.2) (by
   obtain ⟨h0, h1, h2⟩ := hs
   have hB : inB (i : Int) ((32 : Nat) : Int) := g9 hi
   have e2 : IntKind.wrap .i64 (IntKind.wrap .i64 (31 - (i : Int)) + 16) = 47 - (i : Int) := by
    rw [dY (n := 31 - (i : Int)) (by omega), dY (by omega)]
    omega
   refine ⟨fun _ => ⟨hB, ?_, hB, hB, ?_⟩, fun h => absurd (Int.ofNat_lt.2 hi) (of_decide_eq_false h)⟩
   ·rw [e2]
    exact ⟨by omega, by omega⟩
   ·rw [eT hi (by decide)]
    refine ih (_, _) ⟨by omega, ?_, ?_⟩
    ·show List.take 16 (List.set s.1 (Int.toNat (i : Nat)) _) = _
     rw [Int.toNat_natCast, List.take_set_of_le h0, h1]
    ·show List.take 16 (List.set s.2 (Int.toNat (i : Nat)) _) = _
     rw [Int.toNat_natCast, List.take_set_of_le h0, h2]))
  (fun s hs => a7 qT (gI l0 a b tail _ s.1 s.2) (by
   obtain ⟨_, h1, h2⟩ := hs
   have k1 : aI s.1 s.2 = aI a b := vW h1 h2
   have k2 : bf s.1 = bf a := ml h1 _
   have k3 : eY s.2 = eY b := ml h2 _
   have hc : aS ae l0 0 (c7 (lnx ae l0) 60) = l0.take 60 := yD l0 60
   have hl : (l0.take 60).length ≤ 60 := by rw [List.length_take]; omega
   refine ⟨fun h => absurd (of_decide_eq_true h) (by decide), fun _ => ⟨trivial, trivial, fun _ => trivial, fun _ => trivial, fun _ => trivial, fun _ => trivial, fun _ => trivial, fun _ => trivial, fun _ => trivial, bj <| bj ⟨fun h => ?_, fun _ => ⟨(yh l0 60).2, ?_⟩⟩⟩⟩
   ·exfalso
    rw [k1, k2, k3, qB, tW, y7, decide_eq_true rfl] at h
    revert h
    cases aI a b <;> intro h <;> exact absurd h (by decide)
   ·rw [hc]
    generalize l0.take 60 = l at hl
    have e3 : ∀ m : List Lk, List.replicate 0 (zero ae) ++ m = m := fun _ => rfl
    have hmo : (100 : Nat) ≤ bW := by decide
    have hln : lnx ae l = (l.length : Int) := rfl
    have e4 : ∀ m : List Lk, m ++ List.set (List.set (List.replicate 2 (zero ae)) 0 (a, b, Prod.snd (Prod.snd (zero (Ty.pair tId (Ty.pair tId Ty.unit)))))) 1 (b, a, Prod.snd (Prod.snd (zero (Ty.pair tId (Ty.pair tId Ty.unit))))) = m ++ [(a, b, ()), (b, a, ())] := fun _ => rfl
    have e5 : IntKind.wrap .i64 (Int.tdiv (l.length : Int) 2) = ((l.length / 2 : Nat) : Int) := by
     rw [Int.tdiv_eq_ediv_of_nonneg (by omega), dY (by omega)]
     omega
    have e6 : aS ae l 0 ((l.length / 2 : Nat) : Int) = l.take (l.length / 2) := by
     unfold aS dw
     rw [Int.toNat_natCast]
     exact List.drop_zero
    rw [e3, e4, hln, e5, e6]
    have hlm : (l ++ [(a, b, ()), (b, a, ())]).length = l.length + 2 := List.length_append
    have hlt : (l.take (l.length / 2)).length ≤ l.length := by rw [List.length_take]; omega
    have a1 := lQ (l := l) (by omega)
    have a2 := lQ (l := l ++ [(a, b, ()), (b, a, ())]) (by omega)
    have a3 := lQ (l := l.take (l.length / 2)) (by omega)
    rw [xf (a := a) (b := b) (List.mem_append.2 (.inr List.mem_cons_self)) (List.mem_append.2 (.inr (List.mem_cons_of_mem _ List.mem_cons_self)))] at a2
    have hsub : er (l.length + 1) l = true → er ((l.take (l.length / 2)).length + 1) (l.take (l.length / 2)) = true := yB fun x hx => List.mem_of_mem_take hx
    refine ⟨by omega, bj ⟨by omega, by omega, by omega, bj ⟨show (2 : Int) ≠ 0 by decide, ⟨Int.le_refl _, by omega, by omega⟩, by omega, bj ⟨_, rfl, ?_⟩⟩⟩⟩
    rw [a1, a2, a3]
    refine Prod.ext ?_ rfl
    revert hsub
    cases er (l.length + 1) l <;> cases er ((l.take (l.length / 2)).length + 1) (l.take (l.length / 2)) <;> intro hsub <;> first | rfl | cases hsub rfl))
theorem qz : ba prog gl kr (xm cZ) :=
 fg (S := xm cZ) qT (fx := cV) pd (by kernel_rfl) (fun _ _ => trivial) (T := fun x => kC x.1 x.2.1 x.2.2.1 x.2.2.2.1) (fun x => nx x.1 x.2.1 x.2.2.1 x.2.2.2.1) fun O w0 x _ _ =>
  (yQ O w0 x.1 x.2.1 x.2.2.1 x.2.2.2.1).down 16 (_, _) (by decide) ⟨Nat.le_refl _, rfl, rfl⟩
end Go.Proofs.YtnakjijahkaoaaaDoor
