/- Part 8 of 8 of what this claim's proof stands on: a theory of programs on data, and the contracts of the functions that the law reaches. It holds no condition of its own. -/
import Derived.Test.YtnakjijahkaoaaaDoorCA7
namespace Go.Proofs.YtnakjijahkaoaaaDoor
open Go Go.RowKit
theorem wF (xs : List (List UInt8)) : Lib.join xs [] = xs.flatten := by
 cases xs with
 | nil => rfl
 | cons x r =>
  rw [Lib.join_cons]
  unfold Lib.joinTail
  have : (fun y : List UInt8 => [] ++ y) = id := by funext y; rfl
  rw [this, List.map_id, List.flatten_cons]
theorem vc (xs : List ByteArray) : bo xs e0 = ⟨((xs.map (·.data.toList)).flatten).toArray⟩ := by
 unfold bo
 have : e0.data.toList = [] := rfl
 rw [this, wF]
theorem xu (n : Nat) : ∀ xs : List ByteArray, (∀ x ∈ xs, x.size ≤ n) → (bo xs e0).size ≤ xs.length * n := by
 intro xs h
 rw [vc, nI]
 induction xs with
 | nil => simp
 | cons x r ih =>
  rw [List.map_cons, List.flatten_cons, List.length_append, List.length_cons, Nat.add_mul, Nat.one_mul]
  have h1 := ih fun y hy => h y (List.mem_cons_of_mem _ hy)
  have h2 := h x List.mem_cons_self
  have h3 : x.data.toList.length = x.size := rfl
  omega
end Go.Proofs.YtnakjijahkaoaaaDoor
namespace Go.Proofs.YtnakjijahkaoaaaDoor
open Go Go.RowKit
noncomputable abbrev mr : Fx := { fn := jG, ann := { frz := [(1, [3]), (3, [5])] }, share := true }
noncomputable abbrev ng : br := { D := { T := cZ, F := [(ep, eF)], R := [], ovl := [], G := gl }, inl := [] }
noncomputable abbrev sV : cY := .data mz
theorem tl (h_digest_Sum : bh prog gl ep eF) : XOk prog ng := xok (bw (cM cG bV) h_digest_Sum) (by kernel_rfl) bW cO cN
noncomputable def mY (word : den Ty.str) (a : den tId) : ae := ae.req (a7 0 16 (↑32 : Int)) (ae.req (List.length (List.set (List.set (List.replicate 2 (zero Ty.str)) 0 word) 1 (aQ (aj (Ty.int IntKind.u8) a 0 16))) ≤ 1000000 ∧ ByteArray.size (bo (List.set (List.set (List.replicate 2 (zero Ty.str)) 0 word) 1 (aQ (aj (Ty.int IntKind.u8) a 0 16))) e0) ≤ 900000) (ae.all (den tId) (fun (q2 : den tId) ↦ q2 = iD (List.set (List.set (List.replicate 2 (zero Ty.str)) 0 word) 1 (aQ (aj (Ty.int IntKind.u8) a 0 16)))) fun (q2 : den tId) ↦ ae.req (a7 0 16 (↑32 : Int)) (ae.req (a7 0 (↑32 : Int) (↑32 : Int)) (ae.ret (K.val (Ty.pair tId Ty.unit) (over (zero tId) (Int.toNat 0) (List.take (Int.toNat 16 - Int.toNat 0) (aj (Ty.int IntKind.u8) q2 0 (↑32 : Int))), PUnit.unit))))))
theorem qt (word : den Ty.str) (a : den tId) : aH ng sV 5000 [] mr (a8 jG) (Env.of (bf mD (word, a, ()) 0) []) = mY word a := by kernel_rfl
noncomputable abbrev k8 : Fx := { fn := iU, ann := { frz := [(5, [4]), (6, [8])] }, share := true }
noncomputable abbrev mE : br := { D := { T := cZ, F := [(ep, eF)], R := [], ovl := [], G := gl }, inl := [] }
noncomputable abbrev rT : cY := .data le
theorem rR (h_digest_Sum : bh prog gl ep eF) : XOk prog mE := xok (bw (cM cG bV) h_digest_Sum) (by kernel_rfl) bW cO cN
noncomputable def mg (secret : den Ty.str) (id : den tId) (host : den ah) : ae := ae.ite (bif decide (host < 0) then true else decide (16 ≤ host)) (ae.ret (K.val (Ty.pair Ty.str (Ty.pair ah Ty.unit)) ({ data := { toList := [] } }, 1, PUnit.unit))) (ae.ite (decide (64 < bX secret)) (ae.ret (K.val (Ty.pair Ty.str (Ty.pair ah Ty.unit)) ({ data := { toList := [] } }, 2, PUnit.unit))) (ae.req (a7 0 (↑32 : Int) (↑32 : Int)) (ae.req (List.length (List.set (List.set (List.set (List.set (List.replicate 4 (zero Ty.str)) 0 { data := { toList := [110, 111, 110, 99, 101] } }) 1 secret) 2 (aQ (aj (Ty.int IntKind.u8) id 0 (↑32 : Int)))) 3 (aQ (List.set (List.replicate 1 (zero (Ty.int IntKind.u8))) 0 (IntKind.wrap IntKind.u8 host)))) ≤ 1000000 ∧ ByteArray.size (bo (List.set (List.set (List.set (List.set (List.replicate 4 (zero Ty.str)) 0 { data := { toList := [110, 111, 110, 99, 101] } }) 1 secret) 2 (aQ (aj (Ty.int IntKind.u8) id 0 (↑32 : Int)))) 3 (aQ (List.set (List.replicate 1 (zero (Ty.int IntKind.u8))) 0 (IntKind.wrap IntKind.u8 host)))) e0) ≤ 900000) (ae.all (den tId) (fun (q3 : den tId) ↦ q3 = iD (List.set (List.set (List.set (List.set (List.replicate 4 (zero Ty.str)) 0 { data := { toList := [110, 111, 110, 99, 101] } }) 1 secret) 2 (aQ (aj (Ty.int IntKind.u8) id 0 (↑32 : Int)))) 3 (aQ (List.set (List.replicate 1 (zero (Ty.int IntKind.u8))) 0 (IntKind.wrap IntKind.u8 host))))) fun (q3 : den tId) ↦ ae.req (a7 0 16 (↑32 : Int)) (ae.ret (K.val (Ty.pair Ty.str (Ty.pair ah Ty.unit)) (aQ (aj (Ty.int IntKind.u8) (iD (List.set (List.set (List.set (List.set (List.replicate 4 (zero Ty.str)) 0 { data := { toList := [110, 111, 110, 99, 101] } }) 1 secret) 2 (aQ (aj (Ty.int IntKind.u8) id 0 (↑32 : Int)))) 3 (aQ (List.set (List.replicate 1 (zero (Ty.int IntKind.u8))) 0 (IntKind.wrap IntKind.u8 host))))) 0 16), 0, PUnit.unit)))))))
theorem oM (secret : den Ty.str) (id : den tId) (host : den ah) : aH mE rT 5000 [] k8 (a8 iU) (Env.of (bf lf (secret, id, host, ()) 0) []) = mg secret id host := by kernel_rfl
end Go.Proofs.YtnakjijahkaoaaaDoor
namespace Go.Proofs.YtnakjijahkaoaaaDoor
open Go Go.RowKit
theorem gU (xs : List Int) : (aQ xs).size = xs.length := by
 show (xs.map _).toArray.size = _
 rw [List.size_toArray, List.length_map]
theorem uH (xs : List Int) (h : Nat) : (aj (.int .u8) xs 0 (h : Int)).length ≤ h := by
 unfold aj dr
 rw [List.length_drop, List.length_take]
 omega
theorem oz {l : List ByteArray} {n : Nat} (h : ∀ x ∈ l, x.size ≤ n) (hn : l.length * n ≤ 900000) (hl : l.length ≤ 1000000) : l.length ≤ 1000000 ∧ ByteArray.size (bo l e0) ≤ 900000 :=
 ⟨hl, Nat.le_trans (xu n l h) hn⟩
def zg : ByteArray := ⟨⟨[108, 101, 102, 116]⟩⟩
def ze : ByteArray := ⟨⟨[114, 105, 103, 104, 116]⟩⟩
def y7 : ByteArray := ⟨⟨[110, 111, 110, 99, 101]⟩⟩
def uJ (a : List Int) : ByteArray := aQ (aj (.int .u8) a 0 16)
def mQ (word : ByteArray) (a : List Int) : List Int := over (zero tId) 0 (List.take 16 (aj (.int .u8) (iD [word, uJ a]) 0 32))
noncomputable abbrev d7 : cQ := ⟨mD, mz, fun x => (mQ x.1 x.2.1, ()), fun x => ByteArray.size x.1 ≤ 1000, false⟩
theorem mT : bh prog gl eH d7 :=
 eS (S := d7) (tl nH) (fx := mr) rG (by kernel_rfl) (fun h => by cases h) (T := fun x => mY x.1 x.2.1) (fun x => qt x.1 x.2.1) fun O w0 x _ hp => by
  obtain ⟨word, a, ⟨⟩⟩ := x
  have hp : word.size ≤ 1000 := hp
  have hk : (uJ a).size ≤ 16 := by unfold uJ; rw [gU]; exact uH a 16
  refine ⟨⟨by decide, by decide, by decide⟩, oz (l := [word, uJ a]) (n := 1000) (fun x hx => ?_) (show 2 * 1000 ≤ 900000 by decide) (show 2 ≤ 1000000 by decide), bj ⟨⟨by decide, by decide, by decide⟩, ⟨by decide, by decide, by decide⟩, _, rfl, rfl⟩⟩
  rcases List.mem_cons.1 hx with rfl | hx
  ·exact hp
  ·rcases List.mem_cons.1 hx with rfl | hx
   ·omega
   ·cases hx
def pZ (secret : ByteArray) (id : List Int) (host : Int) : List ByteArray := [y7, secret, aQ (aj (.int .u8) id 0 32), aQ [IntKind.wrap .u8 host]]
def cT (secret : ByteArray) (id : List Int) (host : Int) : ByteArray × Int :=
 if host < 0 ∨ 16 ≤ host then (e0, 1) else if 64 < secret.size then (e0, 2) else (aQ (aj (.int .u8) (iD (pZ secret id host)) 0 16), 0)
noncomputable abbrev ge : cQ := ⟨lf, le, fun x => ((cT x.1 x.2.1 x.2.2.1).1, (cT x.1 x.2.1 x.2.2.1).2, ()), fun _ => True, true⟩
theorem rJ : bh prog gl gc ge :=
 eS (S := ge) (rR nH) (fx := k8) qZ (by kernel_rfl) (fun _ _ => trivial) (T := fun x => mg x.1 x.2.1 x.2.2.1) (fun x => oM x.1 x.2.1 x.2.2.1) fun O w0 x _ _ => by
  obtain ⟨secret, id, host, ⟨⟩⟩ := x
  have key : ∀ host : Int, (decide (host < 0 ∨ 16 ≤ host)) = bif decide (host < 0) then true else decide (16 ≤ host) := fun host => by
   by_cases h1 : host < 0
   ·rw [decide_eq_true h1, decide_eq_true (.inl h1)]; rfl
   ·rw [decide_eq_false h1]
    rw [decide_eq_decide.2 (show (host < 0 ∨ 16 ≤ host) ↔ 16 ≤ host by omega)]; rfl
  refine ⟨fun h => ⟨_, rfl, ?_⟩, fun h => ⟨fun h2 => ⟨_, rfl, ?_⟩, fun h2 => ⟨⟨by decide, by decide, by decide⟩, ?_, bj ⟨⟨by decide, by decide, by decide⟩, _, rfl, ?_⟩⟩⟩⟩
  ·have h := of_decide_eq_true ((key host).trans h)
   show (e0, (1 : Int), ()) = ((cT secret id host).1, (cT secret id host).2, ())
   unfold cT
   rw [if_pos h]
  ·have h := of_decide_eq_false ((key host).trans h)
   have h2 : (64 : Int) < (secret.size : Int) := of_decide_eq_true h2
   show (e0, (2 : Int), ()) = ((cT secret id host).1, (cT secret id host).2, ())
   unfold cT
   rw [if_neg h, if_pos (by omega)]
  ·have h2 : ¬ (64 : Int) < (secret.size : Int) := of_decide_eq_false h2
   refine oz (l := pZ secret id host) (n := 64) (fun x hx => ?_) (show 4 * 64 ≤ 900000 by decide) (show 4 ≤ 1000000 by decide)
   rcases List.mem_cons.1 hx with rfl | hx
   ·decide
   ·rcases List.mem_cons.1 hx with rfl | hx
    ·omega
    ·rcases List.mem_cons.1 hx with rfl | hx
     ·rw [gU]
      exact Nat.le_trans (uH id 32) (by decide)
     ·rcases List.mem_cons.1 hx with rfl | hx
      ·rw [gU]; exact show 1 ≤ 64 by decide
      ·cases hx
  ·have h := of_decide_eq_false ((key host).trans h)
   have h2 : ¬ (64 : Int) < (secret.size : Int) := of_decide_eq_false h2
   show (_, (0 : Int), ()) = ((cT secret id host).1, (cT secret id host).2, ())
   unfold cT
   rw [if_neg h, if_neg (by omega)]
   rfl
end Go.Proofs.YtnakjijahkaoaaaDoor
namespace Go.Proofs.YtnakjijahkaoaaaDoor
open Go Go.RowKit
noncomputable abbrev mC : Fx := { fn := jt, ann := { } }
noncomputable abbrev m8 : br := { D := { T := cZ, F := [(eH, d7)], R := [], ovl := [], G := gl }, inl := [] }
noncomputable abbrev sr : cY := .data mv
theorem so (h_proof_made : bh prog gl eH d7) : XOk prog m8 := xok (bw (cM cG bV) h_proof_made) (by kernel_rfl) bW cO cN
noncomputable def mR (a : den tId) : ae := ae.req (ByteArray.size { data := { toList := [108, 101, 102, 116] } } ≤ 1000) (ae.ret (K.val (Ty.pair tId Ty.unit) (mQ { data := { toList := [108, 101, 102, 116] } } a, PUnit.unit)))
theorem p5 (a : den tId) : aH m8 sr 5000 [] mC (a8 jt) (Env.of (bf mh (a, ()) 0) []) = mR a := by kernel_rfl
noncomputable abbrev k9 : Fx := { fn := iS, ann := { } }
noncomputable abbrev mm : br := { D := { T := cZ, F := [(eH, d7)], R := [], ovl := [], G := gl }, inl := [] }
noncomputable abbrev rI : cY := .data lg
theorem rK (h_proof_made : bh prog gl eH d7) : XOk prog mm := xok (bw (cM cG bV) h_proof_made) (by kernel_rfl) bW cO cN
noncomputable def ml (a : den tId) : ae := ae.req (ByteArray.size { data := { toList := [114, 105, 103, 104, 116] } } ≤ 1000) (ae.ret (K.val (Ty.pair tId Ty.unit) (mQ { data := { toList := [114, 105, 103, 104, 116] } } a, PUnit.unit)))
theorem oQ (a : den tId) : aH mm rI 5000 [] k9 (a8 iS) (Env.of (bf kY (a, ()) 0) []) = ml a := by kernel_rfl
end Go.Proofs.YtnakjijahkaoaaaDoor
namespace Go.Proofs.YtnakjijahkaoaaaDoor
open Go Go.RowKit
def fZ (a : List Int) : List Int := mQ zg a
def qD (a : List Int) : List Int := mQ ze a
noncomputable abbrev eD : cQ := ⟨mh, mv, fun x => (fZ x.1, ()), fun _ => True, true⟩
noncomputable abbrev gi : cQ := ⟨kY, lg, fun x => (qD x.1, ()), fun _ => True, true⟩
theorem nf : bh prog gl eE eD :=
 eS (S := eD) (so mT) (fx := mC) rP (by kernel_rfl) (fun _ _ => trivial) (T := fun x => mR x.1) (fun x => p5 x.1) fun O w0 x _ _ => ⟨by decide, _, rfl, rfl⟩
theorem rH : bh prog gl gp gi :=
 eS (S := gi) (rK mT) (fx := k9) rf (by kernel_rfl) (fun _ _ => trivial) (T := fun x => ml x.1) (fun x => oQ x.1) fun O w0 x _ _ => ⟨by decide, _, rfl, rfl⟩
def jC (f t : List Int) : Bool := bif eqb ak (aJ t) (aJ (fZ f)) then true else eqb ak (aJ f) (aJ (qD t))
noncomputable abbrev gq : cQ := ⟨lu, kV, fun x => (jC x.1 x.2.1, ()), fun _ => True, true⟩
noncomputable abbrev iB : cQ := ⟨nx, nO, fun _ => (true, ()), fun _ => True, true⟩
end Go.Proofs.YtnakjijahkaoaaaDoor
namespace Go.Proofs.YtnakjijahkaoaaaDoor
open Go Go.RowKit
noncomputable abbrev lh : Fx := { fn := iQ, ann := { } }
noncomputable abbrev mn : br := { D := { T := cZ, F := [(dH, dI), (eE, eD), (gp, gi)], R := [], ovl := [], G := gl }, inl := [] }
noncomputable abbrev rQ : cY := .data kV
theorem rF (h_proof_keyOf : bh prog gl dH dI) (h_proof_Left : bh prog gl eE eD) (h_proof_Right : bh prog gl gp gi) : XOk prog mn := xok (bw (bw (bw (cM cG bV) h_proof_Right) h_proof_Left) h_proof_keyOf) (by kernel_rfl) bW cO cN
noncomputable def mw (a : den tId) (b : den tId) : ae := ae.req True (ae.req True (ae.req True (ae.req (ri [(eqb ak (aJ b) (aJ (fZ a)), false)] True) (ae.req (ri [(eqb ak (aJ b) (aJ (fZ a)), false)] True) (ae.req (ri [(eqb ak (aJ b) (aJ (fZ a)), false)] True) (ae.ret (K.val (Ty.pair Ty.bool Ty.unit) (bif eqb ak (aJ b) (aJ (fZ a)) then true else eqb ak (aJ a) (aJ (qD b)), PUnit.unit))))))))
theorem pg (a : den tId) (b : den tId) : aH mn rQ 5000 [] lh (a8 iQ) (Env.of (bf lu (a, b, ()) 0) []) = mw a b := by kernel_rfl
noncomputable abbrev m3 : Fx := { fn := kK, ann := { frz := [(2, [1])] }, share := true }
noncomputable abbrev oH : br := { D := { T := cZ, F := [(c7, cz), (gc, ge), (eE, eD), (gn, gq)], R := [], ovl := [], G := gl }, inl := [] }
noncomputable abbrev tE : cY := .data nO
theorem tY (h_proof_Acyclic : bh prog gl c7 cz) (h_proof_Nonce : bh prog gl gc ge) (h_proof_Left : bh prog gl eE eD) (h_proof_Links : bh prog gl gn gq) : XOk prog oH := xok (bw (bw (bw (bw (cM cG bV) h_proof_Links) h_proof_Left) h_proof_Nonce) h_proof_Acyclic) (by kernel_rfl) bW cO cN
noncomputable def oC : ae := ae.req (List.length (List.set (List.replicate 1 (zero ab)) 0 (List.set (List.replicate 32 (zero (Ty.int IntKind.u8))) 0 7, List.set (List.replicate 32 (zero (Ty.int IntKind.u8))) 0 7, Prod.snd (Prod.snd (zero (Ty.pair tId (Ty.pair tId Ty.unit)))))) ≤ 1000000) (ae.all (den (Ty.pair Ty.bool (Ty.pair ah Ty.unit))) (fun (q0 : den (Ty.pair Ty.bool (Ty.pair ah Ty.unit))) ↦ q0 = (Prod.fst (ba (List.set (List.replicate 1 (zero ab)) 0 (List.set (List.replicate 32 (zero (Ty.int IntKind.u8))) 0 7, List.set (List.replicate 32 (zero (Ty.int IntKind.u8))) 0 7, Prod.snd (Prod.snd (zero (Ty.pair tId (Ty.pair tId Ty.unit))))))), Prod.snd (ba (List.set (List.replicate 1 (zero ab)) 0 (List.set (List.replicate 32 (zero (Ty.int IntKind.u8))) 0 7, List.set (List.replicate 32 (zero (Ty.int IntKind.u8))) 0 7, Prod.snd (Prod.snd (zero (Ty.pair tId (Ty.pair tId Ty.unit))))))), PUnit.unit)) fun (q0 : den (Ty.pair Ty.bool (Ty.pair ah Ty.unit))) ↦ ae.req True (ae.all (den (Ty.pair Ty.str (Ty.pair ah Ty.unit))) (fun (q1 : den (Ty.pair Ty.str (Ty.pair ah Ty.unit))) ↦ q1 = (Prod.fst (cT { data := { toList := [115] } } (List.set (List.replicate 32 (zero (Ty.int IntKind.u8))) 0 7) 3), Prod.snd (cT { data := { toList := [115] } } (List.set (List.replicate 32 (zero (Ty.int IntKind.u8))) 0 7) 3), PUnit.unit)) fun (q1 : den (Ty.pair Ty.str (Ty.pair ah Ty.unit))) ↦ ae.req True (ae.req True (ae.all (den tId) (fun (q2 : den tId) ↦ q2 = fZ (List.set (List.replicate 32 (zero (Ty.int IntKind.u8))) 0 7)) fun (q2 : den tId) ↦ ae.all (den Ty.bool) (fun (q3 : den Ty.bool) ↦ q3 = jC (List.set (List.replicate 32 (zero (Ty.int IntKind.u8))) 0 7) (fZ (List.set (List.replicate 32 (zero (Ty.int IntKind.u8))) 0 7))) fun (q3 : den Ty.bool) ↦ ae.ret (K.val (Ty.pair Ty.bool Ty.unit) (bif bif bif bif jC (List.set (List.replicate 32 (zero (Ty.int IntKind.u8))) 0 7) (fZ (List.set (List.replicate 32 (zero (Ty.int IntKind.u8))) 0 7)) then decide (Prod.fst (Prod.snd q0) = 0) else false then !Prod.fst q0 else false then decide (Prod.fst (Prod.snd q1) = 0) else false then decide (bX (Prod.fst q1) = 16) else false, PUnit.unit))))))
theorem qH : aH oH tE 5000 [] m3 (a8 kK) (Env.of (bf nx () 0) []) = oC := by kernel_rfl
noncomputable abbrev jN : Fx := { fn := gW, ann := { }, own := [43, 56], share := true }
noncomputable abbrev j3 : br := { D := { T := cZ, F := [(c7, cz), (iv, iB)], R := [], ovl := [], G := gl }, inl := [] }
noncomputable abbrev pE : cY := .data px
theorem pG (h_proof_Acyclic : bh prog gl c7 cz) (h_l03_alive : bh prog gl iv iB) : XOk prog j3 := xok (bw (bw (cM cG bV) h_l03_alive) h_proof_Acyclic) (by kernel_rfl) bW cO cN
noncomputable def fy (l : den (Ty.slc ab)) (k : den ah) : ae := ae.req (a7 0 (aC (lnx ab l) 32) (lnx ab l)) (ae.req (List.length (aj ab l 0 (aC (lnx ab l) 32)) ≤ 1000000) (ae.all (den (Ty.pair Ty.bool (Ty.pair ah Ty.unit))) (fun (q2 : den (Ty.pair Ty.bool (Ty.pair ah Ty.unit))) ↦ q2 = (Prod.fst (ba (aj ab l 0 (aC (lnx ab l) 32))), Prod.snd (ba (aj ab l 0 (aC (lnx ab l) 32))), PUnit.unit)) fun (q2 : den (Ty.pair Ty.bool (Ty.pair ah Ty.unit))) ↦ ae.ite (decide (lnx ab (aj ab l 0 (aC (lnx ab l) 32)) = 0)) (ae.req True (ae.all (den Ty.bool) (fun (q3 : den Ty.bool) ↦ q3 = true) fun (q3 : den Ty.bool) ↦ ae.ret (K.val (Ty.pair Ty.bool Ty.unit) (bif bif q3 then decide (Prod.fst (Prod.snd q2) = 0) else false then Prod.fst q2 else false, PUnit.unit)))) (ae.req (nz (lnx ab (aj ab l 0 (aC (lnx ab l) 32)))) (ae.req (nz (lnx ab (aj ab l 0 (aC (lnx ab l) 32)))) (ae.req (a7 (Int.tmod (IntKind.wrap IntKind.i64 (Int.tmod k (lnx ab (aj ab l 0 (aC (lnx ab l) 32))) + lnx ab (aj ab l 0 (aC (lnx ab l) 32)))) (lnx ab (aj ab l 0 (aC (lnx ab l) 32)))) (lnx ab (aj ab l 0 (aC (lnx ab l) 32))) (lnx ab (aj ab l 0 (aC (lnx ab l) 32)))) (ae.req (List.length (List.replicate 0 (zero ab) ++ aj ab (aj ab l 0 (aC (lnx ab l) 32)) (Int.tmod (IntKind.wrap IntKind.i64 (Int.tmod k (lnx ab (aj ab l 0 (aC (lnx ab l) 32))) + lnx ab (aj ab l 0 (aC (lnx ab l) 32)))) (lnx ab (aj ab l 0 (aC (lnx ab l) 32)))) (lnx ab (aj ab l 0 (aC (lnx ab l) 32)))) ≤ bN) (ae.req (a7 0 (Int.tmod (IntKind.wrap IntKind.i64 (Int.tmod k (lnx ab (aj ab l 0 (aC (lnx ab l) 32))) + lnx ab (aj ab l 0 (aC (lnx ab l) 32)))) (lnx ab (aj ab l 0 (aC (lnx ab l) 32)))) (lnx ab (aj ab l 0 (aC (lnx ab l) 32)))) (ae.req (List.length (List.replicate 0 (zero ab) ++ aj ab (aj ab l 0 (aC (lnx ab l) 32)) (Int.tmod (IntKind.wrap IntKind.i64 (Int.tmod k (lnx ab (aj ab l 0 (aC (lnx ab l) 32))) + lnx ab (aj ab l 0 (aC (lnx ab l) 32)))) (lnx ab (aj ab l 0 (aC (lnx ab l) 32)))) (lnx ab (aj ab l 0 (aC (lnx ab l) 32))) ++ aj ab (aj ab l 0 (aC (lnx ab l) 32)) 0 (Int.tmod (IntKind.wrap IntKind.i64 (Int.tmod k (lnx ab (aj ab l 0 (aC (lnx ab l) 32))) + lnx ab (aj ab l 0 (aC (lnx ab l) 32)))) (lnx ab (aj ab l 0 (aC (lnx ab l) 32))))) ≤ bN) (ae.req (List.length (List.replicate 0 (zero ab) ++ aj ab (aj ab l 0 (aC (lnx ab l) 32)) (Int.tmod (IntKind.wrap IntKind.i64 (Int.tmod k (lnx ab (aj ab l 0 (aC (lnx ab l) 32))) + lnx ab (aj ab l 0 (aC (lnx ab l) 32)))) (lnx ab (aj ab l 0 (aC (lnx ab l) 32)))) (lnx ab (aj ab l 0 (aC (lnx ab l) 32))) ++ aj ab (aj ab l 0 (aC (lnx ab l) 32)) 0 (Int.tmod (IntKind.wrap IntKind.i64 (Int.tmod k (lnx ab (aj ab l 0 (aC (lnx ab l) 32))) + lnx ab (aj ab l 0 (aC (lnx ab l) 32)))) (lnx ab (aj ab l 0 (aC (lnx ab l) 32))))) ≤ 1000000) (ae.all (den (Ty.pair Ty.bool (Ty.pair ah Ty.unit))) (fun (q3 : den (Ty.pair Ty.bool (Ty.pair ah Ty.unit))) ↦ q3 = (Prod.fst (ba (List.replicate 0 (zero ab) ++ aj ab (aj ab l 0 (aC (lnx ab l) 32)) (Int.tmod (IntKind.wrap IntKind.i64 (Int.tmod k (lnx ab (aj ab l 0 (aC (lnx ab l) 32))) + lnx ab (aj ab l 0 (aC (lnx ab l) 32)))) (lnx ab (aj ab l 0 (aC (lnx ab l) 32)))) (lnx ab (aj ab l 0 (aC (lnx ab l) 32))) ++ aj ab (aj ab l 0 (aC (lnx ab l) 32)) 0 (Int.tmod (IntKind.wrap IntKind.i64 (Int.tmod k (lnx ab (aj ab l 0 (aC (lnx ab l) 32))) + lnx ab (aj ab l 0 (aC (lnx ab l) 32)))) (lnx ab (aj ab l 0 (aC (lnx ab l) 32)))))), Prod.snd (ba (List.replicate 0 (zero ab) ++ aj ab (aj ab l 0 (aC (lnx ab l) 32)) (Int.tmod (IntKind.wrap IntKind.i64 (Int.tmod k (lnx ab (aj ab l 0 (aC (lnx ab l) 32))) + lnx ab (aj ab l 0 (aC (lnx ab l) 32)))) (lnx ab (aj ab l 0 (aC (lnx ab l) 32)))) (lnx ab (aj ab l 0 (aC (lnx ab l) 32))) ++ aj ab (aj ab l 0 (aC (lnx ab l) 32)) 0 (Int.tmod (IntKind.wrap IntKind.i64 (Int.tmod k (lnx ab (aj ab l 0 (aC (lnx ab l) 32))) + lnx ab (aj ab l 0 (aC (lnx ab l) 32)))) (lnx ab (aj ab l 0 (aC (lnx ab l) 32)))))), PUnit.unit)) fun (q3 : den (Ty.pair Ty.bool (Ty.pair ah Ty.unit))) ↦ ae.req (List.length (List.replicate 0 (zero ab) ++ aj ab l 0 (aC (lnx ab l) 32)) ≤ bN) (ae.req (List.length (List.replicate 0 (zero ab) ++ aj ab l 0 (aC (lnx ab l) 32) ++ aj ab l 0 (aC (lnx ab l) 32)) ≤ bN) (ae.req (List.length (List.replicate 0 (zero ab) ++ aj ab l 0 (aC (lnx ab l) 32) ++ aj ab l 0 (aC (lnx ab l) 32)) ≤ 1000000) (ae.all (den (Ty.pair Ty.bool (Ty.pair ah Ty.unit))) (fun (q4 : den (Ty.pair Ty.bool (Ty.pair ah Ty.unit))) ↦ q4 = (Prod.fst (ba (List.replicate 0 (zero ab) ++ aj ab l 0 (aC (lnx ab l) 32) ++ aj ab l 0 (aC (lnx ab l) 32))), Prod.snd (ba (List.replicate 0 (zero ab) ++ aj ab l 0 (aC (lnx ab l) 32) ++ aj ab l 0 (aC (lnx ab l) 32))), PUnit.unit)) fun (q4 : den (Ty.pair Ty.bool (Ty.pair ah Ty.unit))) ↦ ae.req True (ae.all (den Ty.bool) (fun (q5 : den Ty.bool) ↦ q5 = true) fun (q5 : den Ty.bool) ↦ ae.ret (K.val (Ty.pair Ty.bool Ty.unit) (bif bif bif bif bif q5 then decide (Prod.fst (Prod.snd q2) = 0) else false then decide (Prod.snd (ba (List.replicate 0 (zero ab) ++ aj ab (aj ab l 0 (aC (lnx ab l) 32)) (Int.tmod (IntKind.wrap IntKind.i64 (Int.tmod k (lnx ab (aj ab l 0 (aC (lnx ab l) 32))) + lnx ab (aj ab l 0 (aC (lnx ab l) 32)))) (lnx ab (aj ab l 0 (aC (lnx ab l) 32)))) (lnx ab (aj ab l 0 (aC (lnx ab l) 32))) ++ aj ab (aj ab l 0 (aC (lnx ab l) 32)) 0 (Int.tmod (IntKind.wrap IntKind.i64 (Int.tmod k (lnx ab (aj ab l 0 (aC (lnx ab l) 32))) + lnx ab (aj ab l 0 (aC (lnx ab l) 32)))) (lnx ab (aj ab l 0 (aC (lnx ab l) 32)))))) = 0) else false then decide (Prod.fst (Prod.snd q4) = 0) else false then eqO (Prod.fst q2) (Prod.fst (ba (List.replicate 0 (zero ab) ++ aj ab (aj ab l 0 (aC (lnx ab l) 32)) (Int.tmod (IntKind.wrap IntKind.i64 (Int.tmod k (lnx ab (aj ab l 0 (aC (lnx ab l) 32))) + lnx ab (aj ab l 0 (aC (lnx ab l) 32)))) (lnx ab (aj ab l 0 (aC (lnx ab l) 32)))) (lnx ab (aj ab l 0 (aC (lnx ab l) 32))) ++ aj ab (aj ab l 0 (aC (lnx ab l) 32)) 0 (Int.tmod (IntKind.wrap IntKind.i64 (Int.tmod k (lnx ab (aj ab l 0 (aC (lnx ab l) 32))) + lnx ab (aj ab l 0 (aC (lnx ab l) 32)))) (lnx ab (aj ab l 0 (aC (lnx ab l) 32))))))) else false then eqO (Prod.fst q2) (Prod.fst q4) else false, PUnit.unit))))))))))))))))
theorem nM (l : den (Ty.slc ab)) (k : den ah) : aH j3 pE 5000 [] jN (a8 gW) (Env.of (bf cV (l, k, ()) 0) []) = fy l k := by kernel_rfl
end Go.Proofs.YtnakjijahkaoaaaDoor
namespace Go.Proofs.YtnakjijahkaoaaaDoor
open Go Go.RowKit
theorem ux : ∀ (n : Nat) (l : List Lk), c6 n l = true → ∃ rk : List Int → Nat, (∀ k, rk k ≤ l.length) ∧ ∀ x ∈ l, rk (aJ x.2.1) < rk (aJ x.1)
 | 0, l, h => by cases h
 | n + 1, l, h => by
  rw [c6] at h
  split at h
  ·have hl : l = [] := List.eq_nil_of_length_eq_zero (of_decide_eq_true h)
   subst hl
   exact ⟨fun _ => 0, fun _ => Nat.zero_le _, fun x hx => by cases hx⟩
  ·rename_i hne
   obtain ⟨rk, h1, h2⟩ := ux n _ h
   have hle := List.length_filter_le (db (bY l)) l
   refine ⟨fun k => if k ∈ l.map (fun x => aJ x.1) then rk k + 1 else 0, fun k => ?_, fun x hx => ?_⟩
   ·show (if k ∈ l.map (fun x => aJ x.1) then rk k + 1 else 0) ≤ _
    split
    ·have := h1 k; omega
    ·exact Nat.zero_le _
   ·show (if aJ x.2.1 ∈ l.map (fun x => aJ x.1) then rk (aJ x.2.1) + 1 else 0) < (if aJ x.1 ∈ l.map (fun x => aJ x.1) then rk (aJ x.1) + 1 else 0)
    rw [if_pos (List.mem_map.2 ⟨x, hx, rfl⟩)]
    split
    ·rename_i hin
     have hxr : x ∈ l.filter (db (bY l)) := List.mem_filter.2 ⟨hx, by unfold db; rw [sZ]; exact decide_eq_true hin⟩
     have := h2 x hxr
     omega
    ·omega
def y5 (l : List Lk) : Prop := ∃ rk : List Int → Nat, ∀ x ∈ l, rk (aJ x.2.1) < rk (aJ x.1)
theorem nP {rk : List Int → Nat} : ∀ (n : Nat) (l : List Lk), l.length < n → (∀ x ∈ l, rk (aJ x.2.1) < rk (aJ x.1)) → c6 n l = true
 | 0, l, h, _ => absurd h (Nat.not_lt_zero _)
 | n + 1, l, h, hr => by
  rw [c6]
  split
  ·rename_i he
   have hf : ∀ x ∈ l, db (bY l) x = true := List.length_filter_eq_length_iff.1 he
   have key : ∀ m : Nat, ∀ x ∈ l, rk (aJ x.1) = m → False := fun m => by
    induction m using Nat.strongRecOn with
    | _ m ih =>
     intro x hx e
     have h1 := hf x hx
     unfold db at h1
     rw [sZ] at h1
     obtain ⟨y, hy, e1⟩ := List.mem_map.1 (of_decide_eq_true h1)
     have := hr x hx
     exact ih (rk (aJ y.1)) (by rw [e1]; omega) y hy rfl
   cases l with
   | nil => rfl
   | cons x r => exact (key _ x List.mem_cons_self rfl).elim
  ·rename_i he
   have hle := List.length_filter_le (db (bY l)) l
   exact nP n _ (by omega) fun x hx => hr x (List.mem_filter.1 hx).1
theorem sm (l : List Lk) : c6 (l.length + 1) l = true ↔ y5 l :=
 ⟨fun h => let ⟨rk, _, h2⟩ := ux _ l h; ⟨rk, h2⟩, fun ⟨_, h⟩ => nP _ l (Nat.lt_succ_self _) h⟩
theorem uz {l m : List Lk} (h : ∀ x ∈ l, x ∈ m) : c6 (m.length + 1) m = true → c6 (l.length + 1) l = true := fun hm =>
 let ⟨rk, h2⟩ := (sm m).1 hm
 (sm l).2 ⟨rk, fun x hx => h2 x (h x hx)⟩
theorem rC {l m : List Lk} (h : ∀ x, x ∈ l ↔ x ∈ m) : c6 (l.length + 1) l = c6 (m.length + 1) m := by
 rw [Bool.eq_iff_iff]
 exact ⟨uz fun x hx => (h x).2 hx, uz fun x hx => (h x).1 hx⟩
theorem l6 {l : List Lk} (h : l.length ≤ 64) : ba l = (c6 (l.length + 1) l, 0) := by
 unfold ba
 rw [if_neg (by omega)]
theorem xd (a : List Int) : eqb ak a a = true := by rw [eqK, decide_eq_true rfl]
theorem vE (a : List Int) : jC a (fZ a) = true := by
 unfold jC
 rw [xd]
 rfl
theorem rS : bh prog gl gn gq :=
 eS (S := gq) (rF (bF mj) nf rH) (fx := lh) rj (by kernel_rfl) (fun _ _ => trivial) (T := fun x => mw x.1 x.2.1) (fun x => pg x.1 x.2.1) fun O w0 x _ _ =>
  ⟨trivial, trivial, trivial, fun _ => trivial, fun _ => trivial, fun _ => trivial, _, rfl, rfl⟩
theorem xD (h : List Int) : ∀ n : Nat, (qI h n).length = 32 := fun n => by
 induction n with
 | zero => rfl
 | succ n ih => exact (List.length_set ..).trans ih
theorem yf (l : List ByteArray) : (iD l).length = 32 := by
 unfold iD vD
 exact xD _ _
theorem wI (secret : ByteArray) (id : List Int) (host : Int) : (aQ (aj (.int .u8) (iD (pZ secret id host)) 0 16)).size = 16 := by
 rw [gU]
 unfold aj dr
 have e16 : Int.toNat 16 = 16 := rfl
 have e0 : Int.toNat 0 = 0 := rfl
 rw [e16, e0, List.length_drop, List.length_take, yf]
 rfl
theorem vR : ba (List.set (List.replicate 1 (zero ab)) 0 (List.set (List.replicate 32 (zero (Ty.int IntKind.u8))) 0 7, List.set (List.replicate 32 (zero (Ty.int IntKind.u8))) 0 7, Prod.snd (Prod.snd (zero (Ty.pair tId (Ty.pair tId Ty.unit)))))) = (false, 0) := by kernel_rfl
theorem uh : bh prog gl iv iB :=
 eS (S := iB) (tY (bF kD) rJ nf rS) (fx := m3) sA (by kernel_rfl) (fun _ _ => trivial) (T := fun _ => oC) (fun _ => qH) fun O w0 x _ _ => by
  have e2 : ∀ id : List Int, cT ⟨⟨[115]⟩⟩ id 3 = (aQ (aj (.int .u8) (iD (pZ ⟨⟨[115]⟩⟩ id 3)) 0 16), 0) := fun id => by
   unfold cT
   rw [if_neg (by decide), if_neg (by decide)]
  refine ⟨show 1 ≤ 1000000 by decide, bj ⟨trivial, bj ⟨trivial, trivial, bj <| bj ⟨_, rfl, ?_⟩⟩⟩⟩
  refine Prod.ext ?_ rfl
  dsimp only
  rw [vE, e2, vR]
  dsimp only
  unfold bX
  rw [wI]
  rfl
theorem ye (l : List Lk) (n : Nat) : aj ab l 0 (aC (lnx ab l) (n : Int)) = l.take n := (xU l n).1
theorem pY : bh prog gl kr (xl cV) :=
 eS (S := xl cV) (pG (bF kD) uh) (fx := jN) oO (by kernel_rfl) (fun _ _ => trivial) (T := fun x => fy x.1 x.2.1) (fun x => nM x.1 x.2.1) fun O w0 x _ _ => by
  obtain ⟨l0, k, ⟨⟩⟩ := x
  show aK _ _ _ _ _ (fy l0 k)
  unfold fy
  refine ⟨(xU l0 32).2, ?_⟩
  have hc : aj ab l0 0 (aC (lnx ab l0) 32) = l0.take 32 := ye l0 32
  rw [hc]
  have hl : (l0.take 32).length ≤ 32 := by rw [List.length_take]; omega
  generalize l0.take 32 = l at hl
  have hln : lnx ab l = (l.length : Int) := rfl
  refine ⟨by omega, bj ⟨fun h => ?_, fun h => ?_⟩⟩
  ·have h : ((l.length : Nat) : Int) = 0 := of_decide_eq_true h
   have hl0 : l = [] := List.eq_nil_of_length_eq_zero (by omega)
   subst hl0
   exact ⟨trivial, bj ⟨_, rfl, rfl⟩⟩
  ·have h : ¬ ((l.length : Nat) : Int) = 0 := of_decide_eq_false h
   have hpos : 0 < l.length := by omega
   obtain ⟨o1, o2, o3⟩ := vW hpos (by omega) k
   rw [hln, o1, o2]
   generalize s6 l.length k = j at o3
   have e1 : aj ab l (j : Int) (l.length : Int) = l.drop j := by
    unfold aj dr
    rw [Int.toNat_natCast, Int.toNat_natCast, List.take_length]
   have e2 : aj ab l 0 (j : Int) = l.take j := by
    unfold aj dr
    rw [Int.toNat_natCast]
    exact List.drop_zero
   rw [e1, e2]
   have e3 : ∀ m : List Lk, List.replicate 0 (zero ab) ++ m = m := fun _ => rfl
   rw [e3, e3]
   have hlen : (l.drop j ++ l.take j).length = l.length := by rw [List.length_append, List.length_drop, List.length_take]; omega
   have hlen2 : (l ++ l).length = l.length + l.length := List.length_append
   have hd : (l.drop j).length ≤ l.length := by rw [List.length_drop]; omega
   have hmo : (100 : Nat) ≤ bN := by decide
   have a1 := l6 (l := l) (by omega)
   have a2 := l6 (l := l.drop j ++ l.take j) (by omega)
   have a3 := l6 (l := l ++ l) (by omega)
   have s2 : c6 ((l.drop j ++ l.take j).length + 1) (l.drop j ++ l.take j) = c6 (l.length + 1) l := rC fun x => by
    have : x ∈ l ↔ x ∈ l.take j ++ l.drop j := by rw [List.take_append_drop]
    rw [this, List.mem_append, List.mem_append]
    exact Or.comm
   have s3 : c6 ((l ++ l).length + 1) (l ++ l) = c6 (l.length + 1) l := rC fun x => by rw [List.mem_append, or_self]
   rw [s2] at a2
   rw [s3] at a3
   refine ⟨h, h, ⟨by omega, by omega, Int.le_refl _⟩, by omega, ⟨Int.le_refl _, by omega, by omega⟩, by omega, by omega, bj ⟨by omega, by omega, by omega, bj ⟨trivial, bj ⟨_, rfl, ?_⟩⟩⟩⟩
   rw [a1, a2, a3]
   refine Prod.ext ?_ rfl
   show (bif bif bif bif bif true then decide ((0 : Int) = 0) else false then decide ((0 : Int) = 0) else false then decide ((0 : Int) = 0) else false then eqO (c6 (l.length + 1) l) (c6 (l.length + 1) l) else false then eqO (c6 (l.length + 1) l) (c6 (l.length + 1) l) else false) = true
   cases c6 (l.length + 1) l <;> rfl
end Go.Proofs.YtnakjijahkaoaaaDoor
