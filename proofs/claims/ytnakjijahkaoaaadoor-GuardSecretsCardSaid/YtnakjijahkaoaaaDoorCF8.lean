/- Part 8 of 9 of what this claim's proof stands on: a theory of programs on data, and the contracts of the functions that the law reaches. It holds no condition of its own. -/
import Derived.Test.YtnakjijahkaoaaaDoorCF7
namespace Go.Proofs.YtnakjijahkaoaaaDoor
open Go Go.RowKit
theorem zp (xs : List (List UInt8)) : Lib.join xs [] = xs.flatten := by
 cases xs with
 | nil => rfl
 | cons x r =>
  rw [Lib.join_cons]
  unfold Lib.joinTail
  have : (fun y : List UInt8 => [] ++ y) = id := by funext y; rfl
  rw [this, List.map_id, List.flatten_cons]
theorem xO (xs : List ByteArray) : bh xs e0 = ⟨((xs.map (·.data.toList)).flatten).toArray⟩ := by
 unfold bh
 have : e0.data.toList = [] := rfl
 rw [this, zp]
theorem Aa (n : Nat) : ∀ xs : List ByteArray, (∀ x ∈ xs, x.size ≤ n) → (bh xs e0).size ≤ xs.length * n := by
 intro xs h
 rw [xO, oU]
 induction xs with
 | nil => simp
 | cons x r ih =>
  rw [List.map_cons, List.flatten_cons, List.length_append, List.length_cons, Nat.add_mul, Nat.one_mul]
  have h1 := ih fun y hy => h y (List.mem_cons_of_mem _ hy)
  have h2 := h x List.mem_cons_self
  have h3 : x.data.toList.length = x.size := rfl
  omega
end Go.Proofs.YtnakjijahkaoaaaDoor
namespace Go.Proofs.YtnakjijahkaoaaaDoor
open Go Go.RowKit
noncomputable abbrev nT : Fx := { fn := kK, ann := { frz := [(1, [3]), (3, [5])] }, share := true }
noncomputable abbrev oy : be := { D := { T := bK, F := [(eH, eC)], R := [], ovl := [], G := gl }, inl := [] }
noncomputable abbrev vl : bO := .data nL
theorem vL (h_digest_Sum : aF prog gl eH eC) : XOk prog oy := xok (aS (bl br aY) h_digest_Sum) (by kernel_rfl) a7 bp bt
noncomputable def o2 (word : den Ty.str) (a : den tId) : ab := ab.req (bc 0 16 (↑32 : Int)) (ab.req (List.length (List.set (List.set (List.replicate 2 (zero Ty.str)) 0 word) 1 (aP (c9 (Ty.int IntKind.u8) a 0 16))) ≤ 1000000 ∧ ByteArray.size (bh (List.set (List.set (List.replicate 2 (zero Ty.str)) 0 word) 1 (aP (c9 (Ty.int IntKind.u8) a 0 16))) e0) ≤ 900000) (ab.all (den tId) (fun (q2 : den tId) ↦ q2 = jH (List.set (List.set (List.replicate 2 (zero Ty.str)) 0 word) 1 (aP (c9 (Ty.int IntKind.u8) a 0 16)))) fun (q2 : den tId) ↦ ab.req (bc 0 16 (↑32 : Int)) (ab.req (bc 0 (↑32 : Int) (↑32 : Int)) (ab.ret (K.val (Ty.pair tId Ty.unit) (over (zero tId) (Int.toNat 0) (List.take (Int.toNat 16 - Int.toNat 0) (c9 (Ty.int IntKind.u8) q2 0 (↑32 : Int))), PUnit.unit))))))
theorem rZ (word : den Ty.str) (a : den tId) : ay oy vl 5000 [] nT (aG kK) (Env.of (aW nt (word, a, ()) 0) []) = o2 word a := by kernel_rfl
noncomputable abbrev mg : Fx := { fn := jo, ann := { frz := [(5, [4]), (6, [8])] }, share := true }
noncomputable abbrev nJ : be := { D := { T := bK, F := [(eH, eC)], R := [], ovl := [], G := gl }, inl := [] }
noncomputable abbrev tY : bO := .data mn
theorem tU (h_digest_Sum : aF prog gl eH eC) : XOk prog nJ := xok (aS (bl br aY) h_digest_Sum) (by kernel_rfl) a7 bp bt
noncomputable def nE (secret : den Ty.str) (id : den tId) (host : den af) : ab := ab.ite (bif decide (host < 0) then true else decide (16 ≤ host)) (ab.ret (K.val (Ty.pair Ty.str (Ty.pair af Ty.unit)) ({ data := { toList := [] } }, 1, PUnit.unit))) (ab.ite (decide (64 < aN secret)) (ab.ret (K.val (Ty.pair Ty.str (Ty.pair af Ty.unit)) ({ data := { toList := [] } }, 2, PUnit.unit))) (ab.req (bc 0 (↑32 : Int) (↑32 : Int)) (ab.req (List.length (List.set (List.set (List.set (List.set (List.replicate 4 (zero Ty.str)) 0 { data := { toList := [110, 111, 110, 99, 101] } }) 1 secret) 2 (aP (c9 (Ty.int IntKind.u8) id 0 (↑32 : Int)))) 3 (aP (List.set (List.replicate 1 (zero (Ty.int IntKind.u8))) 0 (IntKind.wrap IntKind.u8 host)))) ≤ 1000000 ∧ ByteArray.size (bh (List.set (List.set (List.set (List.set (List.replicate 4 (zero Ty.str)) 0 { data := { toList := [110, 111, 110, 99, 101] } }) 1 secret) 2 (aP (c9 (Ty.int IntKind.u8) id 0 (↑32 : Int)))) 3 (aP (List.set (List.replicate 1 (zero (Ty.int IntKind.u8))) 0 (IntKind.wrap IntKind.u8 host)))) e0) ≤ 900000) (ab.all (den tId) (fun (q3 : den tId) ↦ q3 = jH (List.set (List.set (List.set (List.set (List.replicate 4 (zero Ty.str)) 0 { data := { toList := [110, 111, 110, 99, 101] } }) 1 secret) 2 (aP (c9 (Ty.int IntKind.u8) id 0 (↑32 : Int)))) 3 (aP (List.set (List.replicate 1 (zero (Ty.int IntKind.u8))) 0 (IntKind.wrap IntKind.u8 host))))) fun (q3 : den tId) ↦ ab.req (bc 0 16 (↑32 : Int)) (ab.ret (K.val (Ty.pair Ty.str (Ty.pair af Ty.unit)) (aP (c9 (Ty.int IntKind.u8) (jH (List.set (List.set (List.set (List.set (List.replicate 4 (zero Ty.str)) 0 { data := { toList := [110, 111, 110, 99, 101] } }) 1 secret) 2 (aP (c9 (Ty.int IntKind.u8) id 0 (↑32 : Int)))) 3 (aP (List.set (List.replicate 1 (zero (Ty.int IntKind.u8))) 0 (IntKind.wrap IntKind.u8 host))))) 0 16), 0, PUnit.unit)))))))
theorem qD (secret : den Ty.str) (id : den tId) (host : den af) : ay nJ tY 5000 [] mg (aG jo) (Env.of (aW mw (secret, id, host, ()) 0) []) = nE secret id host := by kernel_rfl
end Go.Proofs.YtnakjijahkaoaaaDoor
namespace Go.Proofs.YtnakjijahkaoaaaDoor
open Go Go.RowKit
theorem gZ (xs : List Int) : (aP xs).size = xs.length := by
 show (xs.map _).toArray.size = _
 rw [List.size_toArray, List.length_map]
theorem wV (xs : List Int) (h : Nat) : (c9 (.int .u8) xs 0 (h : Int)).length ≤ h := by
 unfold c9 eB
 rw [List.length_drop, List.length_take]
 omega
theorem p7 {l : List ByteArray} {n : Nat} (h : ∀ x ∈ l, x.size ≤ n) (hn : l.length * n ≤ 900000) (hl : l.length ≤ 1000000) : l.length ≤ 1000000 ∧ ByteArray.size (bh l e0) ≤ 900000 :=
 ⟨hl, Nat.le_trans (Aa n l h) hn⟩
def BD : ByteArray := ⟨⟨[108, 101, 102, 116]⟩⟩
def Bt : ByteArray := ⟨⟨[114, 105, 103, 104, 116]⟩⟩
def Bk : ByteArray := ⟨⟨[110, 111, 110, 99, 101]⟩⟩
def uT (a : List Int) : ByteArray := aP (c9 (.int .u8) a 0 16)
def pn (word : ByteArray) (a : List Int) : List Int := over (zero tId) 0 (List.take 16 (c9 (.int .u8) (jH [word, uT a]) 0 32))
noncomputable abbrev eI : bo := ⟨nt, nL, fun x => (pn x.1 x.2.1, ()), fun x => ByteArray.size x.1 ≤ 1000, false⟩
theorem oq : aF prog gl ew eI :=
 cI (S := eI) (vL n8) (fx := nT) uc (by kernel_rfl) (fun h => by cases h) (T := fun x => o2 x.1 x.2.1) (fun x => rZ x.1 x.2.1) fun O w0 x _ hp => by
  obtain ⟨word, a, ⟨⟩⟩ := x
  have hp : word.size ≤ 1000 := hp
  have hk : (uT a).size ≤ 16 := by unfold uT; rw [gZ]; exact wV a 16
  refine ⟨⟨by decide, by decide, by decide⟩, p7 (l := [word, uT a]) (n := 1000) (fun x hx => ?_) (show 2 * 1000 ≤ 900000 by decide) (show 2 ≤ 1000000 by decide), bw ⟨⟨by decide, by decide, by decide⟩, ⟨by decide, by decide, by decide⟩, _, rfl, rfl⟩⟩
  rcases List.mem_cons.1 hx with rfl | hx
  ·exact hp
  ·rcases List.mem_cons.1 hx with rfl | hx
   ·omega
   ·cases hx
def u6 (secret : ByteArray) (id : List Int) (host : Int) : List ByteArray := [Bk, secret, aP (c9 (.int .u8) id 0 32), aP [IntKind.wrap .u8 host]]
def ax (secret : ByteArray) (id : List Int) (host : Int) : ByteArray × Int :=
 if host < 0 ∨ 16 ≤ host then (e0, 1) else if 64 < secret.size then (e0, 2) else (aP (c9 (.int .u8) (jH (u6 secret id host)) 0 16), 0)
noncomputable abbrev dI : bo := ⟨mw, mn, fun x => ((ax x.1 x.2.1 x.2.2.1).1, (ax x.1 x.2.1 x.2.2.1).2, ()), fun _ => True, true⟩
theorem nx : aF prog gl dJ dI :=
 cI (S := dI) (tU n8) (fx := mg) tf (by kernel_rfl) (fun _ _ => trivial) (T := fun x => nE x.1 x.2.1 x.2.2.1) (fun x => qD x.1 x.2.1 x.2.2.1) fun O w0 x _ _ => by
  obtain ⟨secret, id, host, ⟨⟩⟩ := x
  have key : ∀ host : Int, (decide (host < 0 ∨ 16 ≤ host)) = bif decide (host < 0) then true else decide (16 ≤ host) := fun host => by
   by_cases h1 : host < 0
   ·rw [decide_eq_true h1, decide_eq_true (.inl h1)]; rfl
   ·rw [decide_eq_false h1]
    rw [decide_eq_decide.2 (show (host < 0 ∨ 16 ≤ host) ↔ 16 ≤ host by omega)]; rfl
  refine ⟨fun h => ⟨_, rfl, ?_⟩, fun h => ⟨fun h2 => ⟨_, rfl, ?_⟩, fun h2 => ⟨⟨by decide, by decide, by decide⟩, ?_, bw ⟨⟨by decide, by decide, by decide⟩, _, rfl, ?_⟩⟩⟩⟩
  ·have h := of_decide_eq_true ((key host).trans h)
   show (e0, (1 : Int), ()) = ((ax secret id host).1, (ax secret id host).2, ())
   unfold ax
   rw [if_pos h]
  ·have h := of_decide_eq_false ((key host).trans h)
   have h2 : (64 : Int) < (secret.size : Int) := of_decide_eq_true h2
   show (e0, (2 : Int), ()) = ((ax secret id host).1, (ax secret id host).2, ())
   unfold ax
   rw [if_neg h, if_pos (by omega)]
  ·have h2 : ¬ (64 : Int) < (secret.size : Int) := of_decide_eq_false h2
   refine p7 (l := u6 secret id host) (n := 64) (fun x hx => ?_) (show 4 * 64 ≤ 900000 by decide) (show 4 ≤ 1000000 by decide)
   rcases List.mem_cons.1 hx with rfl | hx
   ·decide
   ·rcases List.mem_cons.1 hx with rfl | hx
    ·omega
    ·rcases List.mem_cons.1 hx with rfl | hx
     ·rw [gZ]
      exact Nat.le_trans (wV id 32) (by decide)
     ·rcases List.mem_cons.1 hx with rfl | hx
      ·rw [gZ]; exact show 1 ≤ 64 by decide
      ·cases hx
  ·have h := of_decide_eq_false ((key host).trans h)
   have h2 : ¬ (64 : Int) < (secret.size : Int) := of_decide_eq_false h2
   show (_, (0 : Int), ()) = ((ax secret id host).1, (ax secret id host).2, ())
   unfold ax
   rw [if_neg h, if_neg (by omega)]
   rfl
end Go.Proofs.YtnakjijahkaoaaaDoor
namespace Go.Proofs.YtnakjijahkaoaaaDoor
open Go Go.RowKit
noncomputable abbrev nl : Fx := { fn := kQ, ann := { } }
noncomputable abbrev ox : be := { D := { T := bK, F := [(ew, eI)], R := [], ovl := [], G := gl }, inl := [] }
noncomputable abbrev uu : bO := .data nr
theorem uU (h_proof_made : aF prog gl ew eI) : XOk prog ox := xok (aS (bl br aY) h_proof_made) (by kernel_rfl) a7 bp bt
noncomputable def n5 (a : den tId) : ab := ab.req (ByteArray.size { data := { toList := [108, 101, 102, 116] } } ≤ 1000) (ab.ret (K.val (Ty.pair tId Ty.unit) (pn { data := { toList := [108, 101, 102, 116] } } a, PUnit.unit)))
theorem ry (a : den tId) : ay ox uu 5000 [] nl (aG kQ) (Env.of (aW nq (a, ()) 0) []) = n5 a := by kernel_rfl
noncomputable abbrev me : Fx := { fn := ju, ann := { } }
noncomputable abbrev nk : be := { D := { T := bK, F := [(ew, eI)], R := [], ovl := [], G := gl }, inl := [] }
noncomputable abbrev tX : bO := .data l6
theorem tG (h_proof_made : aF prog gl ew eI) : XOk prog nk := xok (aS (bl br aY) h_proof_made) (by kernel_rfl) a7 bp bt
noncomputable def nR (a : den tId) : ab := ab.req (ByteArray.size { data := { toList := [114, 105, 103, 104, 116] } } ≤ 1000) (ab.ret (K.val (Ty.pair tId Ty.unit) (pn { data := { toList := [114, 105, 103, 104, 116] } } a, PUnit.unit)))
theorem qA (a : den tId) : ay nk tX 5000 [] me (aG ju) (Env.of (aW my (a, ()) 0) []) = nR a := by kernel_rfl
end Go.Proofs.YtnakjijahkaoaaaDoor
namespace Go.Proofs.YtnakjijahkaoaaaDoor
open Go Go.RowKit
def lW (a : List Int) : List Int := pn BD a
def sC (a : List Int) : List Int := pn Bt a
noncomputable abbrev ia : bo := ⟨nq, nr, fun x => (lW x.1, ()), fun _ => True, true⟩
noncomputable abbrev gD : bo := ⟨my, l6, fun x => (sC x.1, ()), fun _ => True, true⟩
theorem vU : aF prog gl g6 ia :=
 cI (S := ia) (uU oq) (fx := nl) tN (by kernel_rfl) (fun _ _ => trivial) (T := fun x => n5 x.1) (fun x => ry x.1) fun O w0 x _ _ => ⟨by decide, _, rfl, rfl⟩
theorem tP : aF prog gl gu gD :=
 cI (S := gD) (tG oq) (fx := me) s9 (by kernel_rfl) (fun _ _ => trivial) (T := fun x => nR x.1) (fun x => qA x.1) fun O w0 x _ _ => ⟨by decide, _, rfl, rfl⟩
def jY (f t : List Int) : Bool := bif eqb bH (cT t) (cT (lW f)) then true else eqb bH (cT f) (cT (sC t))
noncomputable abbrev gw : bo := ⟨mz, mc, fun x => (jY x.1 x.2.1, ()), fun _ => True, true⟩
end Go.Proofs.YtnakjijahkaoaaaDoor
namespace Go.Proofs.YtnakjijahkaoaaaDoor
open Go Go.RowKit
noncomputable abbrev mq : Fx := { fn := js, ann := { } }
noncomputable abbrev nI : be := { D := { T := bK, F := [(gt, gA), (g6, ia), (gu, gD)], R := [], ovl := [], G := gl }, inl := [] }
noncomputable abbrev t8 : bO := .data mc
theorem tL (h_proof_keyOf : aF prog gl gt gA) (h_proof_Left : aF prog gl g6 ia) (h_proof_Right : aF prog gl gu gD) : XOk prog nI := xok (aS (aS (aS (bl br aY) h_proof_Right) h_proof_Left) h_proof_keyOf) (by kernel_rfl) a7 bp bt
noncomputable def nM (a : den tId) (b : den tId) : ab := ab.req True (ab.req True (ab.req True (ab.req (ke [(eqb bH (cT b) (cT (lW a)), false)] True) (ab.req (ke [(eqb bH (cT b) (cT (lW a)), false)] True) (ab.req (ke [(eqb bH (cT b) (cT (lW a)), false)] True) (ab.ret (K.val (Ty.pair Ty.bool Ty.unit) (bif eqb bH (cT b) (cT (lW a)) then true else eqb bH (cT a) (cT (sC b)), PUnit.unit))))))))
theorem qp (a : den tId) (b : den tId) : ay nI t8 5000 [] mq (aG js) (Env.of (aW mz (a, b, ()) 0) []) = nM a b := by kernel_rfl
end Go.Proofs.YtnakjijahkaoaaaDoor
namespace Go.Proofs.YtnakjijahkaoaaaDoor
open Go Go.RowKit
theorem tI : aF prog gl gG gw :=
 cI (S := gw) (tL (bA ub) vU tP) (fx := mq) sx (by kernel_rfl) (fun _ _ => trivial) (T := fun x => nM x.1 x.2.1) (fun x => qp x.1 x.2.1) fun O w0 x _ _ =>
  ⟨trivial, trivial, trivial, fun _ => trivial, fun _ => trivial, fun _ => trivial, _, rfl, rfl⟩
theorem Ah (h : List Int) : ∀ n : Nat, (sG h n).length = 32 := fun n => by
 induction n with
 | zero => rfl
 | succ n ih => exact (List.length_set ..).trans ih
theorem A6 (l : List ByteArray) : (jH l).length = 32 := by
 unfold jH xx
 exact Ah _ _
theorem y8 (secret : ByteArray) (id : List Int) (host : Int) : (aP (c9 (.int .u8) (jH (u6 secret id host)) 0 16)).size = 16 := by
 rw [gZ]
 unfold c9 eB
 have e16 : Int.toNat 16 = 16 := rfl
 have e0 : Int.toNat 0 = 0 := rfl
 rw [e16, e0, List.length_drop, List.length_take, A6]
 rfl
end Go.Proofs.YtnakjijahkaoaaaDoor
namespace Go.Proofs.YtnakjijahkaoaaaDoor
open Go Go.RowKit
end Go.Proofs.YtnakjijahkaoaaaDoor
namespace Go.Proofs.YtnakjijahkaoaaaDoor
open Go Go.RowKit
end Go.Proofs.YtnakjijahkaoaaaDoor
namespace Go.Proofs.YtnakjijahkaoaaaDoor
open Go Go.RowKit
def cD (a : List Int) : ByteArray := uT a
def jg (l : List ByteArray) (s : ByteArray) : Bool := l.any fun x => decide (x = s)
theorem qv {l : List ByteArray} {s : ByteArray} : jg l s = true ↔ s ∈ l := by
 unfold jg
 rw [List.any_eq_true]
 exact ⟨fun ⟨x, hx, e⟩ => of_decide_eq_true e ▸ hx, fun h => ⟨s, h, decide_eq_true rfl⟩⟩
theorem vO {l : List ByteArray} {s : ByteArray} : jg l s = false ↔ s ∉ l := by
 rw [← qv]
 cases jg l s <;> simp
def stF (now : List ByteArray) (s : List ByteArray × List ByteArray) (x : Lk) : List ByteArray × List ByteArray :=
 if (jg now (cD x.1) && !jg s.1 (cD x.2.1)) = true then (s.1 ++ [cD x.2.1], s.2 ++ [cD x.2.1]) else s
theorem xk (now : List ByteArray) : ∀ (l : List Lk) (s : List ByteArray × List ByteArray), ∃ d : List ByteArray, l.foldl (stF now) s = (s.1 ++ d, s.2 ++ d) ∧
    (∀ x ∈ l, cD x.1 ∈ now → cD x.2.1 ∈ s.1 ++ d) ∧ (∀ t ∈ d, ∃ x ∈ l, cD x.1 ∈ now ∧ cD x.2.1 = t) ∧ (s.1.Nodup → (s.1 ++ d).Nodup)
  | [], s => ⟨[], by simp, (fun x hx => by cases hx), (fun t ht => by cases ht), fun h => by simpa using h⟩
  | x :: l, s => by
    rw [List.foldl_cons]
    obtain ⟨d, e, h1, h2, h3⟩ := xk now l (stF now s x)
    by_cases hc : (jg now (cD x.1) && !jg s.1 (cD x.2.1)) = true
    · have es : stF now s x = (s.1 ++ [cD x.2.1], s.2 ++ [cD x.2.1]) := if_pos hc
      rw [es] at e h1 h3 ⊢
      rw [Bool.and_eq_true, qv, Bool.not_eq_true', vO] at hc
      refine ⟨cD x.2.1 :: d, by rw [e, List.append_assoc, List.append_assoc]; rfl, fun y hy hn => ?_, fun t ht => ?_, fun hd => ?_⟩
      · rcases List.mem_cons.1 hy with rfl | hy
        · exact List.mem_append.2 (.inr List.mem_cons_self)
        · have := h1 y hy hn
          rwa [List.append_assoc] at this
      · rcases List.mem_cons.1 ht with rfl | ht
        · exact ⟨x, List.mem_cons_self, hc.1, rfl⟩
        · obtain ⟨y, hy, h⟩ := h2 t ht
          exact ⟨y, List.mem_cons_of_mem _ hy, h⟩
      · have := h3 (by
          rw [List.nodup_append]
          exact ⟨hd, by simp, fun a ha b hb => by rw [List.mem_singleton.1 hb]; exact fun e => hc.2 (e ▸ ha)⟩)
        rwa [List.append_assoc] at this
    · have es : stF now s x = s := if_neg hc
      rw [es] at e h1 h3 ⊢
      refine ⟨d, e, fun y hy hn => ?_, fun t ht => ?_, h3⟩
      · rcases List.mem_cons.1 hy with rfl | hy
        · rw [Bool.and_eq_true, qv, Bool.not_eq_true', vO] at hc
          exact List.mem_append.2 (.inl (Classical.byContradiction fun hn' => hc ⟨hn, hn'⟩))
        · exact h1 y hy hn
      · obtain ⟨y, hy, h⟩ := h2 t ht
        exact ⟨y, List.mem_cons_of_mem _ hy, h⟩
structure Ap (l : List Lk) (k : ByteArray) (n : Nat) (now out : List ByteArray) : Prop where
 nd : out.Nodup
 sub : ∀ t ∈ out, ∃ x ∈ l, cD x.2.1 = t
 fuel : now = [] ∨ l.length + 1 ≤ out.length + n
theorem Ap.next {l : List Lk} {k : ByteArray} {n : Nat} {now out : List ByteArray} (h : Ap l k (n + 1) now out) (hn : now ≠ []) : Ap l k n (l.foldl (stF now) (out, [])).2 (l.foldl (stF now) (out, [])).1 := by
 obtain ⟨d, e, h1, h2, h3⟩ := xk now l (out, [])
 rw [e]
 have hsub : ∀ t ∈ out ++ d, ∃ x ∈ l, cD x.2.1 = t := fun t ht => by
  rcases List.mem_append.1 ht with ht | ht
  ·exact h.sub t ht
  ·obtain ⟨x, hx, _, e⟩ := h2 t ht
   exact ⟨x, hx, e⟩
 refine ⟨h3 h.nd, hsub, ?_⟩
 rcases h.fuel with h | h
 ·exact absurd h hn
 ·show [] ++ d = [] ∨ l.length + 1 ≤ (out ++ d).length + n
  by_cases hd : d = []
  ·exact .inl hd
  ·have : 0 < d.length := List.length_pos_iff.2 hd
   rw [List.length_append]
   exact .inr (by omega)
end Go.Proofs.YtnakjijahkaoaaaDoor
namespace Go.Proofs.YtnakjijahkaoaaaDoor
open Go Go.RowKit
end Go.Proofs.YtnakjijahkaoaaaDoor
namespace Go.Proofs.YtnakjijahkaoaaaDoor
open Go Go.RowKit
inductive Rch (l : List Lk) : ByteArray → ByteArray → Prop where
 | one (x : Lk) (h : x ∈ l) : Rch l (cD x.1) (cD x.2.1)
 | step (x : Lk) (h : x ∈ l) {b : ByteArray} (r : Rch l (cD x.2.1) b) : Rch l (cD x.1) b
theorem Rch.trans {l : List Lk} {a b c : ByteArray} (h : Rch l a b) (k : Rch l b c) : Rch l a c := by
 induction h with
 | one y hy => exact .step y hy k
 | step y hy _ ih => exact .step y hy (ih k)
end Go.Proofs.YtnakjijahkaoaaaDoor
namespace Go.Proofs.YtnakjijahkaoaaaDoor
open Go Go.RowKit
end Go.Proofs.YtnakjijahkaoaaaDoor
namespace Go.Proofs.YtnakjijahkaoaaaDoor
open Go Go.RowKit
noncomputable abbrev mP : au := { T := bK, F := [], n := (jD).ntmps }
noncomputable abbrev rA : Ann := { }
theorem xX : cv prog mP := BM ((bl br aY))
theorem vW : dG mP = true := by kernel_rfl
noncomputable def rR (e : den al) : eS := eS.ite (decide (Prod.fst e = 1)) (eS.ret (K.val (Ty.pair Ty.bool Ty.unit) (decide (Prod.fst (Prod.snd (Prod.snd e)) = 0), PUnit.unit))) (eS.ite (decide (Prod.fst e = 2)) (eS.ret (K.val (Ty.pair Ty.bool Ty.unit) (bif bif eqb tId (Prod.fst (Prod.snd e)) (List.replicate 32 (zero (Ty.int IntKind.u8))) then decide (0 ≤ Prod.fst (Prod.snd (Prod.snd e))) else false then decide (Prod.fst (Prod.snd (Prod.snd e)) < 16) else false, PUnit.unit))) (eS.ret (K.val (Ty.pair Ty.bool Ty.unit) (false, PUnit.unit))))
theorem ua (e : den al) : gg mP rA qd jD 1000 (aG jD) (Env.of (aW pV (e, ()) 0) []) = rR e := by kernel_rfl
end Go.Proofs.YtnakjijahkaoaaaDoor
namespace Go.Proofs.YtnakjijahkaoaaaDoor
open Go Go.RowKit
def kS (e : den al) : Bool :=
 if e.1 = 1 then decide (e.2.2.1 = 0)
 else if e.1 = 2 then decide (e.2.1 = List.replicate 32 0) && decide (0 ≤ e.2.2.1) && decide (e.2.2.1 < 16)
 else false
noncomputable abbrev il : bo := ⟨pV, qd, fun x => (kS x.1, ()), fun _ => True, true⟩
theorem AZ (x y : den tId) : eqb tId x y = decide (x = y) := by
 have := gR (t := tId) rfl x y
 cases h : eqb tId x y
 ·have : ¬ x = y := fun e => by rw [this.2 e] at h; cases h
  simp [this]
 ·simp [this.1 h]
theorem jK : aF prog [] gc il :=
 BO xX vW vY (by kernel_rfl) (fun _ _ => trivial) (A := rA) (T := fun x => rR x.1) (fun x => ua x.1) fun O w0 x _ _ => by
  obtain ⟨e, ⟨⟩⟩ := x
  refine ⟨fun h => ⟨_, rfl, ?_⟩, fun h => ⟨fun h' => ⟨_, rfl, ?_⟩, fun h' => ⟨_, rfl, ?_⟩⟩⟩
  ·have h : e.1 = 1 := of_decide_eq_true h
   simp [kS, h]
  ·have h : ¬ e.1 = 1 := of_decide_eq_false h
   have h' : e.1 = 2 := of_decide_eq_true h'
   rw [AZ]
   simp [kS, h', zero, cond_eq_ite]
   rfl
  ·have h : ¬ e.1 = 1 := of_decide_eq_false h
   have h' : ¬ e.1 = 2 := of_decide_eq_false h'
   simp [kS, h, h']
end Go.Proofs.YtnakjijahkaoaaaDoor
namespace Go.Proofs.YtnakjijahkaoaaaDoor
open Go Go.RowKit
end Go.Proofs.YtnakjijahkaoaaaDoor
namespace Go.Proofs.YtnakjijahkaoaaaDoor
open Go Go.RowKit
end Go.Proofs.YtnakjijahkaoaaaDoor
namespace Go.Proofs.YtnakjijahkaoaaaDoor
open Go Go.RowKit
end Go.Proofs.YtnakjijahkaoaaaDoor
namespace Go.Proofs.YtnakjijahkaoaaaDoor
open Go Go.RowKit
abbrev Ent := den al
def gv (l : List Ent) : Bool := l.all kS
def fV (l : List Ent) : Bool := decide (1 ≤ l.length) && decide (l.length ≤ 4) && gv l
noncomputable abbrev iY : bo := ⟨oV, jW, fun x => (gv x.1, ()), fun x => x.1.length ≤ 1000000, false⟩
noncomputable abbrev gy : bo := ⟨mC, l7, fun x => (fV x.1, ()), fun x => x.1.length ≤ 1000000, false⟩
end Go.Proofs.YtnakjijahkaoaaaDoor
namespace Go.Proofs.YtnakjijahkaoaaaDoor
open Go Go.RowKit
noncomputable abbrev bX : Fx := { fn := bv, ann := { } }
noncomputable abbrev bL : Fx := { fn := bq, ann := { loops := [(2, { keep := [0, 1, 7, 8] })] } }
noncomputable abbrev sM : Fx := { fn := nD, ann := { } }
noncomputable abbrev fK : Fx := { fn := fk, ann := { } }
noncomputable abbrev iU : be := { D := { T := bK, F := [(gc, il)], R := [], ovl := [] }, inl := [(eM, bX), (fR, bL), (fa, sM)] }
noncomputable abbrev p8 : bO := .data jW
theorem lM (h_stack_Is : aF prog [] gc il) : XOk prog iU := xok (aS (bl br aY) h_stack_Is) (by kernel_rfl) a7 (jQ iP (by kernel_rfl) (jQ jG (by kernel_rfl) (jQ sT (by kernel_rfl) bp))) bt
noncomputable def pT (l : den (Ty.slc al)) : ab := ab.loop [{ fx := bX, todo := f8 bv 1 2, dst := some 7, s := ofS [] }, { fx := fK, todo := f8 fk 1 1, dst := some 4, s := ofS [] }] bL (lp bq 2) [(0, K.val (Ty.slc al) l), (1, K.fnc fa), (7, K.val af (lnx al l)), (8, K.val af 0)] []
theorem sA (l : den (Ty.slc al)) : ay iU p8 5000 [] fK (aG fk) (Env.of (aW oV (l, ()) 0) []) = pT l := by kernel_rfl
noncomputable def cX (v0 : den (Ty.slc al)) (v7 : den af) (v8 : den af) : List bm := [{ fx := bX, todo := f8 bv 1 2, dst := some 7, s := ofS [] }, { fx := fK, todo := f8 fk 1 1, dst := some 4, s := ofS [] }]
noncomputable def c6 (v0 : den (Ty.slc al)) (v7 : den af) (v8 : den af) : Env := Env.of [(0, K.val (Ty.slc al) v0), (1, K.fnc fa), (7, K.val af v7), (8, K.val af v8)] []
noncomputable def fG (v0 : den (Ty.slc al)) (v7 : den af) (v8 : den af) : ab := ab.ite (decide (v8 < v7)) (ab.req (inB v8 (lnx al v0)) (ab.req True (ab.ite (!kS (el al v0 v8)) (ab.ret (K.val (Ty.pair Ty.bool Ty.unit) (!decide (0 ≤ v8), PUnit.unit))) (ab.loop [{ fx := bX, todo := f8 bv 1 2, dst := some 7, s := ofS [] }, { fx := fK, todo := f8 fk 1 1, dst := some 4, s := ofS [] }] bL (lp bq 2) [(0, K.val (Ty.slc al) v0), (1, K.fnc fa), (7, K.val af v7), (8, K.val af (IntKind.wrap IntKind.i64 (v8 + 1)))] [])))) (ab.ret (K.val (Ty.pair Ty.bool Ty.unit) (!decide (0 ≤ -1), PUnit.unit)))
theorem cE (v0 : den (Ty.slc al)) (v7 : den af) (v8 : den af) : ay iU p8 5000 (cX v0 v7 v8) bL (lp bq 2) (c6 v0 v7 v8) = fG v0 v7 v8 := by kernel_rfl
noncomputable abbrev ma : Fx := { fn := jk, ann := { } }
noncomputable abbrev nB : be := { D := { T := bK, F := [(iX, iY)], R := [], ovl := [] }, inl := [] }
noncomputable abbrev tH : bO := .data l7
theorem tW (h_stack_all : aF prog [] iX iY) : XOk prog nB := xok (aS (bl br aY) h_stack_all) (by kernel_rfl) a7 bp bt
noncomputable def nN (l : den (Ty.slc al)) : ab := ab.req (ke [(bif decide (1 ≤ lnx al l) then decide (lnx al l ≤ 4) else false, true)] (List.length l ≤ 1000000)) (ab.ret (K.val (Ty.pair Ty.bool Ty.unit) (bif bif decide (1 ≤ lnx al l) then decide (lnx al l ≤ 4) else false then gv l else false, PUnit.unit)))
theorem qX (l : den (Ty.slc al)) : ay nB tH 5000 [] ma (aG jk) (Env.of (aW mC (l, ()) 0) []) = nN l := by kernel_rfl
end Go.Proofs.YtnakjijahkaoaaaDoor
namespace Go.Proofs.YtnakjijahkaoaaaDoor
open Go Go.RowKit
theorem Al {l : List Ent} {i : Nat} (hi : i < l.length) (h : gv (l.take i) = true) : gv (l.take (i + 1)) = kS l[i] := by
 unfold gv at h ⊢
 rw [List.take_succ_eq_append_getElem hi, List.all_append, h, List.all_cons, List.all_nil, Bool.and_true, Bool.true_and]
theorem AG {l : List Ent} {i : Nat} (hi : i < l.length) (h : kS l[i] = false) : gv l = false := by
 unfold gv
 rw [List.all_eq_false]
 exact ⟨l[i], List.getElem_mem hi, by rw [h]; simp⟩
def uZ (O : Nat → Prop) (w0 : World) (l : List Ent) (hl : l.length ≤ 1000000) :=
 PLift.up <| gP (σ := Unit) l.length (fun i _ => gv (l.take i) = true)
  (fun i _ => bG prog iU (Cx.base O w0) (eD prog O w0 jW fun y => y = (gv l, ())) (cX l (lnx al l) (i : Nat)) bL (lp bq 2) (c6 l (lnx al l) (i : Nat)))
  (fun i s hi hb ih => cx (lM jK) (cE l _ _) (by
   refine ⟨fun _ => ⟨Bv hi, trivial, fun h => ⟨_, rfl, ?_⟩, fun h => ?_⟩, fun h => ?_⟩
   ·rw [Aw hi] at h
    have h1 : kS l[i] = false := by simpa using h
    rw [AG hi h1, decide_eq_true (Int.natCast_nonneg i)]
    rfl
   ·rw [Aw hi] at h
    rw [kU hi (by omega)]
    refine ih () ?_
    rw [Al hi hb]
    simpa using h
   ·rw [xd] at h
    exact absurd hi (of_decide_eq_false h)))
  (fun s hb => cx (lM jK) (cE l _ _) (by
   refine ⟨fun h => ?_, fun _ => ⟨_, rfl, ?_⟩⟩
   ·rw [xd] at h
    exact absurd (of_decide_eq_true h) (Nat.lt_irrefl _)
   ·rw [List.take_length] at hb
    rw [hb]
    rfl))
theorem wq : aF prog [] iX iY :=
 cI (S := iY) (lM jK) (fx := fK) u9 (by kernel_rfl) (fun h => by cases h) (T := fun x => pT x.1) (fun x => sA x.1) fun O w0 x _ hp =>
  (uZ O w0 x.1 hp).down 0 () (Nat.zero_le _) rfl
theorem zu (l : List Ent) {a b : Bool} (ha : a = decide (1 ≤ l.length)) (hb : b = decide (l.length ≤ 4)) : (bif bif a then b else false then gv l else false) = fV l := by
 unfold fV
 rw [ha, hb]
 cases decide (1 ≤ l.length) <;> cases decide (l.length ≤ 4) <;> cases gv l <;> rfl
theorem wR (l : List Ent) : decide ((1 : Int) ≤ lnx al l) = decide (1 ≤ l.length) ∧ decide (lnx al l ≤ 4) = decide (l.length ≤ 4) ∧ decide ((0 : Int) < lnx al l) = decide (1 ≤ l.length) ∧ decide (lnx al l < 5) = decide (l.length ≤ 4) := by
 have h : lnx al l = (l.length : Int) := rfl
 rw [h]
 refine ⟨?_, ?_, ?_, ?_⟩ <;> (rw [Bool.eq_iff_iff, decide_eq_true_eq, decide_eq_true_eq]; omega)
theorem t7 : aF prog [] gF gy :=
 cI (S := gy) (tW wq) (fx := ma) sD (by kernel_rfl) (fun h => by cases h) (T := fun x => nN x.1) (fun x => qX x.1) fun O w0 x _ hp =>
  ⟨fun _ => hp, _, rfl, Prod.ext (zu x.1 (wR x.1).1 (wR x.1).2.1) rfl⟩
end Go.Proofs.YtnakjijahkaoaaaDoor
namespace Go.Proofs.YtnakjijahkaoaaaDoor
open Go Go.RowKit
noncomputable abbrev nu : Fx := { fn := j7, ann := { } }
noncomputable abbrev n7 : be := { D := { T := bK, F := [], R := [], ovl := [] }, inl := [] }
noncomputable abbrev vg : bO := .data nG
theorem vH : XOk prog n7 := xok ((bl br aY)) (by kernel_rfl) a7 bp bt
noncomputable def oO : ab := ab.ret (K.val (Ty.pair (Ty.mp af cp) Ty.unit) (cq (cq (cq (cq (cq (cq (cq (cq (cq (cq [] 1 (Prod.fst (zero (Ty.pair Ty.bool (Ty.pair Ty.bool (Ty.pair Ty.bool (Ty.pair Ty.bool (Ty.pair Ty.bool (Ty.pair Ty.bool Ty.unit))))))), Prod.fst (Prod.snd (zero (Ty.pair Ty.bool (Ty.pair Ty.bool (Ty.pair Ty.bool (Ty.pair Ty.bool (Ty.pair Ty.bool (Ty.pair Ty.bool Ty.unit)))))))), true, true, Prod.fst (Prod.snd (Prod.snd (Prod.snd (Prod.snd (zero (Ty.pair Ty.bool (Ty.pair Ty.bool (Ty.pair Ty.bool (Ty.pair Ty.bool (Ty.pair Ty.bool (Ty.pair Ty.bool Ty.unit))))))))))), true, Prod.snd (Prod.snd (Prod.snd (Prod.snd (Prod.snd (Prod.snd (zero (Ty.pair Ty.bool (Ty.pair Ty.bool (Ty.pair Ty.bool (Ty.pair Ty.bool (Ty.pair Ty.bool (Ty.pair Ty.bool Ty.unit)))))))))))))) 2 (true, true, Prod.fst (Prod.snd (Prod.snd (zero (Ty.pair Ty.bool (Ty.pair Ty.bool (Ty.pair Ty.bool (Ty.pair Ty.bool (Ty.pair Ty.bool (Ty.pair Ty.bool Ty.unit))))))))), true, Prod.snd (Prod.snd (Prod.snd (Prod.snd (zero (Ty.pair Ty.bool (Ty.pair Ty.bool (Ty.pair Ty.bool (Ty.pair Ty.bool (Ty.pair Ty.bool (Ty.pair Ty.bool Ty.unit)))))))))))) 3 (true, true, Prod.fst (Prod.snd (Prod.snd (zero (Ty.pair Ty.bool (Ty.pair Ty.bool (Ty.pair Ty.bool (Ty.pair Ty.bool (Ty.pair Ty.bool (Ty.pair Ty.bool Ty.unit))))))))), Prod.fst (Prod.snd (Prod.snd (Prod.snd (zero (Ty.pair Ty.bool (Ty.pair Ty.bool (Ty.pair Ty.bool (Ty.pair Ty.bool (Ty.pair Ty.bool (Ty.pair Ty.bool Ty.unit)))))))))), true, Prod.snd (Prod.snd (Prod.snd (Prod.snd (Prod.snd (zero (Ty.pair Ty.bool (Ty.pair Ty.bool (Ty.pair Ty.bool (Ty.pair Ty.bool (Ty.pair Ty.bool (Ty.pair Ty.bool Ty.unit))))))))))))) 4 (true, true, Prod.fst (Prod.snd (Prod.snd (zero (Ty.pair Ty.bool (Ty.pair Ty.bool (Ty.pair Ty.bool (Ty.pair Ty.bool (Ty.pair Ty.bool (Ty.pair Ty.bool Ty.unit))))))))), true, true, Prod.snd (Prod.snd (Prod.snd (Prod.snd (Prod.snd (zero (Ty.pair Ty.bool (Ty.pair Ty.bool (Ty.pair Ty.bool (Ty.pair Ty.bool (Ty.pair Ty.bool (Ty.pair Ty.bool Ty.unit))))))))))))) 5 (true, true, Prod.snd (Prod.snd (zero (Ty.pair Ty.bool (Ty.pair Ty.bool (Ty.pair Ty.bool (Ty.pair Ty.bool (Ty.pair Ty.bool (Ty.pair Ty.bool Ty.unit)))))))))) 6 (true, true, Prod.fst (Prod.snd (Prod.snd (zero (Ty.pair Ty.bool (Ty.pair Ty.bool (Ty.pair Ty.bool (Ty.pair Ty.bool (Ty.pair Ty.bool (Ty.pair Ty.bool Ty.unit))))))))), Prod.fst (Prod.snd (Prod.snd (Prod.snd (zero (Ty.pair Ty.bool (Ty.pair Ty.bool (Ty.pair Ty.bool (Ty.pair Ty.bool (Ty.pair Ty.bool (Ty.pair Ty.bool Ty.unit)))))))))), true, Prod.snd (Prod.snd (Prod.snd (Prod.snd (Prod.snd (zero (Ty.pair Ty.bool (Ty.pair Ty.bool (Ty.pair Ty.bool (Ty.pair Ty.bool (Ty.pair Ty.bool (Ty.pair Ty.bool Ty.unit))))))))))))) 7 (true, Prod.snd (zero (Ty.pair Ty.bool (Ty.pair Ty.bool (Ty.pair Ty.bool (Ty.pair Ty.bool (Ty.pair Ty.bool (Ty.pair Ty.bool Ty.unit))))))))) 8 (true, Prod.fst (Prod.snd (zero (Ty.pair Ty.bool (Ty.pair Ty.bool (Ty.pair Ty.bool (Ty.pair Ty.bool (Ty.pair Ty.bool (Ty.pair Ty.bool Ty.unit)))))))), Prod.fst (Prod.snd (Prod.snd (zero (Ty.pair Ty.bool (Ty.pair Ty.bool (Ty.pair Ty.bool (Ty.pair Ty.bool (Ty.pair Ty.bool (Ty.pair Ty.bool Ty.unit))))))))), true, Prod.snd (Prod.snd (Prod.snd (Prod.snd (zero (Ty.pair Ty.bool (Ty.pair Ty.bool (Ty.pair Ty.bool (Ty.pair Ty.bool (Ty.pair Ty.bool (Ty.pair Ty.bool Ty.unit)))))))))))) 9 (true, Prod.fst (Prod.snd (zero (Ty.pair Ty.bool (Ty.pair Ty.bool (Ty.pair Ty.bool (Ty.pair Ty.bool (Ty.pair Ty.bool (Ty.pair Ty.bool Ty.unit)))))))), Prod.fst (Prod.snd (Prod.snd (zero (Ty.pair Ty.bool (Ty.pair Ty.bool (Ty.pair Ty.bool (Ty.pair Ty.bool (Ty.pair Ty.bool (Ty.pair Ty.bool Ty.unit))))))))), true, Prod.snd (Prod.snd (Prod.snd (Prod.snd (zero (Ty.pair Ty.bool (Ty.pair Ty.bool (Ty.pair Ty.bool (Ty.pair Ty.bool (Ty.pair Ty.bool (Ty.pair Ty.bool Ty.unit)))))))))))) 10 (true, Prod.fst (Prod.snd (zero (Ty.pair Ty.bool (Ty.pair Ty.bool (Ty.pair Ty.bool (Ty.pair Ty.bool (Ty.pair Ty.bool (Ty.pair Ty.bool Ty.unit)))))))), Prod.fst (Prod.snd (Prod.snd (zero (Ty.pair Ty.bool (Ty.pair Ty.bool (Ty.pair Ty.bool (Ty.pair Ty.bool (Ty.pair Ty.bool (Ty.pair Ty.bool Ty.unit))))))))), true, Prod.snd (Prod.snd (Prod.snd (Prod.snd (zero (Ty.pair Ty.bool (Ty.pair Ty.bool (Ty.pair Ty.bool (Ty.pair Ty.bool (Ty.pair Ty.bool (Ty.pair Ty.bool Ty.unit))))))))))), PUnit.unit))
theorem ru : ay n7 vg 5000 [] nu (aG j7) (Env.of (aW np () 0) []) = oO := by kernel_rfl
noncomputable abbrev iC : Fx := { fn := fU, ann := { frz := [(1, [3])] } }
noncomputable abbrev jh : be := { D := { T := bK, F := [], R := [], ovl := [] }, inl := [] }
noncomputable abbrev oQ : bO := .data iu
theorem oS : XOk prog jh := xok ((bl br aY)) (by kernel_rfl) a7 bp bt
noncomputable def je (m : den aK) (nonce : den Ty.str) (good : den (Ty.ref af)) : ab := ab.ite (bif decide (Prod.fst (Prod.fst (Prod.snd (Prod.snd m))) = 2) then eqb Ty.str (Prod.fst (Prod.snd (Prod.snd (Prod.snd (Prod.snd (Prod.snd m)))))) nonce else false) (ab.ret (K.val (Ty.pair af Ty.unit) (good, PUnit.unit))) (ab.ret (K.val (Ty.pair af Ty.unit) (4, PUnit.unit)))
theorem mA (m : den aK) (nonce : den Ty.str) (good : den (Ty.ref af)) : ay jh oQ 5000 [] iC (aG fU) (Env.of (aW iA (m, nonce, good, ()) 0) []) = je m nonce good := by kernel_rfl
noncomputable abbrev jy : Fx := { fn := gI, ann := { frz := [(1, [2])] } }
noncomputable abbrev kJ : be := { D := { T := bK, F := [(gG, gw)], R := [], ovl := [], G := gl }, inl := [] }
noncomputable abbrev ra : bO := .data en
theorem qW (h_proof_Links : aF prog gl gG gw) : XOk prog kJ := xok (aS (bl br aY) h_proof_Links) (by kernel_rfl) a7 bp bt
noncomputable def kW (m : den aK) (nonce : den Ty.str) : ab := ab.ite (decide (Prod.fst (Prod.fst (Prod.snd (Prod.snd m))) = 2)) (ab.ret (K.val (Ty.pair af Ty.unit) (1, PUnit.unit))) (ab.req True (ab.ite (jY (Prod.fst (Prod.snd m)) (Prod.fst (Prod.snd (Prod.fst (Prod.snd (Prod.snd m)))))) (ab.ret (K.val (Ty.pair af Ty.unit) (2, PUnit.unit))) (ab.ret (K.val (Ty.pair af Ty.unit) (4, PUnit.unit)))))
theorem nW (m : den aK) (nonce : den Ty.str) : ay kJ ra 5000 [] jy (aG gI) (Env.of (aW gf (m, nonce, ()) 0) []) = kW m nonce := by kernel_rfl
end Go.Proofs.YtnakjijahkaoaaaDoor
namespace Go.Proofs.YtnakjijahkaoaaaDoor
open Go Go.RowKit
abbrev Mg := den aK
abbrev Fd := den cp
def fd (id target stack n nonce data : Bool) : Fd := (id, target, stack, n, nonce, data, ())
def cL : List (den af × den cp) := [(1, fd false false true true false true), (2, fd true true false true false false), (3, fd true true false false true false), (4, fd true true false true true false), (5, fd true true false false false false),
 (6, fd true true false false true false), (7, fd true false false false false false), (8, fd true false false true false false), (9, fd true false false true false false), (10, fd true false false true false false)]
noncomputable abbrev g7 : bo := ⟨np, nG, fun _ => (cL, ()), fun _ => True, true⟩
theorem uB : aF prog [] gV g7 :=
 cI (S := g7) vH (fx := nu) tK (by kernel_rfl) (fun _ _ => trivial) (T := fun _ => oO) (fun _ => ru) fun O w0 x _ _ => ⟨_, rfl, by show _ = _; kernel_rfl⟩
def pJ (m : Mg) : den al := m.2.2.1
def vG (m : Mg) : ByteArray := m.2.2.2.2.2.1
def jZ (m : Mg) : Int := (pJ m).1
def fQ (m : Mg) (nonce : ByteArray) (good : Int) : Int := bif (bif decide (jZ m = 2) then eqb Ty.str (vG m) nonce else false) then good else 4
noncomputable abbrev dR : bo := ⟨iA, iu, fun x => (fQ x.1 x.2.1 x.2.2.1, ()), fun _ => True, true⟩
theorem pc : aF prog [] dN dR :=
 cI (S := dR) oS (fx := iC) nU (by kernel_rfl) (fun _ _ => trivial) (T := fun x => je x.1 x.2.1 x.2.2.1) (fun x => mA x.1 x.2.1 x.2.2.1) fun O w0 x _ _ => by
  refine ⟨fun h => ⟨_, rfl, ?_⟩, fun h => ⟨_, rfl, ?_⟩⟩
  ·show (_, ()) = (fQ x.1 x.2.1 x.2.2.1, ())
   have h : (bif decide (jZ x.1 = 2) then eqb Ty.str (vG x.1) x.2.1 else false) = true := h
   unfold fQ
   rw [h]
   rfl
  ·show ((4 : Int), ()) = (fQ x.1 x.2.1 x.2.2.1, ())
   have h : (bif decide (jZ x.1 = 2) then eqb Ty.str (vG x.1) x.2.1 else false) = false := h
   unfold fQ
   rw [h]
   rfl
def d8 (m : Mg) : Int := bif decide (jZ m = 2) then 1 else bif jY m.2.1 (pJ m).2.1 then 2 else 4
noncomputable abbrev eQ : bo := ⟨gf, en, fun x => (d8 x.1, ()), fun _ => True, true⟩
theorem qR : aF prog gl eY eQ :=
 cI (S := eQ) (qW tI) (fx := jy) pM (by kernel_rfl) (fun _ _ => trivial) (T := fun x => kW x.1 x.2.1) (fun x => nW x.1 x.2.1) fun O w0 x _ _ => by
  refine ⟨fun h => ⟨_, rfl, ?_⟩, fun h => ⟨trivial, fun h2 => ⟨_, rfl, ?_⟩, fun h2 => ⟨_, rfl, ?_⟩⟩⟩
  ·show ((1 : Int), ()) = (d8 x.1, ())
   have h : decide (jZ x.1 = 2) = true := h
   unfold d8
   rw [h]
   rfl
  ·show ((2 : Int), ()) = (d8 x.1, ())
   have h : decide (jZ x.1 = 2) = false := h
   have h2 : jY x.1.2.1 (pJ x.1).2.1 = true := h2
   unfold d8
   rw [h, h2]
   rfl
  ·show ((4 : Int), ()) = (d8 x.1, ())
   have h : decide (jZ x.1 = 2) = false := h
   have h2 : jY x.1.2.1 (pJ x.1).2.1 = false := h2
   unfold d8
   rw [h, h2]
   rfl
def a6 : List (den af × den (.fn (.pair aK (.pair .str .unit)) en)) :=
 [(2, some fun x => (d8 x.1, ())), (4, some fun x => (fQ x.1 x.2.1 2, ())), (6, some fun x => (fQ x.1 x.2.1 3, ()))]
noncomputable abbrev gd : bo := ⟨le, lz, fun _ => (a6, ()), fun _ => True, true⟩
end Go.Proofs.YtnakjijahkaoaaaDoor
namespace Go.Proofs.YtnakjijahkaoaaaDoor
open Go Go.RowKit
noncomputable abbrev nP : Fx := { fn := kh, ann := { frz := [(1, [1]), (2, [3])] }, share := true }
noncomputable abbrev oz : be := { D := { T := bK, F := [(gV, g7), (gc, il), (gF, gy)], R := [], ovl := [] }, inl := [] }
noncomputable abbrev u5 : bO := .data jt
theorem vm (h_wire_kinds : aF prog [] gV g7) (h_stack_Is : aF prog [] gc il) (h_stack_Right : aF prog [] gF gy) : XOk prog oz := xok (aS (aS (aS (bl br aY) h_stack_Right) h_stack_Is) h_wire_kinds) (by kernel_rfl) a7 bp bt
noncomputable def o0 (m : den aK) : ab := ab.req True (ab.all (den (Ty.mp af cp)) (fun (q1 : den (Ty.mp af cp)) ↦ q1 = cL) fun (q1 : den (Ty.mp af cp)) ↦ ab.ite (!cr cL (Prod.fst m)) (ab.ret (K.val (Ty.pair Ty.bool Ty.unit) (false, PUnit.unit))) (ab.ite (bif !Prod.fst (bW cL (Prod.fst m)) then !eqb tId (Prod.fst (Prod.snd m)) (List.replicate 32 (zero (Ty.int IntKind.u8))) else false) (ab.ret (K.val (Ty.pair Ty.bool Ty.unit) (false, PUnit.unit))) (ab.ite (!eqO (Prod.fst (Prod.snd (bW cL (Prod.fst m)))) !eqb al (Prod.fst (Prod.snd (Prod.snd m))) (zero (Ty.pair af (Ty.pair tId (Ty.pair af Ty.unit))))) (ab.ret (K.val (Ty.pair Ty.bool Ty.unit) (false, PUnit.unit))) (ab.req (ke [(Prod.fst (Prod.snd (bW cL (Prod.fst m))), true)] True) (ab.ite (bif Prod.fst (Prod.snd (bW cL (Prod.fst m))) then !kS (Prod.fst (Prod.snd (Prod.snd m))) else false) (ab.ret (K.val (Ty.pair Ty.bool Ty.unit) (false, PUnit.unit))) (ab.ite (!eqO (Prod.fst (Prod.snd (Prod.snd (bW cL (Prod.fst m))))) (decide (0 < lnx al (Prod.fst (Prod.snd (Prod.snd (Prod.snd m))))))) (ab.ret (K.val (Ty.pair Ty.bool Ty.unit) (false, PUnit.unit))) (ab.req (ke [(Prod.fst (Prod.snd (Prod.snd (bW cL (Prod.fst m)))), true)] (List.length (Prod.fst (Prod.snd (Prod.snd (Prod.snd m)))) ≤ 1000000)) (ab.ite (bif Prod.fst (Prod.snd (Prod.snd (bW cL (Prod.fst m)))) then !fV (Prod.fst (Prod.snd (Prod.snd (Prod.snd m)))) else false) (ab.ret (K.val (Ty.pair Ty.bool Ty.unit) (false, PUnit.unit))) (ab.ite (bif !Prod.fst (Prod.snd (Prod.snd (Prod.snd (bW cL (Prod.fst m))))) then !decide (Prod.fst (Prod.snd (Prod.snd (Prod.snd (Prod.snd m)))) = 0) else false) (ab.ret (K.val (Ty.pair Ty.bool Ty.unit) (false, PUnit.unit))) (ab.ite (decide (Prod.fst (Prod.snd (Prod.snd (Prod.snd (Prod.snd m)))) < 0)) (ab.ret (K.val (Ty.pair Ty.bool Ty.unit) (false, PUnit.unit))) (ab.ite (decide (1099511627776 < Prod.fst (Prod.snd (Prod.snd (Prod.snd (Prod.snd m)))))) (ab.ret (K.val (Ty.pair Ty.bool Ty.unit) (false, PUnit.unit))) (ab.ite (bif Prod.fst (Prod.snd (Prod.snd (Prod.snd (Prod.snd (bW cL (Prod.fst m)))))) then !decide (aN (Prod.fst (Prod.snd (Prod.snd (Prod.snd (Prod.snd (Prod.snd m)))))) = 16) else false) (ab.ret (K.val (Ty.pair Ty.bool Ty.unit) (false, PUnit.unit))) (ab.ite (bif !Prod.fst (Prod.snd (Prod.snd (Prod.snd (Prod.snd (bW cL (Prod.fst m)))))) then !eqb Ty.str (Prod.fst (Prod.snd (Prod.snd (Prod.snd (Prod.snd (Prod.snd m)))))) { data := { toList := [] } } else false) (ab.ret (K.val (Ty.pair Ty.bool Ty.unit) (false, PUnit.unit))) (ab.ret (K.val (Ty.pair Ty.bool Ty.unit) (bif eqb Ty.str (Prod.fst (Prod.snd (Prod.snd (Prod.snd (Prod.snd (Prod.snd (Prod.snd m))))))) { data := { toList := [] } } then true else bif Prod.fst (Prod.snd (Prod.snd (Prod.snd (Prod.snd (Prod.snd (bW cL (Prod.fst m))))))) then decide (aN (Prod.fst (Prod.snd (Prod.snd (Prod.snd (Prod.snd (Prod.snd (Prod.snd m))))))) ≤ 64) else false, PUnit.unit))))))))))))))))
theorem sh (m : den aK) : ay oz u5 5000 [] nP (aG kh) (Env.of (aW nS (m, ()) 0) []) = o0 m := by kernel_rfl
noncomputable abbrev pQ : Fx := { fn := kw, ann := { frz := [(1, [1])] } }
noncomputable abbrev lv : Fx := { fn := iI, ann := { } }
noncomputable abbrev mb : be := { D := { T := bK, F := [(dN, dR), (eY, eQ)], R := [], ovl := [], G := gl }, inl := [(kF, pQ)] }
noncomputable abbrev sZ : bO := .data lz
theorem su (h_guard_judges_1_1 : aF prog gl dN dR) (h_guard_judges_2 : aF prog gl eY eQ) : XOk prog mb := xok (aS (aS (bl br aY) h_guard_judges_2) h_guard_judges_1_1) (by kernel_rfl) a7 (jQ pP (by kernel_rfl) bp) bt
noncomputable def l8 : ab := ab.req (∀ (y : den (Ty.pair aK (Ty.pair Ty.str Ty.unit))), True) (ab.req (∀ (y : den (Ty.pair aK (Ty.pair Ty.str Ty.unit))), True) (ab.ret (K.val (Ty.pair (Ty.mp af (Ty.fn (Ty.pair aK (Ty.pair Ty.str Ty.unit)) (Ty.pair af Ty.unit))) Ty.unit) (cq (cq (cq [] 2 (some fun (x : den gf) ↦ (d8 (Prod.fst x), PUnit.unit))) 4 (some fun (y : den (Ty.pair aK (Ty.pair Ty.str Ty.unit))) ↦ (fQ (Prod.fst y) (Prod.fst (Prod.snd y)) 2, PUnit.unit))) 6 (some fun (y : den (Ty.pair aK (Ty.pair Ty.str Ty.unit))) ↦ (fQ (Prod.fst y) (Prod.fst (Prod.snd y)) 3, PUnit.unit)), PUnit.unit))))
theorem pR : ay mb sZ 5000 [] lv (aG iI) (Env.of (aW le () 0) []) = l8 := by kernel_rfl
end Go.Proofs.YtnakjijahkaoaaaDoor
namespace Go.Proofs.YtnakjijahkaoaaaDoor
open Go Go.RowKit
def BK : den al := zero (Ty.pair af (Ty.pair tId (Ty.pair af Ty.unit)))
def mf (m : Mg) : Fd := bW cL m.1
def w0 (m : Mg) : Bool := !cr cL m.1
def w1 (m : Mg) : Bool := bif !(mf m).1 then !eqb tId m.2.1 (List.replicate 32 (zero (Ty.int IntKind.u8))) else false
def w2 (m : Mg) : Bool := !eqO (mf m).2.1 (!eqb al m.2.2.1 BK)
def w3 (m : Mg) : Bool := bif (mf m).2.1 then !kS m.2.2.1 else false
def w4 (m : Mg) : Bool := !eqO (mf m).2.2.1 (decide (0 < lnx al m.2.2.2.1))
def w5 (m : Mg) : Bool := bif (mf m).2.2.1 then !fV m.2.2.2.1 else false
def mN (m : Mg) : Int := m.2.2.2.2.1
def w6 (m : Mg) : Bool := bif !(mf m).2.2.2.1 then !decide (mN m = 0) else false
def w7 (m : Mg) : Bool := decide (mN m < 0)
def w8 (m : Mg) : Bool := decide (1099511627776 < mN m)
def w9 (m : Mg) : Bool := bif (mf m).2.2.2.2.1 then !decide (aN m.2.2.2.2.2.1 = 16) else false
def w10 (m : Mg) : Bool := bif !(mf m).2.2.2.2.1 then !eqb Ty.str m.2.2.2.2.2.1 ⟨⟨[]⟩⟩ else false
def w11 (m : Mg) : Bool := bif eqb Ty.str m.2.2.2.2.2.2.1 ⟨⟨[]⟩⟩ then true else bif (mf m).2.2.2.2.2.1 then decide (aN m.2.2.2.2.2.2.1 ≤ 64) else false
def aU (m : Mg) : Bool := bif w0 m then false else bif w1 m then false else bif w2 m then false else bif w3 m then false else bif w4 m then false else bif w5 m then false else
 bif w6 m then false else bif w7 m then false else bif w8 m then false else bif w9 m then false else bif w10 m then false else w11 m
noncomputable abbrev dr : bo := ⟨nS, jt, fun x => (aU x.1, ()), fun x => x.1.2.2.2.1.length ≤ 1000000, false⟩
theorem pd : aF prog [] eF dr :=
 cI (S := dr) (vm uB jK t7) (fx := nP) tM (by kernel_rfl) (fun h => by cases h) (T := fun x => o0 x.1) (fun x => sh x.1) fun O v0 x _ hp => by
  obtain ⟨m, ⟨⟩⟩ := x
  have hp : m.2.2.2.1.length ≤ 1000000 := hp
  have leaf : ∀ {b : Bool}, aU m = b → ∃ z, aL jt (K.val (Ty.pair Ty.bool Ty.unit) (b, ())) = some z ∧ z = dr.g (m, ()) := fun {b} e => ⟨_, rfl, by show (b, ()) = (aU m, ()); rw [e]⟩
  refine ⟨trivial, bw ⟨fun h => leaf ?_, fun h0 => ⟨fun h => leaf ?_, fun h1 => ⟨fun h => leaf ?_, fun h2 => ⟨fun _ => trivial, fun h => leaf ?_, fun h3 => ⟨fun h => leaf ?_, fun h4 => ⟨fun _ => hp, fun h => leaf ?_, fun h5 => ⟨fun h => leaf ?_, fun h6 => ⟨fun h => leaf ?_, fun h7 => ⟨fun h => leaf ?_, fun h8 => ⟨fun h => leaf ?_, fun h9 => ⟨fun h => leaf ?_, fun h10 => leaf ?_⟩⟩⟩⟩⟩⟩⟩⟩⟩⟩⟩⟩
  ·have h : w0 m = true := h
   simp only [aU, h, cond_true]
  all_goals have h0 : w0 m = false := h0
  ·have h : w1 m = true := h
   simp only [aU, h0, h, cond_true, cond_false]
  all_goals have h1 : w1 m = false := h1
  ·have h : w2 m = true := h
   simp only [aU, h0, h1, h, cond_true, cond_false]
  all_goals have h2 : w2 m = false := h2
  ·have h : w3 m = true := h
   simp only [aU, h0, h1, h2, h, cond_true, cond_false]
  all_goals have h3 : w3 m = false := h3
  ·have h : w4 m = true := h
   simp only [aU, h0, h1, h2, h3, h, cond_true, cond_false]
  all_goals have h4 : w4 m = false := h4
  ·have h : w5 m = true := h
   simp only [aU, h0, h1, h2, h3, h4, h, cond_true, cond_false]
  all_goals have h5 : w5 m = false := h5
  ·have h : w6 m = true := h
   simp only [aU, h0, h1, h2, h3, h4, h5, h, cond_true, cond_false]
  all_goals have h6 : w6 m = false := h6
  ·have h : w7 m = true := h
   simp only [aU, h0, h1, h2, h3, h4, h5, h6, h, cond_true, cond_false]
  all_goals have h7 : w7 m = false := h7
  ·have h : w8 m = true := h
   simp only [aU, h0, h1, h2, h3, h4, h5, h6, h7, h, cond_true, cond_false]
  all_goals have h8 : w8 m = false := h8
  ·have h : w9 m = true := h
   simp only [aU, h0, h1, h2, h3, h4, h5, h6, h7, h8, h, cond_true, cond_false]
  all_goals have h9 : w9 m = false := h9
  ·have h : w10 m = true := h
   simp only [aU, h0, h1, h2, h3, h4, h5, h6, h7, h8, h9, h, cond_true, cond_false]
  ·have h10 : w10 m = false := h10
   simp only [aU, h0, h1, h2, h3, h4, h5, h6, h7, h8, h9, h10, cond_false]
   rfl
theorem sK : aF prog gl f7 gd :=
 cI (S := gd) (su (bA pc) qR) (fx := lv) rq (by kernel_rfl) (fun _ _ => trivial) (T := fun _ => l8) (fun _ => pR) fun O v0 x _ _ => ⟨fun _ => trivial, fun _ => trivial, _, rfl, rfl⟩
def ut : Mg := zero aK
def ga (m : Mg) : Int := m.2.2.1.2.2.1
def iG (m : Mg) (nonce : ByteArray) : Int := (ui (a := .pair aK (.pair .str .unit)) (r := en) (bW a6 m.1) (m, nonce, ())).1
def Az (kind : Int) (id : List Int) (target : den al) (n : Int) (nonce : ByteArray) : Mg := (kind, id, target, [], n, nonce, e0, ())
def aZ (secret : ByteArray) (m : Mg) : Int × Mg × Int :=
 bif (bif !cr a6 m.1 then true else !aU m) then (0, ut, 1)
 else bif !decide ((ax secret m.2.1 (ga m)).2 = 0) then (0, ut, (ax secret m.2.1 (ga m)).2)
 else bif decide (iG m (ax secret m.2.1 (ga m)).1 = 1) then (iG m (ax secret m.2.1 (ga m)).1, Az 3 m.2.1 m.2.2.1 0 (ax secret m.2.1 (ga m)).1, 0)
 else (iG m (ax secret m.2.1 (ga m)).1, ut, 0)
noncomputable abbrev db : bo := ⟨md, iM, fun x => ((aZ x.1 x.2.1).1, (aZ x.1 x.2.1).2.1, (aZ x.1 x.2.1).2.2, ()), fun x => x.2.1.2.2.2.1.length ≤ 1000000, false⟩
def As : den cW := zero cW
def cf (m : Mg) (now : Int) : den cW × Int :=
 bif (bif bif bif (bif !decide (m.1 = (2 : Int)) then !decide (m.1 = (4 : Int)) else false) then true else !aU m then true else decide (now < 0) then true else decide (1099511627776 < now)) then (As, 1)
 else ((m.2.1, m.2.2.1, c5 (IntKind.wrap .i64 (now + mN m)) 1099511627776, ()), 0)
noncomputable abbrev fu : bo := ⟨kd, kO, fun x => ((cf x.1 x.2.1).1, (cf x.1 x.2.1).2, ()), fun x => x.1.2.2.2.1.length ≤ 1000000, false⟩
noncomputable abbrev iV : bo := ⟨oG, ow, fun _ => (true, ()), fun _ => True, true⟩
end Go.Proofs.YtnakjijahkaoaaaDoor
namespace Go.Proofs.YtnakjijahkaoaaaDoor
open Go Go.RowKit
noncomputable abbrev lV : Fx := { fn := jp, ann := { frz := [(1, [3])] }, share := true }
noncomputable abbrev ni : be := { D := { T := bK, F := [(f7, gd), (eF, dr), (dJ, dI)], R := [], ovl := [], G := gl }, inl := [] }
noncomputable abbrev ue : bO := .data iM
theorem tZ (h_guard_judges : aF prog gl f7 gd) (h_wire_Right : aF prog gl eF dr) (h_proof_Nonce : aF prog gl dJ dI) : XOk prog ni := xok (aS (aS (aS (bl br aY) h_proof_Nonce) h_wire_Right) h_guard_judges) (by kernel_rfl) a7 bp bt
noncomputable def nC (secret : den Ty.str) (m : den aK) : ab := ab.req True (ab.all (den (Ty.mp af (Ty.fn (Ty.pair aK (Ty.pair Ty.str Ty.unit)) (Ty.pair af Ty.unit)))) (fun (q2 : den (Ty.mp af (Ty.fn (Ty.pair aK (Ty.pair Ty.str Ty.unit)) (Ty.pair af Ty.unit)))) ↦ q2 = a6) fun (q2 : den (Ty.mp af (Ty.fn (Ty.pair aK (Ty.pair Ty.str Ty.unit)) (Ty.pair af Ty.unit)))) ↦ ab.req (ke [(!cr a6 (Prod.fst m), false)] (List.length (Prod.fst (Prod.snd (Prod.snd (Prod.snd m)))) ≤ 1000000)) (ab.ite (bif !cr a6 (Prod.fst m) then true else !aU m) (ab.ret (K.val (Ty.pair af (Ty.pair aK (Ty.pair af Ty.unit))) (0, zero (Ty.pair af (Ty.pair tId (Ty.pair al (Ty.pair (Ty.slc al) (Ty.pair af (Ty.pair Ty.str (Ty.pair Ty.str Ty.unit))))))), 1, PUnit.unit))) (ab.req True (ab.all (den (Ty.pair Ty.str (Ty.pair af Ty.unit))) (fun (q3 : den (Ty.pair Ty.str (Ty.pair af Ty.unit))) ↦ q3 = (Prod.fst (ax secret (Prod.fst (Prod.snd m)) (Prod.fst (Prod.snd (Prod.snd (Prod.fst (Prod.snd (Prod.snd m))))))), Prod.snd (ax secret (Prod.fst (Prod.snd m)) (Prod.fst (Prod.snd (Prod.snd (Prod.fst (Prod.snd (Prod.snd m))))))), PUnit.unit)) fun (q3 : den (Ty.pair Ty.str (Ty.pair af Ty.unit))) ↦ ab.ite (!decide (Prod.fst (Prod.snd q3) = 0)) (ab.ret (K.val (Ty.pair af (Ty.pair aK (Ty.pair af Ty.unit))) (0, zero (Ty.pair af (Ty.pair tId (Ty.pair al (Ty.pair (Ty.slc al) (Ty.pair af (Ty.pair Ty.str (Ty.pair Ty.str Ty.unit))))))), Prod.fst (Prod.snd q3), PUnit.unit))) (ab.req (BG (Ty.pair aK (Ty.pair Ty.str Ty.unit)) (Ty.pair af Ty.unit) (bW a6 (Prod.fst m))) (ab.all (den af) (fun (q4 : den af) ↦ q4 = Prod.fst (Bu (Ty.pair aK (Ty.pair Ty.str Ty.unit)) (Ty.pair af Ty.unit) (bW a6 (Prod.fst m)) (m, Prod.fst q3, PUnit.unit))) fun (q4 : den af) ↦ ab.ite (decide (q4 = 1)) (ab.ret (K.val (Ty.pair af (Ty.pair aK (Ty.pair af Ty.unit))) (q4, (3, Prod.fst (Prod.snd m), Prod.fst (Prod.snd (Prod.snd m)), Prod.fst (Prod.snd (Prod.snd (Prod.snd (zero (Ty.pair af (Ty.pair tId (Ty.pair al (Ty.pair (Ty.slc al) (Ty.pair af (Ty.pair Ty.str (Ty.pair Ty.str Ty.unit))))))))))), Prod.fst (Prod.snd (Prod.snd (Prod.snd (Prod.snd (zero (Ty.pair af (Ty.pair tId (Ty.pair al (Ty.pair (Ty.slc al) (Ty.pair af (Ty.pair Ty.str (Ty.pair Ty.str Ty.unit)))))))))))), Prod.fst q3, Prod.snd (Prod.snd (Prod.snd (Prod.snd (Prod.snd (Prod.snd (zero (Ty.pair af (Ty.pair tId (Ty.pair al (Ty.pair (Ty.slc al) (Ty.pair af (Ty.pair Ty.str (Ty.pair Ty.str Ty.unit)))))))))))))), 0, PUnit.unit))) (ab.ret (K.val (Ty.pair af (Ty.pair aK (Ty.pair af Ty.unit))) (q4, zero (Ty.pair af (Ty.pair tId (Ty.pair al (Ty.pair (Ty.slc al) (Ty.pair af (Ty.pair Ty.str (Ty.pair Ty.str Ty.unit))))))), 0, PUnit.unit)))))))))
theorem qL (secret : den Ty.str) (m : den aK) : ay ni ue 5000 [] lV (aG jp) (Env.of (aW md (secret, m, ()) 0) []) = nC secret m := by kernel_rfl
noncomputable abbrev ko : Fx := { fn := ie, ann := { frz := [(1, [2])] } }
noncomputable abbrev lB : be := { D := { T := bK, F := [(eF, dr)], R := [], ovl := [] }, inl := [] }
noncomputable abbrev rH : bO := .data kO
theorem rO (h_wire_Right : aF prog [] eF dr) : XOk prog lB := xok (aS (bl br aY) h_wire_Right) (by kernel_rfl) a7 bp bt
noncomputable def lg (m : den aK) (now : den af) : ab := ab.req (ke [(bif !decide (Prod.fst m = 2) then !decide (Prod.fst m = 4) else false, false)] (List.length (Prod.fst (Prod.snd (Prod.snd (Prod.snd m)))) ≤ 1000000)) (ab.ite (bif bif bif bif !decide (Prod.fst m = 2) then !decide (Prod.fst m = 4) else false then true else !aU m then true else decide (now < 0) then true else decide (1099511627776 < now)) (ab.ret (K.val (Ty.pair cW (Ty.pair af Ty.unit)) (zero (Ty.pair tId (Ty.pair al (Ty.pair af Ty.unit))), 1, PUnit.unit))) (ab.ret (K.val (Ty.pair cW (Ty.pair af Ty.unit)) ((Prod.fst (Prod.snd m), Prod.fst (Prod.snd (Prod.snd m)), c5 (IntKind.wrap IntKind.i64 (now + Prod.fst (Prod.snd (Prod.snd (Prod.snd (Prod.snd m)))))) 1099511627776, Prod.snd (Prod.snd (Prod.snd (zero (Ty.pair tId (Ty.pair al (Ty.pair af Ty.unit))))))), 0, PUnit.unit))))
theorem o9 (m : den aK) (now : den af) : ay lB rH 5000 [] ko (aG ie) (Env.of (aW kd (m, now, ()) 0) []) = lg m now := by kernel_rfl
end Go.Proofs.YtnakjijahkaoaaaDoor
namespace Go.Proofs.YtnakjijahkaoaaaDoor
open Go Go.RowKit
theorem z6 (k : Int) : (k = 2 ∧ cr a6 k = true ∧ bW a6 k = some (fun x => (d8 x.1, ()))) ∨ (k = 4 ∧ cr a6 k = true ∧ bW a6 k = some (fun x => (fQ x.1 x.2.1 2, ()))) ∨
    (k = 6 ∧ cr a6 k = true ∧ bW a6 k = some (fun x => (fQ x.1 x.2.1 3, ()))) ∨ (k ≠ 2 ∧ k ≠ 4 ∧ k ≠ 6 ∧ cr a6 k = false) := by
  by_cases h2 : k = 2
  · subst h2; exact .inl ⟨rfl, rfl, rfl⟩
  · by_cases h4 : k = 4
    · subst h4; exact .inr (.inl ⟨rfl, rfl, rfl⟩)
    · by_cases h6 : k = 6
      · subst h6; exact .inr (.inr (.inl ⟨rfl, rfl, rfl⟩))
      · refine .inr (.inr (.inr ⟨h2, h4, h6, ?_⟩))
        have e : ∀ j : Int, k ≠ j → eqb af k j = false := fun j h => decide_eq_false h
        unfold cr jf a6
        rw [List.find?_cons_of_neg (by rw [e _ h2]; decide), List.find?_cons_of_neg (by rw [e _ h4]; decide), List.find?_cons_of_neg (by rw [e _ h6]; decide)]
        rfl
theorem BB {k : Int} (h : cr a6 k = true) : ∃ g, bW a6 k = some g := by
 rcases z6 k with ⟨_, _, e⟩ | ⟨_, _, e⟩ | ⟨_, _, e⟩ | ⟨_, _, _, e⟩
 ·exact ⟨_, e⟩
 ·exact ⟨_, e⟩
 ·exact ⟨_, e⟩
 ·rw [h] at e; cases e
theorem nH : aF prog gl dH db :=
 cI (S := db) (tZ sK (bA pd) nx) (fx := lV) sP (by kernel_rfl) (fun h => by cases h) (T := fun x => nC x.1 x.2.1) (fun x => qL x.1 x.2.1) fun O v0 x _ hp => by
  obtain ⟨secret, m, ⟨⟩⟩ := x
  have hp : m.2.2.2.1.length ≤ 1000000 := hp
  have leaf : ∀ {a : Int} {b : Mg} {c : Int}, aZ secret m = (a, b, c) → ∃ z, aL iM (K.val (Ty.pair af (Ty.pair aK (Ty.pair af Ty.unit))) (a, b, c, ())) = some z ∧ z = db.g (secret, m, ()) := fun {a b c} e =>
   ⟨_, rfl, by show (a, b, c, ()) = ((aZ secret m).1, (aZ secret m).2.1, (aZ secret m).2.2, ()); rw [e]⟩
  refine ⟨trivial, bw ⟨fun _ => hp, fun h => leaf ?_, fun h0 => ⟨trivial, bw ⟨fun h => leaf ?_, fun h1 => ⟨?_, bw ⟨fun h => leaf ?_, fun h => leaf ?_⟩⟩⟩⟩⟩⟩
  ·have h : (bif !cr a6 m.1 then true else !aU m) = true := h
   simp only [aZ, h, cond_true]
   rfl
  all_goals have h0 : (bif !cr a6 m.1 then true else !aU m) = false := h0
  ·have h : (!decide ((ax secret m.2.1 (ga m)).2 = 0)) = true := h
   simp only [aZ, h0, h, cond_true, cond_false]
   rfl
  all_goals have h1 : (!decide ((ax secret m.2.1 (ga m)).2 = 0)) = false := h1
  ·refine BB (k := m.1) ?_
   cases e : cr a6 m.1 with
   | true => rfl
   | false => rw [e] at h0; cases h0
  ·have h : decide (iG m (ax secret m.2.1 (ga m)).1 = 1) = true := h
   simp only [aZ, h0, h1, h, cond_true, cond_false]
   rfl
  ·have h : decide (iG m (ax secret m.2.1 (ga m)).1 = 1) = false := h
   simp only [aZ, h0, h1, h, cond_false]
   rfl
theorem r8 : aF prog [] fE fu :=
 cI (S := fu) (rO pd) (fx := ko) qo (by kernel_rfl) (fun h => by cases h) (T := fun x => lg x.1 x.2.1) (fun x => o9 x.1 x.2.1) fun O v0 x _ hp => by
  obtain ⟨m, now, ⟨⟩⟩ := x
  have hp : m.2.2.2.1.length ≤ 1000000 := hp
  refine ⟨fun _ => hp, fun h => ⟨_, rfl, ?_⟩, fun h => ⟨_, rfl, ?_⟩⟩
  ·have h : (bif bif bif (bif !decide (m.1 = (2 : Int)) then !decide (m.1 = (4 : Int)) else false) then true else !aU m then true else decide ((now : Int) < 0) then true else decide ((1099511627776 : Int) < now)) = true := h
   show (As, (1 : Int), ()) = ((cf m now).1, (cf m now).2, ())
   simp only [cf, h, cond_true]
  ·have h : (bif bif bif (bif !decide (m.1 = (2 : Int)) then !decide (m.1 = (4 : Int)) else false) then true else !aU m then true else decide ((now : Int) < 0) then true else decide ((1099511627776 : Int) < now)) = false := h
   show (_, (0 : Int), ()) = ((cf m now).1, (cf m now).2, ())
   simp only [cf, h, cond_false]
   rfl
end Go.Proofs.YtnakjijahkaoaaaDoor
namespace Go.Proofs.YtnakjijahkaoaaaDoor
open Go Go.RowKit
noncomputable abbrev ol : Fx := { fn := lN, ann := { frz := [(2, [2])] }, share := true }
noncomputable abbrev p4 : be := { D := { T := bK, F := [(dH, db)], R := [], ovl := [], G := gl }, inl := [] }
noncomputable abbrev wk : bO := .data ow
theorem wr (h_guard_Judge : aF prog gl dH db) : XOk prog p4 := xok (aS (bl br aY) h_guard_Judge) (by kernel_rfl) a7 bp bt
noncomputable def p5 : ab := ab.req (List.length (zero (Ty.slc al)) ≤ 1000000) (ab.all (den (Ty.pair af (Ty.pair aK (Ty.pair af Ty.unit)))) (fun (q0 : den (Ty.pair af (Ty.pair aK (Ty.pair af Ty.unit)))) ↦ q0 = (Prod.fst (aZ { data := { toList := [115] } } (2, zero tId, (2, zero tId, 3, zero Ty.unit), zero (Ty.slc al), 5, zero (Ty.pair Ty.str (Ty.pair Ty.str Ty.unit)))), Prod.fst (Prod.snd (aZ { data := { toList := [115] } } (2, zero tId, (2, zero tId, 3, zero Ty.unit), zero (Ty.slc al), 5, zero (Ty.pair Ty.str (Ty.pair Ty.str Ty.unit))))), Prod.snd (Prod.snd (aZ { data := { toList := [115] } } (2, zero tId, (2, zero tId, 3, zero Ty.unit), zero (Ty.slc al), 5, zero (Ty.pair Ty.str (Ty.pair Ty.str Ty.unit))))), PUnit.unit)) fun (q0 : den (Ty.pair af (Ty.pair aK (Ty.pair af Ty.unit)))) ↦ ab.ret (K.val (Ty.pair Ty.bool Ty.unit) (bif bif bif decide (Prod.fst (Prod.snd (Prod.snd q0)) = 0) then decide (Prod.fst q0 = 1) else false then decide (Prod.fst (Prod.fst (Prod.snd q0)) = 3) else false then decide (aN (Prod.fst (Prod.snd (Prod.snd (Prod.snd (Prod.snd (Prod.snd (Prod.fst (Prod.snd q0)))))))) = 16) else false, PUnit.unit)))
theorem sw : ay p4 wk 5000 [] ol (aG lN) (Env.of (aW oG () 0) []) = p5 := by kernel_rfl
noncomputable abbrev iB : Fx := { fn := fL, ann := { frz := [(1, [8]), (6, [17]), (8, [21])] }, share := true }
noncomputable abbrev i7 : be := { D := { T := bK, F := [(dH, db), (fE, fu), (iS, iV), (dJ, dI)], R := [], ovl := [], G := gl }, inl := [] }
noncomputable abbrev oK : bO := .data nY
theorem oa (h_guard_Judge : aF prog gl dH db) (h_guard_Trigger : aF prog gl fE fu) (h_l15_alive : aF prog gl iS iV) (h_proof_Nonce : aF prog gl dJ dI) : XOk prog i7 := xok (aS (aS (aS (aS (bl br aY) h_proof_Nonce) h_l15_alive) h_guard_Trigger) h_guard_Judge) (by kernel_rfl) a7 bp bt
noncomputable def dO (a : den Ty.str) (b : den Ty.str) (id : den tId) (host : den af) (life : den af) (now : den af) : ab := ab.req (bc 0 (c5 (aN a) 64) (aN a)) (ab.req (bc 0 (c5 (aN b) 64) (aN b)) (ab.req (nz 16) (ab.req (nz 16) (ab.req (nz 1000) (ab.req (nz 1000) (ab.req (nz 1000) (ab.req (nz 1000) (ab.req True (ab.all (den (Ty.pair Ty.str (Ty.pair af Ty.unit))) (fun (q6 : den (Ty.pair Ty.str (Ty.pair af Ty.unit))) ↦ q6 = (Prod.fst (ax (ce a 0 (c5 (aN a) 64)) id (Int.tmod (IntKind.wrap IntKind.i64 (Int.tmod host 16 + 16)) 16)), Prod.snd (ax (ce a 0 (c5 (aN a) 64)) id (Int.tmod (IntKind.wrap IntKind.i64 (Int.tmod host 16 + 16)) 16)), PUnit.unit)) fun (q6 : den (Ty.pair Ty.str (Ty.pair af Ty.unit))) ↦ ab.req True (ab.all (den (Ty.pair Ty.str (Ty.pair af Ty.unit))) (fun (q7 : den (Ty.pair Ty.str (Ty.pair af Ty.unit))) ↦ q7 = (Prod.fst (ax (ce b 0 (c5 (aN b) 64)) id (Int.tmod (IntKind.wrap IntKind.i64 (Int.tmod host 16 + 16)) 16)), Prod.snd (ax (ce b 0 (c5 (aN b) 64)) id (Int.tmod (IntKind.wrap IntKind.i64 (Int.tmod host 16 + 16)) 16)), PUnit.unit)) fun (q7 : den (Ty.pair Ty.str (Ty.pair af Ty.unit))) ↦ ab.req (List.length (zero (Ty.slc al)) ≤ 1000000) (ab.all (den (Ty.pair af (Ty.pair aK (Ty.pair af Ty.unit)))) (fun (q8 : den (Ty.pair af (Ty.pair aK (Ty.pair af Ty.unit)))) ↦ q8 = (Prod.fst (aZ (ce b 0 (c5 (aN b) 64)) (4, id, (2, zero tId, Int.tmod (IntKind.wrap IntKind.i64 (Int.tmod host 16 + 16)) 16, zero Ty.unit), zero (Ty.slc al), Int.tmod (IntKind.wrap IntKind.i64 (Int.tmod life 1000 + 1000)) 1000, Prod.fst q6, zero (Ty.pair Ty.str Ty.unit))), Prod.fst (Prod.snd (aZ (ce b 0 (c5 (aN b) 64)) (4, id, (2, zero tId, Int.tmod (IntKind.wrap IntKind.i64 (Int.tmod host 16 + 16)) 16, zero Ty.unit), zero (Ty.slc al), Int.tmod (IntKind.wrap IntKind.i64 (Int.tmod life 1000 + 1000)) 1000, Prod.fst q6, zero (Ty.pair Ty.str Ty.unit)))), Prod.snd (Prod.snd (aZ (ce b 0 (c5 (aN b) 64)) (4, id, (2, zero tId, Int.tmod (IntKind.wrap IntKind.i64 (Int.tmod host 16 + 16)) 16, zero Ty.unit), zero (Ty.slc al), Int.tmod (IntKind.wrap IntKind.i64 (Int.tmod life 1000 + 1000)) 1000, Prod.fst q6, zero (Ty.pair Ty.str Ty.unit)))), PUnit.unit)) fun (q8 : den (Ty.pair af (Ty.pair aK (Ty.pair af Ty.unit)))) ↦ ab.req (List.length (zero (Ty.slc al)) ≤ 1000000) (ab.all (den (Ty.pair cW (Ty.pair af Ty.unit))) (fun (q9 : den (Ty.pair cW (Ty.pair af Ty.unit))) ↦ q9 = (Prod.fst (cf (4, id, (2, zero tId, Int.tmod (IntKind.wrap IntKind.i64 (Int.tmod host 16 + 16)) 16, zero Ty.unit), zero (Ty.slc al), Int.tmod (IntKind.wrap IntKind.i64 (Int.tmod life 1000 + 1000)) 1000, Prod.fst q6, zero (Ty.pair Ty.str Ty.unit)) (Int.tmod (IntKind.wrap IntKind.i64 (Int.tmod now 1000 + 1000)) 1000)), Prod.snd (cf (4, id, (2, zero tId, Int.tmod (IntKind.wrap IntKind.i64 (Int.tmod host 16 + 16)) 16, zero Ty.unit), zero (Ty.slc al), Int.tmod (IntKind.wrap IntKind.i64 (Int.tmod life 1000 + 1000)) 1000, Prod.fst q6, zero (Ty.pair Ty.str Ty.unit)) (Int.tmod (IntKind.wrap IntKind.i64 (Int.tmod now 1000 + 1000)) 1000)), PUnit.unit)) fun (q9 : den (Ty.pair cW (Ty.pair af Ty.unit))) ↦ ab.req True (ab.all (den Ty.bool) (fun (q10 : den Ty.bool) ↦ q10 = true) fun (q10 : den Ty.bool) ↦ ab.ret (K.val (Ty.pair Ty.bool Ty.unit) (bif bif bif bif bif bif bif bif q10 then decide (Prod.fst (Prod.snd q6) = 0) else false then decide (Prod.fst (Prod.snd q7) = 0) else false then decide (Prod.fst (Prod.snd (Prod.snd q8)) = 0) else false then eqO (decide (Prod.fst q8 = 2)) (eqb Ty.str (Prod.fst q6) (Prod.fst q7)) else false then decide (Prod.fst (Prod.snd q9) = 0) else false then decide (Prod.fst (Prod.snd (Prod.snd (Prod.fst q9))) = IntKind.wrap IntKind.i64 (Int.tmod (IntKind.wrap IntKind.i64 (Int.tmod now 1000 + 1000)) 1000 + Int.tmod (IntKind.wrap IntKind.i64 (Int.tmod life 1000 + 1000)) 1000)) else false then eqb tId (Prod.fst (Prod.fst q9)) id else false then eqb al (Prod.fst (Prod.snd (Prod.fst q9))) (2, zero tId, Int.tmod (IntKind.wrap IntKind.i64 (Int.tmod host 16 + 16)) 16, zero Ty.unit) else false, PUnit.unit)))))))))))))))
theorem l9 (a : den Ty.str) (b : den Ty.str) (id : den tId) (host : den af) (life : den af) (now : den af) : ay i7 oK 5000 [] iB (aG fL) (Env.of (aW cn (a, b, id, host, life, now, ()) 0) []) = dO a b id host life now := by kernel_rfl
end Go.Proofs.YtnakjijahkaoaaaDoor
