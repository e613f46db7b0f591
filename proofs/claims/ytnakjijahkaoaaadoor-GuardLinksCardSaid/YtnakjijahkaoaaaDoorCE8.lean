/- Part 8 of 9 of what this claim's proof stands on: a theory of programs on data, and the contracts of the functions that the law reaches. It holds no condition of its own. -/
import Derived.Test.YtnakjijahkaoaaaDoorCE7
namespace Go.Proofs.YtnakjijahkaoaaaDoor
open Go Go.RowKit
theorem ym (xs : List (List UInt8)) : Lib.join xs [] = xs.flatten := by
 cases xs with
 | nil => rfl
 | cons x r =>
  rw [Lib.join_cons]
  unfold Lib.joinTail
  have : (fun y : List UInt8 => [] ++ y) = id := by funext y; rfl
  rw [this, List.map_id, List.flatten_cons]
theorem xz (xs : List ByteArray) : bj xs e0 = ⟨((xs.map (·.data.toList)).flatten).toArray⟩ := by
 unfold bj
 have : e0.data.toList = [] := rfl
 rw [this, ym]
theorem zA (n : Nat) : ∀ xs : List ByteArray, (∀ x ∈ xs, x.size ≤ n) → (bj xs e0).size ≤ xs.length * n := by
 intro xs h
 rw [xz, nW]
 induction xs with
 | nil => simp
 | cons x r ih =>
  rw [List.map_cons, List.flatten_cons, List.length_append, List.length_cons, Nat.add_mul, Nat.one_mul]
  have h1 := ih fun y hy => h y (List.mem_cons_of_mem _ hy)
  have h2 := h x List.mem_cons_self
  have h3 : x.data.toList.length = x.size := rfl
  omega
end Go.Proofs.YtnakjijahkaoaaaDoor
namespace Go.Proofs.YtnakjijahkaoaaaDoor
open Go Go.RowKit
noncomputable abbrev nF : Fx := { fn := kA, ann := { frz := [(1, [3]), (3, [5])] }, share := true }
noncomputable abbrev ot : bf := { D := { T := bN, F := [(eC, er)], R := [], ovl := [], G := gl }, inl := [] }
noncomputable abbrev uZ : bY := .data nw
theorem uX (h_digest_Sum : aJ prog gl eC er) : XOk prog ot := xok (aS (bo bu a8) h_digest_Sum) (by kernel_rfl) bg bA bw
noncomputable def oz (word : den Ty.str) (a : den tId) : ab := ab.req (ba 0 16 (↑32 : Int)) (ab.req (List.length (List.set (List.set (List.replicate 2 (zero Ty.str)) 0 word) 1 (aO (c7 (Ty.int IntKind.u8) a 0 16))) ≤ 1000000 ∧ ByteArray.size (bj (List.set (List.set (List.replicate 2 (zero Ty.str)) 0 word) 1 (aO (c7 (Ty.int IntKind.u8) a 0 16))) e0) ≤ 900000) (ab.all (den tId) (fun (q2 : den tId) ↦ q2 = jA (List.set (List.set (List.replicate 2 (zero Ty.str)) 0 word) 1 (aO (c7 (Ty.int IntKind.u8) a 0 16)))) fun (q2 : den tId) ↦ ab.req (ba 0 16 (↑32 : Int)) (ab.req (ba 0 (↑32 : Int) (↑32 : Int)) (ab.ret (K.val (Ty.pair tId Ty.unit) (over (zero tId) (Int.toNat 0) (List.take (Int.toNat 16 - Int.toNat 0) (c7 (Ty.int IntKind.u8) q2 0 (↑32 : Int))), PUnit.unit))))))
theorem sa (word : den Ty.str) (a : den tId) : ax ot uZ 5000 [] nF (aI kA) (Env.of (aX nH (word, a, ()) 0) []) = oz word a := by kernel_rfl
noncomputable abbrev lW : Fx := { fn := jc, ann := { frz := [(5, [4]), (6, [8])] }, share := true }
noncomputable abbrev na : bf := { D := { T := bN, F := [(eC, er)], R := [], ovl := [], G := gl }, inl := [] }
noncomputable abbrev tQ : bY := .data lY
theorem tH (h_digest_Sum : aJ prog gl eC er) : XOk prog na := xok (aS (bo bu a8) h_digest_Sum) (by kernel_rfl) bg bA bw
noncomputable def nJ (secret : den Ty.str) (id : den tId) (host : den af) : ab := ab.ite (bif decide (host < 0) then true else decide (16 ≤ host)) (ab.ret (K.val (Ty.pair Ty.str (Ty.pair af Ty.unit)) ({ data := { toList := [] } }, 1, PUnit.unit))) (ab.ite (decide (64 < aP secret)) (ab.ret (K.val (Ty.pair Ty.str (Ty.pair af Ty.unit)) ({ data := { toList := [] } }, 2, PUnit.unit))) (ab.req (ba 0 (↑32 : Int) (↑32 : Int)) (ab.req (List.length (List.set (List.set (List.set (List.set (List.replicate 4 (zero Ty.str)) 0 { data := { toList := [110, 111, 110, 99, 101] } }) 1 secret) 2 (aO (c7 (Ty.int IntKind.u8) id 0 (↑32 : Int)))) 3 (aO (List.set (List.replicate 1 (zero (Ty.int IntKind.u8))) 0 (IntKind.wrap IntKind.u8 host)))) ≤ 1000000 ∧ ByteArray.size (bj (List.set (List.set (List.set (List.set (List.replicate 4 (zero Ty.str)) 0 { data := { toList := [110, 111, 110, 99, 101] } }) 1 secret) 2 (aO (c7 (Ty.int IntKind.u8) id 0 (↑32 : Int)))) 3 (aO (List.set (List.replicate 1 (zero (Ty.int IntKind.u8))) 0 (IntKind.wrap IntKind.u8 host)))) e0) ≤ 900000) (ab.all (den tId) (fun (q3 : den tId) ↦ q3 = jA (List.set (List.set (List.set (List.set (List.replicate 4 (zero Ty.str)) 0 { data := { toList := [110, 111, 110, 99, 101] } }) 1 secret) 2 (aO (c7 (Ty.int IntKind.u8) id 0 (↑32 : Int)))) 3 (aO (List.set (List.replicate 1 (zero (Ty.int IntKind.u8))) 0 (IntKind.wrap IntKind.u8 host))))) fun (q3 : den tId) ↦ ab.req (ba 0 16 (↑32 : Int)) (ab.ret (K.val (Ty.pair Ty.str (Ty.pair af Ty.unit)) (aO (c7 (Ty.int IntKind.u8) (jA (List.set (List.set (List.set (List.set (List.replicate 4 (zero Ty.str)) 0 { data := { toList := [110, 111, 110, 99, 101] } }) 1 secret) 2 (aO (c7 (Ty.int IntKind.u8) id 0 (↑32 : Int)))) 3 (aO (List.set (List.replicate 1 (zero (Ty.int IntKind.u8))) 0 (IntKind.wrap IntKind.u8 host))))) 0 16), 0, PUnit.unit)))))))
theorem qb (secret : den Ty.str) (id : den tId) (host : den af) : ax na tQ 5000 [] lW (aI jc) (Env.of (aX l7 (secret, id, host, ()) 0) []) = nJ secret id host := by kernel_rfl
end Go.Proofs.YtnakjijahkaoaaaDoor
namespace Go.Proofs.YtnakjijahkaoaaaDoor
open Go Go.RowKit
theorem ij (xs : List Int) : (aO xs).size = xs.length := by
 show (xs.map _).toArray.size = _
 rw [List.size_toArray, List.length_map]
theorem wR (xs : List Int) (h : Nat) : (c7 (.int .u8) xs 0 (h : Int)).length ≤ h := by
 unfold c7 eE
 rw [List.length_drop, List.length_take]
 omega
theorem pJ {l : List ByteArray} {n : Nat} (h : ∀ x ∈ l, x.size ≤ n) (hn : l.length * n ≤ 900000) (hl : l.length ≤ 1000000) : l.length ≤ 1000000 ∧ ByteArray.size (bj l e0) ≤ 900000 :=
 ⟨hl, Nat.le_trans (zA n l h) hn⟩
def Bs : ByteArray := ⟨⟨[108, 101, 102, 116]⟩⟩
def A3 : ByteArray := ⟨⟨[114, 105, 103, 104, 116]⟩⟩
def Be : ByteArray := ⟨⟨[110, 111, 110, 99, 101]⟩⟩
def vk (a : List Int) : ByteArray := aO (c7 (.int .u8) a 0 16)
def oA (word : ByteArray) (a : List Int) : List Int := over (zero tId) 0 (List.take 16 (c7 (.int .u8) (jA [word, vk a]) 0 32))
noncomputable abbrev ef : bt := ⟨nH, nw, fun x => (oA x.1 x.2.1, ()), fun x => ByteArray.size x.1 ≤ 1000, false⟩
theorem oO : aJ prog gl ep ef :=
 cO (S := ef) (uX ov) (fx := nF) tG (by kernel_rfl) (fun h => by cases h) (T := fun x => oz x.1 x.2.1) (fun x => sa x.1 x.2.1) fun O w0 x _ hp => by
  obtain ⟨word, a, ⟨⟩⟩ := x
  have hp : word.size ≤ 1000 := hp
  have hk : (vk a).size ≤ 16 := by unfold vk; rw [ij]; exact wR a 16
  refine ⟨⟨by decide, by decide, by decide⟩, pJ (l := [word, vk a]) (n := 1000) (fun x hx => ?_) (show 2 * 1000 ≤ 900000 by decide) (show 2 ≤ 1000000 by decide), bq ⟨⟨by decide, by decide, by decide⟩, ⟨by decide, by decide, by decide⟩, _, rfl, rfl⟩⟩
  rcases List.mem_cons.1 hx with rfl | hx
  ·exact hp
  ·rcases List.mem_cons.1 hx with rfl | hx
   ·omega
   ·cases hx
def u9 (secret : ByteArray) (id : List Int) (host : Int) : List ByteArray := [Be, secret, aO (c7 (.int .u8) id 0 32), aO [IntKind.wrap .u8 host]]
def aU (secret : ByteArray) (id : List Int) (host : Int) : ByteArray × Int :=
 if host < 0 ∨ 16 ≤ host then (e0, 1) else if 64 < secret.size then (e0, 2) else (aO (c7 (.int .u8) (jA (u9 secret id host)) 0 16), 0)
noncomputable abbrev gq : bt := ⟨l7, lY, fun x => ((aU x.1 x.2.1 x.2.2.1).1, (aU x.1 x.2.1 x.2.2.1).2, ()), fun _ => True, true⟩
theorem tN : aJ prog gl gr gq :=
 cO (S := gq) (tH ov) (fx := lW) sE (by kernel_rfl) (fun _ _ => trivial) (T := fun x => nJ x.1 x.2.1 x.2.2.1) (fun x => qb x.1 x.2.1 x.2.2.1) fun O w0 x _ _ => by
  obtain ⟨secret, id, host, ⟨⟩⟩ := x
  have key : ∀ host : Int, (decide (host < 0 ∨ 16 ≤ host)) = bif decide (host < 0) then true else decide (16 ≤ host) := fun host => by
   by_cases h1 : host < 0
   ·rw [decide_eq_true h1, decide_eq_true (.inl h1)]; rfl
   ·rw [decide_eq_false h1]
    rw [decide_eq_decide.2 (show (host < 0 ∨ 16 ≤ host) ↔ 16 ≤ host by omega)]; rfl
  refine ⟨fun h => ⟨_, rfl, ?_⟩, fun h => ⟨fun h2 => ⟨_, rfl, ?_⟩, fun h2 => ⟨⟨by decide, by decide, by decide⟩, ?_, bq ⟨⟨by decide, by decide, by decide⟩, _, rfl, ?_⟩⟩⟩⟩
  ·have h := of_decide_eq_true ((key host).trans h)
   show (e0, (1 : Int), ()) = ((aU secret id host).1, (aU secret id host).2, ())
   unfold aU
   rw [if_pos h]
  ·have h := of_decide_eq_false ((key host).trans h)
   have h2 : (64 : Int) < (secret.size : Int) := of_decide_eq_true h2
   show (e0, (2 : Int), ()) = ((aU secret id host).1, (aU secret id host).2, ())
   unfold aU
   rw [if_neg h, if_pos (by omega)]
  ·have h2 : ¬ (64 : Int) < (secret.size : Int) := of_decide_eq_false h2
   refine pJ (l := u9 secret id host) (n := 64) (fun x hx => ?_) (show 4 * 64 ≤ 900000 by decide) (show 4 ≤ 1000000 by decide)
   rcases List.mem_cons.1 hx with rfl | hx
   ·decide
   ·rcases List.mem_cons.1 hx with rfl | hx
    ·omega
    ·rcases List.mem_cons.1 hx with rfl | hx
     ·rw [ij]
      exact Nat.le_trans (wR id 32) (by decide)
     ·rcases List.mem_cons.1 hx with rfl | hx
      ·rw [ij]; exact show 1 ≤ 64 by decide
      ·cases hx
  ·have h := of_decide_eq_false ((key host).trans h)
   have h2 : ¬ (64 : Int) < (secret.size : Int) := of_decide_eq_false h2
   show (_, (0 : Int), ()) = ((aU secret id host).1, (aU secret id host).2, ())
   unfold aU
   rw [if_neg h, if_neg (by omega)]
   rfl
end Go.Proofs.YtnakjijahkaoaaaDoor
namespace Go.Proofs.YtnakjijahkaoaaaDoor
open Go Go.RowKit
noncomputable abbrev nq : Fx := { fn := kQ, ann := { } }
noncomputable abbrev od : bf := { D := { T := bN, F := [(ep, ef)], R := [], ovl := [], G := gl }, inl := [] }
noncomputable abbrev u3 : bY := .data ne
theorem vg (h_proof_made : aJ prog gl ep ef) : XOk prog od := xok (aS (bo bu a8) h_proof_made) (by kernel_rfl) bg bA bw
noncomputable def oI (a : den tId) : ab := ab.req (ByteArray.size { data := { toList := [108, 101, 102, 116] } } ≤ 1000) (ab.ret (K.val (Ty.pair tId Ty.unit) (oA { data := { toList := [108, 101, 102, 116] } } a, PUnit.unit)))
theorem rF (a : den tId) : ax od u3 5000 [] nq (aI kQ) (Env.of (aX m9 (a, ()) 0) []) = oI a := by kernel_rfl
noncomputable abbrev mb : Fx := { fn := jl, ann := { } }
noncomputable abbrev m8 : bf := { D := { T := bN, F := [(ep, ef)], R := [], ovl := [], G := gl }, inl := [] }
noncomputable abbrev tw : bY := .data lX
theorem tq (h_proof_made : aJ prog gl ep ef) : XOk prog m8 := xok (aS (bo bu a8) h_proof_made) (by kernel_rfl) bg bA bw
noncomputable def nE (a : den tId) : ab := ab.req (ByteArray.size { data := { toList := [114, 105, 103, 104, 116] } } ≤ 1000) (ab.ret (K.val (Ty.pair tId Ty.unit) (oA { data := { toList := [114, 105, 103, 104, 116] } } a, PUnit.unit)))
theorem qO (a : den tId) : ax m8 tw 5000 [] mb (aI jl) (Env.of (aX mh (a, ()) 0) []) = nE a := by kernel_rfl
end Go.Proofs.YtnakjijahkaoaaaDoor
namespace Go.Proofs.YtnakjijahkaoaaaDoor
open Go Go.RowKit
def fc (a : List Int) : List Int := oA Bs a
def sN (a : List Int) : List Int := oA A3 a
noncomputable abbrev eF : bt := ⟨m9, ne, fun x => (fc x.1, ()), fun _ => True, true⟩
noncomputable abbrev gB : bt := ⟨mh, lX, fun x => (sN x.1, ()), fun _ => True, true⟩
theorem n9 : aJ prog gl d9 eF :=
 cO (S := eF) (vg oO) (fx := nq) tV (by kernel_rfl) (fun _ _ => trivial) (T := fun x => oI x.1) (fun x => rF x.1) fun O w0 x _ _ => ⟨by decide, _, rfl, rfl⟩
theorem tD : aJ prog gl gy gB :=
 cO (S := gB) (tq oO) (fx := mb) sv (by kernel_rfl) (fun _ _ => trivial) (T := fun x => nE x.1) (fun x => qO x.1) fun O w0 x _ _ => ⟨by decide, _, rfl, rfl⟩
def c9 (f t : List Int) : Bool := bif eqb bc (cT t) (cT (fc f)) then true else eqb bc (cT f) (cT (sN t))
noncomputable abbrev dH : bt := ⟨ml, ma, fun x => (c9 x.1 x.2.1, ()), fun _ => True, true⟩
end Go.Proofs.YtnakjijahkaoaaaDoor
namespace Go.Proofs.YtnakjijahkaoaaaDoor
open Go Go.RowKit
noncomputable abbrev lS : Fx := { fn := jf, ann := { } }
noncomputable abbrev ns : bf := { D := { T := bN, F := [(gt, gA), (d9, eF), (gy, gB)], R := [], ovl := [], G := gl }, inl := [] }
noncomputable abbrev tu : bY := .data ma
theorem tU (h_proof_keyOf : aJ prog gl gt gA) (h_proof_Left : aJ prog gl d9 eF) (h_proof_Right : aJ prog gl gy gB) : XOk prog ns := xok (aS (aS (aS (bo bu a8) h_proof_Right) h_proof_Left) h_proof_keyOf) (by kernel_rfl) bg bA bw
noncomputable def nD (a : den tId) (b : den tId) : ab := ab.req True (ab.req True (ab.req True (ab.req (kR [(eqb bc (cT b) (cT (fc a)), false)] True) (ab.req (kR [(eqb bc (cT b) (cT (fc a)), false)] True) (ab.req (kR [(eqb bc (cT b) (cT (fc a)), false)] True) (ab.ret (K.val (Ty.pair Ty.bool Ty.unit) (bif eqb bc (cT b) (cT (fc a)) then true else eqb bc (cT a) (cT (sN b)), PUnit.unit))))))))
theorem qD (a : den tId) (b : den tId) : ax ns tu 5000 [] lS (aI jf) (Env.of (aX ml (a, b, ()) 0) []) = nD a b := by kernel_rfl
end Go.Proofs.YtnakjijahkaoaaaDoor
namespace Go.Proofs.YtnakjijahkaoaaaDoor
open Go Go.RowKit
theorem zn (a : List Int) : eqb bc a a = true := by rw [eqK, decide_eq_true rfl]
theorem xA (a : List Int) : c9 a (fc a) = true := by
 unfold c9
 rw [zn]
 rfl
theorem nj : aJ prog gl dF dH :=
 cO (S := dH) (tU (bH tM) n9 tD) (fx := lS) s5 (by kernel_rfl) (fun _ _ => trivial) (T := fun x => nD x.1 x.2.1) (fun x => qD x.1 x.2.1) fun O w0 x _ _ =>
  ⟨trivial, trivial, trivial, fun _ => trivial, fun _ => trivial, fun _ => trivial, _, rfl, rfl⟩
theorem zR (h : List Int) : ∀ n : Nat, (sh h n).length = 32 := fun n => by
 induction n with
 | zero => rfl
 | succ n ih => exact (List.length_set ..).trans ih
theorem Av (l : List ByteArray) : (jA l).length = 32 := by
 unfold jA xf
 exact zR _ _
theorem zb (secret : ByteArray) (id : List Int) (host : Int) : (aO (c7 (.int .u8) (jA (u9 secret id host)) 0 16)).size = 16 := by
 rw [ij]
 unfold c7 eE
 have e16 : Int.toNat 16 = 16 := rfl
 have e0 : Int.toNat 0 = 0 := rfl
 rw [e16, e0, List.length_drop, List.length_take, Av]
 rfl
end Go.Proofs.YtnakjijahkaoaaaDoor
namespace Go.Proofs.YtnakjijahkaoaaaDoor
open Go Go.RowKit
end Go.Proofs.YtnakjijahkaoaaaDoor
namespace Go.Proofs.YtnakjijahkaoaaaDoor
open Go Go.RowKit
end Go.Proofs.YtnakjijahkaoaaaDoor
namespace Go.Proofs.YtnakjijahkaoaaaDoor
open Go Go.RowKit
def cB (a : List Int) : ByteArray := vk a
def iZ (l : List ByteArray) (s : ByteArray) : Bool := l.any fun x => decide (x = s)
theorem ql {l : List ByteArray} {s : ByteArray} : iZ l s = true ↔ s ∈ l := by
 unfold iZ
 rw [List.any_eq_true]
 exact ⟨fun ⟨x, hx, e⟩ => of_decide_eq_true e ▸ hx, fun h => ⟨s, h, decide_eq_true rfl⟩⟩
theorem uQ {l : List ByteArray} {s : ByteArray} : iZ l s = false ↔ s ∉ l := by
 rw [← ql]
 cases iZ l s <;> simp
def stF (now : List ByteArray) (s : List ByteArray × List ByteArray) (x : Lk) : List ByteArray × List ByteArray :=
 if (iZ now (cB x.1) && !iZ s.1 (cB x.2.1)) = true then (s.1 ++ [cB x.2.1], s.2 ++ [cB x.2.1]) else s
theorem wD (now : List ByteArray) : ∀ (l : List Lk) (s : List ByteArray × List ByteArray), ∃ d : List ByteArray, l.foldl (stF now) s = (s.1 ++ d, s.2 ++ d) ∧
    (∀ x ∈ l, cB x.1 ∈ now → cB x.2.1 ∈ s.1 ++ d) ∧ (∀ t ∈ d, ∃ x ∈ l, cB x.1 ∈ now ∧ cB x.2.1 = t) ∧ (s.1.Nodup → (s.1 ++ d).Nodup)
  | [], s => ⟨[], by simp, (fun x hx => by cases hx), (fun t ht => by cases ht), fun h => by simpa using h⟩
  | x :: l, s => by
    rw [List.foldl_cons]
    obtain ⟨d, e, h1, h2, h3⟩ := wD now l (stF now s x)
    by_cases hc : (iZ now (cB x.1) && !iZ s.1 (cB x.2.1)) = true
    · have es : stF now s x = (s.1 ++ [cB x.2.1], s.2 ++ [cB x.2.1]) := if_pos hc
      rw [es] at e h1 h3 ⊢
      rw [Bool.and_eq_true, ql, Bool.not_eq_true', uQ] at hc
      refine ⟨cB x.2.1 :: d, by rw [e, List.append_assoc, List.append_assoc]; rfl, fun y hy hn => ?_, fun t ht => ?_, fun hd => ?_⟩
      · rcases List.mem_cons.1 hy with rfl | hy
        · exact List.mem_append.2 (.inr List.mem_cons_self)
        · have := h1 y hy hn
          rwa [List.append_assoc] at this
      · rcases List.mem_cons.1 ht with rfl | ht
        · exact ⟨x, List.mem_cons_self, hc.1, rfl⟩
        · obtain ⟨y, hy, h⟩ := h2 t ht
          exact ⟨y, List.mem_cons_of_mem _ hy, h⟩
      · have := h3 (by
          rw [List.nodup_append]
          exact ⟨hd, by simp, fun a ha b hb => by rw [List.mem_singleton.1 hb]; exact fun e => hc.2 (e ▸ ha)⟩)
        rwa [List.append_assoc] at this
    · have es : stF now s x = s := if_neg hc
      rw [es] at e h1 h3 ⊢
      refine ⟨d, e, fun y hy hn => ?_, fun t ht => ?_, h3⟩
      · rcases List.mem_cons.1 hy with rfl | hy
        · rw [Bool.and_eq_true, ql, Bool.not_eq_true', uQ] at hc
          exact List.mem_append.2 (.inl (Classical.byContradiction fun hn' => hc ⟨hn, hn'⟩))
        · exact h1 y hy hn
      · obtain ⟨y, hy, h⟩ := h2 t ht
        exact ⟨y, List.mem_cons_of_mem _ hy, h⟩
structure z6 (l : List Lk) (k : ByteArray) (n : Nat) (now out : List ByteArray) : Prop where
 nd : out.Nodup
 sub : ∀ t ∈ out, ∃ x ∈ l, cB x.2.1 = t
 fuel : now = [] ∨ l.length + 1 ≤ out.length + n
theorem z6.next {l : List Lk} {k : ByteArray} {n : Nat} {now out : List ByteArray} (h : z6 l k (n + 1) now out) (hn : now ≠ []) : z6 l k n (l.foldl (stF now) (out, [])).2 (l.foldl (stF now) (out, [])).1 := by
 obtain ⟨d, e, h1, h2, h3⟩ := wD now l (out, [])
 rw [e]
 have hsub : ∀ t ∈ out ++ d, ∃ x ∈ l, cB x.2.1 = t := fun t ht => by
  rcases List.mem_append.1 ht with ht | ht
  ·exact h.sub t ht
  ·obtain ⟨x, hx, _, e⟩ := h2 t ht
   exact ⟨x, hx, e⟩
 refine ⟨h3 h.nd, hsub, ?_⟩
 rcases h.fuel with h | h
 ·exact absurd h hn
 ·show [] ++ d = [] ∨ l.length + 1 ≤ (out ++ d).length + n
  by_cases hd : d = []
  ·exact .inl hd
  ·have : 0 < d.length := List.length_pos_iff.2 hd
   rw [List.length_append]
   exact .inr (by omega)
end Go.Proofs.YtnakjijahkaoaaaDoor
namespace Go.Proofs.YtnakjijahkaoaaaDoor
open Go Go.RowKit
end Go.Proofs.YtnakjijahkaoaaaDoor
namespace Go.Proofs.YtnakjijahkaoaaaDoor
open Go Go.RowKit
inductive Rch (l : List Lk) : ByteArray → ByteArray → Prop where
 | one (x : Lk) (h : x ∈ l) : Rch l (cB x.1) (cB x.2.1)
 | step (x : Lk) (h : x ∈ l) {b : ByteArray} (r : Rch l (cB x.2.1) b) : Rch l (cB x.1) b
theorem Rch.trans {l : List Lk} {a b c : ByteArray} (h : Rch l a b) (k : Rch l b c) : Rch l a c := by
 induction h with
 | one y hy => exact .step y hy k
 | step y hy _ ih => exact .step y hy (ih k)
end Go.Proofs.YtnakjijahkaoaaaDoor
namespace Go.Proofs.YtnakjijahkaoaaaDoor
open Go Go.RowKit
end Go.Proofs.YtnakjijahkaoaaaDoor
namespace Go.Proofs.YtnakjijahkaoaaaDoor
open Go Go.RowKit
noncomputable abbrev my : aw := { T := bN, F := [], n := (jD).ntmps }
noncomputable abbrev rO : Ann := { }
theorem xp : cq prog my := BB ((bo bu a8))
theorem wb : dE my = true := by kernel_rfl
noncomputable def rZ (e : den al) : eQ := eQ.ite (decide (Prod.fst e = 1)) (eQ.ret (K.val (Ty.pair Ty.bool Ty.unit) (decide (Prod.fst (Prod.snd (Prod.snd e)) = 0), PUnit.unit))) (eQ.ite (decide (Prod.fst e = 2)) (eQ.ret (K.val (Ty.pair Ty.bool Ty.unit) (bif bif eqb tId (Prod.fst (Prod.snd e)) (List.replicate 32 (zero (Ty.int IntKind.u8))) then decide (0 ≤ Prod.fst (Prod.snd (Prod.snd e))) else false then decide (Prod.fst (Prod.snd (Prod.snd e)) < 16) else false, PUnit.unit))) (eQ.ret (K.val (Ty.pair Ty.bool Ty.unit) (false, PUnit.unit))))
theorem tA (e : den al) : gc my rO pZ jD 1000 (aI jD) (Env.of (aX p7 (e, ()) 0) []) = rZ e := by kernel_rfl
end Go.Proofs.YtnakjijahkaoaaaDoor
namespace Go.Proofs.YtnakjijahkaoaaaDoor
open Go Go.RowKit
def kC (e : den al) : Bool :=
 if e.1 = 1 then decide (e.2.2.1 = 0)
 else if e.1 = 2 then decide (e.2.1 = List.replicate 32 0) && decide (0 ≤ e.2.2.1) && decide (e.2.2.1 < 16)
 else false
noncomputable abbrev gX : bt := ⟨p7, pZ, fun x => (kC x.1, ()), fun _ => True, true⟩
theorem AI (x y : den tId) : eqb tId x y = decide (x = y) := by
 have := iw (t := tId) rfl x y
 cases h : eqb tId x y
 ·have : ¬ x = y := fun e => by rw [this.2 e] at h; cases h
  simp [this]
 ·simp [this.1 h]
theorem ju : aJ prog [] fZ gX :=
 BE xp wb vO (by kernel_rfl) (fun _ _ => trivial) (A := rO) (T := fun x => rZ x.1) (fun x => tA x.1) fun O w0 x _ _ => by
  obtain ⟨e, ⟨⟩⟩ := x
  refine ⟨fun h => ⟨_, rfl, ?_⟩, fun h => ⟨fun h' => ⟨_, rfl, ?_⟩, fun h' => ⟨_, rfl, ?_⟩⟩⟩
  ·have h : e.1 = 1 := of_decide_eq_true h
   simp [kC, h]
  ·have h : ¬ e.1 = 1 := of_decide_eq_false h
   have h' : e.1 = 2 := of_decide_eq_true h'
   rw [AI]
   simp [kC, h', zero, cond_eq_ite]
   rfl
  ·have h : ¬ e.1 = 1 := of_decide_eq_false h
   have h' : ¬ e.1 = 2 := of_decide_eq_false h'
   simp [kC, h, h']
end Go.Proofs.YtnakjijahkaoaaaDoor
namespace Go.Proofs.YtnakjijahkaoaaaDoor
open Go Go.RowKit
end Go.Proofs.YtnakjijahkaoaaaDoor
namespace Go.Proofs.YtnakjijahkaoaaaDoor
open Go Go.RowKit
end Go.Proofs.YtnakjijahkaoaaaDoor
namespace Go.Proofs.YtnakjijahkaoaaaDoor
open Go Go.RowKit
end Go.Proofs.YtnakjijahkaoaaaDoor
namespace Go.Proofs.YtnakjijahkaoaaaDoor
open Go Go.RowKit
abbrev Ent := den al
def gz (l : List Ent) : Bool := l.all kC
def fS (l : List Ent) : Bool := decide (1 ≤ l.length) && decide (l.length ≤ 4) && gz l
noncomputable abbrev iQ : bt := ⟨o1, ka, fun x => (gz x.1, ()), fun x => x.1.length ≤ 1000000, false⟩
noncomputable abbrev gC : bt := ⟨lU, mi, fun x => (fS x.1, ()), fun x => x.1.length ≤ 1000000, false⟩
end Go.Proofs.YtnakjijahkaoaaaDoor
namespace Go.Proofs.YtnakjijahkaoaaaDoor
open Go Go.RowKit
noncomputable abbrev bZ : Fx := { fn := bv, ann := { } }
noncomputable abbrev bJ : Fx := { fn := bp, ann := { loops := [(2, { keep := [0, 1, 7, 8] })] } }
noncomputable abbrev ss : Fx := { fn := m7, ann := { } }
noncomputable abbrev fL : Fx := { fn := fj, ann := { } }
noncomputable abbrev iR : bf := { D := { T := bN, F := [(fZ, gX)], R := [], ovl := [] }, inl := [(eH, bZ), (fH, bJ), (ff, ss)] }
noncomputable abbrev p6 : bY := .data ka
theorem lD (h_stack_Is : aJ prog [] fZ gX) : XOk prog iR := xok (aS (bo bu a8) h_stack_Is) (by kernel_rfl) bg (jL iJ (by kernel_rfl) (jL jy (by kernel_rfl) (jL sU (by kernel_rfl) bA))) bw
noncomputable def pX (l : den (Ty.slc al)) : ab := ab.loop [{ fx := bZ, todo := fT bv 1 2, dst := some 7, s := ofS [] }, { fx := fL, todo := fT fj 1 1, dst := some 4, s := ofS [] }] bJ (lp bp 2) [(0, K.val (Ty.slc al) l), (1, K.fnc ff), (7, K.val af (lnx al l)), (8, K.val af 0)] []
theorem sq (l : den (Ty.slc al)) : ax iR p6 5000 [] fL (aI fj) (Env.of (aX o1 (l, ()) 0) []) = pX l := by kernel_rfl
noncomputable def cV (v0 : den (Ty.slc al)) (v7 : den af) (v8 : den af) : List bm := [{ fx := bZ, todo := fT bv 1 2, dst := some 7, s := ofS [] }, { fx := fL, todo := fT fj 1 1, dst := some 4, s := ofS [] }]
noncomputable def cZ (v0 : den (Ty.slc al)) (v7 : den af) (v8 : den af) : Env := Env.of [(0, K.val (Ty.slc al) v0), (1, K.fnc ff), (7, K.val af v7), (8, K.val af v8)] []
noncomputable def fC (v0 : den (Ty.slc al)) (v7 : den af) (v8 : den af) : ab := ab.ite (decide (v8 < v7)) (ab.req (inB v8 (lnx al v0)) (ab.req True (ab.ite (!kC (el al v0 v8)) (ab.ret (K.val (Ty.pair Ty.bool Ty.unit) (!decide (0 ≤ v8), PUnit.unit))) (ab.loop [{ fx := bZ, todo := fT bv 1 2, dst := some 7, s := ofS [] }, { fx := fL, todo := fT fj 1 1, dst := some 4, s := ofS [] }] bJ (lp bp 2) [(0, K.val (Ty.slc al) v0), (1, K.fnc ff), (7, K.val af v7), (8, K.val af (IntKind.wrap IntKind.i64 (v8 + 1)))] [])))) (ab.ret (K.val (Ty.pair Ty.bool Ty.unit) (!decide (0 ≤ -1), PUnit.unit)))
theorem cD (v0 : den (Ty.slc al)) (v7 : den af) (v8 : den af) : ax iR p6 5000 (cV v0 v7 v8) bJ (lp bp 2) (cZ v0 v7 v8) = fC v0 v7 v8 := by kernel_rfl
noncomputable abbrev mc : Fx := { fn := jg, ann := { } }
noncomputable abbrev nA : bf := { D := { T := bN, F := [(iV, iQ)], R := [], ovl := [] }, inl := [] }
noncomputable abbrev tv : bY := .data mi
theorem tt (h_stack_all : aJ prog [] iV iQ) : XOk prog nA := xok (aS (bo bu a8) h_stack_all) (by kernel_rfl) bg bA bw
noncomputable def ng (l : den (Ty.slc al)) : ab := ab.req (kR [(bif decide (1 ≤ lnx al l) then decide (lnx al l ≤ 4) else false, true)] (List.length l ≤ 1000000)) (ab.ret (K.val (Ty.pair Ty.bool Ty.unit) (bif bif decide (1 ≤ lnx al l) then decide (lnx al l ≤ 4) else false then gz l else false, PUnit.unit)))
theorem qj (l : den (Ty.slc al)) : ax nA tv 5000 [] mc (aI jg) (Env.of (aX lU (l, ()) 0) []) = ng l := by kernel_rfl
end Go.Proofs.YtnakjijahkaoaaaDoor
namespace Go.Proofs.YtnakjijahkaoaaaDoor
open Go Go.RowKit
theorem zJ {l : List Ent} {i : Nat} (hi : i < l.length) (h : gz (l.take i) = true) : gz (l.take (i + 1)) = kC l[i] := by
 unfold gz at h ⊢
 rw [List.take_succ_eq_append_getElem hi, List.all_append, h, List.all_cons, List.all_nil, Bool.and_true, Bool.true_and]
theorem AG {l : List Ent} {i : Nat} (hi : i < l.length) (h : kC l[i] = false) : gz l = false := by
 unfold gz
 rw [List.all_eq_false]
 exact ⟨l[i], List.getElem_mem hi, by rw [h]; simp⟩
def uC (O : Nat → Prop) (w0 : World) (l : List Ent) (hl : l.length ≤ 1000000) :=
 PLift.up <| gO (σ := Unit) l.length (fun i _ => gz (l.take i) = true)
  (fun i _ => bG prog iR (Cx.base O w0) (ed prog O w0 ka fun y => y = (gz l, ())) (cV l (lnx al l) (i : Nat)) bJ (lp bp 2) (cZ l (lnx al l) (i : Nat)))
  (fun i s hi hb ih => cr (lD ju) (cD l _ _) (by
   refine ⟨fun _ => ⟨Ba hi, trivial, fun h => ⟨_, rfl, ?_⟩, fun h => ?_⟩, fun h => ?_⟩
   ·rw [Af hi] at h
    have h1 : kC l[i] = false := by simpa using h
    rw [AG hi h1, decide_eq_true (Int.natCast_nonneg i)]
    rfl
   ·rw [Af hi] at h
    rw [jS hi (by omega)]
    refine ih () ?_
    rw [zJ hi hb]
    simpa using h
   ·rw [wL] at h
    exact absurd hi (of_decide_eq_false h)))
  (fun s hb => cr (lD ju) (cD l _ _) (by
   refine ⟨fun h => ?_, fun _ => ⟨_, rfl, ?_⟩⟩
   ·rw [wL] at h
    exact absurd (of_decide_eq_true h) (Nat.lt_irrefl _)
   ·rw [List.take_length] at hb
    rw [hb]
    rfl))
theorem vW : aJ prog [] iV iQ :=
 cO (S := iQ) (lD ju) (fx := fL) vf (by kernel_rfl) (fun h => by cases h) (T := fun x => pX x.1) (fun x => sq x.1) fun O w0 x _ hp =>
  (uC O w0 x.1 hp).down 0 () (Nat.zero_le _) rfl
theorem zt (l : List Ent) {a b : Bool} (ha : a = decide (1 ≤ l.length)) (hb : b = decide (l.length ≤ 4)) : (bif bif a then b else false then gz l else false) = fS l := by
 unfold fS
 rw [ha, hb]
 cases decide (1 ≤ l.length) <;> cases decide (l.length ≤ 4) <;> cases gz l <;> rfl
theorem wV (l : List Ent) : decide ((1 : Int) ≤ lnx al l) = decide (1 ≤ l.length) ∧ decide (lnx al l ≤ 4) = decide (l.length ≤ 4) ∧ decide ((0 : Int) < lnx al l) = decide (1 ≤ l.length) ∧ decide (lnx al l < 5) = decide (l.length ≤ 4) := by
 have h : lnx al l = (l.length : Int) := rfl
 rw [h]
 refine ⟨?_, ?_, ?_, ?_⟩ <;> (rw [Bool.eq_iff_iff, decide_eq_true_eq, decide_eq_true_eq]; omega)
theorem tF : aJ prog [] gp gC :=
 cO (S := gC) (tt vW) (fx := mc) sP (by kernel_rfl) (fun h => by cases h) (T := fun x => ng x.1) (fun x => qj x.1) fun O w0 x _ hp =>
  ⟨fun _ => hp, _, rfl, Prod.ext (zt x.1 (wV x.1).1 (wV x.1).2.1) rfl⟩
end Go.Proofs.YtnakjijahkaoaaaDoor
namespace Go.Proofs.YtnakjijahkaoaaaDoor
open Go Go.RowKit
noncomputable abbrev nu : Fx := { fn := kD, ann := { } }
noncomputable abbrev oV : bf := { D := { T := bN, F := [], R := [], ovl := [] }, inl := [] }
noncomputable abbrev vm : bY := .data m6
theorem u4 : XOk prog oV := xok ((bo bu a8)) (by kernel_rfl) bg bA bw
noncomputable def ox : ab := ab.ret (K.val (Ty.pair (Ty.mp af cn) Ty.unit) (co (co (co (co (co (co (co (co (co (co [] 1 (Prod.fst (zero (Ty.pair Ty.bool (Ty.pair Ty.bool (Ty.pair Ty.bool (Ty.pair Ty.bool (Ty.pair Ty.bool (Ty.pair Ty.bool Ty.unit))))))), Prod.fst (Prod.snd (zero (Ty.pair Ty.bool (Ty.pair Ty.bool (Ty.pair Ty.bool (Ty.pair Ty.bool (Ty.pair Ty.bool (Ty.pair Ty.bool Ty.unit)))))))), true, true, Prod.fst (Prod.snd (Prod.snd (Prod.snd (Prod.snd (zero (Ty.pair Ty.bool (Ty.pair Ty.bool (Ty.pair Ty.bool (Ty.pair Ty.bool (Ty.pair Ty.bool (Ty.pair Ty.bool Ty.unit))))))))))), true, Prod.snd (Prod.snd (Prod.snd (Prod.snd (Prod.snd (Prod.snd (zero (Ty.pair Ty.bool (Ty.pair Ty.bool (Ty.pair Ty.bool (Ty.pair Ty.bool (Ty.pair Ty.bool (Ty.pair Ty.bool Ty.unit)))))))))))))) 2 (true, true, Prod.fst (Prod.snd (Prod.snd (zero (Ty.pair Ty.bool (Ty.pair Ty.bool (Ty.pair Ty.bool (Ty.pair Ty.bool (Ty.pair Ty.bool (Ty.pair Ty.bool Ty.unit))))))))), true, Prod.snd (Prod.snd (Prod.snd (Prod.snd (zero (Ty.pair Ty.bool (Ty.pair Ty.bool (Ty.pair Ty.bool (Ty.pair Ty.bool (Ty.pair Ty.bool (Ty.pair Ty.bool Ty.unit)))))))))))) 3 (true, true, Prod.fst (Prod.snd (Prod.snd (zero (Ty.pair Ty.bool (Ty.pair Ty.bool (Ty.pair Ty.bool (Ty.pair Ty.bool (Ty.pair Ty.bool (Ty.pair Ty.bool Ty.unit))))))))), Prod.fst (Prod.snd (Prod.snd (Prod.snd (zero (Ty.pair Ty.bool (Ty.pair Ty.bool (Ty.pair Ty.bool (Ty.pair Ty.bool (Ty.pair Ty.bool (Ty.pair Ty.bool Ty.unit)))))))))), true, Prod.snd (Prod.snd (Prod.snd (Prod.snd (Prod.snd (zero (Ty.pair Ty.bool (Ty.pair Ty.bool (Ty.pair Ty.bool (Ty.pair Ty.bool (Ty.pair Ty.bool (Ty.pair Ty.bool Ty.unit))))))))))))) 4 (true, true, Prod.fst (Prod.snd (Prod.snd (zero (Ty.pair Ty.bool (Ty.pair Ty.bool (Ty.pair Ty.bool (Ty.pair Ty.bool (Ty.pair Ty.bool (Ty.pair Ty.bool Ty.unit))))))))), true, true, Prod.snd (Prod.snd (Prod.snd (Prod.snd (Prod.snd (zero (Ty.pair Ty.bool (Ty.pair Ty.bool (Ty.pair Ty.bool (Ty.pair Ty.bool (Ty.pair Ty.bool (Ty.pair Ty.bool Ty.unit))))))))))))) 5 (true, true, Prod.snd (Prod.snd (zero (Ty.pair Ty.bool (Ty.pair Ty.bool (Ty.pair Ty.bool (Ty.pair Ty.bool (Ty.pair Ty.bool (Ty.pair Ty.bool Ty.unit)))))))))) 6 (true, true, Prod.fst (Prod.snd (Prod.snd (zero (Ty.pair Ty.bool (Ty.pair Ty.bool (Ty.pair Ty.bool (Ty.pair Ty.bool (Ty.pair Ty.bool (Ty.pair Ty.bool Ty.unit))))))))), Prod.fst (Prod.snd (Prod.snd (Prod.snd (zero (Ty.pair Ty.bool (Ty.pair Ty.bool (Ty.pair Ty.bool (Ty.pair Ty.bool (Ty.pair Ty.bool (Ty.pair Ty.bool Ty.unit)))))))))), true, Prod.snd (Prod.snd (Prod.snd (Prod.snd (Prod.snd (zero (Ty.pair Ty.bool (Ty.pair Ty.bool (Ty.pair Ty.bool (Ty.pair Ty.bool (Ty.pair Ty.bool (Ty.pair Ty.bool Ty.unit))))))))))))) 7 (true, Prod.snd (zero (Ty.pair Ty.bool (Ty.pair Ty.bool (Ty.pair Ty.bool (Ty.pair Ty.bool (Ty.pair Ty.bool (Ty.pair Ty.bool Ty.unit))))))))) 8 (true, Prod.fst (Prod.snd (zero (Ty.pair Ty.bool (Ty.pair Ty.bool (Ty.pair Ty.bool (Ty.pair Ty.bool (Ty.pair Ty.bool (Ty.pair Ty.bool Ty.unit)))))))), Prod.fst (Prod.snd (Prod.snd (zero (Ty.pair Ty.bool (Ty.pair Ty.bool (Ty.pair Ty.bool (Ty.pair Ty.bool (Ty.pair Ty.bool (Ty.pair Ty.bool Ty.unit))))))))), true, Prod.snd (Prod.snd (Prod.snd (Prod.snd (zero (Ty.pair Ty.bool (Ty.pair Ty.bool (Ty.pair Ty.bool (Ty.pair Ty.bool (Ty.pair Ty.bool (Ty.pair Ty.bool Ty.unit)))))))))))) 9 (true, Prod.fst (Prod.snd (zero (Ty.pair Ty.bool (Ty.pair Ty.bool (Ty.pair Ty.bool (Ty.pair Ty.bool (Ty.pair Ty.bool (Ty.pair Ty.bool Ty.unit)))))))), Prod.fst (Prod.snd (Prod.snd (zero (Ty.pair Ty.bool (Ty.pair Ty.bool (Ty.pair Ty.bool (Ty.pair Ty.bool (Ty.pair Ty.bool (Ty.pair Ty.bool Ty.unit))))))))), true, Prod.snd (Prod.snd (Prod.snd (Prod.snd (zero (Ty.pair Ty.bool (Ty.pair Ty.bool (Ty.pair Ty.bool (Ty.pair Ty.bool (Ty.pair Ty.bool (Ty.pair Ty.bool Ty.unit)))))))))))) 10 (true, Prod.fst (Prod.snd (zero (Ty.pair Ty.bool (Ty.pair Ty.bool (Ty.pair Ty.bool (Ty.pair Ty.bool (Ty.pair Ty.bool (Ty.pair Ty.bool Ty.unit)))))))), Prod.fst (Prod.snd (Prod.snd (zero (Ty.pair Ty.bool (Ty.pair Ty.bool (Ty.pair Ty.bool (Ty.pair Ty.bool (Ty.pair Ty.bool (Ty.pair Ty.bool Ty.unit))))))))), true, Prod.snd (Prod.snd (Prod.snd (Prod.snd (zero (Ty.pair Ty.bool (Ty.pair Ty.bool (Ty.pair Ty.bool (Ty.pair Ty.bool (Ty.pair Ty.bool (Ty.pair Ty.bool Ty.unit))))))))))), PUnit.unit))
theorem rA : ax oV vm 5000 [] nu (aI kD) (Env.of (aX nv () 0) []) = ox := by kernel_rfl
noncomputable abbrev ip : Fx := { fn := fG, ann := { frz := [(1, [3])] } }
noncomputable abbrev i5 : bf := { D := { T := bN, F := [], R := [], ovl := [] }, inl := [] }
noncomputable abbrev oU : bY := .data iq
theorem nS : XOk prog i5 := xok ((bo bu a8)) (by kernel_rfl) bg bA bw
noncomputable def ja (m : den aK) (nonce : den Ty.str) (good : den (Ty.ref af)) : ab := ab.ite (bif decide (Prod.fst (Prod.fst (Prod.snd (Prod.snd m))) = 2) then eqb Ty.str (Prod.fst (Prod.snd (Prod.snd (Prod.snd (Prod.snd (Prod.snd m)))))) nonce else false) (ab.ret (K.val (Ty.pair af Ty.unit) (good, PUnit.unit))) (ab.ret (K.val (Ty.pair af Ty.unit) (4, PUnit.unit)))
theorem l6 (m : den aK) (nonce : den Ty.str) (good : den (Ty.ref af)) : ax i5 oU 5000 [] ip (aI fG) (Env.of (aX iu (m, nonce, good, ()) 0) []) = ja m nonce good := by kernel_rfl
noncomputable abbrev js : Fx := { fn := gL, ann := { frz := [(1, [2])] } }
noncomputable abbrev jY : bf := { D := { T := bN, F := [(dF, dH)], R := [], ovl := [], G := gl }, inl := [] }
noncomputable abbrev qC : bY := .data d8
theorem p9 (h_proof_Links : aJ prog gl dF dH) : XOk prog jY := xok (aS (bo bu a8) h_proof_Links) (by kernel_rfl) bg bA bw
noncomputable def ko (m : den aK) (nonce : den Ty.str) : ab := ab.ite (decide (Prod.fst (Prod.fst (Prod.snd (Prod.snd m))) = 2)) (ab.ret (K.val (Ty.pair af Ty.unit) (1, PUnit.unit))) (ab.req True (ab.ite (c9 (Prod.fst (Prod.snd m)) (Prod.fst (Prod.snd (Prod.fst (Prod.snd (Prod.snd m)))))) (ab.ret (K.val (Ty.pair af Ty.unit) (2, PUnit.unit))) (ab.ret (K.val (Ty.pair af Ty.unit) (4, PUnit.unit)))))
theorem nN (m : den aK) (nonce : den Ty.str) : ax jY qC 5000 [] js (aI gL) (Env.of (aX gb (m, nonce, ()) 0) []) = ko m nonce := by kernel_rfl
end Go.Proofs.YtnakjijahkaoaaaDoor
namespace Go.Proofs.YtnakjijahkaoaaaDoor
open Go Go.RowKit
abbrev Mg := den aK
abbrev Fd := den cn
def fd (id target stack n nonce data : Bool) : Fd := (id, target, stack, n, nonce, data, ())
def cI : List (den af × den cn) := [(1, fd false false true true false true), (2, fd true true false true false false), (3, fd true true false false true false), (4, fd true true false true true false), (5, fd true true false false false false),
 (6, fd true true false false true false), (7, fd true false false false false false), (8, fd true false false true false false), (9, fd true false false true false false), (10, fd true false false true false false)]
noncomputable abbrev hK : bt := ⟨nv, m6, fun _ => (cI, ()), fun _ => True, true⟩
theorem va : aJ prog [] g9 hK :=
 cO (S := hK) u4 (fx := nu) tr (by kernel_rfl) (fun _ _ => trivial) (T := fun _ => ox) (fun _ => rA) fun O w0 x _ _ => ⟨_, rfl, by show _ = _; kernel_rfl⟩
def pl (m : Mg) : den al := m.2.2.1
def uh (m : Mg) : ByteArray := m.2.2.2.2.2.1
def kz (m : Mg) : Int := (pl m).1
def fF (m : Mg) (nonce : ByteArray) (good : Int) : Int := bif (bif decide (kz m = 2) then eqb Ty.str (uh m) nonce else false) then good else 4
noncomputable abbrev dT : bt := ⟨iu, iq, fun x => (fF x.1 x.2.1 x.2.2.1, ()), fun _ => True, true⟩
theorem oB : aJ prog [] dQ dT :=
 cO (S := dT) nS (fx := ip) nL (by kernel_rfl) (fun _ _ => trivial) (T := fun x => ja x.1 x.2.1 x.2.2.1) (fun x => l6 x.1 x.2.1 x.2.2.1) fun O w0 x _ _ => by
  refine ⟨fun h => ⟨_, rfl, ?_⟩, fun h => ⟨_, rfl, ?_⟩⟩
  ·show (_, ()) = (fF x.1 x.2.1 x.2.2.1, ())
   have h : (bif decide (kz x.1 = 2) then eqb Ty.str (uh x.1) x.2.1 else false) = true := h
   unfold fF
   rw [h]
   rfl
  ·show ((4 : Int), ()) = (fF x.1 x.2.1 x.2.2.1, ())
   have h : (bif decide (kz x.1 = 2) then eqb Ty.str (uh x.1) x.2.1 else false) = false := h
   unfold fF
   rw [h]
   rfl
def dZ (m : Mg) : Int := bif decide (kz m = 2) then 1 else bif c9 m.2.1 (pl m).2.1 then 2 else 4
noncomputable abbrev eN : bt := ⟨gb, d8, fun x => (dZ x.1, ()), fun _ => True, true⟩
theorem qe : aJ prog gl eM eN :=
 cO (S := eN) (p9 nj) (fx := js) pA (by kernel_rfl) (fun _ _ => trivial) (T := fun x => ko x.1 x.2.1) (fun x => nN x.1 x.2.1) fun O w0 x _ _ => by
  refine ⟨fun h => ⟨_, rfl, ?_⟩, fun h => ⟨trivial, fun h2 => ⟨_, rfl, ?_⟩, fun h2 => ⟨_, rfl, ?_⟩⟩⟩
  ·show ((1 : Int), ()) = (dZ x.1, ())
   have h : decide (kz x.1 = 2) = true := h
   unfold dZ
   rw [h]
   rfl
  ·show ((2 : Int), ()) = (dZ x.1, ())
   have h : decide (kz x.1 = 2) = false := h
   have h2 : c9 x.1.2.1 (pl x.1).2.1 = true := h2
   unfold dZ
   rw [h, h2]
   rfl
  ·show ((4 : Int), ()) = (dZ x.1, ())
   have h : decide (kz x.1 = 2) = false := h
   have h2 : c9 x.1.2.1 (pl x.1).2.1 = false := h2
   unfold dZ
   rw [h, h2]
   rfl
def a6 : List (den af × den (.fn (.pair aK (.pair .str .unit)) d8)) :=
 [(2, some fun x => (dZ x.1, ())), (4, some fun x => (fF x.1 x.2.1 2, ())), (6, some fun x => (fF x.1 x.2.1 3, ()))]
noncomputable abbrev fV : bt := ⟨lq, lm, fun _ => (a6, ()), fun _ => True, true⟩
end Go.Proofs.YtnakjijahkaoaaaDoor
namespace Go.Proofs.YtnakjijahkaoaaaDoor
open Go Go.RowKit
noncomputable abbrev nG : Fx := { fn := kd, ann := { frz := [(1, [1]), (2, [3])] }, share := true }
noncomputable abbrev oS : bf := { D := { T := bN, F := [(g9, hK), (fZ, gX), (gp, gC)], R := [], ovl := [] }, inl := [] }
noncomputable abbrev vq : bY := .data jo
theorem uH (h_wire_kinds : aJ prog [] g9 hK) (h_stack_Is : aJ prog [] fZ gX) (h_stack_Right : aJ prog [] gp gC) : XOk prog oS := xok (aS (aS (aS (bo bu a8) h_stack_Right) h_stack_Is) h_wire_kinds) (by kernel_rfl) bg bA bw
noncomputable def nU (m : den aK) : ab := ab.req True (ab.all (den (Ty.mp af cn)) (fun (q1 : den (Ty.mp af cn)) ↦ q1 = cI) fun (q1 : den (Ty.mp af cn)) ↦ ab.ite (!cp cI (Prod.fst m)) (ab.ret (K.val (Ty.pair Ty.bool Ty.unit) (false, PUnit.unit))) (ab.ite (bif !Prod.fst (bU cI (Prod.fst m)) then !eqb tId (Prod.fst (Prod.snd m)) (List.replicate 32 (zero (Ty.int IntKind.u8))) else false) (ab.ret (K.val (Ty.pair Ty.bool Ty.unit) (false, PUnit.unit))) (ab.ite (!eqO (Prod.fst (Prod.snd (bU cI (Prod.fst m)))) !eqb al (Prod.fst (Prod.snd (Prod.snd m))) (zero (Ty.pair af (Ty.pair tId (Ty.pair af Ty.unit))))) (ab.ret (K.val (Ty.pair Ty.bool Ty.unit) (false, PUnit.unit))) (ab.req (kR [(Prod.fst (Prod.snd (bU cI (Prod.fst m))), true)] True) (ab.ite (bif Prod.fst (Prod.snd (bU cI (Prod.fst m))) then !kC (Prod.fst (Prod.snd (Prod.snd m))) else false) (ab.ret (K.val (Ty.pair Ty.bool Ty.unit) (false, PUnit.unit))) (ab.ite (!eqO (Prod.fst (Prod.snd (Prod.snd (bU cI (Prod.fst m))))) (decide (0 < lnx al (Prod.fst (Prod.snd (Prod.snd (Prod.snd m))))))) (ab.ret (K.val (Ty.pair Ty.bool Ty.unit) (false, PUnit.unit))) (ab.req (kR [(Prod.fst (Prod.snd (Prod.snd (bU cI (Prod.fst m)))), true)] (List.length (Prod.fst (Prod.snd (Prod.snd (Prod.snd m)))) ≤ 1000000)) (ab.ite (bif Prod.fst (Prod.snd (Prod.snd (bU cI (Prod.fst m)))) then !fS (Prod.fst (Prod.snd (Prod.snd (Prod.snd m)))) else false) (ab.ret (K.val (Ty.pair Ty.bool Ty.unit) (false, PUnit.unit))) (ab.ite (bif !Prod.fst (Prod.snd (Prod.snd (Prod.snd (bU cI (Prod.fst m))))) then !decide (Prod.fst (Prod.snd (Prod.snd (Prod.snd (Prod.snd m)))) = 0) else false) (ab.ret (K.val (Ty.pair Ty.bool Ty.unit) (false, PUnit.unit))) (ab.ite (decide (Prod.fst (Prod.snd (Prod.snd (Prod.snd (Prod.snd m)))) < 0)) (ab.ret (K.val (Ty.pair Ty.bool Ty.unit) (false, PUnit.unit))) (ab.ite (decide (1099511627776 < Prod.fst (Prod.snd (Prod.snd (Prod.snd (Prod.snd m)))))) (ab.ret (K.val (Ty.pair Ty.bool Ty.unit) (false, PUnit.unit))) (ab.ite (bif Prod.fst (Prod.snd (Prod.snd (Prod.snd (Prod.snd (bU cI (Prod.fst m)))))) then !decide (aP (Prod.fst (Prod.snd (Prod.snd (Prod.snd (Prod.snd (Prod.snd m)))))) = 16) else false) (ab.ret (K.val (Ty.pair Ty.bool Ty.unit) (false, PUnit.unit))) (ab.ite (bif !Prod.fst (Prod.snd (Prod.snd (Prod.snd (Prod.snd (bU cI (Prod.fst m)))))) then !eqb Ty.str (Prod.fst (Prod.snd (Prod.snd (Prod.snd (Prod.snd (Prod.snd m)))))) { data := { toList := [] } } else false) (ab.ret (K.val (Ty.pair Ty.bool Ty.unit) (false, PUnit.unit))) (ab.ret (K.val (Ty.pair Ty.bool Ty.unit) (bif eqb Ty.str (Prod.fst (Prod.snd (Prod.snd (Prod.snd (Prod.snd (Prod.snd (Prod.snd m))))))) { data := { toList := [] } } then true else bif Prod.fst (Prod.snd (Prod.snd (Prod.snd (Prod.snd (Prod.snd (bU cI (Prod.fst m))))))) then decide (aP (Prod.fst (Prod.snd (Prod.snd (Prod.snd (Prod.snd (Prod.snd (Prod.snd m))))))) ≤ 64) else false, PUnit.unit))))))))))))))))
theorem qW (m : den aK) : ax oS vq 5000 [] nG (aI kd) (Env.of (aX nh (m, ()) 0) []) = nU m := by kernel_rfl
noncomputable abbrev pE : Fx := { fn := kb, ann := { frz := [(1, [1])] } }
noncomputable abbrev lk : Fx := { fn := iH, ann := { } }
noncomputable abbrev lM : bf := { D := { T := bN, F := [(dQ, dT), (eM, eN)], R := [], ovl := [], G := gl }, inl := [(kg, pE)] }
noncomputable abbrev se : bY := .data lm
theorem sj (h_guard_judges_1_1 : aJ prog gl dQ dT) (h_guard_judges_2 : aJ prog gl eM eN) : XOk prog lM := xok (aS (aS (bo bu a8) h_guard_judges_2) h_guard_judges_1_1) (by kernel_rfl) bg (jL pC (by kernel_rfl) bA) bw
noncomputable def lQ : ab := ab.req (∀ (y : den (Ty.pair aK (Ty.pair Ty.str Ty.unit))), True) (ab.req (∀ (y : den (Ty.pair aK (Ty.pair Ty.str Ty.unit))), True) (ab.ret (K.val (Ty.pair (Ty.mp af (Ty.fn (Ty.pair aK (Ty.pair Ty.str Ty.unit)) (Ty.pair af Ty.unit))) Ty.unit) (co (co (co [] 2 (some fun (x : den gb) ↦ (dZ (Prod.fst x), PUnit.unit))) 4 (some fun (y : den (Ty.pair aK (Ty.pair Ty.str Ty.unit))) ↦ (fF (Prod.fst y) (Prod.fst (Prod.snd y)) 2, PUnit.unit))) 6 (some fun (y : den (Ty.pair aK (Ty.pair Ty.str Ty.unit))) ↦ (fF (Prod.fst y) (Prod.fst (Prod.snd y)) 3, PUnit.unit)), PUnit.unit))))
theorem pG : ax lM se 5000 [] lk (aI iH) (Env.of (aX lq () 0) []) = lQ := by kernel_rfl
end Go.Proofs.YtnakjijahkaoaaaDoor
namespace Go.Proofs.YtnakjijahkaoaaaDoor
open Go Go.RowKit
def Bo : den al := zero (Ty.pair af (Ty.pair tId (Ty.pair af Ty.unit)))
def mf (m : Mg) : Fd := bU cI m.1
def w0 (m : Mg) : Bool := !cp cI m.1
def w1 (m : Mg) : Bool := bif !(mf m).1 then !eqb tId m.2.1 (List.replicate 32 (zero (Ty.int IntKind.u8))) else false
def w2 (m : Mg) : Bool := !eqO (mf m).2.1 (!eqb al m.2.2.1 Bo)
def w3 (m : Mg) : Bool := bif (mf m).2.1 then !kC m.2.2.1 else false
def w4 (m : Mg) : Bool := !eqO (mf m).2.2.1 (decide (0 < lnx al m.2.2.2.1))
def w5 (m : Mg) : Bool := bif (mf m).2.2.1 then !fS m.2.2.2.1 else false
def mN (m : Mg) : Int := m.2.2.2.2.1
def w6 (m : Mg) : Bool := bif !(mf m).2.2.2.1 then !decide (mN m = 0) else false
def w7 (m : Mg) : Bool := decide (mN m < 0)
def w8 (m : Mg) : Bool := decide (1099511627776 < mN m)
def w9 (m : Mg) : Bool := bif (mf m).2.2.2.2.1 then !decide (aP m.2.2.2.2.2.1 = 16) else false
def w10 (m : Mg) : Bool := bif !(mf m).2.2.2.2.1 then !eqb Ty.str m.2.2.2.2.2.1 ⟨⟨[]⟩⟩ else false
def w11 (m : Mg) : Bool := bif eqb Ty.str m.2.2.2.2.2.2.1 ⟨⟨[]⟩⟩ then true else bif (mf m).2.2.2.2.2.1 then decide (aP m.2.2.2.2.2.2.1 ≤ 64) else false
def aY (m : Mg) : Bool := bif w0 m then false else bif w1 m then false else bif w2 m then false else bif w3 m then false else bif w4 m then false else bif w5 m then false else
 bif w6 m then false else bif w7 m then false else bif w8 m then false else bif w9 m then false else bif w10 m then false else w11 m
noncomputable abbrev fJ : bt := ⟨nh, jo, fun x => (aY x.1, ()), fun x => x.1.2.2.2.1.length ≤ 1000000, false⟩
theorem vj : aJ prog [] ib fJ :=
 cO (S := fJ) (uH va ju tF) (fx := nG) tL (by kernel_rfl) (fun h => by cases h) (T := fun x => nU x.1) (fun x => qW x.1) fun O v0 x _ hp => by
  obtain ⟨m, ⟨⟩⟩ := x
  have hp : m.2.2.2.1.length ≤ 1000000 := hp
  have leaf : ∀ {b : Bool}, aY m = b → ∃ z, aM jo (K.val (Ty.pair Ty.bool Ty.unit) (b, ())) = some z ∧ z = fJ.g (m, ()) := fun {b} e => ⟨_, rfl, by show (b, ()) = (aY m, ()); rw [e]⟩
  refine ⟨trivial, bq ⟨fun h => leaf ?_, fun h0 => ⟨fun h => leaf ?_, fun h1 => ⟨fun h => leaf ?_, fun h2 => ⟨fun _ => trivial, fun h => leaf ?_, fun h3 => ⟨fun h => leaf ?_, fun h4 => ⟨fun _ => hp, fun h => leaf ?_, fun h5 => ⟨fun h => leaf ?_, fun h6 => ⟨fun h => leaf ?_, fun h7 => ⟨fun h => leaf ?_, fun h8 => ⟨fun h => leaf ?_, fun h9 => ⟨fun h => leaf ?_, fun h10 => leaf ?_⟩⟩⟩⟩⟩⟩⟩⟩⟩⟩⟩⟩
  ·have h : w0 m = true := h
   simp only [aY, h, cond_true]
  all_goals have h0 : w0 m = false := h0
  ·have h : w1 m = true := h
   simp only [aY, h0, h, cond_true, cond_false]
  all_goals have h1 : w1 m = false := h1
  ·have h : w2 m = true := h
   simp only [aY, h0, h1, h, cond_true, cond_false]
  all_goals have h2 : w2 m = false := h2
  ·have h : w3 m = true := h
   simp only [aY, h0, h1, h2, h, cond_true, cond_false]
  all_goals have h3 : w3 m = false := h3
  ·have h : w4 m = true := h
   simp only [aY, h0, h1, h2, h3, h, cond_true, cond_false]
  all_goals have h4 : w4 m = false := h4
  ·have h : w5 m = true := h
   simp only [aY, h0, h1, h2, h3, h4, h, cond_true, cond_false]
  all_goals have h5 : w5 m = false := h5
  ·have h : w6 m = true := h
   simp only [aY, h0, h1, h2, h3, h4, h5, h, cond_true, cond_false]
  all_goals have h6 : w6 m = false := h6
  ·have h : w7 m = true := h
   simp only [aY, h0, h1, h2, h3, h4, h5, h6, h, cond_true, cond_false]
  all_goals have h7 : w7 m = false := h7
  ·have h : w8 m = true := h
   simp only [aY, h0, h1, h2, h3, h4, h5, h6, h7, h, cond_true, cond_false]
  all_goals have h8 : w8 m = false := h8
  ·have h : w9 m = true := h
   simp only [aY, h0, h1, h2, h3, h4, h5, h6, h7, h8, h, cond_true, cond_false]
  all_goals have h9 : w9 m = false := h9
  ·have h : w10 m = true := h
   simp only [aY, h0, h1, h2, h3, h4, h5, h6, h7, h8, h9, h, cond_true, cond_false]
  ·have h10 : w10 m = false := h10
   simp only [aY, h0, h1, h2, h3, h4, h5, h6, h7, h8, h9, h10, cond_false]
   rfl
theorem sM : aJ prog gl f7 fV :=
 cO (S := fV) (sj (bH oB) qe) (fx := lk) rl (by kernel_rfl) (fun _ _ => trivial) (T := fun _ => lQ) (fun _ => pG) fun O v0 x _ _ => ⟨fun _ => trivial, fun _ => trivial, _, rfl, rfl⟩
def t8 : Mg := zero aK
def gn (m : Mg) : Int := m.2.2.1.2.2.1
def iE (m : Mg) (nonce : ByteArray) : Int := (tW (a := .pair aK (.pair .str .unit)) (r := d8) (bU a6 m.1) (m, nonce, ())).1
def Al (kind : Int) (id : List Int) (target : den al) (n : Int) (nonce : ByteArray) : Mg := (kind, id, target, [], n, nonce, e0, ())
def aD (secret : ByteArray) (m : Mg) : Int × Mg × Int :=
 bif (bif !cp a6 m.1 then true else !aY m) then (0, t8, 1)
 else bif !decide ((aU secret m.2.1 (gn m)).2 = 0) then (0, t8, (aU secret m.2.1 (gn m)).2)
 else bif decide (iE m (aU secret m.2.1 (gn m)).1 = 1) then (iE m (aU secret m.2.1 (gn m)).1, Al 3 m.2.1 m.2.2.1 0 (aU secret m.2.1 (gn m)).1, 0)
 else (iE m (aU secret m.2.1 (gn m)).1, t8, 0)
noncomputable abbrev db : bt := ⟨l9, iB, fun x => ((aD x.1 x.2.1).1, (aD x.1 x.2.1).2.1, (aD x.1 x.2.1).2.2, ()), fun x => x.2.1.2.2.2.1.length ≤ 1000000, false⟩
noncomputable abbrev iN : bt := ⟨nZ, oy, fun _ => (true, ()), fun _ => True, true⟩
end Go.Proofs.YtnakjijahkaoaaaDoor
namespace Go.Proofs.YtnakjijahkaoaaaDoor
open Go Go.RowKit
noncomputable abbrev l8 : Fx := { fn := ji, ann := { frz := [(1, [3])] }, share := true }
noncomputable abbrev nf : bf := { D := { T := bN, F := [(f7, fV), (ib, fJ), (gr, gq)], R := [], ovl := [], G := gl }, inl := [] }
noncomputable abbrev tJ : bY := .data iB
theorem tT (h_guard_judges : aJ prog gl f7 fV) (h_wire_Right : aJ prog gl ib fJ) (h_proof_Nonce : aJ prog gl gr gq) : XOk prog nf := xok (aS (aS (aS (bo bu a8) h_proof_Nonce) h_wire_Right) h_guard_judges) (by kernel_rfl) bg bA bw
noncomputable def nC (secret : den Ty.str) (m : den aK) : ab := ab.req True (ab.all (den (Ty.mp af (Ty.fn (Ty.pair aK (Ty.pair Ty.str Ty.unit)) (Ty.pair af Ty.unit)))) (fun (q2 : den (Ty.mp af (Ty.fn (Ty.pair aK (Ty.pair Ty.str Ty.unit)) (Ty.pair af Ty.unit)))) ↦ q2 = a6) fun (q2 : den (Ty.mp af (Ty.fn (Ty.pair aK (Ty.pair Ty.str Ty.unit)) (Ty.pair af Ty.unit)))) ↦ ab.req (kR [(!cp a6 (Prod.fst m), false)] (List.length (Prod.fst (Prod.snd (Prod.snd (Prod.snd m)))) ≤ 1000000)) (ab.ite (bif !cp a6 (Prod.fst m) then true else !aY m) (ab.ret (K.val (Ty.pair af (Ty.pair aK (Ty.pair af Ty.unit))) (0, zero (Ty.pair af (Ty.pair tId (Ty.pair al (Ty.pair (Ty.slc al) (Ty.pair af (Ty.pair Ty.str (Ty.pair Ty.str Ty.unit))))))), 1, PUnit.unit))) (ab.req True (ab.all (den (Ty.pair Ty.str (Ty.pair af Ty.unit))) (fun (q3 : den (Ty.pair Ty.str (Ty.pair af Ty.unit))) ↦ q3 = (Prod.fst (aU secret (Prod.fst (Prod.snd m)) (Prod.fst (Prod.snd (Prod.snd (Prod.fst (Prod.snd (Prod.snd m))))))), Prod.snd (aU secret (Prod.fst (Prod.snd m)) (Prod.fst (Prod.snd (Prod.snd (Prod.fst (Prod.snd (Prod.snd m))))))), PUnit.unit)) fun (q3 : den (Ty.pair Ty.str (Ty.pair af Ty.unit))) ↦ ab.ite (!decide (Prod.fst (Prod.snd q3) = 0)) (ab.ret (K.val (Ty.pair af (Ty.pair aK (Ty.pair af Ty.unit))) (0, zero (Ty.pair af (Ty.pair tId (Ty.pair al (Ty.pair (Ty.slc al) (Ty.pair af (Ty.pair Ty.str (Ty.pair Ty.str Ty.unit))))))), Prod.fst (Prod.snd q3), PUnit.unit))) (ab.req (Bu (Ty.pair aK (Ty.pair Ty.str Ty.unit)) (Ty.pair af Ty.unit) (bU a6 (Prod.fst m))) (ab.all (den af) (fun (q4 : den af) ↦ q4 = Prod.fst (A0 (Ty.pair aK (Ty.pair Ty.str Ty.unit)) (Ty.pair af Ty.unit) (bU a6 (Prod.fst m)) (m, Prod.fst q3, PUnit.unit))) fun (q4 : den af) ↦ ab.ite (decide (q4 = 1)) (ab.ret (K.val (Ty.pair af (Ty.pair aK (Ty.pair af Ty.unit))) (q4, (3, Prod.fst (Prod.snd m), Prod.fst (Prod.snd (Prod.snd m)), Prod.fst (Prod.snd (Prod.snd (Prod.snd (zero (Ty.pair af (Ty.pair tId (Ty.pair al (Ty.pair (Ty.slc al) (Ty.pair af (Ty.pair Ty.str (Ty.pair Ty.str Ty.unit))))))))))), Prod.fst (Prod.snd (Prod.snd (Prod.snd (Prod.snd (zero (Ty.pair af (Ty.pair tId (Ty.pair al (Ty.pair (Ty.slc al) (Ty.pair af (Ty.pair Ty.str (Ty.pair Ty.str Ty.unit)))))))))))), Prod.fst q3, Prod.snd (Prod.snd (Prod.snd (Prod.snd (Prod.snd (Prod.snd (zero (Ty.pair af (Ty.pair tId (Ty.pair al (Ty.pair (Ty.slc al) (Ty.pair af (Ty.pair Ty.str (Ty.pair Ty.str Ty.unit)))))))))))))), 0, PUnit.unit))) (ab.ret (K.val (Ty.pair af (Ty.pair aK (Ty.pair af Ty.unit))) (q4, zero (Ty.pair af (Ty.pair tId (Ty.pair al (Ty.pair (Ty.slc al) (Ty.pair af (Ty.pair Ty.str (Ty.pair Ty.str Ty.unit))))))), 0, PUnit.unit)))))))))
theorem qB (secret : den Ty.str) (m : den aK) : ax nf tJ 5000 [] l8 (aI ji) (Env.of (aX l9 (secret, m, ()) 0) []) = nC secret m := by kernel_rfl
end Go.Proofs.YtnakjijahkaoaaaDoor
namespace Go.Proofs.YtnakjijahkaoaaaDoor
open Go Go.RowKit
theorem zS (k : Int) : (k = 2 ∧ cp a6 k = true ∧ bU a6 k = some (fun x => (dZ x.1, ()))) ∨ (k = 4 ∧ cp a6 k = true ∧ bU a6 k = some (fun x => (fF x.1 x.2.1 2, ()))) ∨
    (k = 6 ∧ cp a6 k = true ∧ bU a6 k = some (fun x => (fF x.1 x.2.1 3, ()))) ∨ (k ≠ 2 ∧ k ≠ 4 ∧ k ≠ 6 ∧ cp a6 k = false) := by
  by_cases h2 : k = 2
  · subst h2; exact .inl ⟨rfl, rfl, rfl⟩
  · by_cases h4 : k = 4
    · subst h4; exact .inr (.inl ⟨rfl, rfl, rfl⟩)
    · by_cases h6 : k = 6
      · subst h6; exact .inr (.inr (.inl ⟨rfl, rfl, rfl⟩))
      · refine .inr (.inr (.inr ⟨h2, h4, h6, ?_⟩))
        have e : ∀ j : Int, k ≠ j → eqb af k j = false := fun j h => decide_eq_false h
        unfold cp iY a6
        rw [List.find?_cons_of_neg (by rw [e _ h2]; decide), List.find?_cons_of_neg (by rw [e _ h4]; decide), List.find?_cons_of_neg (by rw [e _ h6]; decide)]
        rfl
theorem Bl {k : Int} (h : cp a6 k = true) : ∃ g, bU a6 k = some g := by
 rcases zS k with ⟨_, _, e⟩ | ⟨_, _, e⟩ | ⟨_, _, e⟩ | ⟨_, _, _, e⟩
 ·exact ⟨_, e⟩
 ·exact ⟨_, e⟩
 ·exact ⟨_, e⟩
 ·rw [h] at e; cases e
theorem nx : aJ prog gl dG db :=
 cO (S := db) (tT sM (bH vj) tN) (fx := l8) sF (by kernel_rfl) (fun h => by cases h) (T := fun x => nC x.1 x.2.1) (fun x => qB x.1 x.2.1) fun O v0 x _ hp => by
  obtain ⟨secret, m, ⟨⟩⟩ := x
  have hp : m.2.2.2.1.length ≤ 1000000 := hp
  have leaf : ∀ {a : Int} {b : Mg} {c : Int}, aD secret m = (a, b, c) → ∃ z, aM iB (K.val (Ty.pair af (Ty.pair aK (Ty.pair af Ty.unit))) (a, b, c, ())) = some z ∧ z = db.g (secret, m, ()) := fun {a b c} e =>
   ⟨_, rfl, by show (a, b, c, ()) = ((aD secret m).1, (aD secret m).2.1, (aD secret m).2.2, ()); rw [e]⟩
  refine ⟨trivial, bq ⟨fun _ => hp, fun h => leaf ?_, fun h0 => ⟨trivial, bq ⟨fun h => leaf ?_, fun h1 => ⟨?_, bq ⟨fun h => leaf ?_, fun h => leaf ?_⟩⟩⟩⟩⟩⟩
  ·have h : (bif !cp a6 m.1 then true else !aY m) = true := h
   simp only [aD, h, cond_true]
   rfl
  all_goals have h0 : (bif !cp a6 m.1 then true else !aY m) = false := h0
  ·have h : (!decide ((aU secret m.2.1 (gn m)).2 = 0)) = true := h
   simp only [aD, h0, h, cond_true, cond_false]
   rfl
  all_goals have h1 : (!decide ((aU secret m.2.1 (gn m)).2 = 0)) = false := h1
  ·refine Bl (k := m.1) ?_
   cases e : cp a6 m.1 with
   | true => rfl
   | false => rw [e] at h0; cases h0
  ·have h : decide (iE m (aU secret m.2.1 (gn m)).1 = 1) = true := h
   simp only [aD, h0, h1, h, cond_true, cond_false]
   rfl
  ·have h : decide (iE m (aU secret m.2.1 (gn m)).1 = 1) = false := h
   simp only [aD, h0, h1, h, cond_false]
   rfl
end Go.Proofs.YtnakjijahkaoaaaDoor
namespace Go.Proofs.YtnakjijahkaoaaaDoor
open Go Go.RowKit
noncomputable abbrev oX : Fx := { fn := lG, ann := { frz := [(2, [2])] }, share := true }
noncomputable abbrev pM : bf := { D := { T := bN, F := [(dG, db)], R := [], ovl := [], G := gl }, inl := [] }
noncomputable abbrev ww : bY := .data oy
theorem wo (h_guard_Judge : aJ prog gl dG db) : XOk prog pM := xok (aS (bo bu a8) h_guard_Judge) (by kernel_rfl) bg bA bw
noncomputable def pV : ab := ab.req (List.length (zero (Ty.slc al)) ≤ 1000000) (ab.all (den (Ty.pair af (Ty.pair aK (Ty.pair af Ty.unit)))) (fun (q0 : den (Ty.pair af (Ty.pair aK (Ty.pair af Ty.unit)))) ↦ q0 = (Prod.fst (aD { data := { toList := [115] } } (2, zero tId, (2, zero tId, 3, zero Ty.unit), zero (Ty.slc al), 5, zero (Ty.pair Ty.str (Ty.pair Ty.str Ty.unit)))), Prod.fst (Prod.snd (aD { data := { toList := [115] } } (2, zero tId, (2, zero tId, 3, zero Ty.unit), zero (Ty.slc al), 5, zero (Ty.pair Ty.str (Ty.pair Ty.str Ty.unit))))), Prod.snd (Prod.snd (aD { data := { toList := [115] } } (2, zero tId, (2, zero tId, 3, zero Ty.unit), zero (Ty.slc al), 5, zero (Ty.pair Ty.str (Ty.pair Ty.str Ty.unit))))), PUnit.unit)) fun (q0 : den (Ty.pair af (Ty.pair aK (Ty.pair af Ty.unit)))) ↦ ab.ret (K.val (Ty.pair Ty.bool Ty.unit) (bif bif bif decide (Prod.fst (Prod.snd (Prod.snd q0)) = 0) then decide (Prod.fst q0 = 1) else false then decide (Prod.fst (Prod.fst (Prod.snd q0)) = 3) else false then decide (aP (Prod.fst (Prod.snd (Prod.snd (Prod.snd (Prod.snd (Prod.snd (Prod.fst (Prod.snd q0)))))))) = 16) else false, PUnit.unit)))
theorem sw : ax pM ww 5000 [] oX (aI lG) (Env.of (aX nZ () 0) []) = pV := by kernel_rfl
noncomputable abbrev jq : Fx := { fn := gG, ann := { frz := [(1, [7, 8]), (4, [11]), (8, [18])] }, share := true }
noncomputable abbrev kJ : bf := { D := { T := bN, F := [(dG, db), (iT, iN), (d9, eF), (dF, dH)], R := [], ovl := [], G := gl }, inl := [] }
noncomputable abbrev qJ : bY := .data pB
theorem qp (h_guard_Judge : aJ prog gl dG db) (h_l15_alive : aJ prog gl iT iN) (h_proof_Left : aJ prog gl d9 eF) (h_proof_Links : aJ prog gl dF dH) : XOk prog kJ := xok (aS (aS (aS (aS (bo bu a8) h_proof_Links) h_proof_Left) h_l15_alive) h_guard_Judge) (by kernel_rfl) bg bA bw
noncomputable def eJ (a : den Ty.str) (b : den Ty.str) (id : den tId) (dst : den tId) (life : den af) : ab := ab.req (ba 0 (dx (aP a) 64) (aP a)) (ab.req (ba 0 (dx (aP b) 64) (aP b)) (ab.req (nz 1000) (ab.req (nz 1000) (ab.req (List.length (zero (Ty.slc al)) ≤ 1000000) (ab.all (den (Ty.pair af (Ty.pair aK (Ty.pair af Ty.unit)))) (fun (q5 : den (Ty.pair af (Ty.pair aK (Ty.pair af Ty.unit)))) ↦ q5 = (Prod.fst (aD (bQ a 0 (dx (aP a) 64)) (2, id, (1, dst, zero (Ty.pair af Ty.unit)), zero (Ty.slc al), Int.tmod (IntKind.wrap IntKind.i64 (Int.tmod life 1000 + 1000)) 1000, zero (Ty.pair Ty.str (Ty.pair Ty.str Ty.unit)))), Prod.fst (Prod.snd (aD (bQ a 0 (dx (aP a) 64)) (2, id, (1, dst, zero (Ty.pair af Ty.unit)), zero (Ty.slc al), Int.tmod (IntKind.wrap IntKind.i64 (Int.tmod life 1000 + 1000)) 1000, zero (Ty.pair Ty.str (Ty.pair Ty.str Ty.unit))))), Prod.snd (Prod.snd (aD (bQ a 0 (dx (aP a) 64)) (2, id, (1, dst, zero (Ty.pair af Ty.unit)), zero (Ty.slc al), Int.tmod (IntKind.wrap IntKind.i64 (Int.tmod life 1000 + 1000)) 1000, zero (Ty.pair Ty.str (Ty.pair Ty.str Ty.unit))))), PUnit.unit)) fun (q5 : den (Ty.pair af (Ty.pair aK (Ty.pair af Ty.unit)))) ↦ ab.req (List.length (zero (Ty.slc al)) ≤ 1000000) (ab.all (den (Ty.pair af (Ty.pair aK (Ty.pair af Ty.unit)))) (fun (q6 : den (Ty.pair af (Ty.pair aK (Ty.pair af Ty.unit)))) ↦ q6 = (Prod.fst (aD (bQ b 0 (dx (aP b) 64)) (2, id, (1, dst, zero (Ty.pair af Ty.unit)), zero (Ty.slc al), Int.tmod (IntKind.wrap IntKind.i64 (Int.tmod life 1000 + 1000)) 1000, zero (Ty.pair Ty.str (Ty.pair Ty.str Ty.unit)))), Prod.fst (Prod.snd (aD (bQ b 0 (dx (aP b) 64)) (2, id, (1, dst, zero (Ty.pair af Ty.unit)), zero (Ty.slc al), Int.tmod (IntKind.wrap IntKind.i64 (Int.tmod life 1000 + 1000)) 1000, zero (Ty.pair Ty.str (Ty.pair Ty.str Ty.unit))))), Prod.snd (Prod.snd (aD (bQ b 0 (dx (aP b) 64)) (2, id, (1, dst, zero (Ty.pair af Ty.unit)), zero (Ty.slc al), Int.tmod (IntKind.wrap IntKind.i64 (Int.tmod life 1000 + 1000)) 1000, zero (Ty.pair Ty.str (Ty.pair Ty.str Ty.unit))))), PUnit.unit)) fun (q6 : den (Ty.pair af (Ty.pair aK (Ty.pair af Ty.unit)))) ↦ ab.req True (ab.all (den tId) (fun (q7 : den tId) ↦ q7 = fc id) fun (q7 : den tId) ↦ ab.req (List.length (zero (Ty.slc al)) ≤ 1000000) (ab.all (den (Ty.pair af (Ty.pair aK (Ty.pair af Ty.unit)))) (fun (q8 : den (Ty.pair af (Ty.pair aK (Ty.pair af Ty.unit)))) ↦ q8 = (Prod.fst (aD (bQ a 0 (dx (aP a) 64)) (2, id, (1, q7, zero (Ty.pair af Ty.unit)), zero (Ty.slc al), Int.tmod (IntKind.wrap IntKind.i64 (Int.tmod life 1000 + 1000)) 1000, zero (Ty.pair Ty.str (Ty.pair Ty.str Ty.unit)))), Prod.fst (Prod.snd (aD (bQ a 0 (dx (aP a) 64)) (2, id, (1, q7, zero (Ty.pair af Ty.unit)), zero (Ty.slc al), Int.tmod (IntKind.wrap IntKind.i64 (Int.tmod life 1000 + 1000)) 1000, zero (Ty.pair Ty.str (Ty.pair Ty.str Ty.unit))))), Prod.snd (Prod.snd (aD (bQ a 0 (dx (aP a) 64)) (2, id, (1, q7, zero (Ty.pair af Ty.unit)), zero (Ty.slc al), Int.tmod (IntKind.wrap IntKind.i64 (Int.tmod life 1000 + 1000)) 1000, zero (Ty.pair Ty.str (Ty.pair Ty.str Ty.unit))))), PUnit.unit)) fun (q8 : den (Ty.pair af (Ty.pair aK (Ty.pair af Ty.unit)))) ↦ ab.req True (ab.all (den Ty.bool) (fun (q9 : den Ty.bool) ↦ q9 = true) fun (q9 : den Ty.bool) ↦ ab.req (kR [(bif bif bif q9 then decide (Prod.fst (Prod.snd (Prod.snd q5)) = 0) else false then decide (Prod.fst (Prod.snd (Prod.snd q6)) = 0) else false then decide (Prod.fst q5 = Prod.fst q6) else false, true)] True) (ab.ret (K.val (Ty.pair Ty.bool Ty.unit) (bif bif bif bif bif bif bif q9 then decide (Prod.fst (Prod.snd (Prod.snd q5)) = 0) else false then decide (Prod.fst (Prod.snd (Prod.snd q6)) = 0) else false then decide (Prod.fst q5 = Prod.fst q6) else false then eqO (decide (Prod.fst q5 = 2)) (c9 id dst) else false then bif decide (Prod.fst q5 = 2) then true else decide (Prod.fst q5 = 4) else false then decide (Prod.fst (Prod.snd (Prod.snd q8)) = 0) else false then decide (Prod.fst q8 = 2) else false, PUnit.unit))))))))))))
theorem nO (a : den Ty.str) (b : den Ty.str) (id : den tId) (dst : den tId) (life : den af) : ax kJ qJ 5000 [] jq (aI gG) (Env.of (aX cL (a, b, id, dst, life, ()) 0) []) = eJ a b id dst life := by kernel_rfl
end Go.Proofs.YtnakjijahkaoaaaDoor
