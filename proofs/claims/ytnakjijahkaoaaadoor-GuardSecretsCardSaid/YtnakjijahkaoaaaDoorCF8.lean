/- Part 8 of 9 of what this claim's proof stands on: a theory of programs on data, and the contracts of the functions that the law reaches. It holds no condition of its own. -/
import Derived.Test.YtnakjijahkaoaaaDoorCF7
namespace Go.Proofs.YtnakjijahkaoaaaDoor
open Go Go.RowKit
theorem yF (xs : List (List UInt8)) : Lib.join xs [] = xs.flatten := by
 cases xs with
 | nil => rfl
 | cons x r =>
  rw [Lib.join_cons]
  unfold Lib.joinTail
  have : (fun y : List UInt8 => [] ++ y) = id := by funext y; rfl
  rw [this, List.map_id, List.flatten_cons]
theorem xx (xs : List ByteArray) : bh xs e0 = ⟨((xs.map (·.data.toList)).flatten).toArray⟩ := by
 unfold bh
 have : e0.data.toList = [] := rfl
 rw [this, yF]
theorem zK (n : Nat) : ∀ xs : List ByteArray, (∀ x ∈ xs, x.size ≤ n) → (bh xs e0).size ≤ xs.length * n := by
 intro xs h
 rw [xx, oH]
 induction xs with
 | nil => simp
 | cons x r ih =>
  rw [List.map_cons, List.flatten_cons, List.length_append, List.length_cons, Nat.add_mul, Nat.one_mul]
  have h1 := ih fun y hy => h y (List.mem_cons_of_mem _ hy)
  have h2 := h x List.mem_cons_self
  have h3 : x.data.toList.length = x.size := rfl
  omega
end Go.Proofs.YtnakjijahkaoaaaDoor
namespace Go.Proofs.YtnakjijahkaoaaaDoor
open Go Go.RowKit
noncomputable abbrev nK : Fx := { fn := kP, ann := { frz := [(1, [3]), (3, [5])] }, share := true }
noncomputable abbrev o6 : be := { D := { T := bM, F := [(eD, eH)], R := [], ovl := [], G := gl }, inl := [] }
noncomputable abbrev vj : bO := .data nt
theorem uO (h_digest_Sum : aG prog gl eD eH) : XOk prog o6 := xok (aS (bl bq aX) h_digest_Sum) (by kernel_rfl) a6 bo bt
noncomputable def oF (word : den Ty.str) (a : den tId) : ab := ab.req (bc 0 16 (↑32 : Int)) (ab.req (List.length (List.set (List.set (List.replicate 2 (zero Ty.str)) 0 word) 1 (aP (c8 (Ty.int IntKind.u8) a 0 16))) ≤ 1000000 ∧ ByteArray.size (bh (List.set (List.set (List.replicate 2 (zero Ty.str)) 0 word) 1 (aP (c8 (Ty.int IntKind.u8) a 0 16))) e0) ≤ 900000) (ab.all (den tId) (fun (q2 : den tId) ↦ q2 = jG (List.set (List.set (List.replicate 2 (zero Ty.str)) 0 word) 1 (aP (c8 (Ty.int IntKind.u8) a 0 16)))) fun (q2 : den tId) ↦ ab.req (bc 0 16 (↑32 : Int)) (ab.req (bc 0 (↑32 : Int) (↑32 : Int)) (ab.ret (K.val (Ty.pair tId Ty.unit) (over (zero tId) (Int.toNat 0) (List.take (Int.toNat 16 - Int.toNat 0) (c8 (Ty.int IntKind.u8) q2 0 (↑32 : Int))), PUnit.unit))))))
theorem rz (word : den Ty.str) (a : den tId) : ay o6 vj 5000 [] nK (aF kP) (Env.of (aW nL (word, a, ()) 0) []) = oF word a := by kernel_rfl
noncomputable abbrev mi : Fx := { fn := jo, ann := { frz := [(5, [4]), (6, [8])] }, share := true }
noncomputable abbrev nm : be := { D := { T := bM, F := [(eD, eH)], R := [], ovl := [], G := gl }, inl := [] }
noncomputable abbrev tH : bO := .data my
theorem ua (h_digest_Sum : aG prog gl eD eH) : XOk prog nm := xok (aS (bl bq aX) h_digest_Sum) (by kernel_rfl) a6 bo bt
noncomputable def nO (secret : den Ty.str) (id : den tId) (host : den af) : ab := ab.ite (bif decide (host < 0) then true else decide (16 ≤ host)) (ab.ret (K.val (Ty.pair Ty.str (Ty.pair af Ty.unit)) ({ data := { toList := [] } }, 1, PUnit.unit))) (ab.ite (decide (64 < aN secret)) (ab.ret (K.val (Ty.pair Ty.str (Ty.pair af Ty.unit)) ({ data := { toList := [] } }, 2, PUnit.unit))) (ab.req (bc 0 (↑32 : Int) (↑32 : Int)) (ab.req (List.length (List.set (List.set (List.set (List.set (List.replicate 4 (zero Ty.str)) 0 { data := { toList := [110, 111, 110, 99, 101] } }) 1 secret) 2 (aP (c8 (Ty.int IntKind.u8) id 0 (↑32 : Int)))) 3 (aP (List.set (List.replicate 1 (zero (Ty.int IntKind.u8))) 0 (IntKind.wrap IntKind.u8 host)))) ≤ 1000000 ∧ ByteArray.size (bh (List.set (List.set (List.set (List.set (List.replicate 4 (zero Ty.str)) 0 { data := { toList := [110, 111, 110, 99, 101] } }) 1 secret) 2 (aP (c8 (Ty.int IntKind.u8) id 0 (↑32 : Int)))) 3 (aP (List.set (List.replicate 1 (zero (Ty.int IntKind.u8))) 0 (IntKind.wrap IntKind.u8 host)))) e0) ≤ 900000) (ab.all (den tId) (fun (q3 : den tId) ↦ q3 = jG (List.set (List.set (List.set (List.set (List.replicate 4 (zero Ty.str)) 0 { data := { toList := [110, 111, 110, 99, 101] } }) 1 secret) 2 (aP (c8 (Ty.int IntKind.u8) id 0 (↑32 : Int)))) 3 (aP (List.set (List.replicate 1 (zero (Ty.int IntKind.u8))) 0 (IntKind.wrap IntKind.u8 host))))) fun (q3 : den tId) ↦ ab.req (bc 0 16 (↑32 : Int)) (ab.ret (K.val (Ty.pair Ty.str (Ty.pair af Ty.unit)) (aP (c8 (Ty.int IntKind.u8) (jG (List.set (List.set (List.set (List.set (List.replicate 4 (zero Ty.str)) 0 { data := { toList := [110, 111, 110, 99, 101] } }) 1 secret) 2 (aP (c8 (Ty.int IntKind.u8) id 0 (↑32 : Int)))) 3 (aP (List.set (List.replicate 1 (zero (Ty.int IntKind.u8))) 0 (IntKind.wrap IntKind.u8 host))))) 0 16), 0, PUnit.unit)))))))
theorem rc (secret : den Ty.str) (id : den tId) (host : den af) : ay nm tH 5000 [] mi (aF jo) (Env.of (aW mt (secret, id, host, ()) 0) []) = nO secret id host := by kernel_rfl
end Go.Proofs.YtnakjijahkaoaaaDoor
namespace Go.Proofs.YtnakjijahkaoaaaDoor
open Go Go.RowKit
theorem hH (xs : List Int) : (aP xs).size = xs.length := by
 show (xs.map _).toArray.size = _
 rw [List.size_toArray, List.length_map]
theorem wS (xs : List Int) (h : Nat) : (c8 (.int .u8) xs 0 (h : Int)).length ≤ h := by
 unfold c8 eF
 rw [List.length_drop, List.length_take]
 omega
theorem p6 {l : List ByteArray} {n : Nat} (h : ∀ x ∈ l, x.size ≤ n) (hn : l.length * n ≤ 900000) (hl : l.length ≤ 1000000) : l.length ≤ 1000000 ∧ ByteArray.size (bh l e0) ≤ 900000 :=
 ⟨hl, Nat.le_trans (zK n l h) hn⟩
def BF : ByteArray := ⟨⟨[108, 101, 102, 116]⟩⟩
def Bs : ByteArray := ⟨⟨[114, 105, 103, 104, 116]⟩⟩
def Bj : ByteArray := ⟨⟨[110, 111, 110, 99, 101]⟩⟩
def vC (a : List Int) : ByteArray := aP (c8 (.int .u8) a 0 16)
def pg (word : ByteArray) (a : List Int) : List Int := over (zero tId) 0 (List.take 16 (c8 (.int .u8) (jG [word, vC a]) 0 32))
noncomputable abbrev eI : bp := ⟨nL, nt, fun x => (pg x.1 x.2.1, ()), fun x => ByteArray.size x.1 ≤ 1000, false⟩
theorem oU : aG prog gl ep eI :=
 cD (S := eI) (uO n5) (fx := nK) tU (by kernel_rfl) (fun h => by cases h) (T := fun x => oF x.1 x.2.1) (fun x => rz x.1 x.2.1) fun O w0 x _ hp => by
  obtain ⟨word, a, ⟨⟩⟩ := x
  have hp : word.size ≤ 1000 := hp
  have hk : (vC a).size ≤ 16 := by unfold vC; rw [hH]; exact wS a 16
  refine ⟨⟨by decide, by decide, by decide⟩, p6 (l := [word, vC a]) (n := 1000) (fun x hx => ?_) (show 2 * 1000 ≤ 900000 by decide) (show 2 ≤ 1000000 by decide), bw ⟨⟨by decide, by decide, by decide⟩, ⟨by decide, by decide, by decide⟩, _, rfl, rfl⟩⟩
  rcases List.mem_cons.1 hx with rfl | hx
  ·exact hp
  ·rcases List.mem_cons.1 hx with rfl | hx
   ·omega
   ·cases hx
def uv (secret : ByteArray) (id : List Int) (host : Int) : List ByteArray := [Bj, secret, aP (c8 (.int .u8) id 0 32), aP [IntKind.wrap .u8 host]]
def ax (secret : ByteArray) (id : List Int) (host : Int) : ByteArray × Int :=
 if host < 0 ∨ 16 ≤ host then (e0, 1) else if 64 < secret.size then (e0, 2) else (aP (c8 (.int .u8) (jG (uv secret id host)) 0 16), 0)
noncomputable abbrev dJ : bp := ⟨mt, my, fun x => ((ax x.1 x.2.1 x.2.2.1).1, (ax x.1 x.2.1 x.2.2.1).2, ()), fun _ => True, true⟩
theorem nE : aG prog gl dH dJ :=
 cD (S := dJ) (ua n5) (fx := mi) sR (by kernel_rfl) (fun _ _ => trivial) (T := fun x => nO x.1 x.2.1 x.2.2.1) (fun x => rc x.1 x.2.1 x.2.2.1) fun O w0 x _ _ => by
  obtain ⟨secret, id, host, ⟨⟩⟩ := x
  have key : ∀ host : Int, (decide (host < 0 ∨ 16 ≤ host)) = bif decide (host < 0) then true else decide (16 ≤ host) := fun host => by
   by_cases h1 : host < 0
   ·rw [decide_eq_true h1, decide_eq_true (.inl h1)]; rfl
   ·rw [decide_eq_false h1]
    rw [decide_eq_decide.2 (show (host < 0 ∨ 16 ≤ host) ↔ 16 ≤ host by omega)]; rfl
  refine ⟨fun h => ⟨_, rfl, ?_⟩, fun h => ⟨fun h2 => ⟨_, rfl, ?_⟩, fun h2 => ⟨⟨by decide, by decide, by decide⟩, ?_, bw ⟨⟨by decide, by decide, by decide⟩, _, rfl, ?_⟩⟩⟩⟩
  ·have h := of_decide_eq_true ((key host).trans h)
   show (e0, (1 : Int), ()) = ((ax secret id host).1, (ax secret id host).2, ())
   unfold ax
   rw [if_pos h]
  ·have h := of_decide_eq_false ((key host).trans h)
   have h2 : (64 : Int) < (secret.size : Int) := of_decide_eq_true h2
   show (e0, (2 : Int), ()) = ((ax secret id host).1, (ax secret id host).2, ())
   unfold ax
   rw [if_neg h, if_pos (by omega)]
  ·have h2 : ¬ (64 : Int) < (secret.size : Int) := of_decide_eq_false h2
   refine p6 (l := uv secret id host) (n := 64) (fun x hx => ?_) (show 4 * 64 ≤ 900000 by decide) (show 4 ≤ 1000000 by decide)
   rcases List.mem_cons.1 hx with rfl | hx
   ·decide
   ·rcases List.mem_cons.1 hx with rfl | hx
    ·omega
    ·rcases List.mem_cons.1 hx with rfl | hx
     ·rw [hH]
      exact Nat.le_trans (wS id 32) (by decide)
     ·rcases List.mem_cons.1 hx with rfl | hx
      ·rw [hH]; exact show 1 ≤ 64 by decide
      ·cases hx
  ·have h := of_decide_eq_false ((key host).trans h)
   have h2 : ¬ (64 : Int) < (secret.size : Int) := of_decide_eq_false h2
   show (_, (0 : Int), ()) = ((ax secret id host).1, (ax secret id host).2, ())
   unfold ax
   rw [if_neg h, if_neg (by omega)]
   rfl
end Go.Proofs.YtnakjijahkaoaaaDoor
namespace Go.Proofs.YtnakjijahkaoaaaDoor
open Go Go.RowKit
noncomputable abbrev nF : Fx := { fn := kC, ann := { } }
noncomputable abbrev oh : be := { D := { T := bM, F := [(ep, eI)], R := [], ovl := [], G := gl }, inl := [] }
noncomputable abbrev vT : bO := .data nN
theorem uE (h_proof_made : aG prog gl ep eI) : XOk prog oh := xok (aS (bl bq aX) h_proof_made) (by kernel_rfl) a6 bo bt
noncomputable def oX (a : den tId) : ab := ab.req (ByteArray.size { data := { toList := [108, 101, 102, 116] } } ≤ 1000) (ab.ret (K.val (Ty.pair tId Ty.unit) (pg { data := { toList := [108, 101, 102, 116] } } a, PUnit.unit)))
theorem ry (a : den tId) : ay oh vT 5000 [] nF (aF kC) (Env.of (aW nr (a, ()) 0) []) = oX a := by kernel_rfl
noncomputable abbrev l8 : Fx := { fn := jr, ann := { } }
noncomputable abbrev nw : be := { D := { T := bM, F := [(ep, eI)], R := [], ovl := [], G := gl }, inl := [] }
noncomputable abbrev uf : bO := .data lW
theorem t6 (h_proof_made : aG prog gl ep eI) : XOk prog nw := xok (aS (bl bq aX) h_proof_made) (by kernel_rfl) a6 bo bt
noncomputable def nk (a : den tId) : ab := ab.req (ByteArray.size { data := { toList := [114, 105, 103, 104, 116] } } ≤ 1000) (ab.ret (K.val (Ty.pair tId Ty.unit) (pg { data := { toList := [114, 105, 103, 104, 116] } } a, PUnit.unit)))
theorem qV (a : den tId) : ay nw uf 5000 [] l8 (aF jr) (Env.of (aW lX (a, ()) 0) []) = nk a := by kernel_rfl
end Go.Proofs.YtnakjijahkaoaaaDoor
namespace Go.Proofs.YtnakjijahkaoaaaDoor
open Go Go.RowKit
def mr (a : List Int) : List Int := pg BF a
def sD (a : List Int) : List Int := pg Bs a
noncomputable abbrev g7 : bp := ⟨nr, nN, fun x => (mr x.1, ()), fun _ => True, true⟩
noncomputable abbrev gx : bp := ⟨lX, lW, fun x => (sD x.1, ()), fun _ => True, true⟩
theorem vb : aG prog gl ie g7 :=
 cD (S := g7) (uE oU) (fx := nF) tP (by kernel_rfl) (fun _ _ => trivial) (T := fun x => oX x.1) (fun x => ry x.1) fun O w0 x _ _ => ⟨by decide, _, rfl, rfl⟩
theorem t8 : aG prog gl gz gx :=
 cD (S := gx) (t6 oU) (fx := l8) sM (by kernel_rfl) (fun _ _ => trivial) (T := fun x => nk x.1) (fun x => qV x.1) fun O w0 x _ _ => ⟨by decide, _, rfl, rfl⟩
def kH (f t : List Int) : Bool := bif eqb bH (cU t) (cU (mr f)) then true else eqb bH (cU f) (cU (sD t))
noncomputable abbrev gA : bp := ⟨mc, mE, fun x => (kH x.1 x.2.1, ()), fun _ => True, true⟩
end Go.Proofs.YtnakjijahkaoaaaDoor
namespace Go.Proofs.YtnakjijahkaoaaaDoor
open Go Go.RowKit
noncomputable abbrev mg : Fx := { fn := jt, ann := { } }
noncomputable abbrev ns : be := { D := { T := bM, F := [(gt, gy), (ie, g7), (gz, gx)], R := [], ovl := [], G := gl }, inl := [] }
noncomputable abbrev ue : bO := .data mE
theorem tX (h_proof_keyOf : aG prog gl gt gy) (h_proof_Left : aG prog gl ie g7) (h_proof_Right : aG prog gl gz gx) : XOk prog ns := xok (aS (aS (aS (bl bq aX) h_proof_Right) h_proof_Left) h_proof_keyOf) (by kernel_rfl) a6 bo bt
noncomputable def nC (a : den tId) (b : den tId) : ab := ab.req True (ab.req True (ab.req True (ab.req (kV [(eqb bH (cU b) (cU (mr a)), false)] True) (ab.req (kV [(eqb bH (cU b) (cU (mr a)), false)] True) (ab.req (kV [(eqb bH (cU b) (cU (mr a)), false)] True) (ab.ret (K.val (Ty.pair Ty.bool Ty.unit) (bif eqb bH (cU b) (cU (mr a)) then true else eqb bH (cU a) (cU (sD b)), PUnit.unit))))))))
theorem qG (a : den tId) (b : den tId) : ay ns ue 5000 [] mg (aF jt) (Env.of (aW mc (a, b, ()) 0) []) = nC a b := by kernel_rfl
end Go.Proofs.YtnakjijahkaoaaaDoor
namespace Go.Proofs.YtnakjijahkaoaaaDoor
open Go Go.RowKit
theorem tJ : aG prog gl gE gA :=
 cD (S := gA) (tX (bA tL) vb t8) (fx := mg) sv (by kernel_rfl) (fun _ _ => trivial) (T := fun x => nC x.1 x.2.1) (fun x => qG x.1 x.2.1) fun O w0 x _ _ =>
  ⟨trivial, trivial, trivial, fun _ => trivial, fun _ => trivial, fun _ => trivial, _, rfl, rfl⟩
theorem zx (h : List Int) : ∀ n : Nat, (su h n).length = 32 := fun n => by
 induction n with
 | zero => rfl
 | succ n ih => exact (List.length_set ..).trans ih
theorem Be (l : List ByteArray) : (jG l).length = 32 := by
 unfold jG xV
 exact zx _ _
theorem yR (secret : ByteArray) (id : List Int) (host : Int) : (aP (c8 (.int .u8) (jG (uv secret id host)) 0 16)).size = 16 := by
 rw [hH]
 unfold c8 eF
 have e16 : Int.toNat 16 = 16 := rfl
 have e0 : Int.toNat 0 = 0 := rfl
 rw [e16, e0, List.length_drop, List.length_take, Be]
 rfl
end Go.Proofs.YtnakjijahkaoaaaDoor
namespace Go.Proofs.YtnakjijahkaoaaaDoor
open Go Go.RowKit
end Go.Proofs.YtnakjijahkaoaaaDoor
namespace Go.Proofs.YtnakjijahkaoaaaDoor
open Go Go.RowKit
end Go.Proofs.YtnakjijahkaoaaaDoor
namespace Go.Proofs.YtnakjijahkaoaaaDoor
open Go Go.RowKit
def cH (a : List Int) : ByteArray := vC a
def jf (l : List ByteArray) (s : ByteArray) : Bool := l.any fun x => decide (x = s)
theorem qx {l : List ByteArray} {s : ByteArray} : jf l s = true ↔ s ∈ l := by
 unfold jf
 rw [List.any_eq_true]
 exact ⟨fun ⟨x, hx, e⟩ => of_decide_eq_true e ▸ hx, fun h => ⟨s, h, decide_eq_true rfl⟩⟩
theorem vU {l : List ByteArray} {s : ByteArray} : jf l s = false ↔ s ∉ l := by
 rw [← qx]
 cases jf l s <;> simp
def stF (now : List ByteArray) (s : List ByteArray × List ByteArray) (x : Lk) : List ByteArray × List ByteArray :=
 if (jf now (cH x.1) && !jf s.1 (cH x.2.1)) = true then (s.1 ++ [cH x.2.1], s.2 ++ [cH x.2.1]) else s
theorem wX (now : List ByteArray) : ∀ (l : List Lk) (s : List ByteArray × List ByteArray), ∃ d : List ByteArray, l.foldl (stF now) s = (s.1 ++ d, s.2 ++ d) ∧
    (∀ x ∈ l, cH x.1 ∈ now → cH x.2.1 ∈ s.1 ++ d) ∧ (∀ t ∈ d, ∃ x ∈ l, cH x.1 ∈ now ∧ cH x.2.1 = t) ∧ (s.1.Nodup → (s.1 ++ d).Nodup)
  | [], s => ⟨[], by simp, (fun x hx => by cases hx), (fun t ht => by cases ht), fun h => by simpa using h⟩
  | x :: l, s => by
    rw [List.foldl_cons]
    obtain ⟨d, e, h1, h2, h3⟩ := wX now l (stF now s x)
    by_cases hc : (jf now (cH x.1) && !jf s.1 (cH x.2.1)) = true
    · have es : stF now s x = (s.1 ++ [cH x.2.1], s.2 ++ [cH x.2.1]) := if_pos hc
      rw [es] at e h1 h3 ⊢
      rw [Bool.and_eq_true, qx, Bool.not_eq_true', vU] at hc
      refine ⟨cH x.2.1 :: d, by rw [e, List.append_assoc, List.append_assoc]; rfl, fun y hy hn => ?_, fun t ht => ?_, fun hd => ?_⟩
      · rcases List.mem_cons.1 hy with rfl | hy
        · exact List.mem_append.2 (.inr List.mem_cons_self)
        · have := h1 y hy hn
          rwa [List.append_assoc] at this
      · rcases List.mem_cons.1 ht with rfl | ht
        · exact ⟨x, List.mem_cons_self, hc.1, rfl⟩
        · obtain ⟨y, hy, h⟩ := h2 t ht
          exact ⟨y, List.mem_cons_of_mem _ hy, h⟩
      · have := h3 (by
          rw [List.nodup_append]
          exact ⟨hd, by simp, fun a ha b hb => by rw [List.mem_singleton.1 hb]; exact fun e => hc.2 (e ▸ ha)⟩)
        rwa [List.append_assoc] at this
    · have es : stF now s x = s := if_neg hc
      rw [es] at e h1 h3 ⊢
      refine ⟨d, e, fun y hy hn => ?_, fun t ht => ?_, h3⟩
      · rcases List.mem_cons.1 hy with rfl | hy
        · rw [Bool.and_eq_true, qx, Bool.not_eq_true', vU] at hc
          exact List.mem_append.2 (.inl (Classical.byContradiction fun hn' => hc ⟨hn, hn'⟩))
        · exact h1 y hy hn
      · obtain ⟨y, hy, h⟩ := h2 t ht
        exact ⟨y, List.mem_cons_of_mem _ hy, h⟩
structure zJ (l : List Lk) (k : ByteArray) (n : Nat) (now out : List ByteArray) : Prop where
 nd : out.Nodup
 sub : ∀ t ∈ out, ∃ x ∈ l, cH x.2.1 = t
 fuel : now = [] ∨ l.length + 1 ≤ out.length + n
theorem zJ.next {l : List Lk} {k : ByteArray} {n : Nat} {now out : List ByteArray} (h : zJ l k (n + 1) now out) (hn : now ≠ []) : zJ l k n (l.foldl (stF now) (out, [])).2 (l.foldl (stF now) (out, [])).1 := by
 obtain ⟨d, e, h1, h2, h3⟩ := wX now l (out, [])
 rw [e]
 have hsub : ∀ t ∈ out ++ d, ∃ x ∈ l, cH x.2.1 = t := fun t ht => by
  rcases List.mem_append.1 ht with ht | ht
  ·exact h.sub t ht
  ·obtain ⟨x, hx, _, e⟩ := h2 t ht
   exact ⟨x, hx, e⟩
 refine ⟨h3 h.nd, hsub, ?_⟩
 rcases h.fuel with h | h
 ·exact absurd h hn
 ·show [] ++ d = [] ∨ l.length + 1 ≤ (out ++ d).length + n
  by_cases hd : d = []
  ·exact .inl hd
  ·have : 0 < d.length := List.length_pos_iff.2 hd
   rw [List.length_append]
   exact .inr (by omega)
end Go.Proofs.YtnakjijahkaoaaaDoor
namespace Go.Proofs.YtnakjijahkaoaaaDoor
open Go Go.RowKit
end Go.Proofs.YtnakjijahkaoaaaDoor
namespace Go.Proofs.YtnakjijahkaoaaaDoor
open Go Go.RowKit
inductive Rch (l : List Lk) : ByteArray → ByteArray → Prop where
 | one (x : Lk) (h : x ∈ l) : Rch l (cH x.1) (cH x.2.1)
 | step (x : Lk) (h : x ∈ l) {b : ByteArray} (r : Rch l (cH x.2.1) b) : Rch l (cH x.1) b
theorem Rch.trans {l : List Lk} {a b c : ByteArray} (h : Rch l a b) (k : Rch l b c) : Rch l a c := by
 induction h with
 | one y hy => exact .step y hy k
 | step y hy _ ih => exact .step y hy (ih k)
open Classical in
end Go.Proofs.YtnakjijahkaoaaaDoor
namespace Go.Proofs.YtnakjijahkaoaaaDoor
open Go Go.RowKit
end Go.Proofs.YtnakjijahkaoaaaDoor
namespace Go.Proofs.YtnakjijahkaoaaaDoor
open Go Go.RowKit
noncomputable abbrev m7 : au := { T := bM, F := [], n := (jM).ntmps }
noncomputable abbrev sd : Ann := { }
theorem xQ : cv prog m7 := BT ((bl bq aX))
theorem wx : dG m7 = true := by kernel_rfl
noncomputable def r6 (e : den al) : eR := eR.ite (decide (Prod.fst e = 1)) (eR.ret (K.val (Ty.pair Ty.bool Ty.unit) (decide (Prod.fst (Prod.snd (Prod.snd e)) = 0), PUnit.unit))) (eR.ite (decide (Prod.fst e = 2)) (eR.ret (K.val (Ty.pair Ty.bool Ty.unit) (bif bif eqb tId (Prod.fst (Prod.snd e)) (List.replicate 32 (zero (Ty.int IntKind.u8))) then decide (0 ≤ Prod.fst (Prod.snd (Prod.snd e))) else false then decide (Prod.fst (Prod.snd (Prod.snd e)) < 16) else false, PUnit.unit))) (eR.ret (K.val (Ty.pair Ty.bool Ty.unit) (false, PUnit.unit))))
theorem tK (e : den al) : gf m7 sd pW jM 1000 (aF jM) (Env.of (aW qc (e, ()) 0) []) = r6 e := by kernel_rfl
end Go.Proofs.YtnakjijahkaoaaaDoor
namespace Go.Proofs.YtnakjijahkaoaaaDoor
open Go Go.RowKit
def kR (e : den al) : Bool :=
 if e.1 = 1 then decide (e.2.2.1 = 0)
 else if e.1 = 2 then decide (e.2.1 = List.replicate 32 0) && decide (0 ≤ e.2.2.1) && decide (e.2.2.1 < 16)
 else false
noncomputable abbrev im : bp := ⟨qc, pW, fun x => (kR x.1, ()), fun _ => True, true⟩
theorem Bd (x y : den tId) : eqb tId x y = decide (x = y) := by
 have := gP (t := tId) rfl x y
 cases h : eqb tId x y
 ·have : ¬ x = y := fun e => by rw [this.2 e] at h; cases h
  simp [this]
 ·simp [this.1 h]
theorem jL : aG prog [] fX im :=
 BO xQ wx wL (by kernel_rfl) (fun _ _ => trivial) (A := sd) (T := fun x => r6 x.1) (fun x => tK x.1) fun O w0 x _ _ => by
  obtain ⟨e, ⟨⟩⟩ := x
  refine ⟨fun h => ⟨_, rfl, ?_⟩, fun h => ⟨fun h' => ⟨_, rfl, ?_⟩, fun h' => ⟨_, rfl, ?_⟩⟩⟩
  ·have h : e.1 = 1 := of_decide_eq_true h
   simp [kR, h]
  ·have h : ¬ e.1 = 1 := of_decide_eq_false h
   have h' : e.1 = 2 := of_decide_eq_true h'
   rw [Bd]
   simp [kR, h', zero, cond_eq_ite]
   rfl
  ·have h : ¬ e.1 = 1 := of_decide_eq_false h
   have h' : ¬ e.1 = 2 := of_decide_eq_false h'
   simp [kR, h, h']
end Go.Proofs.YtnakjijahkaoaaaDoor
namespace Go.Proofs.YtnakjijahkaoaaaDoor
open Go Go.RowKit
end Go.Proofs.YtnakjijahkaoaaaDoor
namespace Go.Proofs.YtnakjijahkaoaaaDoor
open Go Go.RowKit
end Go.Proofs.YtnakjijahkaoaaaDoor
namespace Go.Proofs.YtnakjijahkaoaaaDoor
open Go Go.RowKit
end Go.Proofs.YtnakjijahkaoaaaDoor
namespace Go.Proofs.YtnakjijahkaoaaaDoor
open Go Go.RowKit
abbrev Ent := den al
def gC (l : List Ent) : Bool := l.all kR
def fN (l : List Ent) : Bool := decide (1 ≤ l.length) && decide (l.length ≤ 4) && gC l
noncomputable abbrev iT : bp := ⟨oW, kh, fun x => (gC x.1, ()), fun x => x.1.length ≤ 1000000, false⟩
noncomputable abbrev gD : bp := ⟨mC, mD, fun x => (fN x.1, ()), fun x => x.1.length ≤ 1000000, false⟩
end Go.Proofs.YtnakjijahkaoaaaDoor
namespace Go.Proofs.YtnakjijahkaoaaaDoor
open Go Go.RowKit
noncomputable abbrev bU : Fx := { fn := bv, ann := { } }
noncomputable abbrev bJ : Fx := { fn := br, ann := { loops := [(2, { keep := [0, 1, 7, 8] })] } }
noncomputable abbrev sT : Fx := { fn := nA, ann := { } }
noncomputable abbrev fL : Fx := { fn := fj, ann := { } }
noncomputable abbrev iR : be := { D := { T := bM, F := [(fX, im)], R := [], ovl := [] }, inl := [(eK, bU), (fK, bJ), (ff, sT)] }
noncomputable abbrev qe : bO := .data kh
theorem lH (h_stack_Is : aG prog [] fX im) : XOk prog iR := xok (aS (bl bq aX) h_stack_Is) (by kernel_rfl) a6 (jU iN (by kernel_rfl) (jU jz (by kernel_rfl) (jU sU (by kernel_rfl) bo))) bt
noncomputable def p4 (l : den (Ty.slc al)) : ab := ab.loop [{ fx := bU, todo := f7 bv 1 2, dst := some 7, s := ofS [] }, { fx := fL, todo := f7 fj 1 1, dst := some 4, s := ofS [] }] bJ (lp br 2) [(0, K.val (Ty.slc al) l), (1, K.fnc ff), (7, K.val af (lnx al l)), (8, K.val af 0)] []
theorem sB (l : den (Ty.slc al)) : ay iR qe 5000 [] fL (aF fj) (Env.of (aW oW (l, ()) 0) []) = p4 l := by kernel_rfl
noncomputable def c4 (v0 : den (Ty.slc al)) (v7 : den af) (v8 : den af) : List bm := [{ fx := bU, todo := f7 bv 1 2, dst := some 7, s := ofS [] }, { fx := fL, todo := f7 fj 1 1, dst := some 4, s := ofS [] }]
noncomputable def cY (v0 : den (Ty.slc al)) (v7 : den af) (v8 : den af) : Env := Env.of [(0, K.val (Ty.slc al) v0), (1, K.fnc ff), (7, K.val af v7), (8, K.val af v8)] []
noncomputable def fG (v0 : den (Ty.slc al)) (v7 : den af) (v8 : den af) : ab := ab.ite (decide (v8 < v7)) (ab.req (inB v8 (lnx al v0)) (ab.req True (ab.ite (!kR (el al v0 v8)) (ab.ret (K.val (Ty.pair Ty.bool Ty.unit) (!decide (0 ≤ v8), PUnit.unit))) (ab.loop [{ fx := bU, todo := f7 bv 1 2, dst := some 7, s := ofS [] }, { fx := fL, todo := f7 fj 1 1, dst := some 4, s := ofS [] }] bJ (lp br 2) [(0, K.val (Ty.slc al) v0), (1, K.fnc ff), (7, K.val af v7), (8, K.val af (IntKind.wrap IntKind.i64 (v8 + 1)))] [])))) (ab.ret (K.val (Ty.pair Ty.bool Ty.unit) (!decide (0 ≤ -1), PUnit.unit)))
theorem cF (v0 : den (Ty.slc al)) (v7 : den af) (v8 : den af) : ay iR qe 5000 (c4 v0 v7 v8) bJ (lp br 2) (cY v0 v7 v8) = fG v0 v7 v8 := by kernel_rfl
noncomputable abbrev mw : Fx := { fn := jq, ann := { } }
noncomputable abbrev nD : be := { D := { T := bM, F := [(iY, iT)], R := [], ovl := [] }, inl := [] }
noncomputable abbrev uc : bO := .data mD
theorem tN (h_stack_all : aG prog [] iY iT) : XOk prog nD := xok (aS (bl bq aX) h_stack_all) (by kernel_rfl) a6 bo bt
noncomputable def nP (l : den (Ty.slc al)) : ab := ab.req (kV [(bif decide (1 ≤ lnx al l) then decide (lnx al l ≤ 4) else false, true)] (List.length l ≤ 1000000)) (ab.ret (K.val (Ty.pair Ty.bool Ty.unit) (bif bif decide (1 ≤ lnx al l) then decide (lnx al l ≤ 4) else false then gC l else false, PUnit.unit)))
theorem qH (l : den (Ty.slc al)) : ay nD uc 5000 [] mw (aF jq) (Env.of (aW mC (l, ()) 0) []) = nP l := by kernel_rfl
end Go.Proofs.YtnakjijahkaoaaaDoor
namespace Go.Proofs.YtnakjijahkaoaaaDoor
open Go Go.RowKit
theorem zP {l : List Ent} {i : Nat} (hi : i < l.length) (h : gC (l.take i) = true) : gC (l.take (i + 1)) = kR l[i] := by
 unfold gC at h ⊢
 rw [List.take_succ_eq_append_getElem hi, List.all_append, h, List.all_cons, List.all_nil, Bool.and_true, Bool.true_and]
theorem A8 {l : List Ent} {i : Nat} (hi : i < l.length) (h : kR l[i] = false) : gC l = false := by
 unfold gC
 rw [List.all_eq_false]
 exact ⟨l[i], List.getElem_mem hi, by rw [h]; simp⟩
def uK (O : Nat → Prop) (w0 : World) (l : List Ent) (hl : l.length ≤ 1000000) :=
 PLift.up <| gS (σ := Unit) l.length (fun i _ => gC (l.take i) = true)
  (fun i _ => bG prog iR (Cx.base O w0) (eB prog O w0 kh fun y => y = (gC l, ())) (c4 l (lnx al l) (i : Nat)) bJ (lp br 2) (cY l (lnx al l) (i : Nat)))
  (fun i s hi hb ih => cx (lH jL) (cF l _ _) (by
   refine ⟨fun _ => ⟨Bt hi, trivial, fun h => ⟨_, rfl, ?_⟩, fun h => ?_⟩, fun h => ?_⟩
   ·rw [Av hi] at h
    have h1 : kR l[i] = false := by simpa using h
    rw [A8 hi h1, decide_eq_true (Int.natCast_nonneg i)]
    rfl
   ·rw [Av hi] at h
    rw [kU hi (by omega)]
    refine ih () ?_
    rw [zP hi hb]
    simpa using h
   ·rw [wU] at h
    exact absurd hi (of_decide_eq_false h)))
  (fun s hb => cx (lH jL) (cF l _ _) (by
   refine ⟨fun h => ?_, fun _ => ⟨_, rfl, ?_⟩⟩
   ·rw [wU] at h
    exact absurd (of_decide_eq_true h) (Nat.lt_irrefl _)
   ·rw [List.take_length] at hb
    rw [hb]
    rfl))
theorem vY : aG prog [] iY iT :=
 cD (S := iT) (lH jL) (fx := fL) uS (by kernel_rfl) (fun h => by cases h) (T := fun x => p4 x.1) (fun x => sB x.1) fun O w0 x _ hp =>
  (uK O w0 x.1 hp).down 0 () (Nat.zero_le _) rfl
theorem zE (l : List Ent) {a b : Bool} (ha : a = decide (1 ≤ l.length)) (hb : b = decide (l.length ≤ 4)) : (bif bif a then b else false then gC l else false) = fN l := by
 unfold fN
 rw [ha, hb]
 cases decide (1 ≤ l.length) <;> cases decide (l.length ≤ 4) <;> cases gC l <;> rfl
theorem wZ (l : List Ent) : decide ((1 : Int) ≤ lnx al l) = decide (1 ≤ l.length) ∧ decide (lnx al l ≤ 4) = decide (l.length ≤ 4) ∧ decide ((0 : Int) < lnx al l) = decide (1 ≤ l.length) ∧ decide (lnx al l < 5) = decide (l.length ≤ 4) := by
 have h : lnx al l = (l.length : Int) := rfl
 rw [h]
 refine ⟨?_, ?_, ?_, ?_⟩ <;> (rw [Bool.eq_iff_iff, decide_eq_true_eq, decide_eq_true_eq]; omega)
theorem tW : aG prog [] gv gD :=
 cD (S := gD) (tN vY) (fx := mw) sO (by kernel_rfl) (fun h => by cases h) (T := fun x => nP x.1) (fun x => qH x.1) fun O w0 x _ hp =>
  ⟨fun _ => hp, _, rfl, Prod.ext (zE x.1 (wZ x.1).1 (wZ x.1).2.1) rfl⟩
end Go.Proofs.YtnakjijahkaoaaaDoor
namespace Go.Proofs.YtnakjijahkaoaaaDoor
open Go Go.RowKit
noncomputable abbrev nI : Fx := { fn := kF, ann := { } }
noncomputable abbrev oR : be := { D := { T := bM, F := [], R := [], ovl := [] }, inl := [] }
noncomputable abbrev uI : bO := .data nR
theorem uG : XOk prog oR := xok ((bl bq aX)) (by kernel_rfl) a6 bo bt
noncomputable def n8 : ab := ab.ret (K.val (Ty.pair (Ty.mp af cp) Ty.unit) (cq (cq (cq (cq (cq (cq (cq (cq (cq (cq [] 1 (Prod.fst (zero (Ty.pair Ty.bool (Ty.pair Ty.bool (Ty.pair Ty.bool (Ty.pair Ty.bool (Ty.pair Ty.bool (Ty.pair Ty.bool Ty.unit))))))), Prod.fst (Prod.snd (zero (Ty.pair Ty.bool (Ty.pair Ty.bool (Ty.pair Ty.bool (Ty.pair Ty.bool (Ty.pair Ty.bool (Ty.pair Ty.bool Ty.unit)))))))), true, true, Prod.fst (Prod.snd (Prod.snd (Prod.snd (Prod.snd (zero (Ty.pair Ty.bool (Ty.pair Ty.bool (Ty.pair Ty.bool (Ty.pair Ty.bool (Ty.pair Ty.bool (Ty.pair Ty.bool Ty.unit))))))))))), true, Prod.snd (Prod.snd (Prod.snd (Prod.snd (Prod.snd (Prod.snd (zero (Ty.pair Ty.bool (Ty.pair Ty.bool (Ty.pair Ty.bool (Ty.pair Ty.bool (Ty.pair Ty.bool (Ty.pair Ty.bool Ty.unit)))))))))))))) 2 (true, true, Prod.fst (Prod.snd (Prod.snd (zero (Ty.pair Ty.bool (Ty.pair Ty.bool (Ty.pair Ty.bool (Ty.pair Ty.bool (Ty.pair Ty.bool (Ty.pair Ty.bool Ty.unit))))))))), true, Prod.snd (Prod.snd (Prod.snd (Prod.snd (zero (Ty.pair Ty.bool (Ty.pair Ty.bool (Ty.pair Ty.bool (Ty.pair Ty.bool (Ty.pair Ty.bool (Ty.pair Ty.bool Ty.unit)))))))))))) 3 (true, true, Prod.fst (Prod.snd (Prod.snd (zero (Ty.pair Ty.bool (Ty.pair Ty.bool (Ty.pair Ty.bool (Ty.pair Ty.bool (Ty.pair Ty.bool (Ty.pair Ty.bool Ty.unit))))))))), Prod.fst (Prod.snd (Prod.snd (Prod.snd (zero (Ty.pair Ty.bool (Ty.pair Ty.bool (Ty.pair Ty.bool (Ty.pair Ty.bool (Ty.pair Ty.bool (Ty.pair Ty.bool Ty.unit)))))))))), true, Prod.snd (Prod.snd (Prod.snd (Prod.snd (Prod.snd (zero (Ty.pair Ty.bool (Ty.pair Ty.bool (Ty.pair Ty.bool (Ty.pair Ty.bool (Ty.pair Ty.bool (Ty.pair Ty.bool Ty.unit))))))))))))) 4 (true, true, Prod.fst (Prod.snd (Prod.snd (zero (Ty.pair Ty.bool (Ty.pair Ty.bool (Ty.pair Ty.bool (Ty.pair Ty.bool (Ty.pair Ty.bool (Ty.pair Ty.bool Ty.unit))))))))), true, true, Prod.snd (Prod.snd (Prod.snd (Prod.snd (Prod.snd (zero (Ty.pair Ty.bool (Ty.pair Ty.bool (Ty.pair Ty.bool (Ty.pair Ty.bool (Ty.pair Ty.bool (Ty.pair Ty.bool Ty.unit))))))))))))) 5 (true, true, Prod.snd (Prod.snd (zero (Ty.pair Ty.bool (Ty.pair Ty.bool (Ty.pair Ty.bool (Ty.pair Ty.bool (Ty.pair Ty.bool (Ty.pair Ty.bool Ty.unit)))))))))) 6 (true, true, Prod.fst (Prod.snd (Prod.snd (zero (Ty.pair Ty.bool (Ty.pair Ty.bool (Ty.pair Ty.bool (Ty.pair Ty.bool (Ty.pair Ty.bool (Ty.pair Ty.bool Ty.unit))))))))), Prod.fst (Prod.snd (Prod.snd (Prod.snd (zero (Ty.pair Ty.bool (Ty.pair Ty.bool (Ty.pair Ty.bool (Ty.pair Ty.bool (Ty.pair Ty.bool (Ty.pair Ty.bool Ty.unit)))))))))), true, Prod.snd (Prod.snd (Prod.snd (Prod.snd (Prod.snd (zero (Ty.pair Ty.bool (Ty.pair Ty.bool (Ty.pair Ty.bool (Ty.pair Ty.bool (Ty.pair Ty.bool (Ty.pair Ty.bool Ty.unit))))))))))))) 7 (true, Prod.snd (zero (Ty.pair Ty.bool (Ty.pair Ty.bool (Ty.pair Ty.bool (Ty.pair Ty.bool (Ty.pair Ty.bool (Ty.pair Ty.bool Ty.unit))))))))) 8 (true, Prod.fst (Prod.snd (zero (Ty.pair Ty.bool (Ty.pair Ty.bool (Ty.pair Ty.bool (Ty.pair Ty.bool (Ty.pair Ty.bool (Ty.pair Ty.bool Ty.unit)))))))), Prod.fst (Prod.snd (Prod.snd (zero (Ty.pair Ty.bool (Ty.pair Ty.bool (Ty.pair Ty.bool (Ty.pair Ty.bool (Ty.pair Ty.bool (Ty.pair Ty.bool Ty.unit))))))))), true, Prod.snd (Prod.snd (Prod.snd (Prod.snd (zero (Ty.pair Ty.bool (Ty.pair Ty.bool (Ty.pair Ty.bool (Ty.pair Ty.bool (Ty.pair Ty.bool (Ty.pair Ty.bool Ty.unit)))))))))))) 9 (true, Prod.fst (Prod.snd (zero (Ty.pair Ty.bool (Ty.pair Ty.bool (Ty.pair Ty.bool (Ty.pair Ty.bool (Ty.pair Ty.bool (Ty.pair Ty.bool Ty.unit)))))))), Prod.fst (Prod.snd (Prod.snd (zero (Ty.pair Ty.bool (Ty.pair Ty.bool (Ty.pair Ty.bool (Ty.pair Ty.bool (Ty.pair Ty.bool (Ty.pair Ty.bool Ty.unit))))))))), true, Prod.snd (Prod.snd (Prod.snd (Prod.snd (zero (Ty.pair Ty.bool (Ty.pair Ty.bool (Ty.pair Ty.bool (Ty.pair Ty.bool (Ty.pair Ty.bool (Ty.pair Ty.bool Ty.unit)))))))))))) 10 (true, Prod.fst (Prod.snd (zero (Ty.pair Ty.bool (Ty.pair Ty.bool (Ty.pair Ty.bool (Ty.pair Ty.bool (Ty.pair Ty.bool (Ty.pair Ty.bool Ty.unit)))))))), Prod.fst (Prod.snd (Prod.snd (zero (Ty.pair Ty.bool (Ty.pair Ty.bool (Ty.pair Ty.bool (Ty.pair Ty.bool (Ty.pair Ty.bool (Ty.pair Ty.bool Ty.unit))))))))), true, Prod.snd (Prod.snd (Prod.snd (Prod.snd (zero (Ty.pair Ty.bool (Ty.pair Ty.bool (Ty.pair Ty.bool (Ty.pair Ty.bool (Ty.pair Ty.bool (Ty.pair Ty.bool Ty.unit))))))))))), PUnit.unit))
theorem rI : ay oR uI 5000 [] nI (aF kF) (Env.of (aW nJ () 0) []) = n8 := by kernel_rfl
noncomputable abbrev iz : Fx := { fn := fV, ann := { frz := [(1, [3])] } }
noncomputable abbrev jb : be := { D := { T := bM, F := [], R := [], ovl := [] }, inl := [] }
noncomputable abbrev oz : bO := .data iw
theorem o5 : XOk prog jb := xok ((bl bq aX)) (by kernel_rfl) a6 bo bt
noncomputable def i7 (m : den aK) (nonce : den Ty.str) (good : den (Ty.ref af)) : ab := ab.ite (bif decide (Prod.fst (Prod.fst (Prod.snd (Prod.snd m))) = 2) then eqb Ty.str (Prod.fst (Prod.snd (Prod.snd (Prod.snd (Prod.snd (Prod.snd m)))))) nonce else false) (ab.ret (K.val (Ty.pair af Ty.unit) (good, PUnit.unit))) (ab.ret (K.val (Ty.pair af Ty.unit) (4, PUnit.unit)))
theorem lU (m : den aK) (nonce : den Ty.str) (good : den (Ty.ref af)) : ay jb oz 5000 [] iz (aF fV) (Env.of (aW iv (m, nonce, good, ()) 0) []) = i7 m nonce good := by kernel_rfl
noncomputable abbrev jv : Fx := { fn := gL, ann := { frz := [(1, [2])] } }
noncomputable abbrev kA : be := { D := { T := bM, F := [(gE, gA)], R := [], ovl := [], G := gl }, inl := [] }
noncomputable abbrev qP : bO := .data ed
theorem qN (h_proof_Links : aG prog gl gE gA) : XOk prog kA := xok (aS (bl bq aX) h_proof_Links) (by kernel_rfl) a6 bo bt
noncomputable def kG (m : den aK) (nonce : den Ty.str) : ab := ab.ite (decide (Prod.fst (Prod.fst (Prod.snd (Prod.snd m))) = 2)) (ab.ret (K.val (Ty.pair af Ty.unit) (1, PUnit.unit))) (ab.req True (ab.ite (kH (Prod.fst (Prod.snd m)) (Prod.fst (Prod.snd (Prod.fst (Prod.snd (Prod.snd m)))))) (ab.ret (K.val (Ty.pair af Ty.unit) (2, PUnit.unit))) (ab.ret (K.val (Ty.pair af Ty.unit) (4, PUnit.unit)))))
theorem nV (m : den aK) (nonce : den Ty.str) : ay kA qP 5000 [] jv (aF gL) (Env.of (aW gg (m, nonce, ()) 0) []) = kG m nonce := by kernel_rfl
end Go.Proofs.YtnakjijahkaoaaaDoor
namespace Go.Proofs.YtnakjijahkaoaaaDoor
open Go Go.RowKit
abbrev Mg := den aK
abbrev Fd := den cp
def fd (id target stack n nonce data : Bool) : Fd := (id, target, stack, n, nonce, data, ())
def cL : List (den af × den cp) := [(1, fd false false true true false true), (2, fd true true false true false false), (3, fd true true false false true false), (4, fd true true false true true false), (5, fd true true false false false false),
 (6, fd true true false false true false), (7, fd true false false false false false), (8, fd true false false true false false), (9, fd true false false true false false), (10, fd true false false true false false)]
noncomputable abbrev gX : bp := ⟨nJ, nR, fun _ => (cL, ()), fun _ => True, true⟩
theorem ve : aG prog [] hK gX :=
 cD (S := gX) uG (fx := nI) tZ (by kernel_rfl) (fun _ _ => trivial) (T := fun _ => n8) (fun _ => rI) fun O w0 x _ _ => ⟨_, rfl, by show _ = _; kernel_rfl⟩
def pv (m : Mg) : den al := m.2.2.1
def vE (m : Mg) : ByteArray := m.2.2.2.2.2.1
def kg (m : Mg) : Int := (pv m).1
def fW (m : Mg) (nonce : ByteArray) (good : Int) : Int := bif (bif decide (kg m = 2) then eqb Ty.str (vE m) nonce else false) then good else 4
noncomputable abbrev dL : bp := ⟨iv, iw, fun x => (fW x.1 x.2.1 x.2.2.1, ()), fun _ => True, true⟩
theorem ob : aG prog [] dR dL :=
 cD (S := dL) o5 (fx := iz) nX (by kernel_rfl) (fun _ _ => trivial) (T := fun x => i7 x.1 x.2.1 x.2.2.1) (fun x => lU x.1 x.2.1 x.2.2.1) fun O w0 x _ _ => by
  refine ⟨fun h => ⟨_, rfl, ?_⟩, fun h => ⟨_, rfl, ?_⟩⟩
  ·show (_, ()) = (fW x.1 x.2.1 x.2.2.1, ())
   have h : (bif decide (kg x.1 = 2) then eqb Ty.str (vE x.1) x.2.1 else false) = true := h
   unfold fW
   rw [h]
   rfl
  ·show ((4 : Int), ()) = (fW x.1 x.2.1 x.2.2.1, ())
   have h : (bif decide (kg x.1 = 2) then eqb Ty.str (vE x.1) x.2.1 else false) = false := h
   unfold fW
   rw [h]
   rfl
def dZ (m : Mg) : Int := bif decide (kg m = 2) then 1 else bif kH m.2.1 (pv m).2.1 then 2 else 4
noncomputable abbrev eP : bp := ⟨gg, ed, fun x => (dZ x.1, ()), fun _ => True, true⟩
theorem qT : aG prog gl eY eP :=
 cD (S := eP) (qN tJ) (fx := jv) pO (by kernel_rfl) (fun _ _ => trivial) (T := fun x => kG x.1 x.2.1) (fun x => nV x.1 x.2.1) fun O w0 x _ _ => by
  refine ⟨fun h => ⟨_, rfl, ?_⟩, fun h => ⟨trivial, fun h2 => ⟨_, rfl, ?_⟩, fun h2 => ⟨_, rfl, ?_⟩⟩⟩
  ·show ((1 : Int), ()) = (dZ x.1, ())
   have h : decide (kg x.1 = 2) = true := h
   unfold dZ
   rw [h]
   rfl
  ·show ((2 : Int), ()) = (dZ x.1, ())
   have h : decide (kg x.1 = 2) = false := h
   have h2 : kH x.1.2.1 (pv x.1).2.1 = true := h2
   unfold dZ
   rw [h, h2]
   rfl
  ·show ((4 : Int), ()) = (dZ x.1, ())
   have h : decide (kg x.1 = 2) = false := h
   have h2 : kH x.1.2.1 (pv x.1).2.1 = false := h2
   unfold dZ
   rw [h, h2]
   rfl
def a8 : List (den af × den (.fn (.pair aK (.pair .str .unit)) ed)) :=
 [(2, some fun x => (dZ x.1, ())), (4, some fun x => (fW x.1 x.2.1 2, ())), (6, some fun x => (fW x.1 x.2.1 3, ()))]
noncomputable abbrev fY : bp := ⟨ll, lh, fun _ => (a8, ()), fun _ => True, true⟩
end Go.Proofs.YtnakjijahkaoaaaDoor
namespace Go.Proofs.YtnakjijahkaoaaaDoor
open Go Go.RowKit
noncomputable abbrev ny : Fx := { fn := j4, ann := { frz := [(1, [1]), (2, [3])] }, share := true }
noncomputable abbrev oB : be := { D := { T := bM, F := [(hK, gX), (fX, im), (gv, gD)], R := [], ovl := [] }, inl := [] }
noncomputable abbrev uz : bO := .data jm
theorem vA (h_wire_kinds : aG prog [] hK gX) (h_stack_Is : aG prog [] fX im) (h_stack_Right : aG prog [] gv gD) : XOk prog oB := xok (aS (aS (aS (bl bq aX) h_stack_Right) h_stack_Is) h_wire_kinds) (by kernel_rfl) a6 bo bt
noncomputable def pc (m : den aK) : ab := ab.req True (ab.all (den (Ty.mp af cp)) (fun (q1 : den (Ty.mp af cp)) ↦ q1 = cL) fun (q1 : den (Ty.mp af cp)) ↦ ab.ite (!cr cL (Prod.fst m)) (ab.ret (K.val (Ty.pair Ty.bool Ty.unit) (false, PUnit.unit))) (ab.ite (bif !Prod.fst (bV cL (Prod.fst m)) then !eqb tId (Prod.fst (Prod.snd m)) (List.replicate 32 (zero (Ty.int IntKind.u8))) else false) (ab.ret (K.val (Ty.pair Ty.bool Ty.unit) (false, PUnit.unit))) (ab.ite (!eqO (Prod.fst (Prod.snd (bV cL (Prod.fst m)))) !eqb al (Prod.fst (Prod.snd (Prod.snd m))) (zero (Ty.pair af (Ty.pair tId (Ty.pair af Ty.unit))))) (ab.ret (K.val (Ty.pair Ty.bool Ty.unit) (false, PUnit.unit))) (ab.req (kV [(Prod.fst (Prod.snd (bV cL (Prod.fst m))), true)] True) (ab.ite (bif Prod.fst (Prod.snd (bV cL (Prod.fst m))) then !kR (Prod.fst (Prod.snd (Prod.snd m))) else false) (ab.ret (K.val (Ty.pair Ty.bool Ty.unit) (false, PUnit.unit))) (ab.ite (!eqO (Prod.fst (Prod.snd (Prod.snd (bV cL (Prod.fst m))))) (decide (0 < lnx al (Prod.fst (Prod.snd (Prod.snd (Prod.snd m))))))) (ab.ret (K.val (Ty.pair Ty.bool Ty.unit) (false, PUnit.unit))) (ab.req (kV [(Prod.fst (Prod.snd (Prod.snd (bV cL (Prod.fst m)))), true)] (List.length (Prod.fst (Prod.snd (Prod.snd (Prod.snd m)))) ≤ 1000000)) (ab.ite (bif Prod.fst (Prod.snd (Prod.snd (bV cL (Prod.fst m)))) then !fN (Prod.fst (Prod.snd (Prod.snd (Prod.snd m)))) else false) (ab.ret (K.val (Ty.pair Ty.bool Ty.unit) (false, PUnit.unit))) (ab.ite (bif !Prod.fst (Prod.snd (Prod.snd (Prod.snd (bV cL (Prod.fst m))))) then !decide (Prod.fst (Prod.snd (Prod.snd (Prod.snd (Prod.snd m)))) = 0) else false) (ab.ret (K.val (Ty.pair Ty.bool Ty.unit) (false, PUnit.unit))) (ab.ite (decide (Prod.fst (Prod.snd (Prod.snd (Prod.snd (Prod.snd m)))) < 0)) (ab.ret (K.val (Ty.pair Ty.bool Ty.unit) (false, PUnit.unit))) (ab.ite (decide (1099511627776 < Prod.fst (Prod.snd (Prod.snd (Prod.snd (Prod.snd m)))))) (ab.ret (K.val (Ty.pair Ty.bool Ty.unit) (false, PUnit.unit))) (ab.ite (bif Prod.fst (Prod.snd (Prod.snd (Prod.snd (Prod.snd (bV cL (Prod.fst m)))))) then !decide (aN (Prod.fst (Prod.snd (Prod.snd (Prod.snd (Prod.snd (Prod.snd m)))))) = 16) else false) (ab.ret (K.val (Ty.pair Ty.bool Ty.unit) (false, PUnit.unit))) (ab.ite (bif !Prod.fst (Prod.snd (Prod.snd (Prod.snd (Prod.snd (bV cL (Prod.fst m)))))) then !eqb Ty.str (Prod.fst (Prod.snd (Prod.snd (Prod.snd (Prod.snd (Prod.snd m)))))) { data := { toList := [] } } else false) (ab.ret (K.val (Ty.pair Ty.bool Ty.unit) (false, PUnit.unit))) (ab.ret (K.val (Ty.pair Ty.bool Ty.unit) (bif eqb Ty.str (Prod.fst (Prod.snd (Prod.snd (Prod.snd (Prod.snd (Prod.snd (Prod.snd m))))))) { data := { toList := [] } } then true else bif Prod.fst (Prod.snd (Prod.snd (Prod.snd (Prod.snd (Prod.snd (bV cL (Prod.fst m))))))) then decide (aN (Prod.fst (Prod.snd (Prod.snd (Prod.snd (Prod.snd (Prod.snd (Prod.snd m))))))) ≤ 64) else false, PUnit.unit))))))))))))))))
theorem rN (m : den aK) : ay oB uz 5000 [] ny (aF j4) (Env.of (aW nG (m, ()) 0) []) = pc m := by kernel_rfl
noncomputable abbrev pP : Fx := { fn := kw, ann := { frz := [(1, [1])] } }
noncomputable abbrev lu : Fx := { fn := iG, ann := { } }
noncomputable abbrev mF : be := { D := { T := bM, F := [(dR, dL), (eY, eP)], R := [], ovl := [], G := gl }, inl := [(kQ, pP)] }
noncomputable abbrev sW : bO := .data lh
theorem sK (h_guard_judges_1_1 : aG prog gl dR dL) (h_guard_judges_2 : aG prog gl eY eP) : XOk prog mF := xok (aS (aS (bl bq aX) h_guard_judges_2) h_guard_judges_1_1) (by kernel_rfl) a6 (jU pR (by kernel_rfl) bo) bt
noncomputable def mv : ab := ab.req (∀ (y : den (Ty.pair aK (Ty.pair Ty.str Ty.unit))), True) (ab.req (∀ (y : den (Ty.pair aK (Ty.pair Ty.str Ty.unit))), True) (ab.ret (K.val (Ty.pair (Ty.mp af (Ty.fn (Ty.pair aK (Ty.pair Ty.str Ty.unit)) (Ty.pair af Ty.unit))) Ty.unit) (cq (cq (cq [] 2 (some fun (x : den gg) ↦ (dZ (Prod.fst x), PUnit.unit))) 4 (some fun (y : den (Ty.pair aK (Ty.pair Ty.str Ty.unit))) ↦ (fW (Prod.fst y) (Prod.fst (Prod.snd y)) 2, PUnit.unit))) 6 (some fun (y : den (Ty.pair aK (Ty.pair Ty.str Ty.unit))) ↦ (fW (Prod.fst y) (Prod.fst (Prod.snd y)) 3, PUnit.unit)), PUnit.unit))))
theorem pQ : ay mF sW 5000 [] lu (aF iG) (Env.of (aW ll () 0) []) = mv := by kernel_rfl
end Go.Proofs.YtnakjijahkaoaaaDoor
namespace Go.Proofs.YtnakjijahkaoaaaDoor
open Go Go.RowKit
def BI : den al := zero (Ty.pair af (Ty.pair tId (Ty.pair af Ty.unit)))
def mf (m : Mg) : Fd := bV cL m.1
def w0 (m : Mg) : Bool := !cr cL m.1
def w1 (m : Mg) : Bool := bif !(mf m).1 then !eqb tId m.2.1 (List.replicate 32 (zero (Ty.int IntKind.u8))) else false
def w2 (m : Mg) : Bool := !eqO (mf m).2.1 (!eqb al m.2.2.1 BI)
def w3 (m : Mg) : Bool := bif (mf m).2.1 then !kR m.2.2.1 else false
def w4 (m : Mg) : Bool := !eqO (mf m).2.2.1 (decide (0 < lnx al m.2.2.2.1))
def w5 (m : Mg) : Bool := bif (mf m).2.2.1 then !fN m.2.2.2.1 else false
def mN (m : Mg) : Int := m.2.2.2.2.1
def w6 (m : Mg) : Bool := bif !(mf m).2.2.2.1 then !decide (mN m = 0) else false
def w7 (m : Mg) : Bool := decide (mN m < 0)
def w8 (m : Mg) : Bool := decide (1099511627776 < mN m)
def w9 (m : Mg) : Bool := bif (mf m).2.2.2.2.1 then !decide (aN m.2.2.2.2.2.1 = 16) else false
def w10 (m : Mg) : Bool := bif !(mf m).2.2.2.2.1 then !eqb Ty.str m.2.2.2.2.2.1 ⟨⟨[]⟩⟩ else false
def w11 (m : Mg) : Bool := bif eqb Ty.str m.2.2.2.2.2.2.1 ⟨⟨[]⟩⟩ then true else bif (mf m).2.2.2.2.2.1 then decide (aN m.2.2.2.2.2.2.1 ≤ 64) else false
def aU (m : Mg) : Bool := bif w0 m then false else bif w1 m then false else bif w2 m then false else bif w3 m then false else bif w4 m then false else bif w5 m then false else
 bif w6 m then false else bif w7 m then false else bif w8 m then false else bif w9 m then false else bif w10 m then false else w11 m
noncomputable abbrev dy : bp := ⟨nG, jm, fun x => (aU x.1, ()), fun x => x.1.2.2.2.1.length ≤ 1000000, false⟩
theorem o8 : aG prog [] eE dy :=
 cD (S := dy) (vA ve jL tW) (fx := ny) tQ (by kernel_rfl) (fun h => by cases h) (T := fun x => pc x.1) (fun x => rN x.1) fun O v0 x _ hp => by
  obtain ⟨m, ⟨⟩⟩ := x
  have hp : m.2.2.2.1.length ≤ 1000000 := hp
  have leaf : ∀ {b : Bool}, aU m = b → ∃ z, aL jm (K.val (Ty.pair Ty.bool Ty.unit) (b, ())) = some z ∧ z = dy.g (m, ()) := fun {b} e => ⟨_, rfl, by show (b, ()) = (aU m, ()); rw [e]⟩
  refine ⟨trivial, bw ⟨fun h => leaf ?_, fun h0 => ⟨fun h => leaf ?_, fun h1 => ⟨fun h => leaf ?_, fun h2 => ⟨fun _ => trivial, fun h => leaf ?_, fun h3 => ⟨fun h => leaf ?_, fun h4 => ⟨fun _ => hp, fun h => leaf ?_, fun h5 => ⟨fun h => leaf ?_, fun h6 => ⟨fun h => leaf ?_, fun h7 => ⟨fun h => leaf ?_, fun h8 => ⟨fun h => leaf ?_, fun h9 => ⟨fun h => leaf ?_, fun h10 => leaf ?_⟩⟩⟩⟩⟩⟩⟩⟩⟩⟩⟩⟩
  ·have h : w0 m = true := h
   simp only [aU, h, cond_true]
  all_goals have h0 : w0 m = false := h0
  ·have h : w1 m = true := h
   simp only [aU, h0, h, cond_true, cond_false]
  all_goals have h1 : w1 m = false := h1
  ·have h : w2 m = true := h
   simp only [aU, h0, h1, h, cond_true, cond_false]
  all_goals have h2 : w2 m = false := h2
  ·have h : w3 m = true := h
   simp only [aU, h0, h1, h2, h, cond_true, cond_false]
  all_goals have h3 : w3 m = false := h3
  ·have h : w4 m = true := h
   simp only [aU, h0, h1, h2, h3, h, cond_true, cond_false]
  all_goals have h4 : w4 m = false := h4
  ·have h : w5 m = true := h
   simp only [aU, h0, h1, h2, h3, h4, h, cond_true, cond_false]
  all_goals have h5 : w5 m = false := h5
  ·have h : w6 m = true := h
   simp only [aU, h0, h1, h2, h3, h4, h5, h, cond_true, cond_false]
  all_goals have h6 : w6 m = false := h6
  ·have h : w7 m = true := h
   simp only [aU, h0, h1, h2, h3, h4, h5, h6, h, cond_true, cond_false]
  all_goals have h7 : w7 m = false := h7
  ·have h : w8 m = true := h
   simp only [aU, h0, h1, h2, h3, h4, h5, h6, h7, h, cond_true, cond_false]
  all_goals have h8 : w8 m = false := h8
  ·have h : w9 m = true := h
   simp only [aU, h0, h1, h2, h3, h4, h5, h6, h7, h8, h, cond_true, cond_false]
  all_goals have h9 : w9 m = false := h9
  ·have h : w10 m = true := h
   simp only [aU, h0, h1, h2, h3, h4, h5, h6, h7, h8, h9, h, cond_true, cond_false]
  ·have h10 : w10 m = false := h10
   simp only [aU, h0, h1, h2, h3, h4, h5, h6, h7, h8, h9, h10, cond_false]
   rfl
theorem sJ : aG prog gl f9 fY :=
 cD (S := fY) (sK (bA ob) qT) (fx := lu) rV (by kernel_rfl) (fun _ _ => trivial) (T := fun _ => mv) (fun _ => pQ) fun O v0 x _ _ => ⟨fun _ => trivial, fun _ => trivial, _, rfl, rfl⟩
def ui : Mg := zero aK
def f5 (m : Mg) : Int := m.2.2.1.2.2.1
def iL (m : Mg) (nonce : ByteArray) : Int := (ul (a := .pair aK (.pair .str .unit)) (r := ed) (bV a8 m.1) (m, nonce, ())).1
def As (kind : Int) (id : List Int) (target : den al) (n : Int) (nonce : ByteArray) : Mg := (kind, id, target, [], n, nonce, e0, ())
def aZ (secret : ByteArray) (m : Mg) : Int × Mg × Int :=
 bif (bif !cr a8 m.1 then true else !aU m) then (0, ui, 1)
 else bif !decide ((ax secret m.2.1 (f5 m)).2 = 0) then (0, ui, (ax secret m.2.1 (f5 m)).2)
 else bif decide (iL m (ax secret m.2.1 (f5 m)).1 = 1) then (iL m (ax secret m.2.1 (f5 m)).1, As 3 m.2.1 m.2.2.1 0 (ax secret m.2.1 (f5 m)).1, 0)
 else (iL m (ax secret m.2.1 (f5 m)).1, ui, 0)
noncomputable abbrev dc : bp := ⟨mA, iO, fun x => ((aZ x.1 x.2.1).1, (aZ x.1 x.2.1).2.1, (aZ x.1 x.2.1).2.2, ()), fun x => x.2.1.2.2.2.1.length ≤ 1000000, false⟩
def AB : den cV := zero cV
def cf (m : Mg) (now : Int) : den cV × Int :=
 bif (bif bif bif (bif !decide (m.1 = (2 : Int)) then !decide (m.1 = (4 : Int)) else false) then true else !aU m then true else decide (now < 0) then true else decide (1099511627776 < now)) then (AB, 1)
 else ((m.2.1, m.2.2.1, c6 (IntKind.wrap .i64 (now + mN m)) 1099511627776, ()), 0)
noncomputable abbrev fE : bp := ⟨kf, kX, fun x => ((cf x.1 x.2.1).1, (cf x.1 x.2.1).2, ()), fun x => x.1.2.2.2.1.length ≤ 1000000, false⟩
noncomputable abbrev iV : bp := ⟨oL, oC, fun _ => (true, ()), fun _ => True, true⟩
end Go.Proofs.YtnakjijahkaoaaaDoor
namespace Go.Proofs.YtnakjijahkaoaaaDoor
open Go Go.RowKit
noncomputable abbrev md : Fx := { fn := ju, ann := { frz := [(1, [3])] }, share := true }
noncomputable abbrev nu : be := { D := { T := bM, F := [(f9, fY), (eE, dy), (dH, dJ)], R := [], ovl := [], G := gl }, inl := [] }
noncomputable abbrev ub : bO := .data iO
theorem tG (h_guard_judges : aG prog gl f9 fY) (h_wire_Right : aG prog gl eE dy) (h_proof_Nonce : aG prog gl dH dJ) : XOk prog nu := xok (aS (aS (aS (bl bq aX) h_proof_Nonce) h_wire_Right) h_guard_judges) (by kernel_rfl) a6 bo bt
noncomputable def np (secret : den Ty.str) (m : den aK) : ab := ab.req True (ab.all (den (Ty.mp af (Ty.fn (Ty.pair aK (Ty.pair Ty.str Ty.unit)) (Ty.pair af Ty.unit)))) (fun (q2 : den (Ty.mp af (Ty.fn (Ty.pair aK (Ty.pair Ty.str Ty.unit)) (Ty.pair af Ty.unit)))) ↦ q2 = a8) fun (q2 : den (Ty.mp af (Ty.fn (Ty.pair aK (Ty.pair Ty.str Ty.unit)) (Ty.pair af Ty.unit)))) ↦ ab.req (kV [(!cr a8 (Prod.fst m), false)] (List.length (Prod.fst (Prod.snd (Prod.snd (Prod.snd m)))) ≤ 1000000)) (ab.ite (bif !cr a8 (Prod.fst m) then true else !aU m) (ab.ret (K.val (Ty.pair af (Ty.pair aK (Ty.pair af Ty.unit))) (0, zero (Ty.pair af (Ty.pair tId (Ty.pair al (Ty.pair (Ty.slc al) (Ty.pair af (Ty.pair Ty.str (Ty.pair Ty.str Ty.unit))))))), 1, PUnit.unit))) (ab.req True (ab.all (den (Ty.pair Ty.str (Ty.pair af Ty.unit))) (fun (q3 : den (Ty.pair Ty.str (Ty.pair af Ty.unit))) ↦ q3 = (Prod.fst (ax secret (Prod.fst (Prod.snd m)) (Prod.fst (Prod.snd (Prod.snd (Prod.fst (Prod.snd (Prod.snd m))))))), Prod.snd (ax secret (Prod.fst (Prod.snd m)) (Prod.fst (Prod.snd (Prod.snd (Prod.fst (Prod.snd (Prod.snd m))))))), PUnit.unit)) fun (q3 : den (Ty.pair Ty.str (Ty.pair af Ty.unit))) ↦ ab.ite (!decide (Prod.fst (Prod.snd q3) = 0)) (ab.ret (K.val (Ty.pair af (Ty.pair aK (Ty.pair af Ty.unit))) (0, zero (Ty.pair af (Ty.pair tId (Ty.pair al (Ty.pair (Ty.slc al) (Ty.pair af (Ty.pair Ty.str (Ty.pair Ty.str Ty.unit))))))), Prod.fst (Prod.snd q3), PUnit.unit))) (ab.req (BK (Ty.pair aK (Ty.pair Ty.str Ty.unit)) (Ty.pair af Ty.unit) (bV a8 (Prod.fst m))) (ab.all (den af) (fun (q4 : den af) ↦ q4 = Prod.fst (Bi (Ty.pair aK (Ty.pair Ty.str Ty.unit)) (Ty.pair af Ty.unit) (bV a8 (Prod.fst m)) (m, Prod.fst q3, PUnit.unit))) fun (q4 : den af) ↦ ab.ite (decide (q4 = 1)) (ab.ret (K.val (Ty.pair af (Ty.pair aK (Ty.pair af Ty.unit))) (q4, (3, Prod.fst (Prod.snd m), Prod.fst (Prod.snd (Prod.snd m)), Prod.fst (Prod.snd (Prod.snd (Prod.snd (zero (Ty.pair af (Ty.pair tId (Ty.pair al (Ty.pair (Ty.slc al) (Ty.pair af (Ty.pair Ty.str (Ty.pair Ty.str Ty.unit))))))))))), Prod.fst (Prod.snd (Prod.snd (Prod.snd (Prod.snd (zero (Ty.pair af (Ty.pair tId (Ty.pair al (Ty.pair (Ty.slc al) (Ty.pair af (Ty.pair Ty.str (Ty.pair Ty.str Ty.unit)))))))))))), Prod.fst q3, Prod.snd (Prod.snd (Prod.snd (Prod.snd (Prod.snd (Prod.snd (zero (Ty.pair af (Ty.pair tId (Ty.pair al (Ty.pair (Ty.slc al) (Ty.pair af (Ty.pair Ty.str (Ty.pair Ty.str Ty.unit)))))))))))))), 0, PUnit.unit))) (ab.ret (K.val (Ty.pair af (Ty.pair aK (Ty.pair af Ty.unit))) (q4, zero (Ty.pair af (Ty.pair tId (Ty.pair al (Ty.pair (Ty.slc al) (Ty.pair af (Ty.pair Ty.str (Ty.pair Ty.str Ty.unit))))))), 0, PUnit.unit)))))))))
theorem qJ (secret : den Ty.str) (m : den aK) : ay nu ub 5000 [] md (aF ju) (Env.of (aW mA (secret, m, ()) 0) []) = np secret m := by kernel_rfl
noncomputable abbrev ke : Fx := { fn := ic, ann := { frz := [(1, [2])] } }
noncomputable abbrev lw : be := { D := { T := bM, F := [(eE, dy)], R := [], ovl := [] }, inl := [] }
noncomputable abbrev si : bO := .data kX
theorem re (h_wire_Right : aG prog [] eE dy) : XOk prog lw := xok (aS (bl bq aX) h_wire_Right) (by kernel_rfl) a6 bo bt
noncomputable def ld (m : den aK) (now : den af) : ab := ab.req (kV [(bif !decide (Prod.fst m = 2) then !decide (Prod.fst m = 4) else false, false)] (List.length (Prod.fst (Prod.snd (Prod.snd (Prod.snd m)))) ≤ 1000000)) (ab.ite (bif bif bif bif !decide (Prod.fst m = 2) then !decide (Prod.fst m = 4) else false then true else !aU m then true else decide (now < 0) then true else decide (1099511627776 < now)) (ab.ret (K.val (Ty.pair cV (Ty.pair af Ty.unit)) (zero (Ty.pair tId (Ty.pair al (Ty.pair af Ty.unit))), 1, PUnit.unit))) (ab.ret (K.val (Ty.pair cV (Ty.pair af Ty.unit)) ((Prod.fst (Prod.snd m), Prod.fst (Prod.snd (Prod.snd m)), c6 (IntKind.wrap IntKind.i64 (now + Prod.fst (Prod.snd (Prod.snd (Prod.snd (Prod.snd m)))))) 1099511627776, Prod.snd (Prod.snd (Prod.snd (zero (Ty.pair tId (Ty.pair al (Ty.pair af Ty.unit))))))), 0, PUnit.unit))))
theorem po (m : den aK) (now : den af) : ay lw si 5000 [] ke (aF ic) (Env.of (aW kf (m, now, ()) 0) []) = ld m now := by kernel_rfl
end Go.Proofs.YtnakjijahkaoaaaDoor
namespace Go.Proofs.YtnakjijahkaoaaaDoor
open Go Go.RowKit
theorem zT (k : Int) : (k = 2 ∧ cr a8 k = true ∧ bV a8 k = some (fun x => (dZ x.1, ()))) ∨ (k = 4 ∧ cr a8 k = true ∧ bV a8 k = some (fun x => (fW x.1 x.2.1 2, ()))) ∨
    (k = 6 ∧ cr a8 k = true ∧ bV a8 k = some (fun x => (fW x.1 x.2.1 3, ()))) ∨ (k ≠ 2 ∧ k ≠ 4 ∧ k ≠ 6 ∧ cr a8 k = false) := by
  by_cases h2 : k = 2
  · subst h2; exact .inl ⟨rfl, rfl, rfl⟩
  · by_cases h4 : k = 4
    · subst h4; exact .inr (.inl ⟨rfl, rfl, rfl⟩)
    · by_cases h6 : k = 6
      · subst h6; exact .inr (.inr (.inl ⟨rfl, rfl, rfl⟩))
      · refine .inr (.inr (.inr ⟨h2, h4, h6, ?_⟩))
        have e : ∀ j : Int, k ≠ j → eqb af k j = false := fun j h => decide_eq_false h
        unfold cr i8 a8
        rw [List.find?_cons_of_neg (by rw [e _ h2]; decide), List.find?_cons_of_neg (by rw [e _ h4]; decide), List.find?_cons_of_neg (by rw [e _ h6]; decide)]
        rfl
theorem BG {k : Int} (h : cr a8 k = true) : ∃ g, bV a8 k = some g := by
 rcases zT k with ⟨_, _, e⟩ | ⟨_, _, e⟩ | ⟨_, _, e⟩ | ⟨_, _, _, e⟩
 ·exact ⟨_, e⟩
 ·exact ⟨_, e⟩
 ·exact ⟨_, e⟩
 ·rw [h] at e; cases e
theorem nM : aG prog gl dI dc :=
 cD (S := dc) (tG sJ (bA o8) nE) (fx := md) sG (by kernel_rfl) (fun h => by cases h) (T := fun x => np x.1 x.2.1) (fun x => qJ x.1 x.2.1) fun O v0 x _ hp => by
  obtain ⟨secret, m, ⟨⟩⟩ := x
  have hp : m.2.2.2.1.length ≤ 1000000 := hp
  have leaf : ∀ {a : Int} {b : Mg} {c : Int}, aZ secret m = (a, b, c) → ∃ z, aL iO (K.val (Ty.pair af (Ty.pair aK (Ty.pair af Ty.unit))) (a, b, c, ())) = some z ∧ z = dc.g (secret, m, ()) := fun {a b c} e =>
   ⟨_, rfl, by show (a, b, c, ()) = ((aZ secret m).1, (aZ secret m).2.1, (aZ secret m).2.2, ()); rw [e]⟩
  refine ⟨trivial, bw ⟨fun _ => hp, fun h => leaf ?_, fun h0 => ⟨trivial, bw ⟨fun h => leaf ?_, fun h1 => ⟨?_, bw ⟨fun h => leaf ?_, fun h => leaf ?_⟩⟩⟩⟩⟩⟩
  ·have h : (bif !cr a8 m.1 then true else !aU m) = true := h
   simp only [aZ, h, cond_true]
   rfl
  all_goals have h0 : (bif !cr a8 m.1 then true else !aU m) = false := h0
  ·have h : (!decide ((ax secret m.2.1 (f5 m)).2 = 0)) = true := h
   simp only [aZ, h0, h, cond_true, cond_false]
   rfl
  all_goals have h1 : (!decide ((ax secret m.2.1 (f5 m)).2 = 0)) = false := h1
  ·refine BG (k := m.1) ?_
   cases e : cr a8 m.1 with
   | true => rfl
   | false => rw [e] at h0; cases h0
  ·have h : decide (iL m (ax secret m.2.1 (f5 m)).1 = 1) = true := h
   simp only [aZ, h0, h1, h, cond_true, cond_false]
   rfl
  ·have h : decide (iL m (ax secret m.2.1 (f5 m)).1 = 1) = false := h
   simp only [aZ, h0, h1, h, cond_false]
   rfl
theorem r8 : aG prog [] fB fE :=
 cD (S := fE) (re o8) (fx := ke) ql (by kernel_rfl) (fun h => by cases h) (T := fun x => ld x.1 x.2.1) (fun x => po x.1 x.2.1) fun O v0 x _ hp => by
  obtain ⟨m, now, ⟨⟩⟩ := x
  have hp : m.2.2.2.1.length ≤ 1000000 := hp
  refine ⟨fun _ => hp, fun h => ⟨_, rfl, ?_⟩, fun h => ⟨_, rfl, ?_⟩⟩
  ·have h : (bif bif bif (bif !decide (m.1 = (2 : Int)) then !decide (m.1 = (4 : Int)) else false) then true else !aU m then true else decide ((now : Int) < 0) then true else decide ((1099511627776 : Int) < now)) = true := h
   show (AB, (1 : Int), ()) = ((cf m now).1, (cf m now).2, ())
   simp only [cf, h, cond_true]
  ·have h : (bif bif bif (bif !decide (m.1 = (2 : Int)) then !decide (m.1 = (4 : Int)) else false) then true else !aU m then true else decide ((now : Int) < 0) then true else decide ((1099511627776 : Int) < now)) = false := h
   show (_, (0 : Int), ()) = ((cf m now).1, (cf m now).2, ())
   simp only [cf, h, cond_false]
   rfl
end Go.Proofs.YtnakjijahkaoaaaDoor
namespace Go.Proofs.YtnakjijahkaoaaaDoor
open Go Go.RowKit
noncomputable abbrev o0 : Fx := { fn := lN, ann := { frz := [(2, [2])] }, share := true }
noncomputable abbrev qb : be := { D := { T := bM, F := [(dI, dc)], R := [], ovl := [], G := gl }, inl := [] }
noncomputable abbrev wz : bO := .data oC
theorem vX (h_guard_Judge : aG prog gl dI dc) : XOk prog qb := xok (aS (bl bq aX) h_guard_Judge) (by kernel_rfl) a6 bo bt
noncomputable def qh : ab := ab.req (List.length (zero (Ty.slc al)) ≤ 1000000) (ab.all (den (Ty.pair af (Ty.pair aK (Ty.pair af Ty.unit)))) (fun (q0 : den (Ty.pair af (Ty.pair aK (Ty.pair af Ty.unit)))) ↦ q0 = (Prod.fst (aZ { data := { toList := [115] } } (2, zero tId, (2, zero tId, 3, zero Ty.unit), zero (Ty.slc al), 5, zero (Ty.pair Ty.str (Ty.pair Ty.str Ty.unit)))), Prod.fst (Prod.snd (aZ { data := { toList := [115] } } (2, zero tId, (2, zero tId, 3, zero Ty.unit), zero (Ty.slc al), 5, zero (Ty.pair Ty.str (Ty.pair Ty.str Ty.unit))))), Prod.snd (Prod.snd (aZ { data := { toList := [115] } } (2, zero tId, (2, zero tId, 3, zero Ty.unit), zero (Ty.slc al), 5, zero (Ty.pair Ty.str (Ty.pair Ty.str Ty.unit))))), PUnit.unit)) fun (q0 : den (Ty.pair af (Ty.pair aK (Ty.pair af Ty.unit)))) ↦ ab.ret (K.val (Ty.pair Ty.bool Ty.unit) (bif bif bif decide (Prod.fst (Prod.snd (Prod.snd q0)) = 0) then decide (Prod.fst q0 = 1) else false then decide (Prod.fst (Prod.fst (Prod.snd q0)) = 3) else false then decide (aN (Prod.fst (Prod.snd (Prod.snd (Prod.snd (Prod.snd (Prod.snd (Prod.fst (Prod.snd q0)))))))) = 16) else false, PUnit.unit)))
theorem tc : ay qb wz 5000 [] o0 (aF lN) (Env.of (aW oL () 0) []) = qh := by kernel_rfl
noncomputable abbrev iC : Fx := { fn := fP, ann := { frz := [(1, [8]), (6, [17]), (8, [21])] }, share := true }
noncomputable abbrev i5 : be := { D := { T := bM, F := [(dI, dc), (fB, fE), (iS, iV), (dH, dJ)], R := [], ovl := [], G := gl }, inl := [] }
noncomputable abbrev oN : bO := .data nZ
theorem n9 (h_guard_Judge : aG prog gl dI dc) (h_guard_Trigger : aG prog gl fB fE) (h_l15_alive : aG prog gl iS iV) (h_proof_Nonce : aG prog gl dH dJ) : XOk prog i5 := xok (aS (aS (aS (aS (bl bq aX) h_proof_Nonce) h_l15_alive) h_guard_Trigger) h_guard_Judge) (by kernel_rfl) a6 bo bt
noncomputable def dQ (a : den Ty.str) (b : den Ty.str) (id : den tId) (host : den af) (life : den af) (now : den af) : ab := ab.req (bc 0 (c6 (aN a) 64) (aN a)) (ab.req (bc 0 (c6 (aN b) 64) (aN b)) (ab.req (nz 16) (ab.req (nz 16) (ab.req (nz 1000) (ab.req (nz 1000) (ab.req (nz 1000) (ab.req (nz 1000) (ab.req True (ab.all (den (Ty.pair Ty.str (Ty.pair af Ty.unit))) (fun (q6 : den (Ty.pair Ty.str (Ty.pair af Ty.unit))) ↦ q6 = (Prod.fst (ax (ce a 0 (c6 (aN a) 64)) id (Int.tmod (IntKind.wrap IntKind.i64 (Int.tmod host 16 + 16)) 16)), Prod.snd (ax (ce a 0 (c6 (aN a) 64)) id (Int.tmod (IntKind.wrap IntKind.i64 (Int.tmod host 16 + 16)) 16)), PUnit.unit)) fun (q6 : den (Ty.pair Ty.str (Ty.pair af Ty.unit))) ↦ ab.req True (ab.all (den (Ty.pair Ty.str (Ty.pair af Ty.unit))) (fun (q7 : den (Ty.pair Ty.str (Ty.pair af Ty.unit))) ↦ q7 = (Prod.fst (ax (ce b 0 (c6 (aN b) 64)) id (Int.tmod (IntKind.wrap IntKind.i64 (Int.tmod host 16 + 16)) 16)), Prod.snd (ax (ce b 0 (c6 (aN b) 64)) id (Int.tmod (IntKind.wrap IntKind.i64 (Int.tmod host 16 + 16)) 16)), PUnit.unit)) fun (q7 : den (Ty.pair Ty.str (Ty.pair af Ty.unit))) ↦ ab.req (List.length (zero (Ty.slc al)) ≤ 1000000) (ab.all (den (Ty.pair af (Ty.pair aK (Ty.pair af Ty.unit)))) (fun (q8 : den (Ty.pair af (Ty.pair aK (Ty.pair af Ty.unit)))) ↦ q8 = (Prod.fst (aZ (ce b 0 (c6 (aN b) 64)) (4, id, (2, zero tId, Int.tmod (IntKind.wrap IntKind.i64 (Int.tmod host 16 + 16)) 16, zero Ty.unit), zero (Ty.slc al), Int.tmod (IntKind.wrap IntKind.i64 (Int.tmod life 1000 + 1000)) 1000, Prod.fst q6, zero (Ty.pair Ty.str Ty.unit))), Prod.fst (Prod.snd (aZ (ce b 0 (c6 (aN b) 64)) (4, id, (2, zero tId, Int.tmod (IntKind.wrap IntKind.i64 (Int.tmod host 16 + 16)) 16, zero Ty.unit), zero (Ty.slc al), Int.tmod (IntKind.wrap IntKind.i64 (Int.tmod life 1000 + 1000)) 1000, Prod.fst q6, zero (Ty.pair Ty.str Ty.unit)))), Prod.snd (Prod.snd (aZ (ce b 0 (c6 (aN b) 64)) (4, id, (2, zero tId, Int.tmod (IntKind.wrap IntKind.i64 (Int.tmod host 16 + 16)) 16, zero Ty.unit), zero (Ty.slc al), Int.tmod (IntKind.wrap IntKind.i64 (Int.tmod life 1000 + 1000)) 1000, Prod.fst q6, zero (Ty.pair Ty.str Ty.unit)))), PUnit.unit)) fun (q8 : den (Ty.pair af (Ty.pair aK (Ty.pair af Ty.unit)))) ↦ ab.req (List.length (zero (Ty.slc al)) ≤ 1000000) (ab.all (den (Ty.pair cV (Ty.pair af Ty.unit))) (fun (q9 : den (Ty.pair cV (Ty.pair af Ty.unit))) ↦ q9 = (Prod.fst (cf (4, id, (2, zero tId, Int.tmod (IntKind.wrap IntKind.i64 (Int.tmod host 16 + 16)) 16, zero Ty.unit), zero (Ty.slc al), Int.tmod (IntKind.wrap IntKind.i64 (Int.tmod life 1000 + 1000)) 1000, Prod.fst q6, zero (Ty.pair Ty.str Ty.unit)) (Int.tmod (IntKind.wrap IntKind.i64 (Int.tmod now 1000 + 1000)) 1000)), Prod.snd (cf (4, id, (2, zero tId, Int.tmod (IntKind.wrap IntKind.i64 (Int.tmod host 16 + 16)) 16, zero Ty.unit), zero (Ty.slc al), Int.tmod (IntKind.wrap IntKind.i64 (Int.tmod life 1000 + 1000)) 1000, Prod.fst q6, zero (Ty.pair Ty.str Ty.unit)) (Int.tmod (IntKind.wrap IntKind.i64 (Int.tmod now 1000 + 1000)) 1000)), PUnit.unit)) fun (q9 : den (Ty.pair cV (Ty.pair af Ty.unit))) ↦ ab.req True (ab.all (den Ty.bool) (fun (q10 : den Ty.bool) ↦ q10 = true) fun (q10 : den Ty.bool) ↦ ab.ret (K.val (Ty.pair Ty.bool Ty.unit) (bif bif bif bif bif bif bif bif q10 then decide (Prod.fst (Prod.snd q6) = 0) else false then decide (Prod.fst (Prod.snd q7) = 0) else false then decide (Prod.fst (Prod.snd (Prod.snd q8)) = 0) else false then eqO (decide (Prod.fst q8 = 2)) (eqb Ty.str (Prod.fst q6) (Prod.fst q7)) else false then decide (Prod.fst (Prod.snd q9) = 0) else false then decide (Prod.fst (Prod.snd (Prod.snd (Prod.fst q9))) = IntKind.wrap IntKind.i64 (Int.tmod (IntKind.wrap IntKind.i64 (Int.tmod now 1000 + 1000)) 1000 + Int.tmod (IntKind.wrap IntKind.i64 (Int.tmod life 1000 + 1000)) 1000)) else false then eqb tId (Prod.fst (Prod.fst q9)) id else false then eqb al (Prod.fst (Prod.snd (Prod.fst q9))) (2, zero tId, Int.tmod (IntKind.wrap IntKind.i64 (Int.tmod host 16 + 16)) 16, zero Ty.unit) else false, PUnit.unit)))))))))))))))
theorem ma (a : den Ty.str) (b : den Ty.str) (id : den tId) (host : den af) (life : den af) (now : den af) : ay i5 oN 5000 [] iC (aF fP) (Env.of (aW co (a, b, id, host, life, now, ()) 0) []) = dQ a b id host life now := by kernel_rfl
end Go.Proofs.YtnakjijahkaoaaaDoor
