/- Part 8 of 9 of what this claim's proof stands on: a theory of programs on data, and the contracts of the functions that the law reaches. It holds no condition of its own. -/
import Derived.Test.YtnakjijahkaoaaaDoorCG7
namespace Go.Proofs.YtnakjijahkaoaaaDoor
open Go Go.RowKit
theorem zC (xs : List (List UInt8)) : Lib.join xs [] = xs.flatten := by
 cases xs with
 | nil => rfl
 | cons x r =>
  rw [Lib.join_cons]
  unfold Lib.joinTail
  have : (fun y : List UInt8 => [] ++ y) = id := by funext y; rfl
  rw [this, List.map_id, List.flatten_cons]
theorem xw (xs : List ByteArray) : bp xs e0 = ⟨((xs.map (·.data.toList)).flatten).toArray⟩ := by
 unfold bp
 have : e0.data.toList = [] := rfl
 rw [this, zC]
theorem zL (n : Nat) : ∀ xs : List ByteArray, (∀ x ∈ xs, x.size ≤ n) → (bp xs e0).size ≤ xs.length * n := by
 intro xs h
 rw [xw, ol]
 induction xs with
 | nil => simp
 | cons x r ih =>
  rw [List.map_cons, List.flatten_cons, List.length_append, List.length_cons, Nat.add_mul, Nat.one_mul]
  have h1 := ih fun y hy => h y (List.mem_cons_of_mem _ hy)
  have h2 := h x List.mem_cons_self
  have h3 : x.data.toList.length = x.size := rfl
  omega
end Go.Proofs.YtnakjijahkaoaaaDoor
namespace Go.Proofs.YtnakjijahkaoaaaDoor
open Go Go.RowKit
noncomputable abbrev nR : Fx := { fn := kB, ann := { frz := [(1, [3]), (3, [5])] }, share := true }
noncomputable abbrev pd : bl := { D := { T := bQ, F := [(eJ, eE)], R := [], ovl := [], G := gl }, inl := [] }
noncomputable abbrev vc : bV := .data nI
theorem vD (h_digest_Sum : aJ prog gl eJ eE) : XOk prog pd := xok (aW (bq bB be) h_digest_Sum) (by kernel_rfl) bj bw bC
noncomputable def oo (word : den Ty.str) (a : den tId) : ab := ab.req (aY 0 16 (↑32 : Int)) (ab.req (List.length (List.set (List.set (List.replicate 2 (zero Ty.str)) 0 word) 1 (aS (cI (Ty.int IntKind.u8) a 0 16))) ≤ 1000000 ∧ ByteArray.size (bp (List.set (List.set (List.replicate 2 (zero Ty.str)) 0 word) 1 (aS (cI (Ty.int IntKind.u8) a 0 16))) e0) ≤ 900000) (ab.all (den tId) (fun (q2 : den tId) ↦ q2 = jE (List.set (List.set (List.replicate 2 (zero Ty.str)) 0 word) 1 (aS (cI (Ty.int IntKind.u8) a 0 16)))) fun (q2 : den tId) ↦ ab.req (aY 0 16 (↑32 : Int)) (ab.req (aY 0 (↑32 : Int) (↑32 : Int)) (ab.ret (K.val (Ty.pair tId Ty.unit) (over (zero tId) (Int.toNat 0) (List.take (Int.toNat 16 - Int.toNat 0) (cI (Ty.int IntKind.u8) q2 0 (↑32 : Int))), PUnit.unit))))))
theorem rP (word : den Ty.str) (a : den tId) : az pd vc 5000 [] nR (aI kB) (Env.of (ba nu (word, a, ()) 0) []) = oo word a := by kernel_rfl
noncomputable abbrev mt : Fx := { fn := jh, ann := { frz := [(5, [4]), (6, [8])] }, share := true }
noncomputable abbrev nC : bl := { D := { T := bQ, F := [(eJ, eE)], R := [], ovl := [], G := gl }, inl := [] }
noncomputable abbrev t8 : bV := .data mw
theorem tW (h_digest_Sum : aJ prog gl eJ eE) : XOk prog nC := xok (aW (bq bB be) h_digest_Sum) (by kernel_rfl) bj bw bC
noncomputable def nm (secret : den Ty.str) (id : den tId) (host : den af) : ab := ab.ite (bif decide (host < 0) then true else decide (16 ≤ host)) (ab.ret (K.val (Ty.pair Ty.str (Ty.pair af Ty.unit)) ({ data := { toList := [] } }, 1, PUnit.unit))) (ab.ite (decide (64 < aD secret)) (ab.ret (K.val (Ty.pair Ty.str (Ty.pair af Ty.unit)) ({ data := { toList := [] } }, 2, PUnit.unit))) (ab.req (aY 0 (↑32 : Int) (↑32 : Int)) (ab.req (List.length (List.set (List.set (List.set (List.set (List.replicate 4 (zero Ty.str)) 0 { data := { toList := [110, 111, 110, 99, 101] } }) 1 secret) 2 (aS (cI (Ty.int IntKind.u8) id 0 (↑32 : Int)))) 3 (aS (List.set (List.replicate 1 (zero (Ty.int IntKind.u8))) 0 (IntKind.wrap IntKind.u8 host)))) ≤ 1000000 ∧ ByteArray.size (bp (List.set (List.set (List.set (List.set (List.replicate 4 (zero Ty.str)) 0 { data := { toList := [110, 111, 110, 99, 101] } }) 1 secret) 2 (aS (cI (Ty.int IntKind.u8) id 0 (↑32 : Int)))) 3 (aS (List.set (List.replicate 1 (zero (Ty.int IntKind.u8))) 0 (IntKind.wrap IntKind.u8 host)))) e0) ≤ 900000) (ab.all (den tId) (fun (q3 : den tId) ↦ q3 = jE (List.set (List.set (List.set (List.set (List.replicate 4 (zero Ty.str)) 0 { data := { toList := [110, 111, 110, 99, 101] } }) 1 secret) 2 (aS (cI (Ty.int IntKind.u8) id 0 (↑32 : Int)))) 3 (aS (List.set (List.replicate 1 (zero (Ty.int IntKind.u8))) 0 (IntKind.wrap IntKind.u8 host))))) fun (q3 : den tId) ↦ ab.req (aY 0 16 (↑32 : Int)) (ab.ret (K.val (Ty.pair Ty.str (Ty.pair af Ty.unit)) (aS (cI (Ty.int IntKind.u8) (jE (List.set (List.set (List.set (List.set (List.replicate 4 (zero Ty.str)) 0 { data := { toList := [110, 111, 110, 99, 101] } }) 1 secret) 2 (aS (cI (Ty.int IntKind.u8) id 0 (↑32 : Int)))) 3 (aS (List.set (List.replicate 1 (zero (Ty.int IntKind.u8))) 0 (IntKind.wrap IntKind.u8 host))))) 0 16), 0, PUnit.unit)))))))
theorem qJ (secret : den Ty.str) (id : den tId) (host : den af) : az nC t8 5000 [] mt (aI jh) (Env.of (ba l8 (secret, id, host, ()) 0) []) = nm secret id host := by kernel_rfl
end Go.Proofs.YtnakjijahkaoaaaDoor
namespace Go.Proofs.YtnakjijahkaoaaaDoor
open Go Go.RowKit
theorem gY (xs : List Int) : (aS xs).size = xs.length := by
 show (xs.map _).toArray.size = _
 rw [List.size_toArray, List.length_map]
theorem xn (xs : List Int) (h : Nat) : (cI (.int .u8) xs 0 (h : Int)).length ≤ h := by
 unfold cI d9
 rw [List.length_drop, List.length_take]
 omega
theorem p6 {l : List ByteArray} {n : Nat} (h : ∀ x ∈ l, x.size ≤ n) (hn : l.length * n ≤ 900000) (hl : l.length ≤ 1000000) : l.length ≤ 1000000 ∧ ByteArray.size (bp l e0) ≤ 900000 :=
 ⟨hl, Nat.le_trans (zL n l h) hn⟩
def BJ : ByteArray := ⟨⟨[108, 101, 102, 116]⟩⟩
def BF : ByteArray := ⟨⟨[114, 105, 103, 104, 116]⟩⟩
def Bo : ByteArray := ⟨⟨[110, 111, 110, 99, 101]⟩⟩
def vz (a : List Int) : ByteArray := aS (cI (.int .u8) a 0 16)
def o2 (word : ByteArray) (a : List Int) : List Int := over (zero tId) 0 (List.take 16 (cI (.int .u8) (jE [word, vz a]) 0 32))
noncomputable abbrev eM : bD := ⟨nu, nI, fun x => (o2 x.1 x.2.1, ()), fun x => ByteArray.size x.1 ≤ 1000, false⟩
theorem n8 : aJ prog gl eI eM :=
 cJ (S := eM) (vD oS) (fx := nR) uf (by kernel_rfl) (fun h => by cases h) (T := fun x => oo x.1 x.2.1) (fun x => rP x.1 x.2.1) fun O w0 x _ hp => by
  obtain ⟨word, a, ⟨⟩⟩ := x
  have hp : word.size ≤ 1000 := hp
  have hk : (vz a).size ≤ 16 := by unfold vz; rw [gY]; exact xn a 16
  refine ⟨⟨by decide, by decide, by decide⟩, p6 (l := [word, vz a]) (n := 1000) (fun x hx => ?_) (show 2 * 1000 ≤ 900000 by decide) (show 2 ≤ 1000000 by decide), bo ⟨⟨by decide, by decide, by decide⟩, ⟨by decide, by decide, by decide⟩, _, rfl, rfl⟩⟩
  rcases List.mem_cons.1 hx with rfl | hx
  ·exact hp
  ·rcases List.mem_cons.1 hx with rfl | hx
   ·omega
   ·cases hx
def vg (secret : ByteArray) (id : List Int) (host : Int) : List ByteArray := [Bo, secret, aS (cI (.int .u8) id 0 32), aS [IntKind.wrap .u8 host]]
def aj (secret : ByteArray) (id : List Int) (host : Int) : ByteArray × Int :=
 if host < 0 ∨ 16 ≤ host then (e0, 1) else if 64 < secret.size then (e0, 2) else (aS (cI (.int .u8) (jE (vg secret id host)) 0 16), 0)
noncomputable abbrev dN : bD := ⟨l8, mw, fun x => ((aj x.1 x.2.1 x.2.2.1).1, (aj x.1 x.2.1 x.2.2.1).2, ()), fun _ => True, true⟩
theorem nP : aJ prog gl dM dN :=
 cJ (S := dN) (tW oS) (fx := mt) sN (by kernel_rfl) (fun _ _ => trivial) (T := fun x => nm x.1 x.2.1 x.2.2.1) (fun x => qJ x.1 x.2.1 x.2.2.1) fun O w0 x _ _ => by
  obtain ⟨secret, id, host, ⟨⟩⟩ := x
  have key : ∀ host : Int, (decide (host < 0 ∨ 16 ≤ host)) = bif decide (host < 0) then true else decide (16 ≤ host) := fun host => by
   by_cases h1 : host < 0
   ·rw [decide_eq_true h1, decide_eq_true (.inl h1)]; rfl
   ·rw [decide_eq_false h1]
    rw [decide_eq_decide.2 (show (host < 0 ∨ 16 ≤ host) ↔ 16 ≤ host by omega)]; rfl
  refine ⟨fun h => ⟨_, rfl, ?_⟩, fun h => ⟨fun h2 => ⟨_, rfl, ?_⟩, fun h2 => ⟨⟨by decide, by decide, by decide⟩, ?_, bo ⟨⟨by decide, by decide, by decide⟩, _, rfl, ?_⟩⟩⟩⟩
  ·have h := of_decide_eq_true ((key host).trans h)
   show (e0, (1 : Int), ()) = ((aj secret id host).1, (aj secret id host).2, ())
   unfold aj
   rw [if_pos h]
  ·have h := of_decide_eq_false ((key host).trans h)
   have h2 : (64 : Int) < (secret.size : Int) := of_decide_eq_true h2
   show (e0, (2 : Int), ()) = ((aj secret id host).1, (aj secret id host).2, ())
   unfold aj
   rw [if_neg h, if_pos (by omega)]
  ·have h2 : ¬ (64 : Int) < (secret.size : Int) := of_decide_eq_false h2
   refine p6 (l := vg secret id host) (n := 64) (fun x hx => ?_) (show 4 * 64 ≤ 900000 by decide) (show 4 ≤ 1000000 by decide)
   rcases List.mem_cons.1 hx with rfl | hx
   ·decide
   ·rcases List.mem_cons.1 hx with rfl | hx
    ·omega
    ·rcases List.mem_cons.1 hx with rfl | hx
     ·rw [gY]
      exact Nat.le_trans (xn id 32) (by decide)
     ·rcases List.mem_cons.1 hx with rfl | hx
      ·rw [gY]; exact show 1 ≤ 64 by decide
      ·cases hx
  ·have h := of_decide_eq_false ((key host).trans h)
   have h2 : ¬ (64 : Int) < (secret.size : Int) := of_decide_eq_false h2
   show (_, (0 : Int), ()) = ((aj secret id host).1, (aj secret id host).2, ())
   unfold aj
   rw [if_neg h, if_neg (by omega)]
   rfl
end Go.Proofs.YtnakjijahkaoaaaDoor
namespace Go.Proofs.YtnakjijahkaoaaaDoor
open Go Go.RowKit
noncomputable abbrev np : Fx := { fn := kQ, ann := { } }
noncomputable abbrev o4 : bl := { D := { T := bQ, F := [(eI, eM)], R := [], ovl := [], G := gl }, inl := [] }
noncomputable abbrev vd : bV := .data nD
theorem ve (h_proof_made : aJ prog gl eI eM) : XOk prog o4 := xok (aW (bq bB be) h_proof_made) (by kernel_rfl) bj bw bC
noncomputable def pp (a : den tId) : ab := ab.req (ByteArray.size { data := { toList := [108, 101, 102, 116] } } ≤ 1000) (ab.ret (K.val (Ty.pair tId Ty.unit) (o2 { data := { toList := [108, 101, 102, 116] } } a, PUnit.unit)))
theorem sg (a : den tId) : az o4 vd 5000 [] np (aI kQ) (Env.of (ba nt (a, ()) 0) []) = pp a := by kernel_rfl
noncomputable abbrev mq : Fx := { fn := jj, ann := { } }
noncomputable abbrev nw : bl := { D := { T := bQ, F := [(eI, eM)], R := [], ovl := [], G := gl }, inl := [] }
noncomputable abbrev tV : bV := .data mm
theorem uj (h_proof_made : aJ prog gl eI eM) : XOk prog nw := xok (aW (bq bB be) h_proof_made) (by kernel_rfl) bj bw bC
noncomputable def nQ (a : den tId) : ab := ab.req (ByteArray.size { data := { toList := [114, 105, 103, 104, 116] } } ≤ 1000) (ab.ret (K.val (Ty.pair tId Ty.unit) (o2 { data := { toList := [114, 105, 103, 104, 116] } } a, PUnit.unit)))
theorem qX (a : den tId) : az nw tV 5000 [] mq (aI jj) (Env.of (ba lR (a, ()) 0) []) = nQ a := by kernel_rfl
end Go.Proofs.YtnakjijahkaoaaaDoor
namespace Go.Proofs.YtnakjijahkaoaaaDoor
open Go Go.RowKit
def lO (a : List Int) : List Int := o2 BJ a
def s9 (a : List Int) : List Int := o2 BF a
noncomputable abbrev ia : bD := ⟨nt, nD, fun x => (lO x.1, ()), fun _ => True, true⟩
noncomputable abbrev gt : bD := ⟨lR, mm, fun x => (s9 x.1, ()), fun _ => True, true⟩
theorem vP : aJ prog gl im ia :=
 cJ (S := ia) (ve n8) (fx := np) ue (by kernel_rfl) (fun _ _ => trivial) (T := fun x => pp x.1) (fun x => sg x.1) fun O w0 x _ _ => ⟨by decide, _, rfl, rfl⟩
theorem tK : aJ prog gl gz gt :=
 cJ (S := gt) (uj n8) (fx := mq) sC (by kernel_rfl) (fun _ _ => trivial) (T := fun x => nQ x.1) (fun x => qX x.1) fun O w0 x _ _ => ⟨by decide, _, rfl, rfl⟩
def iF (f t : List Int) : Bool := bif eqb bN (cZ t) (cZ (lO f)) then true else eqb bN (cZ f) (cZ (s9 t))
noncomputable abbrev gB : bD := ⟨l7, mb, fun x => (iF x.1 x.2.1, ()), fun _ => True, true⟩
end Go.Proofs.YtnakjijahkaoaaaDoor
namespace Go.Proofs.YtnakjijahkaoaaaDoor
open Go Go.RowKit
noncomputable abbrev lX : Fx := { fn := jo, ann := { } }
noncomputable abbrev nM : bl := { D := { T := bQ, F := [(gy, gD), (im, ia), (gz, gt)], R := [], ovl := [], G := gl }, inl := [] }
noncomputable abbrev tL : bV := .data mb
theorem tO (h_proof_keyOf : aJ prog gl gy gD) (h_proof_Left : aJ prog gl im ia) (h_proof_Right : aJ prog gl gz gt) : XOk prog nM := xok (aW (aW (aW (bq bB be) h_proof_Right) h_proof_Left) h_proof_keyOf) (by kernel_rfl) bj bw bC
noncomputable def nv (a : den tId) (b : den tId) : ab := ab.req True (ab.req True (ab.req True (ab.req (j2 [(eqb bN (cZ b) (cZ (lO a)), false)] True) (ab.req (j2 [(eqb bN (cZ b) (cZ (lO a)), false)] True) (ab.req (j2 [(eqb bN (cZ b) (cZ (lO a)), false)] True) (ab.ret (K.val (Ty.pair Ty.bool Ty.unit) (bif eqb bN (cZ b) (cZ (lO a)) then true else eqb bN (cZ a) (cZ (s9 b)), PUnit.unit))))))))
theorem qH (a : den tId) (b : den tId) : az nM tL 5000 [] lX (aI jo) (Env.of (ba l7 (a, b, ()) 0) []) = nv a b := by kernel_rfl
end Go.Proofs.YtnakjijahkaoaaaDoor
namespace Go.Proofs.YtnakjijahkaoaaaDoor
open Go Go.RowKit
theorem tN : aJ prog gl gF gB :=
 cJ (S := gB) (tO (bG tT) vP tK) (fx := lX) sU (by kernel_rfl) (fun _ _ => trivial) (T := fun x => nv x.1 x.2.1) (fun x => qH x.1 x.2.1) fun O w0 x _ _ =>
  ⟨trivial, trivial, trivial, fun _ => trivial, fun _ => trivial, fun _ => trivial, _, rfl, rfl⟩
theorem zN (h : List Int) : ∀ n : Nat, (td h n).length = 32 := fun n => by
 induction n with
 | zero => rfl
 | succ n ih => exact (List.length_set ..).trans ih
theorem AM (l : List ByteArray) : (jE l).length = 32 := by
 unfold jE xV
 exact zN _ _
theorem zk (secret : ByteArray) (id : List Int) (host : Int) : (aS (cI (.int .u8) (jE (vg secret id host)) 0 16)).size = 16 := by
 rw [gY]
 unfold cI d9
 have e16 : Int.toNat 16 = 16 := rfl
 have e0 : Int.toNat 0 = 0 := rfl
 rw [e16, e0, List.length_drop, List.length_take, AM]
 rfl
end Go.Proofs.YtnakjijahkaoaaaDoor
namespace Go.Proofs.YtnakjijahkaoaaaDoor
open Go Go.RowKit
end Go.Proofs.YtnakjijahkaoaaaDoor
namespace Go.Proofs.YtnakjijahkaoaaaDoor
open Go Go.RowKit
end Go.Proofs.YtnakjijahkaoaaaDoor
namespace Go.Proofs.YtnakjijahkaoaaaDoor
open Go Go.RowKit
def cP (a : List Int) : ByteArray := vz a
def jc (l : List ByteArray) (s : ByteArray) : Bool := l.any fun x => decide (x = s)
theorem qP {l : List ByteArray} {s : ByteArray} : jc l s = true ↔ s ∈ l := by
 unfold jc
 rw [List.any_eq_true]
 exact ⟨fun ⟨x, hx, e⟩ => of_decide_eq_true e ▸ hx, fun h => ⟨s, h, decide_eq_true rfl⟩⟩
theorem vv {l : List ByteArray} {s : ByteArray} : jc l s = false ↔ s ∉ l := by
 rw [← qP]
 cases jc l s <;> simp
def stF (now : List ByteArray) (s : List ByteArray × List ByteArray) (x : Lk) : List ByteArray × List ByteArray :=
 if (jc now (cP x.1) && !jc s.1 (cP x.2.1)) = true then (s.1 ++ [cP x.2.1], s.2 ++ [cP x.2.1]) else s
theorem xl (now : List ByteArray) : ∀ (l : List Lk) (s : List ByteArray × List ByteArray), ∃ d : List ByteArray, l.foldl (stF now) s = (s.1 ++ d, s.2 ++ d) ∧
    (∀ x ∈ l, cP x.1 ∈ now → cP x.2.1 ∈ s.1 ++ d) ∧ (∀ t ∈ d, ∃ x ∈ l, cP x.1 ∈ now ∧ cP x.2.1 = t) ∧ (s.1.Nodup → (s.1 ++ d).Nodup)
  | [], s => ⟨[], by simp, (fun x hx => by cases hx), (fun t ht => by cases ht), fun h => by simpa using h⟩
  | x :: l, s => by
    rw [List.foldl_cons]
    obtain ⟨d, e, h1, h2, h3⟩ := xl now l (stF now s x)
    by_cases hc : (jc now (cP x.1) && !jc s.1 (cP x.2.1)) = true
    · have es : stF now s x = (s.1 ++ [cP x.2.1], s.2 ++ [cP x.2.1]) := if_pos hc
      rw [es] at e h1 h3 ⊢
      rw [Bool.and_eq_true, qP, Bool.not_eq_true', vv] at hc
      refine ⟨cP x.2.1 :: d, by rw [e, List.append_assoc, List.append_assoc]; rfl, fun y hy hn => ?_, fun t ht => ?_, fun hd => ?_⟩
      · rcases List.mem_cons.1 hy with rfl | hy
        · exact List.mem_append.2 (.inr List.mem_cons_self)
        · have := h1 y hy hn
          rwa [List.append_assoc] at this
      · rcases List.mem_cons.1 ht with rfl | ht
        · exact ⟨x, List.mem_cons_self, hc.1, rfl⟩
        · obtain ⟨y, hy, h⟩ := h2 t ht
          exact ⟨y, List.mem_cons_of_mem _ hy, h⟩
      · have := h3 (by
          rw [List.nodup_append]
          exact ⟨hd, by simp, fun a ha b hb => by rw [List.mem_singleton.1 hb]; exact fun e => hc.2 (e ▸ ha)⟩)
        rwa [List.append_assoc] at this
    · have es : stF now s x = s := if_neg hc
      rw [es] at e h1 h3 ⊢
      refine ⟨d, e, fun y hy hn => ?_, fun t ht => ?_, h3⟩
      · rcases List.mem_cons.1 hy with rfl | hy
        · rw [Bool.and_eq_true, qP, Bool.not_eq_true', vv] at hc
          exact List.mem_append.2 (.inl (Classical.byContradiction fun hn' => hc ⟨hn, hn'⟩))
        · exact h1 y hy hn
      · obtain ⟨y, hy, h⟩ := h2 t ht
        exact ⟨y, List.mem_cons_of_mem _ hy, h⟩
structure Af (l : List Lk) (k : ByteArray) (n : Nat) (now out : List ByteArray) : Prop where
 nd : out.Nodup
 sub : ∀ t ∈ out, ∃ x ∈ l, cP x.2.1 = t
 fuel : now = [] ∨ l.length + 1 ≤ out.length + n
theorem Af.next {l : List Lk} {k : ByteArray} {n : Nat} {now out : List ByteArray} (h : Af l k (n + 1) now out) (hn : now ≠ []) : Af l k n (l.foldl (stF now) (out, [])).2 (l.foldl (stF now) (out, [])).1 := by
 obtain ⟨d, e, h1, h2, h3⟩ := xl now l (out, [])
 rw [e]
 have hsub : ∀ t ∈ out ++ d, ∃ x ∈ l, cP x.2.1 = t := fun t ht => by
  rcases List.mem_append.1 ht with ht | ht
  ·exact h.sub t ht
  ·obtain ⟨x, hx, _, e⟩ := h2 t ht
   exact ⟨x, hx, e⟩
 refine ⟨h3 h.nd, hsub, ?_⟩
 rcases h.fuel with h | h
 ·exact absurd h hn
 ·show [] ++ d = [] ∨ l.length + 1 ≤ (out ++ d).length + n
  by_cases hd : d = []
  ·exact .inl hd
  ·have : 0 < d.length := List.length_pos_iff.2 hd
   rw [List.length_append]
   exact .inr (by omega)
end Go.Proofs.YtnakjijahkaoaaaDoor
namespace Go.Proofs.YtnakjijahkaoaaaDoor
open Go Go.RowKit
end Go.Proofs.YtnakjijahkaoaaaDoor
namespace Go.Proofs.YtnakjijahkaoaaaDoor
open Go Go.RowKit
inductive Rch (l : List Lk) : ByteArray → ByteArray → Prop where
 | one (x : Lk) (h : x ∈ l) : Rch l (cP x.1) (cP x.2.1)
 | step (x : Lk) (h : x ∈ l) {b : ByteArray} (r : Rch l (cP x.2.1) b) : Rch l (cP x.1) b
theorem Rch.trans {l : List Lk} {a b c : ByteArray} (h : Rch l a b) (k : Rch l b c) : Rch l a c := by
 induction h with
 | one y hy => exact .step y hy k
 | step y hy _ ih => exact .step y hy (ih k)
end Go.Proofs.YtnakjijahkaoaaaDoor
namespace Go.Proofs.YtnakjijahkaoaaaDoor
open Go Go.RowKit
end Go.Proofs.YtnakjijahkaoaaaDoor
namespace Go.Proofs.YtnakjijahkaoaaaDoor
open Go Go.RowKit
noncomputable abbrev mF : ay := { T := bQ, F := [], n := (jG).ntmps }
noncomputable abbrev rN : Ann := { }
theorem yt : cB prog mF := BX ((bq bB be))
theorem wR : dL mF = true := by kernel_rfl
noncomputable def rq (e : den ah) : eP := eP.ite (decide (Prod.fst e = 1)) (eP.ret (K.val (Ty.pair Ty.bool Ty.unit) (decide (Prod.fst (Prod.snd (Prod.snd e)) = 0), PUnit.unit))) (eP.ite (decide (Prod.fst e = 2)) (eP.ret (K.val (Ty.pair Ty.bool Ty.unit) (bif bif eqb tId (Prod.fst (Prod.snd e)) (List.replicate 32 (zero (Ty.int IntKind.u8))) then decide (0 ≤ Prod.fst (Prod.snd (Prod.snd e))) else false then decide (Prod.fst (Prod.snd (Prod.snd e)) < 16) else false, PUnit.unit))) (eP.ret (K.val (Ty.pair Ty.bool Ty.unit) (false, PUnit.unit))))
theorem ua (e : den ah) : gf mF rN pX jG 1000 (aI jG) (Env.of (ba qf (e, ()) 0) []) = rq e := by kernel_rfl
end Go.Proofs.YtnakjijahkaoaaaDoor
namespace Go.Proofs.YtnakjijahkaoaaaDoor
open Go Go.RowKit
def dF (e : den ah) : Bool :=
 if e.1 = 1 then decide (e.2.2.1 = 0)
 else if e.1 = 2 then decide (e.2.1 = List.replicate 32 0) && decide (0 ≤ e.2.2.1) && decide (e.2.2.1 < 16)
 else false
noncomputable abbrev hK : bD := ⟨qf, pX, fun x => (dF x.1, ()), fun _ => True, true⟩
theorem Bh (x y : den tId) : eqb tId x y = decide (x = y) := by
 have := eH (t := tId) rfl x y
 cases h : eqb tId x y
 ·have : ¬ x = y := fun e => by rw [this.2 e] at h; cases h
  simp [this]
 ·simp [this.1 h]
theorem jC : aJ prog [] fW hK :=
 B3 yt wR wg (by kernel_rfl) (fun _ _ => trivial) (A := rN) (T := fun x => rq x.1) (fun x => ua x.1) fun O w0 x _ _ => by
  obtain ⟨e, ⟨⟩⟩ := x
  refine ⟨fun h => ⟨_, rfl, ?_⟩, fun h => ⟨fun h' => ⟨_, rfl, ?_⟩, fun h' => ⟨_, rfl, ?_⟩⟩⟩
  ·have h : e.1 = 1 := of_decide_eq_true h
   simp [dF, h]
  ·have h : ¬ e.1 = 1 := of_decide_eq_false h
   have h' : e.1 = 2 := of_decide_eq_true h'
   rw [Bh]
   simp [dF, h', zero, cond_eq_ite]
   rfl
  ·have h : ¬ e.1 = 1 := of_decide_eq_false h
   have h' : ¬ e.1 = 2 := of_decide_eq_false h'
   simp [dF, h, h']
end Go.Proofs.YtnakjijahkaoaaaDoor
namespace Go.Proofs.YtnakjijahkaoaaaDoor
open Go Go.RowKit
end Go.Proofs.YtnakjijahkaoaaaDoor
namespace Go.Proofs.YtnakjijahkaoaaaDoor
open Go Go.RowKit
end Go.Proofs.YtnakjijahkaoaaaDoor
namespace Go.Proofs.YtnakjijahkaoaaaDoor
open Go Go.RowKit
end Go.Proofs.YtnakjijahkaoaaaDoor
namespace Go.Proofs.YtnakjijahkaoaaaDoor
open Go Go.RowKit
abbrev Ent := den ah
def gA (l : List Ent) : Bool := l.all dF
def fR (l : List Ent) : Bool := decide (1 ≤ l.length) && decide (l.length ≤ 4) && gA l
noncomputable abbrev iV : bD := ⟨ov, kh, fun x => (gA x.1, ()), fun x => x.1.length ≤ 1000000, false⟩
noncomputable abbrev gE : bD := ⟨mv, mh, fun x => (fR x.1, ()), fun x => x.1.length ≤ 1000000, false⟩
end Go.Proofs.YtnakjijahkaoaaaDoor
namespace Go.Proofs.YtnakjijahkaoaaaDoor
open Go Go.RowKit
noncomputable abbrev cm : Fx := { fn := bF, ann := { } }
noncomputable abbrev bT : Fx := { fn := bA, ann := { loops := [(2, { keep := [0, 1, 7, 8] })] } }
noncomputable abbrev tf : Fx := { fn := nV, ann := { } }
noncomputable abbrev fT : Fx := { fn := fj, ann := { } }
noncomputable abbrev iT : bl := { D := { T := bQ, F := [(fW, hK)], R := [], ovl := [] }, inl := [(eN, cm), (fS, bT), (fb, tf)] }
noncomputable abbrev p4 : bV := .data kh
theorem lB (h_stack_Is : aJ prog [] fW hK) : XOk prog iT := xok (aW (bq bB be) h_stack_Is) (by kernel_rfl) bj (jQ iP (by kernel_rfl) (jQ jz (by kernel_rfl) (jQ sS (by kernel_rfl) bw))) bC
noncomputable def qa (l : den (Ty.slc ah)) : ab := ab.loop [{ fx := cm, todo := f8 bF 1 2, dst := some 7, s := ofS [] }, { fx := fT, todo := f8 fj 1 1, dst := some 4, s := ofS [] }] bT (lp bA 2) [(0, K.val (Ty.slc ah) l), (1, K.fnc fb), (7, K.val af (lnx ah l)), (8, K.val af 0)] []
theorem tg (l : den (Ty.slc ah)) : az iT p4 5000 [] fT (aI fj) (Env.of (ba ov (l, ()) 0) []) = qa l := by kernel_rfl
noncomputable def c9 (v0 : den (Ty.slc ah)) (v7 : den af) (v8 : den af) : List bu := [{ fx := cm, todo := f8 bF 1 2, dst := some 7, s := ofS [] }, { fx := fT, todo := f8 fj 1 1, dst := some 4, s := ofS [] }]
noncomputable def c6 (v0 : den (Ty.slc ah)) (v7 : den af) (v8 : den af) : Env := Env.of [(0, K.val (Ty.slc ah) v0), (1, K.fnc fb), (7, K.val af v7), (8, K.val af v8)] []
noncomputable def fF (v0 : den (Ty.slc ah)) (v7 : den af) (v8 : den af) : ab := ab.ite (decide (v8 < v7)) (ab.req (inB v8 (lnx ah v0)) (ab.req True (ab.ite (!dF (el ah v0 v8)) (ab.ret (K.val (Ty.pair Ty.bool Ty.unit) (!decide (0 ≤ v8), PUnit.unit))) (ab.loop [{ fx := cm, todo := f8 bF 1 2, dst := some 7, s := ofS [] }, { fx := fT, todo := f8 fj 1 1, dst := some 4, s := ofS [] }] bT (lp bA 2) [(0, K.val (Ty.slc ah) v0), (1, K.fnc fb), (7, K.val af v7), (8, K.val af (IntKind.wrap IntKind.i64 (v8 + 1)))] [])))) (ab.ret (K.val (Ty.pair Ty.bool Ty.unit) (!decide (0 ≤ -1), PUnit.unit)))
theorem cQ (v0 : den (Ty.slc ah)) (v7 : den af) (v8 : den af) : az iT p4 5000 (c9 v0 v7 v8) bT (lp bA 2) (c6 v0 v7 v8) = fF v0 v7 v8 := by kernel_rfl
noncomputable abbrev md : Fx := { fn := jg, ann := { } }
noncomputable abbrev nj : bl := { D := { T := bQ, F := [(iS, iV)], R := [], ovl := [] }, inl := [] }
noncomputable abbrev ub : bV := .data mh
theorem t7 (h_stack_all : aJ prog [] iS iV) : XOk prog nj := xok (aW (bq bB be) h_stack_all) (by kernel_rfl) bj bw bC
noncomputable def nG (l : den (Ty.slc ah)) : ab := ab.req (j2 [(bif decide (1 ≤ lnx ah l) then decide (lnx ah l ≤ 4) else false, true)] (List.length l ≤ 1000000)) (ab.ret (K.val (Ty.pair Ty.bool Ty.unit) (bif bif decide (1 ≤ lnx ah l) then decide (lnx ah l ≤ 4) else false then gA l else false, PUnit.unit)))
theorem qp (l : den (Ty.slc ah)) : az nj ub 5000 [] md (aI jg) (Env.of (ba mv (l, ()) 0) []) = nG l := by kernel_rfl
end Go.Proofs.YtnakjijahkaoaaaDoor
namespace Go.Proofs.YtnakjijahkaoaaaDoor
open Go Go.RowKit
theorem zM {l : List Ent} {i : Nat} (hi : i < l.length) (h : gA (l.take i) = true) : gA (l.take (i + 1)) = dF l[i] := by
 unfold gA at h ⊢
 rw [List.take_succ_eq_append_getElem hi, List.all_append, h, List.all_cons, List.all_nil, Bool.and_true, Bool.true_and]
theorem A5 {l : List Ent} {i : Nat} (hi : i < l.length) (h : dF l[i] = false) : gA l = false := by
 unfold gA
 rw [List.all_eq_false]
 exact ⟨l[i], List.getElem_mem hi, by rw [h]; simp⟩
def vO (O : Nat → Prop) (w0 : World) (l : List Ent) (hl : l.length ≤ 1000000) :=
 PLift.up <| gS (σ := Unit) l.length (fun i _ => gA (l.take i) = true)
  (fun i _ => bM prog iT (Cx.base O w0) (eC prog O w0 kh fun y => y = (gA l, ())) (c9 l (lnx ah l) (i : Nat)) bT (lp bA 2) (c6 l (lnx ah l) (i : Nat)))
  (fun i s hi hb ih => cz (lB jC) (cQ l _ _) (by
   refine ⟨fun _ => ⟨Bs hi, trivial, fun h => ⟨_, rfl, ?_⟩, fun h => ?_⟩, fun h => ?_⟩
   ·rw [AD hi] at h
    have h1 : dF l[i] = false := by simpa using h
    rw [A5 hi h1, decide_eq_true (Int.natCast_nonneg i)]
    rfl
   ·rw [AD hi] at h
    rw [kr hi (by omega)]
    refine ih () ?_
    rw [zM hi hb]
    simpa using h
   ·rw [xg] at h
    exact absurd hi (of_decide_eq_false h)))
  (fun s hb => cz (lB jC) (cQ l _ _) (by
   refine ⟨fun h => ?_, fun _ => ⟨_, rfl, ?_⟩⟩
   ·rw [xg] at h
    exact absurd (of_decide_eq_true h) (Nat.lt_irrefl _)
   ·rw [List.take_length] at hb
    rw [hb]
    rfl))
theorem wm : aJ prog [] iS iV :=
 cJ (S := iV) (lB jC) (fx := fT) uQ (by kernel_rfl) (fun h => by cases h) (T := fun x => qa x.1) (fun x => tg x.1) fun O w0 x _ hp =>
  (vO O w0 x.1 hp).down 0 () (Nat.zero_le _) rfl
theorem Ao (l : List Ent) {a b : Bool} (ha : a = decide (1 ≤ l.length)) (hb : b = decide (l.length ≤ 4)) : (bif bif a then b else false then gA l else false) = fR l := by
 unfold fR
 rw [ha, hb]
 cases decide (1 ≤ l.length) <;> cases decide (l.length ≤ 4) <;> cases gA l <;> rfl
theorem xc (l : List Ent) : decide ((1 : Int) ≤ lnx ah l) = decide (1 ≤ l.length) ∧ decide (lnx ah l ≤ 4) = decide (l.length ≤ 4) ∧ decide ((0 : Int) < lnx ah l) = decide (1 ≤ l.length) ∧ decide (lnx ah l < 5) = decide (l.length ≤ 4) := by
 have h : lnx ah l = (l.length : Int) := rfl
 rw [h]
 refine ⟨?_, ?_, ?_, ?_⟩ <;> (rw [Bool.eq_iff_iff, decide_eq_true_eq, decide_eq_true_eq]; omega)
theorem tP : aJ prog [] gx gE :=
 cJ (S := gE) (t7 wm) (fx := md) s6 (by kernel_rfl) (fun h => by cases h) (T := fun x => nG x.1) (fun x => qp x.1) fun O w0 x _ hp =>
  ⟨fun _ => hp, _, rfl, Prod.ext (Ao x.1 (xc x.1).1 (xc x.1).2.1) rfl⟩
end Go.Proofs.YtnakjijahkaoaaaDoor
namespace Go.Proofs.YtnakjijahkaoaaaDoor
open Go Go.RowKit
noncomputable abbrev nr : Fx := { fn := jY, ann := { } }
noncomputable abbrev oZ : bl := { D := { T := bQ, F := [], R := [], ovl := [] }, inl := [] }
noncomputable abbrev u9 : bV := .data nA
theorem vq : XOk prog oZ := xok ((bq bB be)) (by kernel_rfl) bj bw bC
noncomputable def oB : ab := ab.ret (K.val (Ty.pair (Ty.mp af cw) Ty.unit) (cx (cx (cx (cx (cx (cx (cx (cx (cx (cx [] 1 (Prod.fst (zero (Ty.pair Ty.bool (Ty.pair Ty.bool (Ty.pair Ty.bool (Ty.pair Ty.bool (Ty.pair Ty.bool (Ty.pair Ty.bool Ty.unit))))))), Prod.fst (Prod.snd (zero (Ty.pair Ty.bool (Ty.pair Ty.bool (Ty.pair Ty.bool (Ty.pair Ty.bool (Ty.pair Ty.bool (Ty.pair Ty.bool Ty.unit)))))))), true, true, Prod.fst (Prod.snd (Prod.snd (Prod.snd (Prod.snd (zero (Ty.pair Ty.bool (Ty.pair Ty.bool (Ty.pair Ty.bool (Ty.pair Ty.bool (Ty.pair Ty.bool (Ty.pair Ty.bool Ty.unit))))))))))), true, Prod.snd (Prod.snd (Prod.snd (Prod.snd (Prod.snd (Prod.snd (zero (Ty.pair Ty.bool (Ty.pair Ty.bool (Ty.pair Ty.bool (Ty.pair Ty.bool (Ty.pair Ty.bool (Ty.pair Ty.bool Ty.unit)))))))))))))) 2 (true, true, Prod.fst (Prod.snd (Prod.snd (zero (Ty.pair Ty.bool (Ty.pair Ty.bool (Ty.pair Ty.bool (Ty.pair Ty.bool (Ty.pair Ty.bool (Ty.pair Ty.bool Ty.unit))))))))), true, Prod.snd (Prod.snd (Prod.snd (Prod.snd (zero (Ty.pair Ty.bool (Ty.pair Ty.bool (Ty.pair Ty.bool (Ty.pair Ty.bool (Ty.pair Ty.bool (Ty.pair Ty.bool Ty.unit)))))))))))) 3 (true, true, Prod.fst (Prod.snd (Prod.snd (zero (Ty.pair Ty.bool (Ty.pair Ty.bool (Ty.pair Ty.bool (Ty.pair Ty.bool (Ty.pair Ty.bool (Ty.pair Ty.bool Ty.unit))))))))), Prod.fst (Prod.snd (Prod.snd (Prod.snd (zero (Ty.pair Ty.bool (Ty.pair Ty.bool (Ty.pair Ty.bool (Ty.pair Ty.bool (Ty.pair Ty.bool (Ty.pair Ty.bool Ty.unit)))))))))), true, Prod.snd (Prod.snd (Prod.snd (Prod.snd (Prod.snd (zero (Ty.pair Ty.bool (Ty.pair Ty.bool (Ty.pair Ty.bool (Ty.pair Ty.bool (Ty.pair Ty.bool (Ty.pair Ty.bool Ty.unit))))))))))))) 4 (true, true, Prod.fst (Prod.snd (Prod.snd (zero (Ty.pair Ty.bool (Ty.pair Ty.bool (Ty.pair Ty.bool (Ty.pair Ty.bool (Ty.pair Ty.bool (Ty.pair Ty.bool Ty.unit))))))))), true, true, Prod.snd (Prod.snd (Prod.snd (Prod.snd (Prod.snd (zero (Ty.pair Ty.bool (Ty.pair Ty.bool (Ty.pair Ty.bool (Ty.pair Ty.bool (Ty.pair Ty.bool (Ty.pair Ty.bool Ty.unit))))))))))))) 5 (true, true, Prod.snd (Prod.snd (zero (Ty.pair Ty.bool (Ty.pair Ty.bool (Ty.pair Ty.bool (Ty.pair Ty.bool (Ty.pair Ty.bool (Ty.pair Ty.bool Ty.unit)))))))))) 6 (true, true, Prod.fst (Prod.snd (Prod.snd (zero (Ty.pair Ty.bool (Ty.pair Ty.bool (Ty.pair Ty.bool (Ty.pair Ty.bool (Ty.pair Ty.bool (Ty.pair Ty.bool Ty.unit))))))))), Prod.fst (Prod.snd (Prod.snd (Prod.snd (zero (Ty.pair Ty.bool (Ty.pair Ty.bool (Ty.pair Ty.bool (Ty.pair Ty.bool (Ty.pair Ty.bool (Ty.pair Ty.bool Ty.unit)))))))))), true, Prod.snd (Prod.snd (Prod.snd (Prod.snd (Prod.snd (zero (Ty.pair Ty.bool (Ty.pair Ty.bool (Ty.pair Ty.bool (Ty.pair Ty.bool (Ty.pair Ty.bool (Ty.pair Ty.bool Ty.unit))))))))))))) 7 (true, Prod.snd (zero (Ty.pair Ty.bool (Ty.pair Ty.bool (Ty.pair Ty.bool (Ty.pair Ty.bool (Ty.pair Ty.bool (Ty.pair Ty.bool Ty.unit))))))))) 8 (true, Prod.fst (Prod.snd (zero (Ty.pair Ty.bool (Ty.pair Ty.bool (Ty.pair Ty.bool (Ty.pair Ty.bool (Ty.pair Ty.bool (Ty.pair Ty.bool Ty.unit)))))))), Prod.fst (Prod.snd (Prod.snd (zero (Ty.pair Ty.bool (Ty.pair Ty.bool (Ty.pair Ty.bool (Ty.pair Ty.bool (Ty.pair Ty.bool (Ty.pair Ty.bool Ty.unit))))))))), true, Prod.snd (Prod.snd (Prod.snd (Prod.snd (zero (Ty.pair Ty.bool (Ty.pair Ty.bool (Ty.pair Ty.bool (Ty.pair Ty.bool (Ty.pair Ty.bool (Ty.pair Ty.bool Ty.unit)))))))))))) 9 (true, Prod.fst (Prod.snd (zero (Ty.pair Ty.bool (Ty.pair Ty.bool (Ty.pair Ty.bool (Ty.pair Ty.bool (Ty.pair Ty.bool (Ty.pair Ty.bool Ty.unit)))))))), Prod.fst (Prod.snd (Prod.snd (zero (Ty.pair Ty.bool (Ty.pair Ty.bool (Ty.pair Ty.bool (Ty.pair Ty.bool (Ty.pair Ty.bool (Ty.pair Ty.bool Ty.unit))))))))), true, Prod.snd (Prod.snd (Prod.snd (Prod.snd (zero (Ty.pair Ty.bool (Ty.pair Ty.bool (Ty.pair Ty.bool (Ty.pair Ty.bool (Ty.pair Ty.bool (Ty.pair Ty.bool Ty.unit)))))))))))) 10 (true, Prod.fst (Prod.snd (zero (Ty.pair Ty.bool (Ty.pair Ty.bool (Ty.pair Ty.bool (Ty.pair Ty.bool (Ty.pair Ty.bool (Ty.pair Ty.bool Ty.unit)))))))), Prod.fst (Prod.snd (Prod.snd (zero (Ty.pair Ty.bool (Ty.pair Ty.bool (Ty.pair Ty.bool (Ty.pair Ty.bool (Ty.pair Ty.bool (Ty.pair Ty.bool Ty.unit))))))))), true, Prod.snd (Prod.snd (Prod.snd (Prod.snd (zero (Ty.pair Ty.bool (Ty.pair Ty.bool (Ty.pair Ty.bool (Ty.pair Ty.bool (Ty.pair Ty.bool (Ty.pair Ty.bool Ty.unit))))))))))), PUnit.unit))
theorem rX : az oZ u9 5000 [] nr (aI jY) (Env.of (ba nS () 0) []) = oB := by kernel_rfl
noncomputable abbrev iz : Fx := { fn := fN, ann := { frz := [(1, [3])] } }
noncomputable abbrev jb : bl := { D := { T := bQ, F := [], R := [], ovl := [] }, inl := [] }
noncomputable abbrev pg : bV := .data iB
theorem o7 : XOk prog jb := xok ((bq bB be)) (by kernel_rfl) bj bw bC
noncomputable def je (m : den aB) (nonce : den Ty.str) (good : den (Ty.ref af)) : ab := ab.ite (bif decide (Prod.fst (Prod.fst (Prod.snd (Prod.snd m))) = 2) then eqb Ty.str (Prod.fst (Prod.snd (Prod.snd (Prod.snd (Prod.snd (Prod.snd m)))))) nonce else false) (ab.ret (K.val (Ty.pair af Ty.unit) (good, PUnit.unit))) (ab.ret (K.val (Ty.pair af Ty.unit) (4, PUnit.unit)))
theorem lU (m : den aB) (nonce : den Ty.str) (good : den (Ty.ref af)) : az jb pg 5000 [] iz (aI fN) (Env.of (ba iw (m, nonce, good, ()) 0) []) = je m nonce good := by kernel_rfl
noncomputable abbrev jv : Fx := { fn := gI, ann := { frz := [(1, [2])] } }
noncomputable abbrev kw : bl := { D := { T := bQ, F := [(gF, gB)], R := [], ovl := [], G := gl }, inl := [] }
noncomputable abbrev re : bV := .data ew
theorem ql (h_proof_Links : aJ prog gl gF gB) : XOk prog kw := xok (aW (bq bB be) h_proof_Links) (by kernel_rfl) bj bw bC
noncomputable def kC (m : den aB) (nonce : den Ty.str) : ab := ab.ite (decide (Prod.fst (Prod.fst (Prod.snd (Prod.snd m))) = 2)) (ab.ret (K.val (Ty.pair af Ty.unit) (1, PUnit.unit))) (ab.req True (ab.ite (iF (Prod.fst (Prod.snd m)) (Prod.fst (Prod.snd (Prod.fst (Prod.snd (Prod.snd m)))))) (ab.ret (K.val (Ty.pair af Ty.unit) (2, PUnit.unit))) (ab.ret (K.val (Ty.pair af Ty.unit) (4, PUnit.unit)))))
theorem nY (m : den aB) (nonce : den Ty.str) : az kw re 5000 [] jv (aI gI) (Env.of (ba ge (m, nonce, ()) 0) []) = kC m nonce := by kernel_rfl
noncomputable abbrev rl : Fx := { fn := oq, ann := { } }
noncomputable abbrev tw : bl := { D := { T := bQ, F := [], R := [], ovl := [] }, inl := [] }
noncomputable abbrev yE : bV := .data rr
theorem zj : XOk prog tw := xok ((bq bB be)) (by kernel_rfl) bj bw bC
noncomputable def tB (m : den aB) : ab := ab.req (aY 0 (bO (lnx ah (Prod.fst (Prod.snd (Prod.snd (Prod.snd m))))) 6) (lnx ah (Prod.fst (Prod.snd (Prod.snd (Prod.snd m)))))) (ab.req (aY 0 (bO (aD (Prod.fst (Prod.snd (Prod.snd (Prod.snd (Prod.snd (Prod.snd m))))))) 20) (aD (Prod.fst (Prod.snd (Prod.snd (Prod.snd (Prod.snd (Prod.snd m)))))))) (ab.req (aY 0 (bO (aD (Prod.fst (Prod.snd (Prod.snd (Prod.snd (Prod.snd (Prod.snd (Prod.snd m)))))))) 70) (aD (Prod.fst (Prod.snd (Prod.snd (Prod.snd (Prod.snd (Prod.snd (Prod.snd m))))))))) (ab.ret (K.val (Ty.pair aB Ty.unit) ((Prod.fst m, Prod.fst (Prod.snd m), Prod.fst (Prod.snd (Prod.snd m)), cI ah (Prod.fst (Prod.snd (Prod.snd (Prod.snd m)))) 0 (bO (lnx ah (Prod.fst (Prod.snd (Prod.snd (Prod.snd m))))) 6), Prod.fst (Prod.snd (Prod.snd (Prod.snd (Prod.snd m)))), bt (Prod.fst (Prod.snd (Prod.snd (Prod.snd (Prod.snd (Prod.snd m)))))) 0 (bO (aD (Prod.fst (Prod.snd (Prod.snd (Prod.snd (Prod.snd (Prod.snd m))))))) 20), bt (Prod.fst (Prod.snd (Prod.snd (Prod.snd (Prod.snd (Prod.snd (Prod.snd m))))))) 0 (bO (aD (Prod.fst (Prod.snd (Prod.snd (Prod.snd (Prod.snd (Prod.snd (Prod.snd m)))))))) 70), Prod.snd (Prod.snd (Prod.snd (Prod.snd (Prod.snd (Prod.snd (Prod.snd m))))))), PUnit.unit)))))
theorem wa (m : den aB) : az tw yE 5000 [] rl (aI oq) (Env.of (ba sc (m, ()) 0) []) = tB m := by kernel_rfl
end Go.Proofs.YtnakjijahkaoaaaDoor
namespace Go.Proofs.YtnakjijahkaoaaaDoor
open Go Go.RowKit
abbrev Mg := den aB
abbrev Fd := den cw
def fd (id target stack n nonce data : Bool) : Fd := (id, target, stack, n, nonce, data, ())
def cS : List (den af × den cw) := [(1, fd false false true true false true), (2, fd true true false true false false), (3, fd true true false false true false), (4, fd true true false true true false), (5, fd true true false false false false),
 (6, fd true true false false true false), (7, fd true false false false false false), (8, fd true false false true false false), (9, fd true false false true false false), (10, fd true false false true false false)]
noncomputable abbrev gX : bD := ⟨nS, nA, fun _ => (cS, ()), fun _ => True, true⟩
theorem vo : aJ prog [] g7 gX :=
 cJ (S := gX) vq (fx := nr) tQ (by kernel_rfl) (fun _ _ => trivial) (T := fun _ => oB) (fun _ => rX) fun O w0 x _ _ => ⟨_, rfl, by show _ = _; kernel_rfl⟩
def lY (m : Mg) : den ah := m.2.2.1
def lZ (m : Mg) : ByteArray := m.2.2.2.2.2.1
def fO (m : Mg) : Int := (lY m).1
def dU (m : Mg) (nonce : ByteArray) (good : Int) : Int := bif (bif decide (fO m = 2) then eqb Ty.str (lZ m) nonce else false) then good else 4
noncomputable abbrev d6 : bD := ⟨iw, iB, fun x => (dU x.1 x.2.1 x.2.2.1, ()), fun _ => True, true⟩
theorem oX : aJ prog [] dR d6 :=
 cJ (S := d6) o7 (fx := iz) nX (by kernel_rfl) (fun _ _ => trivial) (T := fun x => je x.1 x.2.1 x.2.2.1) (fun x => lU x.1 x.2.1 x.2.2.1) fun O w0 x _ _ => by
  refine ⟨fun h => ⟨_, rfl, ?_⟩, fun h => ⟨_, rfl, ?_⟩⟩
  ·show (_, ()) = (dU x.1 x.2.1 x.2.2.1, ())
   have h : (bif decide (fO x.1 = 2) then eqb Ty.str (lZ x.1) x.2.1 else false) = true := h
   unfold dU
   rw [h]
   rfl
  ·show ((4 : Int), ()) = (dU x.1 x.2.1 x.2.2.1, ())
   have h : (bif decide (fO x.1 = 2) then eqb Ty.str (lZ x.1) x.2.1 else false) = false := h
   unfold dU
   rw [h]
   rfl
def dm (m : Mg) : Int := bif decide (fO m = 2) then 1 else bif iF m.2.1 (lY m).2.1 then 2 else 4
noncomputable abbrev eU : bD := ⟨ge, ew, fun x => (dm x.1, ()), fun _ => True, true⟩
theorem qD : aJ prog gl eV eU :=
 cJ (S := eU) (ql tN) (fx := jv) pN (by kernel_rfl) (fun _ _ => trivial) (T := fun x => kC x.1 x.2.1) (fun x => nY x.1 x.2.1) fun O w0 x _ _ => by
  refine ⟨fun h => ⟨_, rfl, ?_⟩, fun h => ⟨trivial, fun h2 => ⟨_, rfl, ?_⟩, fun h2 => ⟨_, rfl, ?_⟩⟩⟩
  ·show ((1 : Int), ()) = (dm x.1, ())
   have h : decide (fO x.1 = 2) = true := h
   unfold dm
   rw [h]
   rfl
  ·show ((2 : Int), ()) = (dm x.1, ())
   have h : decide (fO x.1 = 2) = false := h
   have h2 : iF x.1.2.1 (lY x.1).2.1 = true := h2
   unfold dm
   rw [h, h2]
   rfl
  ·show ((4 : Int), ()) = (dm x.1, ())
   have h : decide (fO x.1 = 2) = false := h
   have h2 : iF x.1.2.1 (lY x.1).2.1 = false := h2
   unfold dm
   rw [h, h2]
   rfl
def aZ : List (den af × den (.fn (.pair aB (.pair .str .unit)) ew)) :=
 [(2, some fun x => (dm x.1, ())), (4, some fun x => (dU x.1 x.2.1 2, ())), (6, some fun x => (dU x.1 x.2.1 3, ()))]
noncomputable abbrev gb : bD := ⟨lr, kU, fun _ => (aZ, ()), fun _ => True, true⟩
end Go.Proofs.YtnakjijahkaoaaaDoor
namespace Go.Proofs.YtnakjijahkaoaaaDoor
open Go Go.RowKit
noncomputable abbrev nk : Fx := { fn := kz, ann := { frz := [(1, [1]), (2, [3])] }, share := true }
noncomputable abbrev pn : bl := { D := { T := bQ, F := [(g7, gX), (fW, hK), (gx, gE)], R := [], ovl := [] }, inl := [] }
noncomputable abbrev u6 : bV := .data js
theorem vE (h_wire_kinds : aJ prog [] g7 gX) (h_stack_Is : aJ prog [] fW hK) (h_stack_Right : aJ prog [] gx gE) : XOk prog pn := xok (aW (aW (aW (bq bB be) h_stack_Right) h_stack_Is) h_wire_kinds) (by kernel_rfl) bj bw bC
noncomputable def oD (m : den aB) : ab := ab.req True (ab.all (den (Ty.mp af cw)) (fun (q1 : den (Ty.mp af cw)) ↦ q1 = cS) fun (q1 : den (Ty.mp af cw)) ↦ ab.ite (!cg cS (Prod.fst m)) (ab.ret (K.val (Ty.pair Ty.bool Ty.unit) (false, PUnit.unit))) (ab.ite (bif !Prod.fst (cf cS (Prod.fst m)) then !eqb tId (Prod.fst (Prod.snd m)) (List.replicate 32 (zero (Ty.int IntKind.u8))) else false) (ab.ret (K.val (Ty.pair Ty.bool Ty.unit) (false, PUnit.unit))) (ab.ite (!eqO (Prod.fst (Prod.snd (cf cS (Prod.fst m)))) !eqb ah (Prod.fst (Prod.snd (Prod.snd m))) (zero (Ty.pair af (Ty.pair tId (Ty.pair af Ty.unit))))) (ab.ret (K.val (Ty.pair Ty.bool Ty.unit) (false, PUnit.unit))) (ab.req (j2 [(Prod.fst (Prod.snd (cf cS (Prod.fst m))), true)] True) (ab.ite (bif Prod.fst (Prod.snd (cf cS (Prod.fst m))) then !dF (Prod.fst (Prod.snd (Prod.snd m))) else false) (ab.ret (K.val (Ty.pair Ty.bool Ty.unit) (false, PUnit.unit))) (ab.ite (!eqO (Prod.fst (Prod.snd (Prod.snd (cf cS (Prod.fst m))))) (decide (0 < lnx ah (Prod.fst (Prod.snd (Prod.snd (Prod.snd m))))))) (ab.ret (K.val (Ty.pair Ty.bool Ty.unit) (false, PUnit.unit))) (ab.req (j2 [(Prod.fst (Prod.snd (Prod.snd (cf cS (Prod.fst m)))), true)] (List.length (Prod.fst (Prod.snd (Prod.snd (Prod.snd m)))) ≤ 1000000)) (ab.ite (bif Prod.fst (Prod.snd (Prod.snd (cf cS (Prod.fst m)))) then !fR (Prod.fst (Prod.snd (Prod.snd (Prod.snd m)))) else false) (ab.ret (K.val (Ty.pair Ty.bool Ty.unit) (false, PUnit.unit))) (ab.ite (bif !Prod.fst (Prod.snd (Prod.snd (Prod.snd (cf cS (Prod.fst m))))) then !decide (Prod.fst (Prod.snd (Prod.snd (Prod.snd (Prod.snd m)))) = 0) else false) (ab.ret (K.val (Ty.pair Ty.bool Ty.unit) (false, PUnit.unit))) (ab.ite (decide (Prod.fst (Prod.snd (Prod.snd (Prod.snd (Prod.snd m)))) < 0)) (ab.ret (K.val (Ty.pair Ty.bool Ty.unit) (false, PUnit.unit))) (ab.ite (decide (1099511627776 < Prod.fst (Prod.snd (Prod.snd (Prod.snd (Prod.snd m)))))) (ab.ret (K.val (Ty.pair Ty.bool Ty.unit) (false, PUnit.unit))) (ab.ite (bif Prod.fst (Prod.snd (Prod.snd (Prod.snd (Prod.snd (cf cS (Prod.fst m)))))) then !decide (aD (Prod.fst (Prod.snd (Prod.snd (Prod.snd (Prod.snd (Prod.snd m)))))) = 16) else false) (ab.ret (K.val (Ty.pair Ty.bool Ty.unit) (false, PUnit.unit))) (ab.ite (bif !Prod.fst (Prod.snd (Prod.snd (Prod.snd (Prod.snd (cf cS (Prod.fst m)))))) then !eqb Ty.str (Prod.fst (Prod.snd (Prod.snd (Prod.snd (Prod.snd (Prod.snd m)))))) { data := { toList := [] } } else false) (ab.ret (K.val (Ty.pair Ty.bool Ty.unit) (false, PUnit.unit))) (ab.ret (K.val (Ty.pair Ty.bool Ty.unit) (bif eqb Ty.str (Prod.fst (Prod.snd (Prod.snd (Prod.snd (Prod.snd (Prod.snd (Prod.snd m))))))) { data := { toList := [] } } then true else bif Prod.fst (Prod.snd (Prod.snd (Prod.snd (Prod.snd (Prod.snd (cf cS (Prod.fst m))))))) then decide (aD (Prod.fst (Prod.snd (Prod.snd (Prod.snd (Prod.snd (Prod.snd (Prod.snd m))))))) ≤ 64) else false, PUnit.unit))))))))))))))))
theorem rM (m : den aB) : az pn u6 5000 [] nk (aI kz) (Env.of (ba nO (m, ()) 0) []) = oD m := by kernel_rfl
noncomputable abbrev pS : Fx := { fn := j7, ann := { frz := [(1, [1])] } }
noncomputable abbrev kW : Fx := { fn := iH, ann := { } }
noncomputable abbrev mz : bl := { D := { T := bQ, F := [(dR, d6), (eV, eU)], R := [], ovl := [], G := gl }, inl := [(ke, pS)] }
noncomputable abbrev s8 : bV := .data kU
theorem s5 (h_guard_judges_1_1 : aJ prog gl dR d6) (h_guard_judges_2 : aJ prog gl eV eU) : XOk prog mz := xok (aW (aW (bq bB be) h_guard_judges_2) h_guard_judges_1_1) (by kernel_rfl) bj (jQ pM (by kernel_rfl) bw) bC
noncomputable def ma : ab := ab.req (∀ (y : den (Ty.pair aB (Ty.pair Ty.str Ty.unit))), True) (ab.req (∀ (y : den (Ty.pair aB (Ty.pair Ty.str Ty.unit))), True) (ab.ret (K.val (Ty.pair (Ty.mp af (Ty.fn (Ty.pair aB (Ty.pair Ty.str Ty.unit)) (Ty.pair af Ty.unit))) Ty.unit) (cx (cx (cx [] 2 (some fun (x : den ge) ↦ (dm (Prod.fst x), PUnit.unit))) 4 (some fun (y : den (Ty.pair aB (Ty.pair Ty.str Ty.unit))) ↦ (dU (Prod.fst y) (Prod.fst (Prod.snd y)) 2, PUnit.unit))) 6 (some fun (y : den (Ty.pair aB (Ty.pair Ty.str Ty.unit))) ↦ (dU (Prod.fst y) (Prod.fst (Prod.snd y)) 3, PUnit.unit)), PUnit.unit))))
theorem pL : az mz s8 5000 [] kW (aI iH) (Env.of (ba lr () 0) []) = ma := by kernel_rfl
end Go.Proofs.YtnakjijahkaoaaaDoor
namespace Go.Proofs.YtnakjijahkaoaaaDoor
open Go Go.RowKit
def pr : den ah := zero (Ty.pair af (Ty.pair tId (Ty.pair af Ty.unit)))
def mf (m : Mg) : Fd := cf cS m.1
def w0 (m : Mg) : Bool := !cg cS m.1
def w1 (m : Mg) : Bool := bif !(mf m).1 then !eqb tId m.2.1 (List.replicate 32 (zero (Ty.int IntKind.u8))) else false
def w2 (m : Mg) : Bool := !eqO (mf m).2.1 (!eqb ah m.2.2.1 pr)
def w3 (m : Mg) : Bool := bif (mf m).2.1 then !dF m.2.2.1 else false
def w4 (m : Mg) : Bool := !eqO (mf m).2.2.1 (decide (0 < lnx ah m.2.2.2.1))
def w5 (m : Mg) : Bool := bif (mf m).2.2.1 then !fR m.2.2.2.1 else false
def mN (m : Mg) : Int := m.2.2.2.2.1
def w6 (m : Mg) : Bool := bif !(mf m).2.2.2.1 then !decide (mN m = 0) else false
def w7 (m : Mg) : Bool := decide (mN m < 0)
def w8 (m : Mg) : Bool := decide (1099511627776 < mN m)
def w9 (m : Mg) : Bool := bif (mf m).2.2.2.2.1 then !decide (aD m.2.2.2.2.2.1 = 16) else false
def w10 (m : Mg) : Bool := bif !(mf m).2.2.2.2.1 then !eqb Ty.str m.2.2.2.2.2.1 ⟨⟨[]⟩⟩ else false
def w11 (m : Mg) : Bool := bif eqb Ty.str m.2.2.2.2.2.2.1 ⟨⟨[]⟩⟩ then true else bif (mf m).2.2.2.2.2.1 then decide (aD m.2.2.2.2.2.2.1 ≤ 64) else false
def aQ (m : Mg) : Bool := bif w0 m then false else bif w1 m then false else bif w2 m then false else bif w3 m then false else bif w4 m then false else bif w5 m then false else
 bif w6 m then false else bif w7 m then false else bif w8 m then false else bif w9 m then false else bif w10 m then false else w11 m
noncomputable abbrev fU : bD := ⟨nO, js, fun x => (aQ x.1, ()), fun x => x.1.2.2.2.1.length ≤ 1000000, false⟩
theorem vb : aJ prog [] ig fU :=
 cJ (S := fU) (vE vo jC tP) (fx := nk) ui (by kernel_rfl) (fun h => by cases h) (T := fun x => oD x.1) (fun x => rM x.1) fun O v0 x _ hp => by
  obtain ⟨m, ⟨⟩⟩ := x
  have hp : m.2.2.2.1.length ≤ 1000000 := hp
  have leaf : ∀ {b : Bool}, aQ m = b → ∃ z, aO js (K.val (Ty.pair Ty.bool Ty.unit) (b, ())) = some z ∧ z = fU.g (m, ()) := fun {b} e => ⟨_, rfl, by show (b, ()) = (aQ m, ()); rw [e]⟩
  refine ⟨trivial, bo ⟨fun h => leaf ?_, fun h0 => ⟨fun h => leaf ?_, fun h1 => ⟨fun h => leaf ?_, fun h2 => ⟨fun _ => trivial, fun h => leaf ?_, fun h3 => ⟨fun h => leaf ?_, fun h4 => ⟨fun _ => hp, fun h => leaf ?_, fun h5 => ⟨fun h => leaf ?_, fun h6 => ⟨fun h => leaf ?_, fun h7 => ⟨fun h => leaf ?_, fun h8 => ⟨fun h => leaf ?_, fun h9 => ⟨fun h => leaf ?_, fun h10 => leaf ?_⟩⟩⟩⟩⟩⟩⟩⟩⟩⟩⟩⟩
  ·have h : w0 m = true := h
   simp only [aQ, h, cond_true]
  all_goals have h0 : w0 m = false := h0
  ·have h : w1 m = true := h
   simp only [aQ, h0, h, cond_true, cond_false]
  all_goals have h1 : w1 m = false := h1
  ·have h : w2 m = true := h
   simp only [aQ, h0, h1, h, cond_true, cond_false]
  all_goals have h2 : w2 m = false := h2
  ·have h : w3 m = true := h
   simp only [aQ, h0, h1, h2, h, cond_true, cond_false]
  all_goals have h3 : w3 m = false := h3
  ·have h : w4 m = true := h
   simp only [aQ, h0, h1, h2, h3, h, cond_true, cond_false]
  all_goals have h4 : w4 m = false := h4
  ·have h : w5 m = true := h
   simp only [aQ, h0, h1, h2, h3, h4, h, cond_true, cond_false]
  all_goals have h5 : w5 m = false := h5
  ·have h : w6 m = true := h
   simp only [aQ, h0, h1, h2, h3, h4, h5, h, cond_true, cond_false]
  all_goals have h6 : w6 m = false := h6
  ·have h : w7 m = true := h
   simp only [aQ, h0, h1, h2, h3, h4, h5, h6, h, cond_true, cond_false]
  all_goals have h7 : w7 m = false := h7
  ·have h : w8 m = true := h
   simp only [aQ, h0, h1, h2, h3, h4, h5, h6, h7, h, cond_true, cond_false]
  all_goals have h8 : w8 m = false := h8
  ·have h : w9 m = true := h
   simp only [aQ, h0, h1, h2, h3, h4, h5, h6, h7, h8, h, cond_true, cond_false]
  all_goals have h9 : w9 m = false := h9
  ·have h : w10 m = true := h
   simp only [aQ, h0, h1, h2, h3, h4, h5, h6, h7, h8, h9, h, cond_true, cond_false]
  ·have h10 : w10 m = false := h10
   simp only [aQ, h0, h1, h2, h3, h4, h5, h6, h7, h8, h9, h10, cond_false]
   rfl
theorem sA : aJ prog gl f9 gb :=
 cJ (S := gb) (s5 (bG oX) qD) (fx := kW) sq (by kernel_rfl) (fun _ _ => trivial) (T := fun _ => ma) (fun _ => pL) fun O v0 x _ _ => ⟨fun _ => trivial, fun _ => trivial, _, rfl, rfl⟩
def hY : Mg := zero aB
def aP (m : Mg) : Int := m.2.2.1.2.2.1
def dc (m : Mg) (nonce : ByteArray) : Int := (uk (a := .pair aB (.pair .str .unit)) (r := ew) (cf aZ m.1) (m, nonce, ())).1
def xQ (kind : Int) (id : List Int) (target : den ah) (n : Int) (nonce : ByteArray) : Mg := (kind, id, target, [], n, nonce, e0, ())
def aw (secret : ByteArray) (m : Mg) : Int × Mg × Int :=
 bif (bif !cg aZ m.1 then true else !aQ m) then (0, hY, 1)
 else bif !decide ((aj secret m.2.1 (aP m)).2 = 0) then (0, hY, (aj secret m.2.1 (aP m)).2)
 else bif decide (dc m (aj secret m.2.1 (aP m)).1 = 1) then (dc m (aj secret m.2.1 (aP m)).1, xQ 3 m.2.1 m.2.2.1 0 (aj secret m.2.1 (aP m)).1, 0)
 else (dc m (aj secret m.2.1 (aP m)).1, hY, 0)
noncomputable abbrev dk : bD := ⟨lT, iM, fun x => ((aw x.1 x.2.1).1, (aw x.1 x.2.1).2.1, (aw x.1 x.2.1).2.2, ()), fun x => x.2.1.2.2.2.1.length ≤ 1000000, false⟩
noncomputable abbrev iX : bD := ⟨n7, oI, fun _ => (true, ()), fun _ => True, true⟩
def BR (m : Mg) : Mg := (m.1, m.2.1, m.2.2.1, List.take 6 m.2.2.2.1, m.2.2.2.2.1, bt m.2.2.2.2.2.1 0 (bO (aD m.2.2.2.2.2.1) 20), bt m.2.2.2.2.2.2.1 0 (bO (aD m.2.2.2.2.2.2.1) 70), ())
def bc (m : Mg) : Mg := BR m
noncomputable abbrev k9 : bD := ⟨sc, rr, fun x => (bc x.1, ()), fun _ => True, true⟩
theorem zA : aJ prog [] lz k9 :=
 cJ (S := k9) zj (fx := rl) xx (by kernel_rfl) (fun _ _ => trivial) (T := fun x => tB x.1) (fun x => wa x.1) fun O v0 x _ _ => by
  obtain ⟨m, ⟨⟩⟩ := x
  have hc := BP (e := ah) m.2.2.2.1 6
  refine ⟨hc.2, vM _ 20, vM _ 70, _, rfl, ?_⟩
  show ((m.1, m.2.1, m.2.2.1, cI ah m.2.2.2.1 0 (bO (lnx ah m.2.2.2.1) ((6 : Nat) : Int)), _), ()) = (bc m, ())
  rw [hc.1]
  rfl
end Go.Proofs.YtnakjijahkaoaaaDoor
namespace Go.Proofs.YtnakjijahkaoaaaDoor
open Go Go.RowKit
noncomputable abbrev mi : Fx := { fn := jl, ann := { frz := [(1, [3])] }, share := true }
noncomputable abbrev nE : bl := { D := { T := bQ, F := [(f9, gb), (ig, fU), (dM, dN)], R := [], ovl := [], G := gl }, inl := [] }
noncomputable abbrev tZ : bV := .data iM
theorem tM (h_guard_judges : aJ prog gl f9 gb) (h_wire_Right : aJ prog gl ig fU) (h_proof_Nonce : aJ prog gl dM dN) : XOk prog nE := xok (aW (aW (aW (bq bB be) h_proof_Nonce) h_wire_Right) h_guard_judges) (by kernel_rfl) bj bw bC
noncomputable def nU (secret : den Ty.str) (m : den aB) : ab := ab.req True (ab.all (den (Ty.mp af (Ty.fn (Ty.pair aB (Ty.pair Ty.str Ty.unit)) (Ty.pair af Ty.unit)))) (fun (q2 : den (Ty.mp af (Ty.fn (Ty.pair aB (Ty.pair Ty.str Ty.unit)) (Ty.pair af Ty.unit)))) ↦ q2 = aZ) fun (q2 : den (Ty.mp af (Ty.fn (Ty.pair aB (Ty.pair Ty.str Ty.unit)) (Ty.pair af Ty.unit)))) ↦ ab.req (j2 [(!cg aZ (Prod.fst m), false)] (List.length (Prod.fst (Prod.snd (Prod.snd (Prod.snd m)))) ≤ 1000000)) (ab.ite (bif !cg aZ (Prod.fst m) then true else !aQ m) (ab.ret (K.val (Ty.pair af (Ty.pair aB (Ty.pair af Ty.unit))) (0, zero (Ty.pair af (Ty.pair tId (Ty.pair ah (Ty.pair (Ty.slc ah) (Ty.pair af (Ty.pair Ty.str (Ty.pair Ty.str Ty.unit))))))), 1, PUnit.unit))) (ab.req True (ab.all (den (Ty.pair Ty.str (Ty.pair af Ty.unit))) (fun (q3 : den (Ty.pair Ty.str (Ty.pair af Ty.unit))) ↦ q3 = (Prod.fst (aj secret (Prod.fst (Prod.snd m)) (Prod.fst (Prod.snd (Prod.snd (Prod.fst (Prod.snd (Prod.snd m))))))), Prod.snd (aj secret (Prod.fst (Prod.snd m)) (Prod.fst (Prod.snd (Prod.snd (Prod.fst (Prod.snd (Prod.snd m))))))), PUnit.unit)) fun (q3 : den (Ty.pair Ty.str (Ty.pair af Ty.unit))) ↦ ab.ite (!decide (Prod.fst (Prod.snd q3) = 0)) (ab.ret (K.val (Ty.pair af (Ty.pair aB (Ty.pair af Ty.unit))) (0, zero (Ty.pair af (Ty.pair tId (Ty.pair ah (Ty.pair (Ty.slc ah) (Ty.pair af (Ty.pair Ty.str (Ty.pair Ty.str Ty.unit))))))), Prod.fst (Prod.snd q3), PUnit.unit))) (ab.req (BL (Ty.pair aB (Ty.pair Ty.str Ty.unit)) (Ty.pair af Ty.unit) (cf aZ (Prod.fst m))) (ab.all (den af) (fun (q4 : den af) ↦ q4 = Prod.fst (Bz (Ty.pair aB (Ty.pair Ty.str Ty.unit)) (Ty.pair af Ty.unit) (cf aZ (Prod.fst m)) (m, Prod.fst q3, PUnit.unit))) fun (q4 : den af) ↦ ab.ite (decide (q4 = 1)) (ab.ret (K.val (Ty.pair af (Ty.pair aB (Ty.pair af Ty.unit))) (q4, (3, Prod.fst (Prod.snd m), Prod.fst (Prod.snd (Prod.snd m)), Prod.fst (Prod.snd (Prod.snd (Prod.snd (zero (Ty.pair af (Ty.pair tId (Ty.pair ah (Ty.pair (Ty.slc ah) (Ty.pair af (Ty.pair Ty.str (Ty.pair Ty.str Ty.unit))))))))))), Prod.fst (Prod.snd (Prod.snd (Prod.snd (Prod.snd (zero (Ty.pair af (Ty.pair tId (Ty.pair ah (Ty.pair (Ty.slc ah) (Ty.pair af (Ty.pair Ty.str (Ty.pair Ty.str Ty.unit)))))))))))), Prod.fst q3, Prod.snd (Prod.snd (Prod.snd (Prod.snd (Prod.snd (Prod.snd (zero (Ty.pair af (Ty.pair tId (Ty.pair ah (Ty.pair (Ty.slc ah) (Ty.pair af (Ty.pair Ty.str (Ty.pair Ty.str Ty.unit)))))))))))))), 0, PUnit.unit))) (ab.ret (K.val (Ty.pair af (Ty.pair aB (Ty.pair af Ty.unit))) (q4, zero (Ty.pair af (Ty.pair tId (Ty.pair ah (Ty.pair (Ty.slc ah) (Ty.pair af (Ty.pair Ty.str (Ty.pair Ty.str Ty.unit))))))), 0, PUnit.unit)))))))))
theorem qm (secret : den Ty.str) (m : den aB) : az nE tZ 5000 [] mi (aI jl) (Env.of (ba lT (secret, m, ()) 0) []) = nU secret m := by kernel_rfl
end Go.Proofs.YtnakjijahkaoaaaDoor
namespace Go.Proofs.YtnakjijahkaoaaaDoor
open Go Go.RowKit
theorem qF (k : Int) : (k = 2 ∧ cg aZ k = true ∧ cf aZ k = some (fun x => (dm x.1, ()))) ∨ (k = 4 ∧ cg aZ k = true ∧ cf aZ k = some (fun x => (dU x.1 x.2.1 2, ()))) ∨
    (k = 6 ∧ cg aZ k = true ∧ cf aZ k = some (fun x => (dU x.1 x.2.1 3, ()))) ∨ (k ≠ 2 ∧ k ≠ 4 ∧ k ≠ 6 ∧ cg aZ k = false) := by
  by_cases h2 : k = 2
  · subst h2; exact .inl ⟨rfl, rfl, rfl⟩
  · by_cases h4 : k = 4
    · subst h4; exact .inr (.inl ⟨rfl, rfl, rfl⟩)
    · by_cases h6 : k = 6
      · subst h6; exact .inr (.inr (.inl ⟨rfl, rfl, rfl⟩))
      · refine .inr (.inr (.inr ⟨h2, h4, h6, ?_⟩))
        have e : ∀ j : Int, k ≠ j → eqb af k j = false := fun j h => decide_eq_false h
        unfold cg i9 aZ
        rw [List.find?_cons_of_neg (by rw [e _ h2]; decide), List.find?_cons_of_neg (by rw [e _ h4]; decide), List.find?_cons_of_neg (by rw [e _ h6]; decide)]
        rfl
theorem BO {k : Int} (h : cg aZ k = true) : ∃ g, cf aZ k = some g := by
 rcases qF k with ⟨_, _, e⟩ | ⟨_, _, e⟩ | ⟨_, _, e⟩ | ⟨_, _, _, e⟩
 ·exact ⟨_, e⟩
 ·exact ⟨_, e⟩
 ·exact ⟨_, e⟩
 ·rw [h] at e; cases e
theorem ns : aJ prog gl dO dk :=
 cJ (S := dk) (tM sA (bG vb) nP) (fx := mi) sT (by kernel_rfl) (fun h => by cases h) (T := fun x => nU x.1 x.2.1) (fun x => qm x.1 x.2.1) fun O v0 x _ hp => by
  obtain ⟨secret, m, ⟨⟩⟩ := x
  have hp : m.2.2.2.1.length ≤ 1000000 := hp
  have leaf : ∀ {a : Int} {b : Mg} {c : Int}, aw secret m = (a, b, c) → ∃ z, aO iM (K.val (Ty.pair af (Ty.pair aB (Ty.pair af Ty.unit))) (a, b, c, ())) = some z ∧ z = dk.g (secret, m, ()) := fun {a b c} e =>
   ⟨_, rfl, by show (a, b, c, ()) = ((aw secret m).1, (aw secret m).2.1, (aw secret m).2.2, ()); rw [e]⟩
  refine ⟨trivial, bo ⟨fun _ => hp, fun h => leaf ?_, fun h0 => ⟨trivial, bo ⟨fun h => leaf ?_, fun h1 => ⟨?_, bo ⟨fun h => leaf ?_, fun h => leaf ?_⟩⟩⟩⟩⟩⟩
  ·have h : (bif !cg aZ m.1 then true else !aQ m) = true := h
   simp only [aw, h, cond_true]
   rfl
  all_goals have h0 : (bif !cg aZ m.1 then true else !aQ m) = false := h0
  ·have h : (!decide ((aj secret m.2.1 (aP m)).2 = 0)) = true := h
   simp only [aw, h0, h, cond_true, cond_false]
   rfl
  all_goals have h1 : (!decide ((aj secret m.2.1 (aP m)).2 = 0)) = false := h1
  ·refine BO (k := m.1) ?_
   cases e : cg aZ m.1 with
   | true => rfl
   | false => rw [e] at h0; cases h0
  ·have h : decide (dc m (aj secret m.2.1 (aP m)).1 = 1) = true := h
   simp only [aw, h0, h1, h, cond_true, cond_false]
   rfl
  ·have h : decide (dc m (aj secret m.2.1 (aP m)).1 = 1) = false := h
   simp only [aw, h0, h1, h, cond_false]
   rfl
end Go.Proofs.YtnakjijahkaoaaaDoor
namespace Go.Proofs.YtnakjijahkaoaaaDoor
open Go Go.RowKit
noncomputable abbrev oF : Fx := { fn := lN, ann := { frz := [(2, [2])] }, share := true }
noncomputable abbrev qd : bl := { D := { T := bQ, F := [(dO, dk)], R := [], ovl := [], G := gl }, inl := [] }
noncomputable abbrev wy : bV := .data oI
theorem wJ (h_guard_Judge : aJ prog gl dO dk) : XOk prog qd := xok (aW (bq bB be) h_guard_Judge) (by kernel_rfl) bj bw bC
noncomputable def qg : ab := ab.req (List.length (zero (Ty.slc ah)) ≤ 1000000) (ab.all (den (Ty.pair af (Ty.pair aB (Ty.pair af Ty.unit)))) (fun (q0 : den (Ty.pair af (Ty.pair aB (Ty.pair af Ty.unit)))) ↦ q0 = (Prod.fst (aw { data := { toList := [115] } } (2, zero tId, (2, zero tId, 3, zero Ty.unit), zero (Ty.slc ah), 5, zero (Ty.pair Ty.str (Ty.pair Ty.str Ty.unit)))), Prod.fst (Prod.snd (aw { data := { toList := [115] } } (2, zero tId, (2, zero tId, 3, zero Ty.unit), zero (Ty.slc ah), 5, zero (Ty.pair Ty.str (Ty.pair Ty.str Ty.unit))))), Prod.snd (Prod.snd (aw { data := { toList := [115] } } (2, zero tId, (2, zero tId, 3, zero Ty.unit), zero (Ty.slc ah), 5, zero (Ty.pair Ty.str (Ty.pair Ty.str Ty.unit))))), PUnit.unit)) fun (q0 : den (Ty.pair af (Ty.pair aB (Ty.pair af Ty.unit)))) ↦ ab.ret (K.val (Ty.pair Ty.bool Ty.unit) (bif bif bif decide (Prod.fst (Prod.snd (Prod.snd q0)) = 0) then decide (Prod.fst q0 = 1) else false then decide (Prod.fst (Prod.fst (Prod.snd q0)) = 3) else false then decide (aD (Prod.fst (Prod.snd (Prod.snd (Prod.snd (Prod.snd (Prod.snd (Prod.fst (Prod.snd q0)))))))) = 16) else false, PUnit.unit)))
theorem tj : az qd wy 5000 [] oF (aI lN) (Env.of (ba n7 () 0) []) = qg := by kernel_rfl
noncomputable abbrev i8 : Fx := { fn := gg, ann := { frz := [(2, [4, 5]), (3, [8]), (6, [10]), (8, [11]), (13, [18])] }, share := true }
noncomputable abbrev jt : bl := { D := { T := bQ, F := [(lz, k9), (dO, dk), (iZ, iX), (dM, dN)], R := [], ovl := [], G := gl }, inl := [] }
noncomputable abbrev pR : bV := .data od
theorem pQ (h_l15_cut : aJ prog gl lz k9) (h_guard_Judge : aJ prog gl dO dk) (h_l15_alive : aJ prog gl iZ iX) (h_proof_Nonce : aJ prog gl dM dN) : XOk prog jt := xok (aW (aW (aW (aW (bq bB be) h_proof_Nonce) h_l15_alive) h_guard_Judge) h_l15_cut) (by kernel_rfl) bj bw bC
noncomputable def ep (secret : den Ty.str) (m : den aB) (other : den aB) : ab := ab.req True (ab.req True (ab.req (aY 0 (bO (aD secret) 64) (aD secret)) (ab.all (den aB) (fun (q3 : den aB) ↦ q3 = bc m) fun (q3 : den aB) ↦ ab.all (den aB) (fun (q4 : den aB) ↦ q4 = bc other) fun (q4 : den aB) ↦ ab.req (List.length (Prod.fst (Prod.snd (Prod.snd (Prod.snd (bc m))))) ≤ 1000000) (ab.all (den (Ty.pair af (Ty.pair aB (Ty.pair af Ty.unit)))) (fun (q5 : den (Ty.pair af (Ty.pair aB (Ty.pair af Ty.unit)))) ↦ q5 = (Prod.fst (aw (bt secret 0 (bO (aD secret) 64)) (bc m)), Prod.fst (Prod.snd (aw (bt secret 0 (bO (aD secret) 64)) (bc m))), Prod.snd (Prod.snd (aw (bt secret 0 (bO (aD secret) 64)) (bc m))), PUnit.unit)) fun (q5 : den (Ty.pair af (Ty.pair aB (Ty.pair af Ty.unit)))) ↦ ab.ite (bif !decide (Prod.fst (Prod.snd (Prod.snd q5)) = 0) then true else !decide (Prod.fst q5 = 1)) (ab.req True (ab.all (den Ty.bool) (fun (q6 : den Ty.bool) ↦ q6 = true) fun (q6 : den Ty.bool) ↦ ab.ret (K.val (Ty.pair Ty.bool Ty.unit) (bif q6 then decide (Prod.fst (Prod.fst (Prod.snd q5)) = 0) else false, PUnit.unit)))) (ab.req (List.length (zero (Ty.slc ah)) ≤ 1000000) (ab.all (den (Ty.pair af (Ty.pair aB (Ty.pair af Ty.unit)))) (fun (q6 : den (Ty.pair af (Ty.pair aB (Ty.pair af Ty.unit)))) ↦ q6 = (Prod.fst (aw (bt secret 0 (bO (aD secret) 64)) (4, Prod.fst (Prod.snd (Prod.fst (Prod.snd q5))), Prod.fst (Prod.snd (Prod.snd (Prod.fst (Prod.snd q5)))), zero (Ty.slc ah), Prod.fst (Prod.snd (Prod.snd (Prod.snd (Prod.snd (bc m))))), Prod.fst (Prod.snd (Prod.snd (Prod.snd (Prod.snd (Prod.snd (Prod.fst (Prod.snd q5))))))), zero (Ty.pair Ty.str Ty.unit))), Prod.fst (Prod.snd (aw (bt secret 0 (bO (aD secret) 64)) (4, Prod.fst (Prod.snd (Prod.fst (Prod.snd q5))), Prod.fst (Prod.snd (Prod.snd (Prod.fst (Prod.snd q5)))), zero (Ty.slc ah), Prod.fst (Prod.snd (Prod.snd (Prod.snd (Prod.snd (bc m))))), Prod.fst (Prod.snd (Prod.snd (Prod.snd (Prod.snd (Prod.snd (Prod.fst (Prod.snd q5))))))), zero (Ty.pair Ty.str Ty.unit)))), Prod.snd (Prod.snd (aw (bt secret 0 (bO (aD secret) 64)) (4, Prod.fst (Prod.snd (Prod.fst (Prod.snd q5))), Prod.fst (Prod.snd (Prod.snd (Prod.fst (Prod.snd q5)))), zero (Ty.slc ah), Prod.fst (Prod.snd (Prod.snd (Prod.snd (Prod.snd (bc m))))), Prod.fst (Prod.snd (Prod.snd (Prod.snd (Prod.snd (Prod.snd (Prod.fst (Prod.snd q5))))))), zero (Ty.pair Ty.str Ty.unit)))), PUnit.unit)) fun (q6 : den (Ty.pair af (Ty.pair aB (Ty.pair af Ty.unit)))) ↦ ab.req (List.length (zero (Ty.slc ah)) ≤ 1000000) (ab.all (den (Ty.pair af (Ty.pair aB (Ty.pair af Ty.unit)))) (fun (q7 : den (Ty.pair af (Ty.pair aB (Ty.pair af Ty.unit)))) ↦ q7 = (Prod.fst (aw (bt secret 0 (bO (aD secret) 64)) (6, Prod.fst (Prod.snd (Prod.fst (Prod.snd q5))), Prod.fst (Prod.snd (Prod.snd (Prod.fst (Prod.snd q5)))), zero (Ty.slc ah), zero af, Prod.fst (Prod.snd (Prod.snd (Prod.snd (Prod.snd (Prod.snd (Prod.fst (Prod.snd q5))))))), zero (Ty.pair Ty.str Ty.unit))), Prod.fst (Prod.snd (aw (bt secret 0 (bO (aD secret) 64)) (6, Prod.fst (Prod.snd (Prod.fst (Prod.snd q5))), Prod.fst (Prod.snd (Prod.snd (Prod.fst (Prod.snd q5)))), zero (Ty.slc ah), zero af, Prod.fst (Prod.snd (Prod.snd (Prod.snd (Prod.snd (Prod.snd (Prod.fst (Prod.snd q5))))))), zero (Ty.pair Ty.str Ty.unit)))), Prod.snd (Prod.snd (aw (bt secret 0 (bO (aD secret) 64)) (6, Prod.fst (Prod.snd (Prod.fst (Prod.snd q5))), Prod.fst (Prod.snd (Prod.snd (Prod.fst (Prod.snd q5)))), zero (Ty.slc ah), zero af, Prod.fst (Prod.snd (Prod.snd (Prod.snd (Prod.snd (Prod.snd (Prod.fst (Prod.snd q5))))))), zero (Ty.pair Ty.str Ty.unit)))), PUnit.unit)) fun (q7 : den (Ty.pair af (Ty.pair aB (Ty.pair af Ty.unit)))) ↦ ab.req (j2 [(bif bif bif !decide (Prod.fst (Prod.snd (Prod.snd q6)) = 0) then true else !decide (Prod.fst q6 = 2) then true else !decide (Prod.fst (Prod.snd (Prod.snd q7)) = 0) then true else !decide (Prod.fst q7 = 3), false)] True) (ab.ite (bif bif bif bif !decide (Prod.fst (Prod.snd (Prod.snd q6)) = 0) then true else !decide (Prod.fst q6 = 2) then true else !decide (Prod.fst (Prod.snd (Prod.snd q7)) = 0) then true else !decide (Prod.fst q7 = 3) then true else !true) (ab.ret (K.val (Ty.pair Ty.bool Ty.unit) (false, PUnit.unit))) (ab.req (List.length (zero (Ty.slc ah)) ≤ 1000000) (ab.all (den (Ty.pair af (Ty.pair aB (Ty.pair af Ty.unit)))) (fun (q8 : den (Ty.pair af (Ty.pair aB (Ty.pair af Ty.unit)))) ↦ q8 = (Prod.fst (aw (bt secret 0 (bO (aD secret) 64)) (4, Prod.fst (Prod.snd (bc other)), Prod.fst (Prod.snd (Prod.snd (bc other))), zero (Ty.slc ah), Prod.fst (Prod.snd (Prod.snd (Prod.snd (Prod.snd (bc m))))), Prod.fst (Prod.snd (Prod.snd (Prod.snd (Prod.snd (Prod.snd (Prod.fst (Prod.snd q5))))))), zero (Ty.pair Ty.str Ty.unit))), Prod.fst (Prod.snd (aw (bt secret 0 (bO (aD secret) 64)) (4, Prod.fst (Prod.snd (bc other)), Prod.fst (Prod.snd (Prod.snd (bc other))), zero (Ty.slc ah), Prod.fst (Prod.snd (Prod.snd (Prod.snd (Prod.snd (bc m))))), Prod.fst (Prod.snd (Prod.snd (Prod.snd (Prod.snd (Prod.snd (Prod.fst (Prod.snd q5))))))), zero (Ty.pair Ty.str Ty.unit)))), Prod.snd (Prod.snd (aw (bt secret 0 (bO (aD secret) 64)) (4, Prod.fst (Prod.snd (bc other)), Prod.fst (Prod.snd (Prod.snd (bc other))), zero (Ty.slc ah), Prod.fst (Prod.snd (Prod.snd (Prod.snd (Prod.snd (bc m))))), Prod.fst (Prod.snd (Prod.snd (Prod.snd (Prod.snd (Prod.snd (Prod.fst (Prod.snd q5))))))), zero (Ty.pair Ty.str Ty.unit)))), PUnit.unit)) fun (q8 : den (Ty.pair af (Ty.pair aB (Ty.pair af Ty.unit)))) ↦ ab.ite (!decide (Prod.fst (Prod.snd (Prod.snd q8)) = 0)) (ab.ret (K.val (Ty.pair Ty.bool Ty.unit) (decide (Prod.fst (Prod.snd (Prod.snd q8)) = 1), PUnit.unit))) (ab.req True (ab.all (den (Ty.pair Ty.str (Ty.pair af Ty.unit))) (fun (q9 : den (Ty.pair Ty.str (Ty.pair af Ty.unit))) ↦ q9 = (Prod.fst (aj (bt secret 0 (bO (aD secret) 64)) (Prod.fst (Prod.snd (bc other))) (Prod.fst (Prod.snd (Prod.snd (Prod.fst (Prod.snd (Prod.snd (bc other)))))))), Prod.snd (aj (bt secret 0 (bO (aD secret) 64)) (Prod.fst (Prod.snd (bc other))) (Prod.fst (Prod.snd (Prod.snd (Prod.fst (Prod.snd (Prod.snd (bc other)))))))), PUnit.unit)) fun (q9 : den (Ty.pair Ty.str (Ty.pair af Ty.unit))) ↦ ab.ret (K.val (Ty.pair Ty.bool Ty.unit) (bif bif decide (Prod.fst (Prod.snd q9) = 0) then eqO (decide (Prod.fst q8 = 2)) (bif decide (Prod.fst (Prod.fst (Prod.snd (Prod.snd (bc other)))) = 2) then eqb Ty.str (Prod.fst q9) (Prod.fst (Prod.snd (Prod.snd (Prod.snd (Prod.snd (Prod.snd (Prod.fst (Prod.snd q5)))))))) else false) else false then bif decide (Prod.fst q8 = 2) then true else decide (Prod.fst q8 = 4) else false, PUnit.unit))))))))))))))
theorem nf (secret : den Ty.str) (m : den aB) (other : den aB) : az jt pR 5000 [] i8 (aI gg) (Env.of (ba cE (secret, m, other, ()) 0) []) = ep secret m other := by kernel_rfl
end Go.Proofs.YtnakjijahkaoaaaDoor
