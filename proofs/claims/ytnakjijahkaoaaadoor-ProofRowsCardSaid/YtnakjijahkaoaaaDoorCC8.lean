/- Part 8 of 8 of what this claim's proof stands on: a theory of programs on data, and the contracts of the functions that the law reaches. It holds no condition of its own. -/
import Derived.Test.YtnakjijahkaoaaaDoorCC7
namespace Go.Proofs.YtnakjijahkaoaaaDoor
open Go Go.RowKit
theorem xH (xs : List (List UInt8)) : Lib.join xs [] = xs.flatten := by
 cases xs with
 | nil => rfl
 | cons x r =>
  rw [Lib.join_cons]
  unfold Lib.joinTail
  have : (fun y : List UInt8 => [] ++ y) = id := by funext y; rfl
  rw [this, List.map_id, List.flatten_cons]
theorem w6 (xs : List ByteArray) : bn xs e0 = ⟨((xs.map (·.data.toList)).flatten).toArray⟩ := by
 unfold bn
 have : e0.data.toList = [] := rfl
 rw [this, xH]
theorem yV (n : Nat) : ∀ xs : List ByteArray, (∀ x ∈ xs, x.size ≤ n) → (bn xs e0).size ≤ xs.length * n := by
 intro xs h
 rw [w6, oJ]
 induction xs with
 | nil => simp
 | cons x r ih =>
  rw [List.map_cons, List.flatten_cons, List.length_append, List.length_cons, Nat.add_mul, Nat.one_mul]
  have h1 := ih fun y hy => h y (List.mem_cons_of_mem _ hy)
  have h2 := h x List.mem_cons_self
  have h3 : x.data.toList.length = x.size := rfl
  omega
end Go.Proofs.YtnakjijahkaoaaaDoor
namespace Go.Proofs.YtnakjijahkaoaaaDoor
open Go Go.RowKit
noncomputable abbrev np : Fx := { fn := kg, ann := { frz := [(1, [3]), (3, [5])] }, share := true }
noncomputable abbrev oK : bl := { D := { T := cx, F := [(eF, eC)], R := [], ovl := [], G := gl }, inl := [] }
noncomputable abbrev tt : cw := .data mY
theorem uQ (h_digest_Sum : aY prog gl eF eC) : XOk prog oK := xok (bf (bP bR bt) h_digest_Sum) (by kernel_rfl) bu bM bN
noncomputable def oD (word : den Ty.str) (a : den tId) : ab := ab.req (bg 0 16 (↑32 : Int)) (ab.req (List.length (List.set (List.set (List.replicate 2 (zero Ty.str)) 0 word) 1 (aO (bv (Ty.int IntKind.u8) a 0 16))) ≤ 1000000 ∧ ByteArray.size (bn (List.set (List.set (List.replicate 2 (zero Ty.str)) 0 word) 1 (aO (bv (Ty.int IntKind.u8) a 0 16))) e0) ≤ 900000) (ab.all (den tId) (fun (q2 : den tId) ↦ q2 = iV (List.set (List.set (List.replicate 2 (zero Ty.str)) 0 word) 1 (aO (bv (Ty.int IntKind.u8) a 0 16)))) fun (q2 : den tId) ↦ ab.req (bg 0 16 (↑32 : Int)) (ab.req (bg 0 (↑32 : Int) (↑32 : Int)) (ab.ret (K.val (Ty.pair tId Ty.unit) (over (zero tId) (Int.toNat 0) (List.take (Int.toNat 16 - Int.toNat 0) (bv (Ty.int IntKind.u8) q2 0 (↑32 : Int))), PUnit.unit))))))
theorem qO (word : den Ty.str) (a : den tId) : aC oK tt 5000 [] np (aZ kg) (Env.of (bc nm (word, a, ()) 0) []) = oD word a := by kernel_rfl
noncomputable abbrev mb : Fx := { fn := jg, ann := { frz := [(5, [4]), (6, [8])] }, share := true }
noncomputable abbrev mV : bl := { D := { T := cx, F := [(eF, eC)], R := [], ovl := [], G := gl }, inl := [] }
noncomputable abbrev sS : cw := .data lW
theorem s7 (h_digest_Sum : aY prog gl eF eC) : XOk prog mV := xok (bf (bP bR bt) h_digest_Sum) (by kernel_rfl) bu bM bN
noncomputable def na (secret : den Ty.str) (id : den tId) (host : den ah) : ab := ab.ite (bif decide (host < 0) then true else decide (16 ≤ host)) (ab.ret (K.val (Ty.pair Ty.str (Ty.pair ah Ty.unit)) ({ data := { toList := [] } }, 1, PUnit.unit))) (ab.ite (decide (64 < cj secret)) (ab.ret (K.val (Ty.pair Ty.str (Ty.pair ah Ty.unit)) ({ data := { toList := [] } }, 2, PUnit.unit))) (ab.req (bg 0 (↑32 : Int) (↑32 : Int)) (ab.req (List.length (List.set (List.set (List.set (List.set (List.replicate 4 (zero Ty.str)) 0 { data := { toList := [110, 111, 110, 99, 101] } }) 1 secret) 2 (aO (bv (Ty.int IntKind.u8) id 0 (↑32 : Int)))) 3 (aO (List.set (List.replicate 1 (zero (Ty.int IntKind.u8))) 0 (IntKind.wrap IntKind.u8 host)))) ≤ 1000000 ∧ ByteArray.size (bn (List.set (List.set (List.set (List.set (List.replicate 4 (zero Ty.str)) 0 { data := { toList := [110, 111, 110, 99, 101] } }) 1 secret) 2 (aO (bv (Ty.int IntKind.u8) id 0 (↑32 : Int)))) 3 (aO (List.set (List.replicate 1 (zero (Ty.int IntKind.u8))) 0 (IntKind.wrap IntKind.u8 host)))) e0) ≤ 900000) (ab.all (den tId) (fun (q3 : den tId) ↦ q3 = iV (List.set (List.set (List.set (List.set (List.replicate 4 (zero Ty.str)) 0 { data := { toList := [110, 111, 110, 99, 101] } }) 1 secret) 2 (aO (bv (Ty.int IntKind.u8) id 0 (↑32 : Int)))) 3 (aO (List.set (List.replicate 1 (zero (Ty.int IntKind.u8))) 0 (IntKind.wrap IntKind.u8 host))))) fun (q3 : den tId) ↦ ab.req (bg 0 16 (↑32 : Int)) (ab.ret (K.val (Ty.pair Ty.str (Ty.pair ah Ty.unit)) (aO (bv (Ty.int IntKind.u8) (iV (List.set (List.set (List.set (List.set (List.replicate 4 (zero Ty.str)) 0 { data := { toList := [110, 111, 110, 99, 101] } }) 1 secret) 2 (aO (bv (Ty.int IntKind.u8) id 0 (↑32 : Int)))) 3 (aO (List.set (List.replicate 1 (zero (Ty.int IntKind.u8))) 0 (IntKind.wrap IntKind.u8 host))))) 0 16), 0, PUnit.unit)))))))
theorem qk (secret : den Ty.str) (id : den tId) (host : den ah) : aC mV sS 5000 [] mb (aZ jg) (Env.of (bc lX (secret, id, host, ()) 0) []) = na secret id host := by kernel_rfl
end Go.Proofs.YtnakjijahkaoaaaDoor
namespace Go.Proofs.YtnakjijahkaoaaaDoor
open Go Go.RowKit
theorem ie (xs : List Int) : (aO xs).size = xs.length := by
 show (xs.map _).toArray.size = _
 rw [List.size_toArray, List.length_map]
theorem vT (xs : List Int) (h : Nat) : (bv (.int .u8) xs 0 (h : Int)).length ≤ h := by
 unfold bv d2
 rw [List.length_drop, List.length_take]
 omega
theorem pB {l : List ByteArray} {n : Nat} (h : ∀ x ∈ l, x.size ≤ n) (hn : l.length * n ≤ 900000) (hl : l.length ≤ 1000000) : l.length ≤ 1000000 ∧ ByteArray.size (bn l e0) ≤ 900000 :=
 ⟨hl, Nat.le_trans (yV n l h) hn⟩
def AP : ByteArray := ⟨⟨[108, 101, 102, 116]⟩⟩
def AB : ByteArray := ⟨⟨[114, 105, 103, 104, 116]⟩⟩
def AH : ByteArray := ⟨⟨[110, 111, 110, 99, 101]⟩⟩
def tN (a : List Int) : ByteArray := aO (bv (.int .u8) a 0 16)
def n1 (word : ByteArray) (a : List Int) : List Int := over (zero tId) 0 (List.take 16 (bv (.int .u8) (iV [word, tN a]) 0 32))
noncomputable abbrev eD : cv := ⟨nm, mY, fun x => (n1 x.1 x.2.1, ()), fun x => ByteArray.size x.1 ≤ 1000, false⟩
theorem ob : aY prog gl eE eD :=
 dr (S := eD) (uQ n5) (fx := np) sP (by kernel_rfl) (fun h => by cases h) (T := fun x => oD x.1 x.2.1) (fun x => qO x.1 x.2.1) fun O w0 x _ hp => by
  obtain ⟨word, a, ⟨⟩⟩ := x
  have hp : word.size ≤ 1000 := hp
  have hk : (tN a).size ≤ 16 := by unfold tN; rw [ie]; exact vT a 16
  refine ⟨⟨by decide, by decide, by decide⟩, pB (l := [word, tN a]) (n := 1000) (fun x hx => ?_) (show 2 * 1000 ≤ 900000 by decide) (show 2 ≤ 1000000 by decide), a7 ⟨⟨by decide, by decide, by decide⟩, ⟨by decide, by decide, by decide⟩, _, rfl, rfl⟩⟩
  rcases List.mem_cons.1 hx with rfl | hx
  ·exact hp
  ·rcases List.mem_cons.1 hx with rfl | hx
   ·omega
   ·cases hx
def qU (secret : ByteArray) (id : List Int) (host : Int) : List ByteArray := [AH, secret, aO (bv (.int .u8) id 0 32), aO [IntKind.wrap .u8 host]]
def cZ (secret : ByteArray) (id : List Int) (host : Int) : ByteArray × Int :=
 if host < 0 ∨ 16 ≤ host then (e0, 1) else if 64 < secret.size then (e0, 2) else (aO (bv (.int .u8) (iV (qU secret id host)) 0 16), 0)
noncomputable abbrev gv : cv := ⟨lX, lW, fun x => ((cZ x.1 x.2.1 x.2.2.1).1, (cZ x.1 x.2.1 x.2.2.1).2, ()), fun _ => True, true⟩
theorem sO : aY prog gl gr gv :=
 dr (S := gv) (s7 n5) (fx := mb) rI (by kernel_rfl) (fun _ _ => trivial) (T := fun x => na x.1 x.2.1 x.2.2.1) (fun x => qk x.1 x.2.1 x.2.2.1) fun O w0 x _ _ => by
  obtain ⟨secret, id, host, ⟨⟩⟩ := x
  have key : ∀ host : Int, (decide (host < 0 ∨ 16 ≤ host)) = bif decide (host < 0) then true else decide (16 ≤ host) := fun host => by
   by_cases h1 : host < 0
   ·rw [decide_eq_true h1, decide_eq_true (.inl h1)]; rfl
   ·rw [decide_eq_false h1]
    rw [decide_eq_decide.2 (show (host < 0 ∨ 16 ≤ host) ↔ 16 ≤ host by omega)]; rfl
  refine ⟨fun h => ⟨_, rfl, ?_⟩, fun h => ⟨fun h2 => ⟨_, rfl, ?_⟩, fun h2 => ⟨⟨by decide, by decide, by decide⟩, ?_, a7 ⟨⟨by decide, by decide, by decide⟩, _, rfl, ?_⟩⟩⟩⟩
  ·have h := of_decide_eq_true ((key host).trans h)
   show (e0, (1 : Int), ()) = ((cZ secret id host).1, (cZ secret id host).2, ())
   unfold cZ
   rw [if_pos h]
  ·have h := of_decide_eq_false ((key host).trans h)
   have h2 : (64 : Int) < (secret.size : Int) := of_decide_eq_true h2
   show (e0, (2 : Int), ()) = ((cZ secret id host).1, (cZ secret id host).2, ())
   unfold cZ
   rw [if_neg h, if_pos (by omega)]
  ·have h2 : ¬ (64 : Int) < (secret.size : Int) := of_decide_eq_false h2
   refine pB (l := qU secret id host) (n := 64) (fun x hx => ?_) (show 4 * 64 ≤ 900000 by decide) (show 4 ≤ 1000000 by decide)
   rcases List.mem_cons.1 hx with rfl | hx
   ·decide
   ·rcases List.mem_cons.1 hx with rfl | hx
    ·omega
    ·rcases List.mem_cons.1 hx with rfl | hx
     ·rw [ie]
      exact Nat.le_trans (vT id 32) (by decide)
     ·rcases List.mem_cons.1 hx with rfl | hx
      ·rw [ie]; exact show 1 ≤ 64 by decide
      ·cases hx
  ·have h := of_decide_eq_false ((key host).trans h)
   have h2 : ¬ (64 : Int) < (secret.size : Int) := of_decide_eq_false h2
   show (_, (0 : Int), ()) = ((cZ secret id host).1, (cZ secret id host).2, ())
   unfold cZ
   rw [if_neg h, if_neg (by omega)]
   rfl
end Go.Proofs.YtnakjijahkaoaaaDoor
namespace Go.Proofs.YtnakjijahkaoaaaDoor
open Go Go.RowKit
noncomputable abbrev nh : Fx := { fn := kh, ann := { } }
noncomputable abbrev nB : bl := { D := { T := cx, F := [(eE, eD)], R := [], ovl := [], G := gl }, inl := [] }
noncomputable abbrev ut : cw := .data m5
theorem t6 (h_proof_made : aY prog gl eE eD) : XOk prog nB := xok (bf (bP bR bt) h_proof_made) (by kernel_rfl) bu bM bN
noncomputable def nL (a : den tId) : ab := ab.req (ByteArray.size { data := { toList := [108, 101, 102, 116] } } ≤ 1000) (ab.ret (K.val (Ty.pair tId Ty.unit) (n1 { data := { toList := [108, 101, 102, 116] } } a, PUnit.unit)))
theorem qE (a : den tId) : aC nB ut 5000 [] nh (aZ kh) (Env.of (bc m3 (a, ()) 0) []) = nL a := by kernel_rfl
noncomputable abbrev lG : Fx := { fn := jf, ann := { } }
noncomputable abbrev ne : bl := { D := { T := cx, F := [(eE, eD)], R := [], ovl := [], G := gl }, inl := [] }
noncomputable abbrev sU : cw := .data l6
theorem s5 (h_proof_made : aY prog gl eE eD) : XOk prog ne := xok (bf (bP bR bt) h_proof_made) (by kernel_rfl) bu bM bN
noncomputable def nr (a : den tId) : ab := ab.req (ByteArray.size { data := { toList := [114, 105, 103, 104, 116] } } ≤ 1000) (ab.ret (K.val (Ty.pair tId Ty.unit) (n1 { data := { toList := [114, 105, 103, 104, 116] } } a, PUnit.unit)))
theorem pM (a : den tId) : aC ne sU 5000 [] lG (aZ jf) (Env.of (bc lN (a, ()) 0) []) = nr a := by kernel_rfl
end Go.Proofs.YtnakjijahkaoaaaDoor
namespace Go.Proofs.YtnakjijahkaoaaaDoor
open Go Go.RowKit
def gp (a : List Int) : List Int := n1 AP a
def rR (a : List Int) : List Int := n1 AB a
noncomputable abbrev eJ : cv := ⟨m3, m5, fun x => (gp x.1, ()), fun _ => True, true⟩
noncomputable abbrev gD : cv := ⟨lN, l6, fun x => (rR x.1, ()), fun _ => True, true⟩
theorem oq : aY prog gl eB eJ :=
 dr (S := eJ) (t6 ob) (fx := nh) tb (by kernel_rfl) (fun _ _ => trivial) (T := fun x => nL x.1) (fun x => qE x.1) fun O w0 x _ _ => ⟨by decide, _, rfl, rfl⟩
theorem s8 : aY prog gl gA gD :=
 dr (S := gD) (s5 ob) (fx := lG) rV (by kernel_rfl) (fun _ _ => trivial) (T := fun x => nr x.1) (fun x => pM x.1) fun O w0 x _ _ => ⟨by decide, _, rfl, rfl⟩
def kz (f t : List Int) : Bool := bif eqb aj (aH t) (aH (gp f)) then true else eqb aj (aH f) (aH (rR t))
noncomputable abbrev gu : cv := ⟨lQ, lJ, fun x => (kz x.1 x.2.1, ()), fun _ => True, true⟩
noncomputable abbrev iT : cv := ⟨oh, nS, fun _ => (true, ()), fun _ => True, true⟩
end Go.Proofs.YtnakjijahkaoaaaDoor
namespace Go.Proofs.YtnakjijahkaoaaaDoor
open Go Go.RowKit
noncomputable abbrev lM : Fx := { fn := jo, ann := { } }
noncomputable abbrev m8 : bl := { D := { T := cx, F := [(dN, dO), (eB, eJ), (gA, gD)], R := [], ovl := [], G := gl }, inl := [] }
noncomputable abbrev sR : cw := .data lJ
theorem sZ (h_proof_keyOf : aY prog gl dN dO) (h_proof_Left : aY prog gl eB eJ) (h_proof_Right : aY prog gl gA gD) : XOk prog m8 := xok (bf (bf (bf (bP bR bt) h_proof_Right) h_proof_Left) h_proof_keyOf) (by kernel_rfl) bu bM bN
noncomputable def m6 (a : den tId) (b : den tId) : ab := ab.req True (ab.req True (ab.req True (ab.req (mh [(eqb aj (aH b) (aH (gp a)), false)] True) (ab.req (mh [(eqb aj (aH b) (aH (gp a)), false)] True) (ab.req (mh [(eqb aj (aH b) (aH (gp a)), false)] True) (ab.ret (K.val (Ty.pair Ty.bool Ty.unit) (bif eqb aj (aH b) (aH (gp a)) then true else eqb aj (aH a) (aH (rR b)), PUnit.unit))))))))
theorem pF (a : den tId) (b : den tId) : aC m8 sR 5000 [] lM (aZ jo) (Env.of (bc lQ (a, b, ()) 0) []) = m6 a b := by kernel_rfl
noncomputable abbrev oo : Fx := { fn := lr, ann := { frz := [(2, [1])] }, share := true }
noncomputable abbrev pv : bl := { D := { T := cx, F := [(dg, cN), (gr, gv), (eB, eJ), (gB, gu)], R := [], ovl := [], G := gl }, inl := [] }
noncomputable abbrev vg : cw := .data nS
theorem vj (h_proof_Acyclic : aY prog gl dg cN) (h_proof_Nonce : aY prog gl gr gv) (h_proof_Left : aY prog gl eB eJ) (h_proof_Links : aY prog gl gB gu) : XOk prog pv := xok (bf (bf (bf (bf (bP bR bt) h_proof_Links) h_proof_Left) h_proof_Nonce) h_proof_Acyclic) (by kernel_rfl) bu bM bN
noncomputable def pp : ab := ab.req (List.length (List.set (List.replicate 1 (zero ae)) 0 (List.set (List.replicate 32 (zero (Ty.int IntKind.u8))) 0 7, List.set (List.replicate 32 (zero (Ty.int IntKind.u8))) 0 7, Prod.snd (Prod.snd (zero (Ty.pair tId (Ty.pair tId Ty.unit)))))) ≤ 1000000) (ab.all (den (Ty.pair Ty.bool (Ty.pair ah Ty.unit))) (fun (q0 : den (Ty.pair Ty.bool (Ty.pair ah Ty.unit))) ↦ q0 = (Prod.fst (bA (List.set (List.replicate 1 (zero ae)) 0 (List.set (List.replicate 32 (zero (Ty.int IntKind.u8))) 0 7, List.set (List.replicate 32 (zero (Ty.int IntKind.u8))) 0 7, Prod.snd (Prod.snd (zero (Ty.pair tId (Ty.pair tId Ty.unit))))))), Prod.snd (bA (List.set (List.replicate 1 (zero ae)) 0 (List.set (List.replicate 32 (zero (Ty.int IntKind.u8))) 0 7, List.set (List.replicate 32 (zero (Ty.int IntKind.u8))) 0 7, Prod.snd (Prod.snd (zero (Ty.pair tId (Ty.pair tId Ty.unit))))))), PUnit.unit)) fun (q0 : den (Ty.pair Ty.bool (Ty.pair ah Ty.unit))) ↦ ab.req True (ab.all (den (Ty.pair Ty.str (Ty.pair ah Ty.unit))) (fun (q1 : den (Ty.pair Ty.str (Ty.pair ah Ty.unit))) ↦ q1 = (Prod.fst (cZ { data := { toList := [115] } } (List.set (List.replicate 32 (zero (Ty.int IntKind.u8))) 0 7) 3), Prod.snd (cZ { data := { toList := [115] } } (List.set (List.replicate 32 (zero (Ty.int IntKind.u8))) 0 7) 3), PUnit.unit)) fun (q1 : den (Ty.pair Ty.str (Ty.pair ah Ty.unit))) ↦ ab.req True (ab.req True (ab.all (den tId) (fun (q2 : den tId) ↦ q2 = gp (List.set (List.replicate 32 (zero (Ty.int IntKind.u8))) 0 7)) fun (q2 : den tId) ↦ ab.all (den Ty.bool) (fun (q3 : den Ty.bool) ↦ q3 = kz (List.set (List.replicate 32 (zero (Ty.int IntKind.u8))) 0 7) (gp (List.set (List.replicate 32 (zero (Ty.int IntKind.u8))) 0 7))) fun (q3 : den Ty.bool) ↦ ab.ret (K.val (Ty.pair Ty.bool Ty.unit) (bif bif bif bif kz (List.set (List.replicate 32 (zero (Ty.int IntKind.u8))) 0 7) (gp (List.set (List.replicate 32 (zero (Ty.int IntKind.u8))) 0 7)) then decide (Prod.fst (Prod.snd q0) = 0) else false then !Prod.fst q0 else false then decide (Prod.fst (Prod.snd q1) = 0) else false then decide (cj (Prod.fst q1) = 16) else false, PUnit.unit))))))
theorem sc : aC pv vg 5000 [] oo (aZ lr) (Env.of (bc oh () 0) []) = pp := by kernel_rfl
end Go.Proofs.YtnakjijahkaoaaaDoor
namespace Go.Proofs.YtnakjijahkaoaaaDoor
open Go Go.RowKit
theorem vH : ∀ (n : Nat) (l : List Lk), g9 n l = true → ∃ rk : List Int → Nat, (∀ k, rk k ≤ l.length) ∧ ∀ x ∈ l, rk (aH x.2.1) < rk (aH x.1)
 | 0, l, h => by cases h
 | n + 1, l, h => by
  rw [g9] at h
  split at h
  ·have hl : l = [] := List.eq_nil_of_length_eq_zero (of_decide_eq_true h)
   subst hl
   exact ⟨fun _ => 0, fun _ => Nat.zero_le _, fun x hx => by cases hx⟩
  ·rename_i hne
   obtain ⟨rk, h1, h2⟩ := vH n _ h
   have hle := List.length_filter_le (dc (cn l)) l
   refine ⟨fun k => if k ∈ l.map (fun x => aH x.1) then rk k + 1 else 0, fun k => ?_, fun x hx => ?_⟩
   ·show (if k ∈ l.map (fun x => aH x.1) then rk k + 1 else 0) ≤ _
    split
    ·have := h1 k; omega
    ·exact Nat.zero_le _
   ·show (if aH x.2.1 ∈ l.map (fun x => aH x.1) then rk (aH x.2.1) + 1 else 0) < (if aH x.1 ∈ l.map (fun x => aH x.1) then rk (aH x.1) + 1 else 0)
    rw [if_pos (List.mem_map.2 ⟨x, hx, rfl⟩)]
    split
    ·rename_i hin
     have hxr : x ∈ l.filter (dc (cn l)) := List.mem_filter.2 ⟨hx, by unfold dc; rw [uG]; exact decide_eq_true hin⟩
     have := h2 x hxr
     omega
    ·omega
def xD (l : List Lk) : Prop := ∃ rk : List Int → Nat, ∀ x ∈ l, rk (aH x.2.1) < rk (aH x.1)
theorem oP {rk : List Int → Nat} : ∀ (n : Nat) (l : List Lk), l.length < n → (∀ x ∈ l, rk (aH x.2.1) < rk (aH x.1)) → g9 n l = true
 | 0, l, h, _ => absurd h (Nat.not_lt_zero _)
 | n + 1, l, h, hr => by
  rw [g9]
  split
  ·rename_i he
   have hf : ∀ x ∈ l, dc (cn l) x = true := List.length_filter_eq_length_iff.1 he
   have key : ∀ m : Nat, ∀ x ∈ l, rk (aH x.1) = m → False := fun m => by
    induction m using Nat.strongRecOn with
    | _ m ih =>
     intro x hx e
     have h1 := hf x hx
     unfold dc at h1
     rw [uG] at h1
     obtain ⟨y, hy, e1⟩ := List.mem_map.1 (of_decide_eq_true h1)
     have := hr x hx
     exact ih (rk (aH y.1)) (by rw [e1]; omega) y hy rfl
   cases l with
   | nil => rfl
   | cons x r => exact (key _ x List.mem_cons_self rfl).elim
  ·rename_i he
   have hle := List.length_filter_le (dc (cn l)) l
   exact oP n _ (by omega) fun x hx => hr x (List.mem_filter.1 hx).1
theorem zd (l : List Lk) : g9 (l.length + 1) l = true ↔ xD l :=
 ⟨fun h => let ⟨rk, _, h2⟩ := vH _ l h; ⟨rk, h2⟩, fun ⟨_, h⟩ => oP _ l (Nat.lt_succ_self _) h⟩
theorem wa {l : List Lk} (h : l.length ≤ 64) : bA l = (g9 (l.length + 1) l, 0) := by
 unfold bA
 rw [if_neg (by omega)]
theorem yH (a : List Int) : eqb aj a a = true := by rw [eqK, decide_eq_true rfl]
theorem wI (a : List Int) : kz a (gp a) = true := by
 unfold kz
 rw [yH]
 rfl
theorem sX : aY prog gl gB gu :=
 dr (S := gu) (sZ (bC nj) oq s8) (fx := lM) sf (by kernel_rfl) (fun _ _ => trivial) (T := fun x => m6 x.1 x.2.1) (fun x => pF x.1 x.2.1) fun O w0 x _ _ =>
  ⟨trivial, trivial, trivial, fun _ => trivial, fun _ => trivial, fun _ => trivial, _, rfl, rfl⟩
theorem yB (h : List Int) : ∀ n : Nat, (rF h n).length = 32 := fun n => by
 induction n with
 | zero => rfl
 | succ n ih => exact (List.length_set ..).trans ih
theorem Ad (l : List ByteArray) : (iV l).length = 32 := by
 unfold iV wY
 exact yB _ _
theorem xp (secret : ByteArray) (id : List Int) (host : Int) : (aO (bv (.int .u8) (iV (qU secret id host)) 0 16)).size = 16 := by
 rw [ie]
 unfold bv d2
 have e16 : Int.toNat 16 = 16 := rfl
 have e0 : Int.toNat 0 = 0 := rfl
 rw [e16, e0, List.length_drop, List.length_take, Ad]
 rfl
theorem xF : bA (List.set (List.replicate 1 (zero ae)) 0 (List.set (List.replicate 32 (zero (Ty.int IntKind.u8))) 0 7, List.set (List.replicate 32 (zero (Ty.int IntKind.u8))) 0 7, Prod.snd (Prod.snd (zero (Ty.pair tId (Ty.pair tId Ty.unit)))))) = (false, 0) := by kernel_rfl
theorem vc : aY prog gl iY iT :=
 dr (S := iT) (vj (bC k4) sO oq sX) (fx := oo) uy (by kernel_rfl) (fun _ _ => trivial) (T := fun _ => pp) (fun _ => sc) fun O w0 x _ _ => by
  have e2 : ∀ id : List Int, cZ ⟨⟨[115]⟩⟩ id 3 = (aO (bv (.int .u8) (iV (qU ⟨⟨[115]⟩⟩ id 3)) 0 16), 0) := fun id => by
   unfold cZ
   rw [if_neg (by decide), if_neg (by decide)]
  refine ⟨show 1 ≤ 1000000 by decide, a7 ⟨trivial, a7 ⟨trivial, trivial, a7 <| a7 ⟨_, rfl, ?_⟩⟩⟩⟩
  refine Prod.ext ?_ rfl
  dsimp only
  rw [wI, e2, xF]
  dsimp only
  unfold cj
  rw [xp]
  rfl
theorem zS (l : List Lk) (n : Nat) : bv ae l 0 (gg (lnx ae l) (n : Int)) = l.take n := (zr l n).1
end Go.Proofs.YtnakjijahkaoaaaDoor
namespace Go.Proofs.YtnakjijahkaoaaaDoor
open Go Go.RowKit
end Go.Proofs.YtnakjijahkaoaaaDoor
namespace Go.Proofs.YtnakjijahkaoaaaDoor
open Go Go.RowKit
noncomputable abbrev rn : Fx := { fn := ou, ann := { frz := [(1, [1])] } }
noncomputable abbrev sL : bl := { D := { T := cx, F := [], R := [], ovl := [] }, inl := [] }
noncomputable abbrev xR : cw := .data rv
theorem yl : XOk prog sL := xok ((bP bR bt)) (by kernel_rfl) bu bM bN
noncomputable def sv (a : den tId) : ab := ab.req (bg 0 16 (↑32 : Int)) (ab.ret (K.val (Ty.pair Ty.str Ty.unit) (aO (bv (Ty.int IntKind.u8) a 0 16), PUnit.unit)))
theorem ur (a : den tId) : aC sL xR 5000 [] rn (aZ ou) (Env.of (bc rf (a, ()) 0) []) = sv a := by kernel_rfl
noncomputable abbrev fZ : Fx := { fn := fJ, ann := { loops := [(2, { keep := [1, 7, 8, 9] })] } }
noncomputable abbrev k7 : bl := { D := { T := cx, F := [], R := [], ovl := [] }, inl := [] }
noncomputable abbrev sH : cw := .data mg
theorem nR : XOk prog k7 := xok ((bP bR bt)) (by kernel_rfl) bu bM bN
noncomputable def sB (l : den (Ty.slc Ty.str)) (s : den Ty.str) : ab := ab.loop [] fZ (lp fJ 2) [(1, K.val Ty.str s), (7, K.val (Ty.slc Ty.str) l), (8, K.val ah (lnx Ty.str l)), (9, K.val ah 0)] []
theorem uk (l : den (Ty.slc Ty.str)) (s : den Ty.str) : aC k7 sH 5000 [] fZ (aZ fJ) (Env.of (bc qV (l, s, ()) 0) []) = sB l s := by kernel_rfl
noncomputable def pA (v1 : den Ty.str) (v7 : den (Ty.slc Ty.str)) (v8 : den ah) (v9 : den ah) : Env := Env.of [(1, K.val Ty.str v1), (7, K.val (Ty.slc Ty.str) v7), (8, K.val ah v8), (9, K.val ah v9)] []
noncomputable def tG (v1 : den Ty.str) (v7 : den (Ty.slc Ty.str)) (v8 : den ah) (v9 : den ah) : ab := ab.ite (decide (v9 < v8)) (ab.req (inB v9 (lnx Ty.str v7)) (ab.ite (eqb Ty.str (el Ty.str v7 v9) v1) (ab.ret (K.val (Ty.pair Ty.bool Ty.unit) (true, PUnit.unit))) (ab.loop [] fZ (lp fJ 2) [(1, K.val Ty.str v1), (7, K.val (Ty.slc Ty.str) v7), (8, K.val ah v8), (9, K.val ah (IntKind.wrap IntKind.i64 (v9 + 1)))] []))) (ab.ret (K.val (Ty.pair Ty.bool Ty.unit) (false, PUnit.unit)))
theorem kY (v1 : den Ty.str) (v7 : den (Ty.slc Ty.str)) (v8 : den ah) (v9 : den ah) : aC k7 sH 5000 [] fZ (lp fJ 2) (pA v1 v7 v8 v9) = tG v1 v7 v8 v9 := by kernel_rfl
end Go.Proofs.YtnakjijahkaoaaaDoor
namespace Go.Proofs.YtnakjijahkaoaaaDoor
open Go Go.RowKit
def aq (a : List Int) : ByteArray := tN a
noncomputable abbrev gS : cv := ⟨rf, rv, fun x => (aq x.1, ()), fun _ => True, true⟩
theorem sq : aY prog [] gT gS :=
 dr (S := gS) yl (fx := rn) wb (by kernel_rfl) (fun _ _ => trivial) (T := fun x => sv x.1) (fun x => ur x.1) fun O w0 x _ _ => ⟨⟨by decide, by decide, by decide⟩, _, rfl, rfl⟩
def bL (l : List ByteArray) (s : ByteArray) : Bool := l.any fun x => decide (x = s)
theorem mL {l : List ByteArray} {s : ByteArray} : bL l s = true ↔ s ∈ l := by
 unfold bL
 rw [List.any_eq_true]
 exact ⟨fun ⟨x, hx, e⟩ => of_decide_eq_true e ▸ hx, fun h => ⟨s, h, decide_eq_true rfl⟩⟩
theorem kd {l : List ByteArray} {s : ByteArray} : bL l s = false ↔ s ∉ l := by
 rw [← mL]
 cases bL l s <;> simp
noncomputable abbrev gV : cv := ⟨qV, mg, fun x => (bL x.1 x.2.1, ()), fun x => x.1.length ≤ 1000000, false⟩
abbrev AY (O : Nat → Prop) (w0 : World) (y : Bool) := bo prog k7 (Cx.base O w0) (eV prog O w0 mg fun z => z = (y, ()))
def AG (O : Nat → Prop) (w0 : World) (l : List ByteArray) (s : ByteArray) (hl : l.length ≤ 1000000) :=
 PLift.up <| c7 (σ := Unit) l.length (fun i _ => s ∉ l.take i)
  (fun i _ => AY O w0 (bL l s) [] fZ (lp fJ 2) (pA s l (lnx .str l) (i : Nat)))
  (fun i _ hi hs ih => aQ nR (kY s l _ _) (by
   have e : el .str l (i : Nat) = l[i] := o4 hi
   refine ⟨fun _ => ⟨fU hi, fun hc => ⟨_, rfl, ?_⟩, fun hc => ?_⟩, fun hc => ?_⟩
   ·rw [e] at hc
    have hc : l[i] = s := of_decide_eq_true hc
    show (true, ()) = (bL l s, ())
    rw [mL.2 (hc ▸ List.getElem_mem hi)]
   ·rw [e] at hc
    have hc : ¬ l[i] = s := of_decide_eq_false hc
    rw [dE hi (by omega)]
    refine ih () fun hm => ?_
    rw [List.take_succ_eq_append_getElem hi, List.mem_append, List.mem_singleton] at hm
    exact hm.elim hs fun e => hc e.symm
   ·rw [eM] at hc
    exact absurd hi (of_decide_eq_false hc)))
  (fun _ hs => aQ nR (kY s l _ _) (by
   rw [List.take_length] at hs
   refine ⟨fun hc => ?_, fun _ => ⟨_, rfl, ?_⟩⟩
   ·rw [eM] at hc
    exact absurd (of_decide_eq_true hc) (Nat.lt_irrefl _)
   ·show (false, ()) = (bL l s, ())
    rw [kd.2 hs]))
theorem sA : aY prog [] gU gV :=
 dr (S := gV) nR (fx := fZ) wT (by kernel_rfl) (fun h => by cases h) (T := fun x => sB x.1 x.2.1) (fun x => uk x.1 x.2.1) fun O w0 x _ hp =>
  (AG O w0 x.1 x.2.1 hp).down 0 () (Nat.zero_le _) (by rw [List.take_zero]; exact List.not_mem_nil)
def stF (now : List ByteArray) (s : List ByteArray × List ByteArray) (x : Lk) : List ByteArray × List ByteArray :=
 if (bL now (aq x.1) && !bL s.1 (aq x.2.1)) = true then (s.1 ++ [aq x.2.1], s.2 ++ [aq x.2.1]) else s
def jF (l : List Lk) : Nat → List ByteArray → List ByteArray → List ByteArray
 | 0, _, out => out
 | n + 1, now, out => if now.length = 0 then out else jF l n (l.foldl (stF now) (out, [])).2 (l.foldl (stF now) (out, [])).1
def jI (l : List Lk) (k : ByteArray) : List ByteArray := jF l (l.length + 1) [k] []
noncomputable abbrev jD : cv := ⟨pg, lu, fun x => (jI x.1 x.2.1, ()), fun x => x.1.length ≤ 64, false⟩
def fe (l : List Lk) : Bool := l.all fun x => !bL (jI l (aq x.1)) (aq x.1)
noncomputable abbrev gE : cv := ⟨lH, iJ, fun x => (fe x.1, ()), fun x => x.1.length ≤ 64, false⟩
theorem o0 (now : List ByteArray) : ∀ (l : List Lk) (s : List ByteArray × List ByteArray), ∃ d : List ByteArray, l.foldl (stF now) s = (s.1 ++ d, s.2 ++ d) ∧
    (∀ x ∈ l, aq x.1 ∈ now → aq x.2.1 ∈ s.1 ++ d) ∧ (∀ t ∈ d, ∃ x ∈ l, aq x.1 ∈ now ∧ aq x.2.1 = t) ∧ (s.1.Nodup → (s.1 ++ d).Nodup)
  | [], s => ⟨[], by simp, (fun x hx => by cases hx), (fun t ht => by cases ht), fun h => by simpa using h⟩
  | x :: l, s => by
    rw [List.foldl_cons]
    obtain ⟨d, e, h1, h2, h3⟩ := o0 now l (stF now s x)
    by_cases hc : (bL now (aq x.1) && !bL s.1 (aq x.2.1)) = true
    · have es : stF now s x = (s.1 ++ [aq x.2.1], s.2 ++ [aq x.2.1]) := if_pos hc
      rw [es] at e h1 h3 ⊢
      rw [Bool.and_eq_true, mL, Bool.not_eq_true', kd] at hc
      refine ⟨aq x.2.1 :: d, by rw [e, List.append_assoc, List.append_assoc]; rfl, fun y hy hn => ?_, fun t ht => ?_, fun hd => ?_⟩
      · rcases List.mem_cons.1 hy with rfl | hy
        · exact List.mem_append.2 (.inr List.mem_cons_self)
        · have := h1 y hy hn
          rwa [List.append_assoc] at this
      · rcases List.mem_cons.1 ht with rfl | ht
        · exact ⟨x, List.mem_cons_self, hc.1, rfl⟩
        · obtain ⟨y, hy, h⟩ := h2 t ht
          exact ⟨y, List.mem_cons_of_mem _ hy, h⟩
      · have := h3 (by
          rw [List.nodup_append]
          exact ⟨hd, by simp, fun a ha b hb => by rw [List.mem_singleton.1 hb]; exact fun e => hc.2 (e ▸ ha)⟩)
        rwa [List.append_assoc] at this
    · have es : stF now s x = s := if_neg hc
      rw [es] at e h1 h3 ⊢
      refine ⟨d, e, fun y hy hn => ?_, fun t ht => ?_, h3⟩
      · rcases List.mem_cons.1 hy with rfl | hy
        · rw [Bool.and_eq_true, mL, Bool.not_eq_true', kd] at hc
          exact List.mem_append.2 (.inl (Classical.byContradiction fun hn' => hc ⟨hn, hn'⟩))
        · exact h1 y hy hn
      · obtain ⟨y, hy, h⟩ := h2 t ht
        exact ⟨y, List.mem_cons_of_mem _ hy, h⟩
structure pK (l : List Lk) (k : ByteArray) (n : Nat) (now out : List ByteArray) : Prop where
 nd : out.Nodup
 sub : ∀ t ∈ out, ∃ x ∈ l, aq x.2.1 = t
 fuel : now = [] ∨ l.length + 1 ≤ out.length + n
theorem fM {α β : Type} {f : β → α} : ∀ {out : List α} {l : List β}, out.Nodup → (∀ t ∈ out, ∃ x ∈ l, f x = t) → out.length ≤ l.length
 | [], _, _, _ => Nat.zero_le _
 | t :: r, l, hn, hs => by
  rw [List.nodup_cons] at hn
  obtain ⟨x, hx, e⟩ := hs t List.mem_cons_self
  obtain ⟨a, b, rfl⟩ := List.append_of_mem hx
  have := fM (l := a ++ b) hn.2 fun t' ht' => by
   obtain ⟨y, hy, e'⟩ := hs t' (List.mem_cons_of_mem _ ht')
   refine ⟨y, ?_, e'⟩
   rcases List.mem_append.1 hy with h | h
   ·exact List.mem_append.2 (.inl h)
   ·rcases List.mem_cons.1 h with rfl | h
    ·exact absurd (e ▸ e' ▸ ht') hn.1
    ·exact List.mem_append.2 (.inr h)
  simp only [List.length_append, List.length_cons] at this ⊢
  omega
theorem pK.next {l : List Lk} {k : ByteArray} {n : Nat} {now out : List ByteArray} (h : pK l k (n + 1) now out) (hn : now ≠ []) : pK l k n (l.foldl (stF now) (out, [])).2 (l.foldl (stF now) (out, [])).1 := by
 obtain ⟨d, e, h1, h2, h3⟩ := o0 now l (out, [])
 rw [e]
 have hsub : ∀ t ∈ out ++ d, ∃ x ∈ l, aq x.2.1 = t := fun t ht => by
  rcases List.mem_append.1 ht with ht | ht
  ·exact h.sub t ht
  ·obtain ⟨x, hx, _, e⟩ := h2 t ht
   exact ⟨x, hx, e⟩
 refine ⟨h3 h.nd, hsub, ?_⟩
 rcases h.fuel with h | h
 ·exact absurd h hn
 ·show [] ++ d = [] ∨ l.length + 1 ≤ (out ++ d).length + n
  by_cases hd : d = []
  ·exact .inl hd
  ·have : 0 < d.length := List.length_pos_iff.2 hd
   rw [List.length_append]
   exact .inr (by omega)
end Go.Proofs.YtnakjijahkaoaaaDoor
namespace Go.Proofs.YtnakjijahkaoaaaDoor
open Go Go.RowKit
noncomputable abbrev bW : Fx := { fn := bZ, ann := { loops := [(3, { keep := [0, 5, 6], own := [(5, .str), (6, (.ref .str))] }), (6, { keep := [0, 5, 6, 7, 17, 18, 19], own := [(5, .str), (7, .str)] })], frz := [(8, [9])] }, own := [10, 16], share := true }
noncomputable abbrev gb : bl := { D := { T := cx, F := [(gT, gS), (gU, gV)], R := [], ovl := [] }, inl := [] }
noncomputable abbrev mi : cw := .data lu
theorem wd (h_r03_Key : aY prog [] gT gS) (h_r03_has : aY prog [] gU gV) : XOk prog gb := xok (bf (bf (bP bR bt) h_r03_has) h_r03_Key) (by kernel_rfl) bu bM bN
noncomputable def ru (l : den (Ty.slc ae)) (k : den Ty.str) : ab := ab.loop [] bW (lp bZ 3) [(0, K.val (Ty.slc ae) l), (5, K.sl 0 Ty.str), (6, K.val (Ty.slc Ty.str) (List.set (List.replicate 1 (zero Ty.str)) 0 k))] [(0, Bx.row Ty.str (List.replicate 0 (zero Ty.str)))]
theorem s4 (l : den (Ty.slc ae)) (k : den Ty.str) : aC gb mi 5000 [] bW (aZ bZ) (Env.of (bc pg (l, k, ()) 0) []) = ru l k := by kernel_rfl
noncomputable def jT (v0 : den (Ty.slc ae)) (v6 : den (Ty.slc Ty.str)) (b0 : List (den Ty.str)) : Env := Env.of [(0, K.val (Ty.slc ae) v0), (5, K.sl 0 Ty.str), (6, K.val (Ty.slc Ty.str) v6)] [(0, Bx.row Ty.str b0)]
noncomputable def tc (v0 : den (Ty.slc ae)) (v6 : den (Ty.slc Ty.str)) (b0 : List (den Ty.str)) : ab := ab.ite (decide (0 < lnx Ty.str v6)) (ab.loop [] bW (lp bZ 6) [(0, K.val (Ty.slc ae) v0), (5, K.sl 0 Ty.str), (6, K.val (Ty.slc Ty.str) v6), (7, K.sl (0 + 1) Ty.str), (17, K.val (Ty.slc ae) v0), (18, K.val ah (lnx ae v0)), (19, K.val ah 0)] [(0, Bx.row Ty.str b0), (0 + 1, Bx.row Ty.str (List.replicate 0 (zero Ty.str)))]) (ab.ret (K.val (Ty.pair (Ty.slc Ty.str) Ty.unit) (b0, PUnit.unit)))
theorem kw (v0 : den (Ty.slc ae)) (v6 : den (Ty.slc Ty.str)) (b0 : List (den Ty.str)) : aC gb mi 5000 [] bW (lp bZ 3) (jT v0 v6 b0) = tc v0 v6 b0 := by kernel_rfl
noncomputable def nE (v0 : den (Ty.slc ae)) (v6 : den (Ty.slc Ty.str)) (v17 : den (Ty.slc ae)) (v18 : den ah) (v19 : den ah) (b0 : List (den Ty.str)) (b1 : List (den Ty.str)) : Env := Env.of [(0, K.val (Ty.slc ae) v0), (5, K.sl 0 Ty.str), (6, K.val (Ty.slc Ty.str) v6), (7, K.sl (0 + 1) Ty.str), (17, K.val (Ty.slc ae) v17), (18, K.val ah v18), (19, K.val ah v19)] [(0, Bx.row Ty.str b0), (1, Bx.row Ty.str b1)]
noncomputable def sW (v0 : den (Ty.slc ae)) (v6 : den (Ty.slc Ty.str)) (v17 : den (Ty.slc ae)) (v18 : den ah) (v19 : den ah) (b0 : List (den Ty.str)) (b1 : List (den Ty.str)) : ab := ab.ite (decide (v19 < v18)) (ab.req (inB v19 (lnx ae v17)) (ab.req True (ab.all (den Ty.str) (fun (q7 : den Ty.str) ↦ q7 = aq (Prod.fst (el ae v17 v19))) fun (q7 : den Ty.str) ↦ ab.req (List.length v6 ≤ 1000000) (ab.all (den Ty.bool) (fun (q8 : den Ty.bool) ↦ q8 = bL v6 q7) fun (q8 : den Ty.bool) ↦ ab.req (mh [(q8, true)] True) (ab.req (mh [(q8, true)] (List.length b0 ≤ 1000000)) (ab.ite (bif q8 then !bL b0 (aq (Prod.fst (Prod.snd (el ae v17 v19)))) else false) (ab.req True (ab.all (den Ty.str) (fun (q9 : den Ty.str) ↦ q9 = aq (Prod.fst (Prod.snd (el ae v17 v19)))) fun (q9 : den Ty.str) ↦ ab.req (List.length (b0 ++ List.set (List.replicate 1 (zero Ty.str)) 0 q9) ≤ bT) (ab.req True (ab.all (den Ty.str) (fun (q10 : den Ty.str) ↦ q10 = aq (Prod.fst (Prod.snd (el ae v17 v19)))) fun (q10 : den Ty.str) ↦ ab.req (List.length (b1 ++ List.set (List.replicate 1 (zero Ty.str)) 0 q10) ≤ bT) (ab.loop [] bW (lp bZ 6) [(0, K.val (Ty.slc ae) v0), (5, K.sl 0 Ty.str), (6, K.val (Ty.slc Ty.str) v6), (7, K.sl (0 + 1) Ty.str), (17, K.val (Ty.slc ae) v17), (18, K.val ah v18), (19, K.val ah (IntKind.wrap IntKind.i64 (v19 + 1)))] [(0, Bx.row Ty.str (b0 ++ List.set (List.replicate 1 (zero Ty.str)) 0 q9)), (0 + 1, Bx.row Ty.str (b1 ++ List.set (List.replicate 1 (zero Ty.str)) 0 q10))]))))) (ab.loop [] bW (lp bZ 6) [(0, K.val (Ty.slc ae) v0), (5, K.sl 0 Ty.str), (6, K.val (Ty.slc Ty.str) v6), (7, K.sl (0 + 1) Ty.str), (17, K.val (Ty.slc ae) v17), (18, K.val ah v18), (19, K.val ah (IntKind.wrap IntKind.i64 (v19 + 1)))] [(0, Bx.row Ty.str b0), (0 + 1, Bx.row Ty.str b1)]))))))) (ab.loop [] bW (lp bZ 3) [(0, K.val (Ty.slc ae) v0), (5, K.sl 0 Ty.str), (6, K.val (Ty.slc Ty.str) b1)] [(0, Bx.row Ty.str b0)])
theorem j2 (v0 : den (Ty.slc ae)) (v6 : den (Ty.slc Ty.str)) (v17 : den (Ty.slc ae)) (v18 : den ah) (v19 : den ah) (b0 : List (den Ty.str)) (b1 : List (den Ty.str)) : aC gb mi 5000 [] bW (lp bZ 6) (nE v0 v6 v17 v18 v19 b0 b1) = sW v0 v6 v17 v18 v19 b0 b1 := by kernel_rfl
noncomputable abbrev dw : Fx := { fn := dk, ann := { loops := [(2, { keep := [0, 5, 6, 7] })], frz := [(4, [4])] }, share := true }
noncomputable abbrev fb : bl := { D := { T := cx, F := [(gT, gS), (gU, gV), (jC, jD)], R := [], ovl := [] }, inl := [] }
noncomputable abbrev ni : cw := .data iJ
theorem sT (h_r03_Key : aY prog [] gT gS) (h_r03_has : aY prog [] gU gV) (h_r03_From : aY prog [] jC jD) : XOk prog fb := xok (bf (bf (bf (bP bR bt) h_r03_From) h_r03_has) h_r03_Key) (by kernel_rfl) bu bM bN
noncomputable def nl (l : den (Ty.slc ae)) : ab := ab.loop [] dw (lp dk 2) [(0, K.val (Ty.slc ae) l), (5, K.val (Ty.slc ae) l), (6, K.val ah (lnx ae l)), (7, K.val ah 0)] []
theorem qi (l : den (Ty.slc ae)) : aC fb ni 5000 [] dw (aZ dk) (Env.of (bc lH (l, ()) 0) []) = nl l := by kernel_rfl
noncomputable def k9 (v0 : den (Ty.slc ae)) (v5 : den (Ty.slc ae)) (v6 : den ah) (v7 : den ah) : Env := Env.of [(0, K.val (Ty.slc ae) v0), (5, K.val (Ty.slc ae) v5), (6, K.val ah v6), (7, K.val ah v7)] []
noncomputable def pQ (v0 : den (Ty.slc ae)) (v5 : den (Ty.slc ae)) (v6 : den ah) (v7 : den ah) : ab := ab.ite (decide (v7 < v6)) (ab.req (inB v7 (lnx ae v5)) (ab.req True (ab.req (List.length v0 ≤ 64) (ab.req True (ab.req (List.length (jI v0 (aq (Prod.fst (el ae v5 v7)))) ≤ 1000000) (ab.all (den Ty.str) (fun (q4 : den Ty.str) ↦ q4 = aq (Prod.fst (el ae v5 v7))) fun (q4 : den Ty.str) ↦ ab.all (den (Ty.slc Ty.str)) (fun (q5 : den (Ty.slc Ty.str)) ↦ q5 = jI v0 (aq (Prod.fst (el ae v5 v7)))) fun (q5 : den (Ty.slc Ty.str)) ↦ ab.all (den Ty.str) (fun (q6 : den Ty.str) ↦ q6 = aq (Prod.fst (el ae v5 v7))) fun (q6 : den Ty.str) ↦ ab.all (den Ty.bool) (fun (q7 : den Ty.bool) ↦ q7 = bL (jI v0 (aq (Prod.fst (el ae v5 v7)))) (aq (Prod.fst (el ae v5 v7)))) fun (q7 : den Ty.bool) ↦ ab.ite q7 (ab.ret (K.val (Ty.pair Ty.bool Ty.unit) (false, PUnit.unit))) (ab.loop [] dw (lp dk 2) [(0, K.val (Ty.slc ae) v0), (5, K.val (Ty.slc ae) v5), (6, K.val ah v6), (7, K.val ah (IntKind.wrap IntKind.i64 (v7 + 1)))] []))))))) (ab.ret (K.val (Ty.pair Ty.bool Ty.unit) (true, PUnit.unit)))
theorem iA (v0 : den (Ty.slc ae)) (v5 : den (Ty.slc ae)) (v6 : den ah) (v7 : den ah) : aC fb ni 5000 [] dw (lp dk 2) (k9 v0 v5 v6 v7) = pQ v0 v5 v6 v7 := by kernel_rfl
noncomputable abbrev jS : Fx := { fn := io, ann := { }, share := true }
noncomputable abbrev kG : bl := { D := { T := cx, F := [(dg, cN), (gF, gE), (iY, iT)], R := [], ovl := [], G := gl }, inl := [] }
noncomputable abbrev qW : cw := .data pN
theorem rD (h_proof_Acyclic : aY prog gl dg cN) (h_r03_Acyclic : aY prog gl gF gE) (h_l03_alive : aY prog gl iY iT) : XOk prog kG := xok (bf (bf (bf (bP bR bt) h_l03_alive) h_r03_Acyclic) h_proof_Acyclic) (by kernel_rfl) bu bM bN
noncomputable def fD (l : den (Ty.slc ae)) : ab := ab.req (bg 0 (gg (lnx ae l) 66) (lnx ae l)) (ab.req (List.length (bv ae l 0 (gg (lnx ae l) 66)) ≤ 1000000) (ab.all (den (Ty.pair Ty.bool (Ty.pair ah Ty.unit))) (fun (q1 : den (Ty.pair Ty.bool (Ty.pair ah Ty.unit))) ↦ q1 = (Prod.fst (bA (bv ae l 0 (gg (lnx ae l) 66))), Prod.snd (bA (bv ae l 0 (gg (lnx ae l) 66))), PUnit.unit)) fun (q1 : den (Ty.pair Ty.bool (Ty.pair ah Ty.unit))) ↦ ab.ite (decide (64 < lnx ae (bv ae l 0 (gg (lnx ae l) 66)))) (ab.req True (ab.all (den Ty.bool) (fun (q2 : den Ty.bool) ↦ q2 = true) fun (q2 : den Ty.bool) ↦ ab.ret (K.val (Ty.pair Ty.bool Ty.unit) (bif bif q2 then decide (Prod.fst (Prod.snd q1) = 2) else false then !Prod.fst q1 else false, PUnit.unit)))) (ab.req True (ab.all (den Ty.bool) (fun (q2 : den Ty.bool) ↦ q2 = true) fun (q2 : den Ty.bool) ↦ ab.req (mh [(bif q2 then decide (Prod.fst (Prod.snd q1) = 0) else false, true)] (List.length (bv ae l 0 (gg (lnx ae l) 66)) ≤ 64)) (ab.ret (K.val (Ty.pair Ty.bool Ty.unit) (bif bif q2 then decide (Prod.fst (Prod.snd q1) = 0) else false then eqO (Prod.fst q1) (fe (bv ae l 0 (gg (lnx ae l) 66))) else false, PUnit.unit)))))))
theorem og (l : den (Ty.slc ae)) : aC kG qW 5000 [] jS (aZ io) (Env.of (bc cY (l, ()) 0) []) = fD l := by kernel_rfl
end Go.Proofs.YtnakjijahkaoaaaDoor
namespace Go.Proofs.YtnakjijahkaoaaaDoor
open Go Go.RowKit
abbrev GF (O : Nat → Prop) (w0 : World) (y : List ByteArray) := bo prog gb (Cx.base O w0) (eV prog O w0 lu fun z => z = (y, ()))
theorem lZ : XOk prog gb := wd sq sA
def yz (O : Nat → Prop) (w0 : World) (l : List Lk) (now out y : List ByteArray) (hl : l.length ≤ 64) (hn : now.length ≤ 1000) (ho : out.length ≤ 64)
    (hnext : GF O w0 y [] bW (lp bZ 3) (jT l (l.foldl (stF now) (out, [])).2 (l.foldl (stF now) (out, [])).1)) :=
  PLift.up <| c7 (σ := List ByteArray × List ByteArray) l.length (fun i s => s = (l.take i).foldl (stF now) (out, []) ∧ s.1.length ≤ out.length + i ∧ s.2.length ≤ i)
    (fun i s => GF O w0 y [] bW (lp bZ 6) (nE l now l (lnx ae l) (i : Nat) s.1 s.2))
    (fun i s hi hs ih => aQ lZ (j2 l now l _ _ s.1 s.2) (by
      obtain ⟨h1, h2, h3⟩ := hs
      have e : el ae l (i : Nat) = l[i] := o4 hi
      have hmo : (1000 : Nat) ≤ bT := by decide
      have hst : (l.take (i + 1)).foldl (stF now) (out, []) = stF now s l[i] := by
        rw [List.take_succ_eq_append_getElem hi, List.foldl_append, ← h1]
        rfl
      refine ⟨fun _ => ?_, fun hc => ?_⟩
      · rw [e, dE hi (by omega)]
        refine ⟨fU hi, trivial, a7 ⟨by omega, a7 ⟨fun _ => trivial, fun _ => (show s.1.length ≤ 1000000 by omega), fun hc => ?_, fun hc => ?_⟩⟩⟩
        · have hc : (bL now (aq l[i].1) && !bL s.1 (aq l[i].2.1)) = true := by
            revert hc
            cases bL now (aq l[i].1) <;> intro hc <;> first | exact hc | cases hc
          have hs' : stF now s l[i] = (s.1 ++ [aq l[i].2.1], s.2 ++ [aq l[i].2.1]) := if_pos hc
          have l1 : (s.1 ++ [aq l[i].2.1]).length = s.1.length + 1 := List.length_append
          have l2 : (s.2 ++ [aq l[i].2.1]).length = s.2.length + 1 := List.length_append
          refine ⟨trivial, a7 ⟨show (s.1 ++ [aq l[i].2.1]).length ≤ bT by omega, trivial, a7 ⟨show (s.2 ++ [aq l[i].2.1]).length ≤ bT by omega, ih (s.1 ++ [aq l[i].2.1], s.2 ++ [aq l[i].2.1]) ⟨by rw [hst, hs'], by show (s.1 ++ _).length ≤ _; omega, by show (s.2 ++ _).length ≤ _; omega⟩⟩⟩⟩
        · have hc : ¬ (bL now (aq l[i].1) && !bL s.1 (aq l[i].2.1)) = true := by
            revert hc
            cases bL now (aq l[i].1) <;> cases bL s.1 (aq l[i].2.1) <;> intro hc <;> first | exact absurd hc (by decide) | decide
          have hs' : stF now s l[i] = s := if_neg hc
          exact ih s ⟨by rw [hst, hs'], by omega, by omega⟩
      · rw [eM] at hc
        exact absurd hi (of_decide_eq_false hc)))
    (fun s hs => aQ lZ (j2 l now l _ _ s.1 s.2) (by
      obtain ⟨h1, h2, h3⟩ := hs
      rw [List.take_length] at h1
      subst h1
      refine ⟨fun hc => ?_, fun _ => hnext⟩
      rw [eM] at hc
      exact absurd (of_decide_eq_true hc) (Nat.lt_irrefl _)))
theorem vM (O : Nat → Prop) (w0 : World) (l : List Lk) (k : ByteArray) (hl : l.length ≤ 64) : ∀ (n : Nat) (now out : List ByteArray), pK l k n now out → now.length ≤ 1000 → GF O w0 (jF l n now out) [] bW (lp bZ 3) (jT l now out)
 | n, [], out, h, _ => by
  refine aQ lZ (kw l [] out) ⟨(fun hc => by cases hc), fun _ => ⟨_, rfl, ?_⟩⟩
  cases n <;> rfl
 | 0, x :: now, out, h, _ => by
  exfalso
  have := fM h.nd h.sub
  rcases h.fuel with h | h
  ·cases h
  ·omega
 | n + 1, x :: now, out, h, hn => by
  have ho := fM h.nd h.sub
  have hN := h.next (List.cons_ne_nil x now)
  obtain ⟨d, e, _⟩ := o0 (x :: now) l (out, [])
  have ho' := fM hN.nd hN.sub
  have hn' : (l.foldl (stF (x :: now)) (out, [])).2.length ≤ 1000 := by
   rw [e] at ho' ⊢
   simp only [List.length_append, List.nil_append] at ho' ⊢
   omega
  have ih := vM O w0 l k hl n _ _ hN hn'
  have ef : jF l (n + 1) (x :: now) out = jF l n (l.foldl (stF (x :: now)) (out, [])).2 (l.foldl (stF (x :: now)) (out, [])).1 := if_neg (by simp)
  rw [ef]
  refine aQ lZ (kw l (x :: now) out) ⟨fun _ => ?_, fun hc => ?_⟩
  ·exact (yz O w0 l (x :: now) out _ hl hn (by omega) ih).down 0 (out, []) (Nat.zero_le _) ⟨rfl, by simp, Nat.zero_le _⟩
  ·have hc := of_decide_eq_false hc
   have : (0 : Int) < (((x :: now).length : Nat) : Int) := by rw [List.length_cons]; omega
   exact absurd this hc
theorem oF (l : List Lk) (k : ByteArray) : pK l k (l.length + 1) [k] [] := ⟨List.nodup_nil, (fun t ht => by cases ht), .inr (by simp)⟩
theorem wC : aY prog [] jC jD :=
 dr (S := jD) lZ (fx := bW) vo (by kernel_rfl) (fun h => by cases h) (T := fun x => ru x.1 x.2.1) (fun x => s4 x.1 x.2.1) fun O w0 x _ hp =>
  vM O w0 x.1 x.2.1 hp _ [x.2.1] [] (oF x.1 x.2.1) (show 1 ≤ 1000 by decide)
theorem uw (l : List Lk) : ∀ (n : Nat) (now out : List ByteArray) (k : ByteArray), pK l k n now out → (jF l n now out).length ≤ l.length
 | 0, now, out, k, h => fM h.nd h.sub
 | n + 1, now, out, k, h => by
  rw [jF]
  split
  ·exact fM h.nd h.sub
  ·rename_i hn
   exact uw l n _ _ k (h.next fun e => hn (by rw [e]; rfl))
abbrev GA3 (O : Nat → Prop) (w0 : World) (y : Bool) := bo prog fb (Cx.base O w0) (eV prog O w0 iJ fun z => z = (y, ()))
theorem si : XOk prog fb := sT sq sA wC
def zZ (O : Nat → Prop) (w0 : World) (l : List Lk) (hl : l.length ≤ 64) :=
 PLift.up <| c7 (σ := Unit) l.length (fun i _ => (l.take i).all (fun x => !bL (jI l (aq x.1)) (aq x.1)) = true)
  (fun i _ => GA3 O w0 (fe l) [] dw (lp dk 2) (k9 l l (lnx ae l) (i : Nat)))
  (fun i _ hi hs ih => aQ si (iA l l _ _) (by
   have e : el ae l (i : Nat) = l[i] := o4 hi
   refine ⟨fun _ => ?_, fun hc => ?_⟩
   ·rw [e, dE hi (by omega)]
    have hfl := uw l _ _ _ _ (oF l (aq l[i].1))
    refine ⟨fU hi, trivial, hl, trivial, Nat.le_trans hfl (by omega), a7 <| a7 <| a7 <| a7 ⟨fun hc => ⟨_, rfl, ?_⟩, fun hc => ih () ?_⟩⟩
    ·show (false, ()) = (fe l, ())
     have : fe l = false := by
      unfold fe
      rw [List.all_eq_false]
      exact ⟨l[i], List.getElem_mem hi, by rw [hc]; decide⟩
     rw [this]
    ·rw [List.take_succ_eq_append_getElem hi, List.all_append, hs, Bool.true_and, List.all_cons, hc]
     rfl
   ·rw [eM] at hc
    exact absurd hi (of_decide_eq_false hc)))
  (fun _ hs => aQ si (iA l l _ _) (by
   rw [List.take_length] at hs
   refine ⟨fun hc => ?_, fun _ => ⟨_, rfl, ?_⟩⟩
   ·rw [eM] at hc
    exact absurd (of_decide_eq_true hc) (Nat.lt_irrefl _)
   ·show (true, ()) = (fe l, ())
    unfold fe
    rw [hs]))
theorem s6 : aY prog [] gF gE :=
 dr (S := gE) si (fx := dw) sh (by kernel_rfl) (fun h => by cases h) (T := fun x => nl x.1) (fun x => qi x.1) fun O w0 x _ hp =>
  (zZ O w0 x.1 hp).down 0 () (Nat.zero_le _) rfl
inductive Rch (l : List Lk) : ByteArray → ByteArray → Prop where
 | one (x : Lk) (h : x ∈ l) : Rch l (aq x.1) (aq x.2.1)
 | step (x : Lk) (h : x ∈ l) {b : ByteArray} (r : Rch l (aq x.2.1) b) : Rch l (aq x.1) b
theorem Rch.snoc {l : List Lk} {a b : ByteArray} (h : Rch l a b) (x : Lk) (hx : x ∈ l) (e : aq x.1 = b) : Rch l a (aq x.2.1) := by
 induction h with
 | one y hy => exact .step y hy (e ▸ .one x hx)
 | step y hy _ ih => exact .step y hy (ih e)
theorem Rch.trans {l : List Lk} {a b c : ByteArray} (h : Rch l a b) (k : Rch l b c) : Rch l a c := by
 induction h with
 | one y hy => exact .step y hy k
 | step y hy _ ih => exact .step y hy (ih k)
theorem yi (l : List Lk) (k : ByteArray) : ∀ (n : Nat) (now out : List ByteArray), pK l k n now out → (∀ t ∈ now, t = k ∨ t ∈ out) → (∀ t ∈ out, Rch l k t) →
    (∀ x ∈ l, (aq x.1 = k ∨ aq x.1 ∈ out) → aq x.1 ∈ now ∨ aq x.2.1 ∈ out) → ∀ t, t ∈ jF l n now out ↔ Rch l k t := by
  have fin : ∀ out : List ByteArray, (∀ t ∈ out, Rch l k t) → (∀ x ∈ l, (aq x.1 = k ∨ aq x.1 ∈ out) → aq x.1 ∈ ([] : List ByteArray) ∨ aq x.2.1 ∈ out) → ∀ t, t ∈ out ↔ Rch l k t := by
    intro out h1 h2 t
    refine ⟨h1 t, fun h => ?_⟩
    have key : ∀ a b, Rch l a b → (a = k ∨ a ∈ out) → b ∈ out := fun a b h => by
      induction h with
      | one x hx => exact fun h => (h2 x hx h).resolve_left List.not_mem_nil
      | step x hx _ ih => exact fun h => ih (.inr ((h2 x hx h).resolve_left List.not_mem_nil))
    exact key k t h (.inl rfl)
  intro n
  induction n with
  | zero =>
    intro now out hI h1 h2 h3
    rcases hI.fuel with rfl | h
    · exact fin out h2 h3
    · have := fM hI.nd hI.sub
      omega
  | succ n ih =>
    intro now out hI h1 h2 h3
    rw [jF]
    split
    · rename_i hn
      have : now = [] := List.eq_nil_of_length_eq_zero hn
      subst this
      exact fin out h2 h3
    · rename_i hn
      have hne : now ≠ [] := fun e => hn (by rw [e]; rfl)
      have hN := hI.next hne
      obtain ⟨d, e, g1, g2, g3⟩ := o0 now l (out, [])
      rw [e] at hN ⊢
      refine ih _ _ hN (fun t ht => .inr (List.mem_append.2 (.inr (by simpa using ht)))) (fun t ht => ?_) (fun x hx hk => ?_)
      · rcases List.mem_append.1 ht with ht | ht
        · exact h2 t ht
        · obtain ⟨x, hx, hxn, e⟩ := g2 t ht
          rcases h1 _ hxn with h | h
          · rw [← e, ← h]
            exact .one x hx
          · rw [← e]
            exact (h2 _ h).snoc x hx rfl
      · have hk : (aq x.1 = k ∨ aq x.1 ∈ out) ∨ aq x.1 ∈ d := hk.elim (fun h => .inl (.inl h)) fun h => (List.mem_append.1 h).elim (fun h => .inl (.inr h)) .inr
        rcases hk with hk | hk
        · rcases h3 x hx hk with h | h
          · exact .inr (g1 x hx h)
          · exact .inr (List.mem_append.2 (.inl h))
        · exact .inl (by simpa using hk)
theorem yW (l : List Lk) : fe l = true ↔ ∀ x ∈ l, ¬ Rch l (aq x.1) (aq x.1) := by
 unfold fe
 rw [List.all_eq_true]
 refine ⟨fun h x hx hr => ?_, fun h x hx => ?_⟩ <;>
  have hs := yi l (aq x.1) (l.length + 1) [aq x.1] [] (oF l _) (fun t ht => .inl (List.mem_singleton.1 ht)) (fun t ht => by cases ht) (fun y hy hk => .inl (List.mem_singleton.2 (hk.resolve_right List.not_mem_nil)))
 ·have := h x hx
  rw [Bool.not_eq_true', kd] at this
  exact this ((hs _).2 hr)
 ·rw [Bool.not_eq_true', kd]
  exact fun hm => h x hx ((hs _).1 hm)
theorem xl {xs : List Int} (h : ∀ x ∈ xs, 0 ≤ x ∧ x ≤ 255) : a8 (aO xs) = xs := by
 show ((xs.map fun n => UInt8.ofNat n.toNat).toArray.toList.map fun b => (b.toNat : Int)) = xs
 rw [List.map_map]
 refine (List.map_congr_left fun x hx => ?_).trans (List.map_id xs)
 obtain ⟨h0, h1⟩ := h x hx
 show (((UInt8.ofNat x.toNat).toNat : Nat) : Int) = x
 rw [UInt8.toNat_ofNat']
 omega
theorem sy {α : Type} {p q : α → Bool} : ∀ {l : List α}, (∀ x ∈ l, p x = true → q x = true) → (∃ x ∈ l, q x = true ∧ p x = false) → l.countP p < l.countP q
 | [], _, ⟨x, hx, _⟩ => by cases hx
 | y :: l, h, ⟨x, hx, hq, hp⟩ => by
  have hle : l.countP p ≤ l.countP q := List.countP_mono_left fun z hz => h z (List.mem_cons_of_mem _ hz)
  rw [List.countP_cons, List.countP_cons]
  rcases List.mem_cons.1 hx with rfl | hx
  ·rw [hq, hp]
   simp
   omega
  ·have := sy (fun z hz => h z (List.mem_cons_of_mem _ hz)) ⟨x, hx, hq, hp⟩
   have h0 := h y List.mem_cons_self
   cases hpy : p y with
   | false => simp; omega
   | true => rw [h0 hpy]; simp; omega
open Classical in
theorem wH {l : List Lk} (hb : ∀ x ∈ l, (∀ y ∈ x.1, 0 ≤ y ∧ y ≤ 255) ∧ (∀ y ∈ x.2.1, 0 ≤ y ∧ y ≤ 255)) : xD l ↔ ∀ x ∈ l, ¬ Rch l (aq x.1) (aq x.1) := by
 have hk : ∀ a : List Int, (∀ y ∈ a, 0 ≤ y ∧ y ≤ 255) → a8 (aq a) = aH a := fun a ha => xl (xs := List.take 16 a) fun y hy => ha y (List.mem_of_mem_take hy)
 constructor
 ·rintro ⟨rk, hr⟩
  have key : ∀ a b, Rch l a b → rk (a8 b) < rk (a8 a) := fun a b h => by
   induction h with
   | one x hx => rw [hk _ (hb x hx).1, hk _ (hb x hx).2]; exact hr x hx
   | step x hx _ ih =>
    rw [hk _ (hb x hx).2] at ih
    rw [hk _ (hb x hx).1]
    exact Nat.lt_trans ih (hr x hx)
  exact fun x hx h => Nat.lt_irrefl _ (key _ _ h)
 ·intro h
  refine ⟨fun k => l.countP fun x => decide (aO k = aq x.1 ∨ Rch l (aO k) (aq x.1)), fun x hx => ?_⟩
  show (l.countP fun y => decide (aq x.2.1 = aq y.1 ∨ Rch l (aq x.2.1) (aq y.1))) < l.countP fun y => decide (aq x.1 = aq y.1 ∨ Rch l (aq x.1) (aq y.1))
  refine sy (fun y hy hp => decide_eq_true (.inr ?_)) ⟨x, hx, decide_eq_true (.inl rfl), decide_eq_false fun hp => ?_⟩
  ·rcases of_decide_eq_true hp with e | hr
   ·exact e ▸ .one x hx
   ·exact .step x hx hr
  ·rcases hp with e | hr
   ·exact h x hx (e ▸ Rch.one x hx : Rch l (aq x.1) (aq x.1))
   ·exact h x hx (.step x hx hr)
theorem yR {l : List Lk} (hb : ∀ x ∈ l, (∀ y ∈ x.1, 0 ≤ y ∧ y ≤ 255) ∧ (∀ y ∈ x.2.1, 0 ≤ y ∧ y ≤ 255)) : g9 (l.length + 1) l = fe l := by
 rw [Bool.eq_iff_iff, zd, yW]
 exact wH hb
theorem xn {x : den tId} (h : okT tId x) : ∀ y ∈ x, 0 ≤ y ∧ y ≤ 255 := fun y hy => by
 have : InK .u8 y := h.2 y hy
 have h1 : IntKind.min .u8 = 0 := by decide
 have h2 : IntKind.max .u8 = 255 := by decide
 unfold InK at this
 rw [h1, h2] at this
 exact this
theorem qz : aY prog gl kH (zb cY) :=
 dr (S := zb cY) (rD (bC k4) (bC s6) vc) (fx := jS) pG (by kernel_rfl) (fun _ _ => trivial) (T := fun x => fD x.1) (fun x => og x.1) fun O w0 x hk _ => by
  obtain ⟨l0, ⟨⟩⟩ := x
  have hb : ∀ x ∈ l0.take 66, (∀ y ∈ x.1, 0 ≤ y ∧ y ≤ 255) ∧ (∀ y ∈ x.2.1, 0 ≤ y ∧ y ≤ 255) := fun x hx => ⟨xn (hk.1.2 x (List.mem_of_mem_take hx)).1, xn (hk.1.2 x (List.mem_of_mem_take hx)).2.1⟩
  show aJ _ _ _ _ _ (fD l0)
  unfold fD
  refine ⟨(zr l0 66).2, ?_⟩
  have hc : bv ae l0 0 (gg (lnx ae l0) 66) = l0.take 66 := zS l0 66
  rw [hc]
  have hl : (l0.take 66).length ≤ 66 := by rw [List.length_take]; omega
  generalize l0.take 66 = l at hl hb
  refine ⟨by omega, a7 ⟨fun h => ?_, fun h => ?_⟩⟩
  ·have h : (64 : Int) < ((l.length : Nat) : Int) := of_decide_eq_true h
   have e : bA l = (false, 2) := by unfold bA; rw [if_pos (by omega)]
   rw [e]
   exact ⟨trivial, a7 ⟨_, rfl, rfl⟩⟩
  ·have h : ¬ (64 : Int) < ((l.length : Nat) : Int) := of_decide_eq_false h
   rw [wa (by omega), yR hb]
   refine ⟨trivial, a7 ⟨fun _ => (show l.length ≤ 64 by omega), _, rfl, ?_⟩⟩
   refine Prod.ext ?_ rfl
   cases fe l <;> rfl
end Go.Proofs.YtnakjijahkaoaaaDoor
