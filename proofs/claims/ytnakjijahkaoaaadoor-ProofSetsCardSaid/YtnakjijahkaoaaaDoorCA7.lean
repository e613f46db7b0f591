/- Part 7 of 8 of what this claim's proof stands on: a theory of programs on data, and the contracts of the functions that the law reaches. It holds no condition of its own. -/
import Derived.Test.YtnakjijahkaoaaaDoorCA6
import Derived.Test.YtnakjijahkaoaaaDoorProg
import Derived.Test.YtnakjijahkaoaaaDoorRows
import Derived.Shelf.Strings.Builder1
import Derived.Shelf.Strings.Builder2
import Derived.Shelf.Strings.OnBuilder
import Derived.Shelf.Strings.BuilderF
import Derived.Shelf.Strings.BuilderK
import Derived.Shelf.Strings.Builder2Cap
import Derived.Shelf.Strings.Prefix
import Derived.Shelf.Bits.Mul64
import Derived.Shelf.Strings.Repeat
import Derived.Shelf.Strings.BuilderCap
import Derived.LaidMore
import Derived.Lay
namespace Go.Proofs.YtnakjijahkaoaaaDoor
open Go
noncomputable section
noncomputable abbrev prog : Program := Tryd.prog
abbrev tId : Ty := (.arr 32 (.int .u8))
abbrev ak : Ty := (.arr 16 (.int .u8))
abbrev af : Ty := (.arr 8 (.int .u32))
abbrev ag : Ty := (.st (.pair (.mp ak .bool) .unit))
abbrev ab : Ty := (.st (.pair tId (.pair tId .unit)))
abbrev dK : Ty := (.st (.pair (.int .i64) (.pair tId (.pair (.int .i64) .unit))))
abbrev iw : Ty := (.st (.pair .bool (.pair .bool (.pair .bool (.pair .bool (.pair .bool (.pair .bool .unit)))))))
abbrev lN : Ty := (.st (.pair tId (.pair dK (.pair (.int .i64) .unit))))
abbrev ef : Ty := (.st (.pair (.int .i64) (.pair tId (.pair dK (.pair (.slc dK) (.pair (.int .i64) (.pair .str (.pair .str .unit))))))))
abbrev gt : Ty := (.st (.pair (.int .i64) (.pair ef .unit)))
def cZ : List (Nat × Ty) := [
 (1, (.fn .unit .unit)),
 (2, (.int .i64)),
 (3, (.int .i64)),
 (4, .bool),
 (5, (.int .u8)),
 (9, .str),
 (12, (.int .u64)),
 (21, (.int .i32)),
 (22, tId),
 (23, tId),
 (24, (.int .i64)),
 (26, (.fn (.pair .str (.pair tId (.pair (.int .i64) .unit))) (.pair .str (.pair (.int .i64) .unit)))),
 (27, (.fn (.pair tId .unit) (.pair tId .unit))),
 (28, (.fn (.pair .str (.pair tId .unit)) (.pair tId .unit))),
 (29, (.fn (.pair tId (.pair tId .unit)) (.pair .bool .unit))),
 (30, (.fn .unit (.pair .bool .unit))),
 (31, (.fn (.pair .str (.pair tId (.pair (.int .i64) .unit))) (.pair .str .unit))),
 (32, (.fn (.pair tId (.pair tId (.pair .str (.pair (.int .i64) .unit)))) (.pair .bool .unit))),
 (33, (.slc ab)),
 (35, (.fn (.pair (.slc ab) .unit) (.pair .bool (.pair (.int .i64) .unit)))),
 (36, (.fn (.pair (.slc ab) .unit) (.pair .bool .unit))),
 (37, ab),
 (38, ab),
 (39, (.fn (.pair tId (.pair tId (.pair tId (.pair (.slc ab) .unit)))) (.pair .bool .unit))),
 (40, (.fn (.pair (.slc ab) (.pair (.int .i64) .unit)) (.pair .bool .unit))),
 (41, dK),
 (42, dK),
 (43, (.slc dK)),
 (44, ef),
 (45, ef),
 (46, (.fn (.pair ef .unit) (.pair ef .unit))),
 (48, (.fn (.pair .str (.pair ef .unit)) (.pair (.int .i64) (.pair ef (.pair (.int .i64) .unit))))),
 (49, (.fn (.pair .str (.pair ef (.pair ef .unit))) (.pair .bool .unit))),
 (50, (.fn (.pair .str (.pair .str (.pair tId (.pair tId (.pair (.int .i64) .unit))))) (.pair .bool .unit))),
 (51, lN),
 (52, lN),
 (54, (.fn (.pair ef (.pair (.int .i64) .unit)) (.pair lN (.pair (.int .i64) .unit)))),
 (55, (.fn (.pair ef .unit) (.pair .bool .unit))),
 (56, (.fn (.pair ef (.pair (.int .i64) .unit)) (.pair lN .unit))),
 (57, (.fn (.pair ef (.pair ef .unit)) (.pair .bool .unit))),
 (58, gt),
 (59, gt),
 (60, (.fn (.pair .str (.pair ef .unit)) (.pair gt .unit))),
 (61, (.fn (.pair .str (.pair ef (.pair (.int .i64) .unit))) (.pair .bool .unit))),
 (62, (.fn (.pair .str (.pair .str (.pair tId (.pair (.int .i64) (.pair (.int .i64) (.pair (.int .i64) .unit)))))) (.pair .bool .unit))),
 (63, (.fn (.pair (.slc .str) .unit) (.pair tId .unit))),
 (64, (.slc (.int .u8))),
 (65, (.fn (.pair .str .unit) (.pair tId .unit))),
 (66, (.fn (.pair tId .unit) (.pair .str .unit))),
 (67, ak),
 (68, ak),
 (69, (.fn (.pair tId .unit) (.pair ak .unit))),
 (70, (.fn (.pair (.slc ab) .unit) (.pair (.slc ab) .unit))),
 (71, (.mp ak .bool)),
 (72, ag),
 (73, ag),
 (74, (.fn (.pair ak .unit) .unit)),
 (75, (.fn (.pair (.slc ab) (.pair (.fn (.pair ab .unit) (.pair .bool .unit)) .unit)) (.pair (.slc ab) .unit))),
 (76, (.fn (.pair ak .unit) (.pair .bool .unit))),
 (77, (.fn (.pair ab .unit) (.pair .bool .unit))),
 (78, (.fn (.pair (.slc .str) (.pair .str .unit)) (.pair .bool .unit))),
 (79, (.slc .str)),
 (80, (.fn (.pair (.slc ab) (.pair .str .unit)) (.pair (.slc .str) .unit))),
 (81, (.fn (.pair ef (.pair .str .unit)) (.pair (.int .i64) .unit))),
 (83, (.mp (.int .i64) (.fn (.pair ef (.pair .str .unit)) (.pair (.int .i64) .unit)))),
 (84, (.fn .unit (.pair (.mp (.int .i64) (.fn (.pair ef (.pair .str .unit)) (.pair (.int .i64) .unit))) .unit))),
 (85, (.fn (.pair (.slc dK) (.pair (.slc dK) .unit)) (.pair .bool .unit))),
 (86, (.int .u32)),
 (87, af),
 (88, af),
 (89, (.fn .unit (.pair af .unit))),
 (90, (.fn (.pair (.fn (.pair .str .unit) (.pair .bool .unit)) .unit) .unit)),
 (91, (.fn (.pair (.fn (.pair .str .unit) (.pair .bool .unit)) .unit) .unit)),
 (92, (.fn (.pair .str .unit) (.pair (.fn (.pair (.fn (.pair .str .unit) (.pair .bool .unit)) .unit) .unit) .unit))),
 (93, (.fn (.pair (.slc .str) (.pair .str .unit)) (.pair .str .unit))),
 (94, (.fn (.pair .str .unit) (.pair af .unit))),
 (95, (.slc (.int .u32))),
 (96, (.fn .unit (.pair (.slc (.int .u32)) .unit))),
 (97, (.fn (.pair .str .unit) (.pair .str .unit))),
 (98, (.fn (.pair (.slc (.int .u32)) (.pair .str .unit)) (.pair (.slc (.int .u32)) .unit))),
 (100, (.fn (.pair (.slc ab) (.pair (.fn (.pair ab .unit) (.pair .bool .unit)) .unit)) (.pair (.int .i64) .unit))),
 (101, (.fn (.pair (.int .i64) .unit) (.pair (.fn (.pair ef (.pair .str .unit)) (.pair (.int .i64) .unit)) .unit))),
 (102, iw),
 (103, iw),
 (105, (.mp (.int .i64) iw)),
 (106, (.fn .unit (.pair (.mp (.int .i64) iw) .unit))),
 (107, (.fn (.pair dK .unit) (.pair .bool .unit))),
 (108, (.fn (.pair (.slc dK) .unit) (.pair .bool .unit))),
 (109, (.fn (.pair (.int .i64) (.pair (.int .u8) .unit)) (.pair .bool .unit))),
 (110, (.int .u64)),
 (111, (.int .u64)),
 (112, (.fn (.pair .str (.pair (.int .i64) .unit)) (.pair .str .unit))),
 (113, (.fn (.pair .str .unit) (.pair .bool .unit))),
 (117, (.fn (.pair (.int .i64) .unit) .unit)),
 (122, (.fn .unit (.pair .str .unit))),
 (123, (.arr 64 (.int .u32))),
 (124, (.fn (.pair .str .unit) (.pair (.int .u32) .unit))),
 (125, (.fn (.pair (.int .u32) (.pair (.int .i64) (.pair (.int .i64) (.pair (.int .u32) .unit)))) (.pair (.int .u32) .unit))),
 (126, (.fn (.pair (.int .u32) (.pair (.int .i64) .unit)) (.pair (.int .u32) .unit))),
 (127, (.fn (.pair (.slc (.int .u32)) (.pair (.int .u32) (.pair (.int .u32) .unit))) (.pair (.slc (.int .u32)) .unit))),
 (129, (.fn (.pair (.int .u64) (.pair (.int .u64) .unit)) (.pair (.int .u64) (.pair (.int .u64) .unit)))),
 (130, (.fn (.pair .str (.pair .str .unit)) (.pair .bool .unit))),
 (131, (.fn .unit (.pair (.int .i64) .unit))),
 (133, (.fn (.pair (.slc dK) (.pair (.fn (.pair dK .unit) (.pair .bool .unit)) .unit)) (.pair .bool .unit))),
 (135, (.fn (.pair (.int .u32) (.pair (.int .u32) .unit)) (.pair (.int .u32) (.pair (.int .u32) .unit)))),
 (137, (.fn (.pair (.int .u64) (.pair (.int .u64) .unit)) (.pair (.int .u64) (.pair (.int .u64) .unit)))),
 (140, (.fn (.pair (.int .i64) .unit) (.pair (.slc (.int .u8)) .unit))),
 (141, (.fn (.pair (.slc dK) (.pair (.fn (.pair dK .unit) (.pair .bool .unit)) .unit)) (.pair (.int .i64) .unit)))]
theorem cG : pt prog cZ = true := by kernel_rfl
theorem bV : prog.follows .mixedOrders = true := by kernel_rfl
abbrev kr : Nat := 6
noncomputable abbrev gW : Func := Tryd.f6
abbrev cV : Ty := (.pair (.slc ab) (.pair (.int .i64) .unit))
abbrev px : Ty := (.pair .bool .unit)
theorem oO : Tryd.prog.funcs[kr]? = some gW := Tryd.func6
abbrev gc : Nat := 11
noncomputable abbrev iU : Func := Tryd.f11
abbrev lf : Ty := (.pair .str (.pair tId (.pair (.int .i64) .unit)))
abbrev le : Ty := (.pair .str (.pair (.int .i64) .unit))
theorem qZ : Tryd.prog.funcs[gc]? = some iU := Tryd.func11
abbrev eE : Nat := 12
noncomputable abbrev jt : Func := Tryd.f12
abbrev mh : Ty := (.pair tId .unit)
abbrev mv : Ty := (.pair tId .unit)
theorem rP : Tryd.prog.funcs[eE]? = some jt := Tryd.func12
abbrev gp : Nat := 14
noncomputable abbrev iS : Func := Tryd.f14
abbrev kY : Ty := (.pair tId .unit)
abbrev lg : Ty := (.pair tId .unit)
theorem rf : Tryd.prog.funcs[gp]? = some iS := Tryd.func14
abbrev gn : Nat := 15
noncomputable abbrev iQ : Func := Tryd.f15
abbrev lu : Ty := (.pair tId (.pair tId .unit))
abbrev kV : Ty := (.pair .bool .unit)
theorem rj : Tryd.prog.funcs[gn]? = some iQ := Tryd.func15
abbrev iv : Nat := 17
noncomputable abbrev kK : Func := Tryd.f17
abbrev nx : Ty := .unit
abbrev nO : Ty := (.pair .bool .unit)
theorem sA : Tryd.prog.funcs[iv]? = some kK := Tryd.func17
abbrev c7 : Nat := 19
noncomputable abbrev an : Func := Tryd.f19
abbrev jJ : Ty := (.pair (.slc ab) .unit)
abbrev dw : Ty := (.pair .bool (.pair (.int .i64) .unit))
theorem o6 : Tryd.prog.funcs[c7]? = some an := Tryd.func19
abbrev ep : Nat := 29
noncomputable abbrev aL : Func := Tryd.f29
abbrev mF : Ty := (.pair (.slc .str) .unit)
abbrev e9 : Ty := (.pair tId .unit)
theorem rO : Tryd.prog.funcs[ep]? = some aL := Tryd.func29
abbrev eH : Nat := 30
noncomputable abbrev jG : Func := Tryd.f30
abbrev mD : Ty := (.pair .str (.pair tId .unit))
abbrev mz : Ty := (.pair tId .unit)
theorem rG : Tryd.prog.funcs[eH]? = some jG := Tryd.func30
abbrev dH : Nat := 33
noncomputable abbrev iR : Func := Tryd.f33
abbrev lx : Ty := (.pair tId .unit)
abbrev lj : Ty := (.pair ak .unit)
theorem rl : Tryd.prog.funcs[dH]? = some iR := Tryd.func33
abbrev dD : Nat := 34
noncomputable abbrev fg : Func := Tryd.f34
theorem ly : Tryd.prog.funcs[dD]? = some fg := Tryd.func34
abbrev ij : Nat := 35
noncomputable abbrev ie : Func := Tryd.f35
theorem mb : Tryd.prog.funcs[ij]? = some ie := Tryd.func35
abbrev fC : Nat := 36
noncomputable abbrev az : Func := Tryd.f36
theorem jc : Tryd.prog.funcs[fC]? = some az := Tryd.func36
abbrev aD : Nat := 37
noncomputable abbrev i4 : Func := Tryd.f37
theorem nS : Tryd.prog.funcs[aD]? = some i4 := Tryd.func37
abbrev ik : Nat := 38
noncomputable abbrev hY : Func := Tryd.f38
theorem lJ : Tryd.prog.funcs[ik]? = some hY := Tryd.func38
abbrev fu : Nat := 45
noncomputable abbrev gZ : Func := Tryd.f45
abbrev jQ : Ty := .unit
abbrev ju : Ty := (.pair af .unit)
theorem o7 : Tryd.prog.funcs[fu]? = some gZ := Tryd.func45
abbrev ko : Nat := 46
noncomputable abbrev da : Func := Tryd.f46
theorem pd : Tryd.prog.funcs[ko]? = some da := Tryd.func46
abbrev fP : Nat := 47
noncomputable abbrev qL : Func := Tryd.f47
abbrev pF : Ty := (.pair (.slc .str) (.pair .str .unit))
abbrev qr : Ty := (.pair .str .unit)
theorem qk : Tryd.prog.funcs[fP]? = some qL := Tryd.func47
abbrev dE : Nat := 48
noncomputable abbrev aR : Func := Tryd.f48
abbrev gH : Ty := (.pair af (.pair .str .unit))
abbrev dh : Ty := (.pair af .unit)
theorem me : Tryd.prog.funcs[dE]? = some aR := Tryd.func48
abbrev fV : Nat := 52
noncomputable abbrev aX : Func := Tryd.f52
theorem jv : Tryd.prog.funcs[fV]? = some aX := Tryd.func52
abbrev eQ : Nat := 62
noncomputable abbrev pw : Func := Tryd.f62
abbrev oo : Ty := (.pair .str (.pair (.int .i64) .unit))
abbrev om : Ty := (.pair .str .unit)
theorem ol : Tryd.prog.funcs[eQ]? = some pw := Tryd.func62
abbrev i5 : Nat := 63
noncomputable abbrev cK : Func := Tryd.f63
theorem mW : Tryd.prog.funcs[i5]? = some cK := Tryd.func63
abbrev fq : Nat := 67
noncomputable abbrev cH : Func := Tryd.f67
abbrev jr : Ty := (.pair .str .unit)
abbrev gw : Ty := (.pair (.int .u32) .unit)
theorem oR : Tryd.prog.funcs[fq]? = some cH := Tryd.func67
abbrev gR : Nat := 68
noncomputable abbrev jI : Func := Tryd.f68
abbrev mG : Ty := (.pair (.int .u32) (.pair (.int .i64) (.pair (.int .i64) (.pair (.int .u32) .unit))))
abbrev my : Ty := (.pair (.int .u32) .unit)
theorem rV : Tryd.prog.funcs[gR]? = some jI := Tryd.func68
abbrev cf : Nat := 69
noncomputable abbrev fj : Func := Tryd.f69
abbrev gV : Ty := (.pair (.int .u32) (.pair (.int .i64) .unit))
abbrev gM : Ty := (.pair (.int .u32) .unit)
theorem lB : Tryd.prog.funcs[cf]? = some fj := Tryd.func69
end
end Go.Proofs.YtnakjijahkaoaaaDoor
namespace Go.Proofs.YtnakjijahkaoaaaDoor
open Go Go.RowKit
theorem eI {σ : Type} (n : Nat) (Inv : Nat → σ → Prop) (Q : Nat → σ → Prop) (step : ∀ i s, i < n → Inv i s → (∀ s', Inv (i + 1) s' → Q (i + 1) s') → Q i s) (last : ∀ s, Inv n s → Q n s) : ∀ (i : Nat) (s : σ), i ≤ n → Inv i s → Q i s := by
 intro i s hi
 obtain ⟨k, hk⟩ : ∃ k, k + i = n := ⟨n - i, by omega⟩
 induction k generalizing i s with
 | zero =>
  have e : i = n := by omega
  subst e
  exact last s
 | succ k ih =>
  intro hI
  exact step i s (by omega) hI fun s' h' => ih (i + 1) s' (by omega) (by omega) h'
theorem kX {e : Ty} (t : List (den e)) {i : Nat} : (decide ((i : Int) < lnx e t)) = decide (i < t.length) := by
 rw [Bool.eq_iff_iff, decide_eq_true_eq, decide_eq_true_eq]
 exact ⟨fun h => by have h : (i : Int) < (t.length : Int) := h; omega, fun h => by show (i : Int) < (t.length : Int); omega⟩
theorem gB {n : Int} (h : -1000000000000000 ≤ n ∧ n ≤ 1000000000000000) : IntKind.wrap .i64 n = n := sh (by omega) (by omega)
theorem yq (n : Nat) : vok 0 n n := by unfold vok; omega
theorem wz {e : Ty} (xs : List (den e)) {n : Nat} (h : n = xs.length) : r9 e xs 0 n = xs := by
 unfold r9; rw [h, List.drop_zero, List.take_length]
theorem bj {P : ae → Prop} {A : Type} {e : A} {f : A → ae} (h : P (f e)) : ∀ q, q = e → P (f q) := fun q hq => by cases hq; exact h
theorem xU {e : Ty} (l : List (den e)) (n : Nat) : aj e l 0 (aC (lnx e l) (n : Int)) = l.take n ∧ a7 0 (aC (lnx e l) (n : Int)) (lnx e l) := by
 have h : lnx e l = (l.length : Int) := rfl
 unfold aj dr aC a7
 rw [h]
 have h0 : Int.toNat 0 = 0 := rfl
 rw [h0, List.drop_zero]
 split
 ·rw [Int.toNat_natCast]
  exact ⟨rfl, by omega, by omega, by omega⟩
 ·rw [Int.toNat_natCast, List.take_length, List.take_of_length_le (by omega)]
  exact ⟨rfl, by omega, by omega, by omega⟩
def s6 (n : Nat) (k : Int) : Nat := ((k.tmod n + n).tmod n).toNat
theorem vW {n : Nat} (h : 0 < n) (hn : n ≤ 1000000) (k : Int) : IntKind.wrap .i64 (k.tmod n + n) = k.tmod n + n ∧ (k.tmod n + n).tmod n = (s6 n k : Nat) ∧ s6 n k < n := by
 have h1 : k.tmod n < n := Int.tmod_lt_of_pos k (by omega)
 have h2 : -(n : Int) < k.tmod n := Int.lt_tmod_of_pos k (by omega)
 have h3 : 0 ≤ (k.tmod n + n).tmod n := Int.tmod_nonneg _ (by omega)
 have h4 : (k.tmod n + n).tmod n < n := Int.tmod_lt_of_pos _ (by omega)
 refine ⟨sh (by omega) (by omega), by unfold s6; omega, by unfold s6; omega⟩
end Go.Proofs.YtnakjijahkaoaaaDoor
namespace Go.Proofs.YtnakjijahkaoaaaDoor
open Go Go.RowKit
noncomputable abbrev gT : Fx := { fn := fj, ann := { } }
noncomputable abbrev ii : br := { D := { T := cZ, F := [], R := [], ovl := [] }, inl := [] }
noncomputable abbrev mM : cY := .data gM
theorem mL : XOk prog ii := xok ((cM cG bV)) (by kernel_rfl) bW cO cN
noncomputable def ic (x : den (Ty.int IntKind.u32)) (k : den ah) : ae := ae.req (ge0 (IntKind.wrap IntKind.u64 (↑(BitVec.toNat (BitVec.ofInt (IntKind.bits IntKind.u64) (IntKind.wrap IntKind.u64 k) &&& BitVec.ofInt (IntKind.bits IntKind.u64) 31)) : Int))) (ae.req (ge0 (IntKind.wrap IntKind.u64 (32 - IntKind.wrap IntKind.u64 (↑(BitVec.toNat (BitVec.ofInt (IntKind.bits IntKind.u64) (IntKind.wrap IntKind.u64 k) &&& BitVec.ofInt (IntKind.bits IntKind.u64) 31)) : Int)))) (ae.ret (K.val (Ty.pair (Ty.int IntKind.u32) Ty.unit) (IntKind.wrap IntKind.u32 (↑(BitVec.toNat (BitVec.ofInt (IntKind.bits IntKind.u32) (IntKind.wrap IntKind.u32 (x * 2 ^ min (Int.toNat (IntKind.wrap IntKind.u64 (↑(BitVec.toNat (BitVec.ofInt (IntKind.bits IntKind.u64) (IntKind.wrap IntKind.u64 k) &&& BitVec.ofInt (IntKind.bits IntKind.u64) 31)) : Int))) (IntKind.bits IntKind.u32))) ||| BitVec.ofInt (IntKind.bits IntKind.u32) (Int.fdiv x (2 ^ min (Int.toNat (IntKind.wrap IntKind.u64 (32 - IntKind.wrap IntKind.u64 (↑(BitVec.toNat (BitVec.ofInt (IntKind.bits IntKind.u64) (IntKind.wrap IntKind.u64 k) &&& BitVec.ofInt (IntKind.bits IntKind.u64) 31)) : Int)))) (IntKind.bits IntKind.u32))))) : Int), PUnit.unit))))
theorem kG (x : den (Ty.int IntKind.u32)) (k : den ah) : aH ii mM 5000 [] gT (a8 fj) (Env.of (bf gV (x, k, ()) 0) []) = ic x k := by kernel_rfl
noncomputable abbrev jL : Fx := { fn := gZ, ann := { } }
noncomputable abbrev j7 : br := { D := { T := cZ, F := [], R := [], ovl := [] }, inl := [] }
noncomputable abbrev qa : cY := .data ju
theorem pT : XOk prog j7 := xok ((cM cG bV)) (by kernel_rfl) bW cO cN
noncomputable def j4 : ae := ae.ret (K.val (Ty.pair af Ty.unit) (List.set (List.set (List.set (List.set (List.set (List.set (List.set (List.set (List.replicate 8 (zero (Ty.int IntKind.u32))) 0 1779033703) 1 3144134277) 2 1013904242) 3 2773480762) 4 1359893119) 5 2600822924) 6 528734635) 7 1541459225, PUnit.unit))
theorem nU : aH j7 qa 5000 [] jL (a8 gZ) (Env.of (bf jQ () 0) []) = j4 := by kernel_rfl
end Go.Proofs.YtnakjijahkaoaaaDoor
namespace Go.Proofs.YtnakjijahkaoaaaDoor
open Go Go.RowKit
theorem bF {Gl : fM} {f : FuncId} {S : cQ} (h : bh prog [] f S) : bh prog Gl f S := ⟨h.can, h.all, fun O w vs x hO _ hx hp => h.does O w vs x hO (fun _ _ _ h => by cases h) hx hp⟩
def yu : DataW Unit → List Int
 | .agg l => l.map fun | .lit (.int _ n) => n | _ => 0
 | _ => []
def gI : List Int := yu Rows.laid_posthouse_digest_keys
noncomputable abbrev gl : fM := [(0, ⟨.arr 64 (.int .u32), gI⟩)]
def vS (k : Int) : Int := IntKind.wrap .u64 ((BitVec.toNat (BitVec.ofInt (IntKind.bits .u64) (IntKind.wrap .u64 k) &&& BitVec.ofInt (IntKind.bits .u64) 31) : Nat) : Int)
def cD (x k : Int) : Int :=
 IntKind.wrap .u32 ((BitVec.toNat (BitVec.ofInt (IntKind.bits .u32) (IntKind.wrap .u32 (x * 2 ^ min (Int.toNat (vS k)) (IntKind.bits .u32))) |||
  BitVec.ofInt (IntKind.bits .u32) (Int.fdiv x (2 ^ min (Int.toNat (IntKind.wrap .u64 (32 - vS k))) (IntKind.bits .u32)))) : Nat) : Int)
theorem sS (n : Int) : 0 ≤ IntKind.wrap .u64 n := by
 have : IntKind.wrap .u64 n = n % 18446744073709551616 := rfl
 rw [this]
 exact Int.emod_nonneg _ (by decide)
noncomputable abbrev cj : cQ := ⟨gV, gM, fun x => (cD x.1 x.2.1, ()), fun _ => True, true⟩
theorem ci : bh prog [] cf cj :=
 eS (S := cj) mL (fx := gT) lB (by kernel_rfl) (fun _ _ => trivial) (T := fun x => ic x.1 x.2.1) (fun x => kG x.1 x.2.1) fun O w0 x _ _ =>
  ⟨sS _, sS _, _, rfl, rfl⟩
def io : List Int := [1779033703, 3144134277, 1013904242, 2773480762, 1359893119, 2600822924, 528734635, 1541459225]
noncomputable abbrev ft : cQ := ⟨jQ, ju, fun _ => (io, ()), fun _ => True, true⟩
theorem pJ : bh prog [] fu ft :=
 eS (S := ft) pT (fx := jL) o7 (by kernel_rfl) (fun _ _ => trivial) (T := fun _ => j4) (fun _ => nU) fun O w0 x _ _ => ⟨_, rfl, rfl⟩
end Go.Proofs.YtnakjijahkaoaaaDoor
namespace Go.Proofs.YtnakjijahkaoaaaDoor
open Go Go.RowKit
noncomputable abbrev mq : Fx := { fn := jI, ann := { } }
noncomputable abbrev nF : br := { D := { T := cZ, F := [(cf, cj)], R := [], ovl := [] }, inl := [] }
noncomputable abbrev sQ : cY := .data my
theorem sv (h_bits_RotateLeft32 : bh prog [] cf cj) : XOk prog nF := xok (bw (cM cG bV) h_bits_RotateLeft32) (by kernel_rfl) bW cO cN
noncomputable def nN (x : den (Ty.int IntKind.u32)) (a : den ah) (b : den ah) (c : den (Ty.int IntKind.u32)) : ae := ae.req True (ae.req True (ae.ret (K.val (Ty.pair (Ty.int IntKind.u32) Ty.unit) (IntKind.wrap IntKind.u32 (↑(BitVec.toNat (BitVec.ofInt (IntKind.bits IntKind.u32) (IntKind.wrap IntKind.u32 (↑(BitVec.toNat (BitVec.ofInt (IntKind.bits IntKind.u32) (cD x (IntKind.wrap IntKind.i64 (qO a))) ^^^ BitVec.ofInt (IntKind.bits IntKind.u32) (cD x (IntKind.wrap IntKind.i64 (qO b))))) : Int)) ^^^ BitVec.ofInt (IntKind.bits IntKind.u32) c)) : Int), PUnit.unit))))
theorem ql (x : den (Ty.int IntKind.u32)) (a : den ah) (b : den ah) (c : den (Ty.int IntKind.u32)) : aH nF sQ 5000 [] mq (a8 jI) (Env.of (bf mG (x, a, b, c, ()) 0) []) = nN x a b c := by kernel_rfl
noncomputable abbrev cU : Fx := { fn := cH, ann := { loops := [(3, { keep := [0, 3, 6, 7] })] } }
noncomputable abbrev fp : br := { D := { T := cZ, F := [], R := [], ovl := [] }, inl := [] }
noncomputable abbrev j2 : cY := .data gw
theorem gS : XOk prog fp := xok ((cM cG bV)) (by kernel_rfl) bW cO cN
noncomputable def kp (s : den Ty.str) : ae := ae.loop [] cU (lp cH 3) [(0, K.val Ty.str s), (3, K.val (Ty.int IntKind.u32) 0), (6, K.val ah (bX s)), (7, K.val ah 0)] []
theorem nq (s : den Ty.str) : aH fp j2 5000 [] cU (a8 cH) (Env.of (bf jr (s, ()) 0) []) = kp s := by kernel_rfl
noncomputable def i6 (v0 : den Ty.str) (v3 : den (Ty.int IntKind.u32)) (v6 : den ah) (v7 : den ah) : Env := Env.of [(0, K.val Ty.str v0), (3, K.val (Ty.int IntKind.u32) v3), (6, K.val ah v6), (7, K.val ah v7)] []
noncomputable def na (v0 : den Ty.str) (v3 : den (Ty.int IntKind.u32)) (v6 : den ah) (v7 : den ah) : ae := ae.ite (decide (v7 < v6)) (ae.req (ge0 8) (ae.req (inB v7 (bX v0)) (ae.loop [] cU (lp cH 3) [(0, K.val Ty.str v0), (3, K.val (Ty.int IntKind.u32) (IntKind.wrap IntKind.u32 (↑(BitVec.toNat (BitVec.ofInt (IntKind.bits IntKind.u32) (IntKind.wrap IntKind.u32 (v3 * 2 ^ min (Int.toNat 8) (IntKind.bits IntKind.u32))) ||| BitVec.ofInt (IntKind.bits IntKind.u32) (IntKind.wrap IntKind.u32 (sAt v0 v7)))) : Int))), (6, K.val ah v6), (7, K.val ah (IntKind.wrap IntKind.i64 (v7 + 1)))] []))) (ae.ret (K.val (Ty.pair (Ty.int IntKind.u32) Ty.unit) (v3, PUnit.unit)))
theorem gz (v0 : den Ty.str) (v3 : den (Ty.int IntKind.u32)) (v6 : den ah) (v7 : den ah) : aH fp j2 5000 [] cU (lp cH 3) (i6 v0 v3 v6 v7) = na v0 v3 v6 v7 := by kernel_rfl
end Go.Proofs.YtnakjijahkaoaaaDoor
namespace Go.Proofs.YtnakjijahkaoaaaDoor
open Go Go.RowKit
def uQ (a b : Int) : Int := IntKind.wrap .u32 ((BitVec.toNat (BitVec.ofInt (IntKind.bits .u32) a ^^^ BitVec.ofInt (IntKind.bits .u32) b) : Nat) : Int)
def xw (a b : Int) : Int := IntKind.wrap .u32 ((BitVec.toNat (BitVec.ofInt (IntKind.bits .u32) a &&& BitVec.ofInt (IntKind.bits .u32) b) : Nat) : Int)
def lor (a b : Int) : Int := IntKind.wrap .u32 ((BitVec.toNat (BitVec.ofInt (IntKind.bits .u32) a ||| BitVec.ofInt (IntKind.bits .u32) b) : Nat) : Int)
def jP (a b : Int) : Int := IntKind.wrap .u32 (a + b)
def dg (x a b c : Int) : Int := uQ (uQ (cD x (IntKind.wrap .i64 (qO a))) (cD x (IntKind.wrap .i64 (qO b)))) c
noncomputable abbrev gQ : cQ := ⟨mG, my, fun x => (dg x.1 x.2.1 x.2.2.1 x.2.2.2.1, ()), fun _ => True, true⟩
theorem fI : bh prog [] gR gQ :=
 eS (S := gQ) (sv ci) (fx := mq) rV (by kernel_rfl) (fun _ _ => trivial) (T := fun x => nN x.1 x.2.1 x.2.2.1 x.2.2.2.1) (fun x => ql x.1 x.2.1 x.2.2.1 x.2.2.2.1) fun O w0 x _ _ =>
  ⟨trivial, trivial, _, rfl, rfl⟩
def nX (n b : Int) : Int := lor (IntKind.wrap .u32 (n * 2 ^ min (Int.toNat 8) (IntKind.bits .u32))) (IntKind.wrap .u32 b)
def lI (s : ByteArray) : Int := (bc s).foldl nX 0
noncomputable abbrev fw : cQ := ⟨jr, gw, fun x => (lI x.1, ()), fun x => ByteArray.size x.1 ≤ 1000000, false⟩
theorem nr (s : ByteArray) : (bc s).length = s.size := by
 unfold bc
 rw [List.length_map, Array.length_toList]
 rfl
theorem xL (s : ByteArray) {i : Nat} (hi : i < s.size) : (bc s)[i]'(by rw [nr]; exact hi) = sAt s (i : Nat) := by
 have hd : i < s.data.size := hi
 unfold bc sAt
 rw [List.getElem_map, Int.toNat_natCast, Array.getElem?_eq_getElem hd]
 rfl
theorem sd (s : ByteArray) {i : Nat} : decide ((i : Int) < bX s) = decide (i < s.size) := by
 rw [Bool.eq_iff_iff, decide_eq_true_eq, decide_eq_true_eq]
 exact ⟨fun h => by have h : (i : Int) < (s.size : Int) := h; omega, fun h => by show (i : Int) < (s.size : Int); omega⟩
def oS (O : Nat → Prop) (w0 : World) (s : ByteArray) (hs : s.size ≤ 1000000) :=
 PLift.up <| eI (σ := Int) s.size (fun i n => n = ((bc s).take i).foldl nX 0)
  (fun i n => bt prog fp (Cx.base O w0) (fY prog O w0 gw fun y => y = (lI s, ())) [] cU (lp cH 3) (i6 s n (bX s) (i : Nat)))
  (fun i n hi hn ih => bg gS (gz s n _ _) (by
   refine ⟨fun _ => ⟨show (0 : Int) ≤ 8 by decide, ⟨Int.natCast_nonneg _, Int.ofNat_lt.2 hi⟩, ?_⟩, fun h => ?_⟩
   ·rw [fa hi (by omega)]
    refine ih (nX n (sAt s (i : Nat))) ?_
    have hi' : i < (bc s).length := by rw [nr]; exact hi
    rw [List.take_succ_eq_append_getElem hi', List.foldl_append, ← hn, xL s hi]
    rfl
   ·rw [sd] at h
    exact absurd hi (of_decide_eq_false h)))
  (fun n hn => bg gS (gz s n _ _) (by
   refine ⟨fun h => ?_, fun _ => ⟨_, rfl, ?_⟩⟩
   ·rw [sd] at h
    exact absurd (of_decide_eq_true h) (Nat.lt_irrefl _)
   ·have hn : n = ((bc s).take s.size).foldl nX 0 := hn
    rw [List.take_of_length_le (by rw [nr]; exact Nat.le_refl _)] at hn
    rw [hn]; rfl))
theorem dJ : bh prog [] fq fw :=
 eS (S := fw) gS (fx := cU) oR (by kernel_rfl) (fun h => by cases h) (T := fun x => kp x.1) (fun x => nq x.1) fun O w0 x _ hp =>
  (oS O w0 x.1 hp).down 0 0 (Nat.zero_le _) rfl
end Go.Proofs.YtnakjijahkaoaaaDoor
namespace Go.Proofs.YtnakjijahkaoaaaDoor
open Go Go.RowKit
noncomputable abbrev aU : Fx := { fn := aR, ann := { loops := [(4, { keep := [1, 2, 4, 5, 6, 16] }), (16, { keep := [2, 4, 6, 126] })] }, share := true, shareD := true }
noncomputable abbrev cg : br := { D := { T := cZ, F := [(cf, cj), (gR, gQ), (fq, fw)], R := [], ovl := [], G := gl }, inl := [] }
noncomputable abbrev fh : cY := .data dh
theorem cS (h_bits_RotateLeft32 : bh prog gl cf cj) (h_digest_two : bh prog gl gR gQ) (h_digest_number : bh prog gl fq fw) : XOk prog cg := xok (bw (bw (bw (cM cG bV) h_digest_number) h_digest_two) h_bits_RotateLeft32) (by kernel_rfl) bW cO cN
noncomputable def hP (h : den af) (s : den Ty.str) : ae := ae.loop [] aU (lp aR 4) [(1, K.val Ty.str s), (2, K.ptr 0 af []), (4, K.ptr (0 + 1) af []), (5, K.ptr (0 + 1 + 1) (Ty.arr 64 (Ty.int IntKind.u32)) []), (6, K.ptr (0 + 1 + 1 + 1) af []), (16, K.val ah 0)] [(0, Bx.cell af h), (0 + 1, Bx.cell af (zero af)), (0 + 1 + 1, Bx.cell (Ty.arr 64 (Ty.int IntKind.u32)) (zero (Ty.arr 64 (Ty.int IntKind.u32)))), (0 + 1 + 1 + 1, Bx.cell af h)]
theorem kL (h : den af) (s : den Ty.str) : aH cg fh 5000 [] aU (a8 aR) (Env.of (bf gH (h, s, ()) 0) []) = hP h s := by kernel_rfl
noncomputable def c8 (v1 : den Ty.str) (v16 : den ah) (b0 : den af) (b1 : den af) (b2 : den (Ty.arr 64 (Ty.int IntKind.u32))) (b3 : den af) : Env := Env.of [(1, K.val Ty.str v1), (2, K.ptr 0 af []), (4, K.ptr (0 + 1) af []), (5, K.ptr (0 + 1 + 1) (Ty.arr 64 (Ty.int IntKind.u32)) []), (6, K.ptr (0 + 1 + 1 + 1) af []), (16, K.val ah v16)] [(0, Bx.cell af b0), (1, Bx.cell af b1), (2, Bx.cell (Ty.arr 64 (Ty.int IntKind.u32)) b2), (3, Bx.cell af b3)]
noncomputable def kM (v1 : den Ty.str) (v16 : den ah) (b0 : den af) (b1 : den af) (b2 : den (Ty.arr 64 (Ty.int IntKind.u32))) (b3 : den af) : ae := ae.ite (decide (v16 < 64)) (ae.ite (decide (v16 < 16)) (ae.req (a7 (IntKind.wrap IntKind.i64 (4 * v16)) (IntKind.wrap IntKind.i64 (IntKind.wrap IntKind.i64 (4 * v16) + 4)) (bX v1)) (ae.req (ByteArray.size (eC v1 (IntKind.wrap IntKind.i64 (4 * v16)) (IntKind.wrap IntKind.i64 (IntKind.wrap IntKind.i64 (4 * v16) + 4))) ≤ 1000000) (ae.all (den (Ty.int IntKind.u32)) (fun (q6 : den (Ty.int IntKind.u32)) ↦ q6 = lI (eC v1 (IntKind.wrap IntKind.i64 (4 * v16)) (IntKind.wrap IntKind.i64 (IntKind.wrap IntKind.i64 (4 * v16) + 4)))) fun (q6 : den (Ty.int IntKind.u32)) ↦ ae.req (inB v16 (↑64 : Int)) (ae.req (inB 0 (↑8 : Int)) (ae.req (inB 4 (↑8 : Int)) (ae.all (den (Ty.int IntKind.u32)) (fun (q7 : den (Ty.int IntKind.u32)) ↦ q7 = el (Ty.int IntKind.u32) b3 0) fun (q7 : den (Ty.int IntKind.u32)) ↦ ae.all (den (Ty.int IntKind.u32)) (fun (q8 : den (Ty.int IntKind.u32)) ↦ q8 = el (Ty.int IntKind.u32) b3 4) fun (q8 : den (Ty.int IntKind.u32)) ↦ ae.req (inB 7 (↑8 : Int)) (ae.req True (ae.req True (ae.req (inB 6 (↑8 : Int)) (ae.req (inB 5 (↑8 : Int)) (ae.req (inB 6 (↑8 : Int)) (ae.req (inB v16 (↑64 : Int)) (ae.req (inB v16 (↑64 : Int)) (ae.all (den (Ty.int IntKind.u32)) (fun (q9 : den (Ty.int IntKind.u32)) ↦ q9 = cD q8 (-25)) fun (q9 : den (Ty.int IntKind.u32)) ↦ ae.all (den (Ty.int IntKind.u32)) (fun (q10 : den (Ty.int IntKind.u32)) ↦ q10 = dg q8 6 11 (cD q8 (-25))) fun (q10 : den (Ty.int IntKind.u32)) ↦ ae.all (den (Ty.int IntKind.u32)) (fun (q11 : den (Ty.int IntKind.u32)) ↦ q11 = IntKind.wrap IntKind.u32 (IntKind.wrap IntKind.u32 (IntKind.wrap IntKind.u32 (IntKind.wrap IntKind.u32 (el (Ty.int IntKind.u32) b3 7 + dg q8 6 11 (cD q8 (-25))) + IntKind.wrap IntKind.u32 (↑(BitVec.toNat (BitVec.ofInt (IntKind.bits IntKind.u32) (el (Ty.int IntKind.u32) b3 6) ^^^ BitVec.ofInt (IntKind.bits IntKind.u32) (IntKind.wrap IntKind.u32 (↑(BitVec.toNat (BitVec.ofInt (IntKind.bits IntKind.u32) q8 &&& BitVec.ofInt (IntKind.bits IntKind.u32) (IntKind.wrap IntKind.u32 (↑(BitVec.toNat (BitVec.ofInt (IntKind.bits IntKind.u32) (el (Ty.int IntKind.u32) b3 5) ^^^ BitVec.ofInt (IntKind.bits IntKind.u32) (el (Ty.int IntKind.u32) b3 6))) : Int)))) : Int)))) : Int)) + el (Ty.int IntKind.u32) gI v16) + el (Ty.int IntKind.u32) (eZ (Ty.int IntKind.u32) b2 v16 q6) v16)) fun (q11 : den (Ty.int IntKind.u32)) ↦ ae.req (inB 1 (↑8 : Int)) (ae.req (inB 2 (↑8 : Int)) (ae.req (inB 1 (↑8 : Int)) (ae.req True (ae.req True (ae.req (inB 1 (↑8 : Int)) (ae.req (inB 2 (↑8 : Int)) (ae.req (inB 3 (↑8 : Int)) (ae.req (inB 5 (↑8 : Int)) (ae.req (inB 6 (↑8 : Int)) (ae.all (den (Ty.int IntKind.u32)) (fun (q12 : den (Ty.int IntKind.u32)) ↦ q12 = cD q7 (-22)) fun (q12 : den (Ty.int IntKind.u32)) ↦ ae.all (den (Ty.int IntKind.u32)) (fun (q13 : den (Ty.int IntKind.u32)) ↦ q13 = dg q7 2 13 (cD q7 (-22))) fun (q13 : den (Ty.int IntKind.u32)) ↦ ae.loop [] aU (lp aR 4) [(1, K.val Ty.str v1), (2, K.ptr 0 af []), (4, K.ptr (0 + 1) af []), (5, K.ptr (0 + 1 + 1) (Ty.arr 64 (Ty.int IntKind.u32)) []), (6, K.ptr (0 + 1 + 1 + 1) af []), (16, K.val ah (IntKind.wrap IntKind.i64 (v16 + 1)))] [(0, Bx.cell af b0), (0 + 1, Bx.cell af b1), (0 + 1 + 1, Bx.cell (Ty.arr 64 (Ty.int IntKind.u32)) (eZ (Ty.int IntKind.u32) b2 v16 q6)), (0 + 1 + 1 + 1, Bx.cell af (List.set (List.set (List.set (List.set (List.set (List.set (List.set (List.set (List.replicate 8 (zero (Ty.int IntKind.u32))) 0 (IntKind.wrap IntKind.u32 (IntKind.wrap IntKind.u32 (q11 + dg q7 2 13 (cD q7 (-22))) + IntKind.wrap IntKind.u32 (↑(BitVec.toNat (BitVec.ofInt (IntKind.bits IntKind.u32) (IntKind.wrap IntKind.u32 (↑(BitVec.toNat (BitVec.ofInt (IntKind.bits IntKind.u32) q7 &&& BitVec.ofInt (IntKind.bits IntKind.u32) (el (Ty.int IntKind.u32) b3 1))) : Int)) ||| BitVec.ofInt (IntKind.bits IntKind.u32) (IntKind.wrap IntKind.u32 (↑(BitVec.toNat (BitVec.ofInt (IntKind.bits IntKind.u32) (el (Ty.int IntKind.u32) b3 2) &&& BitVec.ofInt (IntKind.bits IntKind.u32) (IntKind.wrap IntKind.u32 (↑(BitVec.toNat (BitVec.ofInt (IntKind.bits IntKind.u32) q7 ||| BitVec.ofInt (IntKind.bits IntKind.u32) (el (Ty.int IntKind.u32) b3 1))) : Int)))) : Int)))) : Int)))) 1 q7) 2 (el (Ty.int IntKind.u32) b3 1)) 3 (el (Ty.int IntKind.u32) b3 2)) 4 (IntKind.wrap IntKind.u32 (el (Ty.int IntKind.u32) b3 3 + q11))) 5 q8) 6 (el (Ty.int IntKind.u32) b3 5)) 7 (el (Ty.int IntKind.u32) b3 6)))])))))))))))))))))))))))) (ae.req (inB (IntKind.wrap IntKind.i64 (v16 - 15)) (↑64 : Int)) (ae.req (inB (IntKind.wrap IntKind.i64 (v16 - 2)) (↑64 : Int)) (ae.all (den (Ty.int IntKind.u32)) (fun (q6 : den (Ty.int IntKind.u32)) ↦ q6 = el (Ty.int IntKind.u32) b2 (IntKind.wrap IntKind.i64 (v16 - 15))) fun (q6 : den (Ty.int IntKind.u32)) ↦ ae.all (den (Ty.int IntKind.u32)) (fun (q7 : den (Ty.int IntKind.u32)) ↦ q7 = el (Ty.int IntKind.u32) b2 (IntKind.wrap IntKind.i64 (v16 - 2))) fun (q7 : den (Ty.int IntKind.u32)) ↦ ae.req (ge0 10) (ae.req True (ae.req (inB (IntKind.wrap IntKind.i64 (v16 - 7)) (↑64 : Int)) (ae.req (ge0 3) (ae.req True (ae.req (inB (IntKind.wrap IntKind.i64 (v16 - 16)) (↑64 : Int)) (ae.req (inB v16 (↑64 : Int)) (ae.all (den (Ty.int IntKind.u32)) (fun (q8 : den (Ty.int IntKind.u32)) ↦ q8 = dg q7 17 19 (Int.fdiv q7 (2 ^ min (Int.toNat 10) (IntKind.bits IntKind.u32)))) fun (q8 : den (Ty.int IntKind.u32)) ↦ ae.all (den (Ty.int IntKind.u32)) (fun (q9 : den (Ty.int IntKind.u32)) ↦ q9 = dg q6 7 18 (Int.fdiv q6 (2 ^ min (Int.toNat 3) (IntKind.bits IntKind.u32)))) fun (q9 : den (Ty.int IntKind.u32)) ↦ ae.req (inB 0 (↑8 : Int)) (ae.req (inB 4 (↑8 : Int)) (ae.all (den (Ty.int IntKind.u32)) (fun (q10 : den (Ty.int IntKind.u32)) ↦ q10 = el (Ty.int IntKind.u32) b3 0) fun (q10 : den (Ty.int IntKind.u32)) ↦ ae.all (den (Ty.int IntKind.u32)) (fun (q11 : den (Ty.int IntKind.u32)) ↦ q11 = el (Ty.int IntKind.u32) b3 4) fun (q11 : den (Ty.int IntKind.u32)) ↦ ae.req (inB 7 (↑8 : Int)) (ae.req True (ae.req True (ae.req (inB 6 (↑8 : Int)) (ae.req (inB 5 (↑8 : Int)) (ae.req (inB 6 (↑8 : Int)) (ae.req (inB v16 (↑64 : Int)) (ae.req (inB v16 (↑64 : Int)) (ae.all (den (Ty.int IntKind.u32)) (fun (q12 : den (Ty.int IntKind.u32)) ↦ q12 = cD q11 (-25)) fun (q12 : den (Ty.int IntKind.u32)) ↦ ae.all (den (Ty.int IntKind.u32)) (fun (q13 : den (Ty.int IntKind.u32)) ↦ q13 = dg q11 6 11 (cD q11 (-25))) fun (q13 : den (Ty.int IntKind.u32)) ↦ ae.all (den (Ty.int IntKind.u32)) (fun (q14 : den (Ty.int IntKind.u32)) ↦ q14 = IntKind.wrap IntKind.u32 (IntKind.wrap IntKind.u32 (IntKind.wrap IntKind.u32 (IntKind.wrap IntKind.u32 (el (Ty.int IntKind.u32) b3 7 + dg q11 6 11 (cD q11 (-25))) + IntKind.wrap IntKind.u32 (↑(BitVec.toNat (BitVec.ofInt (IntKind.bits IntKind.u32) (el (Ty.int IntKind.u32) b3 6) ^^^ BitVec.ofInt (IntKind.bits IntKind.u32) (IntKind.wrap IntKind.u32 (↑(BitVec.toNat (BitVec.ofInt (IntKind.bits IntKind.u32) q11 &&& BitVec.ofInt (IntKind.bits IntKind.u32) (IntKind.wrap IntKind.u32 (↑(BitVec.toNat (BitVec.ofInt (IntKind.bits IntKind.u32) (el (Ty.int IntKind.u32) b3 5) ^^^ BitVec.ofInt (IntKind.bits IntKind.u32) (el (Ty.int IntKind.u32) b3 6))) : Int)))) : Int)))) : Int)) + el (Ty.int IntKind.u32) gI v16) + el (Ty.int IntKind.u32) (eZ (Ty.int IntKind.u32) b2 v16 (IntKind.wrap IntKind.u32 (IntKind.wrap IntKind.u32 (IntKind.wrap IntKind.u32 (dg q7 17 19 (Int.fdiv q7 (2 ^ min (Int.toNat 10) (IntKind.bits IntKind.u32))) + el (Ty.int IntKind.u32) b2 (IntKind.wrap IntKind.i64 (v16 - 7))) + dg q6 7 18 (Int.fdiv q6 (2 ^ min (Int.toNat 3) (IntKind.bits IntKind.u32)))) + el (Ty.int IntKind.u32) b2 (IntKind.wrap IntKind.i64 (v16 - 16))))) v16)) fun (q14 : den (Ty.int IntKind.u32)) ↦ ae.req (inB 1 (↑8 : Int)) (ae.req (inB 2 (↑8 : Int)) (ae.req (inB 1 (↑8 : Int)) (ae.req True (ae.req True (ae.req (inB 1 (↑8 : Int)) (ae.req (inB 2 (↑8 : Int)) (ae.req (inB 3 (↑8 : Int)) (ae.req (inB 5 (↑8 : Int)) (ae.req (inB 6 (↑8 : Int)) (ae.all (den (Ty.int IntKind.u32)) (fun (q15 : den (Ty.int IntKind.u32)) ↦ q15 = cD q10 (-22)) fun (q15 : den (Ty.int IntKind.u32)) ↦ ae.all (den (Ty.int IntKind.u32)) (fun (q16 : den (Ty.int IntKind.u32)) ↦ q16 = dg q10 2 13 (cD q10 (-22))) fun (q16 : den (Ty.int IntKind.u32)) ↦ ae.loop [] aU (lp aR 4) [(1, K.val Ty.str v1), (2, K.ptr 0 af []), (4, K.ptr (0 + 1) af []), (5, K.ptr (0 + 1 + 1) (Ty.arr 64 (Ty.int IntKind.u32)) []), (6, K.ptr (0 + 1 + 1 + 1) af []), (16, K.val ah (IntKind.wrap IntKind.i64 (v16 + 1)))] [(0, Bx.cell af b0), (0 + 1, Bx.cell af b1), (0 + 1 + 1, Bx.cell (Ty.arr 64 (Ty.int IntKind.u32)) (eZ (Ty.int IntKind.u32) b2 v16 (IntKind.wrap IntKind.u32 (IntKind.wrap IntKind.u32 (IntKind.wrap IntKind.u32 (dg q7 17 19 (Int.fdiv q7 (2 ^ min (Int.toNat 10) (IntKind.bits IntKind.u32))) + el (Ty.int IntKind.u32) b2 (IntKind.wrap IntKind.i64 (v16 - 7))) + dg q6 7 18 (Int.fdiv q6 (2 ^ min (Int.toNat 3) (IntKind.bits IntKind.u32)))) + el (Ty.int IntKind.u32) b2 (IntKind.wrap IntKind.i64 (v16 - 16)))))), (0 + 1 + 1 + 1, Bx.cell af (List.set (List.set (List.set (List.set (List.set (List.set (List.set (List.set (List.replicate 8 (zero (Ty.int IntKind.u32))) 0 (IntKind.wrap IntKind.u32 (IntKind.wrap IntKind.u32 (q14 + dg q10 2 13 (cD q10 (-22))) + IntKind.wrap IntKind.u32 (↑(BitVec.toNat (BitVec.ofInt (IntKind.bits IntKind.u32) (IntKind.wrap IntKind.u32 (↑(BitVec.toNat (BitVec.ofInt (IntKind.bits IntKind.u32) q10 &&& BitVec.ofInt (IntKind.bits IntKind.u32) (el (Ty.int IntKind.u32) b3 1))) : Int)) ||| BitVec.ofInt (IntKind.bits IntKind.u32) (IntKind.wrap IntKind.u32 (↑(BitVec.toNat (BitVec.ofInt (IntKind.bits IntKind.u32) (el (Ty.int IntKind.u32) b3 2) &&& BitVec.ofInt (IntKind.bits IntKind.u32) (IntKind.wrap IntKind.u32 (↑(BitVec.toNat (BitVec.ofInt (IntKind.bits IntKind.u32) q10 ||| BitVec.ofInt (IntKind.bits IntKind.u32) (el (Ty.int IntKind.u32) b3 1))) : Int)))) : Int)))) : Int)))) 1 q10) 2 (el (Ty.int IntKind.u32) b3 1)) 3 (el (Ty.int IntKind.u32) b3 2)) 4 (IntKind.wrap IntKind.u32 (el (Ty.int IntKind.u32) b3 3 + q14))) 5 q11) 6 (el (Ty.int IntKind.u32) b3 5)) 7 (el (Ty.int IntKind.u32) b3 6)))]))))))))))))))))))))))))))))))) (ae.loop [] aU (lp aR 16) [(2, K.ptr 0 af []), (4, K.ptr (0 + 1) af []), (6, K.ptr (0 + 1 + 1) af []), (126, K.val ah 0)] [(0, Bx.cell af b0), (0 + 1, Bx.cell af b1), (0 + 1 + 1, Bx.cell af b3)])
theorem fv (v1 : den Ty.str) (v16 : den ah) (b0 : den af) (b1 : den af) (b2 : den (Ty.arr 64 (Ty.int IntKind.u32))) (b3 : den af) : aH cg fh 5000 [] aU (lp aR 4) (c8 v1 v16 b0 b1 b2 b3) = kM v1 v16 b0 b1 b2 b3 := by kernel_rfl
noncomputable def f8 (v126 : den ah) (b0 : den af) (b1 : den af) (b2 : den af) : Env := Env.of [(2, K.ptr 0 af []), (4, K.ptr (0 + 1) af []), (6, K.ptr (0 + 1 + 1) af []), (126, K.val ah v126)] [(0, Bx.cell af b0), (1, Bx.cell af b1), (2, Bx.cell af b2)]
noncomputable def jX (v126 : den ah) (b0 : den af) (b1 : den af) (b2 : den af) : ae := ae.ite (decide (v126 < 8)) (ae.req (inB v126 (↑8 : Int)) (ae.req (inB v126 (↑8 : Int)) (ae.req (inB v126 (↑8 : Int)) (ae.loop [] aU (lp aR 16) [(2, K.ptr 0 af []), (4, K.ptr (0 + 1) af []), (6, K.ptr (0 + 1 + 1) af []), (126, K.val ah (IntKind.wrap IntKind.i64 (v126 + 1)))] [(0, Bx.cell af (eZ (Ty.int IntKind.u32) b0 v126 (IntKind.wrap IntKind.u32 (el (Ty.int IntKind.u32) b0 v126 + el (Ty.int IntKind.u32) b2 v126)))), (0 + 1, Bx.cell af b1), (0 + 1 + 1, Bx.cell af b2)])))) (ae.ret (K.val (Ty.pair af Ty.unit) (b0, PUnit.unit)))
theorem eY (v126 : den ah) (b0 : den af) (b1 : den af) (b2 : den af) : aH cg fh 5000 [] aU (lp aR 16) (f8 v126 b0 b1 b2) = jX v126 b0 b1 b2 := by kernel_rfl
end Go.Proofs.YtnakjijahkaoaaaDoor
namespace Go.Proofs.YtnakjijahkaoaaaDoor
open Go Go.RowKit
abbrev bL (l : List Int) (n : Int) : Int := el (.int .u32) l n
def yb (x : Int) (k : Int) : Int := Int.fdiv x (2 ^ min (Int.toNat k) (IntKind.bits .u32))
def y6 (k : Int) (wt : Int) (v : List Int) : Int :=
 jP (jP (jP (jP (bL v 7) (dg (bL v 4) 6 11 (cD (bL v 4) (-25)))) (uQ (bL v 6) (xw (bL v 4) (uQ (bL v 5) (bL v 6))))) k) wt
def zc (v : List Int) : Int := lor (xw (bL v 0) (bL v 1)) (xw (bL v 2) (lor (bL v 0) (bL v 1)))
def ovV (k : Int) (wt : Int) (v : List Int) : List Int :=
 List.set (List.set (List.set (List.set (List.set (List.set (List.set (List.set (List.replicate 8 (zero (.int .u32))) 0
  (jP (jP (y6 k wt v) (dg (bL v 0) 2 13 (cD (bL v 0) (-22)))) (zc v))) 1 (bL v 0)) 2 (bL v 1)) 3 (bL v 2)) 4 (jP (bL v 3) (y6 k wt v))) 5 (bL v 4)) 6 (bL v 5)) 7 (bL v 6)
def ovB (s : ByteArray) (t : Int) : Int := lI (eC s (IntKind.wrap .i64 (4 * t)) (IntKind.wrap .i64 (IntKind.wrap .i64 (4 * t) + 4)))
def ovN (w : List Int) (t : Int) : Int :=
 jP (jP (jP (dg (bL w (IntKind.wrap .i64 (t - 2))) 17 19 (yb (bL w (IntKind.wrap .i64 (t - 2))) 10)) (bL w (IntKind.wrap .i64 (t - 7))))
  (dg (bL w (IntKind.wrap .i64 (t - 15))) 7 18 (yb (bL w (IntKind.wrap .i64 (t - 15))) 3))) (bL w (IntKind.wrap .i64 (t - 16)))
def ovW (s : ByteArray) (w : List Int) (t : Int) : List Int := if t < 16 then eZ (.int .u32) w t (ovB s t) else eZ (.int .u32) w t (ovN w t)
def ovS (s : ByteArray) (v : List Int) : Nat → List Int × List Int
 | 0 => (zero (.arr 64 (.int .u32)), v)
 | i + 1 =>
  let p := ovS s v i
  let w := ovW s p.1 i
  (w, ovV (bL gI i) (bL w i) p.2)
def ovA (h v : List Int) : Nat → List Int
 | 0 => h
 | i + 1 => eZ (.int .u32) (ovA h v i) i (jP (bL (ovA h v i) i) (bL v i))
def nJ (h : List Int) (s : ByteArray) : List Int := ovA h (ovS s h 64).2 8
noncomputable abbrev dG : cQ := ⟨gH, dh, fun x => (nJ x.1 x.2.1, ()), fun x => ByteArray.size x.2.1 = 64, false⟩
def jY (O : Nat → Prop) (w0 : World) (h v1 v : List Int) (out : List Int) (ho : out = ovA h v 8) :=
 PLift.up <| eI (σ := List Int) 8 (fun i b => b = ovA h v i)
  (fun i b => bt prog cg (Cx.base O w0) (fY prog O w0 dh fun y => y = (out, ())) [] aU (lp aR 16) (f8 (i : Nat) b v1 v))
  (fun i b hi hb ih => bg (cS (bF ci) (bF fI) (bF dJ)) (eY _ b v1 v) (by
   refine ⟨fun _ => ⟨⟨Int.natCast_nonneg _, Int.ofNat_lt.2 hi⟩, ⟨Int.natCast_nonneg _, Int.ofNat_lt.2 hi⟩, ⟨Int.natCast_nonneg _, Int.ofNat_lt.2 hi⟩, ?_⟩, fun h => ?_⟩
   ·rw [fa hi (by omega)]
    refine ih _ ?_
    rw [hb]
    rfl
   ·exact absurd (Int.ofNat_lt.2 hi) (of_decide_eq_false h)))
  (fun b hb => bg (cS (bF ci) (bF fI) (bF dJ)) (eY _ b v1 v) (by
   refine ⟨fun h => ?_, fun _ => ⟨_, rfl, ?_⟩⟩
   ·exact absurd (of_decide_eq_true h) (by decide)
   ·show (b, ()) = (out, ())
    rw [hb, ho]))
theorem wn (s : ByteArray) (a b : Int) : (eC s a b).size ≤ s.size := by
 unfold eC; rw [ByteArray.size_extract]; omega
theorem wr4 {i : Nat} (h : i < 16) : IntKind.wrap .i64 (4 * (i : Int)) = 4 * (i : Int) ∧ IntKind.wrap .i64 (IntKind.wrap .i64 (4 * (i : Int)) + 4) = 4 * (i : Int) + 4 := by
 have h1 : IntKind.wrap .i64 (4 * (i : Int)) = 4 * (i : Int) := gB (by omega)
 refine ⟨h1, ?_⟩
 rw [h1]
 exact gB (by omega)
theorem wrm {i : Nat} (k : Int) (h : i < 64) (h0 : 0 ≤ k) (h1 : k ≤ i) : inB (IntKind.wrap .i64 ((i : Int) - k)) ((64 : Nat) : Int) := by
 rw [gB (by omega)]
 exact ⟨by omega, by omega⟩
theorem dB {a b : Int} (h : decide (0 ≤ a ∧ a < b) = true := by rfl) : inB a b := (of_decide_eq_true h : 0 ≤ a ∧ a < b)
theorem d0 {a : Int} (h : decide (0 ≤ a) = true := by rfl) : ge0 a := (of_decide_eq_true h : 0 ≤ a)
def kI (O : Nat → Prop) (w0 : World) (h b1 : List Int) (s : ByteArray) (hs : s.size = 64) :=
 PLift.up <| eI (σ := List Int × List Int) 64 (fun i b => b = ovS s h i)
  (fun i b => bt prog cg (Cx.base O w0) (fY prog O w0 dh fun y => y = (nJ h s, ())) [] aU (lp aR 4) (c8 s (i : Nat) h b1 b.1 b.2))
  (fun i b hi hb ih => bg (cS (bF ci) (bF fI) (bF dJ)) (fv s _ h b1 b.1 b.2) (by
   have hB : inB (i : Int) ((64 : Nat) : Int) := ⟨Int.natCast_nonneg _, Int.ofNat_lt.2 hi⟩
   refine ⟨fun _ => ⟨fun hl => ?_, fun hl => ?_⟩, fun h => ?_⟩
   ·have hl : i < 16 := Int.ofNat_lt.1 (of_decide_eq_true hl)
    refine ⟨?_, Nat.le_trans (wn _ _ _) (by rw [hs]; decide), bj ⟨hB, dB, dB, bj <| bj ⟨dB, trivial, trivial, dB, dB, dB, hB, hB, bj <| bj <| bj ⟨dB, dB, dB, trivial, trivial, dB, dB, dB, dB, dB, bj <| bj ?_⟩⟩⟩⟩
    ·rw [(wr4 hl).2, (wr4 hl).1]
     refine ⟨by omega, by omega, ?_⟩
     show 4 * (i : Int) + 4 ≤ (s.size : Int)
     rw [hs]; omega
    ·have hw : IntKind.wrap .i64 ((i : Int) + 1) = ((i + 1 : Nat) : Int) := fa hi (by omega)
     show bt _ _ _ _ _ _ _ (c8 s (IntKind.wrap .i64 ((i : Int) + 1)) h b1 _ _)
     rw [hw]
     refine ih (_, _) ?_
     rw [hb]
     have hlI : (i : Int) < 16 := Int.ofNat_lt.2 hl
     show _ = (ovW s (ovS s h i).1 i, ovV (bL gI i) (bL (ovW s (ovS s h i).1 i) i) (ovS s h i).2)
     unfold ovW
     rw [if_pos hlI]
     rfl
   ·have hl : ¬ i < 16 := fun h => of_decide_eq_false hl (Int.ofNat_lt.2 h)
    refine ⟨wrm 15 hi (by decide) (by omega), wrm 2 hi (by decide) (by omega), bj <| bj ⟨d0, trivial, wrm 7 hi (by decide) (by omega), d0, trivial, wrm 16 hi (by decide) (by omega), hB, bj <| bj ⟨dB, dB, bj <| bj ⟨dB, trivial, trivial, dB, dB, dB, hB, hB, bj <| bj <| bj ⟨dB, dB, dB, trivial, trivial, dB, dB, dB, dB, dB, bj <| bj ?_⟩⟩⟩⟩⟩
    have hw : IntKind.wrap .i64 ((i : Int) + 1) = ((i + 1 : Nat) : Int) := fa hi (by omega)
    show bt _ _ _ _ _ _ _ (c8 s (IntKind.wrap .i64 ((i : Int) + 1)) h b1 _ _)
    rw [hw]
    refine ih (_, _) ?_
    rw [hb]
    have hlI : ¬ (i : Int) < 16 := fun h => hl (Int.ofNat_lt.1 h)
    show _ = (ovW s (ovS s h i).1 i, ovV (bL gI i) (bL (ovW s (ovS s h i).1 i) i) (ovS s h i).2)
    unfold ovW
    rw [if_neg hlI]
    rfl
   ·exact absurd (Int.ofNat_lt.2 hi) (of_decide_eq_false h)))
  (fun b hb => bg (cS (bF ci) (bF fI) (bF dJ)) (fv s _ h b1 b.1 b.2) (by
   refine ⟨fun h => ?_, fun _ => ?_⟩
   ·exact absurd (of_decide_eq_true h) (by decide)
   ·exact (jY O w0 h b1 b.2 _ (by rw [hb]; rfl)).down 0 h (Nat.zero_le _) rfl))
theorem mK : bh prog gl dE dG :=
 eS (S := dG) (cS (bF ci) (bF fI) (bF dJ)) (fx := aU) me (by kernel_rfl) (fun h => by cases h) (T := fun x => hP x.1 x.2.1) (fun x => kL x.1 x.2.1) fun O w0 x _ hp =>
  (kI O w0 x.1 _ x.2.1 hp).down 0 (_, _) (Nat.zero_le _) rfl
end Go.Proofs.YtnakjijahkaoaaaDoor
namespace Go.Proofs
open Go.Shelf
open Go.RowKit in
open Go.RowKit in
open Go.RowKit in
open Go.RowKit in
open Go.RowKit in
open Go.RowKit in
def Tryd.lays156_ren : Go.Shelf.Ren := ⟨fun | 156 => 47 | 165 => 64 | 166 => 65 | 169 => 66 | 240 => 78 | 241 => 79 | 276 => 85 | 277 => 86 | n => n, fun | 31 => 79 | 9 => 9 | 3 => 3 | 4 => 4 | 0 => 0 | 20 => 20 | 72 => 116 | 76 => 120 | 70 => 114 | 37 => 64 | 75 => 119 | 127 => 132 | 164 => 138 | 5 => 5 | 80 => 122 | n => n, fun | n => n⟩
theorem Tryd.lays156 : Go.Proofs.Lays.n156 Tryd.prog Tryd.lays156_ren := {
 mixed := by kernel_rfl
 f156 := Tryd.func47.trans (congrArg some (by kernel_rfl))
 f165 := Tryd.func64.trans (congrArg some (by kernel_rfl))
 f166 := Tryd.func65.trans (congrArg some (by kernel_rfl))
 f169 := Tryd.func66.trans (congrArg some (by kernel_rfl))
 f240 := Tryd.func78.trans (congrArg some (by kernel_rfl))
 f241 := Tryd.func79.trans (congrArg some (by kernel_rfl))
 f276 := Tryd.func85.trans (congrArg some (by kernel_rfl))
 f277 := Tryd.func86.trans (congrArg some (by kernel_rfl))
 t0 := Tryd.underlying0
 a0 := Tryd.isAgg0
 z0 := Tryd.sizeOf0
 v0 := Tryd.zeroValue0
 t3 := Tryd.underlying3
 a3 := Tryd.isAgg3
 z3 := Tryd.sizeOf3
 v3 := Tryd.zeroValue3
 t4 := Tryd.underlying4
 a4 := Tryd.isAgg4
 z4 := Tryd.sizeOf4
 v4 := Tryd.zeroValue4
 t9 := Tryd.underlying9
 a9 := Tryd.isAgg9
 z9 := Tryd.sizeOf9
 v9 := Tryd.zeroValue9
 t20 := Tryd.underlying20
 a20 := Tryd.isAgg20
 z20 := Tryd.sizeOf20
 v20 := Tryd.zeroValue20
 t31 := Tryd.underlying79
 a31 := Tryd.isAgg79
 z31 := Tryd.sizeOf79
 v31 := Tryd.zeroValue79
 t37 := Tryd.underlying64
 a37 := Tryd.isAgg64
 z37 := Tryd.sizeOf64
 v37 := Tryd.zeroValue64
 t70 := Tryd.underlying114
 a70 := Tryd.isAgg114
 z70 := Tryd.sizeOf114
 v70 := Tryd.zeroValue114
 t72 := Tryd.underlying116
 a72 := Tryd.isAgg116
 z72 := Tryd.sizeOf116
 v72 := Tryd.zeroValue116
 t75 := Tryd.underlying119
 a75 := Tryd.isAgg119
 z75 := Tryd.sizeOf119
 v75 := Tryd.zeroValue119
 t76 := Tryd.underlying120
 a76 := Tryd.isAgg120
 z76 := Tryd.sizeOf120
 v76 := Tryd.zeroValue120
 t127 := Tryd.underlying132
 a127 := Tryd.isAgg132
 z127 := Tryd.sizeOf132
 v127 := Tryd.zeroValue132
 t164 := Tryd.underlying138
 a164 := Tryd.isAgg138
 z164 := Tryd.sizeOf138
 v164 := Tryd.zeroValue138 }
theorem Tryd.Builder_Extra_156 : Builder.Extra Tryd.prog Tryd.lays156_ren := {
 sizeBuilder := by kernel_rfl
 liesBuilder := by kernel_rfl
 t5 := Tryd.underlying5
 a5 := Tryd.isAgg5
 z5 := Tryd.sizeOf5
 v5 := Tryd.zeroValue5
 infoByte := by kernel_rfl
 cellsByte := by kernel_rfl
 sizeByte := by kernel_rfl
 neB5 := by decide }
open Go.RowKit in
theorem Tryd.strings_Join_none (a : Option Addr) (c : Nat) (sep : ByteArray) (w : World) :
    Calls Tryd.prog 47 #[.slice a 0 c, .string sep] w fun e w' => e = .returned (.string ⟨#[]⟩) ∧ w' = w := Any.strings_Join_none Tryd.lays156 Tryd.Builder_Extra_156 a c sep w
open Go.RowKit in
theorem Tryd.strings_Join (bk o c : Nat) (xs : List ByteArray) (sep : ByteArray) (w : World) (hcells : ∀ (j : Nat) x, xs[j]? = some x → w.cell? ⟨bk, o + j, none⟩ = some (.string x)) (hbk : bk < w.heap.size) (hN : xs.length ≤ 140737488355328) (hcap : xs.length ≤ c) (hlen : (Lib.join (xs.map (·.data.toList)) sep.data.toList).length ≤ 140737488355328) :
    Calls Tryd.prog 47 #[.slice (some ⟨bk, o, none⟩) xs.length c, .string sep] w fun e w' => e = .returned (.string ⟨(Lib.join (xs.map (·.data.toList)) sep.data.toList).toArray⟩) ∧ Below w.heap.size w w' := Any.strings_Join Tryd.lays156 Tryd.Builder_Extra_156 bk o c xs sep w hcells hbk hN hcap hlen
open Go.RowKit in
open Go.RowKit in
open Go.RowKit in
open Go.RowKit in
open Go.RowKit in
open Go.RowKit in
open Go.RowKit in
open Go.RowKit in
open Go.RowKit in
open Go.RowKit Go.Lib in
open Go.RowKit Go.Lib in
open Go.RowKit Go.Lib in
open Go.RowKit Go.Lib in
def Tryd.lays105_ren : Go.Shelf.Ren := ⟨fun | 105 => 62 | 212 => 75 | 99 => 76 | 165 => 64 | 166 => 65 | 170 => 77 | 169 => 66 | 263 => 82 | 264 => 83 | 206 => 84 | 240 => 78 | 241 => 79 | 276 => 85 | 277 => 86 | n => n, fun | 9 => 9 | 3 => 3 | 4 => 4 | 20 => 20 | 0 => 0 | 46 => 111 | 109 => 128 | 5 => 5 | 72 => 116 | 76 => 120 | 51 => 86 | 146 => 134 | 53 => 110 | 148 => 136 | 70 => 114 | 37 => 64 | 75 => 119 | 127 => 132 | 164 => 138 | 80 => 122 | n => n, fun | n => n⟩
theorem Tryd.lays105 : Go.Proofs.Lays.n105 Tryd.prog Tryd.lays105_ren := {
 mixed := by kernel_rfl
 f99 := Tryd.func76.trans (congrArg some (by kernel_rfl))
 f105 := Tryd.func62.trans (congrArg some (by kernel_rfl))
 f165 := Tryd.func64.trans (congrArg some (by kernel_rfl))
 f166 := Tryd.func65.trans (congrArg some (by kernel_rfl))
 f169 := Tryd.func66.trans (congrArg some (by kernel_rfl))
 f170 := Tryd.func77.trans (congrArg some (by kernel_rfl))
 f206 := Tryd.func84.trans (congrArg some (by kernel_rfl))
 f212 := Tryd.func75.trans (congrArg some (by kernel_rfl))
 f240 := Tryd.func78.trans (congrArg some (by kernel_rfl))
 f241 := Tryd.func79.trans (congrArg some (by kernel_rfl))
 f263 := Tryd.func82.trans (congrArg some (by kernel_rfl))
 f264 := Tryd.func83.trans (congrArg some (by kernel_rfl))
 f276 := Tryd.func85.trans (congrArg some (by kernel_rfl))
 f277 := Tryd.func86.trans (congrArg some (by kernel_rfl))
 t0 := Tryd.underlying0
 a0 := Tryd.isAgg0
 z0 := Tryd.sizeOf0
 v0 := Tryd.zeroValue0
 t3 := Tryd.underlying3
 a3 := Tryd.isAgg3
 z3 := Tryd.sizeOf3
 v3 := Tryd.zeroValue3
 t4 := Tryd.underlying4
 a4 := Tryd.isAgg4
 z4 := Tryd.sizeOf4
 v4 := Tryd.zeroValue4
 t5 := Tryd.underlying5
 a5 := Tryd.isAgg5
 z5 := Tryd.sizeOf5
 v5 := Tryd.zeroValue5
 t9 := Tryd.underlying9
 a9 := Tryd.isAgg9
 z9 := Tryd.sizeOf9
 v9 := Tryd.zeroValue9
 t20 := Tryd.underlying20
 a20 := Tryd.isAgg20
 z20 := Tryd.sizeOf20
 v20 := Tryd.zeroValue20
 t37 := Tryd.underlying64
 a37 := Tryd.isAgg64
 z37 := Tryd.sizeOf64
 v37 := Tryd.zeroValue64
 t46 := Tryd.underlying111
 a46 := Tryd.isAgg111
 z46 := Tryd.sizeOf111
 v46 := Tryd.zeroValue111
 t51 := Tryd.underlying86
 a51 := Tryd.isAgg86
 z51 := Tryd.sizeOf86
 v51 := Tryd.zeroValue86
 t53 := Tryd.underlying110
 a53 := Tryd.isAgg110
 z53 := Tryd.sizeOf110
 v53 := Tryd.zeroValue110
 t70 := Tryd.underlying114
 a70 := Tryd.isAgg114
 z70 := Tryd.sizeOf114
 v70 := Tryd.zeroValue114
 t72 := Tryd.underlying116
 a72 := Tryd.isAgg116
 z72 := Tryd.sizeOf116
 v72 := Tryd.zeroValue116
 t75 := Tryd.underlying119
 a75 := Tryd.isAgg119
 z75 := Tryd.sizeOf119
 v75 := Tryd.zeroValue119
 t76 := Tryd.underlying120
 a76 := Tryd.isAgg120
 z76 := Tryd.sizeOf120
 v76 := Tryd.zeroValue120
 t109 := Tryd.underlying128
 a109 := Tryd.isAgg128
 z109 := Tryd.sizeOf128
 v109 := Tryd.zeroValue128
 t127 := Tryd.underlying132
 a127 := Tryd.isAgg132
 z127 := Tryd.sizeOf132
 v127 := Tryd.zeroValue132
 t146 := Tryd.underlying134
 a146 := Tryd.isAgg134
 z146 := Tryd.sizeOf134
 v146 := Tryd.zeroValue134
 t148 := Tryd.underlying136
 a148 := Tryd.isAgg136
 z148 := Tryd.sizeOf136
 v148 := Tryd.zeroValue136
 t164 := Tryd.underlying138
 a164 := Tryd.isAgg138
 z164 := Tryd.sizeOf138
 v164 := Tryd.zeroValue138 }
theorem Tryd.Builder_Extra_105 : Builder.Extra Tryd.prog Tryd.lays105_ren := {
 sizeBuilder := by kernel_rfl
 liesBuilder := by kernel_rfl
 t5 := Tryd.underlying5
 a5 := Tryd.isAgg5
 z5 := Tryd.sizeOf5
 v5 := Tryd.zeroValue5
 infoByte := by kernel_rfl
 cellsByte := by kernel_rfl
 sizeByte := by kernel_rfl
 neB5 := by decide }
open Go.RowKit Go.Lib in
open Go.RowKit Go.Lib in
open Go.RowKit Go.Lib in
open Go.RowKit Go.Lib in
open Go.RowKit Go.Lib in
open Go.RowKit Go.Lib in
open Go.RowKit Go.Lib in
theorem Tryd.strings_Repeat (s : ByteArray) (c : Nat) (w : World) (hc : c ≤ 9223372036854775807) (hlen : s.size * c ≤ 140737488355328) :
    Calls Tryd.prog 62 #[.string s, .int .i64 c] w fun e w' => e = .returned (.string ⟨(Lib.repeatL s.data.toList c).toArray⟩) ∧ Below w.heap.size w w' := Any.strings_Repeat Tryd.lays105 Tryd.Builder_Extra_105 s c w hc hlen
end Go.Proofs
namespace Go.Proofs.YtnakjijahkaoaaaDoor
open Go Go.RowKit
def bo (xs : List ByteArray) (sep : ByteArray) : ByteArray := ⟨(Lib.join (xs.map (·.data.toList)) sep.data.toList).toArray⟩
def iX (s : ByteArray) (c : Int) : ByteArray := ⟨(Lib.repeatL s.data.toList c.toNat).toArray⟩
theorem qx {w w' : World} (h : Below w.heap.size w w') : Kept w w' := ⟨h.os, h.tape, h.output, h.size, h.block⟩
theorem nI (l : List UInt8) : ByteArray.size ⟨l.toArray⟩ = l.length := by
 show l.toArray.size = l.length
 exact List.size_toArray ..
theorem qn {P : Program} {O : Nat → Prop} {w : World} : ∀ {xs : List ByteArray} {L : List Value}, ai (fun cs x => Rep P .str .cells O w cs x) 1 L xs → ∀ (j : Nat) x, xs[j]? = some x → L[j]? = some (.string x)
 | [], _, _, j, x, hx => by simp at hx
 | y :: ys, L, h, j, x, hx => by
  cases L with
  | nil => obtain ⟨⟨h1, _⟩, _⟩ := h; simp at h1
  | cons u us =>
   obtain ⟨⟨h1, _⟩, h2⟩ := h
   cases j with
   | zero =>
    simp at hx h1
    simp [← hx, h1]
   | succ j =>
    simp at hx h2
    simpa using qn h2 j x hx
noncomputable abbrev d8 : cQ := ⟨pF, qr, fun x => (bo x.1 x.2.1, ()), fun x => List.length x.1 ≤ 1000000 ∧ ByteArray.size (bo x.1 x.2.1) ≤ 1000000, false⟩
theorem qF : bh prog [] fP d8 := by
 refine ⟨f9 qk (by kernel_rfl) (by kernel_rfl), (fun h => by cases h), fun O w vs x hO _ hx hp => ?_⟩
 obtain ⟨xs, sep, ⟨⟩⟩ := x
 obtain ⟨rest, cs, rfl, ⟨a, c, L, rfl, h2, h3, h4, h5, h6, h7⟩, rest', cs', rfl, ⟨rfl, hs⟩, hn⟩ := hx
 have hn : rest' = [] := hn
 subst hn
 have hp1 : xs.length ≤ 1000000 := hp.1
 have hp2 : (Lib.join (xs.map (·.data.toList)) sep.data.toList).length ≤ 1000000 := by
  have := hp.2
  unfold bo at this
  rwa [nI] at this
 have fin : ∀ e w', e = .returned (.string (bo xs sep)) → Kept w w' → ∃ v, e = Ending.returned v ∧ Kept w w' ∧ Rep prog d8.rs .result O w' [v] (d8.g (xs, sep, ())) := by
  intro e w' he hk
  refine ⟨_, he, hk, ?_⟩
  refine ⟨[], [.string (bo xs sep)], rfl, ⟨rfl, ?_⟩, rfl⟩
  show (bo xs sep).size ≤ maxLen
  unfold bo
  rw [nI]
  exact Nat.le_trans hp2 (by decide)
 cases hx0 : xs with
 | nil =>
  subst hx0
  refine Calls.mono (Tryd.strings_Join_none a c sep w) fun e w' he => ?_
  exact fin e w' he.1 (by rw [he.2]; exact Kept.refl w)
 | cons x0 xr =>
  rw [← hx0]
  obtain ⟨ad, ha, hO', hb, hc⟩ := h6 (by rw [hx0]; exact List.cons_ne_nil _ _)
  subst ha
  obtain ⟨bk, o, sp⟩ := ad
  have hat : ∀ (j : Nat) x, xs[j]? = some x → w.cell? ((⟨bk, o, sp⟩ : Addr).add j) = some (.string x) := fun j x hx => hc j _ (qn h5 j x hx)
  have hsp : sp = none := by
   have h0 := hat 0 x0 (by rw [hx0]; rfl)
   have e : (⟨bk, o, sp⟩ : Addr).add 0 = ⟨bk, o, sp⟩ := rfl
   rw [e] at h0
   unfold World.cell? at h0
   cases sp with
   | none => rfl
   | some q =>
    exfalso
    simp only [Option.isSome_some, if_true] at h0
    split at h0 <;> cases h0
  subst hsp
  have hcells : ∀ (j : Nat) x, xs[j]? = some x → w.cell? ⟨bk, o + j, none⟩ = some (.string x) := fun j x hx => by
   have h := hat j x hx
   unfold Addr.add at h
   split at h
   ·next hj => subst hj; exact h
   ·exact h
  exact Calls.mono (Tryd.strings_Join bk o c xs sep w hcells hb (by omega) h2 (Nat.le_trans hp2 (by decide))) fun e w' he => fin e w' he.1 (qx he.2)
noncomputable abbrev gu : cQ := ⟨oo, om, fun x => (iX x.1 x.2.1, ()), fun x => (0 : Int) ≤ x.2.1 ∧ (x.2.1 : Int) ≤ 1000000 ∧ ByteArray.size x.1 = 1, false⟩
theorem oU : bh prog [] eQ gu := by
 refine ⟨f9 ol (by kernel_rfl) (by kernel_rfl), (fun h => by cases h), fun O w vs x hO _ hx hp => ?_⟩
 obtain ⟨s, c, ⟨⟩⟩ := x
 obtain ⟨rest, cs, rfl, ⟨rfl, hs⟩, rest', cs', rfl, ⟨rfl, hc⟩, hn⟩ := hx
 have hn : rest' = [] := hn
 subst hn
 have h0 : (0 : Int) ≤ c := hp.1
 have h1 : (c : Int) ≤ 1000000 := hp.2.1
 have hs1 : s.size = 1 := hp.2.2
 obtain ⟨n, hn⟩ : ∃ n : Nat, (n : Int) = c := ⟨Int.toNat c, Int.toNat_of_nonneg h0⟩
 subst hn
 have hlt : n ≤ 1000000 := Int.ofNat_le.1 h1
 refine Calls.mono (Tryd.strings_Repeat s n w (Nat.le_trans hlt (by decide)) (by rw [hs1, Nat.one_mul]; exact Nat.le_trans hlt (by decide))) fun e w' he => ?_
 refine ⟨_, he.1, qx he.2, ?_⟩
 have e : iX s (n : Int) = ⟨(Lib.repeatL s.data.toList n).toArray⟩ := rfl
 refine ⟨[], [.string (iX s n)], rfl, ⟨rfl, ?_⟩, rfl⟩
 show (iX s (n : Int)).size ≤ maxLen
 rw [e, nI, Lib.repeatL_length]
 have : s.data.toList.length = 1 := hs1
 rw [this, Nat.mul_one]
 exact Nat.le_trans hlt (by decide)
end Go.Proofs.YtnakjijahkaoaaaDoor
namespace Go.Proofs.YtnakjijahkaoaaaDoor
open Go Go.RowKit
noncomputable abbrev du : Fx := { fn := da, ann := { loops := [(5, { keep := [1, 3, 19] })], frz := [(1000005, [2, 3])] } }
noncomputable abbrev c5 : Fx := { fn := cK, ann := { loops := [(0, { keep := [0, 1] })], frz := [(1000000, [2, 3])] } }
noncomputable abbrev bm : Fx := { fn := aL, ann := { loops := [(7, { keep := [2, 3, 5, 15] })] } }
noncomputable abbrev cE : br := { D := { T := cZ, F := [(fu, ft), (dE, dG), (fP, d8), (eQ, gu)], R := [], ovl := [], G := gl }, inl := [(ko, du), (i5, c5)] }
noncomputable abbrev gN : cY := .data e9
theorem sk (h_digest_begins : bh prog gl fu ft) (h_digest_words_over : bh prog gl dE dG) (h_strings_Join : bh prog gl fP d8) (h_strings_Repeat : bh prog gl eQ gu) : XOk prog cE := xok (bw (bw (bw (bw (cM cG bV) h_strings_Repeat) h_strings_Join) h_digest_words_over) h_digest_begins) (by kernel_rfl) bW (is pd (by kernel_rfl) (is mW (by kernel_rfl) cO)) cN
noncomputable def ni (l : den (Ty.slc Ty.str)) : ae := ae.req True (ae.req (List.length l ≤ 1000000 ∧ ByteArray.size (bo l { data := { toList := [] } }) ≤ 1000000) (ae.req (ge0 3) (ae.req (ByteArray.size (bo l { data := { toList := [] } }) + ByteArray.size { data := { toList := [128] } } ≤ 1099511627776) (ae.req (nz 64) (ae.req (nz 64) (ae.req (0 ≤ Int.tmod (IntKind.wrap IntKind.i64 (120 - Int.tmod (bX (bo l { data := { toList := [] } } ++ { data := { toList := [128] } })) 64)) 64 ∧ Int.tmod (IntKind.wrap IntKind.i64 (120 - Int.tmod (bX (bo l { data := { toList := [] } } ++ { data := { toList := [128] } })) 64)) 64 ≤ 1000000 ∧ ByteArray.size { data := { toList := [0] } } = 1) (ae.req (ByteArray.size (bo l { data := { toList := [] } } ++ { data := { toList := [128] } }) + ByteArray.size (iX { data := { toList := [0] } } (Int.tmod (IntKind.wrap IntKind.i64 (120 - Int.tmod (bX (bo l { data := { toList := [] } } ++ { data := { toList := [128] } })) 64)) 64)) ≤ 1099511627776) (ae.loop [{ fx := bm, todo := bv aL 2 2, dst := some 10, s := ofS [(2, K.ptr (0 + 1) tId []), (3, K.ptr (0 + 1 + 1) af [])] }] du (lp da 5) [(1, K.ptr 0 Ty.str []), (3, K.val (Ty.int IntKind.u64) (IntKind.wrap IntKind.u64 (IntKind.wrap IntKind.u64 (bX (bo l { data := { toList := [] } })) * 2 ^ min (Int.toNat 3) (IntKind.bits IntKind.u64)))), (19, K.val ah 0)] [(0, Bx.cell Ty.str (bo l { data := { toList := [] } } ++ { data := { toList := [128] } } ++ iX { data := { toList := [0] } } (Int.tmod (IntKind.wrap IntKind.i64 (120 - Int.tmod (bX (bo l { data := { toList := [] } } ++ { data := { toList := [128] } })) 64)) 64))), (0 + 1, Bx.cell tId (zero tId)), (0 + 1 + 1, Bx.cell af io)]))))))))
theorem qc (l : den (Ty.slc Ty.str)) : aH cE gN 5000 [] bm (a8 aL) (Env.of (bf mF (l, ()) 0) []) = ni l := by kernel_rfl
noncomputable def d9 (v3 : den (Ty.int IntKind.u64)) (v19 : den ah) (b0 : den Ty.str) (b1 : den tId) (b2 : den af) : List bl := [{ fx := bm, todo := bv aL 2 2, dst := some 10, s := ofS [(2, K.ptr (0 + 1) tId []), (3, K.ptr (0 + 1 + 1) af [])] }]
noncomputable def eB (v3 : den (Ty.int IntKind.u64)) (v19 : den ah) (b0 : den Ty.str) (b1 : den tId) (b2 : den af) : Env := Env.of [(1, K.ptr 0 Ty.str []), (3, K.val (Ty.int IntKind.u64) v3), (19, K.val ah v19)] [(0, Bx.cell Ty.str b0), (1, Bx.cell tId b1), (2, Bx.cell af b2)]
noncomputable def hK (v3 : den (Ty.int IntKind.u64)) (v19 : den ah) (b0 : den Ty.str) (b1 : den tId) (b2 : den af) : ae := ae.ite (decide (v19 < 8)) (ae.req (ge0 (IntKind.wrap IntKind.i64 (8 * IntKind.wrap IntKind.i64 (7 - v19)))) (ae.req (ByteArray.size b0 + ByteArray.size (aQ (List.set (List.replicate 1 (zero (Ty.int IntKind.u8))) 0 (IntKind.wrap IntKind.u8 (Int.fdiv v3 (2 ^ min (Int.toNat (IntKind.wrap IntKind.i64 (8 * IntKind.wrap IntKind.i64 (7 - v19)))) (IntKind.bits IntKind.u64)))))) ≤ 1099511627776) (ae.loop [{ fx := bm, todo := bv aL 2 2, dst := some 10, s := ofS [(2, K.ptr (0 + 1) tId []), (3, K.ptr (0 + 1 + 1) af [])] }] du (lp da 5) [(1, K.ptr 0 Ty.str []), (3, K.val (Ty.int IntKind.u64) v3), (19, K.val ah (IntKind.wrap IntKind.i64 (v19 + 1)))] [(0, Bx.cell Ty.str (b0 ++ aQ (List.set (List.replicate 1 (zero (Ty.int IntKind.u8))) 0 (IntKind.wrap IntKind.u8 (Int.fdiv v3 (2 ^ min (Int.toNat (IntKind.wrap IntKind.i64 (8 * IntKind.wrap IntKind.i64 (7 - v19)))) (IntKind.bits IntKind.u64))))))), (0 + 1, Bx.cell tId b1), (0 + 1 + 1, Bx.cell af b2)]))) (ae.loop [{ fx := bm, todo := lZ aL 4, dst := none, s := ofS [(2, K.ptr (0 + 1 + 1) tId []), (3, K.ptr (0 + 1 + 1 + 1) af [])], rng := some 0 }] c5 (lp cK 0) [(0, K.yld 0), (1, K.ptr (0 + 1) Ty.str [])] [(0, Bx.lop LoopState.ready none [(3, K.ptr (0 + 1 + 1 + 1) af [])] 32 (xn aL 4) (oZ aL 4) (sI aL 4)), (0 + 1, Bx.cell Ty.str b0), (0 + 1 + 1, Bx.cell tId b1), (0 + 1 + 1 + 1, Bx.cell af b2)])
theorem dt (v3 : den (Ty.int IntKind.u64)) (v19 : den ah) (b0 : den Ty.str) (b1 : den tId) (b2 : den af) : aH cE gN 5000 (d9 v3 v19 b0 b1 b2) du (lp da 5) (eB v3 v19 b0 b1 b2) = hK v3 v19 b0 b1 b2 := by kernel_rfl
noncomputable def dP (b1 : den Ty.str) (b2 : den tId) (b3 : den af) : List bl := [{ fx := bm, todo := lZ aL 4, dst := none, s := ofS [(2, K.ptr (0 + 1 + 1) tId []), (3, K.ptr (0 + 1 + 1 + 1) af [])], rng := some 0 }]
noncomputable def dR (b1 : den Ty.str) (b2 : den tId) (b3 : den af) : Env := Env.of [(0, K.yld 0), (1, K.ptr (0 + 1) Ty.str [])] [(0, Bx.lop LoopState.ready none [(3, K.ptr (0 + 1 + 1 + 1) af [])] 32 (xn aL 4) (oZ aL 4) (sI aL 4)), (1, Bx.cell Ty.str b1), (2, Bx.cell tId b2), (3, Bx.cell af b3)]
noncomputable def gE (b1 : den Ty.str) (b2 : den tId) (b3 : den af) : ae := ae.ite (!eqb Ty.str b1 { data := { toList := [] } }) (ae.req (a7 0 64 (bX b1)) (ae.req (ByteArray.size (eC b1 0 64) = 64) (ae.ite (!true) (ae.loop [] bm (lp aL 7) [(2, K.ptr 0 tId []), (3, K.ptr (0 + 1) af []), (5, K.ptr (0 + 1 + 1) tId []), (15, K.val ah 0)] [(0, Bx.cell tId b2), (0 + 1, Bx.cell af (nJ b3 (eC b1 0 64))), (0 + 1 + 1, Bx.cell tId (zero tId))]) (ae.req (a7 64 (bX b1) (bX b1)) (ae.loop [{ fx := bm, todo := lZ aL 4, dst := none, s := ofS [(2, K.ptr (0 + 1 + 1) tId []), (3, K.ptr (0 + 1 + 1 + 1) af [])], rng := some 0 }] c5 (lp cK 0) [(0, K.yld 0), (1, K.ptr (0 + 1) Ty.str [])] [(0, Bx.lop LoopState.ready none [(3, K.ptr (0 + 1 + 1 + 1) af [])] 32 (xn aL 4) (oZ aL 4) (sI aL 4)), (0 + 1, Bx.cell Ty.str (eC b1 64 (bX b1))), (0 + 1 + 1, Bx.cell tId b2), (0 + 1 + 1 + 1, Bx.cell af (nJ b3 (eC b1 0 64)))]))))) (ae.loop [] bm (lp aL 7) [(2, K.ptr 0 tId []), (3, K.ptr (0 + 1) af []), (5, K.ptr (0 + 1 + 1) tId []), (15, K.val ah 0)] [(0, Bx.cell tId b2), (0 + 1, Bx.cell af b3), (0 + 1 + 1, Bx.cell tId (zero tId))])
theorem de (b1 : den Ty.str) (b2 : den tId) (b3 : den af) : aH cE gN 5000 (dP b1 b2 b3) c5 (lp cK 0) (dR b1 b2 b3) = gE b1 b2 b3 := by kernel_rfl
noncomputable def lk (v15 : den ah) (b0 : den tId) (b1 : den af) (b2 : den tId) : Env := Env.of [(2, K.ptr 0 tId []), (3, K.ptr (0 + 1) af []), (5, K.ptr (0 + 1 + 1) tId []), (15, K.val ah v15)] [(0, Bx.cell tId b0), (1, Bx.cell af b1), (2, Bx.cell tId b2)]
noncomputable def pS (v15 : den ah) (b0 : den tId) (b1 : den af) (b2 : den tId) : ae := ae.ite (decide (v15 < 32)) (ae.req (nz 4) (ae.req (inB (IntKind.wrap IntKind.i64 (Int.tdiv v15 4)) (↑8 : Int)) (ae.req (nz 4) (ae.req (ge0 (IntKind.wrap IntKind.i64 (24 - IntKind.wrap IntKind.i64 (8 * Int.tmod v15 4)))) (ae.req (inB v15 (↑32 : Int)) (ae.loop [] bm (lp aL 7) [(2, K.ptr 0 tId []), (3, K.ptr (0 + 1) af []), (5, K.ptr (0 + 1 + 1) tId []), (15, K.val ah (IntKind.wrap IntKind.i64 (v15 + 1)))] [(0, Bx.cell tId b0), (0 + 1, Bx.cell af b1), (0 + 1 + 1, Bx.cell tId (eZ (Ty.int IntKind.u8) b2 v15 (IntKind.wrap IntKind.u8 (Int.fdiv (el (Ty.int IntKind.u32) b1 (IntKind.wrap IntKind.i64 (Int.tdiv v15 4))) (2 ^ min (Int.toNat (IntKind.wrap IntKind.i64 (24 - IntKind.wrap IntKind.i64 (8 * Int.tmod v15 4)))) (IntKind.bits IntKind.u32))))))])))))) (ae.ret (K.val (Ty.pair tId Ty.unit) (b2, PUnit.unit)))
theorem iF (v15 : den ah) (b0 : den tId) (b1 : den af) (b2 : den tId) : aH cE gN 5000 [] bm (lp aL 7) (lk v15 b0 b1 b2) = pS v15 b0 b1 b2 := by kernel_rfl
end Go.Proofs.YtnakjijahkaoaaaDoor
namespace Go.Proofs.YtnakjijahkaoaaaDoor
open Go Go.RowKit
def e0 : ByteArray := { data := { toList := [] } }
def pq : ByteArray := { data := { toList := [128] } }
def bz : ByteArray := { data := { toList := [0] } }
def kO (s : ByteArray) : Int := Int.tmod (IntKind.wrap .i64 (120 - Int.tmod (bX (s ++ pq)) 64)) 64
def p4 (s : ByteArray) : Int := IntKind.wrap .u64 (IntKind.wrap .u64 (bX s) * 2 ^ min (Int.toNat 3) (IntKind.bits .u64))
def sa (s : ByteArray) (i : Int) : ByteArray :=
 aQ (List.set (List.replicate 1 (zero (Ty.int IntKind.u8))) 0
  (IntKind.wrap .u8 (Int.fdiv (p4 s) (2 ^ min (Int.toNat (IntKind.wrap .i64 (8 * IntKind.wrap .i64 (7 - i)))) (IntKind.bits .u64)))))
def pe (s : ByteArray) : Nat → ByteArray
 | 0 => s ++ pq ++ iX bz (kO s)
 | i + 1 => pe s i ++ sa s i
def goR : Nat → ByteArray → List Int → List Int
 | 0, _, h => h
 | m + 1, s, h => goR m (eC s 64 (bX s)) (nJ h (eC s 0 64))
def zu (h : List Int) (i : Int) : Int :=
 IntKind.wrap .u8 (Int.fdiv (el (Ty.int IntKind.u32) h (IntKind.wrap .i64 (Int.tdiv i 4))) (2 ^ min (Int.toNat (IntKind.wrap .i64 (24 - IntKind.wrap .i64 (8 * Int.tmod i 4)))) (IntKind.bits .u32)))
def qI (h : List Int) : Nat → List Int
 | 0 => zero tId
 | i + 1 => eZ (Ty.int IntKind.u8) (qI h i) i (zu h i)
def n6 (s : ByteArray) : Nat := (s.size + 8) / 64 + 1
def vD (s : ByteArray) : List Int := qI (goR (n6 s) (pe s 8) io) 32
def iD (l : List ByteArray) : List Int := vD (bo l e0)
theorem wg {n : Int} (h : 0 ≤ n) : ((iX bz n).size : Int) = n := by
 unfold iX
 rw [nI, Lib.repeatL_length]
 have : bz.data.toList.length = 1 := rfl
 rw [this, Nat.mul_one, Int.toNat_of_nonneg h]
theorem qd (s : ByteArray) (i : Int) : (sa s i).size = 1 := rfl
theorem n9 {s : ByteArray} (hs : s.size ≤ 900000) : kO s = (120 - ((s.size : Int) + 1) % 64) % 64 := by
 have h1 : bX (s ++ pq) = (s.size : Int) + 1 := by
  unfold bX
  rw [ByteArray.size_append]
  rfl
 unfold kO
 have h2 : Int.tmod ((s.size : Int) + 1) 64 = ((s.size : Int) + 1) % 64 := Int.tmod_eq_emod_of_nonneg (by omega)
 rw [h1, h2, gB (by omega)]
 exact Int.tmod_eq_emod_of_nonneg (by omega)
theorem kA {s : ByteArray} (hs : s.size ≤ 900000) : ∀ i : Nat, ((pe s i).size : Int) = (s.size : Int) + 1 + (120 - ((s.size : Int) + 1) % 64) % 64 + i
 | 0 => by
  have h0 : (0 : Int) ≤ kO s := by rw [n9 hs]; exact Int.emod_nonneg _ (by decide)
  show ((s ++ pq ++ iX bz (kO s)).size : Int) = _
  rw [ByteArray.size_append, ByteArray.size_append]
  have h1 := wg h0
  rw [n9 hs] at h1
  have h2 : pq.size = 1 := rfl
  rw [n9 hs]
  omega
 | i + 1 => by
  show ((pe s i ++ sa s i).size : Int) = _
  rw [ByteArray.size_append, qd]
  have := kA hs i
  omega
theorem xG {s : ByteArray} (hs : s.size ≤ 900000) : (pe s 8).size = 64 * n6 s := by
 have h := kA hs 8
 unfold n6
 omega
theorem dc : XOk prog cE := sk (bF pJ) mK (bF qF) (bF oU)
theorem pI : ∀ i : Nat, i < 32 → (0 ≤ IntKind.wrap .i64 (Int.tdiv (i : Int) 4) ∧ IntKind.wrap .i64 (Int.tdiv (i : Int) 4) < ((8 : Nat) : Int)) ∧
    0 ≤ IntKind.wrap .i64 (24 - IntKind.wrap .i64 (8 * Int.tmod (i : Int) 4)) := by decide
def qh (O : Nat → Prop) (w0 : World) (b0 h : List Int) (out : List Int) (ho : out = qI h 32) :=
 PLift.up <| eI (σ := List Int) 32 (fun i b => b = qI h i)
  (fun i b => bt prog cE (Cx.base O w0) (fY prog O w0 e9 fun y => y = (out, ())) [] bm (lp aL 7) (lk (i : Nat) b0 h b))
  (fun i b hi hb ih => bg dc (iF _ b0 h b) (by
   refine ⟨fun _ => ⟨show (4 : Int) ≠ 0 by decide, (pI i hi).1, show (4 : Int) ≠ 0 by decide, (pI i hi).2, ⟨Int.natCast_nonneg _, Int.ofNat_lt.2 hi⟩, ?_⟩, fun h => ?_⟩
   ·rw [fa hi (by omega)]
    refine ih _ ?_
    rw [hb]
    rfl
   ·exact absurd (Int.ofNat_lt.2 hi) (of_decide_eq_false h)))
  (fun b hb => bg dc (iF _ b0 h b) (by
   refine ⟨fun h => ?_, fun _ => ⟨_, rfl, ?_⟩⟩
   ·exact absurd (of_decide_eq_true h) (by decide)
   ·show (b, ()) = (out, ())
    rw [hb, ho]))
theorem w3 {s : ByteArray} {m : Nat} (h : s.size = 64 * (m + 1)) : (eC s 64 (bX s)).size = 64 * m := by
 unfold eC bX
 rw [ByteArray.size_extract, Int.toNat_natCast]
 have : Int.toNat 64 = 64 := rfl
 omega
theorem wT {s : ByteArray} {m : Nat} (h : s.size = 64 * (m + 1)) : (eC s 0 64).size = 64 := by
 unfold eC
 rw [ByteArray.size_extract]
 have h1 : Int.toNat 64 = 64 := rfl
 have h2 : Int.toNat 0 = 0 := rfl
 omega
theorem oY (O : Nat → Prop) (w0 : World) (b2 out : List Int) (m : Nat) : ∀ (s : ByteArray) (h : List Int), s.size = 64 * m → out = qI (goR m s h) 32 →
    bt prog cE (Cx.base O w0) (fY prog O w0 e9 fun y => y = (out, ())) (dP s b2 h) c5 (lp cK 0) (dR s b2 h) := by
  induction m with
  | zero =>
    intro s h hs ho
    have e : s = e0 := ByteArray.ext (Array.eq_empty_of_size_eq_zero hs)
    have e1 : eqb Ty.str s e0 = true := (ji (t := .str) rfl s e0).2 e
    refine bg dc (de s b2 h) ⟨fun hc => ?_, fun _ => ?_⟩
    · have hc : (!eqb Ty.str s e0) = true := hc
      rw [e1] at hc
      cases hc
    · exact (qh O w0 b2 h out ho).down 0 _ (Nat.zero_le _) rfl
  | succ m ih =>
    intro s h hs ho
    have hl : bX s = 64 * ((m : Int) + 1) := by unfold bX; rw [hs]; omega
    refine bg dc (de s b2 h) ⟨fun _ => ⟨?_, wT hs, fun hc => ?_, fun _ => ⟨?_, ?_⟩⟩, fun hc => ?_⟩
    · rw [hl]
      exact ⟨by decide, by decide, by omega⟩
    · cases hc
    · rw [hl]
      exact ⟨by decide, by omega, Int.le_refl _⟩
    · exact ih _ _ (w3 hs) ho
    · have hc : (!eqb Ty.str s e0) = false := hc
      have e : s = e0 := (ji (t := .str) rfl s e0).1 (by cases h1 : eqb Ty.str s e0 with | true => rfl | false => rw [h1] at hc; cases hc)
      rw [e] at hs
      have : e0.size = 0 := rfl
      omega
def pA (O : Nat → Prop) (w0 : World) (s : ByteArray) (hs : s.size ≤ 900000) :=
 PLift.up <| eI (σ := ByteArray) 8 (fun i b => b = pe s i)
  (fun i b => bt prog cE (Cx.base O w0) (fY prog O w0 e9 fun y => y = (vD s, ())) (d9 (p4 s) (i : Nat) b (zero tId) io) du (lp da 5) (eB (p4 s) (i : Nat) b (zero tId) io))
  (fun i b hi hb ih => bg dc (dt (p4 s) _ b _ _) (by
   have hz : b.size ≤ 1000000 := by have := kA hs i; rw [hb]; omega
   refine ⟨fun _ => ⟨?_, ?_, ?_⟩, fun h => ?_⟩
   ·show (0 : Int) ≤ IntKind.wrap .i64 (8 * IntKind.wrap .i64 (7 - (i : Int)))
    rw [gB (n := 7 - (i : Int)) (by omega), gB (by omega)]
    omega
   ·show b.size + (sa s i).size ≤ _
    rw [qd]
    omega
   ·rw [fa hi (by omega)]
    refine ih _ ?_
    rw [hb]
    rfl
   ·exact absurd (Int.ofNat_lt.2 hi) (of_decide_eq_false h)))
  (fun b hb => bg dc (dt (p4 s) _ b _ _) (by
   refine ⟨fun h => ?_, fun _ => ?_⟩
   ·exact absurd (of_decide_eq_true h) (by decide)
   ·exact oY O w0 _ _ (n6 s) b io (by rw [hb]; exact xG hs) (by rw [hb]; rfl)))
noncomputable abbrev eF : cQ := ⟨mF, e9, fun x => (iD x.1, ()), fun x => List.length x.1 ≤ 1000000 ∧ ByteArray.size (bo x.1 e0) ≤ 900000, false⟩
theorem nH : bh prog gl ep eF :=
 eS (S := eF) dc (fx := bm) rO (by kernel_rfl) (fun h => by cases h) (T := fun x => ni x.1) (fun x => qc x.1) fun O w0 x _ hp => by
  obtain ⟨l, ⟨⟩⟩ := x
  have hp1 : List.length l ≤ 1000000 := hp.1
  have hp2 : (bo l e0).size ≤ 900000 := hp.2
  have hk : kO (bo l e0) = _ := n9 hp2
  refine ⟨trivial, ⟨hp1, Nat.le_trans hp2 (by decide)⟩, by show (0 : Int) ≤ 3; decide, ?_, show (64 : Int) ≠ 0 by decide, show (64 : Int) ≠ 0 by decide, ⟨?_, ?_, rfl⟩, ?_, ?_⟩
  ·show (bo l e0).size + 1 ≤ _
   omega
  ·show (0 : Int) ≤ kO (bo l e0)
   rw [hk]; omega
  ·show kO (bo l e0) ≤ 1000000
   rw [hk]; omega
  ·show (bo l e0 ++ pq).size + (iX bz (kO (bo l e0))).size ≤ _
   have h := kA hp2 0
   have : (pe (bo l e0) 0).size = (bo l e0 ++ pq).size + (iX bz (kO (bo l e0))).size := ByteArray.size_append
   omega
  ·exact (pA O w0 (bo l e0) hp2).down 0 _ (Nat.zero_le _) rfl
end Go.Proofs.YtnakjijahkaoaaaDoor
namespace Go.Proofs.YtnakjijahkaoaaaDoor
open Go Go.RowKit
end Go.Proofs.YtnakjijahkaoaaaDoor
namespace Go.Proofs.YtnakjijahkaoaaaDoor
open Go Go.RowKit Go.ChangeShapes Go.WideShapes Go.ChangeAt
def lL : List (String × DataW Unit) := [("posthouse/digest.keys", Rows.laid_posthouse_digest_keys)]
noncomputable def u4 : Nat := ((prog.globals[0]?).map (·.type)).getD 0
theorem w7 : (prog.globals[0]?).map (·.type) = some u4 := by kernel_rfl
theorem wQ : cZ.lookup u4 = some (.arr 64 (.int .u32)) := by kernel_rfl
theorem zt : prog.globalNamed "posthouse/digest.keys" = some 0 := by kernel_rfl
def wH : DataW Unit → Int := fun | .lit (.int _ n) => n | _ => 0
theorem m5 {P : Program} {O : Nat → Prop} {w : World} {k : IntKind} : ∀ (cs : List Value) (ds : List (DataW Unit)), cs.length = ds.length →
    (∀ (i : Nat) c d, cs[i]? = some c → ds[i]? = some d → ∃ z, c = .int k z ∧ d = .lit (.int k z) ∧ InK k z) → ai (fun cs x => Rep P (.int k) .cells O w cs x) 1 cs (ds.map wH)
  | [], [], _, _ => rfl
  | c :: cs, d :: ds, hl, h => by
    obtain ⟨z, e1, e2, e3⟩ := h 0 c d rfl rfl
    refine ⟨?_, m5 cs ds (by simpa using hl) fun i c d hc hd => h (i + 1) c d hc hd⟩
    rw [e1, e2]
    exact ⟨rfl, e3⟩
  | [], _ :: _, hl, _ => by simp at hl
  | _ :: _, [], hl, _ => by simp at hl
theorem wu : gI.length = 64 := by kernel_rfl
def u9 : DataW Unit → List (DataW Unit)
 | .agg l => l
 | _ => []
theorem yE : (Rows.laid_posthouse_digest_keys : DataW Unit) = .agg (u9 Rows.laid_posthouse_digest_keys) := by kernel_rfl
theorem xM : gI = (u9 Rows.laid_posthouse_digest_keys).map wH := by kernel_rfl
theorem wK {W : World} (h : laidMetH prog lL W) : GlobOk prog gl (fun _ => False) W := by
  rw [MakeChecks.laidMetH_plain _ _ _ (by kernel_rfl)] at h
  obtain ⟨ps, ⟨g0, t0, cs0, f0, p0, q0, hg0, ht0, hv0, hd0, _, _⟩, _, _⟩ := h
  obtain rfl := Option.some.inj (zt.symm.trans hg0)
  obtain rfl := Option.some.inj (w7.symm.trans ht0)
  have hf := fU cG wQ
  obtain ⟨e, hu, he, _⟩ := dm hf.shape
  obtain ⟨xs, k, hm, hx, h3, h4, h5⟩ := DataW.trod_array hu hd0
  have hfe := fU cG he
  have hse : prog.cellsOf e = 1 := nh hfe
  have hst : prog.cellsOf u4 = 64 := nh hf
  rw [yE] at hx
  have hx1 : u9 Rows.laid_posthouse_digest_keys = xs.map (·.1) := DataW.agg.inj (Prod.mk.inj hx).1
  have hlen : cs0.toList.length = 64 := h3.trans hst
  have hrep : ai (fun cs x => Rep prog (.int .u32) .cells (fun _ => False) W cs x) 1 cs0.toList gI := by
    rw [xM]
    refine m5 _ _ ?_ fun i c d hc hd => ?_
    · rw [hlen, hx1, List.length_map, h4]
    · have hi : i < 64 := by
        have := (List.getElem?_eq_some_iff.1 hc).1
        omega
      have h6 := h5 i hi
      rw [hse, Nat.mul_one] at h6
      have hc1 : (cs0.toList.drop i).take 1 = [c] := by
        have hlt : i < cs0.toList.length := by omega
        rw [List.drop_eq_getElem_cons hlt]
        have : cs0.toList[i] = c := by
          rw [List.getElem?_eq_getElem hlt] at hc
          exact Option.some.inj hc
        rw [this]
        rfl
      rw [hc1] at h6
      rw [hx1, List.getElem?_map] at hd
      cases hxi : xs[i]? with
      | none => rw [hxi] at hd; cases hd
      | some x =>
        rw [hxi] at hd h6
        obtain ⟨z, e1, e2, e3⟩ := DataW.trod_int (cw hfe.shape) h6
        have hd : x.1 = d := Option.some.inj hd
        refine ⟨z, ?_, ?_, rv e3⟩
        · exact (List.cons.inj e1).1
        · rw [← hd, e2]
  have hcell : ∀ j, W.cell? ⟨0, j, none⟩ = cs0[j]? := fun j => World.var?_cell hg0 hv0 j
  intro g t y hl
  have hg : g = 0 ∧ (⟨t, y⟩ : (t : Ty) × den t) = ⟨.arr 64 (.int .u32), gI⟩ := by
    have hl : List.lookup g [((0 : Nat), (⟨.arr 64 (.int .u32), gI⟩ : (t : Ty) × den t))] = some ⟨t, y⟩ := hl
    rw [List.lookup_cons] at hl
    by_cases hg : g = 0
    · subst hg
      exact ⟨rfl, (Option.some.inj hl).symm⟩
    · have : (g == 0) = false := by simpa using hg
      rw [this] at hl
      cases hl
  obtain ⟨rfl, e⟩ := hg
  cases e
  refine ⟨cs0.toList, fun h => h, ?_, fun j u hj => ?_, wu, hrep⟩
  · have h0 := hcell 0
    have : cs0[0]? ≠ none := by
      intro hn
      have hlt : 0 < cs0.size := by
        have : cs0.toList.length = cs0.size := by simp
        omega
      rw [Array.getElem?_eq_getElem hlt] at hn
      cases hn
    show 0 < W.heap.size
    rcases Nat.eq_zero_or_pos W.heap.size with hz | hz
    · exfalso
      apply this
      rw [← h0]
      simp [World.cell?, hz]
    · exact hz
  · have e : (⟨0, 0, none⟩ : Addr).add j = ⟨0, j, none⟩ := by
      unfold Addr.add
      split
      · next h => subst h; rfl
      · show (⟨0, 0 + j, none⟩ : Addr) = _
        rw [Nat.zero_add]
    rw [e, hcell]
    simpa using hj
set_option maxRecDepth 100000 in
theorem va {H : Type} {enc : TypeId × Value → H} {w : World} {Gl : fM} (hg : GlobOk prog Gl (fun _ => False) w) {f : FuncId} {aty : Ty} (hk : bh prog Gl f (xl aty)) {ts : List TypeId} (hc : f5 prog cZ ts aty = true) {r : Reach} {b0 : Nat} {spare : Nat → Bool} {held : Bool} {args : Array Value} {ds : List (DataW H)} {ps : List MemPlace}
    (h : DataW.TrodAll enc prog w 0 spare held ts args.toList ds ps) (hv : ∀ (j : Nat) t v, ts[j]? = some t → args[j]? = some v → Value.okWide prog w r b0 t v) : Calls prog f args w fun e w' => e = .returned (.bool true) ∧ Below w.heap.size w w' := by
  obtain ⟨x, hx⟩ := mt cG ts aty args.toList ds ps hc h (fun j t v hj hv' => hv j t v hj (by simpa using hv'))
  have := hk.does (fun _ => False) w args.toList x (fun _ h => h.elim) hg hx trivial
  rw [Array.toArray_toList] at this
  refine Calls.mono this fun e w' ⟨v, e1, e2, rest, cs, e3, e4, e5⟩ => ?_
  have e4 : cs = [.bool true] := e4
  subst e4
  have e3 : [v] = [Value.bool true] := e3
  have : v = .bool true := by simpa using e3
  subst this
  exact ⟨e1, ⟨e2.os, e2.tape, e2.output, e2.size, e2.block⟩⟩
theorem xe (os : Os) (args : Array Value) : laidMetH prog lL ((World.laidAll prog os lL).forCall (fun _ _ => 0) ⟨#[], args, []⟩).memory := by
 rw [MakeChecks.laidMetH_plain _ _ _ (by kernel_rfl)]
 exact laidMet_laidAll _ (by kernel_rfl) (by kernel_rfl)
end Go.Proofs.YtnakjijahkaoaaaDoor
namespace Go.Proofs.YtnakjijahkaoaaaDoor
open Go Go.RowKit
abbrev Lk := den ab
end Go.Proofs.YtnakjijahkaoaaaDoor
namespace Go.Proofs.YtnakjijahkaoaaaDoor
open Go Go.RowKit
noncomputable abbrev lv : Fx := { fn := iR, ann := { frz := [(1, [1])] } }
noncomputable abbrev mu : br := { D := { T := cZ, F := [], R := [], ovl := [] }, inl := [] }
noncomputable abbrev rM : cY := .data lj
theorem rL : XOk prog mu := xok ((cM cG bV)) (by kernel_rfl) bW cO cN
noncomputable def mi (id : den tId) : ae := ae.req (a7 0 16 (↑32 : Int)) (ae.req (16 ≤ List.length (aj (Ty.int IntKind.u8) id 0 16)) (ae.ret (K.val (Ty.pair ak Ty.unit) (List.take 16 (aj (Ty.int IntKind.u8) id 0 16), PUnit.unit))))
theorem oX (id : den tId) : aH mu rM 5000 [] lv (a8 iR) (Env.of (bf lx (id, ()) 0) []) = mi id := by kernel_rfl
noncomputable abbrev gO : Fx := { fn := fg, ann := { }, own := [5] }
noncomputable abbrev ia : br := { D := { T := cZ, F := [], R := [], ovl := [] }, inl := [] }
noncomputable abbrev mI : cY := .row (ab)
theorem mJ : XOk prog ia := xok ((cM cG bV)) (by kernel_rfl) bW cO cN
noncomputable def ig (s : den (Ty.slc ab)) : ae := ae.all Bool (fun (c : Bool) ↦ c = true → s = []) fun (q1 : Bool) ↦ ae.ite q1 (ae.ret (K.val (Ty.slc ab) [])) (ae.req (List.length (List.replicate 0 (zero ab) ++ s) ≤ bN) (ae.req (vok 0 (List.length (List.replicate 0 (zero ab) ++ s)) (List.length (List.replicate 0 (zero ab) ++ s))) (ae.ret (K.val (Ty.slc ab) (r9 ab (List.replicate 0 (zero ab) ++ s) 0 (List.length (List.replicate 0 (zero ab) ++ s)))))))
theorem kH (s : den (Ty.slc ab)) : aH ia mI 5000 [] gO (a8 fg) (Env.of (bf (Ty.pair (Ty.slc ab) Ty.unit) (s, ()) 0) []) = ig s := by kernel_rfl
end Go.Proofs.YtnakjijahkaoaaaDoor
namespace Go.Proofs.YtnakjijahkaoaaaDoor
open Go Go.RowKit
def aJ (id : List Int) : List Int := List.take 16 id
noncomputable abbrev dI : cQ := ⟨lx, lj, fun x => (aJ x.1, ()), fun _ => True, true⟩
theorem mj : bh prog [] dH dI :=
 eS (S := dI) rL (fx := lv) rl (by kernel_rfl) (fun _ _ => trivial) (T := fun x => mi x.1) (fun x => oX x.1) fun O w0 x hk _ => by
  obtain ⟨id, ⟨⟩⟩ := x
  have hl : List.length id = 32 := hk.1.1
  have e : aj (Ty.int IntKind.u8) id 0 16 = List.take 16 id := rfl
  refine ⟨⟨by decide, by decide, by decide⟩, ?_, _, rfl, ?_⟩
  ·rw [e]
   show 16 ≤ (List.take 16 id).length
   rw [List.length_take]
   omega
  ·rw [e]
   show (List.take 16 (List.take 16 id), ()) = (List.take 16 id, ())
   rw [List.take_take]; rfl
@[reducible] def fm : gb := ⟨ab, false, .pair (.slc ab) .unit, true, fun _ y => y.1.length ≤ bN, fun _ y => y.1⟩
theorem lA : kC prog [] dD fm :=
 yg mJ (fx := gO) rfl ly (by kernel_rfl) (T := fun _ y => ig y.1) (fun xs y _ => kH y.1) fun O w0 bk xs y hxl hy hp => by
  obtain ⟨s, ⟨⟩⟩ := y
  refine fun c hc => ⟨fun hx => ?_, fun hx => ?_⟩
  ·show K.val _ _ = K.val _ s
   rw [show s = [] from hc hx]
  ·refine ⟨?_, ?_, ?_⟩
   ·simpa using hp
   ·simp [vok]
   ·show K.val (.slc ab) (r9 ab (List.replicate 0 (zero ab) ++ s) 0 (List.length (List.replicate 0 (zero ab) ++ s))) = K.val _ s
    rw [wz _ rfl]; rfl
end Go.Proofs.YtnakjijahkaoaaaDoor
namespace Go.Proofs.YtnakjijahkaoaaaDoor
open Go Go.RowKit
noncomputable abbrev lM : Fx := { fn := ie, ann := { } }
noncomputable abbrev lW : Fx := { fn := hY, ann := { } }
noncomputable abbrev nv : Fx := { fn := i4, ann := { } }
noncomputable abbrev aB : Fx := { fn := az, ann := { loops := [(5, { keep := [0, 1, 5, 6] })], frz := [(1000005, [4, 5])] }, own := [41] }
noncomputable abbrev aZ : Fx := { fn := aX, ann := { loops := [(2, { keep := [0, 1, 7, 8] })], frz := [(1000002, [0, 1]), (2000002, [4, 5])] } }
noncomputable abbrev am : Fx := { fn := an, ann := { loops := [(4, { keep := [4], own := [(4, (.ref ab))] }), (6, { keep := [4, 5, 14, 15, 16] })] }, own := [5] }
noncomputable abbrev bn : br := { D := { T := cZ, F := [(dH, dI)], R := [(dD, fm)], ovl := [] }, inl := [(ij, lM), (ik, lW), (aD, nv), (fC, aB), (fV, aZ)] }
noncomputable abbrev cB : cY := .data dw
theorem pW (h_proof_keyOf : bh prog [] dH dI) (h_slices_Clone_Link : kC prog [] dD fm) : XOk prog bn := xok (bw (cM cG bV) h_proof_keyOf) (by kernel_rfl) (xi h_slices_Clone_Link bW) (is mb (by kernel_rfl) (is lJ (by kernel_rfl) (is nS (by kernel_rfl) (is jc (by kernel_rfl) (is jv (by kernel_rfl) cO))))) cN
noncomputable def kg (l : den (Ty.slc ab)) : ae := ae.ite (decide (64 < lnx ab l)) (ae.ret (K.val (Ty.pair Ty.bool (Ty.pair ah Ty.unit)) (false, 2, PUnit.unit))) (ae.req (List.length l ≤ bN) (ae.loop [] am (lp an 4) [(4, K.val (Ty.slc ab) l)] []))
theorem nm (l : den (Ty.slc ab)) : aH bn cB 5000 [] am (a8 an) (Env.of (bf jJ (l, ()) 0) []) = kg l := by kernel_rfl
noncomputable def d3 (v4 : den (Ty.slc ab)) : Env := Env.of [(4, K.val (Ty.slc ab) v4)] []
noncomputable def mN (v4 : den (Ty.slc ab)) : ae := ae.loop [] am (lp an 6) [(4, K.val (Ty.slc ab) v4), (5, K.ptr 0 ag []), (14, K.val (Ty.slc ab) v4), (15, K.val ah (lnx ab v4)), (16, K.val ah 0)] [(0, Bx.obj ag (K.agg (Ty.pair (Ty.mp ak Ty.bool) Ty.unit) (K.kcons K.nilmp K.knil)))]
theorem kW (v4 : den (Ty.slc ab)) : aH bn cB 5000 [] am (lp an 4) (d3 v4) = mN v4 := by kernel_rfl
noncomputable def i7 (v4 : den (Ty.slc ab)) (v14 : den (Ty.slc ab)) (v15 : den ah) (v16 : den ah) : Env := Env.of [(4, K.val (Ty.slc ab) v4), (5, K.ptr 0 ag []), (14, K.val (Ty.slc ab) v14), (15, K.val ah v15), (16, K.val ah v16)] [(0, Bx.obj ag (K.agg (Ty.pair (Ty.mp ak Ty.bool) Ty.unit) (K.kcons K.nilmp K.knil)))]
noncomputable def nd (v4 : den (Ty.slc ab)) (v14 : den (Ty.slc ab)) (v15 : den ah) (v16 : den ah) : ae := ae.ite (decide (v16 < v15)) (ae.req (inB v16 (lnx ab v14)) (ae.req True (ae.ite true (ae.loop [] am (lp an 6) [(4, K.val (Ty.slc ab) v4), (5, K.ptr 0 ag []), (14, K.val (Ty.slc ab) v14), (15, K.val ah v15), (16, K.val ah (IntKind.wrap IntKind.i64 (v16 + 1)))] [(0, Bx.obj ag (K.agg (Ty.pair (Ty.mp ak Ty.bool) Ty.unit) (K.kcons (K.pm (0 + 1)) K.knil))), (0 + 1, Bx.mpd ak Ty.bool (dM [] (aJ (Prod.fst (el ab v14 v16))) true))]) (ae.bad (1000 + 3))))) (ae.req (List.length v4 ≤ bN) (ae.loop [{ fx := aB, todo := bv az 1 2, dst := some 10, s := ofS [(0, K.sl 0 ab), (1, K.clo aD (K.kcons (K.ptr (0 + 1) ag []) K.knil))] }, { fx := am, todo := bv an 10 3, dst := some 28, s := ofS [(4, K.val (Ty.slc ab) v4), (5, K.ptr (0 + 1) ag [])] }] aZ (lp aX 2) [(0, K.sl 0 ab), (1, K.clo aD (K.kcons (K.ptr (0 + 1) ag []) K.knil)), (7, K.val ah (lnx ab v4)), (8, K.val ah 0)] [(0, Bx.row ab v4), (0 + 1, Bx.obj ag (K.agg (Ty.pair (Ty.mp ak Ty.bool) Ty.unit) (K.kcons K.nilmp K.knil)))]))
theorem gC (v4 : den (Ty.slc ab)) (v14 : den (Ty.slc ab)) (v15 : den ah) (v16 : den ah) : aH bn cB 5000 [] am (lp an 6) (i7 v4 v14 v15 v16) = nd v4 v14 v15 v16 := by kernel_rfl
noncomputable def ib (v4 : den (Ty.slc ab)) (v14 : den (Ty.slc ab)) (v15 : den ah) (v16 : den ah) (b1 : List (den ak × den Ty.bool)) : Env := Env.of [(4, K.val (Ty.slc ab) v4), (5, K.ptr 0 ag []), (14, K.val (Ty.slc ab) v14), (15, K.val ah v15), (16, K.val ah v16)] [(0, Bx.obj ag (K.agg (Ty.pair (Ty.mp ak Ty.bool) Ty.unit) (K.kcons (K.pm (0 + 1)) K.knil))), (1, Bx.mpd ak Ty.bool b1)]
noncomputable def lF (v4 : den (Ty.slc ab)) (v14 : den (Ty.slc ab)) (v15 : den ah) (v16 : den ah) (b1 : List (den ak × den Ty.bool)) : ae := ae.ite (decide (v16 < v15)) (ae.req (inB v16 (lnx ab v14)) (ae.req True (ae.ite false (ae.loop [] am (lp an 6) [(4, K.val (Ty.slc ab) v4), (5, K.ptr 0 ag []), (14, K.val (Ty.slc ab) v14), (15, K.val ah v15), (16, K.val ah (IntKind.wrap IntKind.i64 (v16 + 1)))] [(0, Bx.obj ag (K.agg (Ty.pair (Ty.mp ak Ty.bool) Ty.unit) (K.kcons (K.pm (0 + 1)) K.knil))), (0 + 1, Bx.mpd ak Ty.bool (dM [] (aJ (Prod.fst (el ab v14 v16))) true))]) (ae.loop [] am (lp an 6) [(4, K.val (Ty.slc ab) v4), (5, K.ptr 0 ag []), (14, K.val (Ty.slc ab) v14), (15, K.val ah v15), (16, K.val ah (IntKind.wrap IntKind.i64 (v16 + 1)))] [(0, Bx.obj ag (K.agg (Ty.pair (Ty.mp ak Ty.bool) Ty.unit) (K.kcons (K.pm (0 + 1)) K.knil))), (0 + 1, Bx.mpd ak Ty.bool (dM b1 (aJ (Prod.fst (el ab v14 v16))) true))])))) (ae.req (List.length v4 ≤ bN) (ae.loop [{ fx := aB, todo := bv az 1 2, dst := some 10, s := ofS [(0, K.sl 0 ab), (1, K.clo aD (K.kcons (K.ptr (0 + 1) ag []) K.knil))] }, { fx := am, todo := bv an 10 3, dst := some 28, s := ofS [(4, K.val (Ty.slc ab) v4), (5, K.ptr (0 + 1) ag [])] }] aZ (lp aX 2) [(0, K.sl 0 ab), (1, K.clo aD (K.kcons (K.ptr (0 + 1) ag []) K.knil)), (7, K.val ah (lnx ab v4)), (8, K.val ah 0)] [(0, Bx.row ab v4), (0 + 1, Bx.obj ag (K.agg (Ty.pair (Ty.mp ak Ty.bool) Ty.unit) (K.kcons (K.pm (0 + 1 + 1)) K.knil))), (0 + 1 + 1, Bx.mpd ak Ty.bool b1)]))
theorem fW (v4 : den (Ty.slc ab)) (v14 : den (Ty.slc ab)) (v15 : den ah) (v16 : den ah) (b1 : List (den ak × den Ty.bool)) : aH bn cB 5000 [] am (lp an 6) (ib v4 v14 v15 v16 b1) = lF v4 v14 v15 v16 b1 := by kernel_rfl
noncomputable def eW (w1_4 : den (Ty.slc ab)) (v7 : den ah) (v8 : den ah) (b0 : List (den ab)) : List bl := [{ fx := aB, todo := bv az 1 2, dst := some 10, s := ofS [(0, K.sl 0 ab), (1, K.clo aD (K.kcons (K.ptr (0 + 1) ag []) K.knil))] }, { fx := am, todo := bv an 10 3, dst := some 28, s := ofS [(4, K.val (Ty.slc ab) w1_4), (5, K.ptr (0 + 1) ag [])] }]
noncomputable def eX (w1_4 : den (Ty.slc ab)) (v7 : den ah) (v8 : den ah) (b0 : List (den ab)) : Env := Env.of [(0, K.sl 0 ab), (1, K.clo aD (K.kcons (K.ptr (0 + 1) ag []) K.knil)), (7, K.val ah v7), (8, K.val ah v8)] [(0, Bx.row ab b0), (1, Bx.obj ag (K.agg (Ty.pair (Ty.mp ak Ty.bool) Ty.unit) (K.kcons K.nilmp K.knil)))]
noncomputable def eN (w1_4 : den (Ty.slc ab)) (v7 : den ah) (v8 : den ah) (b0 : List (den ab)) : ae := ae.ite (decide (v8 < v7)) (ae.req (inB v8 (lnx ab b0)) (ae.req (inB v8 (lnx ab b0)) (ae.req True (ae.ite (!fS (k := ak) (v := Ty.bool) [] (aJ (Prod.fst (Prod.snd (el ab b0 v8))))) (ae.ite (decide (v8 = -1)) (ae.ite (decide (lnx ab b0 = lnx ab w1_4)) (ae.ret (K.val (Ty.pair Ty.bool (Ty.pair ah Ty.unit)) (decide (lnx ab w1_4 = 0), 0, PUnit.unit))) (ae.loop [] am (lp an 4) [(4, K.val (Ty.slc ab) b0)] [])) (ae.loop [{ fx := am, todo := bv an 10 3, dst := some 28, s := ofS [(4, K.val (Ty.slc ab) w1_4), (5, K.ptr (0 + 1) ag [])] }] aB (lp az 5) [(0, K.sl 0 ab), (1, K.clo aD (K.kcons (K.ptr (0 + 1) ag []) K.knil)), (5, K.val ah v8), (6, K.val ah (IntKind.wrap IntKind.i64 (v8 + 1)))] [(0, Bx.row ab b0), (0 + 1, Bx.obj ag (K.agg (Ty.pair (Ty.mp ak Ty.bool) Ty.unit) (K.kcons K.nilmp K.knil)))])) (ae.loop [{ fx := aB, todo := bv az 1 2, dst := some 10, s := ofS [(0, K.sl 0 ab), (1, K.clo aD (K.kcons (K.ptr (0 + 1) ag []) K.knil))] }, { fx := am, todo := bv an 10 3, dst := some 28, s := ofS [(4, K.val (Ty.slc ab) w1_4), (5, K.ptr (0 + 1) ag [])] }] aZ (lp aX 2) [(0, K.sl 0 ab), (1, K.clo aD (K.kcons (K.ptr (0 + 1) ag []) K.knil)), (7, K.val ah v7), (8, K.val ah (IntKind.wrap IntKind.i64 (v8 + 1)))] [(0, Bx.row ab b0), (0 + 1, Bx.obj ag (K.agg (Ty.pair (Ty.mp ak Ty.bool) Ty.unit) (K.kcons K.nilmp K.knil)))]))))) (ae.ite (decide (-1 = -1)) (ae.ite (decide (lnx ab b0 = lnx ab w1_4)) (ae.ret (K.val (Ty.pair Ty.bool (Ty.pair ah Ty.unit)) (decide (lnx ab w1_4 = 0), 0, PUnit.unit))) (ae.loop [] am (lp an 4) [(4, K.val (Ty.slc ab) b0)] [])) (ae.loop [{ fx := am, todo := bv an 10 3, dst := some 28, s := ofS [(4, K.val (Ty.slc ab) w1_4), (5, K.ptr (0 + 1) ag [])] }] aB (lp az 5) [(0, K.sl 0 ab), (1, K.clo aD (K.kcons (K.ptr (0 + 1) ag []) K.knil)), (5, K.val ah (-1)), (6, K.val ah (IntKind.wrap IntKind.i64 (-1 + 1)))] [(0, Bx.row ab b0), (0 + 1, Bx.obj ag (K.agg (Ty.pair (Ty.mp ak Ty.bool) Ty.unit) (K.kcons K.nilmp K.knil)))]))
theorem dZ (w1_4 : den (Ty.slc ab)) (v7 : den ah) (v8 : den ah) (b0 : List (den ab)) : aH bn cB 5000 (eW w1_4 v7 v8 b0) aZ (lp aX 2) (eX w1_4 v7 v8 b0) = eN w1_4 v7 v8 b0 := by kernel_rfl
noncomputable def cx (w1_4 : den (Ty.slc ab)) (v7 : den ah) (v8 : den ah) (b0 : List (den ab)) (b2 : List (den ak × den Ty.bool)) : List bl := [{ fx := aB, todo := bv az 1 2, dst := some 10, s := ofS [(0, K.sl 0 ab), (1, K.clo aD (K.kcons (K.ptr (0 + 1) ag []) K.knil))] }, { fx := am, todo := bv an 10 3, dst := some 28, s := ofS [(4, K.val (Ty.slc ab) w1_4), (5, K.ptr (0 + 1) ag [])] }]
noncomputable def cy (w1_4 : den (Ty.slc ab)) (v7 : den ah) (v8 : den ah) (b0 : List (den ab)) (b2 : List (den ak × den Ty.bool)) : Env := Env.of [(0, K.sl 0 ab), (1, K.clo aD (K.kcons (K.ptr (0 + 1) ag []) K.knil)), (7, K.val ah v7), (8, K.val ah v8)] [(0, Bx.row ab b0), (1, Bx.obj ag (K.agg (Ty.pair (Ty.mp ak Ty.bool) Ty.unit) (K.kcons (K.pm (0 + 1 + 1)) K.knil))), (2, Bx.mpd ak Ty.bool b2)]
noncomputable def d5 (w1_4 : den (Ty.slc ab)) (v7 : den ah) (v8 : den ah) (b0 : List (den ab)) (b2 : List (den ak × den Ty.bool)) : ae := ae.ite (decide (v8 < v7)) (ae.req (inB v8 (lnx ab b0)) (ae.req (inB v8 (lnx ab b0)) (ae.req True (ae.ite (!fS b2 (aJ (Prod.fst (Prod.snd (el ab b0 v8))))) (ae.ite (decide (v8 = -1)) (ae.ite (decide (lnx ab b0 = lnx ab w1_4)) (ae.ret (K.val (Ty.pair Ty.bool (Ty.pair ah Ty.unit)) (decide (lnx ab w1_4 = 0), 0, PUnit.unit))) (ae.loop [] am (lp an 4) [(4, K.val (Ty.slc ab) b0)] [])) (ae.loop [{ fx := am, todo := bv an 10 3, dst := some 28, s := ofS [(4, K.val (Ty.slc ab) w1_4), (5, K.ptr (0 + 1) ag [])] }] aB (lp az 5) [(0, K.sl 0 ab), (1, K.clo aD (K.kcons (K.ptr (0 + 1) ag []) K.knil)), (5, K.val ah v8), (6, K.val ah (IntKind.wrap IntKind.i64 (v8 + 1)))] [(0, Bx.row ab b0), (0 + 1, Bx.obj ag (K.agg (Ty.pair (Ty.mp ak Ty.bool) Ty.unit) (K.kcons (K.pm (0 + 1 + 1)) K.knil))), (0 + 1 + 1, Bx.mpd ak Ty.bool b2)])) (ae.loop [{ fx := aB, todo := bv az 1 2, dst := some 10, s := ofS [(0, K.sl 0 ab), (1, K.clo aD (K.kcons (K.ptr (0 + 1) ag []) K.knil))] }, { fx := am, todo := bv an 10 3, dst := some 28, s := ofS [(4, K.val (Ty.slc ab) w1_4), (5, K.ptr (0 + 1) ag [])] }] aZ (lp aX 2) [(0, K.sl 0 ab), (1, K.clo aD (K.kcons (K.ptr (0 + 1) ag []) K.knil)), (7, K.val ah v7), (8, K.val ah (IntKind.wrap IntKind.i64 (v8 + 1)))] [(0, Bx.row ab b0), (0 + 1, Bx.obj ag (K.agg (Ty.pair (Ty.mp ak Ty.bool) Ty.unit) (K.kcons (K.pm (0 + 1 + 1)) K.knil))), (0 + 1 + 1, Bx.mpd ak Ty.bool b2)]))))) (ae.ite (decide (-1 = -1)) (ae.ite (decide (lnx ab b0 = lnx ab w1_4)) (ae.ret (K.val (Ty.pair Ty.bool (Ty.pair ah Ty.unit)) (decide (lnx ab w1_4 = 0), 0, PUnit.unit))) (ae.loop [] am (lp an 4) [(4, K.val (Ty.slc ab) b0)] [])) (ae.loop [{ fx := am, todo := bv an 10 3, dst := some 28, s := ofS [(4, K.val (Ty.slc ab) w1_4), (5, K.ptr (0 + 1) ag [])] }] aB (lp az 5) [(0, K.sl 0 ab), (1, K.clo aD (K.kcons (K.ptr (0 + 1) ag []) K.knil)), (5, K.val ah (-1)), (6, K.val ah (IntKind.wrap IntKind.i64 (-1 + 1)))] [(0, Bx.row ab b0), (0 + 1, Bx.obj ag (K.agg (Ty.pair (Ty.mp ak Ty.bool) Ty.unit) (K.kcons (K.pm (0 + 1 + 1)) K.knil))), (0 + 1 + 1, Bx.mpd ak Ty.bool b2)]))
theorem bZ (w1_4 : den (Ty.slc ab)) (v7 : den ah) (v8 : den ah) (b0 : List (den ab)) (b2 : List (den ak × den Ty.bool)) : aH bn cB 5000 (cx w1_4 v7 v8 b0 b2) aZ (lp aX 2) (cy w1_4 v7 v8 b0 b2) = d5 w1_4 v7 v8 b0 b2 := by kernel_rfl
noncomputable def cp (w0_4 : den (Ty.slc ab)) (v5 : den ah) (v6 : den ah) (b0 : List (den ab)) (b2 : List (den ak × den Ty.bool)) : List bl := [{ fx := am, todo := bv an 10 3, dst := some 28, s := ofS [(4, K.val (Ty.slc ab) w0_4), (5, K.ptr (0 + 1) ag [])] }]
noncomputable def cq (w0_4 : den (Ty.slc ab)) (v5 : den ah) (v6 : den ah) (b0 : List (den ab)) (b2 : List (den ak × den Ty.bool)) : Env := Env.of [(0, K.sl 0 ab), (1, K.clo aD (K.kcons (K.ptr (0 + 1) ag []) K.knil)), (5, K.val ah v5), (6, K.val ah v6)] [(0, Bx.row ab b0), (1, Bx.obj ag (K.agg (Ty.pair (Ty.mp ak Ty.bool) Ty.unit) (K.kcons (K.pm (0 + 1 + 1)) K.knil))), (2, Bx.mpd ak Ty.bool b2)]
noncomputable def dY (w0_4 : den (Ty.slc ab)) (v5 : den ah) (v6 : den ah) (b0 : List (den ab)) (b2 : List (den ak × den Ty.bool)) : ae := ae.ite (decide (v6 < lnx ab b0)) (ae.req (inB v6 (lnx ab b0)) (ae.req (inB v6 (lnx ab b0)) (ae.req True (ae.ite (!!fS b2 (aJ (Prod.fst (Prod.snd (el ab b0 v6))))) (ae.req (inB v5 (lnx ab b0)) (ae.req (inB v5 (lnx ab b0)) (ae.loop [{ fx := am, todo := bv an 10 3, dst := some 28, s := ofS [(4, K.val (Ty.slc ab) w0_4), (5, K.ptr (0 + 1) ag [])] }] aB (lp az 5) [(0, K.sl 0 ab), (1, K.clo aD (K.kcons (K.ptr (0 + 1) ag []) K.knil)), (5, K.val ah (IntKind.wrap IntKind.i64 (v5 + 1))), (6, K.val ah (IntKind.wrap IntKind.i64 (v6 + 1)))] [(0, Bx.row ab (eZ ab b0 v5 (el ab b0 v6))), (0 + 1, Bx.obj ag (K.agg (Ty.pair (Ty.mp ak Ty.bool) Ty.unit) (K.kcons (K.pm (0 + 1 + 1)) K.knil))), (0 + 1 + 1, Bx.mpd ak Ty.bool b2)]))) (ae.loop [{ fx := am, todo := bv an 10 3, dst := some 28, s := ofS [(4, K.val (Ty.slc ab) w0_4), (5, K.ptr (0 + 1) ag [])] }] aB (lp az 5) [(0, K.sl 0 ab), (1, K.clo aD (K.kcons (K.ptr (0 + 1) ag []) K.knil)), (5, K.val ah v5), (6, K.val ah (IntKind.wrap IntKind.i64 (v6 + 1)))] [(0, Bx.row ab b0), (0 + 1, Bx.obj ag (K.agg (Ty.pair (Ty.mp ak Ty.bool) Ty.unit) (K.kcons (K.pm (0 + 1 + 1)) K.knil))), (0 + 1 + 1, Bx.mpd ak Ty.bool b2)]))))) (ae.req (vok 0 (List.length b0) (List.length b0)) (ae.req (a7 v5 (↑(List.length b0) : Int) (↑(List.length b0 - 0) : Int)) (ae.req (vok (0 + Int.toNat v5) (Int.toNat (↑(List.length b0) : Int) - Int.toNat v5) (List.length b0)) (ae.req (a7 0 v5 (lnx ab (over b0 (0 + Int.toNat v5) (List.replicate (Int.toNat (↑(List.length b0) : Int) - Int.toNat v5) (zero ab))))) (ae.ite (decide (lnx ab (List.take (Int.toNat v5) (over b0 (0 + Int.toNat v5) (List.replicate (Int.toNat (↑(List.length b0) : Int) - Int.toNat v5) (zero ab)))) = lnx ab w0_4)) (ae.ret (K.val (Ty.pair Ty.bool (Ty.pair ah Ty.unit)) (decide (lnx ab w0_4 = 0), 0, PUnit.unit))) (ae.loop [] am (lp an 4) [(4, K.val (Ty.slc ab) (List.take (Int.toNat v5) (over b0 (0 + Int.toNat v5) (List.replicate (Int.toNat (↑(List.length b0) : Int) - Int.toNat v5) (zero ab)))))] []))))))
theorem bT (w0_4 : den (Ty.slc ab)) (v5 : den ah) (v6 : den ah) (b0 : List (den ab)) (b2 : List (den ak × den Ty.bool)) : aH bn cB 5000 (cp w0_4 v5 v6 b0 b2) aB (lp az 5) (cq w0_4 v5 v6 b0 b2) = dY w0_4 v5 v6 b0 b2 := by kernel_rfl
end Go.Proofs.YtnakjijahkaoaaaDoor
namespace Go.Proofs.YtnakjijahkaoaaaDoor
open Go Go.RowKit
abbrev nl := List (den ak × den Ty.bool)
def nk (m : nl) (k : List Int) : Bool := fS (k := ak) (v := Ty.bool) m k
def u7 (m : nl) (k : List Int) : nl := dM (k := ak) (v := Ty.bool) m k true
theorem eqK (a b : List Int) : eqb ak a b = decide (a = b) := by
 have := ji (t := ak) rfl a b
 cases h : eqb ak a b
 ·exact (decide_eq_false fun e => by rw [this.2 e] at h; cases h).symm
 ·exact (decide_eq_true (this.1 h)).symm
theorem yO (k : List Int) : nk [] k = false := rfl
theorem yN : ∀ (m : nl) (a c : List Int), nk (u7 m a) c = if c = a then true else nk m c := by
 intro m a c
 unfold nk u7 fS iO
 induction m with
 | nil =>
  rw [dM]
  by_cases h : c = a
  ·rw [if_pos h, List.find?_cons_of_pos (by rw [eqK]; exact decide_eq_true h)]
   rfl
  ·rw [if_neg h, List.find?_cons_of_neg (by rw [eqK, decide_eq_false h]; simp)]
 | cons q m ih =>
  rw [dM]
  by_cases hq : eqb ak a q.1 = true
  ·have hq' : a = q.1 := by rw [eqK] at hq; exact of_decide_eq_true hq
   rw [if_pos hq]
   by_cases h : c = a
   ·rw [if_pos h, List.find?_cons_of_pos (by rw [eqK]; exact decide_eq_true h)]
    rfl
   ·rw [if_neg h, List.find?_cons_of_neg (by rw [eqK, decide_eq_false h]; simp), List.find?_cons_of_neg (by rw [eqK, decide_eq_false (by rw [← hq']; exact h)]; simp)]
  ·rw [if_neg hq]
   by_cases hc : c = q.1
   ·have h : ¬ c = a := fun e => hq (by rw [eqK]; exact decide_eq_true (by rw [← e, hc]))
    rw [if_neg h, List.find?_cons_of_pos (by rw [eqK]; exact decide_eq_true hc), List.find?_cons_of_pos (by rw [eqK]; exact decide_eq_true hc)]
   ·rw [List.find?_cons_of_neg (by rw [eqK, decide_eq_false hc]; simp), List.find?_cons_of_neg (by rw [eqK, decide_eq_false hc]; simp)]
    exact ih
def bY (l : List Lk) : nl := l.foldl (fun m x => u7 m (aJ x.1)) []
theorem sf (k : List Int) : ∀ (l : List Lk) (m : nl), nk (l.foldl (fun m x => u7 m (aJ x.1)) m) k = (nk m k || decide (k ∈ l.map fun x => aJ x.1))
 | [], m => by simp
 | x :: l, m => by
  rw [List.foldl_cons, sf k l, yN, List.map_cons]
  by_cases h : k = aJ x.1
  ·rw [if_pos h, decide_eq_true (show k ∈ aJ x.1 :: _ by rw [h]; exact List.mem_cons_self)]
   simp
  ·rw [if_neg h]
   congr 1
   rw [decide_eq_decide, List.mem_cons]
   exact ⟨.inr, fun h' => h'.resolve_left h⟩
theorem sZ (l : List Lk) (k : List Int) : nk (bY l) k = decide (k ∈ l.map fun x => aJ x.1) := by
 unfold bY
 rw [sf, yO, Bool.false_or]
def db (m : nl) (x : Lk) : Bool := nk m (aJ x.2.1)
def c6 : Nat → List Lk → Bool
 | 0, _ => false
 | n + 1, l => if (l.filter (db (bY l))).length = l.length then decide (l.length = 0) else c6 n (l.filter (db (bY l)))
def ba (l : List Lk) : Bool × Int := if 64 < l.length then (false, 2) else (c6 (l.length + 1) l, 0)
noncomputable abbrev cz : cQ := ⟨jJ, dw, fun x => ((ba x.1).1, (ba x.1).2, ()), fun x => x.1.length ≤ 1000000, false⟩
theorem cJ : XOk prog bn := pW mj lA
abbrev GA (O : Nat → Prop) (w0 : World) (y : Bool) := bt prog bn (Cx.base O w0) (fY prog O w0 dw fun z => z = (y, 0, ()))
theorem wh (O : Nat → Prop) (w0 : World) (l : List Lk) (y : Bool) (r : List Lk) (hr : r = l.filter (db (bY l)))
    (hsame : r.length = l.length → y = decide (l.length = 0)) (hnext : r.length ≠ l.length → GA O w0 y [] am (lp an 4) (d3 r)) {b : List Lk} (hb : b = r) :
    aK prog bn (Cx.base O w0) (fY prog O w0 dw fun z => z = (y, 0, ())) (fun k => ∃ x, aV dw k = some x ∧ x = (y, 0, ()))
      (ae.ite (decide (lnx ab b = lnx ab l)) (ae.ret (K.val (Ty.pair Ty.bool (Ty.pair ah Ty.unit)) (decide (lnx ab l = 0), 0, PUnit.unit)))
        (ae.loop [] am (lp an 4) [(4, K.val (Ty.slc ab) b)] [])) := by
  subst hb
  refine ⟨fun h => ⟨_, rfl, ?_⟩, fun h => ?_⟩
  · have h : ((b.length : Nat) : Int) = ((l.length : Nat) : Int) := of_decide_eq_true h
    rw [hsame (by omega)]
    have e : decide (lnx ab l = 0) = decide (l.length = 0) := by
      rw [decide_eq_decide]
      show ((l.length : Nat) : Int) = 0 ↔ _
      omega
    rw [e]
  · have h : ¬ ((b.length : Nat) : Int) = ((l.length : Nat) : Int) := of_decide_eq_false h
    exact hnext (by omega)
end Go.Proofs.YtnakjijahkaoaaaDoor
namespace Go.Proofs.YtnakjijahkaoaaaDoor
open Go Go.RowKit
structure Nx (O : Nat → Prop) (w0 : World) (l : List Lk) (y : Bool) : Prop where
 len : l.length ≤ 1000000
 same : (l.filter (db (bY l))).length = l.length → y = decide (l.length = 0)
 next : (l.filter (db (bY l))).length ≠ l.length → GA O w0 y [] am (lp an 4) (d3 (l.filter (db (bY l))))
def za (O : Nat → Prop) (w0 : World) (l : List Lk) (y : Bool) (h : Nx O w0 l y) :=
 PLift.up <| eI (σ := Nat × List Lk) l.length (fun j s => s.1 < j ∧ s.2.length = l.length ∧ s.2.take s.1 = (l.take j).filter (db (bY l)) ∧ s.2.drop j = l.drop j)
  (fun j s => GA O w0 y (cp l (s.1 : Nat) (j : Nat) s.2 (bY l)) aB (lp az 5) (cq l (s.1 : Nat) (j : Nat) s.2 (bY l)))
  (fun j s hj hs ih => bg cJ (bT l _ _ s.2 _) (by
   obtain ⟨h1, h2, h3, h4⟩ := hs
   have hl := h.len
   have hjb : j < s.2.length := by omega
   have ej : s.2[j] = l[j] := by
    have e1 : (s.2.drop j)[0]? = (l.drop j)[0]? := by rw [h4]
    rw [List.getElem?_drop, List.getElem?_drop, Nat.add_zero, List.getElem?_eq_getElem hjb, List.getElem?_eq_getElem hj] at e1
    exact Option.some.inj e1
   have ed : s.2.drop (j + 1) = l.drop (j + 1) := by
    have e1 := congrArg (List.drop 1) h4
    rwa [List.drop_drop, List.drop_drop] at e1
   have el1 : el ab s.2 (j : Nat) = l[j] := by rw [vz hjb, ej]
   refine ⟨fun _ => ⟨iH hjb, iH hjb, trivial, fun hc => ⟨iH (by omega), iH (by omega), ?_⟩, fun hc => ?_⟩, fun hc => ?_⟩
   ·rw [el1] at hc ⊢
    have hc : (!!db (bY l) l[j]) = true := hc
    rw [Bool.not_not] at hc
    rw [fa (n := s.1) (m := s.2.length) (by omega) (by omega), fa hjb (by omega)]
    refine ih (s.1 + 1, eZ ab s.2 (s.1 : Nat) l[j]) ⟨by show s.1 + 1 < j + 1; omega, ?_, ?_, ?_⟩
    ·show (List.set s.2 _ _).length = _
     rw [List.length_set]; exact h2
    ·show List.take (s.1 + 1) (List.set s.2 (Int.toNat (s.1 : Nat)) l[j]) = _
     rw [Int.toNat_natCast, List.take_succ_eq_append_getElem (by rw [List.length_set]; omega), List.getElem_set_self, List.take_set_of_le (Nat.le_refl _), h3, List.take_succ_eq_append_getElem hj, List.filter_append, List.filter_cons, if_pos hc]
     rfl
    ·show List.drop (j + 1) (List.set s.2 (Int.toNat (s.1 : Nat)) l[j]) = _
     rw [Int.toNat_natCast, List.drop_set_of_lt (by omega)]
     exact ed
   ·rw [el1] at hc
    have hc : (!!db (bY l) l[j]) = false := hc
    rw [Bool.not_not] at hc
    rw [fa hjb (by omega)]
    refine ih (s.1, s.2) ⟨by show s.1 < j + 1; omega, h2, ?_, ed⟩
    show List.take s.1 s.2 = _
    rw [h3, List.take_succ_eq_append_getElem hj, List.filter_append, List.filter_cons, if_neg (by rw [hc]; simp), List.filter_nil, List.append_nil]
   ·rw [kX] at hc
    exact absurd hjb (of_decide_eq_false hc)))
  (fun s hs => bg cJ (bT l _ _ s.2 _) (by
   obtain ⟨h1, h2, h3, h4⟩ := hs
   have hi : s.1 < s.2.length := by omega
   rw [List.take_length] at h3
   have e0 : Int.toNat ((s.1 : Nat) : Int) = s.1 := Int.toNat_natCast _
   have e1 : Int.toNat ((s.2.length : Nat) : Int) = s.2.length := Int.toNat_natCast _
   have eov : ∀ ys : List Lk, List.take (Int.toNat ((s.1 : Nat) : Int)) (over s.2 (0 + Int.toNat ((s.1 : Nat) : Int)) ys) = l.filter (db (bY l)) := fun ys => by
    unfold over
    rw [e0, Nat.zero_add, List.append_assoc, List.take_append_of_le_length (by rw [List.length_take]; omega), List.take_take, Nat.min_self, h3]
   have hov : ∀ ys : List Lk, s.1 ≤ (over s.2 (0 + Int.toNat ((s.1 : Nat) : Int)) ys).length := fun ys => by
    unfold over
    rw [e0, Nat.zero_add, List.length_append, List.length_append, List.length_take]
    omega
   refine ⟨fun hc => ?_, fun _ => ⟨yq _, ⟨Int.natCast_nonneg _, by show ((s.1 : Nat) : Int) ≤ _; omega, by show ((s.2.length : Nat) : Int) ≤ ((s.2.length - 0 : Nat) : Int); omega⟩, ?_, ⟨by decide, Int.natCast_nonneg _, Int.ofNat_le.2 (hov _)⟩, wh O w0 l y _ rfl h.same h.next (eov _)⟩⟩
   ·rw [kX] at hc
    have := of_decide_eq_true hc
    omega
   ·unfold vok
    rw [e0, e1]
    omega))
def yS (O : Nat → Prop) (w0 : World) (l : List Lk) (y : Bool) (h : Nx O w0 l y) :=
 PLift.up <| eI (σ := Unit) l.length (fun i _ => (l.take i).filter (db (bY l)) = l.take i)
  (fun i _ => GA O w0 y (cx l (lnx ab l) (i : Nat) l (bY l)) aZ (lp aX 2) (cy l (lnx ab l) (i : Nat) l (bY l)))
  (fun i _ hi hb ih => bg cJ (bZ l _ _ l _) (by
   have hl := h.len
   have e : el ab l (i : Nat) = l[i] := vz hi
   refine ⟨fun _ => ⟨iH hi, iH hi, trivial, fun hc => ⟨fun h1 => ?_, fun _ => ?_⟩, fun hc => ?_⟩, fun hc => ?_⟩
   ·have h1 : ((i : Nat) : Int) = -1 := of_decide_eq_true h1
    omega
   ·rw [e] at hc
    have hc : (!db (bY l) l[i]) = true := hc
    rw [fa hi (by omega)]
    refine (za O w0 l y h).down (i + 1) (i, l) hi ⟨Nat.lt_succ_self i, rfl, ?_, rfl⟩
    show l.take i = _
    rw [List.take_succ_eq_append_getElem hi, List.filter_append, hb, List.filter_cons, if_neg (by simpa using hc), List.filter_nil, List.append_nil]
   ·rw [e] at hc
    have hc : (!db (bY l) l[i]) = false := hc
    rw [fa hi (by omega)]
    refine ih () ?_
    rw [List.take_succ_eq_append_getElem hi, List.filter_append, hb, List.filter_cons, if_pos (by simpa using hc)]
    rfl
   ·rw [show decide ((i : Nat) < lnx ab l) = decide (i < l.length) from kX l] at hc
    exact absurd hi (of_decide_eq_false hc)))
  (fun _ hb => bg cJ (bZ l _ _ l _) (by
   rw [List.take_length] at hb
   refine ⟨fun hc => ?_, fun _ => ⟨fun _ => wh O w0 l y _ rfl h.same h.next hb.symm, fun hc => by cases hc⟩⟩
   exact absurd (Int.ofNat_lt.1 (of_decide_eq_true hc)) (Nat.lt_irrefl _)))
def y3 (O : Nat → Prop) (w0 : World) (l : List Lk) (y : Bool) (h : Nx O w0 l y) :=
 PLift.up <| eI (σ := nl) l.length (fun i m => m = bY (l.take i))
  (fun i m => GA O w0 y [] am (lp an 6) (ib l l (lnx ab l) (i : Nat) m))
  (fun i m hi hm ih => bg cJ (fW l l _ _ m) (by
   have hl := h.len
   have e : el ab l (i : Nat) = l[i] := vz hi
   refine ⟨fun _ => ⟨iH hi, trivial, (fun hc => by cases hc), fun _ => ?_⟩, fun hc => ?_⟩
   ·rw [e, fa hi (by omega)]
    refine ih _ ?_
    rw [hm]
    unfold bY
    rw [List.take_succ_eq_append_getElem hi, List.foldl_append]
    rfl
   ·rw [kX] at hc
    exact absurd hi (of_decide_eq_false hc)))
  (fun m hm => bg cJ (fW l l _ _ m) (by
   rw [List.take_length] at hm
   subst hm
   refine ⟨fun hc => ?_, fun _ => ⟨Nat.le_trans h.len (by decide), (yS O w0 l y h).down 0 () (Nat.zero_le _) rfl⟩⟩
   rw [kX] at hc
   exact absurd (of_decide_eq_true hc) (Nat.lt_irrefl _)))
theorem wl (O : Nat → Prop) (w0 : World) : ∀ (n : Nat) (l : List Lk), l.length < n → l.length ≤ 1000000 → GA O w0 (c6 n l) [] am (lp an 4) (d3 l)
 | 0, l, h, _ => absurd h (Nat.not_lt_zero _)
 | n + 1, l, h, hl => by
  have hN : Nx O w0 l (c6 (n + 1) l) := ⟨hl, fun e => by
   rw [c6, if_pos e], fun e => by
   rw [c6, if_neg e]
   have h1 := List.length_filter_le (db (bY l)) l
   exact wl O w0 n _ (by omega) (by omega)⟩
  refine bg cJ (kW l) ?_
  show GA O w0 _ [] am (lp an 6) (i7 l l (lnx ab l) 0)
  cases l with
  | nil =>
   refine bg cJ (gC [] [] _ _) ⟨(fun hc => by cases hc), fun _ => ⟨Nat.zero_le _, ?_⟩⟩
   exact bg cJ (dZ [] _ _ []) ⟨(fun hc => by cases hc), fun _ => ⟨fun _ => ⟨fun _ => ⟨_, rfl, rfl⟩, (fun hc => by cases hc)⟩, (fun hc => by cases hc)⟩⟩
  | cons x r =>
   have hi : 0 < (x :: r).length := Nat.succ_pos _
   have e : el ab (x :: r) ((0 : Nat) : Int) = x := rfl
   refine bg cJ (gC (x :: r) (x :: r) _ _) ⟨fun _ => ⟨iH hi, trivial, fun _ => ?_, (fun hc => by cases hc)⟩, fun hc => ?_⟩
   ·have hw : IntKind.wrap .i64 ((0 : Int) + 1) = ((1 : Nat) : Int) := by decide
    rw [hw]
    exact (y3 O w0 (x :: r) _ hN).down 1 _ hi rfl
   ·have hc : ¬ ((0 : Int) < (((x :: r).length : Nat) : Int)) := of_decide_eq_false hc
    omega
theorem kD : bh prog [] c7 cz :=
 eS (S := cz) cJ (fx := am) o6 (by kernel_rfl) (fun h => by cases h) (T := fun x => kg x.1) (fun x => nm x.1) fun O w0 x _ hp => by
  obtain ⟨l, ⟨⟩⟩ := x
  have hp : l.length ≤ 1000000 := hp
  refine ⟨fun h => ⟨_, rfl, ?_⟩, fun h => ⟨Nat.le_trans hp (by decide), ?_⟩⟩
  ·have h : (64 : Int) < ((l.length : Nat) : Int) := of_decide_eq_true h
   show (false, (2 : Int), ()) = ((ba l).1, (ba l).2, ())
   unfold ba
   rw [if_pos (by omega)]
  ·have h : ¬ (64 : Int) < ((l.length : Nat) : Int) := of_decide_eq_false h
   have e : cz.g (l, ()) = (c6 (l.length + 1) l, 0, ()) := by
    show ((ba l).1, (ba l).2, ()) = _
    unfold ba
    rw [if_neg (by omega)]
   rw [e]
   exact wl O w0 (l.length + 1) l (Nat.lt_succ_self _) hp
end Go.Proofs.YtnakjijahkaoaaaDoor
