/- Part 7 of 9 of what this claim's proof stands on: a theory of programs on data, and the contracts of the functions that the law reaches. It holds no condition of its own. -/
import Derived.Test.YtnakjijahkaoaaaDoorCF6
import Derived.Test.YtnakjijahkaoaaaDoorProg
import Derived.Test.YtnakjijahkaoaaaDoorRows
import Derived.Shelf.Strings.Builder1
import Derived.Shelf.Strings.Builder2
import Derived.Shelf.Strings.OnBuilder
import Derived.Shelf.Strings.BuilderF
import Derived.Shelf.Strings.BuilderK
import Derived.Shelf.Strings.Builder2Cap
import Derived.Shelf.Strings.Prefix
import Derived.Shelf.Bits.Mul64
import Derived.Shelf.Strings.Repeat
import Derived.Shelf.Strings.BuilderCap
import Derived.LaidMore
import Derived.Lay
namespace Go.Proofs.YtnakjijahkaoaaaDoor
open Go
noncomputable section
noncomputable abbrev prog : Program := Tryd.prog
abbrev tId : Ty := (.arr 32 (.int .u8))
abbrev bH : Ty := (.arr 16 (.int .u8))
abbrev ae : Ty := (.arr 8 (.int .u32))
abbrev nv : Ty := (.st (.pair (.mp bH .bool) .unit))
abbrev dK : Ty := (.st (.pair tId (.pair tId .unit)))
abbrev al : Ty := (.st (.pair (.int .i64) (.pair tId (.pair (.int .i64) .unit))))
abbrev cp : Ty := (.st (.pair .bool (.pair .bool (.pair .bool (.pair .bool (.pair .bool (.pair .bool .unit)))))))
abbrev cW : Ty := (.st (.pair tId (.pair al (.pair (.int .i64) .unit))))
abbrev aK : Ty := (.st (.pair (.int .i64) (.pair tId (.pair al (.pair (.slc al) (.pair (.int .i64) (.pair .str (.pair .str .unit))))))))
abbrev gL : Ty := (.st (.pair (.int .i64) (.pair aK .unit)))
def bK : List (Nat × Ty) := [
 (1, (.fn .unit .unit)),
 (2, (.int .i64)),
 (3, (.int .i64)),
 (4, .bool),
 (5, (.int .u8)),
 (9, .str),
 (12, (.int .u64)),
 (21, (.int .i32)),
 (22, tId),
 (23, tId),
 (24, (.int .i64)),
 (26, (.fn (.pair .str (.pair tId (.pair (.int .i64) .unit))) (.pair .str (.pair (.int .i64) .unit)))),
 (27, (.fn (.pair tId .unit) (.pair tId .unit))),
 (28, (.fn (.pair .str (.pair tId .unit)) (.pair tId .unit))),
 (29, (.fn (.pair tId (.pair tId .unit)) (.pair .bool .unit))),
 (30, (.fn .unit (.pair .bool .unit))),
 (31, (.fn (.pair .str (.pair tId (.pair (.int .i64) .unit))) (.pair .str .unit))),
 (32, (.fn (.pair tId (.pair tId (.pair .str (.pair (.int .i64) .unit)))) (.pair .bool .unit))),
 (33, (.slc dK)),
 (35, (.fn (.pair (.slc dK) .unit) (.pair .bool (.pair (.int .i64) .unit)))),
 (36, (.fn (.pair (.slc dK) .unit) (.pair .bool .unit))),
 (37, dK),
 (38, dK),
 (39, (.fn (.pair tId (.pair tId (.pair tId (.pair (.slc dK) .unit)))) (.pair .bool .unit))),
 (40, (.fn (.pair (.slc dK) (.pair (.int .i64) .unit)) (.pair .bool .unit))),
 (41, al),
 (42, al),
 (43, (.slc al)),
 (44, aK),
 (45, aK),
 (46, (.fn (.pair aK .unit) (.pair aK .unit))),
 (48, (.fn (.pair .str (.pair aK .unit)) (.pair (.int .i64) (.pair aK (.pair (.int .i64) .unit))))),
 (49, (.fn (.pair .str (.pair aK (.pair aK .unit))) (.pair .bool .unit))),
 (50, (.fn (.pair .str (.pair .str (.pair tId (.pair tId (.pair (.int .i64) .unit))))) (.pair .bool .unit))),
 (51, cW),
 (52, cW),
 (54, (.fn (.pair aK (.pair (.int .i64) .unit)) (.pair cW (.pair (.int .i64) .unit)))),
 (55, (.fn (.pair aK .unit) (.pair .bool .unit))),
 (56, (.fn (.pair aK (.pair (.int .i64) .unit)) (.pair cW .unit))),
 (57, (.fn (.pair aK (.pair aK .unit)) (.pair .bool .unit))),
 (58, gL),
 (59, gL),
 (60, (.fn (.pair .str (.pair aK .unit)) (.pair gL .unit))),
 (61, (.fn (.pair .str (.pair aK (.pair (.int .i64) .unit))) (.pair .bool .unit))),
 (62, (.fn (.pair .str (.pair .str (.pair tId (.pair (.int .i64) (.pair (.int .i64) (.pair (.int .i64) .unit)))))) (.pair .bool .unit))),
 (63, (.fn (.pair (.slc .str) .unit) (.pair tId .unit))),
 (64, (.slc (.int .u8))),
 (65, (.fn (.pair .str .unit) (.pair tId .unit))),
 (66, (.fn (.pair tId .unit) (.pair .str .unit))),
 (67, bH),
 (68, bH),
 (69, (.fn (.pair tId .unit) (.pair bH .unit))),
 (70, (.fn (.pair (.slc dK) .unit) (.pair (.slc dK) .unit))),
 (71, (.mp bH .bool)),
 (72, nv),
 (73, nv),
 (74, (.fn (.pair bH .unit) .unit)),
 (75, (.fn (.pair (.slc dK) (.pair (.fn (.pair dK .unit) (.pair .bool .unit)) .unit)) (.pair (.slc dK) .unit))),
 (76, (.fn (.pair bH .unit) (.pair .bool .unit))),
 (77, (.fn (.pair dK .unit) (.pair .bool .unit))),
 (78, (.fn (.pair (.slc .str) (.pair .str .unit)) (.pair .bool .unit))),
 (79, (.slc .str)),
 (80, (.fn (.pair (.slc dK) (.pair .str .unit)) (.pair (.slc .str) .unit))),
 (81, (.fn (.pair aK (.pair .str .unit)) (.pair (.int .i64) .unit))),
 (83, (.mp (.int .i64) (.fn (.pair aK (.pair .str .unit)) (.pair (.int .i64) .unit)))),
 (84, (.fn .unit (.pair (.mp (.int .i64) (.fn (.pair aK (.pair .str .unit)) (.pair (.int .i64) .unit))) .unit))),
 (85, (.fn (.pair (.slc al) (.pair (.slc al) .unit)) (.pair .bool .unit))),
 (86, (.int .u32)),
 (87, ae),
 (88, ae),
 (89, (.fn .unit (.pair ae .unit))),
 (90, (.fn (.pair (.fn (.pair .str .unit) (.pair .bool .unit)) .unit) .unit)),
 (91, (.fn (.pair (.fn (.pair .str .unit) (.pair .bool .unit)) .unit) .unit)),
 (92, (.fn (.pair .str .unit) (.pair (.fn (.pair (.fn (.pair .str .unit) (.pair .bool .unit)) .unit) .unit) .unit))),
 (93, (.fn (.pair (.slc .str) (.pair .str .unit)) (.pair .str .unit))),
 (94, (.fn (.pair .str .unit) (.pair ae .unit))),
 (95, (.slc (.int .u32))),
 (96, (.fn .unit (.pair (.slc (.int .u32)) .unit))),
 (97, (.fn (.pair .str .unit) (.pair .str .unit))),
 (98, (.fn (.pair (.slc (.int .u32)) (.pair .str .unit)) (.pair (.slc (.int .u32)) .unit))),
 (100, (.fn (.pair (.slc dK) (.pair (.fn (.pair dK .unit) (.pair .bool .unit)) .unit)) (.pair (.int .i64) .unit))),
 (101, (.fn (.pair (.int .i64) .unit) (.pair (.fn (.pair aK (.pair .str .unit)) (.pair (.int .i64) .unit)) .unit))),
 (102, cp),
 (103, cp),
 (105, (.mp (.int .i64) cp)),
 (106, (.fn .unit (.pair (.mp (.int .i64) cp) .unit))),
 (107, (.fn (.pair al .unit) (.pair .bool .unit))),
 (108, (.fn (.pair (.slc al) .unit) (.pair .bool .unit))),
 (109, (.fn (.pair (.int .i64) (.pair (.int .u8) .unit)) (.pair .bool .unit))),
 (110, (.int .u64)),
 (111, (.int .u64)),
 (112, (.fn (.pair .str (.pair (.int .i64) .unit)) (.pair .str .unit))),
 (113, (.fn (.pair .str .unit) (.pair .bool .unit))),
 (117, (.fn (.pair (.int .i64) .unit) .unit)),
 (122, (.fn .unit (.pair .str .unit))),
 (123, (.arr 64 (.int .u32))),
 (124, (.fn (.pair .str .unit) (.pair (.int .u32) .unit))),
 (125, (.fn (.pair (.int .u32) (.pair (.int .i64) (.pair (.int .i64) (.pair (.int .u32) .unit)))) (.pair (.int .u32) .unit))),
 (126, (.fn (.pair (.int .u32) (.pair (.int .i64) .unit)) (.pair (.int .u32) .unit))),
 (127, (.fn (.pair (.slc (.int .u32)) (.pair (.int .u32) (.pair (.int .u32) .unit))) (.pair (.slc (.int .u32)) .unit))),
 (129, (.fn (.pair (.int .u64) (.pair (.int .u64) .unit)) (.pair (.int .u64) (.pair (.int .u64) .unit)))),
 (130, (.fn (.pair .str (.pair .str .unit)) (.pair .bool .unit))),
 (131, (.fn .unit (.pair (.int .i64) .unit))),
 (133, (.fn (.pair (.slc al) (.pair (.fn (.pair al .unit) (.pair .bool .unit)) .unit)) (.pair .bool .unit))),
 (135, (.fn (.pair (.int .u32) (.pair (.int .u32) .unit)) (.pair (.int .u32) (.pair (.int .u32) .unit)))),
 (137, (.fn (.pair (.int .u64) (.pair (.int .u64) .unit)) (.pair (.int .u64) (.pair (.int .u64) .unit)))),
 (140, (.fn (.pair (.int .i64) .unit) (.pair (.slc (.int .u8)) .unit))),
 (141, (.fn (.pair (.slc al) (.pair (.fn (.pair al .unit) (.pair .bool .unit)) .unit)) (.pair (.int .i64) .unit)))]
theorem br : qE prog bK = true := by kernel_rfl
theorem aY : prog.follows .mixedOrders = true := by kernel_rfl
abbrev jc : Nat := 10
noncomputable abbrev fL : Func := Tryd.f10
abbrev cn : Ty := (.pair .str (.pair .str (.pair tId (.pair (.int .i64) (.pair (.int .i64) (.pair (.int .i64) .unit))))))
abbrev nY : Ty := (.pair .bool .unit)
theorem nZ : Tryd.prog.funcs[jc]? = some fL := Tryd.func10
abbrev dJ : Nat := 11
noncomputable abbrev jo : Func := Tryd.f11
abbrev mw : Ty := (.pair .str (.pair tId (.pair (.int .i64) .unit)))
abbrev mn : Ty := (.pair .str (.pair (.int .i64) .unit))
theorem tf : Tryd.prog.funcs[dJ]? = some jo := Tryd.func11
abbrev g6 : Nat := 12
noncomputable abbrev kQ : Func := Tryd.f12
abbrev nq : Ty := (.pair tId .unit)
abbrev nr : Ty := (.pair tId .unit)
theorem tN : Tryd.prog.funcs[g6]? = some kQ := Tryd.func12
abbrev gu : Nat := 14
noncomputable abbrev ju : Func := Tryd.f14
abbrev my : Ty := (.pair tId .unit)
abbrev l6 : Ty := (.pair tId .unit)
theorem s9 : Tryd.prog.funcs[gu]? = some ju := Tryd.func14
abbrev gG : Nat := 15
noncomputable abbrev js : Func := Tryd.f15
abbrev mz : Ty := (.pair tId (.pair tId .unit))
abbrev mc : Ty := (.pair .bool .unit)
theorem sx : Tryd.prog.funcs[gG]? = some js := Tryd.func15
abbrev dH : Nat := 22
noncomputable abbrev jp : Func := Tryd.f22
abbrev md : Ty := (.pair .str (.pair aK .unit))
abbrev iM : Ty := (.pair (.int .i64) (.pair aK (.pair (.int .i64) .unit)))
theorem sP : Tryd.prog.funcs[dH]? = some jp := Tryd.func22
abbrev iS : Nat := 23
noncomputable abbrev lN : Func := Tryd.f23
abbrev oG : Ty := .unit
abbrev ow : Ty := (.pair .bool .unit)
theorem uA : Tryd.prog.funcs[iS]? = some lN := Tryd.func23
abbrev fE : Nat := 24
noncomputable abbrev ie : Func := Tryd.f24
abbrev kd : Ty := (.pair aK (.pair (.int .i64) .unit))
abbrev kO : Ty := (.pair cW (.pair (.int .i64) .unit))
theorem qo : Tryd.prog.funcs[fE]? = some ie := Tryd.func24
abbrev eH : Nat := 29
noncomputable abbrev aB : Func := Tryd.f29
abbrev ns : Ty := (.pair (.slc .str) .unit)
abbrev ff : Ty := (.pair tId .unit)
theorem t6 : Tryd.prog.funcs[eH]? = some aB := Tryd.func29
abbrev ew : Nat := 30
noncomputable abbrev kK : Func := Tryd.f30
abbrev nt : Ty := (.pair .str (.pair tId .unit))
abbrev nL : Ty := (.pair tId .unit)
theorem uc : Tryd.prog.funcs[ew]? = some kK := Tryd.func30
abbrev gt : Nat := 33
noncomputable abbrev jl : Func := Tryd.f33
abbrev mE : Ty := (.pair tId .unit)
abbrev mi : Ty := (.pair bH .unit)
theorem sy : Tryd.prog.funcs[gt]? = some jl := Tryd.func33
abbrev f7 : Nat := 41
noncomputable abbrev iI : Func := Tryd.f41
abbrev le : Ty := .unit
abbrev lz : Ty := (.pair (.mp (.int .i64) (.fn (.pair aK (.pair .str .unit)) (.pair (.int .i64) .unit))) .unit)
theorem rq : Tryd.prog.funcs[f7]? = some iI := Tryd.func41
abbrev eF : Nat := 42
noncomputable abbrev kh : Func := Tryd.f42
abbrev nS : Ty := (.pair aK .unit)
abbrev jt : Ty := (.pair .bool .unit)
theorem tM : Tryd.prog.funcs[eF]? = some kh := Tryd.func42
abbrev fF : Nat := 45
noncomputable abbrev gW : Func := Tryd.f45
abbrev kE : Ty := .unit
abbrev ka : Ty := (.pair ae .unit)
theorem qP : Tryd.prog.funcs[fF]? = some gW := Tryd.func45
abbrev lA : Nat := 46
noncomputable abbrev da : Func := Tryd.f46
theorem rc : Tryd.prog.funcs[lA]? = some da := Tryd.func46
abbrev f5 : Nat := 47
noncomputable abbrev td : Func := Tryd.f47
abbrev rS : Ty := (.pair (.slc .str) (.pair .str .unit))
abbrev rm : Ty := (.pair .str .unit)
theorem sb : Tryd.prog.funcs[f5]? = some td := Tryd.func47
abbrev dA : Nat := 48
noncomputable abbrev aO : Func := Tryd.f48
abbrev gY : Ty := (.pair ae (.pair .str .unit))
abbrev dm : Ty := (.pair ae .unit)
theorem mT : Tryd.prog.funcs[dA]? = some aO := Tryd.func48
abbrev kF : Nat := 53
noncomputable abbrev kw : Func := Tryd.f53
theorem pP : Tryd.prog.funcs[kF]? = some kw := Tryd.func53
abbrev dN : Nat := 54
noncomputable abbrev fU : Func := Tryd.f54
abbrev iA : Ty := (.pair aK (.pair .str (.pair (.ref (.int .i64)) .unit)))
abbrev iu : Ty := (.pair (.int .i64) .unit)
theorem nU : Tryd.prog.funcs[dN]? = some fU := Tryd.func54
abbrev eY : Nat := 55
noncomputable abbrev gI : Func := Tryd.f55
abbrev gf : Ty := (.pair aK (.pair .str .unit))
abbrev en : Ty := (.pair (.int .i64) .unit)
theorem pM : Tryd.prog.funcs[eY]? = some gI := Tryd.func55
abbrev gV : Nat := 56
noncomputable abbrev j7 : Func := Tryd.f56
abbrev np : Ty := .unit
abbrev nG : Ty := (.pair (.mp (.int .i64) cp) .unit)
theorem tK : Tryd.prog.funcs[gV]? = some j7 := Tryd.func56
abbrev gc : Nat := 57
noncomputable abbrev jD : Func := Tryd.f57
abbrev pV : Ty := (.pair al .unit)
abbrev qd : Ty := (.pair .bool .unit)
theorem vY : Tryd.prog.funcs[gc]? = some jD := Tryd.func57
abbrev gF : Nat := 58
noncomputable abbrev jk : Func := Tryd.f58
abbrev mC : Ty := (.pair (.slc al) .unit)
abbrev l7 : Ty := (.pair .bool .unit)
theorem sD : Tryd.prog.funcs[gF]? = some jk := Tryd.func58
abbrev eZ : Nat := 62
noncomputable abbrev qS : Func := Tryd.f62
abbrev pN : Ty := (.pair .str (.pair (.int .i64) .unit))
abbrev pS : Ty := (.pair .str .unit)
theorem pO : Tryd.prog.funcs[eZ]? = some qS := Tryd.func62
abbrev jv : Nat := 63
noncomputable abbrev cN : Func := Tryd.f63
theorem oC : Tryd.prog.funcs[jv]? = some cN := Tryd.func63
abbrev fD : Nat := 67
noncomputable abbrev cK : Func := Tryd.f67
abbrev kG : Ty := (.pair .str .unit)
abbrev gH : Ty := (.pair (.int .u32) .unit)
theorem qC : Tryd.prog.funcs[fD]? = some cK := Tryd.func67
abbrev hK : Nat := 68
noncomputable abbrev kM : Func := Tryd.f68
abbrev nw : Ty := (.pair (.int .u32) (.pair (.int .i64) (.pair (.int .i64) (.pair (.int .u32) .unit))))
abbrev ny : Ty := (.pair (.int .u32) .unit)
theorem tT : Tryd.prog.funcs[hK]? = some kM := Tryd.func68
abbrev cm : Nat := 69
noncomputable abbrev fp : Func := Tryd.f69
abbrev ip : Ty := (.pair (.int .u32) (.pair (.int .i64) .unit))
abbrev gX : Ty := (.pair (.int .u32) .unit)
theorem m9 : Tryd.prog.funcs[cm]? = some fp := Tryd.func69
abbrev iX : Nat := 73
noncomputable abbrev fk : Func := Tryd.f73
abbrev oV : Ty := (.pair (.slc al) .unit)
abbrev jW : Ty := (.pair .bool .unit)
theorem u9 : Tryd.prog.funcs[iX]? = some fk := Tryd.func73
abbrev eM : Nat := 80
noncomputable abbrev bv : Func := Tryd.f80
theorem iP : Tryd.prog.funcs[eM]? = some bv := Tryd.func80
abbrev fa : Nat := 81
noncomputable abbrev nD : Func := Tryd.f81
theorem sT : Tryd.prog.funcs[fa]? = some nD := Tryd.func81
abbrev fR : Nat := 87
noncomputable abbrev bq : Func := Tryd.f87
theorem jG : Tryd.prog.funcs[fR]? = some bq := Tryd.func87
end
end Go.Proofs.YtnakjijahkaoaaaDoor
namespace Go.Proofs.YtnakjijahkaoaaaDoor
open Go Go.RowKit
theorem gP {σ : Type} (n : Nat) (Inv : Nat → σ → Prop) (Q : Nat → σ → Prop) (step : ∀ i s, i < n → Inv i s → (∀ s', Inv (i + 1) s' → Q (i + 1) s') → Q i s) (last : ∀ s, Inv n s → Q n s) : ∀ (i : Nat) (s : σ), i ≤ n → Inv i s → Q i s := by
 intro i s hi
 obtain ⟨k, hk⟩ : ∃ k, k + i = n := ⟨n - i, by omega⟩
 induction k generalizing i s with
 | zero =>
  have e : i = n := by omega
  subst e
  exact last s
 | succ k ih =>
  intro hI
  exact step i s (by omega) hI fun s' h' => ih (i + 1) s' (by omega) (by omega) h'
theorem xd {e : Ty} (t : List (den e)) {i : Nat} : (decide ((i : Int) < lnx e t)) = decide (i < t.length) := by
 rw [Bool.eq_iff_iff, decide_eq_true_eq, decide_eq_true_eq]
 exact ⟨fun h => by have h : (i : Int) < (t.length : Int) := h; omega, fun h => by show (i : Int) < (t.length : Int); omega⟩
theorem eK {n : Int} (h : -1000000000000000 ≤ n ∧ n ≤ 1000000000000000) : IntKind.wrap .i64 n = n := vM (by omega) (by omega)
theorem bw {P : ab → Prop} {A : Type} {e : A} {f : A → ab} (h : P (f e)) : ∀ q, q = e → P (f q) := fun q hq => by cases hq; exact h
theorem yL (s : ByteArray) (n : Nat) : bc 0 (c5 (aN s) (n : Int)) (aN s) := by
 unfold c5 bc aN
 split <;> omega
def xU (n : Nat) (k : Int) : Nat := ((k.tmod n + n).tmod n).toNat
theorem yX {n : Nat} (h : 0 < n) (hn : n ≤ 1000000) (k : Int) : IntKind.wrap .i64 (k.tmod n + n) = k.tmod n + n ∧ (k.tmod n + n).tmod n = (xU n k : Nat) ∧ xU n k < n := by
 have h1 : k.tmod n < n := Int.tmod_lt_of_pos k (by omega)
 have h2 : -(n : Int) < k.tmod n := Int.lt_tmod_of_pos k (by omega)
 have h3 : 0 ≤ (k.tmod n + n).tmod n := Int.tmod_nonneg _ (by omega)
 have h4 : (k.tmod n + n).tmod n < n := Int.tmod_lt_of_pos _ (by omega)
 refine ⟨vM (by omega) (by omega), by unfold xU; omega, by unfold xU; omega⟩
end Go.Proofs.YtnakjijahkaoaaaDoor
namespace Go.Proofs.YtnakjijahkaoaaaDoor
open Go Go.RowKit
noncomputable abbrev ig : Fx := { fn := fp, ann := { } }
noncomputable abbrev iw : be := { D := { T := bK, F := [], R := [], ovl := [] }, inl := [] }
noncomputable abbrev n1 : bO := .data gX
theorem nX : XOk prog iw := xok ((bl br aY)) (by kernel_rfl) a7 bp bt
noncomputable def iz (x : den (Ty.int IntKind.u32)) (k : den af) : ab := ab.req (ge0 (IntKind.wrap IntKind.u64 (↑(BitVec.toNat (BitVec.ofInt (IntKind.bits IntKind.u64) (IntKind.wrap IntKind.u64 k) &&& BitVec.ofInt (IntKind.bits IntKind.u64) 31)) : Int))) (ab.req (ge0 (IntKind.wrap IntKind.u64 (32 - IntKind.wrap IntKind.u64 (↑(BitVec.toNat (BitVec.ofInt (IntKind.bits IntKind.u64) (IntKind.wrap IntKind.u64 k) &&& BitVec.ofInt (IntKind.bits IntKind.u64) 31)) : Int)))) (ab.ret (K.val (Ty.pair (Ty.int IntKind.u32) Ty.unit) (IntKind.wrap IntKind.u32 (↑(BitVec.toNat (BitVec.ofInt (IntKind.bits IntKind.u32) (IntKind.wrap IntKind.u32 (x * 2 ^ min (Int.toNat (IntKind.wrap IntKind.u64 (↑(BitVec.toNat (BitVec.ofInt (IntKind.bits IntKind.u64) (IntKind.wrap IntKind.u64 k) &&& BitVec.ofInt (IntKind.bits IntKind.u64) 31)) : Int))) (IntKind.bits IntKind.u32))) ||| BitVec.ofInt (IntKind.bits IntKind.u32) (Int.fdiv x (2 ^ min (Int.toNat (IntKind.wrap IntKind.u64 (32 - IntKind.wrap IntKind.u64 (↑(BitVec.toNat (BitVec.ofInt (IntKind.bits IntKind.u64) (IntKind.wrap IntKind.u64 k) &&& BitVec.ofInt (IntKind.bits IntKind.u64) 31)) : Int)))) (IntKind.bits IntKind.u32))))) : Int), PUnit.unit))))
theorem lH (x : den (Ty.int IntKind.u32)) (k : den af) : ay iw n1 5000 [] ig (aG fp) (Env.of (aW ip (x, k, ()) 0) []) = iz x k := by kernel_rfl
noncomputable abbrev kL : Fx := { fn := gW, ann := { } }
noncomputable abbrev k9 : be := { D := { T := bK, F := [], R := [], ovl := [] }, inl := [] }
noncomputable abbrev rn : bO := .data ka
theorem rJ : XOk prog k9 := xok ((bl br aY)) (by kernel_rfl) a7 bp bt
noncomputable def lw : ab := ab.ret (K.val (Ty.pair ae Ty.unit) (List.set (List.set (List.set (List.set (List.set (List.set (List.set (List.set (List.replicate 8 (zero (Ty.int IntKind.u32))) 0 1779033703) 1 3144134277) 2 1013904242) 3 2773480762) 4 1359893119) 5 2600822924) 6 528734635) 7 1541459225, PUnit.unit))
theorem o6 : ay k9 rn 5000 [] kL (aG gW) (Env.of (aW kE () 0) []) = lw := by kernel_rfl
end Go.Proofs.YtnakjijahkaoaaaDoor
namespace Go.Proofs.YtnakjijahkaoaaaDoor
open Go Go.RowKit
theorem bA {Gl : gz} {f : FuncId} {S : bo} (h : aF prog [] f S) : aF prog Gl f S := ⟨h.can, h.all, fun O w vs x hO _ hx hp => h.does O w vs x hO (fun _ _ _ h => by cases h) hx hp⟩
def A7 : DataW Unit → List Int
 | .agg l => l.map fun | .lit (.int _ n) => n | _ => 0
 | _ => []
def gU : List Int := A7 Rows.laid_posthouse_digest_keys
noncomputable abbrev gl : gz := [(0, ⟨.arr 64 (.int .u32), gU⟩)]
def zh (k : Int) : Int := IntKind.wrap .u64 ((BitVec.toNat (BitVec.ofInt (IntKind.bits .u64) (IntKind.wrap .u64 k) &&& BitVec.ofInt (IntKind.bits .u64) 31) : Nat) : Int)
def cG (x k : Int) : Int :=
 IntKind.wrap .u32 ((BitVec.toNat (BitVec.ofInt (IntKind.bits .u32) (IntKind.wrap .u32 (x * 2 ^ min (Int.toNat (zh k)) (IntKind.bits .u32))) |||
  BitVec.ofInt (IntKind.bits .u32) (Int.fdiv x (2 ^ min (Int.toNat (IntKind.wrap .u64 (32 - zh k))) (IntKind.bits .u32)))) : Nat) : Int)
theorem uY (n : Int) : 0 ≤ IntKind.wrap .u64 n := by
 have : IntKind.wrap .u64 n = n % 18446744073709551616 := rfl
 rw [this]
 exact Int.emod_nonneg _ (by decide)
noncomputable abbrev co : bo := ⟨ip, gX, fun x => (cG x.1 x.2.1, ()), fun _ => True, true⟩
theorem cj : aF prog [] cm co :=
 cI (S := co) nX (fx := ig) m9 (by kernel_rfl) (fun _ _ => trivial) (T := fun x => iz x.1 x.2.1) (fun x => lH x.1 x.2.1) fun O w0 x _ _ =>
  ⟨uY _, uY _, _, rfl, rfl⟩
def iL : List Int := [1779033703, 3144134277, 1013904242, 2773480762, 1359893119, 2600822924, 528734635, 1541459225]
noncomputable abbrev fB : bo := ⟨kE, ka, fun _ => (iL, ()), fun _ => True, true⟩
theorem sg : aF prog [] fF fB :=
 cI (S := fB) rJ (fx := kL) qP (by kernel_rfl) (fun _ _ => trivial) (T := fun _ => lw) (fun _ => o6) fun O w0 x _ _ => ⟨_, rfl, rfl⟩
end Go.Proofs.YtnakjijahkaoaaaDoor
namespace Go.Proofs.YtnakjijahkaoaaaDoor
open Go Go.RowKit
noncomputable abbrev nF : Fx := { fn := kM, ann := { } }
noncomputable abbrev oH : be := { D := { T := bK, F := [(cm, co)], R := [], ovl := [] }, inl := [] }
noncomputable abbrev vF : bO := .data ny
theorem vD (h_bits_RotateLeft32 : aF prog [] cm co) : XOk prog oH := xok (aS (bl br aY) h_bits_RotateLeft32) (by kernel_rfl) a7 bp bt
noncomputable def oL (x : den (Ty.int IntKind.u32)) (a : den af) (b : den af) (c : den (Ty.int IntKind.u32)) : ab := ab.req True (ab.req True (ab.ret (K.val (Ty.pair (Ty.int IntKind.u32) Ty.unit) (IntKind.wrap IntKind.u32 (↑(BitVec.toNat (BitVec.ofInt (IntKind.bits IntKind.u32) (IntKind.wrap IntKind.u32 (↑(BitVec.toNat (BitVec.ofInt (IntKind.bits IntKind.u32) (cG x (IntKind.wrap IntKind.i64 (sO a))) ^^^ BitVec.ofInt (IntKind.bits IntKind.u32) (cG x (IntKind.wrap IntKind.i64 (sO b))))) : Int)) ^^^ BitVec.ofInt (IntKind.bits IntKind.u32) c)) : Int), PUnit.unit))))
theorem rp (x : den (Ty.int IntKind.u32)) (a : den af) (b : den af) (c : den (Ty.int IntKind.u32)) : ay oH vF 5000 [] nF (aG kM) (Env.of (aW nw (x, a, b, c, ()) 0) []) = oL x a b c := by kernel_rfl
noncomputable abbrev cU : Fx := { fn := cK, ann := { loops := [(3, { keep := [0, 3, 6, 7] })] } }
noncomputable abbrev fA : be := { D := { T := bK, F := [], R := [], ovl := [] }, inl := [] }
noncomputable abbrev lF : bO := .data gH
theorem ic : XOk prog fA := xok ((bl br aY)) (by kernel_rfl) a7 bp bt
noncomputable def lx (s : den Ty.str) : ab := ab.loop [] cU (lp cK 3) [(0, K.val Ty.str s), (3, K.val (Ty.int IntKind.u32) 0), (6, K.val af (aN s)), (7, K.val af 0)] []
theorem oc (s : den Ty.str) : ay fA lF 5000 [] cU (aG cK) (Env.of (aW kG (s, ()) 0) []) = lx s := by kernel_rfl
noncomputable def jw (v0 : den Ty.str) (v3 : den (Ty.int IntKind.u32)) (v6 : den af) (v7 : den af) : Env := Env.of [(0, K.val Ty.str v0), (3, K.val (Ty.int IntKind.u32) v3), (6, K.val af v6), (7, K.val af v7)] []
noncomputable def oJ (v0 : den Ty.str) (v3 : den (Ty.int IntKind.u32)) (v6 : den af) (v7 : den af) : ab := ab.ite (decide (v7 < v6)) (ab.req (ge0 8) (ab.req (inB v7 (aN v0)) (ab.loop [] cU (lp cK 3) [(0, K.val Ty.str v0), (3, K.val (Ty.int IntKind.u32) (IntKind.wrap IntKind.u32 (↑(BitVec.toNat (BitVec.ofInt (IntKind.bits IntKind.u32) (IntKind.wrap IntKind.u32 (v3 * 2 ^ min (Int.toNat 8) (IntKind.bits IntKind.u32))) ||| BitVec.ofInt (IntKind.bits IntKind.u32) (IntKind.wrap IntKind.u32 (sAt v0 v7)))) : Int))), (6, K.val af v6), (7, K.val af (IntKind.wrap IntKind.i64 (v7 + 1)))] []))) (ab.ret (K.val (Ty.pair (Ty.int IntKind.u32) Ty.unit) (v3, PUnit.unit)))
theorem gQ (v0 : den Ty.str) (v3 : den (Ty.int IntKind.u32)) (v6 : den af) (v7 : den af) : ay fA lF 5000 [] cU (lp cK 3) (jw v0 v3 v6 v7) = oJ v0 v3 v6 v7 := by kernel_rfl
end Go.Proofs.YtnakjijahkaoaaaDoor
namespace Go.Proofs.YtnakjijahkaoaaaDoor
open Go Go.RowKit
def xI (a b : Int) : Int := IntKind.wrap .u32 ((BitVec.toNat (BitVec.ofInt (IntKind.bits .u32) a ^^^ BitVec.ofInt (IntKind.bits .u32) b) : Nat) : Int)
def z8 (a b : Int) : Int := IntKind.wrap .u32 ((BitVec.toNat (BitVec.ofInt (IntKind.bits .u32) a &&& BitVec.ofInt (IntKind.bits .u32) b) : Nat) : Int)
def lor (a b : Int) : Int := IntKind.wrap .u32 ((BitVec.toNat (BitVec.ofInt (IntKind.bits .u32) a ||| BitVec.ofInt (IntKind.bits .u32) b) : Nat) : Int)
def kB (a b : Int) : Int := IntKind.wrap .u32 (a + b)
def dk (x a b c : Int) : Int := xI (xI (cG x (IntKind.wrap .i64 (sO a))) (cG x (IntKind.wrap .i64 (sO b)))) c
noncomputable abbrev hY : bo := ⟨nw, ny, fun x => (dk x.1 x.2.1 x.2.2.1 x.2.2.2.1, ()), fun _ => True, true⟩
theorem fO : aF prog [] hK hY :=
 cI (S := hY) (vD cj) (fx := nF) tT (by kernel_rfl) (fun _ _ => trivial) (T := fun x => oL x.1 x.2.1 x.2.2.1 x.2.2.2.1) (fun x => rp x.1 x.2.1 x.2.2.1 x.2.2.2.1) fun O w0 x _ _ =>
  ⟨trivial, trivial, _, rfl, rfl⟩
def pu (n b : Int) : Int := lor (IntKind.wrap .u32 (n * 2 ^ min (Int.toNat 8) (IntKind.bits .u32))) (IntKind.wrap .u32 b)
def mX (s : ByteArray) : Int := (ba s).foldl pu 0
noncomputable abbrev fC : bo := ⟨kG, gH, fun x => (mX x.1, ()), fun x => ByteArray.size x.1 ≤ 1000000, false⟩
theorem ot (s : ByteArray) : (ba s).length = s.size := by
 unfold ba
 rw [List.length_map, Array.length_toList]
 rfl
theorem zB (s : ByteArray) {i : Nat} (hi : i < s.size) : (ba s)[i]'(by rw [ot]; exact hi) = sAt s (i : Nat) := by
 have hd : i < s.data.size := hi
 unfold ba sAt
 rw [List.getElem_map, Int.toNat_natCast, Array.getElem?_eq_getElem hd]
 rfl
theorem uw (s : ByteArray) {i : Nat} : decide ((i : Int) < aN s) = decide (i < s.size) := by
 rw [Bool.eq_iff_iff, decide_eq_true_eq, decide_eq_true_eq]
 exact ⟨fun h => by have h : (i : Int) < (s.size : Int) := h; omega, fun h => by show (i : Int) < (s.size : Int); omega⟩
def qO (O : Nat → Prop) (w0 : World) (s : ByteArray) (hs : s.size ≤ 1000000) :=
 PLift.up <| gP (σ := Int) s.size (fun i n => n = ((ba s).take i).foldl pu 0)
  (fun i n => bG prog fA (Cx.base O w0) (eD prog O w0 gH fun y => y = (mX s, ())) [] cU (lp cK 3) (jw s n (aN s) (i : Nat)))
  (fun i n hi hn ih => cx ic (gQ s n _ _) (by
   refine ⟨fun _ => ⟨show (0 : Int) ≤ 8 by decide, ⟨Int.natCast_nonneg _, Int.ofNat_lt.2 hi⟩, ?_⟩, fun h => ?_⟩
   ·rw [kU hi (by omega)]
    refine ih (pu n (sAt s (i : Nat))) ?_
    have hi' : i < (ba s).length := by rw [ot]; exact hi
    rw [List.take_succ_eq_append_getElem hi', List.foldl_append, ← hn, zB s hi]
    rfl
   ·rw [uw] at h
    exact absurd hi (of_decide_eq_false h)))
  (fun n hn => cx ic (gQ s n _ _) (by
   refine ⟨fun h => ?_, fun _ => ⟨_, rfl, ?_⟩⟩
   ·rw [uw] at h
    exact absurd (of_decide_eq_true h) (Nat.lt_irrefl _)
   ·have hn : n = ((ba s).take s.size).foldl pu 0 := hn
    rw [List.take_of_length_le (by rw [ot]; exact Nat.le_refl _)] at hn
    rw [hn]; rfl))
theorem dT : aF prog [] fD fC :=
 cI (S := fC) ic (fx := cU) qC (by kernel_rfl) (fun h => by cases h) (T := fun x => lx x.1) (fun x => oc x.1) fun O w0 x _ hp =>
  (qO O w0 x.1 hp).down 0 0 (Nat.zero_le _) rfl
end Go.Proofs.YtnakjijahkaoaaaDoor
namespace Go.Proofs.YtnakjijahkaoaaaDoor
open Go Go.RowKit
noncomputable abbrev aQ : Fx := { fn := aO, ann := { loops := [(4, { keep := [1, 2, 4, 5, 6, 16] }), (16, { keep := [2, 4, 6, 126] })] }, share := true, shareD := true }
noncomputable abbrev ci : be := { D := { T := bK, F := [(cm, co), (hK, hY), (fD, fC)], R := [], ovl := [], G := gl }, inl := [] }
noncomputable abbrev fo : bO := .data dm
theorem cS (h_bits_RotateLeft32 : aF prog gl cm co) (h_digest_two : aF prog gl hK hY) (h_digest_number : aF prog gl fD fC) : XOk prog ci := xok (aS (aS (aS (bl br aY) h_digest_number) h_digest_two) h_bits_RotateLeft32) (by kernel_rfl) a7 bp bt
noncomputable def iv (h : den ae) (s : den Ty.str) : ab := ab.loop [] aQ (lp aO 4) [(1, K.val Ty.str s), (2, K.ptr 0 ae []), (4, K.ptr (0 + 1) ae []), (5, K.ptr (0 + 1 + 1) (Ty.arr 64 (Ty.int IntKind.u32)) []), (6, K.ptr (0 + 1 + 1 + 1) ae []), (16, K.val af 0)] [(0, Bx.cell ae h), (0 + 1, Bx.cell ae (zero ae)), (0 + 1 + 1, Bx.cell (Ty.arr 64 (Ty.int IntKind.u32)) (zero (Ty.arr 64 (Ty.int IntKind.u32)))), (0 + 1 + 1 + 1, Bx.cell ae h)]
theorem lO (h : den ae) (s : den Ty.str) : ay ci fo 5000 [] aQ (aG aO) (Env.of (aW gY (h, s, ()) 0) []) = iv h s := by kernel_rfl
noncomputable def c8 (v1 : den Ty.str) (v16 : den af) (b0 : den ae) (b1 : den ae) (b2 : den (Ty.arr 64 (Ty.int IntKind.u32))) (b3 : den ae) : Env := Env.of [(1, K.val Ty.str v1), (2, K.ptr 0 ae []), (4, K.ptr (0 + 1) ae []), (5, K.ptr (0 + 1 + 1) (Ty.arr 64 (Ty.int IntKind.u32)) []), (6, K.ptr (0 + 1 + 1 + 1) ae []), (16, K.val af v16)] [(0, Bx.cell ae b0), (1, Bx.cell ae b1), (2, Bx.cell (Ty.arr 64 (Ty.int IntKind.u32)) b2), (3, Bx.cell ae b3)]
noncomputable def lS (v1 : den Ty.str) (v16 : den af) (b0 : den ae) (b1 : den ae) (b2 : den (Ty.arr 64 (Ty.int IntKind.u32))) (b3 : den ae) : ab := ab.ite (decide (v16 < 64)) (ab.ite (decide (v16 < 16)) (ab.req (bc (IntKind.wrap IntKind.i64 (4 * v16)) (IntKind.wrap IntKind.i64 (IntKind.wrap IntKind.i64 (4 * v16) + 4)) (aN v1)) (ab.req (ByteArray.size (ce v1 (IntKind.wrap IntKind.i64 (4 * v16)) (IntKind.wrap IntKind.i64 (IntKind.wrap IntKind.i64 (4 * v16) + 4))) ≤ 1000000) (ab.all (den (Ty.int IntKind.u32)) (fun (q6 : den (Ty.int IntKind.u32)) ↦ q6 = mX (ce v1 (IntKind.wrap IntKind.i64 (4 * v16)) (IntKind.wrap IntKind.i64 (IntKind.wrap IntKind.i64 (4 * v16) + 4)))) fun (q6 : den (Ty.int IntKind.u32)) ↦ ab.req (inB v16 (↑64 : Int)) (ab.req (inB 0 (↑8 : Int)) (ab.req (inB 4 (↑8 : Int)) (ab.all (den (Ty.int IntKind.u32)) (fun (q7 : den (Ty.int IntKind.u32)) ↦ q7 = el (Ty.int IntKind.u32) b3 0) fun (q7 : den (Ty.int IntKind.u32)) ↦ ab.all (den (Ty.int IntKind.u32)) (fun (q8 : den (Ty.int IntKind.u32)) ↦ q8 = el (Ty.int IntKind.u32) b3 4) fun (q8 : den (Ty.int IntKind.u32)) ↦ ab.req (inB 7 (↑8 : Int)) (ab.req True (ab.req True (ab.req (inB 6 (↑8 : Int)) (ab.req (inB 5 (↑8 : Int)) (ab.req (inB 6 (↑8 : Int)) (ab.req (inB v16 (↑64 : Int)) (ab.req (inB v16 (↑64 : Int)) (ab.all (den (Ty.int IntKind.u32)) (fun (q9 : den (Ty.int IntKind.u32)) ↦ q9 = cG q8 (-25)) fun (q9 : den (Ty.int IntKind.u32)) ↦ ab.all (den (Ty.int IntKind.u32)) (fun (q10 : den (Ty.int IntKind.u32)) ↦ q10 = dk q8 6 11 (cG q8 (-25))) fun (q10 : den (Ty.int IntKind.u32)) ↦ ab.all (den (Ty.int IntKind.u32)) (fun (q11 : den (Ty.int IntKind.u32)) ↦ q11 = IntKind.wrap IntKind.u32 (IntKind.wrap IntKind.u32 (IntKind.wrap IntKind.u32 (IntKind.wrap IntKind.u32 (el (Ty.int IntKind.u32) b3 7 + dk q8 6 11 (cG q8 (-25))) + IntKind.wrap IntKind.u32 (↑(BitVec.toNat (BitVec.ofInt (IntKind.bits IntKind.u32) (el (Ty.int IntKind.u32) b3 6) ^^^ BitVec.ofInt (IntKind.bits IntKind.u32) (IntKind.wrap IntKind.u32 (↑(BitVec.toNat (BitVec.ofInt (IntKind.bits IntKind.u32) q8 &&& BitVec.ofInt (IntKind.bits IntKind.u32) (IntKind.wrap IntKind.u32 (↑(BitVec.toNat (BitVec.ofInt (IntKind.bits IntKind.u32) (el (Ty.int IntKind.u32) b3 5) ^^^ BitVec.ofInt (IntKind.bits IntKind.u32) (el (Ty.int IntKind.u32) b3 6))) : Int)))) : Int)))) : Int)) + el (Ty.int IntKind.u32) gU v16) + el (Ty.int IntKind.u32) (gp (Ty.int IntKind.u32) b2 v16 q6) v16)) fun (q11 : den (Ty.int IntKind.u32)) ↦ ab.req (inB 1 (↑8 : Int)) (ab.req (inB 2 (↑8 : Int)) (ab.req (inB 1 (↑8 : Int)) (ab.req True (ab.req True (ab.req (inB 1 (↑8 : Int)) (ab.req (inB 2 (↑8 : Int)) (ab.req (inB 3 (↑8 : Int)) (ab.req (inB 5 (↑8 : Int)) (ab.req (inB 6 (↑8 : Int)) (ab.all (den (Ty.int IntKind.u32)) (fun (q12 : den (Ty.int IntKind.u32)) ↦ q12 = cG q7 (-22)) fun (q12 : den (Ty.int IntKind.u32)) ↦ ab.all (den (Ty.int IntKind.u32)) (fun (q13 : den (Ty.int IntKind.u32)) ↦ q13 = dk q7 2 13 (cG q7 (-22))) fun (q13 : den (Ty.int IntKind.u32)) ↦ ab.loop [] aQ (lp aO 4) [(1, K.val Ty.str v1), (2, K.ptr 0 ae []), (4, K.ptr (0 + 1) ae []), (5, K.ptr (0 + 1 + 1) (Ty.arr 64 (Ty.int IntKind.u32)) []), (6, K.ptr (0 + 1 + 1 + 1) ae []), (16, K.val af (IntKind.wrap IntKind.i64 (v16 + 1)))] [(0, Bx.cell ae b0), (0 + 1, Bx.cell ae b1), (0 + 1 + 1, Bx.cell (Ty.arr 64 (Ty.int IntKind.u32)) (gp (Ty.int IntKind.u32) b2 v16 q6)), (0 + 1 + 1 + 1, Bx.cell ae (List.set (List.set (List.set (List.set (List.set (List.set (List.set (List.set (List.replicate 8 (zero (Ty.int IntKind.u32))) 0 (IntKind.wrap IntKind.u32 (IntKind.wrap IntKind.u32 (q11 + dk q7 2 13 (cG q7 (-22))) + IntKind.wrap IntKind.u32 (↑(BitVec.toNat (BitVec.ofInt (IntKind.bits IntKind.u32) (IntKind.wrap IntKind.u32 (↑(BitVec.toNat (BitVec.ofInt (IntKind.bits IntKind.u32) q7 &&& BitVec.ofInt (IntKind.bits IntKind.u32) (el (Ty.int IntKind.u32) b3 1))) : Int)) ||| BitVec.ofInt (IntKind.bits IntKind.u32) (IntKind.wrap IntKind.u32 (↑(BitVec.toNat (BitVec.ofInt (IntKind.bits IntKind.u32) (el (Ty.int IntKind.u32) b3 2) &&& BitVec.ofInt (IntKind.bits IntKind.u32) (IntKind.wrap IntKind.u32 (↑(BitVec.toNat (BitVec.ofInt (IntKind.bits IntKind.u32) q7 ||| BitVec.ofInt (IntKind.bits IntKind.u32) (el (Ty.int IntKind.u32) b3 1))) : Int)))) : Int)))) : Int)))) 1 q7) 2 (el (Ty.int IntKind.u32) b3 1)) 3 (el (Ty.int IntKind.u32) b3 2)) 4 (IntKind.wrap IntKind.u32 (el (Ty.int IntKind.u32) b3 3 + q11))) 5 q8) 6 (el (Ty.int IntKind.u32) b3 5)) 7 (el (Ty.int IntKind.u32) b3 6)))])))))))))))))))))))))))) (ab.req (inB (IntKind.wrap IntKind.i64 (v16 - 15)) (↑64 : Int)) (ab.req (inB (IntKind.wrap IntKind.i64 (v16 - 2)) (↑64 : Int)) (ab.all (den (Ty.int IntKind.u32)) (fun (q6 : den (Ty.int IntKind.u32)) ↦ q6 = el (Ty.int IntKind.u32) b2 (IntKind.wrap IntKind.i64 (v16 - 15))) fun (q6 : den (Ty.int IntKind.u32)) ↦ ab.all (den (Ty.int IntKind.u32)) (fun (q7 : den (Ty.int IntKind.u32)) ↦ q7 = el (Ty.int IntKind.u32) b2 (IntKind.wrap IntKind.i64 (v16 - 2))) fun (q7 : den (Ty.int IntKind.u32)) ↦ ab.req (ge0 10) (ab.req True (ab.req (inB (IntKind.wrap IntKind.i64 (v16 - 7)) (↑64 : Int)) (ab.req (ge0 3) (ab.req True (ab.req (inB (IntKind.wrap IntKind.i64 (v16 - 16)) (↑64 : Int)) (ab.req (inB v16 (↑64 : Int)) (ab.all (den (Ty.int IntKind.u32)) (fun (q8 : den (Ty.int IntKind.u32)) ↦ q8 = dk q7 17 19 (Int.fdiv q7 (2 ^ min (Int.toNat 10) (IntKind.bits IntKind.u32)))) fun (q8 : den (Ty.int IntKind.u32)) ↦ ab.all (den (Ty.int IntKind.u32)) (fun (q9 : den (Ty.int IntKind.u32)) ↦ q9 = dk q6 7 18 (Int.fdiv q6 (2 ^ min (Int.toNat 3) (IntKind.bits IntKind.u32)))) fun (q9 : den (Ty.int IntKind.u32)) ↦ ab.req (inB 0 (↑8 : Int)) (ab.req (inB 4 (↑8 : Int)) (ab.all (den (Ty.int IntKind.u32)) (fun (q10 : den (Ty.int IntKind.u32)) ↦ q10 = el (Ty.int IntKind.u32) b3 0) fun (q10 : den (Ty.int IntKind.u32)) ↦ ab.all (den (Ty.int IntKind.u32)) (fun (q11 : den (Ty.int IntKind.u32)) ↦ q11 = el (Ty.int IntKind.u32) b3 4) fun (q11 : den (Ty.int IntKind.u32)) ↦ ab.req (inB 7 (↑8 : Int)) (ab.req True (ab.req True (ab.req (inB 6 (↑8 : Int)) (ab.req (inB 5 (↑8 : Int)) (ab.req (inB 6 (↑8 : Int)) (ab.req (inB v16 (↑64 : Int)) (ab.req (inB v16 (↑64 : Int)) (ab.all (den (Ty.int IntKind.u32)) (fun (q12 : den (Ty.int IntKind.u32)) ↦ q12 = cG q11 (-25)) fun (q12 : den (Ty.int IntKind.u32)) ↦ ab.all (den (Ty.int IntKind.u32)) (fun (q13 : den (Ty.int IntKind.u32)) ↦ q13 = dk q11 6 11 (cG q11 (-25))) fun (q13 : den (Ty.int IntKind.u32)) ↦ ab.all (den (Ty.int IntKind.u32)) (fun (q14 : den (Ty.int IntKind.u32)) ↦ q14 = IntKind.wrap IntKind.u32 (IntKind.wrap IntKind.u32 (IntKind.wrap IntKind.u32 (IntKind.wrap IntKind.u32 (el (Ty.int IntKind.u32) b3 7 + dk q11 6 11 (cG q11 (-25))) + IntKind.wrap IntKind.u32 (↑(BitVec.toNat (BitVec.ofInt (IntKind.bits IntKind.u32) (el (Ty.int IntKind.u32) b3 6) ^^^ BitVec.ofInt (IntKind.bits IntKind.u32) (IntKind.wrap IntKind.u32 (↑(BitVec.toNat (BitVec.ofInt (IntKind.bits IntKind.u32) q11 &&& BitVec.ofInt (IntKind.bits IntKind.u32) (IntKind.wrap IntKind.u32 (↑(BitVec.toNat (BitVec.ofInt (IntKind.bits IntKind.u32) (el (Ty.int IntKind.u32) b3 5) ^^^ BitVec.ofInt (IntKind.bits IntKind.u32) (el (Ty.int IntKind.u32) b3 6))) : Int)))) : Int)))) : Int)) + el (Ty.int IntKind.u32) gU v16) + el (Ty.int IntKind.u32) (gp (Ty.int IntKind.u32) b2 v16 (IntKind.wrap IntKind.u32 (IntKind.wrap IntKind.u32 (IntKind.wrap IntKind.u32 (dk q7 17 19 (Int.fdiv q7 (2 ^ min (Int.toNat 10) (IntKind.bits IntKind.u32))) + el (Ty.int IntKind.u32) b2 (IntKind.wrap IntKind.i64 (v16 - 7))) + dk q6 7 18 (Int.fdiv q6 (2 ^ min (Int.toNat 3) (IntKind.bits IntKind.u32)))) + el (Ty.int IntKind.u32) b2 (IntKind.wrap IntKind.i64 (v16 - 16))))) v16)) fun (q14 : den (Ty.int IntKind.u32)) ↦ ab.req (inB 1 (↑8 : Int)) (ab.req (inB 2 (↑8 : Int)) (ab.req (inB 1 (↑8 : Int)) (ab.req True (ab.req True (ab.req (inB 1 (↑8 : Int)) (ab.req (inB 2 (↑8 : Int)) (ab.req (inB 3 (↑8 : Int)) (ab.req (inB 5 (↑8 : Int)) (ab.req (inB 6 (↑8 : Int)) (ab.all (den (Ty.int IntKind.u32)) (fun (q15 : den (Ty.int IntKind.u32)) ↦ q15 = cG q10 (-22)) fun (q15 : den (Ty.int IntKind.u32)) ↦ ab.all (den (Ty.int IntKind.u32)) (fun (q16 : den (Ty.int IntKind.u32)) ↦ q16 = dk q10 2 13 (cG q10 (-22))) fun (q16 : den (Ty.int IntKind.u32)) ↦ ab.loop [] aQ (lp aO 4) [(1, K.val Ty.str v1), (2, K.ptr 0 ae []), (4, K.ptr (0 + 1) ae []), (5, K.ptr (0 + 1 + 1) (Ty.arr 64 (Ty.int IntKind.u32)) []), (6, K.ptr (0 + 1 + 1 + 1) ae []), (16, K.val af (IntKind.wrap IntKind.i64 (v16 + 1)))] [(0, Bx.cell ae b0), (0 + 1, Bx.cell ae b1), (0 + 1 + 1, Bx.cell (Ty.arr 64 (Ty.int IntKind.u32)) (gp (Ty.int IntKind.u32) b2 v16 (IntKind.wrap IntKind.u32 (IntKind.wrap IntKind.u32 (IntKind.wrap IntKind.u32 (dk q7 17 19 (Int.fdiv q7 (2 ^ min (Int.toNat 10) (IntKind.bits IntKind.u32))) + el (Ty.int IntKind.u32) b2 (IntKind.wrap IntKind.i64 (v16 - 7))) + dk q6 7 18 (Int.fdiv q6 (2 ^ min (Int.toNat 3) (IntKind.bits IntKind.u32)))) + el (Ty.int IntKind.u32) b2 (IntKind.wrap IntKind.i64 (v16 - 16)))))), (0 + 1 + 1 + 1, Bx.cell ae (List.set (List.set (List.set (List.set (List.set (List.set (List.set (List.set (List.replicate 8 (zero (Ty.int IntKind.u32))) 0 (IntKind.wrap IntKind.u32 (IntKind.wrap IntKind.u32 (q14 + dk q10 2 13 (cG q10 (-22))) + IntKind.wrap IntKind.u32 (↑(BitVec.toNat (BitVec.ofInt (IntKind.bits IntKind.u32) (IntKind.wrap IntKind.u32 (↑(BitVec.toNat (BitVec.ofInt (IntKind.bits IntKind.u32) q10 &&& BitVec.ofInt (IntKind.bits IntKind.u32) (el (Ty.int IntKind.u32) b3 1))) : Int)) ||| BitVec.ofInt (IntKind.bits IntKind.u32) (IntKind.wrap IntKind.u32 (↑(BitVec.toNat (BitVec.ofInt (IntKind.bits IntKind.u32) (el (Ty.int IntKind.u32) b3 2) &&& BitVec.ofInt (IntKind.bits IntKind.u32) (IntKind.wrap IntKind.u32 (↑(BitVec.toNat (BitVec.ofInt (IntKind.bits IntKind.u32) q10 ||| BitVec.ofInt (IntKind.bits IntKind.u32) (el (Ty.int IntKind.u32) b3 1))) : Int)))) : Int)))) : Int)))) 1 q10) 2 (el (Ty.int IntKind.u32) b3 1)) 3 (el (Ty.int IntKind.u32) b3 2)) 4 (IntKind.wrap IntKind.u32 (el (Ty.int IntKind.u32) b3 3 + q14))) 5 q11) 6 (el (Ty.int IntKind.u32) b3 5)) 7 (el (Ty.int IntKind.u32) b3 6)))]))))))))))))))))))))))))))))))) (ab.loop [] aQ (lp aO 16) [(2, K.ptr 0 ae []), (4, K.ptr (0 + 1) ae []), (6, K.ptr (0 + 1 + 1) ae []), (126, K.val af 0)] [(0, Bx.cell ae b0), (0 + 1, Bx.cell ae b1), (0 + 1 + 1, Bx.cell ae b3)])
theorem fv (v1 : den Ty.str) (v16 : den af) (b0 : den ae) (b1 : den ae) (b2 : den (Ty.arr 64 (Ty.int IntKind.u32))) (b3 : den ae) : ay ci fo 5000 [] aQ (lp aO 4) (c8 v1 v16 b0 b1 b2 b3) = lS v1 v16 b0 b1 b2 b3 := by kernel_rfl
noncomputable def gi (v126 : den af) (b0 : den ae) (b1 : den ae) (b2 : den ae) : Env := Env.of [(2, K.ptr 0 ae []), (4, K.ptr (0 + 1) ae []), (6, K.ptr (0 + 1 + 1) ae []), (126, K.val af v126)] [(0, Bx.cell ae b0), (1, Bx.cell ae b1), (2, Bx.cell ae b2)]
noncomputable def kY (v126 : den af) (b0 : den ae) (b1 : den ae) (b2 : den ae) : ab := ab.ite (decide (v126 < 8)) (ab.req (inB v126 (↑8 : Int)) (ab.req (inB v126 (↑8 : Int)) (ab.req (inB v126 (↑8 : Int)) (ab.loop [] aQ (lp aO 16) [(2, K.ptr 0 ae []), (4, K.ptr (0 + 1) ae []), (6, K.ptr (0 + 1 + 1) ae []), (126, K.val af (IntKind.wrap IntKind.i64 (v126 + 1)))] [(0, Bx.cell ae (gp (Ty.int IntKind.u32) b0 v126 (IntKind.wrap IntKind.u32 (el (Ty.int IntKind.u32) b0 v126 + el (Ty.int IntKind.u32) b2 v126)))), (0 + 1, Bx.cell ae b1), (0 + 1 + 1, Bx.cell ae b2)])))) (ab.ret (K.val (Ty.pair ae Ty.unit) (b0, PUnit.unit)))
theorem fg (v126 : den af) (b0 : den ae) (b1 : den ae) (b2 : den ae) : ay ci fo 5000 [] aQ (lp aO 16) (gi v126 b0 b1 b2) = kY v126 b0 b1 b2 := by kernel_rfl
end Go.Proofs.YtnakjijahkaoaaaDoor
namespace Go.Proofs.YtnakjijahkaoaaaDoor
open Go Go.RowKit
abbrev bS (l : List Int) (n : Int) : Int := el (.int .u32) l n
def AA (x : Int) (k : Int) : Int := Int.fdiv x (2 ^ min (Int.toNat k) (IntKind.bits .u32))
def Bo (k : Int) (wt : Int) (v : List Int) : Int :=
 kB (kB (kB (kB (bS v 7) (dk (bS v 4) 6 11 (cG (bS v 4) (-25)))) (xI (bS v 6) (z8 (bS v 4) (xI (bS v 5) (bS v 6))))) k) wt
def Bm (v : List Int) : Int := lor (z8 (bS v 0) (bS v 1)) (z8 (bS v 2) (lor (bS v 0) (bS v 1)))
def ovV (k : Int) (wt : Int) (v : List Int) : List Int :=
 List.set (List.set (List.set (List.set (List.set (List.set (List.set (List.set (List.replicate 8 (zero (.int .u32))) 0
  (kB (kB (Bo k wt v) (dk (bS v 0) 2 13 (cG (bS v 0) (-22)))) (Bm v))) 1 (bS v 0)) 2 (bS v 1)) 3 (bS v 2)) 4 (kB (bS v 3) (Bo k wt v))) 5 (bS v 4)) 6 (bS v 5)) 7 (bS v 6)
def ovB (s : ByteArray) (t : Int) : Int := mX (ce s (IntKind.wrap .i64 (4 * t)) (IntKind.wrap .i64 (IntKind.wrap .i64 (4 * t) + 4)))
def ovN (w : List Int) (t : Int) : Int :=
 kB (kB (kB (dk (bS w (IntKind.wrap .i64 (t - 2))) 17 19 (AA (bS w (IntKind.wrap .i64 (t - 2))) 10)) (bS w (IntKind.wrap .i64 (t - 7))))
  (dk (bS w (IntKind.wrap .i64 (t - 15))) 7 18 (AA (bS w (IntKind.wrap .i64 (t - 15))) 3))) (bS w (IntKind.wrap .i64 (t - 16)))
def ovW (s : ByteArray) (w : List Int) (t : Int) : List Int := if t < 16 then gp (.int .u32) w t (ovB s t) else gp (.int .u32) w t (ovN w t)
def ovS (s : ByteArray) (v : List Int) : Nat → List Int × List Int
 | 0 => (zero (.arr 64 (.int .u32)), v)
 | i + 1 =>
  let p := ovS s v i
  let w := ovW s p.1 i
  (w, ovV (bS gU i) (bS w i) p.2)
def ovA (h v : List Int) : Nat → List Int
 | 0 => h
 | i + 1 => gp (.int .u32) (ovA h v i) i (kB (bS (ovA h v i) i) (bS v i))
def n9 (h : List Int) (s : ByteArray) : List Int := ovA h (ovS s h 64).2 8
noncomputable abbrev dE : bo := ⟨gY, dm, fun x => (n9 x.1 x.2.1, ()), fun x => ByteArray.size x.2.1 = 64, false⟩
def k5 (O : Nat → Prop) (w0 : World) (h v1 v : List Int) (out : List Int) (ho : out = ovA h v 8) :=
 PLift.up <| gP (σ := List Int) 8 (fun i b => b = ovA h v i)
  (fun i b => bG prog ci (Cx.base O w0) (eD prog O w0 dm fun y => y = (out, ())) [] aQ (lp aO 16) (gi (i : Nat) b v1 v))
  (fun i b hi hb ih => cx (cS (bA cj) (bA fO) (bA dT)) (fg _ b v1 v) (by
   refine ⟨fun _ => ⟨⟨Int.natCast_nonneg _, Int.ofNat_lt.2 hi⟩, ⟨Int.natCast_nonneg _, Int.ofNat_lt.2 hi⟩, ⟨Int.natCast_nonneg _, Int.ofNat_lt.2 hi⟩, ?_⟩, fun h => ?_⟩
   ·rw [kU hi (by omega)]
    refine ih _ ?_
    rw [hb]
    rfl
   ·exact absurd (Int.ofNat_lt.2 hi) (of_decide_eq_false h)))
  (fun b hb => cx (cS (bA cj) (bA fO) (bA dT)) (fg _ b v1 v) (by
   refine ⟨fun h => ?_, fun _ => ⟨_, rfl, ?_⟩⟩
   ·exact absurd (of_decide_eq_true h) (by decide)
   ·show (b, ()) = (out, ())
    rw [hb, ho]))
theorem yZ (s : ByteArray) (a b : Int) : (ce s a b).size ≤ s.size := by
 unfold ce; rw [ByteArray.size_extract]; omega
theorem wr4 {i : Nat} (h : i < 16) : IntKind.wrap .i64 (4 * (i : Int)) = 4 * (i : Int) ∧ IntKind.wrap .i64 (IntKind.wrap .i64 (4 * (i : Int)) + 4) = 4 * (i : Int) + 4 := by
 have h1 : IntKind.wrap .i64 (4 * (i : Int)) = 4 * (i : Int) := eK (by omega)
 refine ⟨h1, ?_⟩
 rw [h1]
 exact eK (by omega)
theorem wrm {i : Nat} (k : Int) (h : i < 64) (h0 : 0 ≤ k) (h1 : k ≤ i) : inB (IntKind.wrap .i64 ((i : Int) - k)) ((64 : Nat) : Int) := by
 rw [eK (by omega)]
 exact ⟨by omega, by omega⟩
theorem dB {a b : Int} (h : decide (0 ≤ a ∧ a < b) = true := by rfl) : inB a b := (of_decide_eq_true h : 0 ≤ a ∧ a < b)
theorem d0 {a : Int} (h : decide (0 ≤ a) = true := by rfl) : ge0 a := (of_decide_eq_true h : 0 ≤ a)
def lL (O : Nat → Prop) (w0 : World) (h b1 : List Int) (s : ByteArray) (hs : s.size = 64) :=
 PLift.up <| gP (σ := List Int × List Int) 64 (fun i b => b = ovS s h i)
  (fun i b => bG prog ci (Cx.base O w0) (eD prog O w0 dm fun y => y = (n9 h s, ())) [] aQ (lp aO 4) (c8 s (i : Nat) h b1 b.1 b.2))
  (fun i b hi hb ih => cx (cS (bA cj) (bA fO) (bA dT)) (fv s _ h b1 b.1 b.2) (by
   have hB : inB (i : Int) ((64 : Nat) : Int) := ⟨Int.natCast_nonneg _, Int.ofNat_lt.2 hi⟩
   refine ⟨fun _ => ⟨fun hl => ?_, fun hl => ?_⟩, fun h => ?_⟩
   ·have hl : i < 16 := Int.ofNat_lt.1 (of_decide_eq_true hl)
    refine ⟨?_, Nat.le_trans (yZ _ _ _) (by rw [hs]; decide), bw ⟨hB, dB, dB, bw <| bw ⟨dB, trivial, trivial, dB, dB, dB, hB, hB, bw <| bw <| bw ⟨dB, dB, dB, trivial, trivial, dB, dB, dB, dB, dB, bw <| bw ?_⟩⟩⟩⟩
    ·rw [(wr4 hl).2, (wr4 hl).1]
     refine ⟨by omega, by omega, ?_⟩
     show 4 * (i : Int) + 4 ≤ (s.size : Int)
     rw [hs]; omega
    ·have hw : IntKind.wrap .i64 ((i : Int) + 1) = ((i + 1 : Nat) : Int) := kU hi (by omega)
     show bG _ _ _ _ _ _ _ (c8 s (IntKind.wrap .i64 ((i : Int) + 1)) h b1 _ _)
     rw [hw]
     refine ih (_, _) ?_
     rw [hb]
     have hlI : (i : Int) < 16 := Int.ofNat_lt.2 hl
     show _ = (ovW s (ovS s h i).1 i, ovV (bS gU i) (bS (ovW s (ovS s h i).1 i) i) (ovS s h i).2)
     unfold ovW
     rw [if_pos hlI]
     rfl
   ·have hl : ¬ i < 16 := fun h => of_decide_eq_false hl (Int.ofNat_lt.2 h)
    refine ⟨wrm 15 hi (by decide) (by omega), wrm 2 hi (by decide) (by omega), bw <| bw ⟨d0, trivial, wrm 7 hi (by decide) (by omega), d0, trivial, wrm 16 hi (by decide) (by omega), hB, bw <| bw ⟨dB, dB, bw <| bw ⟨dB, trivial, trivial, dB, dB, dB, hB, hB, bw <| bw <| bw ⟨dB, dB, dB, trivial, trivial, dB, dB, dB, dB, dB, bw <| bw ?_⟩⟩⟩⟩⟩
    have hw : IntKind.wrap .i64 ((i : Int) + 1) = ((i + 1 : Nat) : Int) := kU hi (by omega)
    show bG _ _ _ _ _ _ _ (c8 s (IntKind.wrap .i64 ((i : Int) + 1)) h b1 _ _)
    rw [hw]
    refine ih (_, _) ?_
    rw [hb]
    have hlI : ¬ (i : Int) < 16 := fun h => hl (Int.ofNat_lt.1 h)
    show _ = (ovW s (ovS s h i).1 i, ovV (bS gU i) (bS (ovW s (ovS s h i).1 i) i) (ovS s h i).2)
    unfold ovW
    rw [if_neg hlI]
    rfl
   ·exact absurd (Int.ofNat_lt.2 hi) (of_decide_eq_false h)))
  (fun b hb => cx (cS (bA cj) (bA fO) (bA dT)) (fv s _ h b1 b.1 b.2) (by
   refine ⟨fun h => ?_, fun _ => ?_⟩
   ·exact absurd (of_decide_eq_true h) (by decide)
   ·exact (k5 O w0 h b1 b.2 _ (by rw [hb]; rfl)).down 0 h (Nat.zero_le _) rfl))
theorem nV : aF prog gl dA dE :=
 cI (S := dE) (cS (bA cj) (bA fO) (bA dT)) (fx := aQ) mT (by kernel_rfl) (fun h => by cases h) (T := fun x => iv x.1 x.2.1) (fun x => lO x.1 x.2.1) fun O w0 x _ hp =>
  (lL O w0 x.1 _ x.2.1 hp).down 0 (_, _) (Nat.zero_le _) rfl
end Go.Proofs.YtnakjijahkaoaaaDoor
namespace Go.Proofs
open Go.Shelf
def Tryd.lays156_ren : Go.Shelf.Ren := ⟨fun | 156 => 47 | 165 => 64 | 166 => 65 | 169 => 66 | 240 => 78 | 241 => 79 | 276 => 85 | 277 => 86 | n => n, fun | 31 => 79 | 9 => 9 | 3 => 3 | 4 => 4 | 0 => 0 | 20 => 20 | 72 => 116 | 76 => 120 | 70 => 114 | 37 => 64 | 75 => 119 | 127 => 132 | 164 => 138 | 5 => 5 | 80 => 122 | n => n, fun | n => n⟩
theorem Tryd.lays156 : Go.Proofs.Lays.n156 Tryd.prog Tryd.lays156_ren := {
 mixed := by kernel_rfl
 f156 := Tryd.func47.trans (congrArg some (by kernel_rfl))
 f165 := Tryd.func64.trans (congrArg some (by kernel_rfl))
 f166 := Tryd.func65.trans (congrArg some (by kernel_rfl))
 f169 := Tryd.func66.trans (congrArg some (by kernel_rfl))
 f240 := Tryd.func78.trans (congrArg some (by kernel_rfl))
 f241 := Tryd.func79.trans (congrArg some (by kernel_rfl))
 f276 := Tryd.func85.trans (congrArg some (by kernel_rfl))
 f277 := Tryd.func86.trans (congrArg some (by kernel_rfl))
 t0 := Tryd.underlying0
 a0 := Tryd.isAgg0
 z0 := Tryd.sizeOf0
 v0 := Tryd.zeroValue0
 t3 := Tryd.underlying3
 a3 := Tryd.isAgg3
 z3 := Tryd.sizeOf3
 v3 := Tryd.zeroValue3
 t4 := Tryd.underlying4
 a4 := Tryd.isAgg4
 z4 := Tryd.sizeOf4
 v4 := Tryd.zeroValue4
 t9 := Tryd.underlying9
 a9 := Tryd.isAgg9
 z9 := Tryd.sizeOf9
 v9 := Tryd.zeroValue9
 t20 := Tryd.underlying20
 a20 := Tryd.isAgg20
 z20 := Tryd.sizeOf20
 v20 := Tryd.zeroValue20
 t31 := Tryd.underlying79
 a31 := Tryd.isAgg79
 z31 := Tryd.sizeOf79
 v31 := Tryd.zeroValue79
 t37 := Tryd.underlying64
 a37 := Tryd.isAgg64
 z37 := Tryd.sizeOf64
 v37 := Tryd.zeroValue64
 t70 := Tryd.underlying114
 a70 := Tryd.isAgg114
 z70 := Tryd.sizeOf114
 v70 := Tryd.zeroValue114
 t72 := Tryd.underlying116
 a72 := Tryd.isAgg116
 z72 := Tryd.sizeOf116
 v72 := Tryd.zeroValue116
 t75 := Tryd.underlying119
 a75 := Tryd.isAgg119
 z75 := Tryd.sizeOf119
 v75 := Tryd.zeroValue119
 t76 := Tryd.underlying120
 a76 := Tryd.isAgg120
 z76 := Tryd.sizeOf120
 v76 := Tryd.zeroValue120
 t127 := Tryd.underlying132
 a127 := Tryd.isAgg132
 z127 := Tryd.sizeOf132
 v127 := Tryd.zeroValue132
 t164 := Tryd.underlying138
 a164 := Tryd.isAgg138
 z164 := Tryd.sizeOf138
 v164 := Tryd.zeroValue138 }
theorem Tryd.Builder_Extra_156 : Builder.Extra Tryd.prog Tryd.lays156_ren := {
 sizeBuilder := by kernel_rfl
 liesBuilder := by kernel_rfl
 t5 := Tryd.underlying5
 a5 := Tryd.isAgg5
 z5 := Tryd.sizeOf5
 v5 := Tryd.zeroValue5
 infoByte := by kernel_rfl
 cellsByte := by kernel_rfl
 sizeByte := by kernel_rfl
 neB5 := by decide }
open Go.RowKit in
theorem Tryd.strings_Join_none (a : Option Addr) (c : Nat) (sep : ByteArray) (w : World) :
    Calls Tryd.prog 47 #[.slice a 0 c, .string sep] w fun e w' => e = .returned (.string ⟨#[]⟩) ∧ w' = w := Any.strings_Join_none Tryd.lays156 Tryd.Builder_Extra_156 a c sep w
open Go.RowKit in
theorem Tryd.strings_Join (bk o c : Nat) (xs : List ByteArray) (sep : ByteArray) (w : World) (hcells : ∀ (j : Nat) x, xs[j]? = some x → w.cell? ⟨bk, o + j, none⟩ = some (.string x)) (hbk : bk < w.heap.size) (hN : xs.length ≤ 140737488355328) (hcap : xs.length ≤ c) (hlen : (Lib.join (xs.map (·.data.toList)) sep.data.toList).length ≤ 140737488355328) :
    Calls Tryd.prog 47 #[.slice (some ⟨bk, o, none⟩) xs.length c, .string sep] w fun e w' => e = .returned (.string ⟨(Lib.join (xs.map (·.data.toList)) sep.data.toList).toArray⟩) ∧ Below w.heap.size w w' := Any.strings_Join Tryd.lays156 Tryd.Builder_Extra_156 bk o c xs sep w hcells hbk hN hcap hlen
def Tryd.lays105_ren : Go.Shelf.Ren := ⟨fun | 105 => 62 | 212 => 75 | 99 => 76 | 165 => 64 | 166 => 65 | 170 => 77 | 169 => 66 | 263 => 82 | 264 => 83 | 206 => 84 | 240 => 78 | 241 => 79 | 276 => 85 | 277 => 86 | n => n, fun | 9 => 9 | 3 => 3 | 4 => 4 | 20 => 20 | 0 => 0 | 46 => 111 | 109 => 128 | 5 => 5 | 72 => 116 | 76 => 120 | 51 => 86 | 146 => 134 | 53 => 110 | 148 => 136 | 70 => 114 | 37 => 64 | 75 => 119 | 127 => 132 | 164 => 138 | 80 => 122 | n => n, fun | n => n⟩
theorem Tryd.lays105 : Go.Proofs.Lays.n105 Tryd.prog Tryd.lays105_ren := {
 mixed := by kernel_rfl
 f99 := Tryd.func76.trans (congrArg some (by kernel_rfl))
 f105 := Tryd.func62.trans (congrArg some (by kernel_rfl))
 f165 := Tryd.func64.trans (congrArg some (by kernel_rfl))
 f166 := Tryd.func65.trans (congrArg some (by kernel_rfl))
 f169 := Tryd.func66.trans (congrArg some (by kernel_rfl))
 f170 := Tryd.func77.trans (congrArg some (by kernel_rfl))
 f206 := Tryd.func84.trans (congrArg some (by kernel_rfl))
 f212 := Tryd.func75.trans (congrArg some (by kernel_rfl))
 f240 := Tryd.func78.trans (congrArg some (by kernel_rfl))
 f241 := Tryd.func79.trans (congrArg some (by kernel_rfl))
 f263 := Tryd.func82.trans (congrArg some (by kernel_rfl))
 f264 := Tryd.func83.trans (congrArg some (by kernel_rfl))
 f276 := Tryd.func85.trans (congrArg some (by kernel_rfl))
 f277 := Tryd.func86.trans (congrArg some (by kernel_rfl))
 t0 := Tryd.underlying0
 a0 := Tryd.isAgg0
 z0 := Tryd.sizeOf0
 v0 := Tryd.zeroValue0
 t3 := Tryd.underlying3
 a3 := Tryd.isAgg3
 z3 := Tryd.sizeOf3
 v3 := Tryd.zeroValue3
 t4 := Tryd.underlying4
 a4 := Tryd.isAgg4
 z4 := Tryd.sizeOf4
 v4 := Tryd.zeroValue4
 t5 := Tryd.underlying5
 a5 := Tryd.isAgg5
 z5 := Tryd.sizeOf5
 v5 := Tryd.zeroValue5
 t9 := Tryd.underlying9
 a9 := Tryd.isAgg9
 z9 := Tryd.sizeOf9
 v9 := Tryd.zeroValue9
 t20 := Tryd.underlying20
 a20 := Tryd.isAgg20
 z20 := Tryd.sizeOf20
 v20 := Tryd.zeroValue20
 t37 := Tryd.underlying64
 a37 := Tryd.isAgg64
 z37 := Tryd.sizeOf64
 v37 := Tryd.zeroValue64
 t46 := Tryd.underlying111
 a46 := Tryd.isAgg111
 z46 := Tryd.sizeOf111
 v46 := Tryd.zeroValue111
 t51 := Tryd.underlying86
 a51 := Tryd.isAgg86
 z51 := Tryd.sizeOf86
 v51 := Tryd.zeroValue86
 t53 := Tryd.underlying110
 a53 := Tryd.isAgg110
 z53 := Tryd.sizeOf110
 v53 := Tryd.zeroValue110
 t70 := Tryd.underlying114
 a70 := Tryd.isAgg114
 z70 := Tryd.sizeOf114
 v70 := Tryd.zeroValue114
 t72 := Tryd.underlying116
 a72 := Tryd.isAgg116
 z72 := Tryd.sizeOf116
 v72 := Tryd.zeroValue116
 t75 := Tryd.underlying119
 a75 := Tryd.isAgg119
 z75 := Tryd.sizeOf119
 v75 := Tryd.zeroValue119
 t76 := Tryd.underlying120
 a76 := Tryd.isAgg120
 z76 := Tryd.sizeOf120
 v76 := Tryd.zeroValue120
 t109 := Tryd.underlying128
 a109 := Tryd.isAgg128
 z109 := Tryd.sizeOf128
 v109 := Tryd.zeroValue128
 t127 := Tryd.underlying132
 a127 := Tryd.isAgg132
 z127 := Tryd.sizeOf132
 v127 := Tryd.zeroValue132
 t146 := Tryd.underlying134
 a146 := Tryd.isAgg134
 z146 := Tryd.sizeOf134
 v146 := Tryd.zeroValue134
 t148 := Tryd.underlying136
 a148 := Tryd.isAgg136
 z148 := Tryd.sizeOf136
 v148 := Tryd.zeroValue136
 t164 := Tryd.underlying138
 a164 := Tryd.isAgg138
 z164 := Tryd.sizeOf138
 v164 := Tryd.zeroValue138 }
theorem Tryd.Builder_Extra_105 : Builder.Extra Tryd.prog Tryd.lays105_ren := {
 sizeBuilder := by kernel_rfl
 liesBuilder := by kernel_rfl
 t5 := Tryd.underlying5
 a5 := Tryd.isAgg5
 z5 := Tryd.sizeOf5
 v5 := Tryd.zeroValue5
 infoByte := by kernel_rfl
 cellsByte := by kernel_rfl
 sizeByte := by kernel_rfl
 neB5 := by decide }
open Go.RowKit Go.Lib in
theorem Tryd.strings_Repeat (s : ByteArray) (c : Nat) (w : World) (hc : c ≤ 9223372036854775807) (hlen : s.size * c ≤ 140737488355328) :
    Calls Tryd.prog 62 #[.string s, .int .i64 c] w fun e w' => e = .returned (.string ⟨(Lib.repeatL s.data.toList c).toArray⟩) ∧ Below w.heap.size w w' := Any.strings_Repeat Tryd.lays105 Tryd.Builder_Extra_105 s c w hc hlen
end Go.Proofs
namespace Go.Proofs.YtnakjijahkaoaaaDoor
open Go Go.RowKit
def bh (xs : List ByteArray) (sep : ByteArray) : ByteArray := ⟨(Lib.join (xs.map (·.data.toList)) sep.data.toList).toArray⟩
def jn (s : ByteArray) (c : Int) : ByteArray := ⟨(Lib.repeatL s.data.toList c.toNat).toArray⟩
theorem rC {w w' : World} (h : Below w.heap.size w w') : Kept w w' := ⟨h.os, h.tape, h.output, h.size, h.block⟩
theorem oU (l : List UInt8) : ByteArray.size ⟨l.toArray⟩ = l.length := by
 show l.toArray.size = l.length
 exact List.size_toArray ..
theorem rY {P : Program} {O : Nat → Prop} {w : World} : ∀ {xs : List ByteArray} {L : List Value}, ag (fun cs x => Rep P .str .cells O w cs x) 1 L xs → ∀ (j : Nat) x, xs[j]? = some x → L[j]? = some (.string x)
 | [], _, _, j, x, hx => by simp at hx
 | y :: ys, L, h, j, x, hx => by
  cases L with
  | nil => obtain ⟨⟨h1, _⟩, _⟩ := h; simp at h1
  | cons u us =>
   obtain ⟨⟨h1, _⟩, h2⟩ := h
   cases j with
   | zero =>
    simp at hx h1
    simp [← hx, h1]
   | succ j =>
    simp at hx h2
    simpa using rY h2 j x hx
noncomputable abbrev ep : bo := ⟨rS, rm, fun x => (bh x.1 x.2.1, ()), fun x => List.length x.1 ≤ 1000000 ∧ ByteArray.size (bh x.1 x.2.1) ≤ 1000000, false⟩
theorem s5 : aF prog [] f5 ep := by
 refine ⟨gq sb (by kernel_rfl) (by kernel_rfl), (fun h => by cases h), fun O w vs x hO _ hx hp => ?_⟩
 obtain ⟨xs, sep, ⟨⟩⟩ := x
 obtain ⟨rest, cs, rfl, ⟨a, c, L, rfl, h2, h3, h4, h5, h6, h7⟩, rest', cs', rfl, ⟨rfl, hs⟩, hn⟩ := hx
 have hn : rest' = [] := hn
 subst hn
 have hp1 : xs.length ≤ 1000000 := hp.1
 have hp2 : (Lib.join (xs.map (·.data.toList)) sep.data.toList).length ≤ 1000000 := by
  have := hp.2
  unfold bh at this
  rwa [oU] at this
 have fin : ∀ e w', e = .returned (.string (bh xs sep)) → Kept w w' → ∃ v, e = Ending.returned v ∧ Kept w w' ∧ Rep prog ep.rs .result O w' [v] (ep.g (xs, sep, ())) := by
  intro e w' he hk
  refine ⟨_, he, hk, ?_⟩
  refine ⟨[], [.string (bh xs sep)], rfl, ⟨rfl, ?_⟩, rfl⟩
  show (bh xs sep).size ≤ maxLen
  unfold bh
  rw [oU]
  exact Nat.le_trans hp2 (by decide)
 cases hx0 : xs with
 | nil =>
  subst hx0
  refine Calls.mono (Tryd.strings_Join_none a c sep w) fun e w' he => ?_
  exact fin e w' he.1 (by rw [he.2]; exact Kept.refl w)
 | cons x0 xr =>
  rw [← hx0]
  obtain ⟨ad, ha, hO', hb, hc⟩ := h6 (by rw [hx0]; exact List.cons_ne_nil _ _)
  subst ha
  obtain ⟨bk, o, sp⟩ := ad
  have hat : ∀ (j : Nat) x, xs[j]? = some x → w.cell? ((⟨bk, o, sp⟩ : Addr).add j) = some (.string x) := fun j x hx => hc j _ (rY h5 j x hx)
  have hsp : sp = none := by
   have h0 := hat 0 x0 (by rw [hx0]; rfl)
   have e : (⟨bk, o, sp⟩ : Addr).add 0 = ⟨bk, o, sp⟩ := rfl
   rw [e] at h0
   unfold World.cell? at h0
   cases sp with
   | none => rfl
   | some q =>
    exfalso
    simp only [Option.isSome_some, if_true] at h0
    split at h0 <;> cases h0
  subst hsp
  have hcells : ∀ (j : Nat) x, xs[j]? = some x → w.cell? ⟨bk, o + j, none⟩ = some (.string x) := fun j x hx => by
   have h := hat j x hx
   unfold Addr.add at h
   split at h
   ·next hj => subst hj; exact h
   ·exact h
  exact Calls.mono (Tryd.strings_Join bk o c xs sep w hcells hb (by omega) h2 (Nat.le_trans hp2 (by decide))) fun e w' he => fin e w' he.1 (rC he.2)
noncomputable abbrev gN : bo := ⟨pN, pS, fun x => (jn x.1 x.2.1, ()), fun x => (0 : Int) ≤ x.2.1 ∧ (x.2.1 : Int) ≤ 1000000 ∧ ByteArray.size x.1 = 1, false⟩
theorem qU : aF prog [] eZ gN := by
 refine ⟨gq pO (by kernel_rfl) (by kernel_rfl), (fun h => by cases h), fun O w vs x hO _ hx hp => ?_⟩
 obtain ⟨s, c, ⟨⟩⟩ := x
 obtain ⟨rest, cs, rfl, ⟨rfl, hs⟩, rest', cs', rfl, ⟨rfl, hc⟩, hn⟩ := hx
 have hn : rest' = [] := hn
 subst hn
 have h0 : (0 : Int) ≤ c := hp.1
 have h1 : (c : Int) ≤ 1000000 := hp.2.1
 have hs1 : s.size = 1 := hp.2.2
 obtain ⟨n, hn⟩ : ∃ n : Nat, (n : Int) = c := ⟨Int.toNat c, Int.toNat_of_nonneg h0⟩
 subst hn
 have hlt : n ≤ 1000000 := Int.ofNat_le.1 h1
 refine Calls.mono (Tryd.strings_Repeat s n w (Nat.le_trans hlt (by decide)) (by rw [hs1, Nat.one_mul]; exact Nat.le_trans hlt (by decide))) fun e w' he => ?_
 refine ⟨_, he.1, rC he.2, ?_⟩
 have e : jn s (n : Int) = ⟨(Lib.repeatL s.data.toList n).toArray⟩ := rfl
 refine ⟨[], [.string (jn s n)], rfl, ⟨rfl, ?_⟩, rfl⟩
 show (jn s (n : Int)).size ≤ maxLen
 rw [e, oU, Lib.repeatL_length]
 have : s.data.toList.length = 1 := hs1
 rw [this, Nat.mul_one]
 exact Nat.le_trans hlt (by decide)
end Go.Proofs.YtnakjijahkaoaaaDoor
namespace Go.Proofs.YtnakjijahkaoaaaDoor
open Go Go.RowKit
noncomputable abbrev du : Fx := { fn := da, ann := { loops := [(5, { keep := [1, 3, 19] })], frz := [(1000005, [2, 3])] } }
noncomputable abbrev cZ : Fx := { fn := cN, ann := { loops := [(0, { keep := [0, 1] })], frz := [(1000000, [2, 3])] } }
noncomputable abbrev bg : Fx := { fn := aB, ann := { loops := [(7, { keep := [2, 3, 5, 15] })] } }
noncomputable abbrev cJ : be := { D := { T := bK, F := [(fF, fB), (dA, dE), (f5, ep), (eZ, gN)], R := [], ovl := [], G := gl }, inl := [(lA, du), (jv, cZ)] }
noncomputable abbrev hH : bO := .data ff
theorem vK (h_digest_begins : aF prog gl fF fB) (h_digest_words_over : aF prog gl dA dE) (h_strings_Join : aF prog gl f5 ep) (h_strings_Repeat : aF prog gl eZ gN) : XOk prog cJ := xok (aS (aS (aS (aS (bl br aY) h_strings_Repeat) h_strings_Join) h_digest_words_over) h_digest_begins) (by kernel_rfl) a7 (jQ rc (by kernel_rfl) (jQ oC (by kernel_rfl) bp)) bt
noncomputable def oA (l : den (Ty.slc Ty.str)) : ab := ab.req True (ab.req (List.length l ≤ 1000000 ∧ ByteArray.size (bh l { data := { toList := [] } }) ≤ 1000000) (ab.req (ge0 3) (ab.req (ByteArray.size (bh l { data := { toList := [] } }) + ByteArray.size { data := { toList := [128] } } ≤ 1099511627776) (ab.req (nz 64) (ab.req (nz 64) (ab.req (0 ≤ Int.tmod (IntKind.wrap IntKind.i64 (120 - Int.tmod (aN (bh l { data := { toList := [] } } ++ { data := { toList := [128] } })) 64)) 64 ∧ Int.tmod (IntKind.wrap IntKind.i64 (120 - Int.tmod (aN (bh l { data := { toList := [] } } ++ { data := { toList := [128] } })) 64)) 64 ≤ 1000000 ∧ ByteArray.size { data := { toList := [0] } } = 1) (ab.req (ByteArray.size (bh l { data := { toList := [] } } ++ { data := { toList := [128] } }) + ByteArray.size (jn { data := { toList := [0] } } (Int.tmod (IntKind.wrap IntKind.i64 (120 - Int.tmod (aN (bh l { data := { toList := [] } } ++ { data := { toList := [128] } })) 64)) 64)) ≤ 1099511627776) (ab.loop [{ fx := bg, todo := f8 aB 2 2, dst := some 10, s := ofS [(2, K.ptr (0 + 1) tId []), (3, K.ptr (0 + 1 + 1) ae [])] }] du (lp da 5) [(1, K.ptr 0 Ty.str []), (3, K.val (Ty.int IntKind.u64) (IntKind.wrap IntKind.u64 (IntKind.wrap IntKind.u64 (aN (bh l { data := { toList := [] } })) * 2 ^ min (Int.toNat 3) (IntKind.bits IntKind.u64)))), (19, K.val af 0)] [(0, Bx.cell Ty.str (bh l { data := { toList := [] } } ++ { data := { toList := [128] } } ++ jn { data := { toList := [0] } } (Int.tmod (IntKind.wrap IntKind.i64 (120 - Int.tmod (aN (bh l { data := { toList := [] } } ++ { data := { toList := [128] } })) 64)) 64))), (0 + 1, Bx.cell tId (zero tId)), (0 + 1 + 1, Bx.cell ae iL)]))))))))
theorem rh (l : den (Ty.slc Ty.str)) : ay cJ hH 5000 [] bg (aG aB) (Env.of (aW ns (l, ()) 0) []) = oA l := by kernel_rfl
noncomputable def eE (v3 : den (Ty.int IntKind.u64)) (v19 : den af) (b0 : den Ty.str) (b1 : den tId) (b2 : den ae) : List bm := [{ fx := bg, todo := f8 aB 2 2, dst := some 10, s := ofS [(2, K.ptr (0 + 1) tId []), (3, K.ptr (0 + 1 + 1) ae [])] }]
noncomputable def eJ (v3 : den (Ty.int IntKind.u64)) (v19 : den af) (b0 : den Ty.str) (b1 : den tId) (b2 : den ae) : Env := Env.of [(1, K.ptr 0 Ty.str []), (3, K.val (Ty.int IntKind.u64) v3), (19, K.val af v19)] [(0, Bx.cell Ty.str b0), (1, Bx.cell tId b1), (2, Bx.cell ae b2)]
noncomputable def it (v3 : den (Ty.int IntKind.u64)) (v19 : den af) (b0 : den Ty.str) (b1 : den tId) (b2 : den ae) : ab := ab.ite (decide (v19 < 8)) (ab.req (ge0 (IntKind.wrap IntKind.i64 (8 * IntKind.wrap IntKind.i64 (7 - v19)))) (ab.req (ByteArray.size b0 + ByteArray.size (aP (List.set (List.replicate 1 (zero (Ty.int IntKind.u8))) 0 (IntKind.wrap IntKind.u8 (Int.fdiv v3 (2 ^ min (Int.toNat (IntKind.wrap IntKind.i64 (8 * IntKind.wrap IntKind.i64 (7 - v19)))) (IntKind.bits IntKind.u64)))))) ≤ 1099511627776) (ab.loop [{ fx := bg, todo := f8 aB 2 2, dst := some 10, s := ofS [(2, K.ptr (0 + 1) tId []), (3, K.ptr (0 + 1 + 1) ae [])] }] du (lp da 5) [(1, K.ptr 0 Ty.str []), (3, K.val (Ty.int IntKind.u64) v3), (19, K.val af (IntKind.wrap IntKind.i64 (v19 + 1)))] [(0, Bx.cell Ty.str (b0 ++ aP (List.set (List.replicate 1 (zero (Ty.int IntKind.u8))) 0 (IntKind.wrap IntKind.u8 (Int.fdiv v3 (2 ^ min (Int.toNat (IntKind.wrap IntKind.i64 (8 * IntKind.wrap IntKind.i64 (7 - v19)))) (IntKind.bits IntKind.u64))))))), (0 + 1, Bx.cell tId b1), (0 + 1 + 1, Bx.cell ae b2)]))) (ab.loop [{ fx := bg, todo := ne aB 4, dst := none, s := ofS [(2, K.ptr (0 + 1 + 1) tId []), (3, K.ptr (0 + 1 + 1 + 1) ae [])], rng := some 0 }] cZ (lp cN 0) [(0, K.yld 0), (1, K.ptr (0 + 1) Ty.str [])] [(0, Bx.lop LoopState.ready none [(3, K.ptr (0 + 1 + 1 + 1) ae [])] 32 (zN aB 4) (qZ aB 4) (vj aB 4)), (0 + 1, Bx.cell Ty.str b0), (0 + 1 + 1, Bx.cell tId b1), (0 + 1 + 1 + 1, Bx.cell ae b2)])
theorem dw (v3 : den (Ty.int IntKind.u64)) (v19 : den af) (b0 : den Ty.str) (b1 : den tId) (b2 : den ae) : ay cJ hH 5000 (eE v3 v19 b0 b1 b2) du (lp da 5) (eJ v3 v19 b0 b1 b2) = it v3 v19 b0 b1 b2 := by kernel_rfl
noncomputable def dV (b1 : den Ty.str) (b2 : den tId) (b3 : den ae) : List bm := [{ fx := bg, todo := ne aB 4, dst := none, s := ofS [(2, K.ptr (0 + 1 + 1) tId []), (3, K.ptr (0 + 1 + 1 + 1) ae [])], rng := some 0 }]
noncomputable def dL (b1 : den Ty.str) (b2 : den tId) (b3 : den ae) : Env := Env.of [(0, K.yld 0), (1, K.ptr (0 + 1) Ty.str [])] [(0, Bx.lop LoopState.ready none [(3, K.ptr (0 + 1 + 1 + 1) ae [])] 32 (zN aB 4) (qZ aB 4) (vj aB 4)), (1, Bx.cell Ty.str b1), (2, Bx.cell tId b2), (3, Bx.cell ae b3)]
noncomputable def gT (b1 : den Ty.str) (b2 : den tId) (b3 : den ae) : ab := ab.ite (!eqb Ty.str b1 { data := { toList := [] } }) (ab.req (bc 0 64 (aN b1)) (ab.req (ByteArray.size (ce b1 0 64) = 64) (ab.ite (!true) (ab.loop [] bg (lp aB 7) [(2, K.ptr 0 tId []), (3, K.ptr (0 + 1) ae []), (5, K.ptr (0 + 1 + 1) tId []), (15, K.val af 0)] [(0, Bx.cell tId b2), (0 + 1, Bx.cell ae (n9 b3 (ce b1 0 64))), (0 + 1 + 1, Bx.cell tId (zero tId))]) (ab.req (bc 64 (aN b1) (aN b1)) (ab.loop [{ fx := bg, todo := ne aB 4, dst := none, s := ofS [(2, K.ptr (0 + 1 + 1) tId []), (3, K.ptr (0 + 1 + 1 + 1) ae [])], rng := some 0 }] cZ (lp cN 0) [(0, K.yld 0), (1, K.ptr (0 + 1) Ty.str [])] [(0, Bx.lop LoopState.ready none [(3, K.ptr (0 + 1 + 1 + 1) ae [])] 32 (zN aB 4) (qZ aB 4) (vj aB 4)), (0 + 1, Bx.cell Ty.str (ce b1 64 (aN b1))), (0 + 1 + 1, Bx.cell tId b2), (0 + 1 + 1 + 1, Bx.cell ae (n9 b3 (ce b1 0 64)))]))))) (ab.loop [] bg (lp aB 7) [(2, K.ptr 0 tId []), (3, K.ptr (0 + 1) ae []), (5, K.ptr (0 + 1 + 1) tId []), (15, K.val af 0)] [(0, Bx.cell tId b2), (0 + 1, Bx.cell ae b3), (0 + 1 + 1, Bx.cell tId (zero tId))])
theorem dg (b1 : den Ty.str) (b2 : den tId) (b3 : den ae) : ay cJ hH 5000 (dV b1 b2 b3) cZ (lp cN 0) (dL b1 b2 b3) = gT b1 b2 b3 := by kernel_rfl
noncomputable def lU (v15 : den af) (b0 : den tId) (b1 : den ae) (b2 : den tId) : Env := Env.of [(2, K.ptr 0 tId []), (3, K.ptr (0 + 1) ae []), (5, K.ptr (0 + 1 + 1) tId []), (15, K.val af v15)] [(0, Bx.cell tId b0), (1, Bx.cell ae b1), (2, Bx.cell tId b2)]
noncomputable def rM (v15 : den af) (b0 : den tId) (b1 : den ae) (b2 : den tId) : ab := ab.ite (decide (v15 < 32)) (ab.req (nz 4) (ab.req (inB (IntKind.wrap IntKind.i64 (Int.tdiv v15 4)) (↑8 : Int)) (ab.req (nz 4) (ab.req (ge0 (IntKind.wrap IntKind.i64 (24 - IntKind.wrap IntKind.i64 (8 * Int.tmod v15 4)))) (ab.req (inB v15 (↑32 : Int)) (ab.loop [] bg (lp aB 7) [(2, K.ptr 0 tId []), (3, K.ptr (0 + 1) ae []), (5, K.ptr (0 + 1 + 1) tId []), (15, K.val af (IntKind.wrap IntKind.i64 (v15 + 1)))] [(0, Bx.cell tId b0), (0 + 1, Bx.cell ae b1), (0 + 1 + 1, Bx.cell tId (gp (Ty.int IntKind.u8) b2 v15 (IntKind.wrap IntKind.u8 (Int.fdiv (el (Ty.int IntKind.u32) b1 (IntKind.wrap IntKind.i64 (Int.tdiv v15 4))) (2 ^ min (Int.toNat (IntKind.wrap IntKind.i64 (24 - IntKind.wrap IntKind.i64 (8 * Int.tmod v15 4)))) (IntKind.bits IntKind.u32))))))])))))) (ab.ret (K.val (Ty.pair tId Ty.unit) (b2, PUnit.unit)))
theorem i8 (v15 : den af) (b0 : den tId) (b1 : den ae) (b2 : den tId) : ay cJ hH 5000 [] bg (lp aB 7) (lU v15 b0 b1 b2) = rM v15 b0 b1 b2 := by kernel_rfl
end Go.Proofs.YtnakjijahkaoaaaDoor
namespace Go.Proofs.YtnakjijahkaoaaaDoor
open Go Go.RowKit
def e0 : ByteArray := { data := { toList := [] } }
def qF : ByteArray := { data := { toList := [128] } }
def bz : ByteArray := { data := { toList := [0] } }
def lR (s : ByteArray) : Int := Int.tmod (IntKind.wrap .i64 (120 - Int.tmod (aN (s ++ qF)) 64)) 64
def sm (s : ByteArray) : Int := IntKind.wrap .u64 (IntKind.wrap .u64 (aN s) * 2 ^ min (Int.toNat 3) (IntKind.bits .u64))
def uj (s : ByteArray) (i : Int) : ByteArray :=
 aP (List.set (List.replicate 1 (zero (Ty.int IntKind.u8))) 0
  (IntKind.wrap .u8 (Int.fdiv (sm s) (2 ^ min (Int.toNat (IntKind.wrap .i64 (8 * IntKind.wrap .i64 (7 - i)))) (IntKind.bits .u64)))))
def qV (s : ByteArray) : Nat → ByteArray
 | 0 => s ++ qF ++ jn bz (lR s)
 | i + 1 => qV s i ++ uj s i
def goR : Nat → ByteArray → List Int → List Int
 | 0, _, h => h
 | m + 1, s, h => goR m (ce s 64 (aN s)) (n9 h (ce s 0 64))
def BR (h : List Int) (i : Int) : Int :=
 IntKind.wrap .u8 (Int.fdiv (el (Ty.int IntKind.u32) h (IntKind.wrap .i64 (Int.tdiv i 4))) (2 ^ min (Int.toNat (IntKind.wrap .i64 (24 - IntKind.wrap .i64 (8 * Int.tmod i 4)))) (IntKind.bits .u32)))
def sG (h : List Int) : Nat → List Int
 | 0 => zero tId
 | i + 1 => gp (Ty.int IntKind.u8) (sG h i) i (BR h i)
def px (s : ByteArray) : Nat := (s.size + 8) / 64 + 1
def xx (s : ByteArray) : List Int := sG (goR (px s) (qV s 8) iL) 32
def jH (l : List ByteArray) : List Int := xx (bh l e0)
theorem yW {n : Int} (h : 0 ≤ n) : ((jn bz n).size : Int) = n := by
 unfold jn
 rw [oU, Lib.repeatL_length]
 have : bz.data.toList.length = 1 := rfl
 rw [this, Nat.mul_one, Int.toNat_of_nonneg h]
theorem rN (s : ByteArray) (i : Int) : (uj s i).size = 1 := rfl
theorem pE {s : ByteArray} (hs : s.size ≤ 900000) : lR s = (120 - ((s.size : Int) + 1) % 64) % 64 := by
 have h1 : aN (s ++ qF) = (s.size : Int) + 1 := by
  unfold aN
  rw [ByteArray.size_append]
  rfl
 unfold lR
 have h2 : Int.tmod ((s.size : Int) + 1) 64 = ((s.size : Int) + 1) % 64 := Int.tmod_eq_emod_of_nonneg (by omega)
 rw [h1, h2, eK (by omega)]
 exact Int.tmod_eq_emod_of_nonneg (by omega)
theorem lE {s : ByteArray} (hs : s.size ≤ 900000) : ∀ i : Nat, ((qV s i).size : Int) = (s.size : Int) + 1 + (120 - ((s.size : Int) + 1) % 64) % 64 + i
 | 0 => by
  have h0 : (0 : Int) ≤ lR s := by rw [pE hs]; exact Int.emod_nonneg _ (by decide)
  show ((s ++ qF ++ jn bz (lR s)).size : Int) = _
  rw [ByteArray.size_append, ByteArray.size_append]
  have h1 := yW h0
  rw [pE hs] at h1
  have h2 : qF.size = 1 := rfl
  rw [pE hs]
  omega
 | i + 1 => by
  show ((qV s i ++ uj s i).size : Int) = _
  rw [ByteArray.size_append, rN]
  have := lE hs i
  omega
theorem Aj {s : ByteArray} (hs : s.size ≤ 900000) : (qV s 8).size = 64 * px s := by
 have h := lE hs 8
 unfold px
 omega
theorem dc : XOk prog cJ := vK (bA sg) nV (bA s5) (bA qU)
theorem rk : ∀ i : Nat, i < 32 → (0 ≤ IntKind.wrap .i64 (Int.tdiv (i : Int) 4) ∧ IntKind.wrap .i64 (Int.tdiv (i : Int) 4) < ((8 : Nat) : Int)) ∧
    0 ≤ IntKind.wrap .i64 (24 - IntKind.wrap .i64 (8 * Int.tmod (i : Int) 4)) := by decide
def rQ (O : Nat → Prop) (w0 : World) (b0 h : List Int) (out : List Int) (ho : out = sG h 32) :=
 PLift.up <| gP (σ := List Int) 32 (fun i b => b = sG h i)
  (fun i b => bG prog cJ (Cx.base O w0) (eD prog O w0 ff fun y => y = (out, ())) [] bg (lp aB 7) (lU (i : Nat) b0 h b))
  (fun i b hi hb ih => cx dc (i8 _ b0 h b) (by
   refine ⟨fun _ => ⟨show (4 : Int) ≠ 0 by decide, (rk i hi).1, show (4 : Int) ≠ 0 by decide, (rk i hi).2, ⟨Int.natCast_nonneg _, Int.ofNat_lt.2 hi⟩, ?_⟩, fun h => ?_⟩
   ·rw [kU hi (by omega)]
    refine ih _ ?_
    rw [hb]
    rfl
   ·exact absurd (Int.ofNat_lt.2 hi) (of_decide_eq_false h)))
  (fun b hb => cx dc (i8 _ b0 h b) (by
   refine ⟨fun h => ?_, fun _ => ⟨_, rfl, ?_⟩⟩
   ·exact absurd (of_decide_eq_true h) (by decide)
   ·show (b, ()) = (out, ())
    rw [hb, ho]))
theorem yz {s : ByteArray} {m : Nat} (h : s.size = 64 * (m + 1)) : (ce s 64 (aN s)).size = 64 * m := by
 unfold ce aN
 rw [ByteArray.size_extract, Int.toNat_natCast]
 have : Int.toNat 64 = 64 := rfl
 omega
theorem yA {s : ByteArray} {m : Nat} (h : s.size = 64 * (m + 1)) : (ce s 0 64).size = 64 := by
 unfold ce
 rw [ByteArray.size_extract]
 have h1 : Int.toNat 64 = 64 := rfl
 have h2 : Int.toNat 0 = 0 := rfl
 omega
theorem qm (O : Nat → Prop) (w0 : World) (b2 out : List Int) (m : Nat) : ∀ (s : ByteArray) (h : List Int), s.size = 64 * m → out = sG (goR m s h) 32 →
    bG prog cJ (Cx.base O w0) (eD prog O w0 ff fun y => y = (out, ())) (dV s b2 h) cZ (lp cN 0) (dL s b2 h) := by
  induction m with
  | zero =>
    intro s h hs ho
    have e : s = e0 := ByteArray.ext (Array.eq_empty_of_size_eq_zero hs)
    have e1 : eqb Ty.str s e0 = true := (gR (t := .str) rfl s e0).2 e
    refine cx dc (dg s b2 h) ⟨fun hc => ?_, fun _ => ?_⟩
    · have hc : (!eqb Ty.str s e0) = true := hc
      rw [e1] at hc
      cases hc
    · exact (rQ O w0 b2 h out ho).down 0 _ (Nat.zero_le _) rfl
  | succ m ih =>
    intro s h hs ho
    have hl : aN s = 64 * ((m : Int) + 1) := by unfold aN; rw [hs]; omega
    refine cx dc (dg s b2 h) ⟨fun _ => ⟨?_, yA hs, fun hc => ?_, fun _ => ⟨?_, ?_⟩⟩, fun hc => ?_⟩
    · rw [hl]
      exact ⟨by decide, by decide, by omega⟩
    · cases hc
    · rw [hl]
      exact ⟨by decide, by omega, Int.le_refl _⟩
    · exact ih _ _ (yz hs) ho
    · have hc : (!eqb Ty.str s e0) = false := hc
      have e : s = e0 := (gR (t := .str) rfl s e0).1 (by cases h1 : eqb Ty.str s e0 with | true => rfl | false => rw [h1] at hc; cases hc)
      rw [e] at hs
      have : e0.size = 0 := rfl
      omega
def rv (O : Nat → Prop) (w0 : World) (s : ByteArray) (hs : s.size ≤ 900000) :=
 PLift.up <| gP (σ := ByteArray) 8 (fun i b => b = qV s i)
  (fun i b => bG prog cJ (Cx.base O w0) (eD prog O w0 ff fun y => y = (xx s, ())) (eE (sm s) (i : Nat) b (zero tId) iL) du (lp da 5) (eJ (sm s) (i : Nat) b (zero tId) iL))
  (fun i b hi hb ih => cx dc (dw (sm s) _ b _ _) (by
   have hz : b.size ≤ 1000000 := by have := lE hs i; rw [hb]; omega
   refine ⟨fun _ => ⟨?_, ?_, ?_⟩, fun h => ?_⟩
   ·show (0 : Int) ≤ IntKind.wrap .i64 (8 * IntKind.wrap .i64 (7 - (i : Int)))
    rw [eK (n := 7 - (i : Int)) (by omega), eK (by omega)]
    omega
   ·show b.size + (uj s i).size ≤ _
    rw [rN]
    omega
   ·rw [kU hi (by omega)]
    refine ih _ ?_
    rw [hb]
    rfl
   ·exact absurd (Int.ofNat_lt.2 hi) (of_decide_eq_false h)))
  (fun b hb => cx dc (dw (sm s) _ b _ _) (by
   refine ⟨fun h => ?_, fun _ => ?_⟩
   ·exact absurd (of_decide_eq_true h) (by decide)
   ·exact qm O w0 _ _ (px s) b iL (by rw [hb]; exact Aj hs) (by rw [hb]; rfl)))
noncomputable abbrev eC : bo := ⟨ns, ff, fun x => (jH x.1, ()), fun x => List.length x.1 ≤ 1000000 ∧ ByteArray.size (bh x.1 e0) ≤ 900000, false⟩
theorem n8 : aF prog gl eH eC :=
 cI (S := eC) dc (fx := bg) t6 (by kernel_rfl) (fun h => by cases h) (T := fun x => oA x.1) (fun x => rh x.1) fun O w0 x _ hp => by
  obtain ⟨l, ⟨⟩⟩ := x
  have hp1 : List.length l ≤ 1000000 := hp.1
  have hp2 : (bh l e0).size ≤ 900000 := hp.2
  have hk : lR (bh l e0) = _ := pE hp2
  refine ⟨trivial, ⟨hp1, Nat.le_trans hp2 (by decide)⟩, by show (0 : Int) ≤ 3; decide, ?_, show (64 : Int) ≠ 0 by decide, show (64 : Int) ≠ 0 by decide, ⟨?_, ?_, rfl⟩, ?_, ?_⟩
  ·show (bh l e0).size + 1 ≤ _
   omega
  ·show (0 : Int) ≤ lR (bh l e0)
   rw [hk]; omega
  ·show lR (bh l e0) ≤ 1000000
   rw [hk]; omega
  ·show (bh l e0 ++ qF).size + (jn bz (lR (bh l e0))).size ≤ _
   have h := lE hp2 0
   have : (qV (bh l e0) 0).size = (bh l e0 ++ qF).size + (jn bz (lR (bh l e0))).size := ByteArray.size_append
   omega
  ·exact (rv O w0 (bh l e0) hp2).down 0 _ (Nat.zero_le _) rfl
end Go.Proofs.YtnakjijahkaoaaaDoor
namespace Go.Proofs.YtnakjijahkaoaaaDoor
open Go Go.RowKit
end Go.Proofs.YtnakjijahkaoaaaDoor
namespace Go.Proofs.YtnakjijahkaoaaaDoor
open Go Go.RowKit Go.ChangeShapes Go.WideShapes Go.ChangeAt
def mU : List (String × DataW Unit) := [("posthouse/digest.keys", Rows.laid_posthouse_digest_keys)]
noncomputable def xM : Nat := ((prog.globals[0]?).map (·.type)).getD 0
theorem zC : (prog.globals[0]?).map (·.type) = some xM := by kernel_rfl
theorem ze : bK.lookup xM = some (.arr 64 (.int .u32)) := by kernel_rfl
theorem BN : prog.globalNamed "posthouse/digest.keys" = some 0 := by kernel_rfl
def zo : DataW Unit → Int := fun | .lit (.int _ n) => n | _ => 0
theorem oo {P : Program} {O : Nat → Prop} {w : World} {k : IntKind} : ∀ (cs : List Value) (ds : List (DataW Unit)), cs.length = ds.length →
    (∀ (i : Nat) c d, cs[i]? = some c → ds[i]? = some d → ∃ z, c = .int k z ∧ d = .lit (.int k z) ∧ InK k z) → ag (fun cs x => Rep P (.int k) .cells O w cs x) 1 cs (ds.map zo)
  | [], [], _, _ => rfl
  | c :: cs, d :: ds, hl, h => by
    obtain ⟨z, e1, e2, e3⟩ := h 0 c d rfl rfl
    refine ⟨?_, oo cs ds (by simpa using hl) fun i c d hc hd => h (i + 1) c d hc hd⟩
    rw [e1, e2]
    exact ⟨rfl, e3⟩
  | [], _ :: _, hl, _ => by simp at hl
  | _ :: _, [], hl, _ => by simp at hl
theorem yP : gU.length = 64 := by kernel_rfl
def xG : DataW Unit → List (DataW Unit)
 | .agg l => l
 | _ => []
theorem A0 : (Rows.laid_posthouse_digest_keys : DataW Unit) = .agg (xG Rows.laid_posthouse_digest_keys) := by kernel_rfl
theorem Ar : gU = (xG Rows.laid_posthouse_digest_keys).map zo := by kernel_rfl
theorem yx {W : World} (h : laidMetH prog mU W) : GlobOk prog gl (fun _ => False) W := by
  rw [MakeChecks.laidMetH_plain _ _ _ (by kernel_rfl)] at h
  obtain ⟨ps, ⟨g0, t0, cs0, f0, p0, q0, hg0, ht0, hv0, hd0, _, _⟩, _, _⟩ := h
  obtain rfl := Option.some.inj (BN.symm.trans hg0)
  obtain rfl := Option.some.inj (zC.symm.trans ht0)
  have hf := f9 br ze
  obtain ⟨e, hu, he, _⟩ := dp hf.shape
  obtain ⟨xs, k, hm, hx, h3, h4, h5⟩ := DataW.trod_array hu hd0
  have hfe := f9 br he
  have hse : prog.cellsOf e = 1 := o8 hfe
  have hst : prog.cellsOf xM = 64 := o8 hf
  rw [A0] at hx
  have hx1 : xG Rows.laid_posthouse_digest_keys = xs.map (·.1) := DataW.agg.inj (Prod.mk.inj hx).1
  have hlen : cs0.toList.length = 64 := h3.trans hst
  have hrep : ag (fun cs x => Rep prog (.int .u32) .cells (fun _ => False) W cs x) 1 cs0.toList gU := by
    rw [Ar]
    refine oo _ _ ?_ fun i c d hc hd => ?_
    · rw [hlen, hx1, List.length_map, h4]
    · have hi : i < 64 := by
        have := (List.getElem?_eq_some_iff.1 hc).1
        omega
      have h6 := h5 i hi
      rw [hse, Nat.mul_one] at h6
      have hc1 : (cs0.toList.drop i).take 1 = [c] := by
        have hlt : i < cs0.toList.length := by omega
        rw [List.drop_eq_getElem_cons hlt]
        have : cs0.toList[i] = c := by
          rw [List.getElem?_eq_getElem hlt] at hc
          exact Option.some.inj hc
        rw [this]
        rfl
      rw [hc1] at h6
      rw [hx1, List.getElem?_map] at hd
      cases hxi : xs[i]? with
      | none => rw [hxi] at hd; cases hd
      | some x =>
        rw [hxi] at hd h6
        obtain ⟨z, e1, e2, e3⟩ := DataW.trod_int (cy hfe.shape) h6
        have hd : x.1 = d := Option.some.inj hd
        refine ⟨z, ?_, ?_, tj e3⟩
        · exact (List.cons.inj e1).1
        · rw [← hd, e2]
  have hcell : ∀ j, W.cell? ⟨0, j, none⟩ = cs0[j]? := fun j => World.var?_cell hg0 hv0 j
  intro g t y hl
  have hg : g = 0 ∧ (⟨t, y⟩ : (t : Ty) × den t) = ⟨.arr 64 (.int .u32), gU⟩ := by
    have hl : List.lookup g [((0 : Nat), (⟨.arr 64 (.int .u32), gU⟩ : (t : Ty) × den t))] = some ⟨t, y⟩ := hl
    rw [List.lookup_cons] at hl
    by_cases hg : g = 0
    · subst hg
      exact ⟨rfl, (Option.some.inj hl).symm⟩
    · have : (g == 0) = false := by simpa using hg
      rw [this] at hl
      cases hl
  obtain ⟨rfl, e⟩ := hg
  cases e
  refine ⟨cs0.toList, fun h => h, ?_, fun j u hj => ?_, yP, hrep⟩
  · have h0 := hcell 0
    have : cs0[0]? ≠ none := by
      intro hn
      have hlt : 0 < cs0.size := by
        have : cs0.toList.length = cs0.size := by simp
        omega
      rw [Array.getElem?_eq_getElem hlt] at hn
      cases hn
    show 0 < W.heap.size
    rcases Nat.eq_zero_or_pos W.heap.size with hz | hz
    · exfalso
      apply this
      rw [← h0]
      simp [World.cell?, hz]
    · exact hz
  · have e : (⟨0, 0, none⟩ : Addr).add j = ⟨0, j, none⟩ := by
      unfold Addr.add
      split
      · next h => subst h; rfl
      · show (⟨0, 0 + j, none⟩ : Addr) = _
        rw [Nat.zero_add]
    rw [e, hcell]
    simpa using hj
set_option maxRecDepth 100000 in
theorem xK {H : Type} {enc : TypeId × Value → H} {w : World} {Gl : gz} (hg : GlobOk prog Gl (fun _ => False) w) {f : FuncId} {aty : Ty} (hk : aF prog Gl f (zP aty)) {ts : List TypeId} (hc : gk prog bK ts aty = true) {r : Reach} {b0 : Nat} {spare : Nat → Bool} {held : Bool} {args : Array Value} {ds : List (DataW H)} {ps : List MemPlace}
    (h : DataW.TrodAll enc prog w 0 spare held ts args.toList ds ps) (hv : ∀ (j : Nat) t v, ts[j]? = some t → args[j]? = some v → Value.okWide prog w r b0 t v) : Calls prog f args w fun e w' => e = .returned (.bool true) ∧ Below w.heap.size w w' := by
  obtain ⟨x, hx⟩ := nm br ts aty args.toList ds ps hc h (fun j t v hj hv' => hv j t v hj (by simpa using hv'))
  have := hk.does (fun _ => False) w args.toList x (fun _ h => h.elim) hg hx trivial
  rw [Array.toArray_toList] at this
  refine Calls.mono this fun e w' ⟨v, e1, e2, rest, cs, e3, e4, e5⟩ => ?_
  have e4 : cs = [.bool true] := e4
  subst e4
  have e3 : [v] = [Value.bool true] := e3
  have : v = .bool true := by simpa using e3
  subst this
  exact ⟨e1, ⟨e2.os, e2.tape, e2.output, e2.size, e2.block⟩⟩
theorem zU (os : Os) (args : Array Value) : laidMetH prog mU ((World.laidAll prog os mU).forCall (fun _ _ => 0) ⟨#[], args, []⟩).memory := by
 rw [MakeChecks.laidMetH_plain _ _ _ (by kernel_rfl)]
 exact laidMet_laidAll _ (by kernel_rfl) (by kernel_rfl)
end Go.Proofs.YtnakjijahkaoaaaDoor
namespace Go.Proofs.YtnakjijahkaoaaaDoor
open Go Go.RowKit
abbrev Lk := den dK
end Go.Proofs.YtnakjijahkaoaaaDoor
namespace Go.Proofs.YtnakjijahkaoaaaDoor
open Go Go.RowKit
noncomputable abbrev mu : Fx := { fn := jl, ann := { frz := [(1, [1])] } }
noncomputable abbrev nO : be := { D := { T := bK, F := [], R := [], ovl := [] }, inl := [] }
noncomputable abbrev uf : bO := .data mi
theorem ud : XOk prog nO := xok ((bl br aY)) (by kernel_rfl) a7 bp bt
noncomputable def nQ (id : den tId) : ab := ab.req (bc 0 16 (↑32 : Int)) (ab.req (16 ≤ List.length (c9 (Ty.int IntKind.u8) id 0 16)) (ab.ret (K.val (Ty.pair bH Ty.unit) (List.take 16 (c9 (Ty.int IntKind.u8) id 0 16), PUnit.unit))))
theorem qz (id : den tId) : ay nO uf 5000 [] mu (aG jl) (Env.of (aW mE (id, ()) 0) []) = nQ id := by kernel_rfl
end Go.Proofs.YtnakjijahkaoaaaDoor
namespace Go.Proofs.YtnakjijahkaoaaaDoor
open Go Go.RowKit
def cT (id : List Int) : List Int := List.take 16 id
noncomputable abbrev gA : bo := ⟨mE, mi, fun x => (cT x.1, ()), fun _ => True, true⟩
theorem ub : aF prog [] gt gA :=
 cI (S := gA) ud (fx := mu) sy (by kernel_rfl) (fun _ _ => trivial) (T := fun x => nQ x.1) (fun x => qz x.1) fun O w0 x hk _ => by
  obtain ⟨id, ⟨⟩⟩ := x
  have hl : List.length id = 32 := hk.1.1
  have e : c9 (Ty.int IntKind.u8) id 0 16 = List.take 16 id := rfl
  refine ⟨⟨by decide, by decide, by decide⟩, ?_, _, rfl, ?_⟩
  ·rw [e]
   show 16 ≤ (List.take 16 id).length
   rw [List.length_take]
   omega
  ·rw [e]
   show (List.take 16 (List.take 16 id), ()) = (List.take 16 id, ())
   rw [List.take_take]; rfl
end Go.Proofs.YtnakjijahkaoaaaDoor
namespace Go.Proofs.YtnakjijahkaoaaaDoor
open Go Go.RowKit
end Go.Proofs.YtnakjijahkaoaaaDoor
namespace Go.Proofs.YtnakjijahkaoaaaDoor
open Go Go.RowKit
end Go.Proofs.YtnakjijahkaoaaaDoor
namespace Go.Proofs.YtnakjijahkaoaaaDoor
open Go Go.RowKit
end Go.Proofs.YtnakjijahkaoaaaDoor
