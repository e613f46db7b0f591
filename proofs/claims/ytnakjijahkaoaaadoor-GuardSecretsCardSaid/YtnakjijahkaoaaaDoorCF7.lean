/- Part 7 of 9 of what this claim's proof stands on: a theory of programs on data, and the contracts of the functions that the law reaches. It holds no condition of its own. -/
import Derived.Test.YtnakjijahkaoaaaDoorCF6
import Derived.Test.YtnakjijahkaoaaaDoorProg
import Derived.Test.YtnakjijahkaoaaaDoorRows
import Derived.Shelf.Strings.Builder1
import Derived.Shelf.Strings.Builder2
import Derived.Shelf.Strings.OnBuilder
import Derived.Shelf.Strings.BuilderF
import Derived.Shelf.Strings.BuilderK
import Derived.Shelf.Strings.Builder2Cap
import Derived.Shelf.Strings.Prefix
import Derived.Shelf.Bits.Mul64
import Derived.Shelf.Strings.Repeat
import Derived.Shelf.Strings.BuilderCap
import Derived.LaidMore
import Derived.Lay
namespace Go.Proofs.YtnakjijahkaoaaaDoor
open Go
noncomputable section
noncomputable abbrev prog : Program := Tryd.prog
abbrev tId : Ty := (.arr 32 (.int .u8))
abbrev bH : Ty := (.arr 16 (.int .u8))
abbrev ae : Ty := (.arr 8 (.int .u32))
abbrev nH : Ty := (.st (.pair (.mp bH .bool) .unit))
abbrev dV : Ty := (.st (.pair tId (.pair tId .unit)))
abbrev al : Ty := (.st (.pair (.int .i64) (.pair tId (.pair (.int .i64) .unit))))
abbrev cp : Ty := (.st (.pair .bool (.pair .bool (.pair .bool (.pair .bool (.pair .bool (.pair .bool .unit)))))))
abbrev cV : Ty := (.st (.pair tId (.pair al (.pair (.int .i64) .unit))))
abbrev aK : Ty := (.st (.pair (.int .i64) (.pair tId (.pair al (.pair (.slc al) (.pair (.int .i64) (.pair .str (.pair .str .unit))))))))
abbrev gI : Ty := (.st (.pair (.int .i64) (.pair aK .unit)))
def bM : List (Nat × Ty) := [
 (1, (.fn .unit .unit)),
 (2, (.int .i64)),
 (3, (.int .i64)),
 (4, .bool),
 (5, (.int .u8)),
 (9, .str),
 (12, (.int .u64)),
 (21, (.int .i32)),
 (22, tId),
 (23, tId),
 (24, (.int .i64)),
 (26, (.fn (.pair .str (.pair tId (.pair (.int .i64) .unit))) (.pair .str (.pair (.int .i64) .unit)))),
 (27, (.fn (.pair tId .unit) (.pair tId .unit))),
 (28, (.fn (.pair .str (.pair tId .unit)) (.pair tId .unit))),
 (29, (.fn (.pair tId (.pair tId .unit)) (.pair .bool .unit))),
 (30, (.fn .unit (.pair .bool .unit))),
 (31, (.fn (.pair .str (.pair tId (.pair (.int .i64) .unit))) (.pair .str .unit))),
 (32, (.fn (.pair tId (.pair tId (.pair .str (.pair (.int .i64) .unit)))) (.pair .bool .unit))),
 (33, (.slc dV)),
 (35, (.fn (.pair (.slc dV) .unit) (.pair .bool (.pair (.int .i64) .unit)))),
 (36, (.fn (.pair (.slc dV) .unit) (.pair .bool .unit))),
 (37, dV),
 (38, dV),
 (39, (.fn (.pair tId (.pair tId (.pair tId (.pair (.slc dV) .unit)))) (.pair .bool .unit))),
 (40, (.fn (.pair (.slc dV) (.pair (.int .i64) .unit)) (.pair .bool .unit))),
 (41, al),
 (42, al),
 (43, (.slc al)),
 (44, aK),
 (45, aK),
 (46, (.fn (.pair aK .unit) (.pair aK .unit))),
 (48, (.fn (.pair .str (.pair aK .unit)) (.pair (.int .i64) (.pair aK (.pair (.int .i64) .unit))))),
 (49, (.fn (.pair .str (.pair aK (.pair aK .unit))) (.pair .bool .unit))),
 (50, (.fn (.pair .str (.pair .str (.pair tId (.pair tId (.pair (.int .i64) .unit))))) (.pair .bool .unit))),
 (51, cV),
 (52, cV),
 (54, (.fn (.pair aK (.pair (.int .i64) .unit)) (.pair cV (.pair (.int .i64) .unit)))),
 (55, (.fn (.pair aK .unit) (.pair .bool .unit))),
 (56, (.fn (.pair aK (.pair (.int .i64) .unit)) (.pair cV .unit))),
 (57, (.fn (.pair aK (.pair aK .unit)) (.pair .bool .unit))),
 (58, gI),
 (59, gI),
 (60, (.fn (.pair .str (.pair aK .unit)) (.pair gI .unit))),
 (61, (.fn (.pair .str (.pair aK (.pair (.int .i64) .unit))) (.pair .bool .unit))),
 (62, (.fn (.pair .str (.pair .str (.pair tId (.pair (.int .i64) (.pair (.int .i64) (.pair (.int .i64) .unit)))))) (.pair .bool .unit))),
 (63, (.fn (.pair (.slc .str) .unit) (.pair tId .unit))),
 (64, (.slc (.int .u8))),
 (65, (.fn (.pair .str .unit) (.pair tId .unit))),
 (66, (.fn (.pair tId .unit) (.pair .str .unit))),
 (67, bH),
 (68, bH),
 (69, (.fn (.pair tId .unit) (.pair bH .unit))),
 (70, (.fn (.pair (.slc dV) .unit) (.pair (.slc dV) .unit))),
 (71, (.mp bH .bool)),
 (72, nH),
 (73, nH),
 (74, (.fn (.pair bH .unit) .unit)),
 (75, (.fn (.pair (.slc dV) (.pair (.fn (.pair dV .unit) (.pair .bool .unit)) .unit)) (.pair (.slc dV) .unit))),
 (76, (.fn (.pair bH .unit) (.pair .bool .unit))),
 (77, (.fn (.pair dV .unit) (.pair .bool .unit))),
 (78, (.fn (.pair (.slc .str) (.pair .str .unit)) (.pair .bool .unit))),
 (79, (.slc .str)),
 (80, (.fn (.pair (.slc dV) (.pair .str .unit)) (.pair (.slc .str) .unit))),
 (81, (.fn (.pair aK (.pair .str .unit)) (.pair (.int .i64) .unit))),
 (83, (.mp (.int .i64) (.fn (.pair aK (.pair .str .unit)) (.pair (.int .i64) .unit)))),
 (84, (.fn .unit (.pair (.mp (.int .i64) (.fn (.pair aK (.pair .str .unit)) (.pair (.int .i64) .unit))) .unit))),
 (85, (.fn (.pair (.slc al) (.pair (.slc al) .unit)) (.pair .bool .unit))),
 (86, (.int .u32)),
 (87, ae),
 (88, ae),
 (89, (.fn .unit (.pair ae .unit))),
 (90, (.fn (.pair (.fn (.pair .str .unit) (.pair .bool .unit)) .unit) .unit)),
 (91, (.fn (.pair (.fn (.pair .str .unit) (.pair .bool .unit)) .unit) .unit)),
 (92, (.fn (.pair .str .unit) (.pair (.fn (.pair (.fn (.pair .str .unit) (.pair .bool .unit)) .unit) .unit) .unit))),
 (93, (.fn (.pair (.slc .str) (.pair .str .unit)) (.pair .str .unit))),
 (94, (.fn (.pair .str .unit) (.pair ae .unit))),
 (95, (.slc (.int .u32))),
 (96, (.fn .unit (.pair (.slc (.int .u32)) .unit))),
 (97, (.fn (.pair .str .unit) (.pair .str .unit))),
 (98, (.fn (.pair (.slc (.int .u32)) (.pair .str .unit)) (.pair (.slc (.int .u32)) .unit))),
 (100, (.fn (.pair (.slc dV) (.pair (.fn (.pair dV .unit) (.pair .bool .unit)) .unit)) (.pair (.int .i64) .unit))),
 (101, (.fn (.pair (.int .i64) .unit) (.pair (.fn (.pair aK (.pair .str .unit)) (.pair (.int .i64) .unit)) .unit))),
 (102, cp),
 (103, cp),
 (105, (.mp (.int .i64) cp)),
 (106, (.fn .unit (.pair (.mp (.int .i64) cp) .unit))),
 (107, (.fn (.pair al .unit) (.pair .bool .unit))),
 (108, (.fn (.pair (.slc al) .unit) (.pair .bool .unit))),
 (109, (.fn (.pair (.int .i64) (.pair (.int .u8) .unit)) (.pair .bool .unit))),
 (110, (.int .u64)),
 (111, (.int .u64)),
 (112, (.fn (.pair .str (.pair (.int .i64) .unit)) (.pair .str .unit))),
 (113, (.fn (.pair .str .unit) (.pair .bool .unit))),
 (117, (.fn (.pair (.int .i64) .unit) .unit)),
 (122, (.fn .unit (.pair .str .unit))),
 (123, (.arr 64 (.int .u32))),
 (124, (.fn (.pair .str .unit) (.pair (.int .u32) .unit))),
 (125, (.fn (.pair (.int .u32) (.pair (.int .i64) (.pair (.int .i64) (.pair (.int .u32) .unit)))) (.pair (.int .u32) .unit))),
 (126, (.fn (.pair (.int .u32) (.pair (.int .i64) .unit)) (.pair (.int .u32) .unit))),
 (127, (.fn (.pair (.slc (.int .u32)) (.pair (.int .u32) (.pair (.int .u32) .unit))) (.pair (.slc (.int .u32)) .unit))),
 (129, (.fn (.pair (.int .u64) (.pair (.int .u64) .unit)) (.pair (.int .u64) (.pair (.int .u64) .unit)))),
 (130, (.fn (.pair .str (.pair .str .unit)) (.pair .bool .unit))),
 (131, (.fn .unit (.pair (.int .i64) .unit))),
 (133, (.fn (.pair (.slc al) (.pair (.fn (.pair al .unit) (.pair .bool .unit)) .unit)) (.pair .bool .unit))),
 (135, (.fn (.pair (.int .u32) (.pair (.int .u32) .unit)) (.pair (.int .u32) (.pair (.int .u32) .unit)))),
 (137, (.fn (.pair (.int .u64) (.pair (.int .u64) .unit)) (.pair (.int .u64) (.pair (.int .u64) .unit)))),
 (140, (.fn (.pair (.int .i64) .unit) (.pair (.slc (.int .u8)) .unit))),
 (141, (.fn (.pair (.slc al) (.pair (.fn (.pair al .unit) (.pair .bool .unit)) .unit)) (.pair (.int .i64) .unit)))]
theorem bq : qA prog bM = true := by kernel_rfl
theorem aX : prog.follows .mixedOrders = true := by kernel_rfl
abbrev i6 : Nat := 10
noncomputable abbrev fP : Func := Tryd.f10
abbrev co : Ty := (.pair .str (.pair .str (.pair tId (.pair (.int .i64) (.pair (.int .i64) (.pair (.int .i64) .unit))))))
abbrev nZ : Ty := (.pair .bool .unit)
theorem nW : Tryd.prog.funcs[i6]? = some fP := Tryd.func10
abbrev dH : Nat := 11
noncomputable abbrev jo : Func := Tryd.f11
abbrev mt : Ty := (.pair .str (.pair tId (.pair (.int .i64) .unit)))
abbrev my : Ty := (.pair .str (.pair (.int .i64) .unit))
theorem sR : Tryd.prog.funcs[dH]? = some jo := Tryd.func11
abbrev ie : Nat := 12
noncomputable abbrev kC : Func := Tryd.f12
abbrev nr : Ty := (.pair tId .unit)
abbrev nN : Ty := (.pair tId .unit)
theorem tP : Tryd.prog.funcs[ie]? = some kC := Tryd.func12
abbrev gz : Nat := 14
noncomputable abbrev jr : Func := Tryd.f14
abbrev lX : Ty := (.pair tId .unit)
abbrev lW : Ty := (.pair tId .unit)
theorem sM : Tryd.prog.funcs[gz]? = some jr := Tryd.func14
abbrev gE : Nat := 15
noncomputable abbrev jt : Func := Tryd.f15
abbrev mc : Ty := (.pair tId (.pair tId .unit))
abbrev mE : Ty := (.pair .bool .unit)
theorem sv : Tryd.prog.funcs[gE]? = some jt := Tryd.func15
abbrev dI : Nat := 22
noncomputable abbrev ju : Func := Tryd.f22
abbrev mA : Ty := (.pair .str (.pair aK .unit))
abbrev iO : Ty := (.pair (.int .i64) (.pair aK (.pair (.int .i64) .unit)))
theorem sG : Tryd.prog.funcs[dI]? = some ju := Tryd.func22
abbrev iS : Nat := 23
noncomputable abbrev lN : Func := Tryd.f23
abbrev oL : Ty := .unit
abbrev oC : Ty := (.pair .bool .unit)
theorem vf : Tryd.prog.funcs[iS]? = some lN := Tryd.func23
abbrev fB : Nat := 24
noncomputable abbrev ic : Func := Tryd.f24
abbrev kf : Ty := (.pair aK (.pair (.int .i64) .unit))
abbrev kX : Ty := (.pair cV (.pair (.int .i64) .unit))
theorem ql : Tryd.prog.funcs[fB]? = some ic := Tryd.func24
abbrev eD : Nat := 29
noncomputable abbrev aB : Func := Tryd.f29
abbrev nq : Ty := (.pair (.slc .str) .unit)
abbrev fg : Ty := (.pair tId .unit)
theorem tT : Tryd.prog.funcs[eD]? = some aB := Tryd.func29
abbrev ep : Nat := 30
noncomputable abbrev kP : Func := Tryd.f30
abbrev nL : Ty := (.pair .str (.pair tId .unit))
abbrev nt : Ty := (.pair tId .unit)
theorem tU : Tryd.prog.funcs[ep]? = some kP := Tryd.func30
abbrev gt : Nat := 33
noncomputable abbrev jj : Func := Tryd.f33
abbrev lY : Ty := (.pair tId .unit)
abbrev lV : Ty := (.pair bH .unit)
theorem s7 : Tryd.prog.funcs[gt]? = some jj := Tryd.func33
abbrev f9 : Nat := 41
noncomputable abbrev iG : Func := Tryd.f41
abbrev ll : Ty := .unit
abbrev lh : Ty := (.pair (.mp (.int .i64) (.fn (.pair aK (.pair .str .unit)) (.pair (.int .i64) .unit))) .unit)
theorem rV : Tryd.prog.funcs[f9]? = some iG := Tryd.func41
abbrev eE : Nat := 42
noncomputable abbrev j4 : Func := Tryd.f42
abbrev nG : Ty := (.pair aK .unit)
abbrev jm : Ty := (.pair .bool .unit)
theorem tQ : Tryd.prog.funcs[eE]? = some j4 := Tryd.func42
abbrev fD : Nat := 45
noncomputable abbrev ir : Func := Tryd.f45
abbrev jY : Ty := .unit
abbrev kd : Ty := (.pair ae .unit)
theorem qY : Tryd.prog.funcs[fD]? = some ir := Tryd.func45
abbrev lf : Nat := 46
noncomputable abbrev da : Func := Tryd.f46
theorem qB : Tryd.prog.funcs[lf]? = some da := Tryd.func46
abbrev gb : Nat := 47
noncomputable abbrev ti : Func := Tryd.f47
abbrev rL : Ty := (.pair (.slc .str) (.pair .str .unit))
abbrev rK : Ty := (.pair .str .unit)
theorem rB : Tryd.prog.funcs[gb]? = some ti := Tryd.func47
abbrev dD : Nat := 48
noncomputable abbrev aO : Func := Tryd.f48
abbrev ib : Ty := (.pair ae (.pair .str .unit))
abbrev dl : Ty := (.pair ae .unit)
theorem m4 : Tryd.prog.funcs[dD]? = some aO := Tryd.func48
abbrev kQ : Nat := 53
noncomputable abbrev kw : Func := Tryd.f53
theorem pR : Tryd.prog.funcs[kQ]? = some kw := Tryd.func53
abbrev dR : Nat := 54
noncomputable abbrev fV : Func := Tryd.f54
abbrev iv : Ty := (.pair aK (.pair .str (.pair (.ref (.int .i64)) .unit)))
abbrev iw : Ty := (.pair (.int .i64) .unit)
theorem nX : Tryd.prog.funcs[dR]? = some fV := Tryd.func54
abbrev eY : Nat := 55
noncomputable abbrev gL : Func := Tryd.f55
abbrev gg : Ty := (.pair aK (.pair .str .unit))
abbrev ed : Ty := (.pair (.int .i64) .unit)
theorem pO : Tryd.prog.funcs[eY]? = some gL := Tryd.func55
abbrev hK : Nat := 56
noncomputable abbrev kF : Func := Tryd.f56
abbrev nJ : Ty := .unit
abbrev nR : Ty := (.pair (.mp (.int .i64) cp) .unit)
theorem tZ : Tryd.prog.funcs[hK]? = some kF := Tryd.func56
abbrev fX : Nat := 57
noncomputable abbrev jM : Func := Tryd.f57
abbrev qc : Ty := (.pair al .unit)
abbrev pW : Ty := (.pair .bool .unit)
theorem wL : Tryd.prog.funcs[fX]? = some jM := Tryd.func57
abbrev gv : Nat := 58
noncomputable abbrev jq : Func := Tryd.f58
abbrev mC : Ty := (.pair (.slc al) .unit)
abbrev mD : Ty := (.pair .bool .unit)
theorem sO : Tryd.prog.funcs[gv]? = some jq := Tryd.func58
abbrev eS : Nat := 62
noncomputable abbrev qZ : Func := Tryd.f62
abbrev pM : Ty := (.pair .str (.pair (.int .i64) .unit))
abbrev pS : Ty := (.pair .str .unit)
theorem pN : Tryd.prog.funcs[eS]? = some qZ := Tryd.func62
abbrev jy : Nat := 63
noncomputable abbrev cM : Func := Tryd.f63
theorem oP : Tryd.prog.funcs[jy]? = some cM := Tryd.func63
abbrev fy : Nat := 67
noncomputable abbrev cK : Func := Tryd.f67
abbrev kD : Ty := (.pair .str .unit)
abbrev gJ : Ty := (.pair (.int .u32) .unit)
theorem qQ : Tryd.prog.funcs[fy]? = some cK := Tryd.func67
abbrev gZ : Nat := 68
noncomputable abbrev kL : Func := Tryd.f68
abbrev nB : Ty := (.pair (.int .u32) (.pair (.int .i64) (.pair (.int .i64) (.pair (.int .u32) .unit))))
abbrev nT : Ty := (.pair (.int .u32) .unit)
theorem tI : Tryd.prog.funcs[gZ]? = some kL := Tryd.func68
abbrev cn : Nat := 69
noncomputable abbrev fp : Func := Tryd.f69
abbrev iq : Ty := (.pair (.int .u32) (.pair (.int .i64) .unit))
abbrev g8 : Ty := (.pair (.int .u32) .unit)
theorem nh : Tryd.prog.funcs[cn]? = some fp := Tryd.func69
abbrev iY : Nat := 73
noncomputable abbrev fj : Func := Tryd.f73
abbrev oW : Ty := (.pair (.slc al) .unit)
abbrev kh : Ty := (.pair .bool .unit)
theorem uS : Tryd.prog.funcs[iY]? = some fj := Tryd.func73
abbrev eK : Nat := 80
noncomputable abbrev bv : Func := Tryd.f80
theorem iN : Tryd.prog.funcs[eK]? = some bv := Tryd.func80
abbrev ff : Nat := 81
noncomputable abbrev nA : Func := Tryd.f81
theorem sU : Tryd.prog.funcs[ff]? = some nA := Tryd.func81
abbrev fK : Nat := 87
noncomputable abbrev br : Func := Tryd.f87
theorem jz : Tryd.prog.funcs[fK]? = some br := Tryd.func87
end
end Go.Proofs.YtnakjijahkaoaaaDoor
namespace Go.Proofs.YtnakjijahkaoaaaDoor
open Go Go.RowKit
theorem gS {σ : Type} (n : Nat) (Inv : Nat → σ → Prop) (Q : Nat → σ → Prop) (step : ∀ i s, i < n → Inv i s → (∀ s', Inv (i + 1) s' → Q (i + 1) s') → Q i s) (last : ∀ s, Inv n s → Q n s) : ∀ (i : Nat) (s : σ), i ≤ n → Inv i s → Q i s := by
 intro i s hi
 obtain ⟨k, hk⟩ : ∃ k, k + i = n := ⟨n - i, by omega⟩
 induction k generalizing i s with
 | zero =>
  have e : i = n := by omega
  subst e
  exact last s
 | succ k ih =>
  intro hI
  exact step i s (by omega) hI fun s' h' => ih (i + 1) s' (by omega) (by omega) h'
theorem wU {e : Ty} (t : List (den e)) {i : Nat} : (decide ((i : Int) < lnx e t)) = decide (i < t.length) := by
 rw [Bool.eq_iff_iff, decide_eq_true_eq, decide_eq_true_eq]
 exact ⟨fun h => by have h : (i : Int) < (t.length : Int) := h; omega, fun h => by show (i : Int) < (t.length : Int); omega⟩
theorem eM {n : Int} (h : -1000000000000000 ≤ n ∧ n ≤ 1000000000000000) : IntKind.wrap .i64 n = n := uL (by omega) (by omega)
theorem bw {P : ab → Prop} {A : Type} {e : A} {f : A → ab} (h : P (f e)) : ∀ q, q = e → P (f q) := fun q hq => by cases hq; exact h
theorem zj (s : ByteArray) (n : Nat) : bc 0 (c6 (aN s) (n : Int)) (aN s) := by
 unfold c6 bc aN
 split <;> omega
def xt (n : Nat) (k : Int) : Nat := ((k.tmod n + n).tmod n).toNat
theorem yw {n : Nat} (h : 0 < n) (hn : n ≤ 1000000) (k : Int) : IntKind.wrap .i64 (k.tmod n + n) = k.tmod n + n ∧ (k.tmod n + n).tmod n = (xt n k : Nat) ∧ xt n k < n := by
 have h1 : k.tmod n < n := Int.tmod_lt_of_pos k (by omega)
 have h2 : -(n : Int) < k.tmod n := Int.lt_tmod_of_pos k (by omega)
 have h3 : 0 ≤ (k.tmod n + n).tmod n := Int.tmod_nonneg _ (by omega)
 have h4 : (k.tmod n + n).tmod n < n := Int.tmod_lt_of_pos _ (by omega)
 refine ⟨uL (by omega) (by omega), by unfold xt; omega, by unfold xt; omega⟩
end Go.Proofs.YtnakjijahkaoaaaDoor
namespace Go.Proofs.YtnakjijahkaoaaaDoor
open Go Go.RowKit
noncomputable abbrev g6 : Fx := { fn := fp, ann := { } }
noncomputable abbrev iB : be := { D := { T := bM, F := [], R := [], ovl := [] }, inl := [] }
noncomputable abbrev nU : bO := .data g8
theorem n1 : XOk prog iB := xok ((bl bq aX)) (by kernel_rfl) a6 bo bt
noncomputable def iA (x : den (Ty.int IntKind.u32)) (k : den af) : ab := ab.req (ge0 (IntKind.wrap IntKind.u64 (↑(BitVec.toNat (BitVec.ofInt (IntKind.bits IntKind.u64) (IntKind.wrap IntKind.u64 k) &&& BitVec.ofInt (IntKind.bits IntKind.u64) 31)) : Int))) (ab.req (ge0 (IntKind.wrap IntKind.u64 (32 - IntKind.wrap IntKind.u64 (↑(BitVec.toNat (BitVec.ofInt (IntKind.bits IntKind.u64) (IntKind.wrap IntKind.u64 k) &&& BitVec.ofInt (IntKind.bits IntKind.u64) 31)) : Int)))) (ab.ret (K.val (Ty.pair (Ty.int IntKind.u32) Ty.unit) (IntKind.wrap IntKind.u32 (↑(BitVec.toNat (BitVec.ofInt (IntKind.bits IntKind.u32) (IntKind.wrap IntKind.u32 (x * 2 ^ min (Int.toNat (IntKind.wrap IntKind.u64 (↑(BitVec.toNat (BitVec.ofInt (IntKind.bits IntKind.u64) (IntKind.wrap IntKind.u64 k) &&& BitVec.ofInt (IntKind.bits IntKind.u64) 31)) : Int))) (IntKind.bits IntKind.u32))) ||| BitVec.ofInt (IntKind.bits IntKind.u32) (Int.fdiv x (2 ^ min (Int.toNat (IntKind.wrap IntKind.u64 (32 - IntKind.wrap IntKind.u64 (↑(BitVec.toNat (BitVec.ofInt (IntKind.bits IntKind.u64) (IntKind.wrap IntKind.u64 k) &&& BitVec.ofInt (IntKind.bits IntKind.u64) 31)) : Int)))) (IntKind.bits IntKind.u32))))) : Int), PUnit.unit))))
theorem lT (x : den (Ty.int IntKind.u32)) (k : den af) : ay iB nU 5000 [] g6 (aF fp) (Env.of (aW iq (x, k, ()) 0) []) = iA x k := by kernel_rfl
noncomputable abbrev kb : Fx := { fn := ir, ann := { } }
noncomputable abbrev lB : be := { D := { T := bM, F := [], R := [], ovl := [] }, inl := [] }
noncomputable abbrev rS : bO := .data kd
theorem sj : XOk prog lB := xok ((bl bq aX)) (by kernel_rfl) a6 bo bt
noncomputable def lr : ab := ab.ret (K.val (Ty.pair ae Ty.unit) (List.set (List.set (List.set (List.set (List.set (List.set (List.set (List.set (List.replicate 8 (zero (Ty.int IntKind.u32))) 0 1779033703) 1 3144134277) 2 1013904242) 3 2773480762) 4 1359893119) 5 2600822924) 6 528734635) 7 1541459225, PUnit.unit))
theorem pl : ay lB rS 5000 [] kb (aF ir) (Env.of (aW jY () 0) []) = lr := by kernel_rfl
end Go.Proofs.YtnakjijahkaoaaaDoor
namespace Go.Proofs.YtnakjijahkaoaaaDoor
open Go Go.RowKit
theorem bA {Gl : gG} {f : FuncId} {S : bp} (h : aG prog [] f S) : aG prog Gl f S := ⟨h.can, h.all, fun O w vs x hO _ hx hp => h.does O w vs x hO (fun _ _ _ h => by cases h) hx hp⟩
def AJ : DataW Unit → List Int
 | .agg l => l.map fun | .lit (.int _ n) => n | _ => 0
 | _ => []
def gV : List Int := AJ Rows.laid_posthouse_digest_keys
noncomputable abbrev gl : gG := [(0, ⟨.arr 64 (.int .u32), gV⟩)]
def yO (k : Int) : Int := IntKind.wrap .u64 ((BitVec.toNat (BitVec.ofInt (IntKind.bits .u64) (IntKind.wrap .u64 k) &&& BitVec.ofInt (IntKind.bits .u64) 31) : Nat) : Int)
def cJ (x k : Int) : Int :=
 IntKind.wrap .u32 ((BitVec.toNat (BitVec.ofInt (IntKind.bits .u32) (IntKind.wrap .u32 (x * 2 ^ min (Int.toNat (yO k)) (IntKind.bits .u32))) |||
  BitVec.ofInt (IntKind.bits .u32) (Int.fdiv x (2 ^ min (Int.toNat (IntKind.wrap .u64 (32 - yO k))) (IntKind.bits .u32)))) : Nat) : Int)
theorem uu (n : Int) : 0 ≤ IntKind.wrap .u64 n := by
 have : IntKind.wrap .u64 n = n % 18446744073709551616 := rfl
 rw [this]
 exact Int.emod_nonneg _ (by decide)
noncomputable abbrev ci : bp := ⟨iq, g8, fun x => (cJ x.1 x.2.1, ()), fun _ => True, true⟩
theorem cj : aG prog [] cn ci :=
 cD (S := ci) n1 (fx := g6) nh (by kernel_rfl) (fun _ _ => trivial) (T := fun x => iA x.1 x.2.1) (fun x => lT x.1 x.2.1) fun O w0 x _ _ =>
  ⟨uu _, uu _, _, rfl, rfl⟩
def iF : List Int := [1779033703, 3144134277, 1013904242, 2773480762, 1359893119, 2600822924, 528734635, 1541459225]
noncomputable abbrev fu : bp := ⟨jY, kd, fun _ => (iF, ()), fun _ => True, true⟩
theorem rp : aG prog [] fD fu :=
 cD (S := fu) sj (fx := kb) qY (by kernel_rfl) (fun _ _ => trivial) (T := fun _ => lr) (fun _ => pl) fun O w0 x _ _ => ⟨_, rfl, rfl⟩
end Go.Proofs.YtnakjijahkaoaaaDoor
namespace Go.Proofs.YtnakjijahkaoaaaDoor
open Go Go.RowKit
noncomputable abbrev nj : Fx := { fn := kL, ann := { } }
noncomputable abbrev pn : be := { D := { T := bM, F := [(cn, ci)], R := [], ovl := [] }, inl := [] }
noncomputable abbrev u9 : bO := .data nT
theorem u3 (h_bits_RotateLeft32 : aG prog [] cn ci) : XOk prog pn := xok (aS (bl bq aX) h_bits_RotateLeft32) (by kernel_rfl) a6 bo bt
noncomputable def pp (x : den (Ty.int IntKind.u32)) (a : den af) (b : den af) (c : den (Ty.int IntKind.u32)) : ab := ab.req True (ab.req True (ab.ret (K.val (Ty.pair (Ty.int IntKind.u32) Ty.unit) (IntKind.wrap IntKind.u32 (↑(BitVec.toNat (BitVec.ofInt (IntKind.bits IntKind.u32) (IntKind.wrap IntKind.u32 (↑(BitVec.toNat (BitVec.ofInt (IntKind.bits IntKind.u32) (cJ x (IntKind.wrap IntKind.i64 (sq a))) ^^^ BitVec.ofInt (IntKind.bits IntKind.u32) (cJ x (IntKind.wrap IntKind.i64 (sq b))))) : Int)) ^^^ BitVec.ofInt (IntKind.bits IntKind.u32) c)) : Int), PUnit.unit))))
theorem rm (x : den (Ty.int IntKind.u32)) (a : den af) (b : den af) (c : den (Ty.int IntKind.u32)) : ay pn u9 5000 [] nj (aF kL) (Env.of (aW nB (x, a, b, c, ()) 0) []) = pp x a b c := by kernel_rfl
noncomputable abbrev cW : Fx := { fn := cK, ann := { loops := [(3, { keep := [0, 3, 6, 7] })] } }
noncomputable abbrev ft : be := { D := { T := bM, F := [], R := [], ovl := [] }, inl := [] }
noncomputable abbrev li : bO := .data gJ
theorem g9 : XOk prog ft := xok ((bl bq aX)) (by kernel_rfl) a6 bo bt
noncomputable def lA (s : den Ty.str) : ab := ab.loop [] cW (lp cK 3) [(0, K.val Ty.str s), (3, K.val (Ty.int IntKind.u32) 0), (6, K.val af (aN s)), (7, K.val af 0)] []
theorem oc (s : den Ty.str) : ay ft li 5000 [] cW (aF cK) (Env.of (aW kD (s, ()) 0) []) = lA s := by kernel_rfl
noncomputable def jw (v0 : den Ty.str) (v3 : den (Ty.int IntKind.u32)) (v6 : den af) (v7 : den af) : Env := Env.of [(0, K.val Ty.str v0), (3, K.val (Ty.int IntKind.u32) v3), (6, K.val af v6), (7, K.val af v7)] []
noncomputable def oy (v0 : den Ty.str) (v3 : den (Ty.int IntKind.u32)) (v6 : den af) (v7 : den af) : ab := ab.ite (decide (v7 < v6)) (ab.req (ge0 8) (ab.req (inB v7 (aN v0)) (ab.loop [] cW (lp cK 3) [(0, K.val Ty.str v0), (3, K.val (Ty.int IntKind.u32) (IntKind.wrap IntKind.u32 (↑(BitVec.toNat (BitVec.ofInt (IntKind.bits IntKind.u32) (IntKind.wrap IntKind.u32 (v3 * 2 ^ min (Int.toNat 8) (IntKind.bits IntKind.u32))) ||| BitVec.ofInt (IntKind.bits IntKind.u32) (IntKind.wrap IntKind.u32 (sAt v0 v7)))) : Int))), (6, K.val af v6), (7, K.val af (IntKind.wrap IntKind.i64 (v7 + 1)))] []))) (ab.ret (K.val (Ty.pair (Ty.int IntKind.u32) Ty.unit) (v3, PUnit.unit)))
theorem gQ (v0 : den Ty.str) (v3 : den (Ty.int IntKind.u32)) (v6 : den af) (v7 : den af) : ay ft li 5000 [] cW (lp cK 3) (jw v0 v3 v6 v7) = oy v0 v3 v6 v7 := by kernel_rfl
end Go.Proofs.YtnakjijahkaoaaaDoor
namespace Go.Proofs.YtnakjijahkaoaaaDoor
open Go Go.RowKit
def yl (a b : Int) : Int := IntKind.wrap .u32 ((BitVec.toNat (BitVec.ofInt (IntKind.bits .u32) a ^^^ BitVec.ofInt (IntKind.bits .u32) b) : Nat) : Int)
def z7 (a b : Int) : Int := IntKind.wrap .u32 ((BitVec.toNat (BitVec.ofInt (IntKind.bits .u32) a &&& BitVec.ofInt (IntKind.bits .u32) b) : Nat) : Int)
def lor (a b : Int) : Int := IntKind.wrap .u32 ((BitVec.toNat (BitVec.ofInt (IntKind.bits .u32) a ||| BitVec.ofInt (IntKind.bits .u32) b) : Nat) : Int)
def j3 (a b : Int) : Int := IntKind.wrap .u32 (a + b)
def dh (x a b c : Int) : Int := yl (yl (cJ x (IntKind.wrap .i64 (sq a))) (cJ x (IntKind.wrap .i64 (sq b)))) c
noncomputable abbrev ii : bp := ⟨nB, nT, fun x => (dh x.1 x.2.1 x.2.2.1 x.2.2.2.1, ()), fun _ => True, true⟩
theorem fR : aG prog [] gZ ii :=
 cD (S := ii) (u3 cj) (fx := nj) tI (by kernel_rfl) (fun _ _ => trivial) (T := fun x => pp x.1 x.2.1 x.2.2.1 x.2.2.2.1) (fun x => rm x.1 x.2.1 x.2.2.1 x.2.2.2.1) fun O w0 x _ _ =>
  ⟨trivial, trivial, _, rfl, rfl⟩
def pJ (n b : Int) : Int := lor (IntKind.wrap .u32 (n * 2 ^ min (Int.toNat 8) (IntKind.bits .u32))) (IntKind.wrap .u32 b)
def mK (s : ByteArray) : Int := (ba s).foldl pJ 0
noncomputable abbrev fC : bp := ⟨kD, gJ, fun x => (mK x.1, ()), fun x => ByteArray.size x.1 ≤ 1000000, false⟩
theorem o3 (s : ByteArray) : (ba s).length = s.size := by
 unfold ba
 rw [List.length_map, Array.length_toList]
 rfl
theorem Al (s : ByteArray) {i : Nat} (hi : i < s.size) : (ba s)[i]'(by rw [o3]; exact hi) = sAt s (i : Nat) := by
 have hd : i < s.data.size := hi
 unfold ba sAt
 rw [List.getElem_map, Int.toNat_natCast, Array.getElem?_eq_getElem hd]
 rfl
theorem vM (s : ByteArray) {i : Nat} : decide ((i : Int) < aN s) = decide (i < s.size) := by
 rw [Bool.eq_iff_iff, decide_eq_true_eq, decide_eq_true_eq]
 exact ⟨fun h => by have h : (i : Int) < (s.size : Int) := h; omega, fun h => by show (i : Int) < (s.size : Int); omega⟩
def qk (O : Nat → Prop) (w0 : World) (s : ByteArray) (hs : s.size ≤ 1000000) :=
 PLift.up <| gS (σ := Int) s.size (fun i n => n = ((ba s).take i).foldl pJ 0)
  (fun i n => bG prog ft (Cx.base O w0) (eB prog O w0 gJ fun y => y = (mK s, ())) [] cW (lp cK 3) (jw s n (aN s) (i : Nat)))
  (fun i n hi hn ih => cx g9 (gQ s n _ _) (by
   refine ⟨fun _ => ⟨show (0 : Int) ≤ 8 by decide, ⟨Int.natCast_nonneg _, Int.ofNat_lt.2 hi⟩, ?_⟩, fun h => ?_⟩
   ·rw [kU hi (by omega)]
    refine ih (pJ n (sAt s (i : Nat))) ?_
    have hi' : i < (ba s).length := by rw [o3]; exact hi
    rw [List.take_succ_eq_append_getElem hi', List.foldl_append, ← hn, Al s hi]
    rfl
   ·rw [vM] at h
    exact absurd hi (of_decide_eq_false h)))
  (fun n hn => cx g9 (gQ s n _ _) (by
   refine ⟨fun h => ?_, fun _ => ⟨_, rfl, ?_⟩⟩
   ·rw [vM] at h
    exact absurd (of_decide_eq_true h) (Nat.lt_irrefl _)
   ·have hn : n = ((ba s).take s.size).foldl pJ 0 := hn
    rw [List.take_of_length_le (by rw [o3]; exact Nat.le_refl _)] at hn
    rw [hn]; rfl))
theorem dO : aG prog [] fy fC :=
 cD (S := fC) g9 (fx := cW) qQ (by kernel_rfl) (fun h => by cases h) (T := fun x => lA x.1) (fun x => oc x.1) fun O w0 x _ hp =>
  (qk O w0 x.1 hp).down 0 0 (Nat.zero_le _) rfl
end Go.Proofs.YtnakjijahkaoaaaDoor
namespace Go.Proofs.YtnakjijahkaoaaaDoor
open Go Go.RowKit
noncomputable abbrev aQ : Fx := { fn := aO, ann := { loops := [(4, { keep := [1, 2, 4, 5, 6, 16] }), (16, { keep := [2, 4, 6, 126] })] }, share := true, shareD := true }
noncomputable abbrev cm : be := { D := { T := bM, F := [(cn, ci), (gZ, ii), (fy, fC)], R := [], ovl := [], G := gl }, inl := [] }
noncomputable abbrev fo : bO := .data dl
theorem cR (h_bits_RotateLeft32 : aG prog gl cn ci) (h_digest_two : aG prog gl gZ ii) (h_digest_number : aG prog gl fy fC) : XOk prog cm := xok (aS (aS (aS (bl bq aX) h_digest_number) h_digest_two) h_bits_RotateLeft32) (by kernel_rfl) a6 bo bt
noncomputable def iu (h : den ae) (s : den Ty.str) : ab := ab.loop [] aQ (lp aO 4) [(1, K.val Ty.str s), (2, K.ptr 0 ae []), (4, K.ptr (0 + 1) ae []), (5, K.ptr (0 + 1 + 1) (Ty.arr 64 (Ty.int IntKind.u32)) []), (6, K.ptr (0 + 1 + 1 + 1) ae []), (16, K.val af 0)] [(0, Bx.cell ae h), (0 + 1, Bx.cell ae (zero ae)), (0 + 1 + 1, Bx.cell (Ty.arr 64 (Ty.int IntKind.u32)) (zero (Ty.arr 64 (Ty.int IntKind.u32)))), (0 + 1 + 1 + 1, Bx.cell ae h)]
theorem lK (h : den ae) (s : den Ty.str) : ay cm fo 5000 [] aQ (aF aO) (Env.of (aW ib (h, s, ()) 0) []) = iu h s := by kernel_rfl
noncomputable def c7 (v1 : den Ty.str) (v16 : den af) (b0 : den ae) (b1 : den ae) (b2 : den (Ty.arr 64 (Ty.int IntKind.u32))) (b3 : den ae) : Env := Env.of [(1, K.val Ty.str v1), (2, K.ptr 0 ae []), (4, K.ptr (0 + 1) ae []), (5, K.ptr (0 + 1 + 1) (Ty.arr 64 (Ty.int IntKind.u32)) []), (6, K.ptr (0 + 1 + 1 + 1) ae []), (16, K.val af v16)] [(0, Bx.cell ae b0), (1, Bx.cell ae b1), (2, Bx.cell (Ty.arr 64 (Ty.int IntKind.u32)) b2), (3, Bx.cell ae b3)]
noncomputable def lQ (v1 : den Ty.str) (v16 : den af) (b0 : den ae) (b1 : den ae) (b2 : den (Ty.arr 64 (Ty.int IntKind.u32))) (b3 : den ae) : ab := ab.ite (decide (v16 < 64)) (ab.ite (decide (v16 < 16)) (ab.req (bc (IntKind.wrap IntKind.i64 (4 * v16)) (IntKind.wrap IntKind.i64 (IntKind.wrap IntKind.i64 (4 * v16) + 4)) (aN v1)) (ab.req (ByteArray.size (ce v1 (IntKind.wrap IntKind.i64 (4 * v16)) (IntKind.wrap IntKind.i64 (IntKind.wrap IntKind.i64 (4 * v16) + 4))) ≤ 1000000) (ab.all (den (Ty.int IntKind.u32)) (fun (q6 : den (Ty.int IntKind.u32)) ↦ q6 = mK (ce v1 (IntKind.wrap IntKind.i64 (4 * v16)) (IntKind.wrap IntKind.i64 (IntKind.wrap IntKind.i64 (4 * v16) + 4)))) fun (q6 : den (Ty.int IntKind.u32)) ↦ ab.req (inB v16 (↑64 : Int)) (ab.req (inB 0 (↑8 : Int)) (ab.req (inB 4 (↑8 : Int)) (ab.all (den (Ty.int IntKind.u32)) (fun (q7 : den (Ty.int IntKind.u32)) ↦ q7 = el (Ty.int IntKind.u32) b3 0) fun (q7 : den (Ty.int IntKind.u32)) ↦ ab.all (den (Ty.int IntKind.u32)) (fun (q8 : den (Ty.int IntKind.u32)) ↦ q8 = el (Ty.int IntKind.u32) b3 4) fun (q8 : den (Ty.int IntKind.u32)) ↦ ab.req (inB 7 (↑8 : Int)) (ab.req True (ab.req True (ab.req (inB 6 (↑8 : Int)) (ab.req (inB 5 (↑8 : Int)) (ab.req (inB 6 (↑8 : Int)) (ab.req (inB v16 (↑64 : Int)) (ab.req (inB v16 (↑64 : Int)) (ab.all (den (Ty.int IntKind.u32)) (fun (q9 : den (Ty.int IntKind.u32)) ↦ q9 = cJ q8 (-25)) fun (q9 : den (Ty.int IntKind.u32)) ↦ ab.all (den (Ty.int IntKind.u32)) (fun (q10 : den (Ty.int IntKind.u32)) ↦ q10 = dh q8 6 11 (cJ q8 (-25))) fun (q10 : den (Ty.int IntKind.u32)) ↦ ab.all (den (Ty.int IntKind.u32)) (fun (q11 : den (Ty.int IntKind.u32)) ↦ q11 = IntKind.wrap IntKind.u32 (IntKind.wrap IntKind.u32 (IntKind.wrap IntKind.u32 (IntKind.wrap IntKind.u32 (el (Ty.int IntKind.u32) b3 7 + dh q8 6 11 (cJ q8 (-25))) + IntKind.wrap IntKind.u32 (↑(BitVec.toNat (BitVec.ofInt (IntKind.bits IntKind.u32) (el (Ty.int IntKind.u32) b3 6) ^^^ BitVec.ofInt (IntKind.bits IntKind.u32) (IntKind.wrap IntKind.u32 (↑(BitVec.toNat (BitVec.ofInt (IntKind.bits IntKind.u32) q8 &&& BitVec.ofInt (IntKind.bits IntKind.u32) (IntKind.wrap IntKind.u32 (↑(BitVec.toNat (BitVec.ofInt (IntKind.bits IntKind.u32) (el (Ty.int IntKind.u32) b3 5) ^^^ BitVec.ofInt (IntKind.bits IntKind.u32) (el (Ty.int IntKind.u32) b3 6))) : Int)))) : Int)))) : Int)) + el (Ty.int IntKind.u32) gV v16) + el (Ty.int IntKind.u32) (gi (Ty.int IntKind.u32) b2 v16 q6) v16)) fun (q11 : den (Ty.int IntKind.u32)) ↦ ab.req (inB 1 (↑8 : Int)) (ab.req (inB 2 (↑8 : Int)) (ab.req (inB 1 (↑8 : Int)) (ab.req True (ab.req True (ab.req (inB 1 (↑8 : Int)) (ab.req (inB 2 (↑8 : Int)) (ab.req (inB 3 (↑8 : Int)) (ab.req (inB 5 (↑8 : Int)) (ab.req (inB 6 (↑8 : Int)) (ab.all (den (Ty.int IntKind.u32)) (fun (q12 : den (Ty.int IntKind.u32)) ↦ q12 = cJ q7 (-22)) fun (q12 : den (Ty.int IntKind.u32)) ↦ ab.all (den (Ty.int IntKind.u32)) (fun (q13 : den (Ty.int IntKind.u32)) ↦ q13 = dh q7 2 13 (cJ q7 (-22))) fun (q13 : den (Ty.int IntKind.u32)) ↦ ab.loop [] aQ (lp aO 4) [(1, K.val Ty.str v1), (2, K.ptr 0 ae []), (4, K.ptr (0 + 1) ae []), (5, K.ptr (0 + 1 + 1) (Ty.arr 64 (Ty.int IntKind.u32)) []), (6, K.ptr (0 + 1 + 1 + 1) ae []), (16, K.val af (IntKind.wrap IntKind.i64 (v16 + 1)))] [(0, Bx.cell ae b0), (0 + 1, Bx.cell ae b1), (0 + 1 + 1, Bx.cell (Ty.arr 64 (Ty.int IntKind.u32)) (gi (Ty.int IntKind.u32) b2 v16 q6)), (0 + 1 + 1 + 1, Bx.cell ae (List.set (List.set (List.set (List.set (List.set (List.set (List.set (List.set (List.replicate 8 (zero (Ty.int IntKind.u32))) 0 (IntKind.wrap IntKind.u32 (IntKind.wrap IntKind.u32 (q11 + dh q7 2 13 (cJ q7 (-22))) + IntKind.wrap IntKind.u32 (↑(BitVec.toNat (BitVec.ofInt (IntKind.bits IntKind.u32) (IntKind.wrap IntKind.u32 (↑(BitVec.toNat (BitVec.ofInt (IntKind.bits IntKind.u32) q7 &&& BitVec.ofInt (IntKind.bits IntKind.u32) (el (Ty.int IntKind.u32) b3 1))) : Int)) ||| BitVec.ofInt (IntKind.bits IntKind.u32) (IntKind.wrap IntKind.u32 (↑(BitVec.toNat (BitVec.ofInt (IntKind.bits IntKind.u32) (el (Ty.int IntKind.u32) b3 2) &&& BitVec.ofInt (IntKind.bits IntKind.u32) (IntKind.wrap IntKind.u32 (↑(BitVec.toNat (BitVec.ofInt (IntKind.bits IntKind.u32) q7 ||| BitVec.ofInt (IntKind.bits IntKind.u32) (el (Ty.int IntKind.u32) b3 1))) : Int)))) : Int)))) : Int)))) 1 q7) 2 (el (Ty.int IntKind.u32) b3 1)) 3 (el (Ty.int IntKind.u32) b3 2)) 4 (IntKind.wrap IntKind.u32 (el (Ty.int IntKind.u32) b3 3 + q11))) 5 q8) 6 (el (Ty.int IntKind.u32) b3 5)) 7 (el (Ty.int IntKind.u32) b3 6)))])))))))))))))))))))))))) (ab.req (inB (IntKind.wrap IntKind.i64 (v16 - 15)) (↑64 : Int)) (ab.req (inB (IntKind.wrap IntKind.i64 (v16 - 2)) (↑64 : Int)) (ab.all (den (Ty.int IntKind.u32)) (fun (q6 : den (Ty.int IntKind.u32)) ↦ q6 = el (Ty.int IntKind.u32) b2 (IntKind.wrap IntKind.i64 (v16 - 15))) fun (q6 : den (Ty.int IntKind.u32)) ↦ ab.all (den (Ty.int IntKind.u32)) (fun (q7 : den (Ty.int IntKind.u32)) ↦ q7 = el (Ty.int IntKind.u32) b2 (IntKind.wrap IntKind.i64 (v16 - 2))) fun (q7 : den (Ty.int IntKind.u32)) ↦ ab.req (ge0 10) (ab.req True (ab.req (inB (IntKind.wrap IntKind.i64 (v16 - 7)) (↑64 : Int)) (ab.req (ge0 3) (ab.req True (ab.req (inB (IntKind.wrap IntKind.i64 (v16 - 16)) (↑64 : Int)) (ab.req (inB v16 (↑64 : Int)) (ab.all (den (Ty.int IntKind.u32)) (fun (q8 : den (Ty.int IntKind.u32)) ↦ q8 = dh q7 17 19 (Int.fdiv q7 (2 ^ min (Int.toNat 10) (IntKind.bits IntKind.u32)))) fun (q8 : den (Ty.int IntKind.u32)) ↦ ab.all (den (Ty.int IntKind.u32)) (fun (q9 : den (Ty.int IntKind.u32)) ↦ q9 = dh q6 7 18 (Int.fdiv q6 (2 ^ min (Int.toNat 3) (IntKind.bits IntKind.u32)))) fun (q9 : den (Ty.int IntKind.u32)) ↦ ab.req (inB 0 (↑8 : Int)) (ab.req (inB 4 (↑8 : Int)) (ab.all (den (Ty.int IntKind.u32)) (fun (q10 : den (Ty.int IntKind.u32)) ↦ q10 = el (Ty.int IntKind.u32) b3 0) fun (q10 : den (Ty.int IntKind.u32)) ↦ ab.all (den (Ty.int IntKind.u32)) (fun (q11 : den (Ty.int IntKind.u32)) ↦ q11 = el (Ty.int IntKind.u32) b3 4) fun (q11 : den (Ty.int IntKind.u32)) ↦ ab.req (inB 7 (↑8 : Int)) (ab.req True (ab.req True (ab.req (inB 6 (↑8 : Int)) (ab.req (inB 5 (↑8 : Int)) (ab.req (inB 6 (↑8 : Int)) (ab.req (inB v16 (↑64 : Int)) (ab.req (inB v16 (↑64 : Int)) (ab.all (den (Ty.int IntKind.u32)) (fun (q12 : den (Ty.int IntKind.u32)) ↦ q12 = cJ q11 (-25)) fun (q12 : den (Ty.int IntKind.u32)) ↦ ab.all (den (Ty.int IntKind.u32)) (fun (q13 : den (Ty.int IntKind.u32)) ↦ q13 = dh q11 6 11 (cJ q11 (-25))) fun (q13 : den (Ty.int IntKind.u32)) ↦ ab.all (den (Ty.int IntKind.u32)) (fun (q14 : den (Ty.int IntKind.u32)) ↦ q14 = IntKind.wrap IntKind.u32 (IntKind.wrap IntKind.u32 (IntKind.wrap IntKind.u32 (IntKind.wrap IntKind.u32 (el (Ty.int IntKind.u32) b3 7 + dh q11 6 11 (cJ q11 (-25))) + IntKind.wrap IntKind.u32 (↑(BitVec.toNat (BitVec.ofInt (IntKind.bits IntKind.u32) (el (Ty.int IntKind.u32) b3 6) ^^^ BitVec.ofInt (IntKind.bits IntKind.u32) (IntKind.wrap IntKind.u32 (↑(BitVec.toNat (BitVec.ofInt (IntKind.bits IntKind.u32) q11 &&& BitVec.ofInt (IntKind.bits IntKind.u32) (IntKind.wrap IntKind.u32 (↑(BitVec.toNat (BitVec.ofInt (IntKind.bits IntKind.u32) (el (Ty.int IntKind.u32) b3 5) ^^^ BitVec.ofInt (IntKind.bits IntKind.u32) (el (Ty.int IntKind.u32) b3 6))) : Int)))) : Int)))) : Int)) + el (Ty.int IntKind.u32) gV v16) + el (Ty.int IntKind.u32) (gi (Ty.int IntKind.u32) b2 v16 (IntKind.wrap IntKind.u32 (IntKind.wrap IntKind.u32 (IntKind.wrap IntKind.u32 (dh q7 17 19 (Int.fdiv q7 (2 ^ min (Int.toNat 10) (IntKind.bits IntKind.u32))) + el (Ty.int IntKind.u32) b2 (IntKind.wrap IntKind.i64 (v16 - 7))) + dh q6 7 18 (Int.fdiv q6 (2 ^ min (Int.toNat 3) (IntKind.bits IntKind.u32)))) + el (Ty.int IntKind.u32) b2 (IntKind.wrap IntKind.i64 (v16 - 16))))) v16)) fun (q14 : den (Ty.int IntKind.u32)) ↦ ab.req (inB 1 (↑8 : Int)) (ab.req (inB 2 (↑8 : Int)) (ab.req (inB 1 (↑8 : Int)) (ab.req True (ab.req True (ab.req (inB 1 (↑8 : Int)) (ab.req (inB 2 (↑8 : Int)) (ab.req (inB 3 (↑8 : Int)) (ab.req (inB 5 (↑8 : Int)) (ab.req (inB 6 (↑8 : Int)) (ab.all (den (Ty.int IntKind.u32)) (fun (q15 : den (Ty.int IntKind.u32)) ↦ q15 = cJ q10 (-22)) fun (q15 : den (Ty.int IntKind.u32)) ↦ ab.all (den (Ty.int IntKind.u32)) (fun (q16 : den (Ty.int IntKind.u32)) ↦ q16 = dh q10 2 13 (cJ q10 (-22))) fun (q16 : den (Ty.int IntKind.u32)) ↦ ab.loop [] aQ (lp aO 4) [(1, K.val Ty.str v1), (2, K.ptr 0 ae []), (4, K.ptr (0 + 1) ae []), (5, K.ptr (0 + 1 + 1) (Ty.arr 64 (Ty.int IntKind.u32)) []), (6, K.ptr (0 + 1 + 1 + 1) ae []), (16, K.val af (IntKind.wrap IntKind.i64 (v16 + 1)))] [(0, Bx.cell ae b0), (0 + 1, Bx.cell ae b1), (0 + 1 + 1, Bx.cell (Ty.arr 64 (Ty.int IntKind.u32)) (gi (Ty.int IntKind.u32) b2 v16 (IntKind.wrap IntKind.u32 (IntKind.wrap IntKind.u32 (IntKind.wrap IntKind.u32 (dh q7 17 19 (Int.fdiv q7 (2 ^ min (Int.toNat 10) (IntKind.bits IntKind.u32))) + el (Ty.int IntKind.u32) b2 (IntKind.wrap IntKind.i64 (v16 - 7))) + dh q6 7 18 (Int.fdiv q6 (2 ^ min (Int.toNat 3) (IntKind.bits IntKind.u32)))) + el (Ty.int IntKind.u32) b2 (IntKind.wrap IntKind.i64 (v16 - 16)))))), (0 + 1 + 1 + 1, Bx.cell ae (List.set (List.set (List.set (List.set (List.set (List.set (List.set (List.set (List.replicate 8 (zero (Ty.int IntKind.u32))) 0 (IntKind.wrap IntKind.u32 (IntKind.wrap IntKind.u32 (q14 + dh q10 2 13 (cJ q10 (-22))) + IntKind.wrap IntKind.u32 (↑(BitVec.toNat (BitVec.ofInt (IntKind.bits IntKind.u32) (IntKind.wrap IntKind.u32 (↑(BitVec.toNat (BitVec.ofInt (IntKind.bits IntKind.u32) q10 &&& BitVec.ofInt (IntKind.bits IntKind.u32) (el (Ty.int IntKind.u32) b3 1))) : Int)) ||| BitVec.ofInt (IntKind.bits IntKind.u32) (IntKind.wrap IntKind.u32 (↑(BitVec.toNat (BitVec.ofInt (IntKind.bits IntKind.u32) (el (Ty.int IntKind.u32) b3 2) &&& BitVec.ofInt (IntKind.bits IntKind.u32) (IntKind.wrap IntKind.u32 (↑(BitVec.toNat (BitVec.ofInt (IntKind.bits IntKind.u32) q10 ||| BitVec.ofInt (IntKind.bits IntKind.u32) (el (Ty.int IntKind.u32) b3 1))) : Int)))) : Int)))) : Int)))) 1 q10) 2 (el (Ty.int IntKind.u32) b3 1)) 3 (el (Ty.int IntKind.u32) b3 2)) 4 (IntKind.wrap IntKind.u32 (el (Ty.int IntKind.u32) b3 3 + q14))) 5 q11) 6 (el (Ty.int IntKind.u32) b3 5)) 7 (el (Ty.int IntKind.u32) b3 6)))]))))))))))))))))))))))))))))))) (ab.loop [] aQ (lp aO 16) [(2, K.ptr 0 ae []), (4, K.ptr (0 + 1) ae []), (6, K.ptr (0 + 1 + 1) ae []), (126, K.val af 0)] [(0, Bx.cell ae b0), (0 + 1, Bx.cell ae b1), (0 + 1 + 1, Bx.cell ae b3)])
theorem fw (v1 : den Ty.str) (v16 : den af) (b0 : den ae) (b1 : den ae) (b2 : den (Ty.arr 64 (Ty.int IntKind.u32))) (b3 : den ae) : ay cm fo 5000 [] aQ (lp aO 4) (c7 v1 v16 b0 b1 b2 b3) = lQ v1 v16 b0 b1 b2 b3 := by kernel_rfl
noncomputable def gk (v126 : den af) (b0 : den ae) (b1 : den ae) (b2 : den ae) : Env := Env.of [(2, K.ptr 0 ae []), (4, K.ptr (0 + 1) ae []), (6, K.ptr (0 + 1 + 1) ae []), (126, K.val af v126)] [(0, Bx.cell ae b0), (1, Bx.cell ae b1), (2, Bx.cell ae b2)]
noncomputable def k5 (v126 : den af) (b0 : den ae) (b1 : den ae) (b2 : den ae) : ab := ab.ite (decide (v126 < 8)) (ab.req (inB v126 (↑8 : Int)) (ab.req (inB v126 (↑8 : Int)) (ab.req (inB v126 (↑8 : Int)) (ab.loop [] aQ (lp aO 16) [(2, K.ptr 0 ae []), (4, K.ptr (0 + 1) ae []), (6, K.ptr (0 + 1 + 1) ae []), (126, K.val af (IntKind.wrap IntKind.i64 (v126 + 1)))] [(0, Bx.cell ae (gi (Ty.int IntKind.u32) b0 v126 (IntKind.wrap IntKind.u32 (el (Ty.int IntKind.u32) b0 v126 + el (Ty.int IntKind.u32) b2 v126)))), (0 + 1, Bx.cell ae b1), (0 + 1 + 1, Bx.cell ae b2)])))) (ab.ret (K.val (Ty.pair ae Ty.unit) (b0, PUnit.unit)))
theorem fa (v126 : den af) (b0 : den ae) (b1 : den ae) (b2 : den ae) : ay cm fo 5000 [] aQ (lp aO 16) (gk v126 b0 b1 b2) = k5 v126 b0 b1 b2 := by kernel_rfl
end Go.Proofs.YtnakjijahkaoaaaDoor
namespace Go.Proofs.YtnakjijahkaoaaaDoor
open Go Go.RowKit
abbrev bS (l : List Int) (n : Int) : Int := el (.int .u32) l n
def Ax (x : Int) (k : Int) : Int := Int.fdiv x (2 ^ min (Int.toNat k) (IntKind.bits .u32))
def Bk (k : Int) (wt : Int) (v : List Int) : Int :=
 j3 (j3 (j3 (j3 (bS v 7) (dh (bS v 4) 6 11 (cJ (bS v 4) (-25)))) (yl (bS v 6) (z7 (bS v 4) (yl (bS v 5) (bS v 6))))) k) wt
def Bw (v : List Int) : Int := lor (z7 (bS v 0) (bS v 1)) (z7 (bS v 2) (lor (bS v 0) (bS v 1)))
def ovV (k : Int) (wt : Int) (v : List Int) : List Int :=
 List.set (List.set (List.set (List.set (List.set (List.set (List.set (List.set (List.replicate 8 (zero (.int .u32))) 0
  (j3 (j3 (Bk k wt v) (dh (bS v 0) 2 13 (cJ (bS v 0) (-22)))) (Bw v))) 1 (bS v 0)) 2 (bS v 1)) 3 (bS v 2)) 4 (j3 (bS v 3) (Bk k wt v))) 5 (bS v 4)) 6 (bS v 5)) 7 (bS v 6)
def ovB (s : ByteArray) (t : Int) : Int := mK (ce s (IntKind.wrap .i64 (4 * t)) (IntKind.wrap .i64 (IntKind.wrap .i64 (4 * t) + 4)))
def ovN (w : List Int) (t : Int) : Int :=
 j3 (j3 (j3 (dh (bS w (IntKind.wrap .i64 (t - 2))) 17 19 (Ax (bS w (IntKind.wrap .i64 (t - 2))) 10)) (bS w (IntKind.wrap .i64 (t - 7))))
  (dh (bS w (IntKind.wrap .i64 (t - 15))) 7 18 (Ax (bS w (IntKind.wrap .i64 (t - 15))) 3))) (bS w (IntKind.wrap .i64 (t - 16)))
def ovW (s : ByteArray) (w : List Int) (t : Int) : List Int := if t < 16 then gi (.int .u32) w t (ovB s t) else gi (.int .u32) w t (ovN w t)
def ovS (s : ByteArray) (v : List Int) : Nat → List Int × List Int
 | 0 => (zero (.arr 64 (.int .u32)), v)
 | i + 1 =>
  let p := ovS s v i
  let w := ovW s p.1 i
  (w, ovV (bS gV i) (bS w i) p.2)
def ovA (h v : List Int) : Nat → List Int
 | 0 => h
 | i + 1 => gi (.int .u32) (ovA h v i) i (j3 (bS (ovA h v i) i) (bS v i))
def oD (h : List Int) (s : ByteArray) : List Int := ovA h (ovS s h 64).2 8
noncomputable abbrev dE : bp := ⟨ib, dl, fun x => (oD x.1 x.2.1, ()), fun x => ByteArray.size x.2.1 = 64, false⟩
def kY (O : Nat → Prop) (w0 : World) (h v1 v : List Int) (out : List Int) (ho : out = ovA h v 8) :=
 PLift.up <| gS (σ := List Int) 8 (fun i b => b = ovA h v i)
  (fun i b => bG prog cm (Cx.base O w0) (eB prog O w0 dl fun y => y = (out, ())) [] aQ (lp aO 16) (gk (i : Nat) b v1 v))
  (fun i b hi hb ih => cx (cR (bA cj) (bA fR) (bA dO)) (fa _ b v1 v) (by
   refine ⟨fun _ => ⟨⟨Int.natCast_nonneg _, Int.ofNat_lt.2 hi⟩, ⟨Int.natCast_nonneg _, Int.ofNat_lt.2 hi⟩, ⟨Int.natCast_nonneg _, Int.ofNat_lt.2 hi⟩, ?_⟩, fun h => ?_⟩
   ·rw [kU hi (by omega)]
    refine ih _ ?_
    rw [hb]
    rfl
   ·exact absurd (Int.ofNat_lt.2 hi) (of_decide_eq_false h)))
  (fun b hb => cx (cR (bA cj) (bA fR) (bA dO)) (fa _ b v1 v) (by
   refine ⟨fun h => ?_, fun _ => ⟨_, rfl, ?_⟩⟩
   ·exact absurd (of_decide_eq_true h) (by decide)
   ·show (b, ()) = (out, ())
    rw [hb, ho]))
theorem yB (s : ByteArray) (a b : Int) : (ce s a b).size ≤ s.size := by
 unfold ce; rw [ByteArray.size_extract]; omega
theorem wr4 {i : Nat} (h : i < 16) : IntKind.wrap .i64 (4 * (i : Int)) = 4 * (i : Int) ∧ IntKind.wrap .i64 (IntKind.wrap .i64 (4 * (i : Int)) + 4) = 4 * (i : Int) + 4 := by
 have h1 : IntKind.wrap .i64 (4 * (i : Int)) = 4 * (i : Int) := eM (by omega)
 refine ⟨h1, ?_⟩
 rw [h1]
 exact eM (by omega)
theorem wrm {i : Nat} (k : Int) (h : i < 64) (h0 : 0 ≤ k) (h1 : k ≤ i) : inB (IntKind.wrap .i64 ((i : Int) - k)) ((64 : Nat) : Int) := by
 rw [eM (by omega)]
 exact ⟨by omega, by omega⟩
theorem dB {a b : Int} (h : decide (0 ≤ a ∧ a < b) = true := by rfl) : inB a b := (of_decide_eq_true h : 0 ≤ a ∧ a < b)
theorem d0 {a : Int} (h : decide (0 ≤ a) = true := by rfl) : ge0 a := (of_decide_eq_true h : 0 ≤ a)
def lM (O : Nat → Prop) (w0 : World) (h b1 : List Int) (s : ByteArray) (hs : s.size = 64) :=
 PLift.up <| gS (σ := List Int × List Int) 64 (fun i b => b = ovS s h i)
  (fun i b => bG prog cm (Cx.base O w0) (eB prog O w0 dl fun y => y = (oD h s, ())) [] aQ (lp aO 4) (c7 s (i : Nat) h b1 b.1 b.2))
  (fun i b hi hb ih => cx (cR (bA cj) (bA fR) (bA dO)) (fw s _ h b1 b.1 b.2) (by
   have hB : inB (i : Int) ((64 : Nat) : Int) := ⟨Int.natCast_nonneg _, Int.ofNat_lt.2 hi⟩
   refine ⟨fun _ => ⟨fun hl => ?_, fun hl => ?_⟩, fun h => ?_⟩
   ·have hl : i < 16 := Int.ofNat_lt.1 (of_decide_eq_true hl)
    refine ⟨?_, Nat.le_trans (yB _ _ _) (by rw [hs]; decide), bw ⟨hB, dB, dB, bw <| bw ⟨dB, trivial, trivial, dB, dB, dB, hB, hB, bw <| bw <| bw ⟨dB, dB, dB, trivial, trivial, dB, dB, dB, dB, dB, bw <| bw ?_⟩⟩⟩⟩
    ·rw [(wr4 hl).2, (wr4 hl).1]
     refine ⟨by omega, by omega, ?_⟩
     show 4 * (i : Int) + 4 ≤ (s.size : Int)
     rw [hs]; omega
    ·have hw : IntKind.wrap .i64 ((i : Int) + 1) = ((i + 1 : Nat) : Int) := kU hi (by omega)
     show bG _ _ _ _ _ _ _ (c7 s (IntKind.wrap .i64 ((i : Int) + 1)) h b1 _ _)
     rw [hw]
     refine ih (_, _) ?_
     rw [hb]
     have hlI : (i : Int) < 16 := Int.ofNat_lt.2 hl
     show _ = (ovW s (ovS s h i).1 i, ovV (bS gV i) (bS (ovW s (ovS s h i).1 i) i) (ovS s h i).2)
     unfold ovW
     rw [if_pos hlI]
     rfl
   ·have hl : ¬ i < 16 := fun h => of_decide_eq_false hl (Int.ofNat_lt.2 h)
    refine ⟨wrm 15 hi (by decide) (by omega), wrm 2 hi (by decide) (by omega), bw <| bw ⟨d0, trivial, wrm 7 hi (by decide) (by omega), d0, trivial, wrm 16 hi (by decide) (by omega), hB, bw <| bw ⟨dB, dB, bw <| bw ⟨dB, trivial, trivial, dB, dB, dB, hB, hB, bw <| bw <| bw ⟨dB, dB, dB, trivial, trivial, dB, dB, dB, dB, dB, bw <| bw ?_⟩⟩⟩⟩⟩
    have hw : IntKind.wrap .i64 ((i : Int) + 1) = ((i + 1 : Nat) : Int) := kU hi (by omega)
    show bG _ _ _ _ _ _ _ (c7 s (IntKind.wrap .i64 ((i : Int) + 1)) h b1 _ _)
    rw [hw]
    refine ih (_, _) ?_
    rw [hb]
    have hlI : ¬ (i : Int) < 16 := fun h => hl (Int.ofNat_lt.1 h)
    show _ = (ovW s (ovS s h i).1 i, ovV (bS gV i) (bS (ovW s (ovS s h i).1 i) i) (ovS s h i).2)
    unfold ovW
    rw [if_neg hlI]
    rfl
   ·exact absurd (Int.ofNat_lt.2 hi) (of_decide_eq_false h)))
  (fun b hb => cx (cR (bA cj) (bA fR) (bA dO)) (fw s _ h b1 b.1 b.2) (by
   refine ⟨fun h => ?_, fun _ => ?_⟩
   ·exact absurd (of_decide_eq_true h) (by decide)
   ·exact (kY O w0 h b1 b.2 _ (by rw [hb]; rfl)).down 0 h (Nat.zero_le _) rfl))
theorem nY : aG prog gl dD dE :=
 cD (S := dE) (cR (bA cj) (bA fR) (bA dO)) (fx := aQ) m4 (by kernel_rfl) (fun h => by cases h) (T := fun x => iu x.1 x.2.1) (fun x => lK x.1 x.2.1) fun O w0 x _ hp =>
  (lM O w0 x.1 _ x.2.1 hp).down 0 (_, _) (Nat.zero_le _) rfl
end Go.Proofs.YtnakjijahkaoaaaDoor
namespace Go.Proofs
open Go.Shelf
open Go.RowKit in
open Go.RowKit in
open Go.RowKit in
open Go.RowKit in
open Go.RowKit in
open Go.RowKit in
def Tryd.lays156_ren : Go.Shelf.Ren := ⟨fun | 156 => 47 | 165 => 64 | 166 => 65 | 169 => 66 | 240 => 78 | 241 => 79 | 276 => 85 | 277 => 86 | n => n, fun | 31 => 79 | 9 => 9 | 3 => 3 | 4 => 4 | 0 => 0 | 20 => 20 | 72 => 116 | 76 => 120 | 70 => 114 | 37 => 64 | 75 => 119 | 127 => 132 | 164 => 138 | 5 => 5 | 80 => 122 | n => n, fun | n => n⟩
theorem Tryd.lays156 : Go.Proofs.Lays.n156 Tryd.prog Tryd.lays156_ren := {
 mixed := by kernel_rfl
 f156 := Tryd.func47.trans (congrArg some (by kernel_rfl))
 f165 := Tryd.func64.trans (congrArg some (by kernel_rfl))
 f166 := Tryd.func65.trans (congrArg some (by kernel_rfl))
 f169 := Tryd.func66.trans (congrArg some (by kernel_rfl))
 f240 := Tryd.func78.trans (congrArg some (by kernel_rfl))
 f241 := Tryd.func79.trans (congrArg some (by kernel_rfl))
 f276 := Tryd.func85.trans (congrArg some (by kernel_rfl))
 f277 := Tryd.func86.trans (congrArg some (by kernel_rfl))
 t0 := Tryd.underlying0
 a0 := Tryd.isAgg0
 z0 := Tryd.sizeOf0
 v0 := Tryd.zeroValue0
 t3 := Tryd.underlying3
 a3 := Tryd.isAgg3
 z3 := Tryd.sizeOf3
 v3 := Tryd.zeroValue3
 t4 := Tryd.underlying4
 a4 := Tryd.isAgg4
 z4 := Tryd.sizeOf4
 v4 := Tryd.zeroValue4
 t9 := Tryd.underlying9
 a9 := Tryd.isAgg9
 z9 := Tryd.sizeOf9
 v9 := Tryd.zeroValue9
 t20 := Tryd.underlying20
 a20 := Tryd.isAgg20
 z20 := Tryd.sizeOf20
 v20 := Tryd.zeroValue20
 t31 := Tryd.underlying79
 a31 := Tryd.isAgg79
 z31 := Tryd.sizeOf79
 v31 := Tryd.zeroValue79
 t37 := Tryd.underlying64
 a37 := Tryd.isAgg64
 z37 := Tryd.sizeOf64
 v37 := Tryd.zeroValue64
 t70 := Tryd.underlying114
 a70 := Tryd.isAgg114
 z70 := Tryd.sizeOf114
 v70 := Tryd.zeroValue114
 t72 := Tryd.underlying116
 a72 := Tryd.isAgg116
 z72 := Tryd.sizeOf116
 v72 := Tryd.zeroValue116
 t75 := Tryd.underlying119
 a75 := Tryd.isAgg119
 z75 := Tryd.sizeOf119
 v75 := Tryd.zeroValue119
 t76 := Tryd.underlying120
 a76 := Tryd.isAgg120
 z76 := Tryd.sizeOf120
 v76 := Tryd.zeroValue120
 t127 := Tryd.underlying132
 a127 := Tryd.isAgg132
 z127 := Tryd.sizeOf132
 v127 := Tryd.zeroValue132
 t164 := Tryd.underlying138
 a164 := Tryd.isAgg138
 z164 := Tryd.sizeOf138
 v164 := Tryd.zeroValue138 }
theorem Tryd.Builder_Extra_156 : Builder.Extra Tryd.prog Tryd.lays156_ren := {
 sizeBuilder := by kernel_rfl
 liesBuilder := by kernel_rfl
 t5 := Tryd.underlying5
 a5 := Tryd.isAgg5
 z5 := Tryd.sizeOf5
 v5 := Tryd.zeroValue5
 infoByte := by kernel_rfl
 cellsByte := by kernel_rfl
 sizeByte := by kernel_rfl
 neB5 := by decide }
open Go.RowKit in
theorem Tryd.strings_Join_none (a : Option Addr) (c : Nat) (sep : ByteArray) (w : World) :
    Calls Tryd.prog 47 #[.slice a 0 c, .string sep] w fun e w' => e = .returned (.string ⟨#[]⟩) ∧ w' = w := Any.strings_Join_none Tryd.lays156 Tryd.Builder_Extra_156 a c sep w
open Go.RowKit in
theorem Tryd.strings_Join (bk o c : Nat) (xs : List ByteArray) (sep : ByteArray) (w : World) (hcells : ∀ (j : Nat) x, xs[j]? = some x → w.cell? ⟨bk, o + j, none⟩ = some (.string x)) (hbk : bk < w.heap.size) (hN : xs.length ≤ 140737488355328) (hcap : xs.length ≤ c) (hlen : (Lib.join (xs.map (·.data.toList)) sep.data.toList).length ≤ 140737488355328) :
    Calls Tryd.prog 47 #[.slice (some ⟨bk, o, none⟩) xs.length c, .string sep] w fun e w' => e = .returned (.string ⟨(Lib.join (xs.map (·.data.toList)) sep.data.toList).toArray⟩) ∧ Below w.heap.size w w' := Any.strings_Join Tryd.lays156 Tryd.Builder_Extra_156 bk o c xs sep w hcells hbk hN hcap hlen
open Go.RowKit in
open Go.RowKit in
open Go.RowKit in
open Go.RowKit in
open Go.RowKit in
open Go.RowKit in
open Go.RowKit in
open Go.RowKit in
open Go.RowKit in
open Go.RowKit Go.Lib in
open Go.RowKit Go.Lib in
open Go.RowKit Go.Lib in
open Go.RowKit Go.Lib in
def Tryd.lays105_ren : Go.Shelf.Ren := ⟨fun | 105 => 62 | 212 => 75 | 99 => 76 | 165 => 64 | 166 => 65 | 170 => 77 | 169 => 66 | 263 => 82 | 264 => 83 | 206 => 84 | 240 => 78 | 241 => 79 | 276 => 85 | 277 => 86 | n => n, fun | 9 => 9 | 3 => 3 | 4 => 4 | 20 => 20 | 0 => 0 | 46 => 111 | 109 => 128 | 5 => 5 | 72 => 116 | 76 => 120 | 51 => 86 | 146 => 134 | 53 => 110 | 148 => 136 | 70 => 114 | 37 => 64 | 75 => 119 | 127 => 132 | 164 => 138 | 80 => 122 | n => n, fun | n => n⟩
theorem Tryd.lays105 : Go.Proofs.Lays.n105 Tryd.prog Tryd.lays105_ren := {
 mixed := by kernel_rfl
 f99 := Tryd.func76.trans (congrArg some (by kernel_rfl))
 f105 := Tryd.func62.trans (congrArg some (by kernel_rfl))
 f165 := Tryd.func64.trans (congrArg some (by kernel_rfl))
 f166 := Tryd.func65.trans (congrArg some (by kernel_rfl))
 f169 := Tryd.func66.trans (congrArg some (by kernel_rfl))
 f170 := Tryd.func77.trans (congrArg some (by kernel_rfl))
 f206 := Tryd.func84.trans (congrArg some (by kernel_rfl))
 f212 := Tryd.func75.trans (congrArg some (by kernel_rfl))
 f240 := Tryd.func78.trans (congrArg some (by kernel_rfl))
 f241 := Tryd.func79.trans (congrArg some (by kernel_rfl))
 f263 := Tryd.func82.trans (congrArg some (by kernel_rfl))
 f264 := Tryd.func83.trans (congrArg some (by kernel_rfl))
 f276 := Tryd.func85.trans (congrArg some (by kernel_rfl))
 f277 := Tryd.func86.trans (congrArg some (by kernel_rfl))
 t0 := Tryd.underlying0
 a0 := Tryd.isAgg0
 z0 := Tryd.sizeOf0
 v0 := Tryd.zeroValue0
 t3 := Tryd.underlying3
 a3 := Tryd.isAgg3
 z3 := Tryd.sizeOf3
 v3 := Tryd.zeroValue3
 t4 := Tryd.underlying4
 a4 := Tryd.isAgg4
 z4 := Tryd.sizeOf4
 v4 := Tryd.zeroValue4
 t5 := Tryd.underlying5
 a5 := Tryd.isAgg5
 z5 := Tryd.sizeOf5
 v5 := Tryd.zeroValue5
 t9 := Tryd.underlying9
 a9 := Tryd.isAgg9
 z9 := Tryd.sizeOf9
 v9 := Tryd.zeroValue9
 t20 := Tryd.underlying20
 a20 := Tryd.isAgg20
 z20 := Tryd.sizeOf20
 v20 := Tryd.zeroValue20
 t37 := Tryd.underlying64
 a37 := Tryd.isAgg64
 z37 := Tryd.sizeOf64
 v37 := Tryd.zeroValue64
 t46 := Tryd.underlying111
 a46 := Tryd.isAgg111
 z46 := Tryd.sizeOf111
 v46 := Tryd.zeroValue111
 t51 := Tryd.underlying86
 a51 := Tryd.isAgg86
 z51 := Tryd.sizeOf86
 v51 := Tryd.zeroValue86
 t53 := Tryd.underlying110
 a53 := Tryd.isAgg110
 z53 := Tryd.sizeOf110
 v53 := Tryd.zeroValue110
 t70 := Tryd.underlying114
 a70 := Tryd.isAgg114
 z70 := Tryd.sizeOf114
 v70 := Tryd.zeroValue114
 t72 := Tryd.underlying116
 a72 := Tryd.isAgg116
 z72 := Tryd.sizeOf116
 v72 := Tryd.zeroValue116
 t75 := Tryd.underlying119
 a75 := Tryd.isAgg119
 z75 := Tryd.sizeOf119
 v75 := Tryd.zeroValue119
 t76 := Tryd.underlying120
 a76 := Tryd.isAgg120
 z76 := Tryd.sizeOf120
 v76 := Tryd.zeroValue120
 t109 := Tryd.underlying128
 a109 := Tryd.isAgg128
 z109 := Tryd.sizeOf128
 v109 := Tryd.zeroValue128
 t127 := Tryd.underlying132
 a127 := Tryd.isAgg132
 z127 := Tryd.sizeOf132
 v127 := Tryd.zeroValue132
 t146 := Tryd.underlying134
 a146 := Tryd.isAgg134
 z146 := Tryd.sizeOf134
 v146 := Tryd.zeroValue134
 t148 := Tryd.underlying136
 a148 := Tryd.isAgg136
 z148 := Tryd.sizeOf136
 v148 := Tryd.zeroValue136
 t164 := Tryd.underlying138
 a164 := Tryd.isAgg138
 z164 := Tryd.sizeOf138
 v164 := Tryd.zeroValue138 }
theorem Tryd.Builder_Extra_105 : Builder.Extra Tryd.prog Tryd.lays105_ren := {
 sizeBuilder := by kernel_rfl
 liesBuilder := by kernel_rfl
 t5 := Tryd.underlying5
 a5 := Tryd.isAgg5
 z5 := Tryd.sizeOf5
 v5 := Tryd.zeroValue5
 infoByte := by kernel_rfl
 cellsByte := by kernel_rfl
 sizeByte := by kernel_rfl
 neB5 := by decide }
open Go.RowKit Go.Lib in
open Go.RowKit Go.Lib in
open Go.RowKit Go.Lib in
open Go.RowKit Go.Lib in
open Go.RowKit Go.Lib in
open Go.RowKit Go.Lib in
open Go.RowKit Go.Lib in
theorem Tryd.strings_Repeat (s : ByteArray) (c : Nat) (w : World) (hc : c ≤ 9223372036854775807) (hlen : s.size * c ≤ 140737488355328) :
    Calls Tryd.prog 62 #[.string s, .int .i64 c] w fun e w' => e = .returned (.string ⟨(Lib.repeatL s.data.toList c).toArray⟩) ∧ Below w.heap.size w w' := Any.strings_Repeat Tryd.lays105 Tryd.Builder_Extra_105 s c w hc hlen
end Go.Proofs
namespace Go.Proofs.YtnakjijahkaoaaaDoor
open Go Go.RowKit
def bh (xs : List ByteArray) (sep : ByteArray) : ByteArray := ⟨(Lib.join (xs.map (·.data.toList)) sep.data.toList).toArray⟩
def jk (s : ByteArray) (c : Int) : ByteArray := ⟨(Lib.repeatL s.data.toList c.toNat).toArray⟩
theorem sf {w w' : World} (h : Below w.heap.size w w') : Kept w w' := ⟨h.os, h.tape, h.output, h.size, h.block⟩
theorem oH (l : List UInt8) : ByteArray.size ⟨l.toArray⟩ = l.length := by
 show l.toArray.size = l.length
 exact List.size_toArray ..
theorem rO {P : Program} {O : Nat → Prop} {w : World} : ∀ {xs : List ByteArray} {L : List Value}, ag (fun cs x => Rep P .str .cells O w cs x) 1 L xs → ∀ (j : Nat) x, xs[j]? = some x → L[j]? = some (.string x)
 | [], _, _, j, x, hx => by simp at hx
 | y :: ys, L, h, j, x, hx => by
  cases L with
  | nil => obtain ⟨⟨h1, _⟩, _⟩ := h; simp at h1
  | cons u us =>
   obtain ⟨⟨h1, _⟩, h2⟩ := h
   cases j with
   | zero =>
    simp at hx h1
    simp [← hx, h1]
   | succ j =>
    simp at hx h2
    simpa using rO h2 j x hx
noncomputable abbrev eC : bp := ⟨rL, rK, fun x => (bh x.1 x.2.1, ()), fun x => List.length x.1 ≤ 1000000 ∧ ByteArray.size (bh x.1 x.2.1) ≤ 1000000, false⟩
theorem td : aG prog [] gb eC := by
 refine ⟨gp rB (by kernel_rfl) (by kernel_rfl), (fun h => by cases h), fun O w vs x hO _ hx hp => ?_⟩
 obtain ⟨xs, sep, ⟨⟩⟩ := x
 obtain ⟨rest, cs, rfl, ⟨a, c, L, rfl, h2, h3, h4, h5, h6, h7⟩, rest', cs', rfl, ⟨rfl, hs⟩, hn⟩ := hx
 have hn : rest' = [] := hn
 subst hn
 have hp1 : xs.length ≤ 1000000 := hp.1
 have hp2 : (Lib.join (xs.map (·.data.toList)) sep.data.toList).length ≤ 1000000 := by
  have := hp.2
  unfold bh at this
  rwa [oH] at this
 have fin : ∀ e w', e = .returned (.string (bh xs sep)) → Kept w w' → ∃ v, e = Ending.returned v ∧ Kept w w' ∧ Rep prog eC.rs .result O w' [v] (eC.g (xs, sep, ())) := by
  intro e w' he hk
  refine ⟨_, he, hk, ?_⟩
  refine ⟨[], [.string (bh xs sep)], rfl, ⟨rfl, ?_⟩, rfl⟩
  show (bh xs sep).size ≤ maxLen
  unfold bh
  rw [oH]
  exact Nat.le_trans hp2 (by decide)
 cases hx0 : xs with
 | nil =>
  subst hx0
  refine Calls.mono (Tryd.strings_Join_none a c sep w) fun e w' he => ?_
  exact fin e w' he.1 (by rw [he.2]; exact Kept.refl w)
 | cons x0 xr =>
  rw [← hx0]
  obtain ⟨ad, ha, hO', hb, hc⟩ := h6 (by rw [hx0]; exact List.cons_ne_nil _ _)
  subst ha
  obtain ⟨bk, o, sp⟩ := ad
  have hat : ∀ (j : Nat) x, xs[j]? = some x → w.cell? ((⟨bk, o, sp⟩ : Addr).add j) = some (.string x) := fun j x hx => hc j _ (rO h5 j x hx)
  have hsp : sp = none := by
   have h0 := hat 0 x0 (by rw [hx0]; rfl)
   have e : (⟨bk, o, sp⟩ : Addr).add 0 = ⟨bk, o, sp⟩ := rfl
   rw [e] at h0
   unfold World.cell? at h0
   cases sp with
   | none => rfl
   | some q =>
    exfalso
    simp only [Option.isSome_some, if_true] at h0
    split at h0 <;> cases h0
  subst hsp
  have hcells : ∀ (j : Nat) x, xs[j]? = some x → w.cell? ⟨bk, o + j, none⟩ = some (.string x) := fun j x hx => by
   have h := hat j x hx
   unfold Addr.add at h
   split at h
   ·next hj => subst hj; exact h
   ·exact h
  exact Calls.mono (Tryd.strings_Join bk o c xs sep w hcells hb (by omega) h2 (Nat.le_trans hp2 (by decide))) fun e w' he => fin e w' he.1 (sf he.2)
noncomputable abbrev gH : bp := ⟨pM, pS, fun x => (jk x.1 x.2.1, ()), fun x => (0 : Int) ≤ x.2.1 ∧ (x.2.1 : Int) ≤ 1000000 ∧ ByteArray.size x.1 = 1, false⟩
theorem qK : aG prog [] eS gH := by
 refine ⟨gp pN (by kernel_rfl) (by kernel_rfl), (fun h => by cases h), fun O w vs x hO _ hx hp => ?_⟩
 obtain ⟨s, c, ⟨⟩⟩ := x
 obtain ⟨rest, cs, rfl, ⟨rfl, hs⟩, rest', cs', rfl, ⟨rfl, hc⟩, hn⟩ := hx
 have hn : rest' = [] := hn
 subst hn
 have h0 : (0 : Int) ≤ c := hp.1
 have h1 : (c : Int) ≤ 1000000 := hp.2.1
 have hs1 : s.size = 1 := hp.2.2
 obtain ⟨n, hn⟩ : ∃ n : Nat, (n : Int) = c := ⟨Int.toNat c, Int.toNat_of_nonneg h0⟩
 subst hn
 have hlt : n ≤ 1000000 := Int.ofNat_le.1 h1
 refine Calls.mono (Tryd.strings_Repeat s n w (Nat.le_trans hlt (by decide)) (by rw [hs1, Nat.one_mul]; exact Nat.le_trans hlt (by decide))) fun e w' he => ?_
 refine ⟨_, he.1, sf he.2, ?_⟩
 have e : jk s (n : Int) = ⟨(Lib.repeatL s.data.toList n).toArray⟩ := rfl
 refine ⟨[], [.string (jk s n)], rfl, ⟨rfl, ?_⟩, rfl⟩
 show (jk s (n : Int)).size ≤ maxLen
 rw [e, oH, Lib.repeatL_length]
 have : s.data.toList.length = 1 := hs1
 rw [this, Nat.mul_one]
 exact Nat.le_trans hlt (by decide)
end Go.Proofs.YtnakjijahkaoaaaDoor
namespace Go.Proofs.YtnakjijahkaoaaaDoor
open Go Go.RowKit
noncomputable abbrev dw : Fx := { fn := da, ann := { loops := [(5, { keep := [1, 3, 19] })], frz := [(1000005, [2, 3])] } }
noncomputable abbrev cX : Fx := { fn := cM, ann := { loops := [(0, { keep := [0, 1] })], frz := [(1000000, [2, 3])] } }
noncomputable abbrev bg : Fx := { fn := aB, ann := { loops := [(7, { keep := [2, 3, 5, 15] })] } }
noncomputable abbrev cG : be := { D := { T := bM, F := [(fD, fu), (dD, dE), (gb, eC), (eS, gH)], R := [], ovl := [], G := gl }, inl := [(lf, dw), (jy, cX)] }
noncomputable abbrev gY : bO := .data fg
theorem uZ (h_digest_begins : aG prog gl fD fu) (h_digest_words_over : aG prog gl dD dE) (h_strings_Join : aG prog gl gb eC) (h_strings_Repeat : aG prog gl eS gH) : XOk prog cG := xok (aS (aS (aS (aS (bl bq aX) h_strings_Repeat) h_strings_Join) h_digest_words_over) h_digest_begins) (by kernel_rfl) a6 (jU qB (by kernel_rfl) (jU oP (by kernel_rfl) bo)) bt
noncomputable def og (l : den (Ty.slc Ty.str)) : ab := ab.req True (ab.req (List.length l ≤ 1000000 ∧ ByteArray.size (bh l { data := { toList := [] } }) ≤ 1000000) (ab.req (ge0 3) (ab.req (ByteArray.size (bh l { data := { toList := [] } }) + ByteArray.size { data := { toList := [128] } } ≤ 1099511627776) (ab.req (nz 64) (ab.req (nz 64) (ab.req (0 ≤ Int.tmod (IntKind.wrap IntKind.i64 (120 - Int.tmod (aN (bh l { data := { toList := [] } } ++ { data := { toList := [128] } })) 64)) 64 ∧ Int.tmod (IntKind.wrap IntKind.i64 (120 - Int.tmod (aN (bh l { data := { toList := [] } } ++ { data := { toList := [128] } })) 64)) 64 ≤ 1000000 ∧ ByteArray.size { data := { toList := [0] } } = 1) (ab.req (ByteArray.size (bh l { data := { toList := [] } } ++ { data := { toList := [128] } }) + ByteArray.size (jk { data := { toList := [0] } } (Int.tmod (IntKind.wrap IntKind.i64 (120 - Int.tmod (aN (bh l { data := { toList := [] } } ++ { data := { toList := [128] } })) 64)) 64)) ≤ 1099511627776) (ab.loop [{ fx := bg, todo := f7 aB 2 2, dst := some 10, s := ofS [(2, K.ptr (0 + 1) tId []), (3, K.ptr (0 + 1 + 1) ae [])] }] dw (lp da 5) [(1, K.ptr 0 Ty.str []), (3, K.val (Ty.int IntKind.u64) (IntKind.wrap IntKind.u64 (IntKind.wrap IntKind.u64 (aN (bh l { data := { toList := [] } })) * 2 ^ min (Int.toNat 3) (IntKind.bits IntKind.u64)))), (19, K.val af 0)] [(0, Bx.cell Ty.str (bh l { data := { toList := [] } } ++ { data := { toList := [128] } } ++ jk { data := { toList := [0] } } (Int.tmod (IntKind.wrap IntKind.i64 (120 - Int.tmod (aN (bh l { data := { toList := [] } } ++ { data := { toList := [128] } })) 64)) 64))), (0 + 1, Bx.cell tId (zero tId)), (0 + 1 + 1, Bx.cell ae iF)]))))))))
theorem rt (l : den (Ty.slc Ty.str)) : ay cG gY 5000 [] bg (aF aB) (Env.of (aW nq (l, ()) 0) []) = og l := by kernel_rfl
noncomputable def eJ (v3 : den (Ty.int IntKind.u64)) (v19 : den af) (b0 : den Ty.str) (b1 : den tId) (b2 : den ae) : List bm := [{ fx := bg, todo := f7 aB 2 2, dst := some 10, s := ofS [(2, K.ptr (0 + 1) tId []), (3, K.ptr (0 + 1 + 1) ae [])] }]
noncomputable def ew (v3 : den (Ty.int IntKind.u64)) (v19 : den af) (b0 : den Ty.str) (b1 : den tId) (b2 : den ae) : Env := Env.of [(1, K.ptr 0 Ty.str []), (3, K.val (Ty.int IntKind.u64) v3), (19, K.val af v19)] [(0, Bx.cell Ty.str b0), (1, Bx.cell tId b1), (2, Bx.cell ae b2)]
noncomputable def it (v3 : den (Ty.int IntKind.u64)) (v19 : den af) (b0 : den Ty.str) (b1 : den tId) (b2 : den ae) : ab := ab.ite (decide (v19 < 8)) (ab.req (ge0 (IntKind.wrap IntKind.i64 (8 * IntKind.wrap IntKind.i64 (7 - v19)))) (ab.req (ByteArray.size b0 + ByteArray.size (aP (List.set (List.replicate 1 (zero (Ty.int IntKind.u8))) 0 (IntKind.wrap IntKind.u8 (Int.fdiv v3 (2 ^ min (Int.toNat (IntKind.wrap IntKind.i64 (8 * IntKind.wrap IntKind.i64 (7 - v19)))) (IntKind.bits IntKind.u64)))))) ≤ 1099511627776) (ab.loop [{ fx := bg, todo := f7 aB 2 2, dst := some 10, s := ofS [(2, K.ptr (0 + 1) tId []), (3, K.ptr (0 + 1 + 1) ae [])] }] dw (lp da 5) [(1, K.ptr 0 Ty.str []), (3, K.val (Ty.int IntKind.u64) v3), (19, K.val af (IntKind.wrap IntKind.i64 (v19 + 1)))] [(0, Bx.cell Ty.str (b0 ++ aP (List.set (List.replicate 1 (zero (Ty.int IntKind.u8))) 0 (IntKind.wrap IntKind.u8 (Int.fdiv v3 (2 ^ min (Int.toNat (IntKind.wrap IntKind.i64 (8 * IntKind.wrap IntKind.i64 (7 - v19)))) (IntKind.bits IntKind.u64))))))), (0 + 1, Bx.cell tId b1), (0 + 1 + 1, Bx.cell ae b2)]))) (ab.loop [{ fx := bg, todo := m8 aB 4, dst := none, s := ofS [(2, K.ptr (0 + 1 + 1) tId []), (3, K.ptr (0 + 1 + 1 + 1) ae [])], rng := some 0 }] cX (lp cM 0) [(0, K.yld 0), (1, K.ptr (0 + 1) Ty.str [])] [(0, Bx.lop LoopState.ready none [(3, K.ptr (0 + 1 + 1 + 1) ae [])] 32 (zG aB 4) (qw aB 4) (vm aB 4)), (0 + 1, Bx.cell Ty.str b0), (0 + 1 + 1, Bx.cell tId b1), (0 + 1 + 1 + 1, Bx.cell ae b2)])
theorem dt (v3 : den (Ty.int IntKind.u64)) (v19 : den af) (b0 : den Ty.str) (b1 : den tId) (b2 : den ae) : ay cG gY 5000 (eJ v3 v19 b0 b1 b2) dw (lp da 5) (ew v3 v19 b0 b1 b2) = it v3 v19 b0 b1 b2 := by kernel_rfl
noncomputable def dY (b1 : den Ty.str) (b2 : den tId) (b3 : den ae) : List bm := [{ fx := bg, todo := m8 aB 4, dst := none, s := ofS [(2, K.ptr (0 + 1 + 1) tId []), (3, K.ptr (0 + 1 + 1 + 1) ae [])], rng := some 0 }]
noncomputable def dS (b1 : den Ty.str) (b2 : den tId) (b3 : den ae) : Env := Env.of [(0, K.yld 0), (1, K.ptr (0 + 1) Ty.str [])] [(0, Bx.lop LoopState.ready none [(3, K.ptr (0 + 1 + 1 + 1) ae [])] 32 (zG aB 4) (qw aB 4) (vm aB 4)), (1, Bx.cell Ty.str b1), (2, Bx.cell tId b2), (3, Bx.cell ae b3)]
noncomputable def gT (b1 : den Ty.str) (b2 : den tId) (b3 : den ae) : ab := ab.ite (!eqb Ty.str b1 { data := { toList := [] } }) (ab.req (bc 0 64 (aN b1)) (ab.req (ByteArray.size (ce b1 0 64) = 64) (ab.ite (!true) (ab.loop [] bg (lp aB 7) [(2, K.ptr 0 tId []), (3, K.ptr (0 + 1) ae []), (5, K.ptr (0 + 1 + 1) tId []), (15, K.val af 0)] [(0, Bx.cell tId b2), (0 + 1, Bx.cell ae (oD b3 (ce b1 0 64))), (0 + 1 + 1, Bx.cell tId (zero tId))]) (ab.req (bc 64 (aN b1) (aN b1)) (ab.loop [{ fx := bg, todo := m8 aB 4, dst := none, s := ofS [(2, K.ptr (0 + 1 + 1) tId []), (3, K.ptr (0 + 1 + 1 + 1) ae [])], rng := some 0 }] cX (lp cM 0) [(0, K.yld 0), (1, K.ptr (0 + 1) Ty.str [])] [(0, Bx.lop LoopState.ready none [(3, K.ptr (0 + 1 + 1 + 1) ae [])] 32 (zG aB 4) (qw aB 4) (vm aB 4)), (0 + 1, Bx.cell Ty.str (ce b1 64 (aN b1))), (0 + 1 + 1, Bx.cell tId b2), (0 + 1 + 1 + 1, Bx.cell ae (oD b3 (ce b1 0 64)))]))))) (ab.loop [] bg (lp aB 7) [(2, K.ptr 0 tId []), (3, K.ptr (0 + 1) ae []), (5, K.ptr (0 + 1 + 1) tId []), (15, K.val af 0)] [(0, Bx.cell tId b2), (0 + 1, Bx.cell ae b3), (0 + 1 + 1, Bx.cell tId (zero tId))])
theorem dg (b1 : den Ty.str) (b2 : den tId) (b3 : den ae) : ay cG gY 5000 (dY b1 b2 b3) cX (lp cM 0) (dS b1 b2 b3) = gT b1 b2 b3 := by kernel_rfl
noncomputable def lZ (v15 : den af) (b0 : den tId) (b1 : den ae) (b2 : den tId) : Env := Env.of [(2, K.ptr 0 tId []), (3, K.ptr (0 + 1) ae []), (5, K.ptr (0 + 1 + 1) tId []), (15, K.val af v15)] [(0, Bx.cell tId b0), (1, Bx.cell ae b1), (2, Bx.cell tId b2)]
noncomputable def sh (v15 : den af) (b0 : den tId) (b1 : den ae) (b2 : den tId) : ab := ab.ite (decide (v15 < 32)) (ab.req (nz 4) (ab.req (inB (IntKind.wrap IntKind.i64 (Int.tdiv v15 4)) (↑8 : Int)) (ab.req (nz 4) (ab.req (ge0 (IntKind.wrap IntKind.i64 (24 - IntKind.wrap IntKind.i64 (8 * Int.tmod v15 4)))) (ab.req (inB v15 (↑32 : Int)) (ab.loop [] bg (lp aB 7) [(2, K.ptr 0 tId []), (3, K.ptr (0 + 1) ae []), (5, K.ptr (0 + 1 + 1) tId []), (15, K.val af (IntKind.wrap IntKind.i64 (v15 + 1)))] [(0, Bx.cell tId b0), (0 + 1, Bx.cell ae b1), (0 + 1 + 1, Bx.cell tId (gi (Ty.int IntKind.u8) b2 v15 (IntKind.wrap IntKind.u8 (Int.fdiv (el (Ty.int IntKind.u32) b1 (IntKind.wrap IntKind.i64 (Int.tdiv v15 4))) (2 ^ min (Int.toNat (IntKind.wrap IntKind.i64 (24 - IntKind.wrap IntKind.i64 (8 * Int.tmod v15 4)))) (IntKind.bits IntKind.u32))))))])))))) (ab.ret (K.val (Ty.pair tId Ty.unit) (b2, PUnit.unit)))
theorem i9 (v15 : den af) (b0 : den tId) (b1 : den ae) (b2 : den tId) : ay cG gY 5000 [] bg (lp aB 7) (lZ v15 b0 b1 b2) = sh v15 b0 b1 b2 := by kernel_rfl
end Go.Proofs.YtnakjijahkaoaaaDoor
namespace Go.Proofs.YtnakjijahkaoaaaDoor
open Go Go.RowKit
def e0 : ByteArray := { data := { toList := [] } }
def qt : ByteArray := { data := { toList := [128] } }
def bz : ByteArray := { data := { toList := [0] } }
def lJ (s : ByteArray) : Int := Int.tmod (IntKind.wrap .i64 (120 - Int.tmod (aN (s ++ qt)) 64)) 64
def rk (s : ByteArray) : Int := IntKind.wrap .u64 (IntKind.wrap .u64 (aN s) * 2 ^ min (Int.toNat 3) (IntKind.bits .u64))
def um (s : ByteArray) (i : Int) : ByteArray :=
 aP (List.set (List.replicate 1 (zero (Ty.int IntKind.u8))) 0
  (IntKind.wrap .u8 (Int.fdiv (rk s) (2 ^ min (Int.toNat (IntKind.wrap .i64 (8 * IntKind.wrap .i64 (7 - i)))) (IntKind.bits .u64)))))
def qC (s : ByteArray) : Nat → ByteArray
 | 0 => s ++ qt ++ jk bz (lJ s)
 | i + 1 => qC s i ++ um s i
def goR : Nat → ByteArray → List Int → List Int
 | 0, _, h => h
 | m + 1, s, h => goR m (ce s 64 (aN s)) (oD h (ce s 0 64))
def BL (h : List Int) (i : Int) : Int :=
 IntKind.wrap .u8 (Int.fdiv (el (Ty.int IntKind.u32) h (IntKind.wrap .i64 (Int.tdiv i 4))) (2 ^ min (Int.toNat (IntKind.wrap .i64 (24 - IntKind.wrap .i64 (8 * Int.tmod i 4)))) (IntKind.bits .u32)))
def su (h : List Int) : Nat → List Int
 | 0 => zero tId
 | i + 1 => gi (Ty.int IntKind.u8) (su h i) i (BL h i)
def py (s : ByteArray) : Nat := (s.size + 8) / 64 + 1
def xV (s : ByteArray) : List Int := su (goR (py s) (qC s 8) iF) 32
def jG (l : List ByteArray) : List Int := xV (bh l e0)
theorem yZ {n : Int} (h : 0 ≤ n) : ((jk bz n).size : Int) = n := by
 unfold jk
 rw [oH, Lib.repeatL_length]
 have : bz.data.toList.length = 1 := rfl
 rw [this, Nat.mul_one, Int.toNat_of_nonneg h]
theorem rf (s : ByteArray) (i : Int) : (um s i).size = 1 := rfl
theorem pE {s : ByteArray} (hs : s.size ≤ 900000) : lJ s = (120 - ((s.size : Int) + 1) % 64) % 64 := by
 have h1 : aN (s ++ qt) = (s.size : Int) + 1 := by
  unfold aN
  rw [ByteArray.size_append]
  rfl
 unfold lJ
 have h2 : Int.tmod ((s.size : Int) + 1) 64 = ((s.size : Int) + 1) % 64 := Int.tmod_eq_emod_of_nonneg (by omega)
 rw [h1, h2, eM (by omega)]
 exact Int.tmod_eq_emod_of_nonneg (by omega)
theorem lE {s : ByteArray} (hs : s.size ≤ 900000) : ∀ i : Nat, ((qC s i).size : Int) = (s.size : Int) + 1 + (120 - ((s.size : Int) + 1) % 64) % 64 + i
 | 0 => by
  have h0 : (0 : Int) ≤ lJ s := by rw [pE hs]; exact Int.emod_nonneg _ (by decide)
  show ((s ++ qt ++ jk bz (lJ s)).size : Int) = _
  rw [ByteArray.size_append, ByteArray.size_append]
  have h1 := yZ h0
  rw [pE hs] at h1
  have h2 : qt.size = 1 := rfl
  rw [pE hs]
  omega
 | i + 1 => by
  show ((qC s i ++ um s i).size : Int) = _
  rw [ByteArray.size_append, rf]
  have := lE hs i
  omega
theorem Aa {s : ByteArray} (hs : s.size ≤ 900000) : (qC s 8).size = 64 * py s := by
 have h := lE hs 8
 unfold py
 omega
theorem db : XOk prog cG := uZ (bA rp) nY (bA td) (bA qK)
theorem so : ∀ i : Nat, i < 32 → (0 ≤ IntKind.wrap .i64 (Int.tdiv (i : Int) 4) ∧ IntKind.wrap .i64 (Int.tdiv (i : Int) 4) < ((8 : Nat) : Int)) ∧
    0 ≤ IntKind.wrap .i64 (24 - IntKind.wrap .i64 (8 * Int.tmod (i : Int) 4)) := by decide
def rU (O : Nat → Prop) (w0 : World) (b0 h : List Int) (out : List Int) (ho : out = su h 32) :=
 PLift.up <| gS (σ := List Int) 32 (fun i b => b = su h i)
  (fun i b => bG prog cG (Cx.base O w0) (eB prog O w0 fg fun y => y = (out, ())) [] bg (lp aB 7) (lZ (i : Nat) b0 h b))
  (fun i b hi hb ih => cx db (i9 _ b0 h b) (by
   refine ⟨fun _ => ⟨show (4 : Int) ≠ 0 by decide, (so i hi).1, show (4 : Int) ≠ 0 by decide, (so i hi).2, ⟨Int.natCast_nonneg _, Int.ofNat_lt.2 hi⟩, ?_⟩, fun h => ?_⟩
   ·rw [kU hi (by omega)]
    refine ih _ ?_
    rw [hb]
    rfl
   ·exact absurd (Int.ofNat_lt.2 hi) (of_decide_eq_false h)))
  (fun b hb => cx db (i9 _ b0 h b) (by
   refine ⟨fun h => ?_, fun _ => ⟨_, rfl, ?_⟩⟩
   ·exact absurd (of_decide_eq_true h) (by decide)
   ·show (b, ()) = (out, ())
    rw [hb, ho]))
theorem yU {s : ByteArray} {m : Nat} (h : s.size = 64 * (m + 1)) : (ce s 64 (aN s)).size = 64 * m := by
 unfold ce aN
 rw [ByteArray.size_extract, Int.toNat_natCast]
 have : Int.toNat 64 = 64 := rfl
 omega
theorem zt {s : ByteArray} {m : Nat} (h : s.size = 64 * (m + 1)) : (ce s 0 64).size = 64 := by
 unfold ce
 rw [ByteArray.size_extract]
 have h1 : Int.toNat 64 = 64 := rfl
 have h2 : Int.toNat 0 = 0 := rfl
 omega
theorem qr (O : Nat → Prop) (w0 : World) (b2 out : List Int) (m : Nat) : ∀ (s : ByteArray) (h : List Int), s.size = 64 * m → out = su (goR m s h) 32 →
    bG prog cG (Cx.base O w0) (eB prog O w0 fg fun y => y = (out, ())) (dY s b2 h) cX (lp cM 0) (dS s b2 h) := by
  induction m with
  | zero =>
    intro s h hs ho
    have e : s = e0 := ByteArray.ext (Array.eq_empty_of_size_eq_zero hs)
    have e1 : eqb Ty.str s e0 = true := (gP (t := .str) rfl s e0).2 e
    refine cx db (dg s b2 h) ⟨fun hc => ?_, fun _ => ?_⟩
    · have hc : (!eqb Ty.str s e0) = true := hc
      rw [e1] at hc
      cases hc
    · exact (rU O w0 b2 h out ho).down 0 _ (Nat.zero_le _) rfl
  | succ m ih =>
    intro s h hs ho
    have hl : aN s = 64 * ((m : Int) + 1) := by unfold aN; rw [hs]; omega
    refine cx db (dg s b2 h) ⟨fun _ => ⟨?_, zt hs, fun hc => ?_, fun _ => ⟨?_, ?_⟩⟩, fun hc => ?_⟩
    · rw [hl]
      exact ⟨by decide, by decide, by omega⟩
    · cases hc
    · rw [hl]
      exact ⟨by decide, by omega, Int.le_refl _⟩
    · exact ih _ _ (yU hs) ho
    · have hc : (!eqb Ty.str s e0) = false := hc
      have e : s = e0 := (gP (t := .str) rfl s e0).1 (by cases h1 : eqb Ty.str s e0 with | true => rfl | false => rw [h1] at hc; cases hc)
      rw [e] at hs
      have : e0.size = 0 := rfl
      omega
def se (O : Nat → Prop) (w0 : World) (s : ByteArray) (hs : s.size ≤ 900000) :=
 PLift.up <| gS (σ := ByteArray) 8 (fun i b => b = qC s i)
  (fun i b => bG prog cG (Cx.base O w0) (eB prog O w0 fg fun y => y = (xV s, ())) (eJ (rk s) (i : Nat) b (zero tId) iF) dw (lp da 5) (ew (rk s) (i : Nat) b (zero tId) iF))
  (fun i b hi hb ih => cx db (dt (rk s) _ b _ _) (by
   have hz : b.size ≤ 1000000 := by have := lE hs i; rw [hb]; omega
   refine ⟨fun _ => ⟨?_, ?_, ?_⟩, fun h => ?_⟩
   ·show (0 : Int) ≤ IntKind.wrap .i64 (8 * IntKind.wrap .i64 (7 - (i : Int)))
    rw [eM (n := 7 - (i : Int)) (by omega), eM (by omega)]
    omega
   ·show b.size + (um s i).size ≤ _
    rw [rf]
    omega
   ·rw [kU hi (by omega)]
    refine ih _ ?_
    rw [hb]
    rfl
   ·exact absurd (Int.ofNat_lt.2 hi) (of_decide_eq_false h)))
  (fun b hb => cx db (dt (rk s) _ b _ _) (by
   refine ⟨fun h => ?_, fun _ => ?_⟩
   ·exact absurd (of_decide_eq_true h) (by decide)
   ·exact qr O w0 _ _ (py s) b iF (by rw [hb]; exact Aa hs) (by rw [hb]; rfl)))
noncomputable abbrev eH : bp := ⟨nq, fg, fun x => (jG x.1, ()), fun x => List.length x.1 ≤ 1000000 ∧ ByteArray.size (bh x.1 e0) ≤ 900000, false⟩
theorem n5 : aG prog gl eD eH :=
 cD (S := eH) db (fx := bg) tT (by kernel_rfl) (fun h => by cases h) (T := fun x => og x.1) (fun x => rt x.1) fun O w0 x _ hp => by
  obtain ⟨l, ⟨⟩⟩ := x
  have hp1 : List.length l ≤ 1000000 := hp.1
  have hp2 : (bh l e0).size ≤ 900000 := hp.2
  have hk : lJ (bh l e0) = _ := pE hp2
  refine ⟨trivial, ⟨hp1, Nat.le_trans hp2 (by decide)⟩, by show (0 : Int) ≤ 3; decide, ?_, show (64 : Int) ≠ 0 by decide, show (64 : Int) ≠ 0 by decide, ⟨?_, ?_, rfl⟩, ?_, ?_⟩
  ·show (bh l e0).size + 1 ≤ _
   omega
  ·show (0 : Int) ≤ lJ (bh l e0)
   rw [hk]; omega
  ·show lJ (bh l e0) ≤ 1000000
   rw [hk]; omega
  ·show (bh l e0 ++ qt).size + (jk bz (lJ (bh l e0))).size ≤ _
   have h := lE hp2 0
   have : (qC (bh l e0) 0).size = (bh l e0 ++ qt).size + (jk bz (lJ (bh l e0))).size := ByteArray.size_append
   omega
  ·exact (se O w0 (bh l e0) hp2).down 0 _ (Nat.zero_le _) rfl
end Go.Proofs.YtnakjijahkaoaaaDoor
namespace Go.Proofs.YtnakjijahkaoaaaDoor
open Go Go.RowKit
end Go.Proofs.YtnakjijahkaoaaaDoor
namespace Go.Proofs.YtnakjijahkaoaaaDoor
open Go Go.RowKit Go.ChangeShapes Go.WideShapes Go.ChangeAt
def m9 : List (String × DataW Unit) := [("posthouse/digest.keys", Rows.laid_posthouse_digest_keys)]
noncomputable def x8 : Nat := ((prog.globals[0]?).map (·.type)).getD 0
theorem zI : (prog.globals[0]?).map (·.type) = some x8 := by kernel_rfl
theorem yY : bM.lookup x8 = some (.arr 64 (.int .u32)) := by kernel_rfl
theorem BP : prog.globalNamed "posthouse/digest.keys" = some 0 := by kernel_rfl
def y7 : DataW Unit → Int := fun | .lit (.int _ n) => n | _ => 0
theorem oA {P : Program} {O : Nat → Prop} {w : World} {k : IntKind} : ∀ (cs : List Value) (ds : List (DataW Unit)), cs.length = ds.length →
    (∀ (i : Nat) c d, cs[i]? = some c → ds[i]? = some d → ∃ z, c = .int k z ∧ d = .lit (.int k z) ∧ InK k z) → ag (fun cs x => Rep P (.int k) .cells O w cs x) 1 cs (ds.map y7)
  | [], [], _, _ => rfl
  | c :: cs, d :: ds, hl, h => by
    obtain ⟨z, e1, e2, e3⟩ := h 0 c d rfl rfl
    refine ⟨?_, oA cs ds (by simpa using hl) fun i c d hc hd => h (i + 1) c d hc hd⟩
    rw [e1, e2]
    exact ⟨rfl, e3⟩
  | [], _ :: _, hl, _ => by simp at hl
  | _ :: _, [], hl, _ => by simp at hl
theorem zd : gV.length = 64 := by kernel_rfl
def ym : DataW Unit → List (DataW Unit)
 | .agg l => l
 | _ => []
theorem AN : (Rows.laid_posthouse_digest_keys : DataW Unit) = .agg (ym Rows.laid_posthouse_digest_keys) := by kernel_rfl
theorem zD : gV = (ym Rows.laid_posthouse_digest_keys).map y7 := by kernel_rfl
theorem yA {W : World} (h : laidMetH prog m9 W) : GlobOk prog gl (fun _ => False) W := by
  rw [MakeChecks.laidMetH_plain _ _ _ (by kernel_rfl)] at h
  obtain ⟨ps, ⟨g0, t0, cs0, f0, p0, q0, hg0, ht0, hv0, hd0, _, _⟩, _, _⟩ := h
  obtain rfl := Option.some.inj (BP.symm.trans hg0)
  obtain rfl := Option.some.inj (zI.symm.trans ht0)
  have hf := ge bq yY
  obtain ⟨e, hu, he, _⟩ := dp hf.shape
  obtain ⟨xs, k, hm, hx, h3, h4, h5⟩ := DataW.trod_array hu hd0
  have hfe := ge bq he
  have hse : prog.cellsOf e = 1 := oZ hfe
  have hst : prog.cellsOf x8 = 64 := oZ hf
  rw [AN] at hx
  have hx1 : ym Rows.laid_posthouse_digest_keys = xs.map (·.1) := DataW.agg.inj (Prod.mk.inj hx).1
  have hlen : cs0.toList.length = 64 := h3.trans hst
  have hrep : ag (fun cs x => Rep prog (.int .u32) .cells (fun _ => False) W cs x) 1 cs0.toList gV := by
    rw [zD]
    refine oA _ _ ?_ fun i c d hc hd => ?_
    · rw [hlen, hx1, List.length_map, h4]
    · have hi : i < 64 := by
        have := (List.getElem?_eq_some_iff.1 hc).1
        omega
      have h6 := h5 i hi
      rw [hse, Nat.mul_one] at h6
      have hc1 : (cs0.toList.drop i).take 1 = [c] := by
        have hlt : i < cs0.toList.length := by omega
        rw [List.drop_eq_getElem_cons hlt]
        have : cs0.toList[i] = c := by
          rw [List.getElem?_eq_getElem hlt] at hc
          exact Option.some.inj hc
        rw [this]
        rfl
      rw [hc1] at h6
      rw [hx1, List.getElem?_map] at hd
      cases hxi : xs[i]? with
      | none => rw [hxi] at hd; cases hd
      | some x =>
        rw [hxi] at hd h6
        obtain ⟨z, e1, e2, e3⟩ := DataW.trod_int (cy hfe.shape) h6
        have hd : x.1 = d := Option.some.inj hd
        refine ⟨z, ?_, ?_, tw e3⟩
        · exact (List.cons.inj e1).1
        · rw [← hd, e2]
  have hcell : ∀ j, W.cell? ⟨0, j, none⟩ = cs0[j]? := fun j => World.var?_cell hg0 hv0 j
  intro g t y hl
  have hg : g = 0 ∧ (⟨t, y⟩ : (t : Ty) × den t) = ⟨.arr 64 (.int .u32), gV⟩ := by
    have hl : List.lookup g [((0 : Nat), (⟨.arr 64 (.int .u32), gV⟩ : (t : Ty) × den t))] = some ⟨t, y⟩ := hl
    rw [List.lookup_cons] at hl
    by_cases hg : g = 0
    · subst hg
      exact ⟨rfl, (Option.some.inj hl).symm⟩
    · have : (g == 0) = false := by simpa using hg
      rw [this] at hl
      cases hl
  obtain ⟨rfl, e⟩ := hg
  cases e
  refine ⟨cs0.toList, fun h => h, ?_, fun j u hj => ?_, zd, hrep⟩
  · have h0 := hcell 0
    have : cs0[0]? ≠ none := by
      intro hn
      have hlt : 0 < cs0.size := by
        have : cs0.toList.length = cs0.size := by simp
        omega
      rw [Array.getElem?_eq_getElem hlt] at hn
      cases hn
    show 0 < W.heap.size
    rcases Nat.eq_zero_or_pos W.heap.size with hz | hz
    · exfalso
      apply this
      rw [← h0]
      simp [World.cell?, hz]
    · exact hz
  · have e : (⟨0, 0, none⟩ : Addr).add j = ⟨0, j, none⟩ := by
      unfold Addr.add
      split
      · next h => subst h; rfl
      · show (⟨0, 0 + j, none⟩ : Addr) = _
        rw [Nat.zero_add]
    rw [e, hcell]
    simpa using hj
set_option maxRecDepth 100000 in
theorem xT {H : Type} {enc : TypeId × Value → H} {w : World} {Gl : gG} (hg : GlobOk prog Gl (fun _ => False) w) {f : FuncId} {aty : Ty} (hk : aG prog Gl f (zX aty)) {ts : List TypeId} (hc : gn prog bM ts aty = true) {r : Reach} {b0 : Nat} {spare : Nat → Bool} {held : Bool} {args : Array Value} {ds : List (DataW H)} {ps : List MemPlace}
    (h : DataW.TrodAll enc prog w 0 spare held ts args.toList ds ps) (hv : ∀ (j : Nat) t v, ts[j]? = some t → args[j]? = some v → Value.okWide prog w r b0 t v) : Calls prog f args w fun e w' => e = .returned (.bool true) ∧ Below w.heap.size w w' := by
  obtain ⟨x, hx⟩ := nx bq ts aty args.toList ds ps hc h (fun j t v hj hv' => hv j t v hj (by simpa using hv'))
  have := hk.does (fun _ => False) w args.toList x (fun _ h => h.elim) hg hx trivial
  rw [Array.toArray_toList] at this
  refine Calls.mono this fun e w' ⟨v, e1, e2, rest, cs, e3, e4, e5⟩ => ?_
  have e4 : cs = [.bool true] := e4
  subst e4
  have e3 : [v] = [Value.bool true] := e3
  have : v = .bool true := by simpa using e3
  subst this
  exact ⟨e1, ⟨e2.os, e2.tape, e2.output, e2.size, e2.block⟩⟩
theorem zW (os : Os) (args : Array Value) : laidMetH prog m9 ((World.laidAll prog os m9).forCall (fun _ _ => 0) ⟨#[], args, []⟩).memory := by
 rw [MakeChecks.laidMetH_plain _ _ _ (by kernel_rfl)]
 exact laidMet_laidAll _ (by kernel_rfl) (by kernel_rfl)
end Go.Proofs.YtnakjijahkaoaaaDoor
namespace Go.Proofs.YtnakjijahkaoaaaDoor
open Go Go.RowKit
abbrev Lk := den dV
end Go.Proofs.YtnakjijahkaoaaaDoor
namespace Go.Proofs.YtnakjijahkaoaaaDoor
open Go Go.RowKit
noncomputable abbrev mb : Fx := { fn := jj, ann := { frz := [(1, [1])] } }
noncomputable abbrev nS : be := { D := { T := bM, F := [], R := [], ovl := [] }, inl := [] }
noncomputable abbrev tO : bO := .data lV
theorem t7 : XOk prog nS := xok ((bl bq aX)) (by kernel_rfl) a6 bo bt
noncomputable def ni (id : den tId) : ab := ab.req (bc 0 16 (↑32 : Int)) (ab.req (16 ≤ List.length (c8 (Ty.int IntKind.u8) id 0 16)) (ab.ret (K.val (Ty.pair bH Ty.unit) (List.take 16 (c8 (Ty.int IntKind.u8) id 0 16), PUnit.unit))))
theorem qM (id : den tId) : ay nS tO 5000 [] mb (aF jj) (Env.of (aW lY (id, ()) 0) []) = ni id := by kernel_rfl
end Go.Proofs.YtnakjijahkaoaaaDoor
namespace Go.Proofs.YtnakjijahkaoaaaDoor
open Go Go.RowKit
def cU (id : List Int) : List Int := List.take 16 id
noncomputable abbrev gy : bp := ⟨lY, lV, fun x => (cU x.1, ()), fun _ => True, true⟩
theorem tL : aG prog [] gt gy :=
 cD (S := gy) t7 (fx := mb) s7 (by kernel_rfl) (fun _ _ => trivial) (T := fun x => ni x.1) (fun x => qM x.1) fun O w0 x hk _ => by
  obtain ⟨id, ⟨⟩⟩ := x
  have hl : List.length id = 32 := hk.1.1
  have e : c8 (Ty.int IntKind.u8) id 0 16 = List.take 16 id := rfl
  refine ⟨⟨by decide, by decide, by decide⟩, ?_, _, rfl, ?_⟩
  ·rw [e]
   show 16 ≤ (List.take 16 id).length
   rw [List.length_take]
   omega
  ·rw [e]
   show (List.take 16 (List.take 16 id), ()) = (List.take 16 id, ())
   rw [List.take_take]; rfl
end Go.Proofs.YtnakjijahkaoaaaDoor
namespace Go.Proofs.YtnakjijahkaoaaaDoor
open Go Go.RowKit
end Go.Proofs.YtnakjijahkaoaaaDoor
namespace Go.Proofs.YtnakjijahkaoaaaDoor
open Go Go.RowKit
end Go.Proofs.YtnakjijahkaoaaaDoor
namespace Go.Proofs.YtnakjijahkaoaaaDoor
open Go Go.RowKit
end Go.Proofs.YtnakjijahkaoaaaDoor
