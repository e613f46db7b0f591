/- Part 7 of 9 of what this claim's proof stands on: a theory of programs on data, and the contracts of the functions that the law reaches. It holds no condition of its own. -/
import Derived.Test.YtnakjijahkaoaaaDoorCG6
import Derived.Test.YtnakjijahkaoaaaDoorProg
import Derived.Test.YtnakjijahkaoaaaDoorRows
import Derived.Shelf.Strings.Builder1
import Derived.Shelf.Strings.Builder2
import Derived.Shelf.Strings.OnBuilder
import Derived.Shelf.Strings.BuilderF
import Derived.Shelf.Strings.BuilderK
import Derived.Shelf.Strings.Builder2Cap
import Derived.Shelf.Strings.Prefix
import Derived.Shelf.Bits.Mul64
import Derived.Shelf.Strings.Repeat
import Derived.Shelf.Strings.BuilderCap
import Derived.LaidMore
import Derived.Lay
namespace Go.Proofs.YtnakjijahkaoaaaDoor
open Go
noncomputable section
noncomputable abbrev prog : Program := Tryd.prog
abbrev tId : Ty := (.arr 32 (.int .u8))
abbrev bN : Ty := (.arr 16 (.int .u8))
abbrev ae : Ty := (.arr 8 (.int .u32))
abbrev nK : Ty := (.st (.pair (.mp bN .bool) .unit))
abbrev dS : Ty := (.st (.pair tId (.pair tId .unit)))
abbrev ah : Ty := (.st (.pair (.int .i64) (.pair tId (.pair (.int .i64) .unit))))
abbrev cw : Ty := (.st (.pair .bool (.pair .bool (.pair .bool (.pair .bool (.pair .bool (.pair .bool .unit)))))))
abbrev mI : Ty := (.st (.pair tId (.pair ah (.pair (.int .i64) .unit))))
abbrev aB : Ty := (.st (.pair (.int .i64) (.pair tId (.pair ah (.pair (.slc ah) (.pair (.int .i64) (.pair .str (.pair .str .unit))))))))
abbrev gL : Ty := (.st (.pair (.int .i64) (.pair aB .unit)))
def bQ : List (Nat × Ty) := [
 (1, (.fn .unit .unit)),
 (2, (.int .i64)),
 (3, (.int .i64)),
 (4, .bool),
 (5, (.int .u8)),
 (9, .str),
 (12, (.int .u64)),
 (21, (.int .i32)),
 (22, tId),
 (23, tId),
 (24, (.int .i64)),
 (26, (.fn (.pair .str (.pair tId (.pair (.int .i64) .unit))) (.pair .str (.pair (.int .i64) .unit)))),
 (27, (.fn (.pair tId .unit) (.pair tId .unit))),
 (28, (.fn (.pair .str (.pair tId .unit)) (.pair tId .unit))),
 (29, (.fn (.pair tId (.pair tId .unit)) (.pair .bool .unit))),
 (30, (.fn .unit (.pair .bool .unit))),
 (31, (.fn (.pair .str (.pair tId (.pair (.int .i64) .unit))) (.pair .str .unit))),
 (32, (.fn (.pair tId (.pair tId (.pair .str (.pair (.int .i64) .unit)))) (.pair .bool .unit))),
 (33, (.slc dS)),
 (35, (.fn (.pair (.slc dS) .unit) (.pair .bool (.pair (.int .i64) .unit)))),
 (36, (.fn (.pair (.slc dS) .unit) (.pair .bool .unit))),
 (37, dS),
 (38, dS),
 (39, (.fn (.pair tId (.pair tId (.pair tId (.pair (.slc dS) .unit)))) (.pair .bool .unit))),
 (40, (.fn (.pair (.slc dS) (.pair (.int .i64) .unit)) (.pair .bool .unit))),
 (41, ah),
 (42, ah),
 (43, (.slc ah)),
 (44, aB),
 (45, aB),
 (46, (.fn (.pair aB .unit) (.pair aB .unit))),
 (48, (.fn (.pair .str (.pair aB .unit)) (.pair (.int .i64) (.pair aB (.pair (.int .i64) .unit))))),
 (49, (.fn (.pair .str (.pair aB (.pair aB .unit))) (.pair .bool .unit))),
 (50, (.fn (.pair .str (.pair .str (.pair tId (.pair tId (.pair (.int .i64) .unit))))) (.pair .bool .unit))),
 (51, mI),
 (52, mI),
 (54, (.fn (.pair aB (.pair (.int .i64) .unit)) (.pair mI (.pair (.int .i64) .unit)))),
 (55, (.fn (.pair aB .unit) (.pair .bool .unit))),
 (56, (.fn (.pair aB (.pair (.int .i64) .unit)) (.pair mI .unit))),
 (57, (.fn (.pair aB (.pair aB .unit)) (.pair .bool .unit))),
 (58, gL),
 (59, gL),
 (60, (.fn (.pair .str (.pair aB .unit)) (.pair gL .unit))),
 (61, (.fn (.pair .str (.pair aB (.pair (.int .i64) .unit))) (.pair .bool .unit))),
 (62, (.fn (.pair .str (.pair .str (.pair tId (.pair (.int .i64) (.pair (.int .i64) (.pair (.int .i64) .unit)))))) (.pair .bool .unit))),
 (63, (.fn (.pair (.slc .str) .unit) (.pair tId .unit))),
 (64, (.slc (.int .u8))),
 (65, (.fn (.pair .str .unit) (.pair tId .unit))),
 (66, (.fn (.pair tId .unit) (.pair .str .unit))),
 (67, bN),
 (68, bN),
 (69, (.fn (.pair tId .unit) (.pair bN .unit))),
 (70, (.fn (.pair (.slc dS) .unit) (.pair (.slc dS) .unit))),
 (71, (.mp bN .bool)),
 (72, nK),
 (73, nK),
 (74, (.fn (.pair bN .unit) .unit)),
 (75, (.fn (.pair (.slc dS) (.pair (.fn (.pair dS .unit) (.pair .bool .unit)) .unit)) (.pair (.slc dS) .unit))),
 (76, (.fn (.pair bN .unit) (.pair .bool .unit))),
 (77, (.fn (.pair dS .unit) (.pair .bool .unit))),
 (78, (.fn (.pair (.slc .str) (.pair .str .unit)) (.pair .bool .unit))),
 (79, (.slc .str)),
 (80, (.fn (.pair (.slc dS) (.pair .str .unit)) (.pair (.slc .str) .unit))),
 (81, (.fn (.pair aB (.pair .str .unit)) (.pair (.int .i64) .unit))),
 (83, (.mp (.int .i64) (.fn (.pair aB (.pair .str .unit)) (.pair (.int .i64) .unit)))),
 (84, (.fn .unit (.pair (.mp (.int .i64) (.fn (.pair aB (.pair .str .unit)) (.pair (.int .i64) .unit))) .unit))),
 (85, (.fn (.pair (.slc ah) (.pair (.slc ah) .unit)) (.pair .bool .unit))),
 (86, (.int .u32)),
 (87, ae),
 (88, ae),
 (89, (.fn .unit (.pair ae .unit))),
 (90, (.fn (.pair (.fn (.pair .str .unit) (.pair .bool .unit)) .unit) .unit)),
 (91, (.fn (.pair (.fn (.pair .str .unit) (.pair .bool .unit)) .unit) .unit)),
 (92, (.fn (.pair .str .unit) (.pair (.fn (.pair (.fn (.pair .str .unit) (.pair .bool .unit)) .unit) .unit) .unit))),
 (93, (.fn (.pair (.slc .str) (.pair .str .unit)) (.pair .str .unit))),
 (94, (.fn (.pair .str .unit) (.pair ae .unit))),
 (95, (.slc (.int .u32))),
 (96, (.fn .unit (.pair (.slc (.int .u32)) .unit))),
 (97, (.fn (.pair .str .unit) (.pair .str .unit))),
 (98, (.fn (.pair (.slc (.int .u32)) (.pair .str .unit)) (.pair (.slc (.int .u32)) .unit))),
 (100, (.fn (.pair (.slc dS) (.pair (.fn (.pair dS .unit) (.pair .bool .unit)) .unit)) (.pair (.int .i64) .unit))),
 (101, (.fn (.pair (.int .i64) .unit) (.pair (.fn (.pair aB (.pair .str .unit)) (.pair (.int .i64) .unit)) .unit))),
 (102, cw),
 (103, cw),
 (105, (.mp (.int .i64) cw)),
 (106, (.fn .unit (.pair (.mp (.int .i64) cw) .unit))),
 (107, (.fn (.pair ah .unit) (.pair .bool .unit))),
 (108, (.fn (.pair (.slc ah) .unit) (.pair .bool .unit))),
 (109, (.fn (.pair (.int .i64) (.pair (.int .u8) .unit)) (.pair .bool .unit))),
 (110, (.int .u64)),
 (111, (.int .u64)),
 (112, (.fn (.pair .str (.pair (.int .i64) .unit)) (.pair .str .unit))),
 (113, (.fn (.pair .str .unit) (.pair .bool .unit))),
 (117, (.fn (.pair (.int .i64) .unit) .unit)),
 (122, (.fn .unit (.pair .str .unit))),
 (123, (.arr 64 (.int .u32))),
 (124, (.fn (.pair .str .unit) (.pair (.int .u32) .unit))),
 (125, (.fn (.pair (.int .u32) (.pair (.int .i64) (.pair (.int .i64) (.pair (.int .u32) .unit)))) (.pair (.int .u32) .unit))),
 (126, (.fn (.pair (.int .u32) (.pair (.int .i64) .unit)) (.pair (.int .u32) .unit))),
 (127, (.fn (.pair (.slc (.int .u32)) (.pair (.int .u32) (.pair (.int .u32) .unit))) (.pair (.slc (.int .u32)) .unit))),
 (129, (.fn (.pair (.int .u64) (.pair (.int .u64) .unit)) (.pair (.int .u64) (.pair (.int .u64) .unit)))),
 (130, (.fn (.pair .str (.pair .str .unit)) (.pair .bool .unit))),
 (131, (.fn .unit (.pair (.int .i64) .unit))),
 (133, (.fn (.pair (.slc ah) (.pair (.fn (.pair ah .unit) (.pair .bool .unit)) .unit)) (.pair .bool .unit))),
 (135, (.fn (.pair (.int .u32) (.pair (.int .u32) .unit)) (.pair (.int .u32) (.pair (.int .u32) .unit)))),
 (137, (.fn (.pair (.int .u64) (.pair (.int .u64) .unit)) (.pair (.int .u64) (.pair (.int .u64) .unit)))),
 (140, (.fn (.pair (.int .i64) .unit) (.pair (.slc (.int .u8)) .unit))),
 (141, (.fn (.pair (.slc ah) (.pair (.fn (.pair ah .unit) (.pair .bool .unit)) .unit)) (.pair (.int .i64) .unit)))]
theorem bB : qz prog bQ = true := by kernel_rfl
theorem be : prog.follows .mixedOrders = true := by kernel_rfl
abbrev jw : Nat := 7
noncomputable abbrev gg : Func := Tryd.f7
abbrev cE : Ty := (.pair .str (.pair aB (.pair aB .unit)))
abbrev od : Ty := (.pair .bool .unit)
theorem po : Tryd.prog.funcs[jw]? = some gg := Tryd.func7
abbrev dM : Nat := 11
noncomputable abbrev jh : Func := Tryd.f11
abbrev l8 : Ty := (.pair .str (.pair tId (.pair (.int .i64) .unit)))
abbrev mw : Ty := (.pair .str (.pair (.int .i64) .unit))
theorem sN : Tryd.prog.funcs[dM]? = some jh := Tryd.func11
abbrev im : Nat := 12
noncomputable abbrev kQ : Func := Tryd.f12
abbrev nt : Ty := (.pair tId .unit)
abbrev nD : Ty := (.pair tId .unit)
theorem ue : Tryd.prog.funcs[im]? = some kQ := Tryd.func12
abbrev gz : Nat := 14
noncomputable abbrev jj : Func := Tryd.f14
abbrev lR : Ty := (.pair tId .unit)
abbrev mm : Ty := (.pair tId .unit)
theorem sC : Tryd.prog.funcs[gz]? = some jj := Tryd.func14
abbrev gF : Nat := 15
noncomputable abbrev jo : Func := Tryd.f15
abbrev l7 : Ty := (.pair tId (.pair tId .unit))
abbrev mb : Ty := (.pair .bool .unit)
theorem sU : Tryd.prog.funcs[gF]? = some jo := Tryd.func15
abbrev lz : Nat := 21
noncomputable abbrev oq : Func := Tryd.f21
abbrev sc : Ty := (.pair aB .unit)
abbrev rr : Ty := (.pair aB .unit)
theorem xx : Tryd.prog.funcs[lz]? = some oq := Tryd.func21
abbrev dO : Nat := 22
noncomputable abbrev jl : Func := Tryd.f22
abbrev lT : Ty := (.pair .str (.pair aB .unit))
abbrev iM : Ty := (.pair (.int .i64) (.pair aB (.pair (.int .i64) .unit)))
theorem sT : Tryd.prog.funcs[dO]? = some jl := Tryd.func22
abbrev iZ : Nat := 23
noncomputable abbrev lN : Func := Tryd.f23
abbrev n7 : Ty := .unit
abbrev oI : Ty := (.pair .bool .unit)
theorem vZ : Tryd.prog.funcs[iZ]? = some lN := Tryd.func23
abbrev eJ : Nat := 29
noncomputable abbrev aE : Func := Tryd.f29
abbrev nl : Ty := (.pair (.slc .str) .unit)
abbrev fc : Ty := (.pair tId .unit)
theorem ug : Tryd.prog.funcs[eJ]? = some aE := Tryd.func29
abbrev eI : Nat := 30
noncomputable abbrev kB : Func := Tryd.f30
abbrev nu : Ty := (.pair .str (.pair tId .unit))
abbrev nI : Ty := (.pair tId .unit)
theorem uf : Tryd.prog.funcs[eI]? = some kB := Tryd.func30
abbrev gy : Nat := 33
noncomputable abbrev jk : Func := Tryd.f33
abbrev mA : Ty := (.pair tId .unit)
abbrev l9 : Ty := (.pair bN .unit)
theorem sy : Tryd.prog.funcs[gy]? = some jk := Tryd.func33
abbrev f9 : Nat := 41
noncomputable abbrev iH : Func := Tryd.f41
abbrev lr : Ty := .unit
abbrev kU : Ty := (.pair (.mp (.int .i64) (.fn (.pair aB (.pair .str .unit)) (.pair (.int .i64) .unit))) .unit)
theorem sq : Tryd.prog.funcs[f9]? = some iH := Tryd.func41
abbrev ig : Nat := 42
noncomputable abbrev kz : Func := Tryd.f42
abbrev nO : Ty := (.pair aB .unit)
abbrev js : Ty := (.pair .bool .unit)
theorem ui : Tryd.prog.funcs[ig]? = some kz := Tryd.func42
abbrev fC : Nat := 45
noncomputable abbrev g9 : Func := Tryd.f45
abbrev kJ : Ty := .unit
abbrev kb : Ty := (.pair ae .unit)
theorem qo : Tryd.prog.funcs[fC]? = some g9 := Tryd.func45
abbrev li : Nat := 46
noncomputable abbrev db : Func := Tryd.f46
theorem rb : Tryd.prog.funcs[li]? = some db := Tryd.func46
abbrev gd : Nat := 47
noncomputable abbrev sV : Func := Tryd.f47
abbrev rU : Ty := (.pair (.slc .str) (.pair .str .unit))
abbrev ru : Ty := (.pair .str .unit)
theorem rQ : Tryd.prog.funcs[gd]? = some sV := Tryd.func47
abbrev dJ : Nat := 48
noncomputable abbrev aR : Func := Tryd.f48
abbrev ik : Ty := (.pair ae (.pair .str .unit))
abbrev dt : Ty := (.pair ae .unit)
theorem mU : Tryd.prog.funcs[dJ]? = some aR := Tryd.func48
abbrev ke : Nat := 53
noncomputable abbrev j7 : Func := Tryd.f53
theorem pM : Tryd.prog.funcs[ke]? = some j7 := Tryd.func53
abbrev dR : Nat := 54
noncomputable abbrev fN : Func := Tryd.f54
abbrev iw : Ty := (.pair aB (.pair .str (.pair (.ref (.int .i64)) .unit)))
abbrev iB : Ty := (.pair (.int .i64) .unit)
theorem nX : Tryd.prog.funcs[dR]? = some fN := Tryd.func54
abbrev eV : Nat := 55
noncomputable abbrev gI : Func := Tryd.f55
abbrev ge : Ty := (.pair aB (.pair .str .unit))
abbrev ew : Ty := (.pair (.int .i64) .unit)
theorem pN : Tryd.prog.funcs[eV]? = some gI := Tryd.func55
abbrev g7 : Nat := 56
noncomputable abbrev jY : Func := Tryd.f56
abbrev nS : Ty := .unit
abbrev nA : Ty := (.pair (.mp (.int .i64) cw) .unit)
theorem tQ : Tryd.prog.funcs[g7]? = some jY := Tryd.func56
abbrev fW : Nat := 57
noncomputable abbrev jG : Func := Tryd.f57
abbrev qf : Ty := (.pair ah .unit)
abbrev pX : Ty := (.pair .bool .unit)
theorem wg : Tryd.prog.funcs[fW]? = some jG := Tryd.func57
abbrev gx : Nat := 58
noncomputable abbrev jg : Func := Tryd.f58
abbrev mv : Ty := (.pair (.slc ah) .unit)
abbrev mh : Ty := (.pair .bool .unit)
theorem s6 : Tryd.prog.funcs[gx]? = some jg := Tryd.func58
abbrev eT : Nat := 62
noncomputable abbrev qR : Func := Tryd.f62
abbrev pK : Ty := (.pair .str (.pair (.int .i64) .unit))
abbrev pT : Ty := (.pair .str .unit)
theorem pO : Tryd.prog.funcs[eT]? = some qR := Tryd.func62
abbrev jy : Nat := 63
noncomputable abbrev cR : Func := Tryd.f63
theorem oG : Tryd.prog.funcs[jy]? = some cR := Tryd.func63
abbrev fD : Nat := 67
noncomputable abbrev cO : Func := Tryd.f67
abbrev kR : Ty := (.pair .str .unit)
abbrev gN : Ty := (.pair (.int .u32) .unit)
theorem qv : Tryd.prog.funcs[fD]? = some cO := Tryd.func67
abbrev gU : Nat := 68
noncomputable abbrev kf : Func := Tryd.f68
abbrev nF : Ty := (.pair (.int .u32) (.pair (.int .i64) (.pair (.int .i64) (.pair (.int .u32) .unit))))
abbrev nH : Ty := (.pair (.int .u32) .unit)
theorem ud : Tryd.prog.funcs[gU]? = some kf := Tryd.func68
abbrev cr : Nat := 69
noncomputable abbrev fq : Func := Tryd.f69
abbrev gW : Ty := (.pair (.int .u32) (.pair (.int .i64) .unit))
abbrev ii : Ty := (.pair (.int .u32) .unit)
theorem ni : Tryd.prog.funcs[cr]? = some fq := Tryd.func69
abbrev iS : Nat := 73
noncomputable abbrev fj : Func := Tryd.f73
abbrev ov : Ty := (.pair (.slc ah) .unit)
abbrev kh : Ty := (.pair .bool .unit)
theorem uQ : Tryd.prog.funcs[iS]? = some fj := Tryd.func73
abbrev eN : Nat := 80
noncomputable abbrev bF : Func := Tryd.f80
theorem iP : Tryd.prog.funcs[eN]? = some bF := Tryd.func80
abbrev fb : Nat := 81
noncomputable abbrev nV : Func := Tryd.f81
theorem sS : Tryd.prog.funcs[fb]? = some nV := Tryd.func81
abbrev fS : Nat := 87
noncomputable abbrev bA : Func := Tryd.f87
theorem jz : Tryd.prog.funcs[fS]? = some bA := Tryd.func87
end
end Go.Proofs.YtnakjijahkaoaaaDoor
namespace Go.Proofs.YtnakjijahkaoaaaDoor
open Go Go.RowKit
theorem gS {σ : Type} (n : Nat) (Inv : Nat → σ → Prop) (Q : Nat → σ → Prop) (step : ∀ i s, i < n → Inv i s → (∀ s', Inv (i + 1) s' → Q (i + 1) s') → Q i s) (last : ∀ s, Inv n s → Q n s) : ∀ (i : Nat) (s : σ), i ≤ n → Inv i s → Q i s := by
 intro i s hi
 obtain ⟨k, hk⟩ : ∃ k, k + i = n := ⟨n - i, by omega⟩
 induction k generalizing i s with
 | zero =>
  have e : i = n := by omega
  subst e
  exact last s
 | succ k ih =>
  intro hI
  exact step i s (by omega) hI fun s' h' => ih (i + 1) s' (by omega) (by omega) h'
theorem xg {e : Ty} (t : List (den e)) {i : Nat} : (decide ((i : Int) < lnx e t)) = decide (i < t.length) := by
 rw [Bool.eq_iff_iff, decide_eq_true_eq, decide_eq_true_eq]
 exact ⟨fun h => by have h : (i : Int) < (t.length : Int) := h; omega, fun h => by show (i : Int) < (t.length : Int); omega⟩
theorem gP {n : Int} (h : -1000000000000000 ≤ n ∧ n ≤ 1000000000000000) : IntKind.wrap .i64 n = n := y7 (by omega) (by omega)
theorem bo {P : ab → Prop} {A : Type} {e : A} {f : A → ab} (h : P (f e)) : ∀ q, q = e → P (f q) := fun q hq => by cases hq; exact h
theorem BP {e : Ty} (l : List (den e)) (n : Nat) : cI e l 0 (bO (lnx e l) (n : Int)) = l.take n ∧ aY 0 (bO (lnx e l) (n : Int)) (lnx e l) := by
 have h : lnx e l = (l.length : Int) := rfl
 unfold cI d9 bO aY
 rw [h]
 have h0 : Int.toNat 0 = 0 := rfl
 rw [h0, List.drop_zero]
 split
 ·rw [Int.toNat_natCast]
  exact ⟨rfl, by omega, by omega, by omega⟩
 ·rw [Int.toNat_natCast, List.take_length, List.take_of_length_le (by omega)]
  exact ⟨rfl, by omega, by omega, by omega⟩
theorem vM (s : ByteArray) (n : Nat) : aY 0 (bO (aD s) (n : Int)) (aD s) := by
 unfold bO aY aD
 split <;> omega
end Go.Proofs.YtnakjijahkaoaaaDoor
namespace Go.Proofs.YtnakjijahkaoaaaDoor
open Go Go.RowKit
noncomputable abbrev iq : Fx := { fn := fq, ann := { } }
noncomputable abbrev iu : bl := { D := { T := bQ, F := [], R := [], ovl := [] }, inl := [] }
noncomputable abbrev nZ : bV := .data ii
theorem n1 : XOk prog iu := xok ((bq bB be)) (by kernel_rfl) bj bw bC
noncomputable def iA (x : den (Ty.int IntKind.u32)) (k : den af) : ab := ab.req (ge0 (IntKind.wrap IntKind.u64 (↑(BitVec.toNat (BitVec.ofInt (IntKind.bits IntKind.u64) (IntKind.wrap IntKind.u64 k) &&& BitVec.ofInt (IntKind.bits IntKind.u64) 31)) : Int))) (ab.req (ge0 (IntKind.wrap IntKind.u64 (32 - IntKind.wrap IntKind.u64 (↑(BitVec.toNat (BitVec.ofInt (IntKind.bits IntKind.u64) (IntKind.wrap IntKind.u64 k) &&& BitVec.ofInt (IntKind.bits IntKind.u64) 31)) : Int)))) (ab.ret (K.val (Ty.pair (Ty.int IntKind.u32) Ty.unit) (IntKind.wrap IntKind.u32 (↑(BitVec.toNat (BitVec.ofInt (IntKind.bits IntKind.u32) (IntKind.wrap IntKind.u32 (x * 2 ^ min (Int.toNat (IntKind.wrap IntKind.u64 (↑(BitVec.toNat (BitVec.ofInt (IntKind.bits IntKind.u64) (IntKind.wrap IntKind.u64 k) &&& BitVec.ofInt (IntKind.bits IntKind.u64) 31)) : Int))) (IntKind.bits IntKind.u32))) ||| BitVec.ofInt (IntKind.bits IntKind.u32) (Int.fdiv x (2 ^ min (Int.toNat (IntKind.wrap IntKind.u64 (32 - IntKind.wrap IntKind.u64 (↑(BitVec.toNat (BitVec.ofInt (IntKind.bits IntKind.u64) (IntKind.wrap IntKind.u64 k) &&& BitVec.ofInt (IntKind.bits IntKind.u64) 31)) : Int)))) (IntKind.bits IntKind.u32))))) : Int), PUnit.unit))))
theorem lH (x : den (Ty.int IntKind.u32)) (k : den af) : az iu nZ 5000 [] iq (aI fq) (Env.of (ba gW (x, k, ()) 0) []) = iA x k := by kernel_rfl
noncomputable abbrev kE : Fx := { fn := g9, ann := { } }
noncomputable abbrev ll : bl := { D := { T := bQ, F := [], R := [], ovl := [] }, inl := [] }
noncomputable abbrev rO : bV := .data kb
theorem rT : XOk prog ll := xok ((bq bB be)) (by kernel_rfl) bj bw bC
noncomputable def lw : ab := ab.ret (K.val (Ty.pair ae Ty.unit) (List.set (List.set (List.set (List.set (List.set (List.set (List.set (List.set (List.replicate 8 (zero (Ty.int IntKind.u32))) 0 1779033703) 1 3144134277) 2 1013904242) 3 2773480762) 4 1359893119) 5 2600822924) 6 528734635) 7 1541459225, PUnit.unit))
theorem o0 : az ll rO 5000 [] kE (aI g9) (Env.of (ba kJ () 0) []) = lw := by kernel_rfl
end Go.Proofs.YtnakjijahkaoaaaDoor
namespace Go.Proofs.YtnakjijahkaoaaaDoor
open Go Go.RowKit
theorem bG {Gl : gu} {f : FuncId} {S : bD} (h : aJ prog [] f S) : aJ prog Gl f S := ⟨h.can, h.all, fun O w vs x hO _ hx hp => h.does O w vs x hO (fun _ _ _ h => by cases h) hx hp⟩
def A1 : DataW Unit → List Int
 | .agg l => l.map fun | .lit (.int _ n) => n | _ => 0
 | _ => []
def g8 : List Int := A1 Rows.laid_posthouse_digest_keys
noncomputable abbrev gl : gu := [(0, ⟨.arr 64 (.int .u32), g8⟩)]
def zi (k : Int) : Int := IntKind.wrap .u64 ((BitVec.toNat (BitVec.ofInt (IntKind.bits .u64) (IntKind.wrap .u64 k) &&& BitVec.ofInt (IntKind.bits .u64) 31) : Nat) : Int)
def cK (x k : Int) : Int :=
 IntKind.wrap .u32 ((BitVec.toNat (BitVec.ofInt (IntKind.bits .u32) (IntKind.wrap .u32 (x * 2 ^ min (Int.toNat (zi k)) (IntKind.bits .u32))) |||
  BitVec.ofInt (IntKind.bits .u32) (Int.fdiv x (2 ^ min (Int.toNat (IntKind.wrap .u64 (32 - zi k))) (IntKind.bits .u32)))) : Nat) : Int)
theorem uJ (n : Int) : 0 ≤ IntKind.wrap .u64 n := by
 have : IntKind.wrap .u64 n = n % 18446744073709551616 := rfl
 rw [this]
 exact Int.emod_nonneg _ (by decide)
noncomputable abbrev cv : bD := ⟨gW, ii, fun x => (cK x.1 x.2.1, ()), fun _ => True, true⟩
theorem cu : aJ prog [] cr cv :=
 cJ (S := cv) n1 (fx := iq) ni (by kernel_rfl) (fun _ _ => trivial) (T := fun x => iA x.1 x.2.1) (fun x => lH x.1 x.2.1) fun O w0 x _ _ =>
  ⟨uJ _, uJ _, _, rfl, rfl⟩
def iO : List Int := [1779033703, 3144134277, 1013904242, 2773480762, 1359893119, 2600822924, 528734635, 1541459225]
noncomputable abbrev fv : bD := ⟨kJ, kb, fun _ => (iO, ()), fun _ => True, true⟩
theorem si : aJ prog [] fC fv :=
 cJ (S := fv) rT (fx := kE) qo (by kernel_rfl) (fun _ _ => trivial) (T := fun _ => lw) (fun _ => o0) fun O w0 x _ _ => ⟨_, rfl, rfl⟩
end Go.Proofs.YtnakjijahkaoaaaDoor
namespace Go.Proofs.YtnakjijahkaoaaaDoor
open Go Go.RowKit
noncomputable abbrev nL : Fx := { fn := kf, ann := { } }
noncomputable abbrev oJ : bl := { D := { T := bQ, F := [(cr, cv)], R := [], ovl := [] }, inl := [] }
noncomputable abbrev vu : bV := .data nH
theorem vX (h_bits_RotateLeft32 : aJ prog [] cr cv) : XOk prog oJ := xok (aW (bq bB be) h_bits_RotateLeft32) (by kernel_rfl) bj bw bC
noncomputable def o3 (x : den (Ty.int IntKind.u32)) (a : den af) (b : den af) (c : den (Ty.int IntKind.u32)) : ab := ab.req True (ab.req True (ab.ret (K.val (Ty.pair (Ty.int IntKind.u32) Ty.unit) (IntKind.wrap IntKind.u32 (↑(BitVec.toNat (BitVec.ofInt (IntKind.bits IntKind.u32) (IntKind.wrap IntKind.u32 (↑(BitVec.toNat (BitVec.ofInt (IntKind.bits IntKind.u32) (cK x (IntKind.wrap IntKind.i64 (sG a))) ^^^ BitVec.ofInt (IntKind.bits IntKind.u32) (cK x (IntKind.wrap IntKind.i64 (sG b))))) : Int)) ^^^ BitVec.ofInt (IntKind.bits IntKind.u32) c)) : Int), PUnit.unit))))
theorem rJ (x : den (Ty.int IntKind.u32)) (a : den af) (b : den af) (c : den (Ty.int IntKind.u32)) : az oJ vu 5000 [] nL (aI kf) (Env.of (ba nF (x, a, b, c, ()) 0) []) = o3 x a b c := by kernel_rfl
noncomputable abbrev c5 : Fx := { fn := cO, ann := { loops := [(3, { keep := [0, 3, 6, 7] })] } }
noncomputable abbrev fw : bl := { D := { T := bQ, F := [], R := [], ovl := [] }, inl := [] }
noncomputable abbrev lv : bV := .data gN
theorem hH : XOk prog fw := xok ((bq bB be)) (by kernel_rfl) bj bw bC
noncomputable def k8 (s : den Ty.str) : ab := ab.loop [] c5 (lp cO 3) [(0, K.val Ty.str s), (3, K.val (Ty.int IntKind.u32) 0), (6, K.val af (aD s)), (7, K.val af 0)] []
theorem oQ (s : den Ty.str) : az fw lv 5000 [] c5 (aI cO) (Env.of (ba kR (s, ()) 0) []) = k8 s := by kernel_rfl
noncomputable def ju (v0 : den Ty.str) (v3 : den (Ty.int IntKind.u32)) (v6 : den af) (v7 : den af) : Env := Env.of [(0, K.val Ty.str v0), (3, K.val (Ty.int IntKind.u32) v3), (6, K.val af v6), (7, K.val af v7)] []
noncomputable def pc (v0 : den Ty.str) (v3 : den (Ty.int IntKind.u32)) (v6 : den af) (v7 : den af) : ab := ab.ite (decide (v7 < v6)) (ab.req (ge0 8) (ab.req (inB v7 (aD v0)) (ab.loop [] c5 (lp cO 3) [(0, K.val Ty.str v0), (3, K.val (Ty.int IntKind.u32) (IntKind.wrap IntKind.u32 (↑(BitVec.toNat (BitVec.ofInt (IntKind.bits IntKind.u32) (IntKind.wrap IntKind.u32 (v3 * 2 ^ min (Int.toNat 8) (IntKind.bits IntKind.u32))) ||| BitVec.ofInt (IntKind.bits IntKind.u32) (IntKind.wrap IntKind.u32 (sAt v0 v7)))) : Int))), (6, K.val af v6), (7, K.val af (IntKind.wrap IntKind.i64 (v7 + 1)))] []))) (ab.ret (K.val (Ty.pair (Ty.int IntKind.u32) Ty.unit) (v3, PUnit.unit)))
theorem gO (v0 : den Ty.str) (v3 : den (Ty.int IntKind.u32)) (v6 : den af) (v7 : den af) : az fw lv 5000 [] c5 (lp cO 3) (ju v0 v3 v6 v7) = pc v0 v3 v6 v7 := by kernel_rfl
end Go.Proofs.YtnakjijahkaoaaaDoor
namespace Go.Proofs.YtnakjijahkaoaaaDoor
open Go Go.RowKit
def xE (a b : Int) : Int := IntKind.wrap .u32 ((BitVec.toNat (BitVec.ofInt (IntKind.bits .u32) a ^^^ BitVec.ofInt (IntKind.bits .u32) b) : Nat) : Int)
def As (a b : Int) : Int := IntKind.wrap .u32 ((BitVec.toNat (BitVec.ofInt (IntKind.bits .u32) a &&& BitVec.ofInt (IntKind.bits .u32) b) : Nat) : Int)
def lor (a b : Int) : Int := IntKind.wrap .u32 ((BitVec.toNat (BitVec.ofInt (IntKind.bits .u32) a ||| BitVec.ofInt (IntKind.bits .u32) b) : Nat) : Int)
def ku (a b : Int) : Int := IntKind.wrap .u32 (a + b)
def dq (x a b c : Int) : Int := xE (xE (cK x (IntKind.wrap .i64 (sG a))) (cK x (IntKind.wrap .i64 (sG b)))) c
noncomputable abbrev ir : bD := ⟨nF, nH, fun x => (dq x.1 x.2.1 x.2.2.1 x.2.2.2.1, ()), fun _ => True, true⟩
theorem fM : aJ prog [] gU ir :=
 cJ (S := ir) (vX cu) (fx := nL) ud (by kernel_rfl) (fun _ _ => trivial) (T := fun x => o3 x.1 x.2.1 x.2.2.1 x.2.2.2.1) (fun x => rJ x.1 x.2.1 x.2.2.1 x.2.2.2.1) fun O w0 x _ _ =>
  ⟨trivial, trivial, _, rfl, rfl⟩
def pt (n b : Int) : Int := lor (IntKind.wrap .u32 (n * 2 ^ min (Int.toNat 8) (IntKind.bits .u32))) (IntKind.wrap .u32 b)
def mO (s : ByteArray) : Int := (bh s).foldl pt 0
noncomputable abbrev fy : bD := ⟨kR, gN, fun x => (mO x.1, ()), fun x => ByteArray.size x.1 ≤ 1000000, false⟩
theorem n9 (s : ByteArray) : (bh s).length = s.size := by
 unfold bh
 rw [List.length_map, Array.length_toList]
 rfl
theorem Ay (s : ByteArray) {i : Nat} (hi : i < s.size) : (bh s)[i]'(by rw [n9]; exact hi) = sAt s (i : Nat) := by
 have hd : i < s.data.size := hi
 unfold bh sAt
 rw [List.getElem_map, Int.toNat_natCast, Array.getElem?_eq_getElem hd]
 rfl
theorem u3 (s : ByteArray) {i : Nat} : decide ((i : Int) < aD s) = decide (i < s.size) := by
 rw [Bool.eq_iff_iff, decide_eq_true_eq, decide_eq_true_eq]
 exact ⟨fun h => by have h : (i : Int) < (s.size : Int) := h; omega, fun h => by show (i : Int) < (s.size : Int); omega⟩
def qY (O : Nat → Prop) (w0 : World) (s : ByteArray) (hs : s.size ≤ 1000000) :=
 PLift.up <| gS (σ := Int) s.size (fun i n => n = ((bh s).take i).foldl pt 0)
  (fun i n => bM prog fw (Cx.base O w0) (eC prog O w0 gN fun y => y = (mO s, ())) [] c5 (lp cO 3) (ju s n (aD s) (i : Nat)))
  (fun i n hi hn ih => cz hH (gO s n _ _) (by
   refine ⟨fun _ => ⟨show (0 : Int) ≤ 8 by decide, ⟨Int.natCast_nonneg _, Int.ofNat_lt.2 hi⟩, ?_⟩, fun h => ?_⟩
   ·rw [kr hi (by omega)]
    refine ih (pt n (sAt s (i : Nat))) ?_
    have hi' : i < (bh s).length := by rw [n9]; exact hi
    rw [List.take_succ_eq_append_getElem hi', List.foldl_append, ← hn, Ay s hi]
    rfl
   ·rw [u3] at h
    exact absurd hi (of_decide_eq_false h)))
  (fun n hn => cz hH (gO s n _ _) (by
   refine ⟨fun h => ?_, fun _ => ⟨_, rfl, ?_⟩⟩
   ·rw [u3] at h
    exact absurd (of_decide_eq_true h) (Nat.lt_irrefl _)
   ·have hn : n = ((bh s).take s.size).foldl pt 0 := hn
    rw [List.take_of_length_le (by rw [n9]; exact Nat.le_refl _)] at hn
    rw [hn]; rfl))
theorem dY : aJ prog [] fD fy :=
 cJ (S := fy) hH (fx := c5) qv (by kernel_rfl) (fun h => by cases h) (T := fun x => k8 x.1) (fun x => oQ x.1) fun O w0 x _ hp =>
  (qY O w0 x.1 hp).down 0 0 (Nat.zero_le _) rfl
end Go.Proofs.YtnakjijahkaoaaaDoor
namespace Go.Proofs.YtnakjijahkaoaaaDoor
open Go Go.RowKit
noncomputable abbrev aT : Fx := { fn := aR, ann := { loops := [(4, { keep := [1, 2, 4, 5, 6, 16] }), (16, { keep := [2, 4, 6, 126] })] }, share := true, shareD := true }
noncomputable abbrev cq : bl := { D := { T := bQ, F := [(cr, cv), (gU, ir), (fD, fy)], R := [], ovl := [], G := gl }, inl := [] }
noncomputable abbrev ft : bV := .data dt
theorem cY (h_bits_RotateLeft32 : aJ prog gl cr cv) (h_digest_two : aJ prog gl gU ir) (h_digest_number : aJ prog gl fD fy) : XOk prog cq := xok (aW (aW (aW (bq bB be) h_digest_number) h_digest_two) h_bits_RotateLeft32) (by kernel_rfl) bj bw bC
noncomputable def iv (h : den ae) (s : den Ty.str) : ab := ab.loop [] aT (lp aR 4) [(1, K.val Ty.str s), (2, K.ptr 0 ae []), (4, K.ptr (0 + 1) ae []), (5, K.ptr (0 + 1 + 1) (Ty.arr 64 (Ty.int IntKind.u32)) []), (6, K.ptr (0 + 1 + 1 + 1) ae []), (16, K.val af 0)] [(0, Bx.cell ae h), (0 + 1, Bx.cell ae (zero ae)), (0 + 1 + 1, Bx.cell (Ty.arr 64 (Ty.int IntKind.u32)) (zero (Ty.arr 64 (Ty.int IntKind.u32)))), (0 + 1 + 1 + 1, Bx.cell ae h)]
theorem lA (h : den ae) (s : den Ty.str) : az cq ft 5000 [] aT (aI aR) (Env.of (ba ik (h, s, ()) 0) []) = iv h s := by kernel_rfl
noncomputable def dg (v1 : den Ty.str) (v16 : den af) (b0 : den ae) (b1 : den ae) (b2 : den (Ty.arr 64 (Ty.int IntKind.u32))) (b3 : den ae) : Env := Env.of [(1, K.val Ty.str v1), (2, K.ptr 0 ae []), (4, K.ptr (0 + 1) ae []), (5, K.ptr (0 + 1 + 1) (Ty.arr 64 (Ty.int IntKind.u32)) []), (6, K.ptr (0 + 1 + 1 + 1) ae []), (16, K.val af v16)] [(0, Bx.cell ae b0), (1, Bx.cell ae b1), (2, Bx.cell (Ty.arr 64 (Ty.int IntKind.u32)) b2), (3, Bx.cell ae b3)]
noncomputable def lG (v1 : den Ty.str) (v16 : den af) (b0 : den ae) (b1 : den ae) (b2 : den (Ty.arr 64 (Ty.int IntKind.u32))) (b3 : den ae) : ab := ab.ite (decide (v16 < 64)) (ab.ite (decide (v16 < 16)) (ab.req (aY (IntKind.wrap IntKind.i64 (4 * v16)) (IntKind.wrap IntKind.i64 (IntKind.wrap IntKind.i64 (4 * v16) + 4)) (aD v1)) (ab.req (ByteArray.size (bt v1 (IntKind.wrap IntKind.i64 (4 * v16)) (IntKind.wrap IntKind.i64 (IntKind.wrap IntKind.i64 (4 * v16) + 4))) ≤ 1000000) (ab.all (den (Ty.int IntKind.u32)) (fun (q6 : den (Ty.int IntKind.u32)) ↦ q6 = mO (bt v1 (IntKind.wrap IntKind.i64 (4 * v16)) (IntKind.wrap IntKind.i64 (IntKind.wrap IntKind.i64 (4 * v16) + 4)))) fun (q6 : den (Ty.int IntKind.u32)) ↦ ab.req (inB v16 (↑64 : Int)) (ab.req (inB 0 (↑8 : Int)) (ab.req (inB 4 (↑8 : Int)) (ab.all (den (Ty.int IntKind.u32)) (fun (q7 : den (Ty.int IntKind.u32)) ↦ q7 = el (Ty.int IntKind.u32) b3 0) fun (q7 : den (Ty.int IntKind.u32)) ↦ ab.all (den (Ty.int IntKind.u32)) (fun (q8 : den (Ty.int IntKind.u32)) ↦ q8 = el (Ty.int IntKind.u32) b3 4) fun (q8 : den (Ty.int IntKind.u32)) ↦ ab.req (inB 7 (↑8 : Int)) (ab.req True (ab.req True (ab.req (inB 6 (↑8 : Int)) (ab.req (inB 5 (↑8 : Int)) (ab.req (inB 6 (↑8 : Int)) (ab.req (inB v16 (↑64 : Int)) (ab.req (inB v16 (↑64 : Int)) (ab.all (den (Ty.int IntKind.u32)) (fun (q9 : den (Ty.int IntKind.u32)) ↦ q9 = cK q8 (-25)) fun (q9 : den (Ty.int IntKind.u32)) ↦ ab.all (den (Ty.int IntKind.u32)) (fun (q10 : den (Ty.int IntKind.u32)) ↦ q10 = dq q8 6 11 (cK q8 (-25))) fun (q10 : den (Ty.int IntKind.u32)) ↦ ab.all (den (Ty.int IntKind.u32)) (fun (q11 : den (Ty.int IntKind.u32)) ↦ q11 = IntKind.wrap IntKind.u32 (IntKind.wrap IntKind.u32 (IntKind.wrap IntKind.u32 (IntKind.wrap IntKind.u32 (el (Ty.int IntKind.u32) b3 7 + dq q8 6 11 (cK q8 (-25))) + IntKind.wrap IntKind.u32 (↑(BitVec.toNat (BitVec.ofInt (IntKind.bits IntKind.u32) (el (Ty.int IntKind.u32) b3 6) ^^^ BitVec.ofInt (IntKind.bits IntKind.u32) (IntKind.wrap IntKind.u32 (↑(BitVec.toNat (BitVec.ofInt (IntKind.bits IntKind.u32) q8 &&& BitVec.ofInt (IntKind.bits IntKind.u32) (IntKind.wrap IntKind.u32 (↑(BitVec.toNat (BitVec.ofInt (IntKind.bits IntKind.u32) (el (Ty.int IntKind.u32) b3 5) ^^^ BitVec.ofInt (IntKind.bits IntKind.u32) (el (Ty.int IntKind.u32) b3 6))) : Int)))) : Int)))) : Int)) + el (Ty.int IntKind.u32) g8 v16) + el (Ty.int IntKind.u32) (gi (Ty.int IntKind.u32) b2 v16 q6) v16)) fun (q11 : den (Ty.int IntKind.u32)) ↦ ab.req (inB 1 (↑8 : Int)) (ab.req (inB 2 (↑8 : Int)) (ab.req (inB 1 (↑8 : Int)) (ab.req True (ab.req True (ab.req (inB 1 (↑8 : Int)) (ab.req (inB 2 (↑8 : Int)) (ab.req (inB 3 (↑8 : Int)) (ab.req (inB 5 (↑8 : Int)) (ab.req (inB 6 (↑8 : Int)) (ab.all (den (Ty.int IntKind.u32)) (fun (q12 : den (Ty.int IntKind.u32)) ↦ q12 = cK q7 (-22)) fun (q12 : den (Ty.int IntKind.u32)) ↦ ab.all (den (Ty.int IntKind.u32)) (fun (q13 : den (Ty.int IntKind.u32)) ↦ q13 = dq q7 2 13 (cK q7 (-22))) fun (q13 : den (Ty.int IntKind.u32)) ↦ ab.loop [] aT (lp aR 4) [(1, K.val Ty.str v1), (2, K.ptr 0 ae []), (4, K.ptr (0 + 1) ae []), (5, K.ptr (0 + 1 + 1) (Ty.arr 64 (Ty.int IntKind.u32)) []), (6, K.ptr (0 + 1 + 1 + 1) ae []), (16, K.val af (IntKind.wrap IntKind.i64 (v16 + 1)))] [(0, Bx.cell ae b0), (0 + 1, Bx.cell ae b1), (0 + 1 + 1, Bx.cell (Ty.arr 64 (Ty.int IntKind.u32)) (gi (Ty.int IntKind.u32) b2 v16 q6)), (0 + 1 + 1 + 1, Bx.cell ae (List.set (List.set (List.set (List.set (List.set (List.set (List.set (List.set (List.replicate 8 (zero (Ty.int IntKind.u32))) 0 (IntKind.wrap IntKind.u32 (IntKind.wrap IntKind.u32 (q11 + dq q7 2 13 (cK q7 (-22))) + IntKind.wrap IntKind.u32 (↑(BitVec.toNat (BitVec.ofInt (IntKind.bits IntKind.u32) (IntKind.wrap IntKind.u32 (↑(BitVec.toNat (BitVec.ofInt (IntKind.bits IntKind.u32) q7 &&& BitVec.ofInt (IntKind.bits IntKind.u32) (el (Ty.int IntKind.u32) b3 1))) : Int)) ||| BitVec.ofInt (IntKind.bits IntKind.u32) (IntKind.wrap IntKind.u32 (↑(BitVec.toNat (BitVec.ofInt (IntKind.bits IntKind.u32) (el (Ty.int IntKind.u32) b3 2) &&& BitVec.ofInt (IntKind.bits IntKind.u32) (IntKind.wrap IntKind.u32 (↑(BitVec.toNat (BitVec.ofInt (IntKind.bits IntKind.u32) q7 ||| BitVec.ofInt (IntKind.bits IntKind.u32) (el (Ty.int IntKind.u32) b3 1))) : Int)))) : Int)))) : Int)))) 1 q7) 2 (el (Ty.int IntKind.u32) b3 1)) 3 (el (Ty.int IntKind.u32) b3 2)) 4 (IntKind.wrap IntKind.u32 (el (Ty.int IntKind.u32) b3 3 + q11))) 5 q8) 6 (el (Ty.int IntKind.u32) b3 5)) 7 (el (Ty.int IntKind.u32) b3 6)))])))))))))))))))))))))))) (ab.req (inB (IntKind.wrap IntKind.i64 (v16 - 15)) (↑64 : Int)) (ab.req (inB (IntKind.wrap IntKind.i64 (v16 - 2)) (↑64 : Int)) (ab.all (den (Ty.int IntKind.u32)) (fun (q6 : den (Ty.int IntKind.u32)) ↦ q6 = el (Ty.int IntKind.u32) b2 (IntKind.wrap IntKind.i64 (v16 - 15))) fun (q6 : den (Ty.int IntKind.u32)) ↦ ab.all (den (Ty.int IntKind.u32)) (fun (q7 : den (Ty.int IntKind.u32)) ↦ q7 = el (Ty.int IntKind.u32) b2 (IntKind.wrap IntKind.i64 (v16 - 2))) fun (q7 : den (Ty.int IntKind.u32)) ↦ ab.req (ge0 10) (ab.req True (ab.req (inB (IntKind.wrap IntKind.i64 (v16 - 7)) (↑64 : Int)) (ab.req (ge0 3) (ab.req True (ab.req (inB (IntKind.wrap IntKind.i64 (v16 - 16)) (↑64 : Int)) (ab.req (inB v16 (↑64 : Int)) (ab.all (den (Ty.int IntKind.u32)) (fun (q8 : den (Ty.int IntKind.u32)) ↦ q8 = dq q7 17 19 (Int.fdiv q7 (2 ^ min (Int.toNat 10) (IntKind.bits IntKind.u32)))) fun (q8 : den (Ty.int IntKind.u32)) ↦ ab.all (den (Ty.int IntKind.u32)) (fun (q9 : den (Ty.int IntKind.u32)) ↦ q9 = dq q6 7 18 (Int.fdiv q6 (2 ^ min (Int.toNat 3) (IntKind.bits IntKind.u32)))) fun (q9 : den (Ty.int IntKind.u32)) ↦ ab.req (inB 0 (↑8 : Int)) (ab.req (inB 4 (↑8 : Int)) (ab.all (den (Ty.int IntKind.u32)) (fun (q10 : den (Ty.int IntKind.u32)) ↦ q10 = el (Ty.int IntKind.u32) b3 0) fun (q10 : den (Ty.int IntKind.u32)) ↦ ab.all (den (Ty.int IntKind.u32)) (fun (q11 : den (Ty.int IntKind.u32)) ↦ q11 = el (Ty.int IntKind.u32) b3 4) fun (q11 : den (Ty.int IntKind.u32)) ↦ ab.req (inB 7 (↑8 : Int)) (ab.req True (ab.req True (ab.req (inB 6 (↑8 : Int)) (ab.req (inB 5 (↑8 : Int)) (ab.req (inB 6 (↑8 : Int)) (ab.req (inB v16 (↑64 : Int)) (ab.req (inB v16 (↑64 : Int)) (ab.all (den (Ty.int IntKind.u32)) (fun (q12 : den (Ty.int IntKind.u32)) ↦ q12 = cK q11 (-25)) fun (q12 : den (Ty.int IntKind.u32)) ↦ ab.all (den (Ty.int IntKind.u32)) (fun (q13 : den (Ty.int IntKind.u32)) ↦ q13 = dq q11 6 11 (cK q11 (-25))) fun (q13 : den (Ty.int IntKind.u32)) ↦ ab.all (den (Ty.int IntKind.u32)) (fun (q14 : den (Ty.int IntKind.u32)) ↦ q14 = IntKind.wrap IntKind.u32 (IntKind.wrap IntKind.u32 (IntKind.wrap IntKind.u32 (IntKind.wrap IntKind.u32 (el (Ty.int IntKind.u32) b3 7 + dq q11 6 11 (cK q11 (-25))) + IntKind.wrap IntKind.u32 (↑(BitVec.toNat (BitVec.ofInt (IntKind.bits IntKind.u32) (el (Ty.int IntKind.u32) b3 6) ^^^ BitVec.ofInt (IntKind.bits IntKind.u32) (IntKind.wrap IntKind.u32 (↑(BitVec.toNat (BitVec.ofInt (IntKind.bits IntKind.u32) q11 &&& BitVec.ofInt (IntKind.bits IntKind.u32) (IntKind.wrap IntKind.u32 (↑(BitVec.toNat (BitVec.ofInt (IntKind.bits IntKind.u32) (el (Ty.int IntKind.u32) b3 5) ^^^ BitVec.ofInt (IntKind.bits IntKind.u32) (el (Ty.int IntKind.u32) b3 6))) : Int)))) : Int)))) : Int)) + el (Ty.int IntKind.u32) g8 v16) + el (Ty.int IntKind.u32) (gi (Ty.int IntKind.u32) b2 v16 (IntKind.wrap IntKind.u32 (IntKind.wrap IntKind.u32 (IntKind.wrap IntKind.u32 (dq q7 17 19 (Int.fdiv q7 (2 ^ min (Int.toNat 10) (IntKind.bits IntKind.u32))) + el (Ty.int IntKind.u32) b2 (IntKind.wrap IntKind.i64 (v16 - 7))) + dq q6 7 18 (Int.fdiv q6 (2 ^ min (Int.toNat 3) (IntKind.bits IntKind.u32)))) + el (Ty.int IntKind.u32) b2 (IntKind.wrap IntKind.i64 (v16 - 16))))) v16)) fun (q14 : den (Ty.int IntKind.u32)) ↦ ab.req (inB 1 (↑8 : Int)) (ab.req (inB 2 (↑8 : Int)) (ab.req (inB 1 (↑8 : Int)) (ab.req True (ab.req True (ab.req (inB 1 (↑8 : Int)) (ab.req (inB 2 (↑8 : Int)) (ab.req (inB 3 (↑8 : Int)) (ab.req (inB 5 (↑8 : Int)) (ab.req (inB 6 (↑8 : Int)) (ab.all (den (Ty.int IntKind.u32)) (fun (q15 : den (Ty.int IntKind.u32)) ↦ q15 = cK q10 (-22)) fun (q15 : den (Ty.int IntKind.u32)) ↦ ab.all (den (Ty.int IntKind.u32)) (fun (q16 : den (Ty.int IntKind.u32)) ↦ q16 = dq q10 2 13 (cK q10 (-22))) fun (q16 : den (Ty.int IntKind.u32)) ↦ ab.loop [] aT (lp aR 4) [(1, K.val Ty.str v1), (2, K.ptr 0 ae []), (4, K.ptr (0 + 1) ae []), (5, K.ptr (0 + 1 + 1) (Ty.arr 64 (Ty.int IntKind.u32)) []), (6, K.ptr (0 + 1 + 1 + 1) ae []), (16, K.val af (IntKind.wrap IntKind.i64 (v16 + 1)))] [(0, Bx.cell ae b0), (0 + 1, Bx.cell ae b1), (0 + 1 + 1, Bx.cell (Ty.arr 64 (Ty.int IntKind.u32)) (gi (Ty.int IntKind.u32) b2 v16 (IntKind.wrap IntKind.u32 (IntKind.wrap IntKind.u32 (IntKind.wrap IntKind.u32 (dq q7 17 19 (Int.fdiv q7 (2 ^ min (Int.toNat 10) (IntKind.bits IntKind.u32))) + el (Ty.int IntKind.u32) b2 (IntKind.wrap IntKind.i64 (v16 - 7))) + dq q6 7 18 (Int.fdiv q6 (2 ^ min (Int.toNat 3) (IntKind.bits IntKind.u32)))) + el (Ty.int IntKind.u32) b2 (IntKind.wrap IntKind.i64 (v16 - 16)))))), (0 + 1 + 1 + 1, Bx.cell ae (List.set (List.set (List.set (List.set (List.set (List.set (List.set (List.set (List.replicate 8 (zero (Ty.int IntKind.u32))) 0 (IntKind.wrap IntKind.u32 (IntKind.wrap IntKind.u32 (q14 + dq q10 2 13 (cK q10 (-22))) + IntKind.wrap IntKind.u32 (↑(BitVec.toNat (BitVec.ofInt (IntKind.bits IntKind.u32) (IntKind.wrap IntKind.u32 (↑(BitVec.toNat (BitVec.ofInt (IntKind.bits IntKind.u32) q10 &&& BitVec.ofInt (IntKind.bits IntKind.u32) (el (Ty.int IntKind.u32) b3 1))) : Int)) ||| BitVec.ofInt (IntKind.bits IntKind.u32) (IntKind.wrap IntKind.u32 (↑(BitVec.toNat (BitVec.ofInt (IntKind.bits IntKind.u32) (el (Ty.int IntKind.u32) b3 2) &&& BitVec.ofInt (IntKind.bits IntKind.u32) (IntKind.wrap IntKind.u32 (↑(BitVec.toNat (BitVec.ofInt (IntKind.bits IntKind.u32) q10 ||| BitVec.ofInt (IntKind.bits IntKind.u32) (el (Ty.int IntKind.u32) b3 1))) : Int)))) : Int)))) : Int)))) 1 q10) 2 (el (Ty.int IntKind.u32) b3 1)) 3 (el (Ty.int IntKind.u32) b3 2)) 4 (IntKind.wrap IntKind.u32 (el (Ty.int IntKind.u32) b3 3 + q14))) 5 q11) 6 (el (Ty.int IntKind.u32) b3 5)) 7 (el (Ty.int IntKind.u32) b3 6)))]))))))))))))))))))))))))))))))) (ab.loop [] aT (lp aR 16) [(2, K.ptr 0 ae []), (4, K.ptr (0 + 1) ae []), (6, K.ptr (0 + 1 + 1) ae []), (126, K.val af 0)] [(0, Bx.cell ae b0), (0 + 1, Bx.cell ae b1), (0 + 1 + 1, Bx.cell ae b3)])
theorem fA (v1 : den Ty.str) (v16 : den af) (b0 : den ae) (b1 : den ae) (b2 : den (Ty.arr 64 (Ty.int IntKind.u32))) (b3 : den ae) : az cq ft 5000 [] aT (lp aR 4) (dg v1 v16 b0 b1 b2 b3) = lG v1 v16 b0 b1 b2 b3 := by kernel_rfl
noncomputable def gh (v126 : den af) (b0 : den ae) (b1 : den ae) (b2 : den ae) : Env := Env.of [(2, K.ptr 0 ae []), (4, K.ptr (0 + 1) ae []), (6, K.ptr (0 + 1 + 1) ae []), (126, K.val af v126)] [(0, Bx.cell ae b0), (1, Bx.cell ae b1), (2, Bx.cell ae b2)]
noncomputable def kS (v126 : den af) (b0 : den ae) (b1 : den ae) (b2 : den ae) : ab := ab.ite (decide (v126 < 8)) (ab.req (inB v126 (↑8 : Int)) (ab.req (inB v126 (↑8 : Int)) (ab.req (inB v126 (↑8 : Int)) (ab.loop [] aT (lp aR 16) [(2, K.ptr 0 ae []), (4, K.ptr (0 + 1) ae []), (6, K.ptr (0 + 1 + 1) ae []), (126, K.val af (IntKind.wrap IntKind.i64 (v126 + 1)))] [(0, Bx.cell ae (gi (Ty.int IntKind.u32) b0 v126 (IntKind.wrap IntKind.u32 (el (Ty.int IntKind.u32) b0 v126 + el (Ty.int IntKind.u32) b2 v126)))), (0 + 1, Bx.cell ae b1), (0 + 1 + 1, Bx.cell ae b2)])))) (ab.ret (K.val (Ty.pair ae Ty.unit) (b0, PUnit.unit)))
theorem fe (v126 : den af) (b0 : den ae) (b1 : den ae) (b2 : den ae) : az cq ft 5000 [] aT (lp aR 16) (gh v126 b0 b1 b2) = kS v126 b0 b1 b2 := by kernel_rfl
end Go.Proofs.YtnakjijahkaoaaaDoor
namespace Go.Proofs.YtnakjijahkaoaaaDoor
open Go Go.RowKit
abbrev bY (l : List Int) (n : Int) : Int := el (.int .u32) l n
def AJ (x : Int) (k : Int) : Int := Int.fdiv x (2 ^ min (Int.toNat k) (IntKind.bits .u32))
def Bw (k : Int) (wt : Int) (v : List Int) : Int :=
 ku (ku (ku (ku (bY v 7) (dq (bY v 4) 6 11 (cK (bY v 4) (-25)))) (xE (bY v 6) (As (bY v 4) (xE (bY v 5) (bY v 6))))) k) wt
def BH (v : List Int) : Int := lor (As (bY v 0) (bY v 1)) (As (bY v 2) (lor (bY v 0) (bY v 1)))
def ovV (k : Int) (wt : Int) (v : List Int) : List Int :=
 List.set (List.set (List.set (List.set (List.set (List.set (List.set (List.set (List.replicate 8 (zero (.int .u32))) 0
  (ku (ku (Bw k wt v) (dq (bY v 0) 2 13 (cK (bY v 0) (-22)))) (BH v))) 1 (bY v 0)) 2 (bY v 1)) 3 (bY v 2)) 4 (ku (bY v 3) (Bw k wt v))) 5 (bY v 4)) 6 (bY v 5)) 7 (bY v 6)
def ovB (s : ByteArray) (t : Int) : Int := mO (bt s (IntKind.wrap .i64 (4 * t)) (IntKind.wrap .i64 (IntKind.wrap .i64 (4 * t) + 4)))
def ovN (w : List Int) (t : Int) : Int :=
 ku (ku (ku (dq (bY w (IntKind.wrap .i64 (t - 2))) 17 19 (AJ (bY w (IntKind.wrap .i64 (t - 2))) 10)) (bY w (IntKind.wrap .i64 (t - 7))))
  (dq (bY w (IntKind.wrap .i64 (t - 15))) 7 18 (AJ (bY w (IntKind.wrap .i64 (t - 15))) 3))) (bY w (IntKind.wrap .i64 (t - 16)))
def ovW (s : ByteArray) (w : List Int) (t : Int) : List Int := if t < 16 then gi (.int .u32) w t (ovB s t) else gi (.int .u32) w t (ovN w t)
def ovS (s : ByteArray) (v : List Int) : Nat → List Int × List Int
 | 0 => (zero (.arr 64 (.int .u32)), v)
 | i + 1 =>
  let p := ovS s v i
  let w := ovW s p.1 i
  (w, ovV (bY g8 i) (bY w i) p.2)
def ovA (h v : List Int) : Nat → List Int
 | 0 => h
 | i + 1 => gi (.int .u32) (ovA h v i) i (ku (bY (ovA h v i) i) (bY v i))
def ob (h : List Int) (s : ByteArray) : List Int := ovA h (ovS s h 64).2 8
noncomputable abbrev dG : bD := ⟨ik, dt, fun x => (ob x.1 x.2.1, ()), fun x => ByteArray.size x.2.1 = 64, false⟩
def kT (O : Nat → Prop) (w0 : World) (h v1 v : List Int) (out : List Int) (ho : out = ovA h v 8) :=
 PLift.up <| gS (σ := List Int) 8 (fun i b => b = ovA h v i)
  (fun i b => bM prog cq (Cx.base O w0) (eC prog O w0 dt fun y => y = (out, ())) [] aT (lp aR 16) (gh (i : Nat) b v1 v))
  (fun i b hi hb ih => cz (cY (bG cu) (bG fM) (bG dY)) (fe _ b v1 v) (by
   refine ⟨fun _ => ⟨⟨Int.natCast_nonneg _, Int.ofNat_lt.2 hi⟩, ⟨Int.natCast_nonneg _, Int.ofNat_lt.2 hi⟩, ⟨Int.natCast_nonneg _, Int.ofNat_lt.2 hi⟩, ?_⟩, fun h => ?_⟩
   ·rw [kr hi (by omega)]
    refine ih _ ?_
    rw [hb]
    rfl
   ·exact absurd (Int.ofNat_lt.2 hi) (of_decide_eq_false h)))
  (fun b hb => cz (cY (bG cu) (bG fM) (bG dY)) (fe _ b v1 v) (by
   refine ⟨fun h => ?_, fun _ => ⟨_, rfl, ?_⟩⟩
   ·exact absurd (of_decide_eq_true h) (by decide)
   ·show (b, ()) = (out, ())
    rw [hb, ho]))
theorem yT (s : ByteArray) (a b : Int) : (bt s a b).size ≤ s.size := by
 unfold bt; rw [ByteArray.size_extract]; omega
theorem wr4 {i : Nat} (h : i < 16) : IntKind.wrap .i64 (4 * (i : Int)) = 4 * (i : Int) ∧ IntKind.wrap .i64 (IntKind.wrap .i64 (4 * (i : Int)) + 4) = 4 * (i : Int) + 4 := by
 have h1 : IntKind.wrap .i64 (4 * (i : Int)) = 4 * (i : Int) := gP (by omega)
 refine ⟨h1, ?_⟩
 rw [h1]
 exact gP (by omega)
theorem wrm {i : Nat} (k : Int) (h : i < 64) (h0 : 0 ≤ k) (h1 : k ≤ i) : inB (IntKind.wrap .i64 ((i : Int) - k)) ((64 : Nat) : Int) := by
 rw [gP (by omega)]
 exact ⟨by omega, by omega⟩
theorem dB {a b : Int} (h : decide (0 ≤ a ∧ a < b) = true := by rfl) : inB a b := (of_decide_eq_true h : 0 ≤ a ∧ a < b)
theorem d0 {a : Int} (h : decide (0 ≤ a) = true := by rfl) : ge0 a := (of_decide_eq_true h : 0 ≤ a)
def lD (O : Nat → Prop) (w0 : World) (h b1 : List Int) (s : ByteArray) (hs : s.size = 64) :=
 PLift.up <| gS (σ := List Int × List Int) 64 (fun i b => b = ovS s h i)
  (fun i b => bM prog cq (Cx.base O w0) (eC prog O w0 dt fun y => y = (ob h s, ())) [] aT (lp aR 4) (dg s (i : Nat) h b1 b.1 b.2))
  (fun i b hi hb ih => cz (cY (bG cu) (bG fM) (bG dY)) (fA s _ h b1 b.1 b.2) (by
   have hB : inB (i : Int) ((64 : Nat) : Int) := ⟨Int.natCast_nonneg _, Int.ofNat_lt.2 hi⟩
   refine ⟨fun _ => ⟨fun hl => ?_, fun hl => ?_⟩, fun h => ?_⟩
   ·have hl : i < 16 := Int.ofNat_lt.1 (of_decide_eq_true hl)
    refine ⟨?_, Nat.le_trans (yT _ _ _) (by rw [hs]; decide), bo ⟨hB, dB, dB, bo <| bo ⟨dB, trivial, trivial, dB, dB, dB, hB, hB, bo <| bo <| bo ⟨dB, dB, dB, trivial, trivial, dB, dB, dB, dB, dB, bo <| bo ?_⟩⟩⟩⟩
    ·rw [(wr4 hl).2, (wr4 hl).1]
     refine ⟨by omega, by omega, ?_⟩
     show 4 * (i : Int) + 4 ≤ (s.size : Int)
     rw [hs]; omega
    ·have hw : IntKind.wrap .i64 ((i : Int) + 1) = ((i + 1 : Nat) : Int) := kr hi (by omega)
     show bM _ _ _ _ _ _ _ (dg s (IntKind.wrap .i64 ((i : Int) + 1)) h b1 _ _)
     rw [hw]
     refine ih (_, _) ?_
     rw [hb]
     have hlI : (i : Int) < 16 := Int.ofNat_lt.2 hl
     show _ = (ovW s (ovS s h i).1 i, ovV (bY g8 i) (bY (ovW s (ovS s h i).1 i) i) (ovS s h i).2)
     unfold ovW
     rw [if_pos hlI]
     rfl
   ·have hl : ¬ i < 16 := fun h => of_decide_eq_false hl (Int.ofNat_lt.2 h)
    refine ⟨wrm 15 hi (by decide) (by omega), wrm 2 hi (by decide) (by omega), bo <| bo ⟨d0, trivial, wrm 7 hi (by decide) (by omega), d0, trivial, wrm 16 hi (by decide) (by omega), hB, bo <| bo ⟨dB, dB, bo <| bo ⟨dB, trivial, trivial, dB, dB, dB, hB, hB, bo <| bo <| bo ⟨dB, dB, dB, trivial, trivial, dB, dB, dB, dB, dB, bo <| bo ?_⟩⟩⟩⟩⟩
    have hw : IntKind.wrap .i64 ((i : Int) + 1) = ((i + 1 : Nat) : Int) := kr hi (by omega)
    show bM _ _ _ _ _ _ _ (dg s (IntKind.wrap .i64 ((i : Int) + 1)) h b1 _ _)
    rw [hw]
    refine ih (_, _) ?_
    rw [hb]
    have hlI : ¬ (i : Int) < 16 := fun h => hl (Int.ofNat_lt.1 h)
    show _ = (ovW s (ovS s h i).1 i, ovV (bY g8 i) (bY (ovW s (ovS s h i).1 i) i) (ovS s h i).2)
    unfold ovW
    rw [if_neg hlI]
    rfl
   ·exact absurd (Int.ofNat_lt.2 hi) (of_decide_eq_false h)))
  (fun b hb => cz (cY (bG cu) (bG fM) (bG dY)) (fA s _ h b1 b.1 b.2) (by
   refine ⟨fun h => ?_, fun _ => ?_⟩
   ·exact absurd (of_decide_eq_true h) (by decide)
   ·exact (kT O w0 h b1 b.2 _ (by rw [hb]; rfl)).down 0 h (Nat.zero_le _) rfl))
theorem nW : aJ prog gl dJ dG :=
 cJ (S := dG) (cY (bG cu) (bG fM) (bG dY)) (fx := aT) mU (by kernel_rfl) (fun h => by cases h) (T := fun x => iv x.1 x.2.1) (fun x => lA x.1 x.2.1) fun O w0 x _ hp =>
  (lD O w0 x.1 _ x.2.1 hp).down 0 (_, _) (Nat.zero_le _) rfl
end Go.Proofs.YtnakjijahkaoaaaDoor
namespace Go.Proofs
open Go.Shelf
def Tryd.lays156_ren : Go.Shelf.Ren := ⟨fun | 156 => 47 | 165 => 64 | 166 => 65 | 169 => 66 | 240 => 78 | 241 => 79 | 276 => 85 | 277 => 86 | n => n, fun | 31 => 79 | 9 => 9 | 3 => 3 | 4 => 4 | 0 => 0 | 20 => 20 | 72 => 116 | 76 => 120 | 70 => 114 | 37 => 64 | 75 => 119 | 127 => 132 | 164 => 138 | 5 => 5 | 80 => 122 | n => n, fun | n => n⟩
theorem Tryd.lays156 : Go.Proofs.Lays.n156 Tryd.prog Tryd.lays156_ren := {
 mixed := by kernel_rfl
 f156 := Tryd.func47.trans (congrArg some (by kernel_rfl))
 f165 := Tryd.func64.trans (congrArg some (by kernel_rfl))
 f166 := Tryd.func65.trans (congrArg some (by kernel_rfl))
 f169 := Tryd.func66.trans (congrArg some (by kernel_rfl))
 f240 := Tryd.func78.trans (congrArg some (by kernel_rfl))
 f241 := Tryd.func79.trans (congrArg some (by kernel_rfl))
 f276 := Tryd.func85.trans (congrArg some (by kernel_rfl))
 f277 := Tryd.func86.trans (congrArg some (by kernel_rfl))
 t0 := Tryd.underlying0
 a0 := Tryd.isAgg0
 z0 := Tryd.sizeOf0
 v0 := Tryd.zeroValue0
 t3 := Tryd.underlying3
 a3 := Tryd.isAgg3
 z3 := Tryd.sizeOf3
 v3 := Tryd.zeroValue3
 t4 := Tryd.underlying4
 a4 := Tryd.isAgg4
 z4 := Tryd.sizeOf4
 v4 := Tryd.zeroValue4
 t9 := Tryd.underlying9
 a9 := Tryd.isAgg9
 z9 := Tryd.sizeOf9
 v9 := Tryd.zeroValue9
 t20 := Tryd.underlying20
 a20 := Tryd.isAgg20
 z20 := Tryd.sizeOf20
 v20 := Tryd.zeroValue20
 t31 := Tryd.underlying79
 a31 := Tryd.isAgg79
 z31 := Tryd.sizeOf79
 v31 := Tryd.zeroValue79
 t37 := Tryd.underlying64
 a37 := Tryd.isAgg64
 z37 := Tryd.sizeOf64
 v37 := Tryd.zeroValue64
 t70 := Tryd.underlying114
 a70 := Tryd.isAgg114
 z70 := Tryd.sizeOf114
 v70 := Tryd.zeroValue114
 t72 := Tryd.underlying116
 a72 := Tryd.isAgg116
 z72 := Tryd.sizeOf116
 v72 := Tryd.zeroValue116
 t75 := Tryd.underlying119
 a75 := Tryd.isAgg119
 z75 := Tryd.sizeOf119
 v75 := Tryd.zeroValue119
 t76 := Tryd.underlying120
 a76 := Tryd.isAgg120
 z76 := Tryd.sizeOf120
 v76 := Tryd.zeroValue120
 t127 := Tryd.underlying132
 a127 := Tryd.isAgg132
 z127 := Tryd.sizeOf132
 v127 := Tryd.zeroValue132
 t164 := Tryd.underlying138
 a164 := Tryd.isAgg138
 z164 := Tryd.sizeOf138
 v164 := Tryd.zeroValue138 }
theorem Tryd.Builder_Extra_156 : Builder.Extra Tryd.prog Tryd.lays156_ren := {
 sizeBuilder := by kernel_rfl
 liesBuilder := by kernel_rfl
 t5 := Tryd.underlying5
 a5 := Tryd.isAgg5
 z5 := Tryd.sizeOf5
 v5 := Tryd.zeroValue5
 infoByte := by kernel_rfl
 cellsByte := by kernel_rfl
 sizeByte := by kernel_rfl
 neB5 := by decide }
open Go.RowKit in
theorem Tryd.strings_Join_none (a : Option Addr) (c : Nat) (sep : ByteArray) (w : World) :
    Calls Tryd.prog 47 #[.slice a 0 c, .string sep] w fun e w' => e = .returned (.string ⟨#[]⟩) ∧ w' = w := Any.strings_Join_none Tryd.lays156 Tryd.Builder_Extra_156 a c sep w
open Go.RowKit in
theorem Tryd.strings_Join (bk o c : Nat) (xs : List ByteArray) (sep : ByteArray) (w : World) (hcells : ∀ (j : Nat) x, xs[j]? = some x → w.cell? ⟨bk, o + j, none⟩ = some (.string x)) (hbk : bk < w.heap.size) (hN : xs.length ≤ 140737488355328) (hcap : xs.length ≤ c) (hlen : (Lib.join (xs.map (·.data.toList)) sep.data.toList).length ≤ 140737488355328) :
    Calls Tryd.prog 47 #[.slice (some ⟨bk, o, none⟩) xs.length c, .string sep] w fun e w' => e = .returned (.string ⟨(Lib.join (xs.map (·.data.toList)) sep.data.toList).toArray⟩) ∧ Below w.heap.size w w' := Any.strings_Join Tryd.lays156 Tryd.Builder_Extra_156 bk o c xs sep w hcells hbk hN hcap hlen
def Tryd.lays105_ren : Go.Shelf.Ren := ⟨fun | 105 => 62 | 212 => 75 | 99 => 76 | 165 => 64 | 166 => 65 | 170 => 77 | 169 => 66 | 263 => 82 | 264 => 83 | 206 => 84 | 240 => 78 | 241 => 79 | 276 => 85 | 277 => 86 | n => n, fun | 9 => 9 | 3 => 3 | 4 => 4 | 20 => 20 | 0 => 0 | 46 => 111 | 109 => 128 | 5 => 5 | 72 => 116 | 76 => 120 | 51 => 86 | 146 => 134 | 53 => 110 | 148 => 136 | 70 => 114 | 37 => 64 | 75 => 119 | 127 => 132 | 164 => 138 | 80 => 122 | n => n, fun | n => n⟩
theorem Tryd.lays105 : Go.Proofs.Lays.n105 Tryd.prog Tryd.lays105_ren := {
 mixed := by kernel_rfl
 f99 := Tryd.func76.trans (congrArg some (by kernel_rfl))
 f105 := Tryd.func62.trans (congrArg some (by kernel_rfl))
 f165 := Tryd.func64.trans (congrArg some (by kernel_rfl))
 f166 := Tryd.func65.trans (congrArg some (by kernel_rfl))
 f169 := Tryd.func66.trans (congrArg some (by kernel_rfl))
 f170 := Tryd.func77.trans (congrArg some (by kernel_rfl))
 f206 := Tryd.func84.trans (congrArg some (by kernel_rfl))
 f212 := Tryd.func75.trans (congrArg some (by kernel_rfl))
 f240 := Tryd.func78.trans (congrArg some (by kernel_rfl))
 f241 := Tryd.func79.trans (congrArg some (by kernel_rfl))
 f263 := Tryd.func82.trans (congrArg some (by kernel_rfl))
 f264 := Tryd.func83.trans (congrArg some (by kernel_rfl))
 f276 := Tryd.func85.trans (congrArg some (by kernel_rfl))
 f277 := Tryd.func86.trans (congrArg some (by kernel_rfl))
 t0 := Tryd.underlying0
 a0 := Tryd.isAgg0
 z0 := Tryd.sizeOf0
 v0 := Tryd.zeroValue0
 t3 := Tryd.underlying3
 a3 := Tryd.isAgg3
 z3 := Tryd.sizeOf3
 v3 := Tryd.zeroValue3
 t4 := Tryd.underlying4
 a4 := Tryd.isAgg4
 z4 := Tryd.sizeOf4
 v4 := Tryd.zeroValue4
 t5 := Tryd.underlying5
 a5 := Tryd.isAgg5
 z5 := Tryd.sizeOf5
 v5 := Tryd.zeroValue5
 t9 := Tryd.underlying9
 a9 := Tryd.isAgg9
 z9 := Tryd.sizeOf9
 v9 := Tryd.zeroValue9
 t20 := Tryd.underlying20
 a20 := Tryd.isAgg20
 z20 := Tryd.sizeOf20
 v20 := Tryd.zeroValue20
 t37 := Tryd.underlying64
 a37 := Tryd.isAgg64
 z37 := Tryd.sizeOf64
 v37 := Tryd.zeroValue64
 t46 := Tryd.underlying111
 a46 := Tryd.isAgg111
 z46 := Tryd.sizeOf111
 v46 := Tryd.zeroValue111
 t51 := Tryd.underlying86
 a51 := Tryd.isAgg86
 z51 := Tryd.sizeOf86
 v51 := Tryd.zeroValue86
 t53 := Tryd.underlying110
 a53 := Tryd.isAgg110
 z53 := Tryd.sizeOf110
 v53 := Tryd.zeroValue110
 t70 := Tryd.underlying114
 a70 := Tryd.isAgg114
 z70 := Tryd.sizeOf114
 v70 := Tryd.zeroValue114
 t72 := Tryd.underlying116
 a72 := Tryd.isAgg116
 z72 := Tryd.sizeOf116
 v72 := Tryd.zeroValue116
 t75 := Tryd.underlying119
 a75 := Tryd.isAgg119
 z75 := Tryd.sizeOf119
 v75 := Tryd.zeroValue119
 t76 := Tryd.underlying120
 a76 := Tryd.isAgg120
 z76 := Tryd.sizeOf120
 v76 := Tryd.zeroValue120
 t109 := Tryd.underlying128
 a109 := Tryd.isAgg128
 z109 := Tryd.sizeOf128
 v109 := Tryd.zeroValue128
 t127 := Tryd.underlying132
 a127 := Tryd.isAgg132
 z127 := Tryd.sizeOf132
 v127 := Tryd.zeroValue132
 t146 := Tryd.underlying134
 a146 := Tryd.isAgg134
 z146 := Tryd.sizeOf134
 v146 := Tryd.zeroValue134
 t148 := Tryd.underlying136
 a148 := Tryd.isAgg136
 z148 := Tryd.sizeOf136
 v148 := Tryd.zeroValue136
 t164 := Tryd.underlying138
 a164 := Tryd.isAgg138
 z164 := Tryd.sizeOf138
 v164 := Tryd.zeroValue138 }
theorem Tryd.Builder_Extra_105 : Builder.Extra Tryd.prog Tryd.lays105_ren := {
 sizeBuilder := by kernel_rfl
 liesBuilder := by kernel_rfl
 t5 := Tryd.underlying5
 a5 := Tryd.isAgg5
 z5 := Tryd.sizeOf5
 v5 := Tryd.zeroValue5
 infoByte := by kernel_rfl
 cellsByte := by kernel_rfl
 sizeByte := by kernel_rfl
 neB5 := by decide }
open Go.RowKit Go.Lib in
theorem Tryd.strings_Repeat (s : ByteArray) (c : Nat) (w : World) (hc : c ≤ 9223372036854775807) (hlen : s.size * c ≤ 140737488355328) :
    Calls Tryd.prog 62 #[.string s, .int .i64 c] w fun e w' => e = .returned (.string ⟨(Lib.repeatL s.data.toList c).toArray⟩) ∧ Below w.heap.size w w' := Any.strings_Repeat Tryd.lays105 Tryd.Builder_Extra_105 s c w hc hlen
end Go.Proofs
namespace Go.Proofs.YtnakjijahkaoaaaDoor
open Go Go.RowKit
def bp (xs : List ByteArray) (sep : ByteArray) : ByteArray := ⟨(Lib.join (xs.map (·.data.toList)) sep.data.toList).toArray⟩
def jr (s : ByteArray) (c : Int) : ByteArray := ⟨(Lib.repeatL s.data.toList c.toNat).toArray⟩
theorem rR {w w' : World} (h : Below w.heap.size w w') : Kept w w' := ⟨h.os, h.tape, h.output, h.size, h.block⟩
theorem ol (l : List UInt8) : ByteArray.size ⟨l.toArray⟩ = l.length := by
 show l.toArray.size = l.length
 exact List.size_toArray ..
theorem sd {P : Program} {O : Nat → Prop} {w : World} : ∀ {xs : List ByteArray} {L : List Value}, ag (fun cs x => Rep P .str .cells O w cs x) 1 L xs → ∀ (j : Nat) x, xs[j]? = some x → L[j]? = some (.string x)
 | [], _, _, j, x, hx => by simp at hx
 | y :: ys, L, h, j, x, hx => by
  cases L with
  | nil => obtain ⟨⟨h1, _⟩, _⟩ := h; simp at h1
  | cons u us =>
   obtain ⟨⟨h1, _⟩, h2⟩ := h
   cases j with
   | zero =>
    simp at hx h1
    simp [← hx, h1]
   | succ j =>
    simp at hx h2
    simpa using sd h2 j x hx
noncomputable abbrev eB : bD := ⟨rU, ru, fun x => (bp x.1 x.2.1, ()), fun x => List.length x.1 ≤ 1000000 ∧ ByteArray.size (bp x.1 x.2.1) ≤ 1000000, false⟩
theorem sE : aJ prog [] gd eB := by
 refine ⟨gk rQ (by kernel_rfl) (by kernel_rfl), (fun h => by cases h), fun O w vs x hO _ hx hp => ?_⟩
 obtain ⟨xs, sep, ⟨⟩⟩ := x
 obtain ⟨rest, cs, rfl, ⟨a, c, L, rfl, h2, h3, h4, h5, h6, h7⟩, rest', cs', rfl, ⟨rfl, hs⟩, hn⟩ := hx
 have hn : rest' = [] := hn
 subst hn
 have hp1 : xs.length ≤ 1000000 := hp.1
 have hp2 : (Lib.join (xs.map (·.data.toList)) sep.data.toList).length ≤ 1000000 := by
  have := hp.2
  unfold bp at this
  rwa [ol] at this
 have fin : ∀ e w', e = .returned (.string (bp xs sep)) → Kept w w' → ∃ v, e = Ending.returned v ∧ Kept w w' ∧ Rep prog eB.rs .result O w' [v] (eB.g (xs, sep, ())) := by
  intro e w' he hk
  refine ⟨_, he, hk, ?_⟩
  refine ⟨[], [.string (bp xs sep)], rfl, ⟨rfl, ?_⟩, rfl⟩
  show (bp xs sep).size ≤ maxLen
  unfold bp
  rw [ol]
  exact Nat.le_trans hp2 (by decide)
 cases hx0 : xs with
 | nil =>
  subst hx0
  refine Calls.mono (Tryd.strings_Join_none a c sep w) fun e w' he => ?_
  exact fin e w' he.1 (by rw [he.2]; exact Kept.refl w)
 | cons x0 xr =>
  rw [← hx0]
  obtain ⟨ad, ha, hO', hb, hc⟩ := h6 (by rw [hx0]; exact List.cons_ne_nil _ _)
  subst ha
  obtain ⟨bk, o, sp⟩ := ad
  have hat : ∀ (j : Nat) x, xs[j]? = some x → w.cell? ((⟨bk, o, sp⟩ : Addr).add j) = some (.string x) := fun j x hx => hc j _ (sd h5 j x hx)
  have hsp : sp = none := by
   have h0 := hat 0 x0 (by rw [hx0]; rfl)
   have e : (⟨bk, o, sp⟩ : Addr).add 0 = ⟨bk, o, sp⟩ := rfl
   rw [e] at h0
   unfold World.cell? at h0
   cases sp with
   | none => rfl
   | some q =>
    exfalso
    simp only [Option.isSome_some, if_true] at h0
    split at h0 <;> cases h0
  subst hsp
  have hcells : ∀ (j : Nat) x, xs[j]? = some x → w.cell? ⟨bk, o + j, none⟩ = some (.string x) := fun j x hx => by
   have h := hat j x hx
   unfold Addr.add at h
   split at h
   ·next hj => subst hj; exact h
   ·exact h
  exact Calls.mono (Tryd.strings_Join bk o c xs sep w hcells hb (by omega) h2 (Nat.le_trans hp2 (by decide))) fun e w' he => fin e w' he.1 (rR he.2)
noncomputable abbrev gM : bD := ⟨pK, pT, fun x => (jr x.1 x.2.1, ()), fun x => (0 : Int) ≤ x.2.1 ∧ (x.2.1 : Int) ≤ 1000000 ∧ ByteArray.size x.1 = 1, false⟩
theorem qU : aJ prog [] eT gM := by
 refine ⟨gk pO (by kernel_rfl) (by kernel_rfl), (fun h => by cases h), fun O w vs x hO _ hx hp => ?_⟩
 obtain ⟨s, c, ⟨⟩⟩ := x
 obtain ⟨rest, cs, rfl, ⟨rfl, hs⟩, rest', cs', rfl, ⟨rfl, hc⟩, hn⟩ := hx
 have hn : rest' = [] := hn
 subst hn
 have h0 : (0 : Int) ≤ c := hp.1
 have h1 : (c : Int) ≤ 1000000 := hp.2.1
 have hs1 : s.size = 1 := hp.2.2
 obtain ⟨n, hn⟩ : ∃ n : Nat, (n : Int) = c := ⟨Int.toNat c, Int.toNat_of_nonneg h0⟩
 subst hn
 have hlt : n ≤ 1000000 := Int.ofNat_le.1 h1
 refine Calls.mono (Tryd.strings_Repeat s n w (Nat.le_trans hlt (by decide)) (by rw [hs1, Nat.one_mul]; exact Nat.le_trans hlt (by decide))) fun e w' he => ?_
 refine ⟨_, he.1, rR he.2, ?_⟩
 have e : jr s (n : Int) = ⟨(Lib.repeatL s.data.toList n).toArray⟩ := rfl
 refine ⟨[], [.string (jr s n)], rfl, ⟨rfl, ?_⟩, rfl⟩
 show (jr s (n : Int)).size ≤ maxLen
 rw [e, ol, Lib.repeatL_length]
 have : s.data.toList.length = 1 := hs1
 rw [this, Nat.mul_one]
 exact Nat.le_trans hlt (by decide)
end Go.Proofs.YtnakjijahkaoaaaDoor
namespace Go.Proofs.YtnakjijahkaoaaaDoor
open Go Go.RowKit
noncomputable abbrev dz : Fx := { fn := db, ann := { loops := [(5, { keep := [1, 3, 19] })], frz := [(1000005, [2, 3])] } }
noncomputable abbrev da : Fx := { fn := cR, ann := { loops := [(0, { keep := [0, 1] })], frz := [(1000000, [2, 3])] } }
noncomputable abbrev bn : Fx := { fn := aE, ann := { loops := [(7, { keep := [2, 3, 5, 15] })] } }
noncomputable abbrev cM : bl := { D := { T := bQ, F := [(fC, fv), (dJ, dG), (gd, eB), (eT, gM)], R := [], ovl := [], G := gl }, inl := [(li, dz), (jy, da)] }
noncomputable abbrev gV : bV := .data fc
theorem vp (h_digest_begins : aJ prog gl fC fv) (h_digest_words_over : aJ prog gl dJ dG) (h_strings_Join : aJ prog gl gd eB) (h_strings_Repeat : aJ prog gl eT gM) : XOk prog cM := xok (aW (aW (aW (aW (bq bB be) h_strings_Repeat) h_strings_Join) h_digest_words_over) h_digest_begins) (by kernel_rfl) bj (jQ rb (by kernel_rfl) (jQ oG (by kernel_rfl) bw)) bC
noncomputable def pe (l : den (Ty.slc Ty.str)) : ab := ab.req True (ab.req (List.length l ≤ 1000000 ∧ ByteArray.size (bp l { data := { toList := [] } }) ≤ 1000000) (ab.req (ge0 3) (ab.req (ByteArray.size (bp l { data := { toList := [] } }) + ByteArray.size { data := { toList := [128] } } ≤ 1099511627776) (ab.req (nz 64) (ab.req (nz 64) (ab.req (0 ≤ Int.tmod (IntKind.wrap IntKind.i64 (120 - Int.tmod (aD (bp l { data := { toList := [] } } ++ { data := { toList := [128] } })) 64)) 64 ∧ Int.tmod (IntKind.wrap IntKind.i64 (120 - Int.tmod (aD (bp l { data := { toList := [] } } ++ { data := { toList := [128] } })) 64)) 64 ≤ 1000000 ∧ ByteArray.size { data := { toList := [0] } } = 1) (ab.req (ByteArray.size (bp l { data := { toList := [] } } ++ { data := { toList := [128] } }) + ByteArray.size (jr { data := { toList := [0] } } (Int.tmod (IntKind.wrap IntKind.i64 (120 - Int.tmod (aD (bp l { data := { toList := [] } } ++ { data := { toList := [128] } })) 64)) 64)) ≤ 1099511627776) (ab.loop [{ fx := bn, todo := f8 aE 2 2, dst := some 10, s := ofS [(2, K.ptr (0 + 1) tId []), (3, K.ptr (0 + 1 + 1) ae [])] }] dz (lp db 5) [(1, K.ptr 0 Ty.str []), (3, K.val (Ty.int IntKind.u64) (IntKind.wrap IntKind.u64 (IntKind.wrap IntKind.u64 (aD (bp l { data := { toList := [] } })) * 2 ^ min (Int.toNat 3) (IntKind.bits IntKind.u64)))), (19, K.val af 0)] [(0, Bx.cell Ty.str (bp l { data := { toList := [] } } ++ { data := { toList := [128] } } ++ jr { data := { toList := [0] } } (Int.tmod (IntKind.wrap IntKind.i64 (120 - Int.tmod (aD (bp l { data := { toList := [] } } ++ { data := { toList := [128] } })) 64)) 64))), (0 + 1, Bx.cell tId (zero tId)), (0 + 1 + 1, Bx.cell ae iO)]))))))))
theorem sa (l : den (Ty.slc Ty.str)) : az cM gV 5000 [] bn (aI aE) (Env.of (ba nl (l, ()) 0) []) = pe l := by kernel_rfl
noncomputable def eK (v3 : den (Ty.int IntKind.u64)) (v19 : den af) (b0 : den Ty.str) (b1 : den tId) (b2 : den ae) : List bu := [{ fx := bn, todo := f8 aE 2 2, dst := some 10, s := ofS [(2, K.ptr (0 + 1) tId []), (3, K.ptr (0 + 1 + 1) ae [])] }]
noncomputable def eD (v3 : den (Ty.int IntKind.u64)) (v19 : den af) (b0 : den Ty.str) (b1 : den tId) (b2 : den ae) : Env := Env.of [(1, K.ptr 0 Ty.str []), (3, K.val (Ty.int IntKind.u64) v3), (19, K.val af v19)] [(0, Bx.cell Ty.str b0), (1, Bx.cell tId b1), (2, Bx.cell ae b2)]
noncomputable def it (v3 : den (Ty.int IntKind.u64)) (v19 : den af) (b0 : den Ty.str) (b1 : den tId) (b2 : den ae) : ab := ab.ite (decide (v19 < 8)) (ab.req (ge0 (IntKind.wrap IntKind.i64 (8 * IntKind.wrap IntKind.i64 (7 - v19)))) (ab.req (ByteArray.size b0 + ByteArray.size (aS (List.set (List.replicate 1 (zero (Ty.int IntKind.u8))) 0 (IntKind.wrap IntKind.u8 (Int.fdiv v3 (2 ^ min (Int.toNat (IntKind.wrap IntKind.i64 (8 * IntKind.wrap IntKind.i64 (7 - v19)))) (IntKind.bits IntKind.u64)))))) ≤ 1099511627776) (ab.loop [{ fx := bn, todo := f8 aE 2 2, dst := some 10, s := ofS [(2, K.ptr (0 + 1) tId []), (3, K.ptr (0 + 1 + 1) ae [])] }] dz (lp db 5) [(1, K.ptr 0 Ty.str []), (3, K.val (Ty.int IntKind.u64) v3), (19, K.val af (IntKind.wrap IntKind.i64 (v19 + 1)))] [(0, Bx.cell Ty.str (b0 ++ aS (List.set (List.replicate 1 (zero (Ty.int IntKind.u8))) 0 (IntKind.wrap IntKind.u8 (Int.fdiv v3 (2 ^ min (Int.toNat (IntKind.wrap IntKind.i64 (8 * IntKind.wrap IntKind.i64 (7 - v19)))) (IntKind.bits IntKind.u64))))))), (0 + 1, Bx.cell tId b1), (0 + 1 + 1, Bx.cell ae b2)]))) (ab.loop [{ fx := bn, todo := mV aE 4, dst := none, s := ofS [(2, K.ptr (0 + 1 + 1) tId []), (3, K.ptr (0 + 1 + 1 + 1) ae [])], rng := some 0 }] da (lp cR 0) [(0, K.yld 0), (1, K.ptr (0 + 1) Ty.str [])] [(0, Bx.lop LoopState.ready none [(3, K.ptr (0 + 1 + 1 + 1) ae [])] 32 (zY aE 4) (qr aE 4) (vj aE 4)), (0 + 1, Bx.cell Ty.str b0), (0 + 1 + 1, Bx.cell tId b1), (0 + 1 + 1 + 1, Bx.cell ae b2)])
theorem dA (v3 : den (Ty.int IntKind.u64)) (v19 : den af) (b0 : den Ty.str) (b1 : den tId) (b2 : den ae) : az cM gV 5000 (eK v3 v19 b0 b1 b2) dz (lp db 5) (eD v3 v19 b0 b1 b2) = it v3 v19 b0 b1 b2 := by kernel_rfl
noncomputable def dQ (b1 : den Ty.str) (b2 : den tId) (b3 : den ae) : List bu := [{ fx := bn, todo := mV aE 4, dst := none, s := ofS [(2, K.ptr (0 + 1 + 1) tId []), (3, K.ptr (0 + 1 + 1 + 1) ae [])], rng := some 0 }]
noncomputable def dX (b1 : den Ty.str) (b2 : den tId) (b3 : den ae) : Env := Env.of [(0, K.yld 0), (1, K.ptr (0 + 1) Ty.str [])] [(0, Bx.lop LoopState.ready none [(3, K.ptr (0 + 1 + 1 + 1) ae [])] 32 (zY aE 4) (qr aE 4) (vj aE 4)), (1, Bx.cell Ty.str b1), (2, Bx.cell tId b2), (3, Bx.cell ae b3)]
noncomputable def gT (b1 : den Ty.str) (b2 : den tId) (b3 : den ae) : ab := ab.ite (!eqb Ty.str b1 { data := { toList := [] } }) (ab.req (aY 0 64 (aD b1)) (ab.req (ByteArray.size (bt b1 0 64) = 64) (ab.ite (!true) (ab.loop [] bn (lp aE 7) [(2, K.ptr 0 tId []), (3, K.ptr (0 + 1) ae []), (5, K.ptr (0 + 1 + 1) tId []), (15, K.val af 0)] [(0, Bx.cell tId b2), (0 + 1, Bx.cell ae (ob b3 (bt b1 0 64))), (0 + 1 + 1, Bx.cell tId (zero tId))]) (ab.req (aY 64 (aD b1) (aD b1)) (ab.loop [{ fx := bn, todo := mV aE 4, dst := none, s := ofS [(2, K.ptr (0 + 1 + 1) tId []), (3, K.ptr (0 + 1 + 1 + 1) ae [])], rng := some 0 }] da (lp cR 0) [(0, K.yld 0), (1, K.ptr (0 + 1) Ty.str [])] [(0, Bx.lop LoopState.ready none [(3, K.ptr (0 + 1 + 1 + 1) ae [])] 32 (zY aE 4) (qr aE 4) (vj aE 4)), (0 + 1, Bx.cell Ty.str (bt b1 64 (aD b1))), (0 + 1 + 1, Bx.cell tId b2), (0 + 1 + 1 + 1, Bx.cell ae (ob b3 (bt b1 0 64)))]))))) (ab.loop [] bn (lp aE 7) [(2, K.ptr 0 tId []), (3, K.ptr (0 + 1) ae []), (5, K.ptr (0 + 1 + 1) tId []), (15, K.val af 0)] [(0, Bx.cell tId b2), (0 + 1, Bx.cell ae b3), (0 + 1 + 1, Bx.cell tId (zero tId))])
theorem dn (b1 : den Ty.str) (b2 : den tId) (b3 : den ae) : az cM gV 5000 (dQ b1 b2 b3) da (lp cR 0) (dX b1 b2 b3) = gT b1 b2 b3 := by kernel_rfl
noncomputable def mu (v15 : den af) (b0 : den tId) (b1 : den ae) (b2 : den tId) : Env := Env.of [(2, K.ptr 0 tId []), (3, K.ptr (0 + 1) ae []), (5, K.ptr (0 + 1 + 1) tId []), (15, K.val af v15)] [(0, Bx.cell tId b0), (1, Bx.cell ae b1), (2, Bx.cell tId b2)]
noncomputable def rC (v15 : den af) (b0 : den tId) (b1 : den ae) (b2 : den tId) : ab := ab.ite (decide (v15 < 32)) (ab.req (nz 4) (ab.req (inB (IntKind.wrap IntKind.i64 (Int.tdiv v15 4)) (↑8 : Int)) (ab.req (nz 4) (ab.req (ge0 (IntKind.wrap IntKind.i64 (24 - IntKind.wrap IntKind.i64 (8 * Int.tmod v15 4)))) (ab.req (inB v15 (↑32 : Int)) (ab.loop [] bn (lp aE 7) [(2, K.ptr 0 tId []), (3, K.ptr (0 + 1) ae []), (5, K.ptr (0 + 1 + 1) tId []), (15, K.val af (IntKind.wrap IntKind.i64 (v15 + 1)))] [(0, Bx.cell tId b0), (0 + 1, Bx.cell ae b1), (0 + 1 + 1, Bx.cell tId (gi (Ty.int IntKind.u8) b2 v15 (IntKind.wrap IntKind.u8 (Int.fdiv (el (Ty.int IntKind.u32) b1 (IntKind.wrap IntKind.i64 (Int.tdiv v15 4))) (2 ^ min (Int.toNat (IntKind.wrap IntKind.i64 (24 - IntKind.wrap IntKind.i64 (8 * Int.tmod v15 4)))) (IntKind.bits IntKind.u32))))))])))))) (ab.ret (K.val (Ty.pair tId Ty.unit) (b2, PUnit.unit)))
theorem i4 (v15 : den af) (b0 : den tId) (b1 : den ae) (b2 : den tId) : az cM gV 5000 [] bn (lp aE 7) (mu v15 b0 b1 b2) = rC v15 b0 b1 b2 := by kernel_rfl
end Go.Proofs.YtnakjijahkaoaaaDoor
namespace Go.Proofs.YtnakjijahkaoaaaDoor
open Go Go.RowKit
def e0 : ByteArray := { data := { toList := [] } }
def qy : ByteArray := { data := { toList := [128] } }
def bz : ByteArray := { data := { toList := [0] } }
def lC (s : ByteArray) : Int := Int.tmod (IntKind.wrap .i64 (120 - Int.tmod (aD (s ++ qy)) 64)) 64
def rj (s : ByteArray) : Int := IntKind.wrap .u64 (IntKind.wrap .u64 (aD s) * 2 ^ min (Int.toNat 3) (IntKind.bits .u64))
def ur (s : ByteArray) (i : Int) : ByteArray :=
 aS (List.set (List.replicate 1 (zero (Ty.int IntKind.u8))) 0
  (IntKind.wrap .u8 (Int.fdiv (rj s) (2 ^ min (Int.toNat (IntKind.wrap .i64 (8 * IntKind.wrap .i64 (7 - i)))) (IntKind.bits .u64)))))
def qt (s : ByteArray) : Nat → ByteArray
 | 0 => s ++ qy ++ jr bz (lC s)
 | i + 1 => qt s i ++ ur s i
def goR : Nat → ByteArray → List Int → List Int
 | 0, _, h => h
 | m + 1, s, h => goR m (bt s 64 (aD s)) (ob h (bt s 0 64))
def BV (h : List Int) (i : Int) : Int :=
 IntKind.wrap .u8 (Int.fdiv (el (Ty.int IntKind.u32) h (IntKind.wrap .i64 (Int.tdiv i 4))) (2 ^ min (Int.toNat (IntKind.wrap .i64 (24 - IntKind.wrap .i64 (8 * Int.tmod i 4)))) (IntKind.bits .u32)))
def td (h : List Int) : Nat → List Int
 | 0 => zero tId
 | i + 1 => gi (Ty.int IntKind.u8) (td h i) i (BV h i)
def pu (s : ByteArray) : Nat := (s.size + 8) / 64 + 1
def xV (s : ByteArray) : List Int := td (goR (pu s) (qt s 8) iO) 32
def jE (l : List ByteArray) : List Int := xV (bp l e0)
theorem yR {n : Int} (h : 0 ≤ n) : ((jr bz n).size : Int) = n := by
 unfold jr
 rw [ol, Lib.repeatL_length]
 have : bz.data.toList.length = 1 := rfl
 rw [this, Nat.mul_one, Int.toNat_of_nonneg h]
theorem sb (s : ByteArray) (i : Int) : (ur s i).size = 1 := rfl
theorem pI {s : ByteArray} (hs : s.size ≤ 900000) : lC s = (120 - ((s.size : Int) + 1) % 64) % 64 := by
 have h1 : aD (s ++ qy) = (s.size : Int) + 1 := by
  unfold aD
  rw [ByteArray.size_append]
  rfl
 unfold lC
 have h2 : Int.tmod ((s.size : Int) + 1) 64 = ((s.size : Int) + 1) % 64 := Int.tmod_eq_emod_of_nonneg (by omega)
 rw [h1, h2, gP (by omega)]
 exact Int.tmod_eq_emod_of_nonneg (by omega)
theorem k6 {s : ByteArray} (hs : s.size ≤ 900000) : ∀ i : Nat, ((qt s i).size : Int) = (s.size : Int) + 1 + (120 - ((s.size : Int) + 1) % 64) % 64 + i
 | 0 => by
  have h0 : (0 : Int) ≤ lC s := by rw [pI hs]; exact Int.emod_nonneg _ (by decide)
  show ((s ++ qy ++ jr bz (lC s)).size : Int) = _
  rw [ByteArray.size_append, ByteArray.size_append]
  have h1 := yR h0
  rw [pI hs] at h1
  have h2 : qy.size = 1 := rfl
  rw [pI hs]
  omega
 | i + 1 => by
  show ((qt s i ++ ur s i).size : Int) = _
  rw [ByteArray.size_append, sb]
  have := k6 hs i
  omega
theorem zH {s : ByteArray} (hs : s.size ≤ 900000) : (qt s 8).size = 64 * pu s := by
 have h := k6 hs 8
 unfold pu
 omega
theorem dl : XOk prog cM := vp (bG si) nW (bG sE) (bG qU)
theorem rA : ∀ i : Nat, i < 32 → (0 ≤ IntKind.wrap .i64 (Int.tdiv (i : Int) 4) ∧ IntKind.wrap .i64 (Int.tdiv (i : Int) 4) < ((8 : Nat) : Int)) ∧
    0 ≤ IntKind.wrap .i64 (24 - IntKind.wrap .i64 (8 * Int.tmod (i : Int) 4)) := by decide
def rm (O : Nat → Prop) (w0 : World) (b0 h : List Int) (out : List Int) (ho : out = td h 32) :=
 PLift.up <| gS (σ := List Int) 32 (fun i b => b = td h i)
  (fun i b => bM prog cM (Cx.base O w0) (eC prog O w0 fc fun y => y = (out, ())) [] bn (lp aE 7) (mu (i : Nat) b0 h b))
  (fun i b hi hb ih => cz dl (i4 _ b0 h b) (by
   refine ⟨fun _ => ⟨show (4 : Int) ≠ 0 by decide, (rA i hi).1, show (4 : Int) ≠ 0 by decide, (rA i hi).2, ⟨Int.natCast_nonneg _, Int.ofNat_lt.2 hi⟩, ?_⟩, fun h => ?_⟩
   ·rw [kr hi (by omega)]
    refine ih _ ?_
    rw [hb]
    rfl
   ·exact absurd (Int.ofNat_lt.2 hi) (of_decide_eq_false h)))
  (fun b hb => cz dl (i4 _ b0 h b) (by
   refine ⟨fun h => ?_, fun _ => ⟨_, rfl, ?_⟩⟩
   ·exact absurd (of_decide_eq_true h) (by decide)
   ·show (b, ()) = (out, ())
    rw [hb, ho]))
theorem y6 {s : ByteArray} {m : Nat} (h : s.size = 64 * (m + 1)) : (bt s 64 (aD s)).size = 64 * m := by
 unfold bt aD
 rw [ByteArray.size_extract, Int.toNat_natCast]
 have : Int.toNat 64 = 64 := rfl
 omega
theorem yy {s : ByteArray} {m : Nat} (h : s.size = 64 * (m + 1)) : (bt s 0 64).size = 64 := by
 unfold bt
 rw [ByteArray.size_extract]
 have h1 : Int.toNat 64 = 64 := rfl
 have h2 : Int.toNat 0 = 0 := rfl
 omega
theorem qS (O : Nat → Prop) (w0 : World) (b2 out : List Int) (m : Nat) : ∀ (s : ByteArray) (h : List Int), s.size = 64 * m → out = td (goR m s h) 32 →
    bM prog cM (Cx.base O w0) (eC prog O w0 fc fun y => y = (out, ())) (dQ s b2 h) da (lp cR 0) (dX s b2 h) := by
  induction m with
  | zero =>
    intro s h hs ho
    have e : s = e0 := ByteArray.ext (Array.eq_empty_of_size_eq_zero hs)
    have e1 : eqb Ty.str s e0 = true := (eH (t := .str) rfl s e0).2 e
    refine cz dl (dn s b2 h) ⟨fun hc => ?_, fun _ => ?_⟩
    · have hc : (!eqb Ty.str s e0) = true := hc
      rw [e1] at hc
      cases hc
    · exact (rm O w0 b2 h out ho).down 0 _ (Nat.zero_le _) rfl
  | succ m ih =>
    intro s h hs ho
    have hl : aD s = 64 * ((m : Int) + 1) := by unfold aD; rw [hs]; omega
    refine cz dl (dn s b2 h) ⟨fun _ => ⟨?_, yy hs, fun hc => ?_, fun _ => ⟨?_, ?_⟩⟩, fun hc => ?_⟩
    · rw [hl]
      exact ⟨by decide, by decide, by omega⟩
    · cases hc
    · rw [hl]
      exact ⟨by decide, by omega, Int.le_refl _⟩
    · exact ih _ _ (y6 hs) ho
    · have hc : (!eqb Ty.str s e0) = false := hc
      have e : s = e0 := (eH (t := .str) rfl s e0).1 (by cases h1 : eqb Ty.str s e0 with | true => rfl | false => rw [h1] at hc; cases hc)
      rw [e] at hs
      have : e0.size = 0 := rfl
      omega
def rn (O : Nat → Prop) (w0 : World) (s : ByteArray) (hs : s.size ≤ 900000) :=
 PLift.up <| gS (σ := ByteArray) 8 (fun i b => b = qt s i)
  (fun i b => bM prog cM (Cx.base O w0) (eC prog O w0 fc fun y => y = (xV s, ())) (eK (rj s) (i : Nat) b (zero tId) iO) dz (lp db 5) (eD (rj s) (i : Nat) b (zero tId) iO))
  (fun i b hi hb ih => cz dl (dA (rj s) _ b _ _) (by
   have hz : b.size ≤ 1000000 := by have := k6 hs i; rw [hb]; omega
   refine ⟨fun _ => ⟨?_, ?_, ?_⟩, fun h => ?_⟩
   ·show (0 : Int) ≤ IntKind.wrap .i64 (8 * IntKind.wrap .i64 (7 - (i : Int)))
    rw [gP (n := 7 - (i : Int)) (by omega), gP (by omega)]
    omega
   ·show b.size + (ur s i).size ≤ _
    rw [sb]
    omega
   ·rw [kr hi (by omega)]
    refine ih _ ?_
    rw [hb]
    rfl
   ·exact absurd (Int.ofNat_lt.2 hi) (of_decide_eq_false h)))
  (fun b hb => cz dl (dA (rj s) _ b _ _) (by
   refine ⟨fun h => ?_, fun _ => ?_⟩
   ·exact absurd (of_decide_eq_true h) (by decide)
   ·exact qS O w0 _ _ (pu s) b iO (by rw [hb]; exact zH hs) (by rw [hb]; rfl)))
noncomputable abbrev eE : bD := ⟨nl, fc, fun x => (jE x.1, ()), fun x => List.length x.1 ≤ 1000000 ∧ ByteArray.size (bp x.1 e0) ≤ 900000, false⟩
theorem oS : aJ prog gl eJ eE :=
 cJ (S := eE) dl (fx := bn) ug (by kernel_rfl) (fun h => by cases h) (T := fun x => pe x.1) (fun x => sa x.1) fun O w0 x _ hp => by
  obtain ⟨l, ⟨⟩⟩ := x
  have hp1 : List.length l ≤ 1000000 := hp.1
  have hp2 : (bp l e0).size ≤ 900000 := hp.2
  have hk : lC (bp l e0) = _ := pI hp2
  refine ⟨trivial, ⟨hp1, Nat.le_trans hp2 (by decide)⟩, by show (0 : Int) ≤ 3; decide, ?_, show (64 : Int) ≠ 0 by decide, show (64 : Int) ≠ 0 by decide, ⟨?_, ?_, rfl⟩, ?_, ?_⟩
  ·show (bp l e0).size + 1 ≤ _
   omega
  ·show (0 : Int) ≤ lC (bp l e0)
   rw [hk]; omega
  ·show lC (bp l e0) ≤ 1000000
   rw [hk]; omega
  ·show (bp l e0 ++ qy).size + (jr bz (lC (bp l e0))).size ≤ _
   have h := k6 hp2 0
   have : (qt (bp l e0) 0).size = (bp l e0 ++ qy).size + (jr bz (lC (bp l e0))).size := ByteArray.size_append
   omega
  ·exact (rn O w0 (bp l e0) hp2).down 0 _ (Nat.zero_le _) rfl
end Go.Proofs.YtnakjijahkaoaaaDoor
namespace Go.Proofs.YtnakjijahkaoaaaDoor
open Go Go.RowKit
end Go.Proofs.YtnakjijahkaoaaaDoor
namespace Go.Proofs.YtnakjijahkaoaaaDoor
open Go Go.RowKit Go.ChangeShapes Go.WideShapes Go.ChangeAt
def mL : List (String × DataW Unit) := [("posthouse/digest.keys", Rows.laid_posthouse_digest_keys)]
noncomputable def yk : Nat := ((prog.globals[0]?).map (·.type)).getD 0
theorem zR : (prog.globals[0]?).map (·.type) = some yk := by kernel_rfl
theorem zo : bQ.lookup yk = some (.arr 64 (.int .u32)) := by kernel_rfl
theorem B2 : prog.globalNamed "posthouse/digest.keys" = some 0 := by kernel_rfl
def yJ : DataW Unit → Int := fun | .lit (.int _ n) => n | _ => 0
theorem ow {P : Program} {O : Nat → Prop} {w : World} {k : IntKind} : ∀ (cs : List Value) (ds : List (DataW Unit)), cs.length = ds.length →
    (∀ (i : Nat) c d, cs[i]? = some c → ds[i]? = some d → ∃ z, c = .int k z ∧ d = .lit (.int k z) ∧ InK k z) → ag (fun cs x => Rep P (.int k) .cells O w cs x) 1 cs (ds.map yJ)
  | [], [], _, _ => rfl
  | c :: cs, d :: ds, hl, h => by
    obtain ⟨z, e1, e2, e3⟩ := h 0 c d rfl rfl
    refine ⟨?_, ow cs ds (by simpa using hl) fun i c d hc hd => h (i + 1) c d hc hd⟩
    rw [e1, e2]
    exact ⟨rfl, e3⟩
  | [], _ :: _, hl, _ => by simp at hl
  | _ :: _, [], hl, _ => by simp at hl
theorem yZ : g8.length = 64 := by kernel_rfl
def xv : DataW Unit → List (DataW Unit)
 | .agg l => l
 | _ => []
theorem A6 : (Rows.laid_posthouse_digest_keys : DataW Unit) = .agg (xv Rows.laid_posthouse_digest_keys) := by kernel_rfl
theorem z6 : g8 = (xv Rows.laid_posthouse_digest_keys).map yJ := by kernel_rfl
theorem ze {W : World} (h : laidMetH prog mL W) : GlobOk prog gl (fun _ => False) W := by
  rw [MakeChecks.laidMetH_plain _ _ _ (by kernel_rfl)] at h
  obtain ⟨ps, ⟨g0, t0, cs0, f0, p0, q0, hg0, ht0, hv0, hd0, _, _⟩, _, _⟩ := h
  obtain rfl := Option.some.inj (B2.symm.trans hg0)
  obtain rfl := Option.some.inj (zR.symm.trans ht0)
  have hf := fZ bB zo
  obtain ⟨e, hu, he, _⟩ := dv hf.shape
  obtain ⟨xs, k, hm, hx, h3, h4, h5⟩ := DataW.trod_array hu hd0
  have hfe := fZ bB he
  have hse : prog.cellsOf e = 1 := pl hfe
  have hst : prog.cellsOf yk = 64 := pl hf
  rw [A6] at hx
  have hx1 : xv Rows.laid_posthouse_digest_keys = xs.map (·.1) := DataW.agg.inj (Prod.mk.inj hx).1
  have hlen : cs0.toList.length = 64 := h3.trans hst
  have hrep : ag (fun cs x => Rep prog (.int .u32) .cells (fun _ => False) W cs x) 1 cs0.toList g8 := by
    rw [z6]
    refine ow _ _ ?_ fun i c d hc hd => ?_
    · rw [hlen, hx1, List.length_map, h4]
    · have hi : i < 64 := by
        have := (List.getElem?_eq_some_iff.1 hc).1
        omega
      have h6 := h5 i hi
      rw [hse, Nat.mul_one] at h6
      have hc1 : (cs0.toList.drop i).take 1 = [c] := by
        have hlt : i < cs0.toList.length := by omega
        rw [List.drop_eq_getElem_cons hlt]
        have : cs0.toList[i] = c := by
          rw [List.getElem?_eq_getElem hlt] at hc
          exact Option.some.inj hc
        rw [this]
        rfl
      rw [hc1] at h6
      rw [hx1, List.getElem?_map] at hd
      cases hxi : xs[i]? with
      | none => rw [hxi] at hd; cases hd
      | some x =>
        rw [hxi] at hd h6
        obtain ⟨z, e1, e2, e3⟩ := DataW.trod_int (cF hfe.shape) h6
        have hd : x.1 = d := Option.some.inj hd
        refine ⟨z, ?_, ?_, tn e3⟩
        · exact (List.cons.inj e1).1
        · rw [← hd, e2]
  have hcell : ∀ j, W.cell? ⟨0, j, none⟩ = cs0[j]? := fun j => World.var?_cell hg0 hv0 j
  intro g t y hl
  have hg : g = 0 ∧ (⟨t, y⟩ : (t : Ty) × den t) = ⟨.arr 64 (.int .u32), g8⟩ := by
    have hl : List.lookup g [((0 : Nat), (⟨.arr 64 (.int .u32), g8⟩ : (t : Ty) × den t))] = some ⟨t, y⟩ := hl
    rw [List.lookup_cons] at hl
    by_cases hg : g = 0
    · subst hg
      exact ⟨rfl, (Option.some.inj hl).symm⟩
    · have : (g == 0) = false := by simpa using hg
      rw [this] at hl
      cases hl
  obtain ⟨rfl, e⟩ := hg
  cases e
  refine ⟨cs0.toList, fun h => h, ?_, fun j u hj => ?_, yZ, hrep⟩
  · have h0 := hcell 0
    have : cs0[0]? ≠ none := by
      intro hn
      have hlt : 0 < cs0.size := by
        have : cs0.toList.length = cs0.size := by simp
        omega
      rw [Array.getElem?_eq_getElem hlt] at hn
      cases hn
    show 0 < W.heap.size
    rcases Nat.eq_zero_or_pos W.heap.size with hz | hz
    · exfalso
      apply this
      rw [← h0]
      simp [World.cell?, hz]
    · exact hz
  · have e : (⟨0, 0, none⟩ : Addr).add j = ⟨0, j, none⟩ := by
      unfold Addr.add
      split
      · next h => subst h; rfl
      · show (⟨0, 0 + j, none⟩ : Addr) = _
        rw [Nat.zero_add]
    rw [e, hcell]
    simpa using hj
set_option maxRecDepth 100000 in
theorem xy {H : Type} {enc : TypeId × Value → H} {w : World} {Gl : gu} (hg : GlobOk prog Gl (fun _ => False) w) {f : FuncId} {aty : Ty} (hk : aJ prog Gl f (AB aty)) {ts : List TypeId} (hc : gq prog bQ ts aty = true) {r : Reach} {b0 : Nat} {spare : Nat → Bool} {held : Bool} {args : Array Value} {ds : List (DataW H)} {ps : List MemPlace}
    (h : DataW.TrodAll enc prog w 0 spare held ts args.toList ds ps) (hv : ∀ (j : Nat) t v, ts[j]? = some t → args[j]? = some v → Value.okWide prog w r b0 t v) : Calls prog f args w fun e w' => e = .returned (.bool true) ∧ Below w.heap.size w w' := by
  obtain ⟨x, hx⟩ := nJ bB ts aty args.toList ds ps hc h (fun j t v hj hv' => hv j t v hj (by simpa using hv'))
  have := hk.does (fun _ => False) w args.toList x (fun _ h => h.elim) hg hx trivial
  rw [Array.toArray_toList] at this
  refine Calls.mono this fun e w' ⟨v, e1, e2, rest, cs, e3, e4, e5⟩ => ?_
  have e4 : cs = [.bool true] := e4
  subst e4
  have e3 : [v] = [Value.bool true] := e3
  have : v = .bool true := by simpa using e3
  subst this
  exact ⟨e1, ⟨e2.os, e2.tape, e2.output, e2.size, e2.block⟩⟩
theorem z7 (os : Os) (args : Array Value) : laidMetH prog mL ((World.laidAll prog os mL).forCall (fun _ _ => 0) ⟨#[], args, []⟩).memory := by
 rw [MakeChecks.laidMetH_plain _ _ _ (by kernel_rfl)]
 exact laidMet_laidAll _ (by kernel_rfl) (by kernel_rfl)
end Go.Proofs.YtnakjijahkaoaaaDoor
namespace Go.Proofs.YtnakjijahkaoaaaDoor
open Go Go.RowKit
abbrev Lk := den dS
end Go.Proofs.YtnakjijahkaoaaaDoor
namespace Go.Proofs.YtnakjijahkaoaaaDoor
open Go Go.RowKit
noncomputable abbrev mj : Fx := { fn := jk, ann := { frz := [(1, [1])] } }
noncomputable abbrev ny : bl := { D := { T := bQ, F := [], R := [], ovl := [] }, inl := [] }
noncomputable abbrev uc : bV := .data l9
theorem t6 : XOk prog ny := xok ((bq bB be)) (by kernel_rfl) bj bw bC
noncomputable def nB (id : den tId) : ab := ab.req (aY 0 16 (↑32 : Int)) (ab.req (16 ≤ List.length (cI (Ty.int IntKind.u8) id 0 16)) (ab.ret (K.val (Ty.pair bN Ty.unit) (List.take 16 (cI (Ty.int IntKind.u8) id 0 16), PUnit.unit))))
theorem qB (id : den tId) : az ny uc 5000 [] mj (aI jk) (Env.of (ba mA (id, ()) 0) []) = nB id := by kernel_rfl
end Go.Proofs.YtnakjijahkaoaaaDoor
namespace Go.Proofs.YtnakjijahkaoaaaDoor
open Go Go.RowKit
def cZ (id : List Int) : List Int := List.take 16 id
noncomputable abbrev gD : bD := ⟨mA, l9, fun x => (cZ x.1, ()), fun _ => True, true⟩
theorem tT : aJ prog [] gy gD :=
 cJ (S := gD) t6 (fx := mj) sy (by kernel_rfl) (fun _ _ => trivial) (T := fun x => nB x.1) (fun x => qB x.1) fun O w0 x hk _ => by
  obtain ⟨id, ⟨⟩⟩ := x
  have hl : List.length id = 32 := hk.1.1
  have e : cI (Ty.int IntKind.u8) id 0 16 = List.take 16 id := rfl
  refine ⟨⟨by decide, by decide, by decide⟩, ?_, _, rfl, ?_⟩
  ·rw [e]
   show 16 ≤ (List.take 16 id).length
   rw [List.length_take]
   omega
  ·rw [e]
   show (List.take 16 (List.take 16 id), ()) = (List.take 16 id, ())
   rw [List.take_take]; rfl
end Go.Proofs.YtnakjijahkaoaaaDoor
namespace Go.Proofs.YtnakjijahkaoaaaDoor
open Go Go.RowKit
end Go.Proofs.YtnakjijahkaoaaaDoor
namespace Go.Proofs.YtnakjijahkaoaaaDoor
open Go Go.RowKit
end Go.Proofs.YtnakjijahkaoaaaDoor
namespace Go.Proofs.YtnakjijahkaoaaaDoor
open Go Go.RowKit
end Go.Proofs.YtnakjijahkaoaaaDoor
