/- Part 7 of 8 of what this claim's proof stands on: a theory of programs on data, and the contracts of the functions that the law reaches. It holds no condition of its own. -/
import Derived.Test.YtnakjijahkaoaaaDoorCC6
import Derived.Test.YtnakjijahkaoaaaDoorProg
import Derived.Test.YtnakjijahkaoaaaDoorRows
import Derived.Shelf.Strings.Builder1
import Derived.Shelf.Strings.Builder2
import Derived.Shelf.Strings.OnBuilder
import Derived.Shelf.Strings.BuilderF
import Derived.Shelf.Strings.BuilderK
import Derived.Shelf.Strings.Builder2Cap
import Derived.Shelf.Strings.Prefix
import Derived.Shelf.Bits.Mul64
import Derived.Shelf.Strings.Repeat
import Derived.Shelf.Strings.BuilderCap
import Derived.LaidMore
import Derived.Lay
namespace Go.Proofs.YtnakjijahkaoaaaDoor
open Go
noncomputable section
noncomputable abbrev prog : Program := Tryd.prog
abbrev tId : Ty := (.arr 32 (.int .u8))
abbrev aj : Ty := (.arr 16 (.int .u8))
abbrev af : Ty := (.arr 8 (.int .u32))
abbrev ag : Ty := (.st (.pair (.mp aj .bool) .unit))
abbrev ae : Ty := (.st (.pair tId (.pair tId .unit)))
abbrev dT : Ty := (.st (.pair (.int .i64) (.pair tId (.pair (.int .i64) .unit))))
abbrev iW : Ty := (.st (.pair .bool (.pair .bool (.pair .bool (.pair .bool (.pair .bool (.pair .bool .unit)))))))
abbrev mz : Ty := (.st (.pair tId (.pair dT (.pair (.int .i64) .unit))))
abbrev eH : Ty := (.st (.pair (.int .i64) (.pair tId (.pair dT (.pair (.slc dT) (.pair (.int .i64) (.pair .str (.pair .str .unit))))))))
abbrev gL : Ty := (.st (.pair (.int .i64) (.pair eH .unit)))
def cx : List (Nat × Ty) := [
 (1, (.fn .unit .unit)),
 (2, (.int .i64)),
 (3, (.int .i64)),
 (4, .bool),
 (5, (.int .u8)),
 (9, .str),
 (12, (.int .u64)),
 (21, (.int .i32)),
 (22, tId),
 (23, tId),
 (24, (.int .i64)),
 (26, (.fn (.pair .str (.pair tId (.pair (.int .i64) .unit))) (.pair .str (.pair (.int .i64) .unit)))),
 (27, (.fn (.pair tId .unit) (.pair tId .unit))),
 (28, (.fn (.pair .str (.pair tId .unit)) (.pair tId .unit))),
 (29, (.fn (.pair tId (.pair tId .unit)) (.pair .bool .unit))),
 (30, (.fn .unit (.pair .bool .unit))),
 (31, (.fn (.pair .str (.pair tId (.pair (.int .i64) .unit))) (.pair .str .unit))),
 (32, (.fn (.pair tId (.pair tId (.pair .str (.pair (.int .i64) .unit)))) (.pair .bool .unit))),
 (33, (.slc ae)),
 (35, (.fn (.pair (.slc ae) .unit) (.pair .bool (.pair (.int .i64) .unit)))),
 (36, (.fn (.pair (.slc ae) .unit) (.pair .bool .unit))),
 (37, ae),
 (38, ae),
 (39, (.fn (.pair tId (.pair tId (.pair tId (.pair (.slc ae) .unit)))) (.pair .bool .unit))),
 (40, (.fn (.pair (.slc ae) (.pair (.int .i64) .unit)) (.pair .bool .unit))),
 (41, dT),
 (42, dT),
 (43, (.slc dT)),
 (44, eH),
 (45, eH),
 (46, (.fn (.pair eH .unit) (.pair eH .unit))),
 (48, (.fn (.pair .str (.pair eH .unit)) (.pair (.int .i64) (.pair eH (.pair (.int .i64) .unit))))),
 (49, (.fn (.pair .str (.pair eH (.pair eH .unit))) (.pair .bool .unit))),
 (50, (.fn (.pair .str (.pair .str (.pair tId (.pair tId (.pair (.int .i64) .unit))))) (.pair .bool .unit))),
 (51, mz),
 (52, mz),
 (54, (.fn (.pair eH (.pair (.int .i64) .unit)) (.pair mz (.pair (.int .i64) .unit)))),
 (55, (.fn (.pair eH .unit) (.pair .bool .unit))),
 (56, (.fn (.pair eH (.pair (.int .i64) .unit)) (.pair mz .unit))),
 (57, (.fn (.pair eH (.pair eH .unit)) (.pair .bool .unit))),
 (58, gL),
 (59, gL),
 (60, (.fn (.pair .str (.pair eH .unit)) (.pair gL .unit))),
 (61, (.fn (.pair .str (.pair eH (.pair (.int .i64) .unit))) (.pair .bool .unit))),
 (62, (.fn (.pair .str (.pair .str (.pair tId (.pair (.int .i64) (.pair (.int .i64) (.pair (.int .i64) .unit)))))) (.pair .bool .unit))),
 (63, (.fn (.pair (.slc .str) .unit) (.pair tId .unit))),
 (64, (.slc (.int .u8))),
 (65, (.fn (.pair .str .unit) (.pair tId .unit))),
 (66, (.fn (.pair tId .unit) (.pair .str .unit))),
 (67, aj),
 (68, aj),
 (69, (.fn (.pair tId .unit) (.pair aj .unit))),
 (70, (.fn (.pair (.slc ae) .unit) (.pair (.slc ae) .unit))),
 (71, (.mp aj .bool)),
 (72, ag),
 (73, ag),
 (74, (.fn (.pair aj .unit) .unit)),
 (75, (.fn (.pair (.slc ae) (.pair (.fn (.pair ae .unit) (.pair .bool .unit)) .unit)) (.pair (.slc ae) .unit))),
 (76, (.fn (.pair aj .unit) (.pair .bool .unit))),
 (77, (.fn (.pair ae .unit) (.pair .bool .unit))),
 (78, (.fn (.pair (.slc .str) (.pair .str .unit)) (.pair .bool .unit))),
 (79, (.slc .str)),
 (80, (.fn (.pair (.slc ae) (.pair .str .unit)) (.pair (.slc .str) .unit))),
 (81, (.fn (.pair eH (.pair .str .unit)) (.pair (.int .i64) .unit))),
 (83, (.mp (.int .i64) (.fn (.pair eH (.pair .str .unit)) (.pair (.int .i64) .unit)))),
 (84, (.fn .unit (.pair (.mp (.int .i64) (.fn (.pair eH (.pair .str .unit)) (.pair (.int .i64) .unit))) .unit))),
 (85, (.fn (.pair (.slc dT) (.pair (.slc dT) .unit)) (.pair .bool .unit))),
 (86, (.int .u32)),
 (87, af),
 (88, af),
 (89, (.fn .unit (.pair af .unit))),
 (90, (.fn (.pair (.fn (.pair .str .unit) (.pair .bool .unit)) .unit) .unit)),
 (91, (.fn (.pair (.fn (.pair .str .unit) (.pair .bool .unit)) .unit) .unit)),
 (92, (.fn (.pair .str .unit) (.pair (.fn (.pair (.fn (.pair .str .unit) (.pair .bool .unit)) .unit) .unit) .unit))),
 (93, (.fn (.pair (.slc .str) (.pair .str .unit)) (.pair .str .unit))),
 (94, (.fn (.pair .str .unit) (.pair af .unit))),
 (95, (.slc (.int .u32))),
 (96, (.fn .unit (.pair (.slc (.int .u32)) .unit))),
 (97, (.fn (.pair .str .unit) (.pair .str .unit))),
 (98, (.fn (.pair (.slc (.int .u32)) (.pair .str .unit)) (.pair (.slc (.int .u32)) .unit))),
 (100, (.fn (.pair (.slc ae) (.pair (.fn (.pair ae .unit) (.pair .bool .unit)) .unit)) (.pair (.int .i64) .unit))),
 (101, (.fn (.pair (.int .i64) .unit) (.pair (.fn (.pair eH (.pair .str .unit)) (.pair (.int .i64) .unit)) .unit))),
 (102, iW),
 (103, iW),
 (105, (.mp (.int .i64) iW)),
 (106, (.fn .unit (.pair (.mp (.int .i64) iW) .unit))),
 (107, (.fn (.pair dT .unit) (.pair .bool .unit))),
 (108, (.fn (.pair (.slc dT) .unit) (.pair .bool .unit))),
 (109, (.fn (.pair (.int .i64) (.pair (.int .u8) .unit)) (.pair .bool .unit))),
 (110, (.int .u64)),
 (111, (.int .u64)),
 (112, (.fn (.pair .str (.pair (.int .i64) .unit)) (.pair .str .unit))),
 (113, (.fn (.pair .str .unit) (.pair .bool .unit))),
 (117, (.fn (.pair (.int .i64) .unit) .unit)),
 (122, (.fn .unit (.pair .str .unit))),
 (123, (.arr 64 (.int .u32))),
 (124, (.fn (.pair .str .unit) (.pair (.int .u32) .unit))),
 (125, (.fn (.pair (.int .u32) (.pair (.int .i64) (.pair (.int .i64) (.pair (.int .u32) .unit)))) (.pair (.int .u32) .unit))),
 (126, (.fn (.pair (.int .u32) (.pair (.int .i64) .unit)) (.pair (.int .u32) .unit))),
 (127, (.fn (.pair (.slc (.int .u32)) (.pair (.int .u32) (.pair (.int .u32) .unit))) (.pair (.slc (.int .u32)) .unit))),
 (129, (.fn (.pair (.int .u64) (.pair (.int .u64) .unit)) (.pair (.int .u64) (.pair (.int .u64) .unit)))),
 (130, (.fn (.pair .str (.pair .str .unit)) (.pair .bool .unit))),
 (131, (.fn .unit (.pair (.int .i64) .unit))),
 (133, (.fn (.pair (.slc dT) (.pair (.fn (.pair dT .unit) (.pair .bool .unit)) .unit)) (.pair .bool .unit))),
 (135, (.fn (.pair (.int .u32) (.pair (.int .u32) .unit)) (.pair (.int .u32) (.pair (.int .u32) .unit)))),
 (137, (.fn (.pair (.int .u64) (.pair (.int .u64) .unit)) (.pair (.int .u64) (.pair (.int .u64) .unit)))),
 (140, (.fn (.pair (.int .i64) .unit) (.pair (.slc (.int .u8)) .unit))),
 (141, (.fn (.pair (.slc dT) (.pair (.fn (.pair dT .unit) (.pair .bool .unit)) .unit)) (.pair (.int .i64) .unit)))]
theorem bR : qa prog cx = true := by kernel_rfl
theorem bt : prog.follows .mixedOrders = true := by kernel_rfl
abbrev kH : Nat := 4
noncomputable abbrev io : Func := Tryd.f4
abbrev cY : Ty := (.pair (.slc ae) .unit)
abbrev pN : Ty := (.pair .bool .unit)
theorem pG : Tryd.prog.funcs[kH]? = some io := Tryd.func4
abbrev gr : Nat := 11
noncomputable abbrev jg : Func := Tryd.f11
abbrev lX : Ty := (.pair .str (.pair tId (.pair (.int .i64) .unit)))
abbrev lW : Ty := (.pair .str (.pair (.int .i64) .unit))
theorem rI : Tryd.prog.funcs[gr]? = some jg := Tryd.func11
abbrev eB : Nat := 12
noncomputable abbrev kh : Func := Tryd.f12
abbrev m3 : Ty := (.pair tId .unit)
abbrev m5 : Ty := (.pair tId .unit)
theorem tb : Tryd.prog.funcs[eB]? = some kh := Tryd.func12
abbrev gA : Nat := 14
noncomputable abbrev jf : Func := Tryd.f14
abbrev lN : Ty := (.pair tId .unit)
abbrev l6 : Ty := (.pair tId .unit)
theorem rV : Tryd.prog.funcs[gA]? = some jf := Tryd.func14
abbrev gB : Nat := 15
noncomputable abbrev jo : Func := Tryd.f15
abbrev lQ : Ty := (.pair tId (.pair tId .unit))
abbrev lJ : Ty := (.pair .bool .unit)
theorem sf : Tryd.prog.funcs[gB]? = some jo := Tryd.func15
abbrev iY : Nat := 17
noncomputable abbrev lr : Func := Tryd.f17
abbrev oh : Ty := .unit
abbrev nS : Ty := (.pair .bool .unit)
theorem uy : Tryd.prog.funcs[iY]? = some lr := Tryd.func17
abbrev dg : Nat := 19
noncomputable abbrev am : Func := Tryd.f19
abbrev kB : Ty := (.pair (.slc ae) .unit)
abbrev dC : Ty := (.pair .bool (.pair (.int .i64) .unit))
theorem qm : Tryd.prog.funcs[dg]? = some am := Tryd.func19
abbrev gF : Nat := 20
noncomputable abbrev dk : Func := Tryd.f20
abbrev lH : Ty := (.pair (.slc ae) .unit)
abbrev iJ : Ty := (.pair .bool .unit)
theorem sh : Tryd.prog.funcs[gF]? = some dk := Tryd.func20
abbrev eF : Nat := 29
noncomputable abbrev aK : Func := Tryd.f29
abbrev mZ : Ty := (.pair (.slc .str) .unit)
abbrev fl : Ty := (.pair tId .unit)
theorem ta : Tryd.prog.funcs[eF]? = some aK := Tryd.func29
abbrev eE : Nat := 30
noncomputable abbrev kg : Func := Tryd.f30
abbrev nm : Ty := (.pair .str (.pair tId .unit))
abbrev mY : Ty := (.pair tId .unit)
theorem sP : Tryd.prog.funcs[eE]? = some kg := Tryd.func30
abbrev gT : Nat := 32
noncomputable abbrev ou : Func := Tryd.f32
abbrev rf : Ty := (.pair tId .unit)
abbrev rv : Ty := (.pair .str .unit)
theorem wb : Tryd.prog.funcs[gT]? = some ou := Tryd.func32
abbrev dN : Nat := 33
noncomputable abbrev jj : Func := Tryd.f33
abbrev lP : Ty := (.pair tId .unit)
abbrev lT : Ty := (.pair aj .unit)
theorem se : Tryd.prog.funcs[dN]? = some jj := Tryd.func33
abbrev dK : Nat := 34
noncomputable abbrev fw : Func := Tryd.f34
theorem mA : Tryd.prog.funcs[dK]? = some fw := Tryd.func34
abbrev iz : Nat := 35
noncomputable abbrev iD : Func := Tryd.f35
theorem mn : Tryd.prog.funcs[iz]? = some iD := Tryd.func35
abbrev fT : Nat := 36
noncomputable abbrev az : Func := Tryd.f36
theorem jz : Tryd.prog.funcs[fT]? = some az := Tryd.func36
abbrev aD : Nat := 37
noncomputable abbrev jr : Func := Tryd.f37
theorem nI : Tryd.prog.funcs[aD]? = some jr := Tryd.func37
abbrev iC : Nat := 38
noncomputable abbrev iI : Func := Tryd.f38
theorem me : Tryd.prog.funcs[iC]? = some iI := Tryd.func38
abbrev gU : Nat := 39
noncomputable abbrev fJ : Func := Tryd.f39
abbrev qV : Ty := (.pair (.slc .str) (.pair .str .unit))
abbrev mg : Ty := (.pair .bool .unit)
theorem wT : Tryd.prog.funcs[gU]? = some fJ := Tryd.func39
abbrev jC : Nat := 40
noncomputable abbrev bZ : Func := Tryd.f40
abbrev pg : Ty := (.pair (.slc ae) (.pair .str .unit))
abbrev lu : Ty := (.pair (.slc .str) .unit)
theorem vo : Tryd.prog.funcs[jC]? = some bZ := Tryd.func40
abbrev fH : Nat := 45
noncomputable abbrev g8 : Func := Tryd.f45
abbrev jU : Ty := .unit
abbrev j4 : Ty := (.pair af .unit)
theorem p5 : Tryd.prog.funcs[fH]? = some g8 := Tryd.func45
abbrev k3 : Nat := 46
noncomputable abbrev db : Func := Tryd.f46
theorem pY : Tryd.prog.funcs[k3]? = some db := Tryd.func46
abbrev f8 : Nat := 47
noncomputable abbrev sd : Func := Tryd.f47
abbrev qy : Ty := (.pair (.slc .str) (.pair .str .unit))
abbrev rg : Ty := (.pair .str .unit)
theorem qT : Tryd.prog.funcs[f8]? = some sd := Tryd.func47
abbrev dH : Nat := 48
noncomputable abbrev aR : Func := Tryd.f48
abbrev ig : Ty := (.pair af (.pair .str .unit))
abbrev dm : Ty := (.pair af .unit)
theorem mU : Tryd.prog.funcs[dH]? = some aR := Tryd.func48
abbrev ge : Nat := 52
noncomputable abbrev aX : Func := Tryd.f52
theorem jQ : Tryd.prog.funcs[ge]? = some aX := Tryd.func52
abbrev eT : Nat := 62
noncomputable abbrev pP : Func := Tryd.f62
abbrev pc : Ty := (.pair .str (.pair (.int .i64) .unit))
abbrev o9 : Ty := (.pair .str .unit)
theorem pd : Tryd.prog.funcs[eT]? = some pP := Tryd.func62
abbrev jp : Nat := 63
noncomputable abbrev cT : Func := Tryd.f63
theorem n8 : Tryd.prog.funcs[jp]? = some cT := Tryd.func63
abbrev fA : Nat := 67
noncomputable abbrev cP : Func := Tryd.f67
abbrev jV : Ty := (.pair .str .unit)
abbrev gJ : Ty := (.pair (.int .u32) .unit)
theorem pI : Tryd.prog.funcs[fA]? = some cP := Tryd.func67
abbrev ir : Nat := 68
noncomputable abbrev j5 : Func := Tryd.f68
abbrev m0 : Ty := (.pair (.int .u32) (.pair (.int .i64) (.pair (.int .i64) (.pair (.int .u32) .unit))))
abbrev nf : Ty := (.pair (.int .u32) .unit)
theorem s9 : Tryd.prog.funcs[ir]? = some j5 := Tryd.func68
abbrev cp : Nat := 69
noncomputable abbrev fp : Func := Tryd.f69
abbrev ik : Ty := (.pair (.int .u32) (.pair (.int .i64) .unit))
abbrev it : Ty := (.pair (.int .u32) .unit)
theorem mD : Tryd.prog.funcs[cp]? = some fp := Tryd.func69
end
end Go.Proofs.YtnakjijahkaoaaaDoor
namespace Go.Proofs.YtnakjijahkaoaaaDoor
open Go Go.RowKit
theorem c7 {σ : Type} (n : Nat) (Inv : Nat → σ → Prop) (Q : Nat → σ → Prop) (step : ∀ i s, i < n → Inv i s → (∀ s', Inv (i + 1) s' → Q (i + 1) s') → Q i s) (last : ∀ s, Inv n s → Q n s) : ∀ (i : Nat) (s : σ), i ≤ n → Inv i s → Q i s := by
 intro i s hi
 obtain ⟨k, hk⟩ : ∃ k, k + i = n := ⟨n - i, by omega⟩
 induction k generalizing i s with
 | zero =>
  have e : i = n := by omega
  subst e
  exact last s
 | succ k ih =>
  intro hI
  exact step i s (by omega) hI fun s' h' => ih (i + 1) s' (by omega) (by omega) h'
theorem eM {e : Ty} (t : List (den e)) {i : Nat} : (decide ((i : Int) < lnx e t)) = decide (i < t.length) := by
 rw [Bool.eq_iff_iff, decide_eq_true_eq, decide_eq_true_eq]
 exact ⟨fun h => by have h : (i : Int) < (t.length : Int) := h; omega, fun h => by show (i : Int) < (t.length : Int); omega⟩
theorem gW {n : Int} (h : -1000000000000000 ≤ n ∧ n ≤ 1000000000000000) : IntKind.wrap .i64 n = n := yc (by omega) (by omega)
theorem Am (n : Nat) : vok 0 n n := by unfold vok; omega
theorem xY {e : Ty} (xs : List (den e)) {n : Nat} (h : n = xs.length) : tg e xs 0 n = xs := by
 unfold tg; rw [h, List.drop_zero, List.take_length]
theorem a7 {P : ab → Prop} {A : Type} {e : A} {f : A → ab} (h : P (f e)) : ∀ q, q = e → P (f q) := fun q hq => by cases hq; exact h
theorem zr {e : Ty} (l : List (den e)) (n : Nat) : bv e l 0 (gg (lnx e l) (n : Int)) = l.take n ∧ bg 0 (gg (lnx e l) (n : Int)) (lnx e l) := by
 have h : lnx e l = (l.length : Int) := rfl
 unfold bv d2 gg bg
 rw [h]
 have h0 : Int.toNat 0 = 0 := rfl
 rw [h0, List.drop_zero]
 split
 ·rw [Int.toNat_natCast]
  exact ⟨rfl, by omega, by omega, by omega⟩
 ·rw [Int.toNat_natCast, List.take_length, List.take_of_length_le (by omega)]
  exact ⟨rfl, by omega, by omega, by omega⟩
end Go.Proofs.YtnakjijahkaoaaaDoor
namespace Go.Proofs.YtnakjijahkaoaaaDoor
open Go Go.RowKit
noncomputable abbrev ic : Fx := { fn := fp, ann := { } }
noncomputable abbrev iw : bl := { D := { T := cx, F := [], R := [], ovl := [] }, inl := [] }
noncomputable abbrev nt : cw := .data it
theorem nu : XOk prog iw := xok ((bP bR bt)) (by kernel_rfl) bu bM bN
noncomputable def iG (x : den (Ty.int IntKind.u32)) (k : den ah) : ab := ab.req (ge0 (IntKind.wrap IntKind.u64 (↑(BitVec.toNat (BitVec.ofInt (IntKind.bits IntKind.u64) (IntKind.wrap IntKind.u64 k) &&& BitVec.ofInt (IntKind.bits IntKind.u64) 31)) : Int))) (ab.req (ge0 (IntKind.wrap IntKind.u64 (32 - IntKind.wrap IntKind.u64 (↑(BitVec.toNat (BitVec.ofInt (IntKind.bits IntKind.u64) (IntKind.wrap IntKind.u64 k) &&& BitVec.ofInt (IntKind.bits IntKind.u64) 31)) : Int)))) (ab.ret (K.val (Ty.pair (Ty.int IntKind.u32) Ty.unit) (IntKind.wrap IntKind.u32 (↑(BitVec.toNat (BitVec.ofInt (IntKind.bits IntKind.u32) (IntKind.wrap IntKind.u32 (x * 2 ^ min (Int.toNat (IntKind.wrap IntKind.u64 (↑(BitVec.toNat (BitVec.ofInt (IntKind.bits IntKind.u64) (IntKind.wrap IntKind.u64 k) &&& BitVec.ofInt (IntKind.bits IntKind.u64) 31)) : Int))) (IntKind.bits IntKind.u32))) ||| BitVec.ofInt (IntKind.bits IntKind.u32) (Int.fdiv x (2 ^ min (Int.toNat (IntKind.wrap IntKind.u64 (32 - IntKind.wrap IntKind.u64 (↑(BitVec.toNat (BitVec.ofInt (IntKind.bits IntKind.u64) (IntKind.wrap IntKind.u64 k) &&& BitVec.ofInt (IntKind.bits IntKind.u64) 31)) : Int)))) (IntKind.bits IntKind.u32))))) : Int), PUnit.unit))))
theorem lj (x : den (Ty.int IntKind.u32)) (k : den ah) : aC iw nt 5000 [] ic (aZ fp) (Env.of (bc ik (x, k, ()) 0) []) = iG x k := by kernel_rfl
noncomputable abbrev jR : Fx := { fn := g8, ann := { } }
noncomputable abbrev kN : bl := { D := { T := cx, F := [], R := [], ovl := [] }, inl := [] }
noncomputable abbrev qx : cw := .data j4
theorem qu : XOk prog kN := xok ((bP bR bt)) (by kernel_rfl) bu bM bN
noncomputable def k5 : ab := ab.ret (K.val (Ty.pair af Ty.unit) (List.set (List.set (List.set (List.set (List.set (List.set (List.set (List.set (List.replicate 8 (zero (Ty.int IntKind.u32))) 0 1779033703) 1 3144134277) 2 1013904242) 3 2773480762) 4 1359893119) 5 2600822924) 6 528734635) 7 1541459225, PUnit.unit))
theorem nC : aC kN qx 5000 [] jR (aZ g8) (Env.of (bc jU () 0) []) = k5 := by kernel_rfl
end Go.Proofs.YtnakjijahkaoaaaDoor
namespace Go.Proofs.YtnakjijahkaoaaaDoor
open Go Go.RowKit
theorem bC {Gl : f7} {f : FuncId} {S : cv} (h : aY prog [] f S) : aY prog Gl f S := ⟨h.can, h.all, fun O w vs x hO _ hx hp => h.does O w vs x hO (fun _ _ _ h => by cases h) hx hp⟩
def Ag : DataW Unit → List Int
 | .agg l => l.map fun | .lit (.int _ n) => n | _ => 0
 | _ => []
def ib : List Int := Ag Rows.laid_posthouse_digest_keys
noncomputable abbrev gl : f7 := [(0, ⟨.arr 64 (.int .u32), ib⟩)]
def yo (k : Int) : Int := IntKind.wrap .u64 ((BitVec.toNat (BitVec.ofInt (IntKind.bits .u64) (IntKind.wrap .u64 k) &&& BitVec.ofInt (IntKind.bits .u64) 31) : Nat) : Int)
def cL (x k : Int) : Int :=
 IntKind.wrap .u32 ((BitVec.toNat (BitVec.ofInt (IntKind.bits .u32) (IntKind.wrap .u32 (x * 2 ^ min (Int.toNat (yo k)) (IntKind.bits .u32))) |||
  BitVec.ofInt (IntKind.bits .u32) (Int.fdiv x (2 ^ min (Int.toNat (IntKind.wrap .u64 (32 - yo k))) (IntKind.bits .u32)))) : Nat) : Int)
theorem uK (n : Int) : 0 ≤ IntKind.wrap .u64 n := by
 have : IntKind.wrap .u64 n = n % 18446744073709551616 := rfl
 rw [this]
 exact Int.emod_nonneg _ (by decide)
noncomputable abbrev cr : cv := ⟨ik, it, fun x => (cL x.1 x.2.1, ()), fun _ => True, true⟩
theorem cq : aY prog [] cp cr :=
 dr (S := cr) nu (fx := ic) mD (by kernel_rfl) (fun _ _ => trivial) (T := fun x => iG x.1 x.2.1) (fun x => lj x.1 x.2.1) fun O w0 x _ _ =>
  ⟨uK _, uK _, _, rfl, rfl⟩
def iR : List Int := [1779033703, 3144134277, 1013904242, 2773480762, 1359893119, 2600822924, 528734635, 1541459225]
noncomputable abbrev fC : cv := ⟨jU, j4, fun _ => (iR, ()), fun _ => True, true⟩
theorem qK : aY prog [] fH fC :=
 dr (S := fC) qu (fx := jR) p5 (by kernel_rfl) (fun _ _ => trivial) (T := fun _ => k5) (fun _ => nC) fun O w0 x _ _ => ⟨_, rfl, rfl⟩
end Go.Proofs.YtnakjijahkaoaaaDoor
namespace Go.Proofs.YtnakjijahkaoaaaDoor
open Go Go.RowKit
noncomputable abbrev m4 : Fx := { fn := j5, ann := { } }
noncomputable abbrev nX : bl := { D := { T := cx, F := [(cp, cr)], R := [], ovl := [] }, inl := [] }
noncomputable abbrev uM : cw := .data nf
theorem uH (h_bits_RotateLeft32 : aY prog [] cp cr) : XOk prog nX := xok (bf (bP bR bt) h_bits_RotateLeft32) (by kernel_rfl) bu bM bN
noncomputable def nx (x : den (Ty.int IntKind.u32)) (a : den ah) (b : den ah) (c : den (Ty.int IntKind.u32)) : ab := ab.req True (ab.req True (ab.ret (K.val (Ty.pair (Ty.int IntKind.u32) Ty.unit) (IntKind.wrap IntKind.u32 (↑(BitVec.toNat (BitVec.ofInt (IntKind.bits IntKind.u32) (IntKind.wrap IntKind.u32 (↑(BitVec.toNat (BitVec.ofInt (IntKind.bits IntKind.u32) (cL x (IntKind.wrap IntKind.i64 (rL a))) ^^^ BitVec.ofInt (IntKind.bits IntKind.u32) (cL x (IntKind.wrap IntKind.i64 (rL b))))) : Int)) ^^^ BitVec.ofInt (IntKind.bits IntKind.u32) c)) : Int), PUnit.unit))))
theorem qv (x : den (Ty.int IntKind.u32)) (a : den ah) (b : den ah) (c : den (Ty.int IntKind.u32)) : aC nX uM 5000 [] m4 (aZ j5) (Env.of (bc m0 (x, a, b, c, ()) 0) []) = nx x a b c := by kernel_rfl
noncomputable abbrev c5 : Fx := { fn := cP, ann := { loops := [(3, { keep := [0, 3, 6, 7] })] } }
noncomputable abbrev fE : bl := { D := { T := cx, F := [], R := [], ovl := [] }, inl := [] }
noncomputable abbrev kJ : cw := .data gJ
theorem ii : XOk prog fE := xok ((bP bR bt)) (by kernel_rfl) bu bM bN
noncomputable def kL (s : den Ty.str) : ab := ab.loop [] c5 (lp cP 3) [(0, K.val Ty.str s), (3, K.val (Ty.int IntKind.u32) 0), (6, K.val ah (cj s)), (7, K.val ah 0)] []
theorem n7 (s : den Ty.str) : aC fE kJ 5000 [] c5 (aZ cP) (Env.of (bc jV (s, ()) 0) []) = kL s := by kernel_rfl
noncomputable def js (v0 : den Ty.str) (v3 : den (Ty.int IntKind.u32)) (v6 : den ah) (v7 : den ah) : Env := Env.of [(0, K.val Ty.str v0), (3, K.val (Ty.int IntKind.u32) v3), (6, K.val ah v6), (7, K.val ah v7)] []
noncomputable def nM (v0 : den Ty.str) (v3 : den (Ty.int IntKind.u32)) (v6 : den ah) (v7 : den ah) : ab := ab.ite (decide (v7 < v6)) (ab.req (ge0 8) (ab.req (inB v7 (cj v0)) (ab.loop [] c5 (lp cP 3) [(0, K.val Ty.str v0), (3, K.val (Ty.int IntKind.u32) (IntKind.wrap IntKind.u32 (↑(BitVec.toNat (BitVec.ofInt (IntKind.bits IntKind.u32) (IntKind.wrap IntKind.u32 (v3 * 2 ^ min (Int.toNat 8) (IntKind.bits IntKind.u32))) ||| BitVec.ofInt (IntKind.bits IntKind.u32) (IntKind.wrap IntKind.u32 (sAt v0 v7)))) : Int))), (6, K.val ah v6), (7, K.val ah (IntKind.wrap IntKind.i64 (v7 + 1)))] []))) (ab.ret (K.val (Ty.pair (Ty.int IntKind.u32) Ty.unit) (v3, PUnit.unit)))
theorem gR (v0 : den Ty.str) (v3 : den (Ty.int IntKind.u32)) (v6 : den ah) (v7 : den ah) : aC fE kJ 5000 [] c5 (lp cP 3) (js v0 v3 v6 v7) = nM v0 v3 v6 v7 := by kernel_rfl
end Go.Proofs.YtnakjijahkaoaaaDoor
namespace Go.Proofs.YtnakjijahkaoaaaDoor
open Go Go.RowKit
def wS (a b : Int) : Int := IntKind.wrap .u32 ((BitVec.toNat (BitVec.ofInt (IntKind.bits .u32) a ^^^ BitVec.ofInt (IntKind.bits .u32) b) : Nat) : Int)
def yD (a b : Int) : Int := IntKind.wrap .u32 ((BitVec.toNat (BitVec.ofInt (IntKind.bits .u32) a &&& BitVec.ofInt (IntKind.bits .u32) b) : Nat) : Int)
def lor (a b : Int) : Int := IntKind.wrap .u32 ((BitVec.toNat (BitVec.ofInt (IntKind.bits .u32) a ||| BitVec.ofInt (IntKind.bits .u32) b) : Nat) : Int)
def kb (a b : Int) : Int := IntKind.wrap .u32 (a + b)
def dq (x a b c : Int) : Int := wS (wS (cL x (IntKind.wrap .i64 (rL a))) (cL x (IntKind.wrap .i64 (rL b)))) c
noncomputable abbrev iq : cv := ⟨m0, nf, fun x => (dq x.1 x.2.1 x.2.2.1 x.2.2.2.1, ()), fun _ => True, true⟩
theorem fK : aY prog [] ir iq :=
 dr (S := iq) (uH cq) (fx := m4) s9 (by kernel_rfl) (fun _ _ => trivial) (T := fun x => nx x.1 x.2.1 x.2.2.1 x.2.2.2.1) (fun x => qv x.1 x.2.1 x.2.2.1 x.2.2.2.1) fun O w0 x _ _ =>
  ⟨trivial, trivial, _, rfl, rfl⟩
def oR (n b : Int) : Int := lor (IntKind.wrap .u32 (n * 2 ^ min (Int.toNat 8) (IntKind.bits .u32))) (IntKind.wrap .u32 b)
def mP (s : ByteArray) : Int := (a8 s).foldl oR 0
noncomputable abbrev fF : cv := ⟨jV, gJ, fun x => (mP x.1, ()), fun x => ByteArray.size x.1 ≤ 1000000, false⟩
theorem oH (s : ByteArray) : (a8 s).length = s.size := by
 unfold a8
 rw [List.length_map, Array.length_toList]
 rfl
theorem yJ (s : ByteArray) {i : Nat} (hi : i < s.size) : (a8 s)[i]'(by rw [oH]; exact hi) = sAt s (i : Nat) := by
 have hd : i < s.data.size := hi
 unfold a8 sAt
 rw [List.getElem_map, Int.toNat_natCast, Array.getElem?_eq_getElem hd]
 rfl
theorem tz (s : ByteArray) {i : Nat} : decide ((i : Int) < cj s) = decide (i < s.size) := by
 rw [Bool.eq_iff_iff, decide_eq_true_eq, decide_eq_true_eq]
 exact ⟨fun h => by have h : (i : Int) < (s.size : Int) := h; omega, fun h => by show (i : Int) < (s.size : Int); omega⟩
def pZ (O : Nat → Prop) (w0 : World) (s : ByteArray) (hs : s.size ≤ 1000000) :=
 PLift.up <| c7 (σ := Int) s.size (fun i n => n = ((a8 s).take i).foldl oR 0)
  (fun i n => bo prog fE (Cx.base O w0) (eV prog O w0 gJ fun y => y = (mP s, ())) [] c5 (lp cP 3) (js s n (cj s) (i : Nat)))
  (fun i n hi hn ih => aQ ii (gR s n _ _) (by
   refine ⟨fun _ => ⟨show (0 : Int) ≤ 8 by decide, ⟨Int.natCast_nonneg _, Int.ofNat_lt.2 hi⟩, ?_⟩, fun h => ?_⟩
   ·rw [dE hi (by omega)]
    refine ih (oR n (sAt s (i : Nat))) ?_
    have hi' : i < (a8 s).length := by rw [oH]; exact hi
    rw [List.take_succ_eq_append_getElem hi', List.foldl_append, ← hn, yJ s hi]
    rfl
   ·rw [tz] at h
    exact absurd hi (of_decide_eq_false h)))
  (fun n hn => aQ ii (gR s n _ _) (by
   refine ⟨fun h => ?_, fun _ => ⟨_, rfl, ?_⟩⟩
   ·rw [tz] at h
    exact absurd (of_decide_eq_true h) (Nat.lt_irrefl _)
   ·have hn : n = ((a8 s).take s.size).foldl oR 0 := hn
    rw [List.take_of_length_le (by rw [oH]; exact Nat.le_refl _)] at hn
    rw [hn]; rfl))
theorem dS : aY prog [] fA fF :=
 dr (S := fF) ii (fx := c5) pI (by kernel_rfl) (fun h => by cases h) (T := fun x => kL x.1) (fun x => n7 x.1) fun O w0 x _ hp =>
  (pZ O w0 x.1 hp).down 0 0 (Nat.zero_le _) rfl
end Go.Proofs.YtnakjijahkaoaaaDoor
namespace Go.Proofs.YtnakjijahkaoaaaDoor
open Go Go.RowKit
noncomputable abbrev aT : Fx := { fn := aR, ann := { loops := [(4, { keep := [1, 2, 4, 5, 6, 16] }), (16, { keep := [2, 4, 6, 126] })] }, share := true, shareD := true }
noncomputable abbrev cu : bl := { D := { T := cx, F := [(cp, cr), (ir, iq), (fA, fF)], R := [], ovl := [], G := gl }, inl := [] }
noncomputable abbrev fq : cw := .data dm
theorem cX (h_bits_RotateLeft32 : aY prog gl cp cr) (h_digest_two : aY prog gl ir iq) (h_digest_number : aY prog gl fA fF) : XOk prog cu := xok (bf (bf (bf (bP bR bt) h_digest_number) h_digest_two) h_bits_RotateLeft32) (by kernel_rfl) bu bM bN
noncomputable def iF (h : den af) (s : den Ty.str) : ab := ab.loop [] aT (lp aR 4) [(1, K.val Ty.str s), (2, K.ptr 0 af []), (4, K.ptr (0 + 1) af []), (5, K.ptr (0 + 1 + 1) (Ty.arr 64 (Ty.int IntKind.u32)) []), (6, K.ptr (0 + 1 + 1 + 1) af []), (16, K.val ah 0)] [(0, Bx.cell af h), (0 + 1, Bx.cell af (zero af)), (0 + 1 + 1, Bx.cell (Ty.arr 64 (Ty.int IntKind.u32)) (zero (Ty.arr 64 (Ty.int IntKind.u32)))), (0 + 1 + 1 + 1, Bx.cell af h)]
theorem lm (h : den af) (s : den Ty.str) : aC cu fq 5000 [] aT (aZ aR) (Env.of (bc ig (h, s, ()) 0) []) = iF h s := by kernel_rfl
noncomputable def da (v1 : den Ty.str) (v16 : den ah) (b0 : den af) (b1 : den af) (b2 : den (Ty.arr 64 (Ty.int IntKind.u32))) (b3 : den af) : Env := Env.of [(1, K.val Ty.str v1), (2, K.ptr 0 af []), (4, K.ptr (0 + 1) af []), (5, K.ptr (0 + 1 + 1) (Ty.arr 64 (Ty.int IntKind.u32)) []), (6, K.ptr (0 + 1 + 1 + 1) af []), (16, K.val ah v16)] [(0, Bx.cell af b0), (1, Bx.cell af b1), (2, Bx.cell (Ty.arr 64 (Ty.int IntKind.u32)) b2), (3, Bx.cell af b3)]
noncomputable def li (v1 : den Ty.str) (v16 : den ah) (b0 : den af) (b1 : den af) (b2 : den (Ty.arr 64 (Ty.int IntKind.u32))) (b3 : den af) : ab := ab.ite (decide (v16 < 64)) (ab.ite (decide (v16 < 16)) (ab.req (bg (IntKind.wrap IntKind.i64 (4 * v16)) (IntKind.wrap IntKind.i64 (IntKind.wrap IntKind.i64 (4 * v16) + 4)) (cj v1)) (ab.req (ByteArray.size (eO v1 (IntKind.wrap IntKind.i64 (4 * v16)) (IntKind.wrap IntKind.i64 (IntKind.wrap IntKind.i64 (4 * v16) + 4))) ≤ 1000000) (ab.all (den (Ty.int IntKind.u32)) (fun (q6 : den (Ty.int IntKind.u32)) ↦ q6 = mP (eO v1 (IntKind.wrap IntKind.i64 (4 * v16)) (IntKind.wrap IntKind.i64 (IntKind.wrap IntKind.i64 (4 * v16) + 4)))) fun (q6 : den (Ty.int IntKind.u32)) ↦ ab.req (inB v16 (↑64 : Int)) (ab.req (inB 0 (↑8 : Int)) (ab.req (inB 4 (↑8 : Int)) (ab.all (den (Ty.int IntKind.u32)) (fun (q7 : den (Ty.int IntKind.u32)) ↦ q7 = el (Ty.int IntKind.u32) b3 0) fun (q7 : den (Ty.int IntKind.u32)) ↦ ab.all (den (Ty.int IntKind.u32)) (fun (q8 : den (Ty.int IntKind.u32)) ↦ q8 = el (Ty.int IntKind.u32) b3 4) fun (q8 : den (Ty.int IntKind.u32)) ↦ ab.req (inB 7 (↑8 : Int)) (ab.req True (ab.req True (ab.req (inB 6 (↑8 : Int)) (ab.req (inB 5 (↑8 : Int)) (ab.req (inB 6 (↑8 : Int)) (ab.req (inB v16 (↑64 : Int)) (ab.req (inB v16 (↑64 : Int)) (ab.all (den (Ty.int IntKind.u32)) (fun (q9 : den (Ty.int IntKind.u32)) ↦ q9 = cL q8 (-25)) fun (q9 : den (Ty.int IntKind.u32)) ↦ ab.all (den (Ty.int IntKind.u32)) (fun (q10 : den (Ty.int IntKind.u32)) ↦ q10 = dq q8 6 11 (cL q8 (-25))) fun (q10 : den (Ty.int IntKind.u32)) ↦ ab.all (den (Ty.int IntKind.u32)) (fun (q11 : den (Ty.int IntKind.u32)) ↦ q11 = IntKind.wrap IntKind.u32 (IntKind.wrap IntKind.u32 (IntKind.wrap IntKind.u32 (IntKind.wrap IntKind.u32 (el (Ty.int IntKind.u32) b3 7 + dq q8 6 11 (cL q8 (-25))) + IntKind.wrap IntKind.u32 (↑(BitVec.toNat (BitVec.ofInt (IntKind.bits IntKind.u32) (el (Ty.int IntKind.u32) b3 6) ^^^ BitVec.ofInt (IntKind.bits IntKind.u32) (IntKind.wrap IntKind.u32 (↑(BitVec.toNat (BitVec.ofInt (IntKind.bits IntKind.u32) q8 &&& BitVec.ofInt (IntKind.bits IntKind.u32) (IntKind.wrap IntKind.u32 (↑(BitVec.toNat (BitVec.ofInt (IntKind.bits IntKind.u32) (el (Ty.int IntKind.u32) b3 5) ^^^ BitVec.ofInt (IntKind.bits IntKind.u32) (el (Ty.int IntKind.u32) b3 6))) : Int)))) : Int)))) : Int)) + el (Ty.int IntKind.u32) ib v16) + el (Ty.int IntKind.u32) (ff (Ty.int IntKind.u32) b2 v16 q6) v16)) fun (q11 : den (Ty.int IntKind.u32)) ↦ ab.req (inB 1 (↑8 : Int)) (ab.req (inB 2 (↑8 : Int)) (ab.req (inB 1 (↑8 : Int)) (ab.req True (ab.req True (ab.req (inB 1 (↑8 : Int)) (ab.req (inB 2 (↑8 : Int)) (ab.req (inB 3 (↑8 : Int)) (ab.req (inB 5 (↑8 : Int)) (ab.req (inB 6 (↑8 : Int)) (ab.all (den (Ty.int IntKind.u32)) (fun (q12 : den (Ty.int IntKind.u32)) ↦ q12 = cL q7 (-22)) fun (q12 : den (Ty.int IntKind.u32)) ↦ ab.all (den (Ty.int IntKind.u32)) (fun (q13 : den (Ty.int IntKind.u32)) ↦ q13 = dq q7 2 13 (cL q7 (-22))) fun (q13 : den (Ty.int IntKind.u32)) ↦ ab.loop [] aT (lp aR 4) [(1, K.val Ty.str v1), (2, K.ptr 0 af []), (4, K.ptr (0 + 1) af []), (5, K.ptr (0 + 1 + 1) (Ty.arr 64 (Ty.int IntKind.u32)) []), (6, K.ptr (0 + 1 + 1 + 1) af []), (16, K.val ah (IntKind.wrap IntKind.i64 (v16 + 1)))] [(0, Bx.cell af b0), (0 + 1, Bx.cell af b1), (0 + 1 + 1, Bx.cell (Ty.arr 64 (Ty.int IntKind.u32)) (ff (Ty.int IntKind.u32) b2 v16 q6)), (0 + 1 + 1 + 1, Bx.cell af (List.set (List.set (List.set (List.set (List.set (List.set (List.set (List.set (List.replicate 8 (zero (Ty.int IntKind.u32))) 0 (IntKind.wrap IntKind.u32 (IntKind.wrap IntKind.u32 (q11 + dq q7 2 13 (cL q7 (-22))) + IntKind.wrap IntKind.u32 (↑(BitVec.toNat (BitVec.ofInt (IntKind.bits IntKind.u32) (IntKind.wrap IntKind.u32 (↑(BitVec.toNat (BitVec.ofInt (IntKind.bits IntKind.u32) q7 &&& BitVec.ofInt (IntKind.bits IntKind.u32) (el (Ty.int IntKind.u32) b3 1))) : Int)) ||| BitVec.ofInt (IntKind.bits IntKind.u32) (IntKind.wrap IntKind.u32 (↑(BitVec.toNat (BitVec.ofInt (IntKind.bits IntKind.u32) (el (Ty.int IntKind.u32) b3 2) &&& BitVec.ofInt (IntKind.bits IntKind.u32) (IntKind.wrap IntKind.u32 (↑(BitVec.toNat (BitVec.ofInt (IntKind.bits IntKind.u32) q7 ||| BitVec.ofInt (IntKind.bits IntKind.u32) (el (Ty.int IntKind.u32) b3 1))) : Int)))) : Int)))) : Int)))) 1 q7) 2 (el (Ty.int IntKind.u32) b3 1)) 3 (el (Ty.int IntKind.u32) b3 2)) 4 (IntKind.wrap IntKind.u32 (el (Ty.int IntKind.u32) b3 3 + q11))) 5 q8) 6 (el (Ty.int IntKind.u32) b3 5)) 7 (el (Ty.int IntKind.u32) b3 6)))])))))))))))))))))))))))) (ab.req (inB (IntKind.wrap IntKind.i64 (v16 - 15)) (↑64 : Int)) (ab.req (inB (IntKind.wrap IntKind.i64 (v16 - 2)) (↑64 : Int)) (ab.all (den (Ty.int IntKind.u32)) (fun (q6 : den (Ty.int IntKind.u32)) ↦ q6 = el (Ty.int IntKind.u32) b2 (IntKind.wrap IntKind.i64 (v16 - 15))) fun (q6 : den (Ty.int IntKind.u32)) ↦ ab.all (den (Ty.int IntKind.u32)) (fun (q7 : den (Ty.int IntKind.u32)) ↦ q7 = el (Ty.int IntKind.u32) b2 (IntKind.wrap IntKind.i64 (v16 - 2))) fun (q7 : den (Ty.int IntKind.u32)) ↦ ab.req (ge0 10) (ab.req True (ab.req (inB (IntKind.wrap IntKind.i64 (v16 - 7)) (↑64 : Int)) (ab.req (ge0 3) (ab.req True (ab.req (inB (IntKind.wrap IntKind.i64 (v16 - 16)) (↑64 : Int)) (ab.req (inB v16 (↑64 : Int)) (ab.all (den (Ty.int IntKind.u32)) (fun (q8 : den (Ty.int IntKind.u32)) ↦ q8 = dq q7 17 19 (Int.fdiv q7 (2 ^ min (Int.toNat 10) (IntKind.bits IntKind.u32)))) fun (q8 : den (Ty.int IntKind.u32)) ↦ ab.all (den (Ty.int IntKind.u32)) (fun (q9 : den (Ty.int IntKind.u32)) ↦ q9 = dq q6 7 18 (Int.fdiv q6 (2 ^ min (Int.toNat 3) (IntKind.bits IntKind.u32)))) fun (q9 : den (Ty.int IntKind.u32)) ↦ ab.req (inB 0 (↑8 : Int)) (ab.req (inB 4 (↑8 : Int)) (ab.all (den (Ty.int IntKind.u32)) (fun (q10 : den (Ty.int IntKind.u32)) ↦ q10 = el (Ty.int IntKind.u32) b3 0) fun (q10 : den (Ty.int IntKind.u32)) ↦ ab.all (den (Ty.int IntKind.u32)) (fun (q11 : den (Ty.int IntKind.u32)) ↦ q11 = el (Ty.int IntKind.u32) b3 4) fun (q11 : den (Ty.int IntKind.u32)) ↦ ab.req (inB 7 (↑8 : Int)) (ab.req True (ab.req True (ab.req (inB 6 (↑8 : Int)) (ab.req (inB 5 (↑8 : Int)) (ab.req (inB 6 (↑8 : Int)) (ab.req (inB v16 (↑64 : Int)) (ab.req (inB v16 (↑64 : Int)) (ab.all (den (Ty.int IntKind.u32)) (fun (q12 : den (Ty.int IntKind.u32)) ↦ q12 = cL q11 (-25)) fun (q12 : den (Ty.int IntKind.u32)) ↦ ab.all (den (Ty.int IntKind.u32)) (fun (q13 : den (Ty.int IntKind.u32)) ↦ q13 = dq q11 6 11 (cL q11 (-25))) fun (q13 : den (Ty.int IntKind.u32)) ↦ ab.all (den (Ty.int IntKind.u32)) (fun (q14 : den (Ty.int IntKind.u32)) ↦ q14 = IntKind.wrap IntKind.u32 (IntKind.wrap IntKind.u32 (IntKind.wrap IntKind.u32 (IntKind.wrap IntKind.u32 (el (Ty.int IntKind.u32) b3 7 + dq q11 6 11 (cL q11 (-25))) + IntKind.wrap IntKind.u32 (↑(BitVec.toNat (BitVec.ofInt (IntKind.bits IntKind.u32) (el (Ty.int IntKind.u32) b3 6) ^^^ BitVec.ofInt (IntKind.bits IntKind.u32) (IntKind.wrap IntKind.u32 (↑(BitVec.toNat (BitVec.ofInt (IntKind.bits IntKind.u32) q11 &&& BitVec.ofInt (IntKind.bits IntKind.u32) (IntKind.wrap IntKind.u32 (↑(BitVec.toNat (BitVec.ofInt (IntKind.bits IntKind.u32) (el (Ty.int IntKind.u32) b3 5) ^^^ BitVec.ofInt (IntKind.bits IntKind.u32) (el (Ty.int IntKind.u32) b3 6))) : Int)))) : Int)))) : Int)) + el (Ty.int IntKind.u32) ib v16) + el (Ty.int IntKind.u32) (ff (Ty.int IntKind.u32) b2 v16 (IntKind.wrap IntKind.u32 (IntKind.wrap IntKind.u32 (IntKind.wrap IntKind.u32 (dq q7 17 19 (Int.fdiv q7 (2 ^ min (Int.toNat 10) (IntKind.bits IntKind.u32))) + el (Ty.int IntKind.u32) b2 (IntKind.wrap IntKind.i64 (v16 - 7))) + dq q6 7 18 (Int.fdiv q6 (2 ^ min (Int.toNat 3) (IntKind.bits IntKind.u32)))) + el (Ty.int IntKind.u32) b2 (IntKind.wrap IntKind.i64 (v16 - 16))))) v16)) fun (q14 : den (Ty.int IntKind.u32)) ↦ ab.req (inB 1 (↑8 : Int)) (ab.req (inB 2 (↑8 : Int)) (ab.req (inB 1 (↑8 : Int)) (ab.req True (ab.req True (ab.req (inB 1 (↑8 : Int)) (ab.req (inB 2 (↑8 : Int)) (ab.req (inB 3 (↑8 : Int)) (ab.req (inB 5 (↑8 : Int)) (ab.req (inB 6 (↑8 : Int)) (ab.all (den (Ty.int IntKind.u32)) (fun (q15 : den (Ty.int IntKind.u32)) ↦ q15 = cL q10 (-22)) fun (q15 : den (Ty.int IntKind.u32)) ↦ ab.all (den (Ty.int IntKind.u32)) (fun (q16 : den (Ty.int IntKind.u32)) ↦ q16 = dq q10 2 13 (cL q10 (-22))) fun (q16 : den (Ty.int IntKind.u32)) ↦ ab.loop [] aT (lp aR 4) [(1, K.val Ty.str v1), (2, K.ptr 0 af []), (4, K.ptr (0 + 1) af []), (5, K.ptr (0 + 1 + 1) (Ty.arr 64 (Ty.int IntKind.u32)) []), (6, K.ptr (0 + 1 + 1 + 1) af []), (16, K.val ah (IntKind.wrap IntKind.i64 (v16 + 1)))] [(0, Bx.cell af b0), (0 + 1, Bx.cell af b1), (0 + 1 + 1, Bx.cell (Ty.arr 64 (Ty.int IntKind.u32)) (ff (Ty.int IntKind.u32) b2 v16 (IntKind.wrap IntKind.u32 (IntKind.wrap IntKind.u32 (IntKind.wrap IntKind.u32 (dq q7 17 19 (Int.fdiv q7 (2 ^ min (Int.toNat 10) (IntKind.bits IntKind.u32))) + el (Ty.int IntKind.u32) b2 (IntKind.wrap IntKind.i64 (v16 - 7))) + dq q6 7 18 (Int.fdiv q6 (2 ^ min (Int.toNat 3) (IntKind.bits IntKind.u32)))) + el (Ty.int IntKind.u32) b2 (IntKind.wrap IntKind.i64 (v16 - 16)))))), (0 + 1 + 1 + 1, Bx.cell af (List.set (List.set (List.set (List.set (List.set (List.set (List.set (List.set (List.replicate 8 (zero (Ty.int IntKind.u32))) 0 (IntKind.wrap IntKind.u32 (IntKind.wrap IntKind.u32 (q14 + dq q10 2 13 (cL q10 (-22))) + IntKind.wrap IntKind.u32 (↑(BitVec.toNat (BitVec.ofInt (IntKind.bits IntKind.u32) (IntKind.wrap IntKind.u32 (↑(BitVec.toNat (BitVec.ofInt (IntKind.bits IntKind.u32) q10 &&& BitVec.ofInt (IntKind.bits IntKind.u32) (el (Ty.int IntKind.u32) b3 1))) : Int)) ||| BitVec.ofInt (IntKind.bits IntKind.u32) (IntKind.wrap IntKind.u32 (↑(BitVec.toNat (BitVec.ofInt (IntKind.bits IntKind.u32) (el (Ty.int IntKind.u32) b3 2) &&& BitVec.ofInt (IntKind.bits IntKind.u32) (IntKind.wrap IntKind.u32 (↑(BitVec.toNat (BitVec.ofInt (IntKind.bits IntKind.u32) q10 ||| BitVec.ofInt (IntKind.bits IntKind.u32) (el (Ty.int IntKind.u32) b3 1))) : Int)))) : Int)))) : Int)))) 1 q10) 2 (el (Ty.int IntKind.u32) b3 1)) 3 (el (Ty.int IntKind.u32) b3 2)) 4 (IntKind.wrap IntKind.u32 (el (Ty.int IntKind.u32) b3 3 + q14))) 5 q11) 6 (el (Ty.int IntKind.u32) b3 5)) 7 (el (Ty.int IntKind.u32) b3 6)))]))))))))))))))))))))))))))))))) (ab.loop [] aT (lp aR 16) [(2, K.ptr 0 af []), (4, K.ptr (0 + 1) af []), (6, K.ptr (0 + 1 + 1) af []), (126, K.val ah 0)] [(0, Bx.cell af b0), (0 + 1, Bx.cell af b1), (0 + 1 + 1, Bx.cell af b3)])
theorem fI (v1 : den Ty.str) (v16 : den ah) (b0 : den af) (b1 : den af) (b2 : den (Ty.arr 64 (Ty.int IntKind.u32))) (b3 : den af) : aC cu fq 5000 [] aT (lp aR 4) (da v1 v16 b0 b1 b2 b3) = li v1 v16 b0 b1 b2 b3 := by kernel_rfl
noncomputable def gn (v126 : den ah) (b0 : den af) (b1 : den af) (b2 : den af) : Env := Env.of [(2, K.ptr 0 af []), (4, K.ptr (0 + 1) af []), (6, K.ptr (0 + 1 + 1) af []), (126, K.val ah v126)] [(0, Bx.cell af b0), (1, Bx.cell af b1), (2, Bx.cell af b2)]
noncomputable def kE (v126 : den ah) (b0 : den af) (b1 : den af) (b2 : den af) : ab := ab.ite (decide (v126 < 8)) (ab.req (inB v126 (↑8 : Int)) (ab.req (inB v126 (↑8 : Int)) (ab.req (inB v126 (↑8 : Int)) (ab.loop [] aT (lp aR 16) [(2, K.ptr 0 af []), (4, K.ptr (0 + 1) af []), (6, K.ptr (0 + 1 + 1) af []), (126, K.val ah (IntKind.wrap IntKind.i64 (v126 + 1)))] [(0, Bx.cell af (ff (Ty.int IntKind.u32) b0 v126 (IntKind.wrap IntKind.u32 (el (Ty.int IntKind.u32) b0 v126 + el (Ty.int IntKind.u32) b2 v126)))), (0 + 1, Bx.cell af b1), (0 + 1 + 1, Bx.cell af b2)])))) (ab.ret (K.val (Ty.pair af Ty.unit) (b0, PUnit.unit)))
theorem fg (v126 : den ah) (b0 : den af) (b1 : den af) (b2 : den af) : aC cu fq 5000 [] aT (lp aR 16) (gn v126 b0 b1 b2) = kE v126 b0 b1 b2 := by kernel_rfl
end Go.Proofs.YtnakjijahkaoaaaDoor
namespace Go.Proofs.YtnakjijahkaoaaaDoor
open Go Go.RowKit
abbrev bV (l : List Int) (n : Int) : Int := el (.int .u32) l n
def zu (x : Int) (k : Int) : Int := Int.fdiv x (2 ^ min (Int.toNat k) (IntKind.bits .u32))
def Av (k : Int) (wt : Int) (v : List Int) : Int :=
 kb (kb (kb (kb (bV v 7) (dq (bV v 4) 6 11 (cL (bV v 4) (-25)))) (wS (bV v 6) (yD (bV v 4) (wS (bV v 5) (bV v 6))))) k) wt
def AD (v : List Int) : Int := lor (yD (bV v 0) (bV v 1)) (yD (bV v 2) (lor (bV v 0) (bV v 1)))
def ovV (k : Int) (wt : Int) (v : List Int) : List Int :=
 List.set (List.set (List.set (List.set (List.set (List.set (List.set (List.set (List.replicate 8 (zero (.int .u32))) 0
  (kb (kb (Av k wt v) (dq (bV v 0) 2 13 (cL (bV v 0) (-22)))) (AD v))) 1 (bV v 0)) 2 (bV v 1)) 3 (bV v 2)) 4 (kb (bV v 3) (Av k wt v))) 5 (bV v 4)) 6 (bV v 5)) 7 (bV v 6)
def ovB (s : ByteArray) (t : Int) : Int := mP (eO s (IntKind.wrap .i64 (4 * t)) (IntKind.wrap .i64 (IntKind.wrap .i64 (4 * t) + 4)))
def ovN (w : List Int) (t : Int) : Int :=
 kb (kb (kb (dq (bV w (IntKind.wrap .i64 (t - 2))) 17 19 (zu (bV w (IntKind.wrap .i64 (t - 2))) 10)) (bV w (IntKind.wrap .i64 (t - 7))))
  (dq (bV w (IntKind.wrap .i64 (t - 15))) 7 18 (zu (bV w (IntKind.wrap .i64 (t - 15))) 3))) (bV w (IntKind.wrap .i64 (t - 16)))
def ovW (s : ByteArray) (w : List Int) (t : Int) : List Int := if t < 16 then ff (.int .u32) w t (ovB s t) else ff (.int .u32) w t (ovN w t)
def ovS (s : ByteArray) (v : List Int) : Nat → List Int × List Int
 | 0 => (zero (.arr 64 (.int .u32)), v)
 | i + 1 =>
  let p := ovS s v i
  let w := ovW s p.1 i
  (w, ovV (bV ib i) (bV w i) p.2)
def ovA (h v : List Int) : Nat → List Int
 | 0 => h
 | i + 1 => ff (.int .u32) (ovA h v i) i (kb (bV (ovA h v i) i) (bV v i))
def nY (h : List Int) (s : ByteArray) : List Int := ovA h (ovS s h 64).2 8
noncomputable abbrev dI : cv := ⟨ig, dm, fun x => (nY x.1 x.2.1, ()), fun x => ByteArray.size x.2.1 = 64, false⟩
def kF (O : Nat → Prop) (w0 : World) (h v1 v : List Int) (out : List Int) (ho : out = ovA h v 8) :=
 PLift.up <| c7 (σ := List Int) 8 (fun i b => b = ovA h v i)
  (fun i b => bo prog cu (Cx.base O w0) (eV prog O w0 dm fun y => y = (out, ())) [] aT (lp aR 16) (gn (i : Nat) b v1 v))
  (fun i b hi hb ih => aQ (cX (bC cq) (bC fK) (bC dS)) (fg _ b v1 v) (by
   refine ⟨fun _ => ⟨⟨Int.natCast_nonneg _, Int.ofNat_lt.2 hi⟩, ⟨Int.natCast_nonneg _, Int.ofNat_lt.2 hi⟩, ⟨Int.natCast_nonneg _, Int.ofNat_lt.2 hi⟩, ?_⟩, fun h => ?_⟩
   ·rw [dE hi (by omega)]
    refine ih _ ?_
    rw [hb]
    rfl
   ·exact absurd (Int.ofNat_lt.2 hi) (of_decide_eq_false h)))
  (fun b hb => aQ (cX (bC cq) (bC fK) (bC dS)) (fg _ b v1 v) (by
   refine ⟨fun h => ?_, fun _ => ⟨_, rfl, ?_⟩⟩
   ·exact absurd (of_decide_eq_true h) (by decide)
   ·show (b, ()) = (out, ())
    rw [hb, ho]))
theorem xT (s : ByteArray) (a b : Int) : (eO s a b).size ≤ s.size := by
 unfold eO; rw [ByteArray.size_extract]; omega
theorem wr4 {i : Nat} (h : i < 16) : IntKind.wrap .i64 (4 * (i : Int)) = 4 * (i : Int) ∧ IntKind.wrap .i64 (IntKind.wrap .i64 (4 * (i : Int)) + 4) = 4 * (i : Int) + 4 := by
 have h1 : IntKind.wrap .i64 (4 * (i : Int)) = 4 * (i : Int) := gW (by omega)
 refine ⟨h1, ?_⟩
 rw [h1]
 exact gW (by omega)
theorem wrm {i : Nat} (k : Int) (h : i < 64) (h0 : 0 ≤ k) (h1 : k ≤ i) : inB (IntKind.wrap .i64 ((i : Int) - k)) ((64 : Nat) : Int) := by
 rw [gW (by omega)]
 exact ⟨by omega, by omega⟩
theorem dB {a b : Int} (h : decide (0 ≤ a ∧ a < b) = true := by rfl) : inB a b := (of_decide_eq_true h : 0 ≤ a ∧ a < b)
theorem d0 {a : Int} (h : decide (0 ≤ a) = true := by rfl) : ge0 a := (of_decide_eq_true h : 0 ≤ a)
def lC (O : Nat → Prop) (w0 : World) (h b1 : List Int) (s : ByteArray) (hs : s.size = 64) :=
 PLift.up <| c7 (σ := List Int × List Int) 64 (fun i b => b = ovS s h i)
  (fun i b => bo prog cu (Cx.base O w0) (eV prog O w0 dm fun y => y = (nY h s, ())) [] aT (lp aR 4) (da s (i : Nat) h b1 b.1 b.2))
  (fun i b hi hb ih => aQ (cX (bC cq) (bC fK) (bC dS)) (fI s _ h b1 b.1 b.2) (by
   have hB : inB (i : Int) ((64 : Nat) : Int) := ⟨Int.natCast_nonneg _, Int.ofNat_lt.2 hi⟩
   refine ⟨fun _ => ⟨fun hl => ?_, fun hl => ?_⟩, fun h => ?_⟩
   ·have hl : i < 16 := Int.ofNat_lt.1 (of_decide_eq_true hl)
    refine ⟨?_, Nat.le_trans (xT _ _ _) (by rw [hs]; decide), a7 ⟨hB, dB, dB, a7 <| a7 ⟨dB, trivial, trivial, dB, dB, dB, hB, hB, a7 <| a7 <| a7 ⟨dB, dB, dB, trivial, trivial, dB, dB, dB, dB, dB, a7 <| a7 ?_⟩⟩⟩⟩
    ·rw [(wr4 hl).2, (wr4 hl).1]
     refine ⟨by omega, by omega, ?_⟩
     show 4 * (i : Int) + 4 ≤ (s.size : Int)
     rw [hs]; omega
    ·have hw : IntKind.wrap .i64 ((i : Int) + 1) = ((i + 1 : Nat) : Int) := dE hi (by omega)
     show bo _ _ _ _ _ _ _ (da s (IntKind.wrap .i64 ((i : Int) + 1)) h b1 _ _)
     rw [hw]
     refine ih (_, _) ?_
     rw [hb]
     have hlI : (i : Int) < 16 := Int.ofNat_lt.2 hl
     show _ = (ovW s (ovS s h i).1 i, ovV (bV ib i) (bV (ovW s (ovS s h i).1 i) i) (ovS s h i).2)
     unfold ovW
     rw [if_pos hlI]
     rfl
   ·have hl : ¬ i < 16 := fun h => of_decide_eq_false hl (Int.ofNat_lt.2 h)
    refine ⟨wrm 15 hi (by decide) (by omega), wrm 2 hi (by decide) (by omega), a7 <| a7 ⟨d0, trivial, wrm 7 hi (by decide) (by omega), d0, trivial, wrm 16 hi (by decide) (by omega), hB, a7 <| a7 ⟨dB, dB, a7 <| a7 ⟨dB, trivial, trivial, dB, dB, dB, hB, hB, a7 <| a7 <| a7 ⟨dB, dB, dB, trivial, trivial, dB, dB, dB, dB, dB, a7 <| a7 ?_⟩⟩⟩⟩⟩
    have hw : IntKind.wrap .i64 ((i : Int) + 1) = ((i + 1 : Nat) : Int) := dE hi (by omega)
    show bo _ _ _ _ _ _ _ (da s (IntKind.wrap .i64 ((i : Int) + 1)) h b1 _ _)
    rw [hw]
    refine ih (_, _) ?_
    rw [hb]
    have hlI : ¬ (i : Int) < 16 := fun h => hl (Int.ofNat_lt.1 h)
    show _ = (ovW s (ovS s h i).1 i, ovV (bV ib i) (bV (ovW s (ovS s h i).1 i) i) (ovS s h i).2)
    unfold ovW
    rw [if_neg hlI]
    rfl
   ·exact absurd (Int.ofNat_lt.2 hi) (of_decide_eq_false h)))
  (fun b hb => aQ (cX (bC cq) (bC fK) (bC dS)) (fI s _ h b1 b.1 b.2) (by
   refine ⟨fun h => ?_, fun _ => ?_⟩
   ·exact absurd (of_decide_eq_true h) (by decide)
   ·exact (kF O w0 h b1 b.2 _ (by rw [hb]; rfl)).down 0 h (Nat.zero_le _) rfl))
theorem ns : aY prog gl dH dI :=
 dr (S := dI) (cX (bC cq) (bC fK) (bC dS)) (fx := aT) mU (by kernel_rfl) (fun h => by cases h) (T := fun x => iF x.1 x.2.1) (fun x => lm x.1 x.2.1) fun O w0 x _ hp =>
  (lC O w0 x.1 _ x.2.1 hp).down 0 (_, _) (Nat.zero_le _) rfl
end Go.Proofs.YtnakjijahkaoaaaDoor
namespace Go.Proofs
open Go.Shelf
open Go.RowKit in
open Go.RowKit in
open Go.RowKit in
open Go.RowKit in
open Go.RowKit in
open Go.RowKit in
def Tryd.lays156_ren : Go.Shelf.Ren := ⟨fun | 156 => 47 | 165 => 64 | 166 => 65 | 169 => 66 | 240 => 78 | 241 => 79 | 276 => 85 | 277 => 86 | n => n, fun | 31 => 79 | 9 => 9 | 3 => 3 | 4 => 4 | 0 => 0 | 20 => 20 | 72 => 116 | 76 => 120 | 70 => 114 | 37 => 64 | 75 => 119 | 127 => 132 | 164 => 138 | 5 => 5 | 80 => 122 | n => n, fun | n => n⟩
theorem Tryd.lays156 : Go.Proofs.Lays.n156 Tryd.prog Tryd.lays156_ren := {
 mixed := by kernel_rfl
 f156 := Tryd.func47.trans (congrArg some (by kernel_rfl))
 f165 := Tryd.func64.trans (congrArg some (by kernel_rfl))
 f166 := Tryd.func65.trans (congrArg some (by kernel_rfl))
 f169 := Tryd.func66.trans (congrArg some (by kernel_rfl))
 f240 := Tryd.func78.trans (congrArg some (by kernel_rfl))
 f241 := Tryd.func79.trans (congrArg some (by kernel_rfl))
 f276 := Tryd.func85.trans (congrArg some (by kernel_rfl))
 f277 := Tryd.func86.trans (congrArg some (by kernel_rfl))
 t0 := Tryd.underlying0
 a0 := Tryd.isAgg0
 z0 := Tryd.sizeOf0
 v0 := Tryd.zeroValue0
 t3 := Tryd.underlying3
 a3 := Tryd.isAgg3
 z3 := Tryd.sizeOf3
 v3 := Tryd.zeroValue3
 t4 := Tryd.underlying4
 a4 := Tryd.isAgg4
 z4 := Tryd.sizeOf4
 v4 := Tryd.zeroValue4
 t9 := Tryd.underlying9
 a9 := Tryd.isAgg9
 z9 := Tryd.sizeOf9
 v9 := Tryd.zeroValue9
 t20 := Tryd.underlying20
 a20 := Tryd.isAgg20
 z20 := Tryd.sizeOf20
 v20 := Tryd.zeroValue20
 t31 := Tryd.underlying79
 a31 := Tryd.isAgg79
 z31 := Tryd.sizeOf79
 v31 := Tryd.zeroValue79
 t37 := Tryd.underlying64
 a37 := Tryd.isAgg64
 z37 := Tryd.sizeOf64
 v37 := Tryd.zeroValue64
 t70 := Tryd.underlying114
 a70 := Tryd.isAgg114
 z70 := Tryd.sizeOf114
 v70 := Tryd.zeroValue114
 t72 := Tryd.underlying116
 a72 := Tryd.isAgg116
 z72 := Tryd.sizeOf116
 v72 := Tryd.zeroValue116
 t75 := Tryd.underlying119
 a75 := Tryd.isAgg119
 z75 := Tryd.sizeOf119
 v75 := Tryd.zeroValue119
 t76 := Tryd.underlying120
 a76 := Tryd.isAgg120
 z76 := Tryd.sizeOf120
 v76 := Tryd.zeroValue120
 t127 := Tryd.underlying132
 a127 := Tryd.isAgg132
 z127 := Tryd.sizeOf132
 v127 := Tryd.zeroValue132
 t164 := Tryd.underlying138
 a164 := Tryd.isAgg138
 z164 := Tryd.sizeOf138
 v164 := Tryd.zeroValue138 }
theorem Tryd.Builder_Extra_156 : Builder.Extra Tryd.prog Tryd.lays156_ren := {
 sizeBuilder := by kernel_rfl
 liesBuilder := by kernel_rfl
 t5 := Tryd.underlying5
 a5 := Tryd.isAgg5
 z5 := Tryd.sizeOf5
 v5 := Tryd.zeroValue5
 infoByte := by kernel_rfl
 cellsByte := by kernel_rfl
 sizeByte := by kernel_rfl
 neB5 := by decide }
open Go.RowKit in
theorem Tryd.strings_Join_none (a : Option Addr) (c : Nat) (sep : ByteArray) (w : World) :
    Calls Tryd.prog 47 #[.slice a 0 c, .string sep] w fun e w' => e = .returned (.string ⟨#[]⟩) ∧ w' = w := Any.strings_Join_none Tryd.lays156 Tryd.Builder_Extra_156 a c sep w
open Go.RowKit in
theorem Tryd.strings_Join (bk o c : Nat) (xs : List ByteArray) (sep : ByteArray) (w : World) (hcells : ∀ (j : Nat) x, xs[j]? = some x → w.cell? ⟨bk, o + j, none⟩ = some (.string x)) (hbk : bk < w.heap.size) (hN : xs.length ≤ 140737488355328) (hcap : xs.length ≤ c) (hlen : (Lib.join (xs.map (·.data.toList)) sep.data.toList).length ≤ 140737488355328) :
    Calls Tryd.prog 47 #[.slice (some ⟨bk, o, none⟩) xs.length c, .string sep] w fun e w' => e = .returned (.string ⟨(Lib.join (xs.map (·.data.toList)) sep.data.toList).toArray⟩) ∧ Below w.heap.size w w' := Any.strings_Join Tryd.lays156 Tryd.Builder_Extra_156 bk o c xs sep w hcells hbk hN hcap hlen
open Go.RowKit in
open Go.RowKit in
open Go.RowKit in
open Go.RowKit in
open Go.RowKit in
open Go.RowKit in
open Go.RowKit in
open Go.RowKit in
open Go.RowKit in
open Go.RowKit Go.Lib in
open Go.RowKit Go.Lib in
open Go.RowKit Go.Lib in
open Go.RowKit Go.Lib in
def Tryd.lays105_ren : Go.Shelf.Ren := ⟨fun | 105 => 62 | 212 => 75 | 99 => 76 | 165 => 64 | 166 => 65 | 170 => 77 | 169 => 66 | 263 => 82 | 264 => 83 | 206 => 84 | 240 => 78 | 241 => 79 | 276 => 85 | 277 => 86 | n => n, fun | 9 => 9 | 3 => 3 | 4 => 4 | 20 => 20 | 0 => 0 | 46 => 111 | 109 => 128 | 5 => 5 | 72 => 116 | 76 => 120 | 51 => 86 | 146 => 134 | 53 => 110 | 148 => 136 | 70 => 114 | 37 => 64 | 75 => 119 | 127 => 132 | 164 => 138 | 80 => 122 | n => n, fun | n => n⟩
theorem Tryd.lays105 : Go.Proofs.Lays.n105 Tryd.prog Tryd.lays105_ren := {
 mixed := by kernel_rfl
 f99 := Tryd.func76.trans (congrArg some (by kernel_rfl))
 f105 := Tryd.func62.trans (congrArg some (by kernel_rfl))
 f165 := Tryd.func64.trans (congrArg some (by kernel_rfl))
 f166 := Tryd.func65.trans (congrArg some (by kernel_rfl))
 f169 := Tryd.func66.trans (congrArg some (by kernel_rfl))
 f170 := Tryd.func77.trans (congrArg some (by kernel_rfl))
 f206 := Tryd.func84.trans (congrArg some (by kernel_rfl))
 f212 := Tryd.func75.trans (congrArg some (by kernel_rfl))
 f240 := Tryd.func78.trans (congrArg some (by kernel_rfl))
 f241 := Tryd.func79.trans (congrArg some (by kernel_rfl))
 f263 := Tryd.func82.trans (congrArg some (by kernel_rfl))
 f264 := Tryd.func83.trans (congrArg some (by kernel_rfl))
 f276 := Tryd.func85.trans (congrArg some (by kernel_rfl))
 f277 := Tryd.func86.trans (congrArg some (by kernel_rfl))
 t0 := Tryd.underlying0
 a0 := Tryd.isAgg0
 z0 := Tryd.sizeOf0
 v0 := Tryd.zeroValue0
 t3 := Tryd.underlying3
 a3 := Tryd.isAgg3
 z3 := Tryd.sizeOf3
 v3 := Tryd.zeroValue3
 t4 := Tryd.underlying4
 a4 := Tryd.isAgg4
 z4 := Tryd.sizeOf4
 v4 := Tryd.zeroValue4
 t5 := Tryd.underlying5
 a5 := Tryd.isAgg5
 z5 := Tryd.sizeOf5
 v5 := Tryd.zeroValue5
 t9 := Tryd.underlying9
 a9 := Tryd.isAgg9
 z9 := Tryd.sizeOf9
 v9 := Tryd.zeroValue9
 t20 := Tryd.underlying20
 a20 := Tryd.isAgg20
 z20 := Tryd.sizeOf20
 v20 := Tryd.zeroValue20
 t37 := Tryd.underlying64
 a37 := Tryd.isAgg64
 z37 := Tryd.sizeOf64
 v37 := Tryd.zeroValue64
 t46 := Tryd.underlying111
 a46 := Tryd.isAgg111
 z46 := Tryd.sizeOf111
 v46 := Tryd.zeroValue111
 t51 := Tryd.underlying86
 a51 := Tryd.isAgg86
 z51 := Tryd.sizeOf86
 v51 := Tryd.zeroValue86
 t53 := Tryd.underlying110
 a53 := Tryd.isAgg110
 z53 := Tryd.sizeOf110
 v53 := Tryd.zeroValue110
 t70 := Tryd.underlying114
 a70 := Tryd.isAgg114
 z70 := Tryd.sizeOf114
 v70 := Tryd.zeroValue114
 t72 := Tryd.underlying116
 a72 := Tryd.isAgg116
 z72 := Tryd.sizeOf116
 v72 := Tryd.zeroValue116
 t75 := Tryd.underlying119
 a75 := Tryd.isAgg119
 z75 := Tryd.sizeOf119
 v75 := Tryd.zeroValue119
 t76 := Tryd.underlying120
 a76 := Tryd.isAgg120
 z76 := Tryd.sizeOf120
 v76 := Tryd.zeroValue120
 t109 := Tryd.underlying128
 a109 := Tryd.isAgg128
 z109 := Tryd.sizeOf128
 v109 := Tryd.zeroValue128
 t127 := Tryd.underlying132
 a127 := Tryd.isAgg132
 z127 := Tryd.sizeOf132
 v127 := Tryd.zeroValue132
 t146 := Tryd.underlying134
 a146 := Tryd.isAgg134
 z146 := Tryd.sizeOf134
 v146 := Tryd.zeroValue134
 t148 := Tryd.underlying136
 a148 := Tryd.isAgg136
 z148 := Tryd.sizeOf136
 v148 := Tryd.zeroValue136
 t164 := Tryd.underlying138
 a164 := Tryd.isAgg138
 z164 := Tryd.sizeOf138
 v164 := Tryd.zeroValue138 }
theorem Tryd.Builder_Extra_105 : Builder.Extra Tryd.prog Tryd.lays105_ren := {
 sizeBuilder := by kernel_rfl
 liesBuilder := by kernel_rfl
 t5 := Tryd.underlying5
 a5 := Tryd.isAgg5
 z5 := Tryd.sizeOf5
 v5 := Tryd.zeroValue5
 infoByte := by kernel_rfl
 cellsByte := by kernel_rfl
 sizeByte := by kernel_rfl
 neB5 := by decide }
open Go.RowKit Go.Lib in
open Go.RowKit Go.Lib in
open Go.RowKit Go.Lib in
open Go.RowKit Go.Lib in
open Go.RowKit Go.Lib in
open Go.RowKit Go.Lib in
open Go.RowKit Go.Lib in
theorem Tryd.strings_Repeat (s : ByteArray) (c : Nat) (w : World) (hc : c ≤ 9223372036854775807) (hlen : s.size * c ≤ 140737488355328) :
    Calls Tryd.prog 62 #[.string s, .int .i64 c] w fun e w' => e = .returned (.string ⟨(Lib.repeatL s.data.toList c).toArray⟩) ∧ Below w.heap.size w w' := Any.strings_Repeat Tryd.lays105 Tryd.Builder_Extra_105 s c w hc hlen
end Go.Proofs
namespace Go.Proofs.YtnakjijahkaoaaaDoor
open Go Go.RowKit
def bn (xs : List ByteArray) (sep : ByteArray) : ByteArray := ⟨(Lib.join (xs.map (·.data.toList)) sep.data.toList).toArray⟩
def ji (s : ByteArray) (c : Int) : ByteArray := ⟨(Lib.repeatL s.data.toList c.toNat).toArray⟩
theorem qM {w w' : World} (h : Below w.heap.size w w') : Kept w w' := ⟨h.os, h.tape, h.output, h.size, h.block⟩
theorem oJ (l : List UInt8) : ByteArray.size ⟨l.toArray⟩ = l.length := by
 show l.toArray.size = l.length
 exact List.size_toArray ..
theorem qI {P : Program} {O : Nat → Prop} {w : World} : ∀ {xs : List ByteArray} {L : List Value}, ai (fun cs x => Rep P .str .cells O w cs x) 1 L xs → ∀ (j : Nat) x, xs[j]? = some x → L[j]? = some (.string x)
 | [], _, _, j, x, hx => by simp at hx
 | y :: ys, L, h, j, x, hx => by
  cases L with
  | nil => obtain ⟨⟨h1, _⟩, _⟩ := h; simp at h1
  | cons u us =>
   obtain ⟨⟨h1, _⟩, h2⟩ := h
   cases j with
   | zero =>
    simp at hx h1
    simp [← hx, h1]
   | succ j =>
    simp at hx h2
    simpa using qI h2 j x hx
noncomputable abbrev er : cv := ⟨qy, rg, fun x => (bn x.1 x.2.1, ()), fun x => List.length x.1 ≤ 1000000 ∧ ByteArray.size (bn x.1 x.2.1) ≤ 1000000, false⟩
theorem rO : aY prog [] f8 er := by
 refine ⟨gk qT (by kernel_rfl) (by kernel_rfl), (fun h => by cases h), fun O w vs x hO _ hx hp => ?_⟩
 obtain ⟨xs, sep, ⟨⟩⟩ := x
 obtain ⟨rest, cs, rfl, ⟨a, c, L, rfl, h2, h3, h4, h5, h6, h7⟩, rest', cs', rfl, ⟨rfl, hs⟩, hn⟩ := hx
 have hn : rest' = [] := hn
 subst hn
 have hp1 : xs.length ≤ 1000000 := hp.1
 have hp2 : (Lib.join (xs.map (·.data.toList)) sep.data.toList).length ≤ 1000000 := by
  have := hp.2
  unfold bn at this
  rwa [oJ] at this
 have fin : ∀ e w', e = .returned (.string (bn xs sep)) → Kept w w' → ∃ v, e = Ending.returned v ∧ Kept w w' ∧ Rep prog er.rs .result O w' [v] (er.g (xs, sep, ())) := by
  intro e w' he hk
  refine ⟨_, he, hk, ?_⟩
  refine ⟨[], [.string (bn xs sep)], rfl, ⟨rfl, ?_⟩, rfl⟩
  show (bn xs sep).size ≤ maxLen
  unfold bn
  rw [oJ]
  exact Nat.le_trans hp2 (by decide)
 cases hx0 : xs with
 | nil =>
  subst hx0
  refine Calls.mono (Tryd.strings_Join_none a c sep w) fun e w' he => ?_
  exact fin e w' he.1 (by rw [he.2]; exact Kept.refl w)
 | cons x0 xr =>
  rw [← hx0]
  obtain ⟨ad, ha, hO', hb, hc⟩ := h6 (by rw [hx0]; exact List.cons_ne_nil _ _)
  subst ha
  obtain ⟨bk, o, sp⟩ := ad
  have hat : ∀ (j : Nat) x, xs[j]? = some x → w.cell? ((⟨bk, o, sp⟩ : Addr).add j) = some (.string x) := fun j x hx => hc j _ (qI h5 j x hx)
  have hsp : sp = none := by
   have h0 := hat 0 x0 (by rw [hx0]; rfl)
   have e : (⟨bk, o, sp⟩ : Addr).add 0 = ⟨bk, o, sp⟩ := rfl
   rw [e] at h0
   unfold World.cell? at h0
   cases sp with
   | none => rfl
   | some q =>
    exfalso
    simp only [Option.isSome_some, if_true] at h0
    split at h0 <;> cases h0
  subst hsp
  have hcells : ∀ (j : Nat) x, xs[j]? = some x → w.cell? ⟨bk, o + j, none⟩ = some (.string x) := fun j x hx => by
   have h := hat j x hx
   unfold Addr.add at h
   split at h
   ·next hj => subst hj; exact h
   ·exact h
  exact Calls.mono (Tryd.strings_Join bk o c xs sep w hcells hb (by omega) h2 (Nat.le_trans hp2 (by decide))) fun e w' he => fin e w' he.1 (qM he.2)
noncomputable abbrev gM : cv := ⟨pc, o9, fun x => (ji x.1 x.2.1, ()), fun x => (0 : Int) ≤ x.2.1 ∧ (x.2.1 : Int) ≤ 1000000 ∧ ByteArray.size x.1 = 1, false⟩
theorem pL : aY prog [] eT gM := by
 refine ⟨gk pd (by kernel_rfl) (by kernel_rfl), (fun h => by cases h), fun O w vs x hO _ hx hp => ?_⟩
 obtain ⟨s, c, ⟨⟩⟩ := x
 obtain ⟨rest, cs, rfl, ⟨rfl, hs⟩, rest', cs', rfl, ⟨rfl, hc⟩, hn⟩ := hx
 have hn : rest' = [] := hn
 subst hn
 have h0 : (0 : Int) ≤ c := hp.1
 have h1 : (c : Int) ≤ 1000000 := hp.2.1
 have hs1 : s.size = 1 := hp.2.2
 obtain ⟨n, hn⟩ : ∃ n : Nat, (n : Int) = c := ⟨Int.toNat c, Int.toNat_of_nonneg h0⟩
 subst hn
 have hlt : n ≤ 1000000 := Int.ofNat_le.1 h1
 refine Calls.mono (Tryd.strings_Repeat s n w (Nat.le_trans hlt (by decide)) (by rw [hs1, Nat.one_mul]; exact Nat.le_trans hlt (by decide))) fun e w' he => ?_
 refine ⟨_, he.1, qM he.2, ?_⟩
 have e : ji s (n : Int) = ⟨(Lib.repeatL s.data.toList n).toArray⟩ := rfl
 refine ⟨[], [.string (ji s n)], rfl, ⟨rfl, ?_⟩, rfl⟩
 show (ji s (n : Int)).size ≤ maxLen
 rw [e, oJ, Lib.repeatL_length]
 have : s.data.toList.length = 1 := hs1
 rw [this, Nat.mul_one]
 exact Nat.le_trans hlt (by decide)
end Go.Proofs.YtnakjijahkaoaaaDoor
namespace Go.Proofs.YtnakjijahkaoaaaDoor
open Go Go.RowKit
noncomputable abbrev dG : Fx := { fn := db, ann := { loops := [(5, { keep := [1, 3, 19] })], frz := [(1000005, [2, 3])] } }
noncomputable abbrev c8 : Fx := { fn := cT, ann := { loops := [(0, { keep := [0, 1] })], frz := [(1000000, [2, 3])] } }
noncomputable abbrev bm : Fx := { fn := aK, ann := { loops := [(7, { keep := [2, 3, 5, 15] })] } }
noncomputable abbrev cK : bl := { D := { T := cx, F := [(fH, fC), (dH, dI), (f8, er), (eT, gM)], R := [], ovl := [], G := gl }, inl := [(k3, dG), (jp, c8)] }
noncomputable abbrev g7 : cw := .data fl
theorem uR (h_digest_begins : aY prog gl fH fC) (h_digest_words_over : aY prog gl dH dI) (h_strings_Join : aY prog gl f8 er) (h_strings_Repeat : aY prog gl eT gM) : XOk prog cK := xok (bf (bf (bf (bf (bP bR bt) h_strings_Repeat) h_strings_Join) h_digest_words_over) h_digest_begins) (by kernel_rfl) bu (iN pY (by kernel_rfl) (iN n8 (by kernel_rfl) bM)) bN
noncomputable def ov (l : den (Ty.slc Ty.str)) : ab := ab.req True (ab.req (List.length l ≤ 1000000 ∧ ByteArray.size (bn l { data := { toList := [] } }) ≤ 1000000) (ab.req (ge0 3) (ab.req (ByteArray.size (bn l { data := { toList := [] } }) + ByteArray.size { data := { toList := [128] } } ≤ 1099511627776) (ab.req (nz 64) (ab.req (nz 64) (ab.req (0 ≤ Int.tmod (IntKind.wrap IntKind.i64 (120 - Int.tmod (cj (bn l { data := { toList := [] } } ++ { data := { toList := [128] } })) 64)) 64 ∧ Int.tmod (IntKind.wrap IntKind.i64 (120 - Int.tmod (cj (bn l { data := { toList := [] } } ++ { data := { toList := [128] } })) 64)) 64 ≤ 1000000 ∧ ByteArray.size { data := { toList := [0] } } = 1) (ab.req (ByteArray.size (bn l { data := { toList := [] } } ++ { data := { toList := [128] } }) + ByteArray.size (ji { data := { toList := [0] } } (Int.tmod (IntKind.wrap IntKind.i64 (120 - Int.tmod (cj (bn l { data := { toList := [] } } ++ { data := { toList := [128] } })) 64)) 64)) ≤ 1099511627776) (ab.loop [{ fx := bm, todo := bB aK 2 2, dst := some 10, s := ofS [(2, K.ptr (0 + 1) tId []), (3, K.ptr (0 + 1 + 1) af [])] }] dG (lp db 5) [(1, K.ptr 0 Ty.str []), (3, K.val (Ty.int IntKind.u64) (IntKind.wrap IntKind.u64 (IntKind.wrap IntKind.u64 (cj (bn l { data := { toList := [] } })) * 2 ^ min (Int.toNat 3) (IntKind.bits IntKind.u64)))), (19, K.val ah 0)] [(0, Bx.cell Ty.str (bn l { data := { toList := [] } } ++ { data := { toList := [128] } } ++ ji { data := { toList := [0] } } (Int.tmod (IntKind.wrap IntKind.i64 (120 - Int.tmod (cj (bn l { data := { toList := [] } } ++ { data := { toList := [128] } })) 64)) 64))), (0 + 1, Bx.cell tId (zero tId)), (0 + 1 + 1, Bx.cell af iR)]))))))))
theorem qw (l : den (Ty.slc Ty.str)) : aC cK g7 5000 [] bm (aZ aK) (Env.of (bc mZ (l, ()) 0) []) = ov l := by kernel_rfl
noncomputable def eP (v3 : den (Ty.int IntKind.u64)) (v19 : den ah) (b0 : den Ty.str) (b1 : den tId) (b2 : den af) : List bj := [{ fx := bm, todo := bB aK 2 2, dst := some 10, s := ofS [(2, K.ptr (0 + 1) tId []), (3, K.ptr (0 + 1 + 1) af [])] }]
noncomputable def eN (v3 : den (Ty.int IntKind.u64)) (v19 : den ah) (b0 : den Ty.str) (b1 : den tId) (b2 : den af) : Env := Env.of [(1, K.ptr 0 Ty.str []), (3, K.val (Ty.int IntKind.u64) v3), (19, K.val ah v19)] [(0, Bx.cell Ty.str b0), (1, Bx.cell tId b1), (2, Bx.cell af b2)]
noncomputable def iv (v3 : den (Ty.int IntKind.u64)) (v19 : den ah) (b0 : den Ty.str) (b1 : den tId) (b2 : den af) : ab := ab.ite (decide (v19 < 8)) (ab.req (ge0 (IntKind.wrap IntKind.i64 (8 * IntKind.wrap IntKind.i64 (7 - v19)))) (ab.req (ByteArray.size b0 + ByteArray.size (aO (List.set (List.replicate 1 (zero (Ty.int IntKind.u8))) 0 (IntKind.wrap IntKind.u8 (Int.fdiv v3 (2 ^ min (Int.toNat (IntKind.wrap IntKind.i64 (8 * IntKind.wrap IntKind.i64 (7 - v19)))) (IntKind.bits IntKind.u64)))))) ≤ 1099511627776) (ab.loop [{ fx := bm, todo := bB aK 2 2, dst := some 10, s := ofS [(2, K.ptr (0 + 1) tId []), (3, K.ptr (0 + 1 + 1) af [])] }] dG (lp db 5) [(1, K.ptr 0 Ty.str []), (3, K.val (Ty.int IntKind.u64) v3), (19, K.val ah (IntKind.wrap IntKind.i64 (v19 + 1)))] [(0, Bx.cell Ty.str (b0 ++ aO (List.set (List.replicate 1 (zero (Ty.int IntKind.u8))) 0 (IntKind.wrap IntKind.u8 (Int.fdiv v3 (2 ^ min (Int.toNat (IntKind.wrap IntKind.i64 (8 * IntKind.wrap IntKind.i64 (7 - v19)))) (IntKind.bits IntKind.u64))))))), (0 + 1, Bx.cell tId b1), (0 + 1 + 1, Bx.cell af b2)]))) (ab.loop [{ fx := bm, todo := mr aK 4, dst := none, s := ofS [(2, K.ptr (0 + 1 + 1) tId []), (3, K.ptr (0 + 1 + 1 + 1) af [])], rng := some 0 }] c8 (lp cT 0) [(0, K.yld 0), (1, K.ptr (0 + 1) Ty.str [])] [(0, Bx.lop LoopState.ready none [(3, K.ptr (0 + 1 + 1 + 1) af [])] 32 (yU aK 4) (pO aK 4) (uB aK 4)), (0 + 1, Bx.cell Ty.str b0), (0 + 1 + 1, Bx.cell tId b1), (0 + 1 + 1 + 1, Bx.cell af b2)])
theorem dy (v3 : den (Ty.int IntKind.u64)) (v19 : den ah) (b0 : den Ty.str) (b1 : den tId) (b2 : den af) : aC cK g7 5000 (eP v3 v19 b0 b1 b2) dG (lp db 5) (eN v3 v19 b0 b1 b2) = iv v3 v19 b0 b1 b2 := by kernel_rfl
noncomputable def dR (b1 : den Ty.str) (b2 : den tId) (b3 : den af) : List bj := [{ fx := bm, todo := mr aK 4, dst := none, s := ofS [(2, K.ptr (0 + 1 + 1) tId []), (3, K.ptr (0 + 1 + 1 + 1) af [])], rng := some 0 }]
noncomputable def dW (b1 : den Ty.str) (b2 : den tId) (b3 : den af) : Env := Env.of [(0, K.yld 0), (1, K.ptr (0 + 1) Ty.str [])] [(0, Bx.lop LoopState.ready none [(3, K.ptr (0 + 1 + 1 + 1) af [])] 32 (yU aK 4) (pO aK 4) (uB aK 4)), (1, Bx.cell Ty.str b1), (2, Bx.cell tId b2), (3, Bx.cell af b3)]
noncomputable def gX (b1 : den Ty.str) (b2 : den tId) (b3 : den af) : ab := ab.ite (!eqb Ty.str b1 { data := { toList := [] } }) (ab.req (bg 0 64 (cj b1)) (ab.req (ByteArray.size (eO b1 0 64) = 64) (ab.ite (!true) (ab.loop [] bm (lp aK 7) [(2, K.ptr 0 tId []), (3, K.ptr (0 + 1) af []), (5, K.ptr (0 + 1 + 1) tId []), (15, K.val ah 0)] [(0, Bx.cell tId b2), (0 + 1, Bx.cell af (nY b3 (eO b1 0 64))), (0 + 1 + 1, Bx.cell tId (zero tId))]) (ab.req (bg 64 (cj b1) (cj b1)) (ab.loop [{ fx := bm, todo := mr aK 4, dst := none, s := ofS [(2, K.ptr (0 + 1 + 1) tId []), (3, K.ptr (0 + 1 + 1 + 1) af [])], rng := some 0 }] c8 (lp cT 0) [(0, K.yld 0), (1, K.ptr (0 + 1) Ty.str [])] [(0, Bx.lop LoopState.ready none [(3, K.ptr (0 + 1 + 1 + 1) af [])] 32 (yU aK 4) (pO aK 4) (uB aK 4)), (0 + 1, Bx.cell Ty.str (eO b1 64 (cj b1))), (0 + 1 + 1, Bx.cell tId b2), (0 + 1 + 1 + 1, Bx.cell af (nY b3 (eO b1 0 64)))]))))) (ab.loop [] bm (lp aK 7) [(2, K.ptr 0 tId []), (3, K.ptr (0 + 1) af []), (5, K.ptr (0 + 1 + 1) tId []), (15, K.val ah 0)] [(0, Bx.cell tId b2), (0 + 1, Bx.cell af b3), (0 + 1 + 1, Bx.cell tId (zero tId))])
theorem dl (b1 : den Ty.str) (b2 : den tId) (b3 : den af) : aC cK g7 5000 (dR b1 b2 b3) c8 (lp cT 0) (dW b1 b2 b3) = gX b1 b2 b3 := by kernel_rfl
noncomputable def lI (v15 : den ah) (b0 : den tId) (b1 : den af) (b2 : den tId) : Env := Env.of [(2, K.ptr 0 tId []), (3, K.ptr (0 + 1) af []), (5, K.ptr (0 + 1 + 1) tId []), (15, K.val ah v15)] [(0, Bx.cell tId b0), (1, Bx.cell af b1), (2, Bx.cell tId b2)]
noncomputable def rz (v15 : den ah) (b0 : den tId) (b1 : den af) (b2 : den tId) : ab := ab.ite (decide (v15 < 32)) (ab.req (nz 4) (ab.req (inB (IntKind.wrap IntKind.i64 (Int.tdiv v15 4)) (↑8 : Int)) (ab.req (nz 4) (ab.req (ge0 (IntKind.wrap IntKind.i64 (24 - IntKind.wrap IntKind.i64 (8 * Int.tmod v15 4)))) (ab.req (inB v15 (↑32 : Int)) (ab.loop [] bm (lp aK 7) [(2, K.ptr 0 tId []), (3, K.ptr (0 + 1) af []), (5, K.ptr (0 + 1 + 1) tId []), (15, K.val ah (IntKind.wrap IntKind.i64 (v15 + 1)))] [(0, Bx.cell tId b0), (0 + 1, Bx.cell af b1), (0 + 1 + 1, Bx.cell tId (ff (Ty.int IntKind.u8) b2 v15 (IntKind.wrap IntKind.u8 (Int.fdiv (el (Ty.int IntKind.u32) b1 (IntKind.wrap IntKind.i64 (Int.tdiv v15 4))) (2 ^ min (Int.toNat (IntKind.wrap IntKind.i64 (24 - IntKind.wrap IntKind.i64 (8 * Int.tmod v15 4)))) (IntKind.bits IntKind.u32))))))])))))) (ab.ret (K.val (Ty.pair tId Ty.unit) (b2, PUnit.unit)))
theorem jb (v15 : den ah) (b0 : den tId) (b1 : den af) (b2 : den tId) : aC cK g7 5000 [] bm (lp aK 7) (lI v15 b0 b1 b2) = rz v15 b0 b1 b2 := by kernel_rfl
end Go.Proofs.YtnakjijahkaoaaaDoor
namespace Go.Proofs.YtnakjijahkaoaaaDoor
open Go Go.RowKit
def e0 : ByteArray := { data := { toList := [] } }
def pJ : ByteArray := { data := { toList := [128] } }
def bz : ByteArray := { data := { toList := [0] } }
def lk (s : ByteArray) : Int := Int.tmod (IntKind.wrap .i64 (120 - Int.tmod (cj (s ++ pJ)) 64)) 64
def ri (s : ByteArray) : Int := IntKind.wrap .u64 (IntKind.wrap .u64 (cj s) * 2 ^ min (Int.toNat 3) (IntKind.bits .u64))
def tl (s : ByteArray) (i : Int) : ByteArray :=
 aO (List.set (List.replicate 1 (zero (Ty.int IntKind.u8))) 0
  (IntKind.wrap .u8 (Int.fdiv (ri s) (2 ^ min (Int.toNat (IntKind.wrap .i64 (8 * IntKind.wrap .i64 (7 - i)))) (IntKind.bits .u64)))))
def pE (s : ByteArray) : Nat → ByteArray
 | 0 => s ++ pJ ++ ji bz (lk s)
 | i + 1 => pE s i ++ tl s i
def goR : Nat → ByteArray → List Int → List Int
 | 0, _, h => h
 | m + 1, s, h => goR m (eO s 64 (cj s)) (nY h (eO s 0 64))
def AV (h : List Int) (i : Int) : Int :=
 IntKind.wrap .u8 (Int.fdiv (el (Ty.int IntKind.u32) h (IntKind.wrap .i64 (Int.tdiv i 4))) (2 ^ min (Int.toNat (IntKind.wrap .i64 (24 - IntKind.wrap .i64 (8 * Int.tmod i 4)))) (IntKind.bits .u32)))
def rF (h : List Int) : Nat → List Int
 | 0 => zero tId
 | i + 1 => ff (Ty.int IntKind.u8) (rF h i) i (AV h i)
def oW (s : ByteArray) : Nat := (s.size + 8) / 64 + 1
def wY (s : ByteArray) : List Int := rF (goR (oW s) (pE s 8) iR) 32
def iV (l : List ByteArray) : List Int := wY (bn l e0)
theorem xO {n : Int} (h : 0 ≤ n) : ((ji bz n).size : Int) = n := by
 unfold ji
 rw [oJ, Lib.repeatL_length]
 have : bz.data.toList.length = 1 := rfl
 rw [this, Nat.mul_one, Int.toNat_of_nonneg h]
theorem qY (s : ByteArray) (i : Int) : (tl s i).size = 1 := rfl
theorem o6 {s : ByteArray} (hs : s.size ≤ 900000) : lk s = (120 - ((s.size : Int) + 1) % 64) % 64 := by
 have h1 : cj (s ++ pJ) = (s.size : Int) + 1 := by
  unfold cj
  rw [ByteArray.size_append]
  rfl
 unfold lk
 have h2 : Int.tmod ((s.size : Int) + 1) 64 = ((s.size : Int) + 1) % 64 := Int.tmod_eq_emod_of_nonneg (by omega)
 rw [h1, h2, gW (by omega)]
 exact Int.tmod_eq_emod_of_nonneg (by omega)
theorem kI {s : ByteArray} (hs : s.size ≤ 900000) : ∀ i : Nat, ((pE s i).size : Int) = (s.size : Int) + 1 + (120 - ((s.size : Int) + 1) % 64) % 64 + i
 | 0 => by
  have h0 : (0 : Int) ≤ lk s := by rw [o6 hs]; exact Int.emod_nonneg _ (by decide)
  show ((s ++ pJ ++ ji bz (lk s)).size : Int) = _
  rw [ByteArray.size_append, ByteArray.size_append]
  have h1 := xO h0
  rw [o6 hs] at h1
  have h2 : pJ.size = 1 := rfl
  rw [o6 hs]
  omega
 | i + 1 => by
  show ((pE s i ++ tl s i).size : Int) = _
  rw [ByteArray.size_append, qY]
  have := kI hs i
  omega
theorem yX {s : ByteArray} (hs : s.size ≤ 900000) : (pE s 8).size = 64 * oW s := by
 have h := kI hs 8
 unfold oW
 omega
theorem dh : XOk prog cK := uR (bC qK) ns (bC rO) (bC pL)
theorem rl : ∀ i : Nat, i < 32 → (0 ≤ IntKind.wrap .i64 (Int.tdiv (i : Int) 4) ∧ IntKind.wrap .i64 (Int.tdiv (i : Int) 4) < ((8 : Nat) : Int)) ∧
    0 ≤ IntKind.wrap .i64 (24 - IntKind.wrap .i64 (8 * Int.tmod (i : Int) 4)) := by decide
def qX (O : Nat → Prop) (w0 : World) (b0 h : List Int) (out : List Int) (ho : out = rF h 32) :=
 PLift.up <| c7 (σ := List Int) 32 (fun i b => b = rF h i)
  (fun i b => bo prog cK (Cx.base O w0) (eV prog O w0 fl fun y => y = (out, ())) [] bm (lp aK 7) (lI (i : Nat) b0 h b))
  (fun i b hi hb ih => aQ dh (jb _ b0 h b) (by
   refine ⟨fun _ => ⟨show (4 : Int) ≠ 0 by decide, (rl i hi).1, show (4 : Int) ≠ 0 by decide, (rl i hi).2, ⟨Int.natCast_nonneg _, Int.ofNat_lt.2 hi⟩, ?_⟩, fun h => ?_⟩
   ·rw [dE hi (by omega)]
    refine ih _ ?_
    rw [hb]
    rfl
   ·exact absurd (Int.ofNat_lt.2 hi) (of_decide_eq_false h)))
  (fun b hb => aQ dh (jb _ b0 h b) (by
   refine ⟨fun h => ?_, fun _ => ⟨_, rfl, ?_⟩⟩
   ·exact absurd (of_decide_eq_true h) (by decide)
   ·show (b, ()) = (out, ())
    rw [hb, ho]))
theorem xL {s : ByteArray} {m : Nat} (h : s.size = 64 * (m + 1)) : (eO s 64 (cj s)).size = 64 * m := by
 unfold eO cj
 rw [ByteArray.size_extract, Int.toNat_natCast]
 have : Int.toNat 64 = 64 := rfl
 omega
theorem xK {s : ByteArray} {m : Nat} (h : s.size = 64 * (m + 1)) : (eO s 0 64).size = 64 := by
 unfold eO
 rw [ByteArray.size_extract]
 have h1 : Int.toNat 64 = 64 := rfl
 have h2 : Int.toNat 0 = 0 := rfl
 omega
theorem pD (O : Nat → Prop) (w0 : World) (b2 out : List Int) (m : Nat) : ∀ (s : ByteArray) (h : List Int), s.size = 64 * m → out = rF (goR m s h) 32 →
    bo prog cK (Cx.base O w0) (eV prog O w0 fl fun y => y = (out, ())) (dR s b2 h) c8 (lp cT 0) (dW s b2 h) := by
  induction m with
  | zero =>
    intro s h hs ho
    have e : s = e0 := ByteArray.ext (Array.eq_empty_of_size_eq_zero hs)
    have e1 : eqb Ty.str s e0 = true := (jO (t := .str) rfl s e0).2 e
    refine aQ dh (dl s b2 h) ⟨fun hc => ?_, fun _ => ?_⟩
    · have hc : (!eqb Ty.str s e0) = true := hc
      rw [e1] at hc
      cases hc
    · exact (qX O w0 b2 h out ho).down 0 _ (Nat.zero_le _) rfl
  | succ m ih =>
    intro s h hs ho
    have hl : cj s = 64 * ((m : Int) + 1) := by unfold cj; rw [hs]; omega
    refine aQ dh (dl s b2 h) ⟨fun _ => ⟨?_, xK hs, fun hc => ?_, fun _ => ⟨?_, ?_⟩⟩, fun hc => ?_⟩
    · rw [hl]
      exact ⟨by decide, by decide, by omega⟩
    · cases hc
    · rw [hl]
      exact ⟨by decide, by omega, Int.le_refl _⟩
    · exact ih _ _ (xL hs) ho
    · have hc : (!eqb Ty.str s e0) = false := hc
      have e : s = e0 := (jO (t := .str) rfl s e0).1 (by cases h1 : eqb Ty.str s e0 with | true => rfl | false => rw [h1] at hc; cases hc)
      rw [e] at hs
      have : e0.size = 0 := rfl
      omega
def qr (O : Nat → Prop) (w0 : World) (s : ByteArray) (hs : s.size ≤ 900000) :=
 PLift.up <| c7 (σ := ByteArray) 8 (fun i b => b = pE s i)
  (fun i b => bo prog cK (Cx.base O w0) (eV prog O w0 fl fun y => y = (wY s, ())) (eP (ri s) (i : Nat) b (zero tId) iR) dG (lp db 5) (eN (ri s) (i : Nat) b (zero tId) iR))
  (fun i b hi hb ih => aQ dh (dy (ri s) _ b _ _) (by
   have hz : b.size ≤ 1000000 := by have := kI hs i; rw [hb]; omega
   refine ⟨fun _ => ⟨?_, ?_, ?_⟩, fun h => ?_⟩
   ·show (0 : Int) ≤ IntKind.wrap .i64 (8 * IntKind.wrap .i64 (7 - (i : Int)))
    rw [gW (n := 7 - (i : Int)) (by omega), gW (by omega)]
    omega
   ·show b.size + (tl s i).size ≤ _
    rw [qY]
    omega
   ·rw [dE hi (by omega)]
    refine ih _ ?_
    rw [hb]
    rfl
   ·exact absurd (Int.ofNat_lt.2 hi) (of_decide_eq_false h)))
  (fun b hb => aQ dh (dy (ri s) _ b _ _) (by
   refine ⟨fun h => ?_, fun _ => ?_⟩
   ·exact absurd (of_decide_eq_true h) (by decide)
   ·exact pD O w0 _ _ (oW s) b iR (by rw [hb]; exact yX hs) (by rw [hb]; rfl)))
noncomputable abbrev eC : cv := ⟨mZ, fl, fun x => (iV x.1, ()), fun x => List.length x.1 ≤ 1000000 ∧ ByteArray.size (bn x.1 e0) ≤ 900000, false⟩
theorem n5 : aY prog gl eF eC :=
 dr (S := eC) dh (fx := bm) ta (by kernel_rfl) (fun h => by cases h) (T := fun x => ov x.1) (fun x => qw x.1) fun O w0 x _ hp => by
  obtain ⟨l, ⟨⟩⟩ := x
  have hp1 : List.length l ≤ 1000000 := hp.1
  have hp2 : (bn l e0).size ≤ 900000 := hp.2
  have hk : lk (bn l e0) = _ := o6 hp2
  refine ⟨trivial, ⟨hp1, Nat.le_trans hp2 (by decide)⟩, by show (0 : Int) ≤ 3; decide, ?_, show (64 : Int) ≠ 0 by decide, show (64 : Int) ≠ 0 by decide, ⟨?_, ?_, rfl⟩, ?_, ?_⟩
  ·show (bn l e0).size + 1 ≤ _
   omega
  ·show (0 : Int) ≤ lk (bn l e0)
   rw [hk]; omega
  ·show lk (bn l e0) ≤ 1000000
   rw [hk]; omega
  ·show (bn l e0 ++ pJ).size + (ji bz (lk (bn l e0))).size ≤ _
   have h := kI hp2 0
   have : (pE (bn l e0) 0).size = (bn l e0 ++ pJ).size + (ji bz (lk (bn l e0))).size := ByteArray.size_append
   omega
  ·exact (qr O w0 (bn l e0) hp2).down 0 _ (Nat.zero_le _) rfl
end Go.Proofs.YtnakjijahkaoaaaDoor
namespace Go.Proofs.YtnakjijahkaoaaaDoor
open Go Go.RowKit
end Go.Proofs.YtnakjijahkaoaaaDoor
namespace Go.Proofs.YtnakjijahkaoaaaDoor
open Go Go.RowKit Go.ChangeShapes Go.WideShapes Go.ChangeAt
def mv : List (String × DataW Unit) := [("posthouse/digest.keys", Rows.laid_posthouse_digest_keys)]
noncomputable def w8 : Nat := ((prog.globals[0]?).map (·.type)).getD 0
theorem zm : (prog.globals[0]?).map (·.type) = some w8 := by kernel_rfl
theorem yt : cx.lookup w8 = some (.arr 64 (.int .u32)) := by kernel_rfl
theorem AW : prog.globalNamed "posthouse/digest.keys" = some 0 := by kernel_rfl
def xw : DataW Unit → Int := fun | .lit (.int _ n) => n | _ => 0
theorem oO {P : Program} {O : Nat → Prop} {w : World} {k : IntKind} : ∀ (cs : List Value) (ds : List (DataW Unit)), cs.length = ds.length →
    (∀ (i : Nat) c d, cs[i]? = some c → ds[i]? = some d → ∃ z, c = .int k z ∧ d = .lit (.int k z) ∧ InK k z) → ai (fun cs x => Rep P (.int k) .cells O w cs x) 1 cs (ds.map xw)
  | [], [], _, _ => rfl
  | c :: cs, d :: ds, hl, h => by
    obtain ⟨z, e1, e2, e3⟩ := h 0 c d rfl rfl
    refine ⟨?_, oO cs ds (by simpa using hl) fun i c d hc hd => h (i + 1) c d hc hd⟩
    rw [e1, e2]
    exact ⟨rfl, e3⟩
  | [], _ :: _, hl, _ => by simp at hl
  | _ :: _, [], hl, _ => by simp at hl
theorem yh : ib.length = 64 := by kernel_rfl
def wE : DataW Unit → List (DataW Unit)
 | .agg l => l
 | _ => []
theorem Ac : (Rows.laid_posthouse_digest_keys : DataW Unit) = .agg (wE Rows.laid_posthouse_digest_keys) := by kernel_rfl
theorem yL : ib = (wE Rows.laid_posthouse_digest_keys).map xw := by kernel_rfl
theorem yp {W : World} (h : laidMetH prog mv W) : GlobOk prog gl (fun _ => False) W := by
  rw [MakeChecks.laidMetH_plain _ _ _ (by kernel_rfl)] at h
  obtain ⟨ps, ⟨g0, t0, cs0, f0, p0, q0, hg0, ht0, hv0, hd0, _, _⟩, _, _⟩ := h
  obtain rfl := Option.some.inj (AW.symm.trans hg0)
  obtain rfl := Option.some.inj (zm.symm.trans ht0)
  have hf := fY bR yt
  obtain ⟨e, hu, he, _⟩ := dt hf.shape
  obtain ⟨xs, k, hm, hx, h3, h4, h5⟩ := DataW.trod_array hu hd0
  have hfe := fY bR he
  have hse : prog.cellsOf e = 1 := oN hfe
  have hst : prog.cellsOf w8 = 64 := oN hf
  rw [Ac] at hx
  have hx1 : wE Rows.laid_posthouse_digest_keys = xs.map (·.1) := DataW.agg.inj (Prod.mk.inj hx).1
  have hlen : cs0.toList.length = 64 := h3.trans hst
  have hrep : ai (fun cs x => Rep prog (.int .u32) .cells (fun _ => False) W cs x) 1 cs0.toList ib := by
    rw [yL]
    refine oO _ _ ?_ fun i c d hc hd => ?_
    · rw [hlen, hx1, List.length_map, h4]
    · have hi : i < 64 := by
        have := (List.getElem?_eq_some_iff.1 hc).1
        omega
      have h6 := h5 i hi
      rw [hse, Nat.mul_one] at h6
      have hc1 : (cs0.toList.drop i).take 1 = [c] := by
        have hlt : i < cs0.toList.length := by omega
        rw [List.drop_eq_getElem_cons hlt]
        have : cs0.toList[i] = c := by
          rw [List.getElem?_eq_getElem hlt] at hc
          exact Option.some.inj hc
        rw [this]
        rfl
      rw [hc1] at h6
      rw [hx1, List.getElem?_map] at hd
      cases hxi : xs[i]? with
      | none => rw [hxi] at hd; cases hd
      | some x =>
        rw [hxi] at hd h6
        obtain ⟨z, e1, e2, e3⟩ := DataW.trod_int (cE hfe.shape) h6
        have hd : x.1 = d := Option.some.inj hd
        refine ⟨z, ?_, ?_, sx e3⟩
        · exact (List.cons.inj e1).1
        · rw [← hd, e2]
  have hcell : ∀ j, W.cell? ⟨0, j, none⟩ = cs0[j]? := fun j => World.var?_cell hg0 hv0 j
  intro g t y hl
  have hg : g = 0 ∧ (⟨t, y⟩ : (t : Ty) × den t) = ⟨.arr 64 (.int .u32), ib⟩ := by
    have hl : List.lookup g [((0 : Nat), (⟨.arr 64 (.int .u32), ib⟩ : (t : Ty) × den t))] = some ⟨t, y⟩ := hl
    rw [List.lookup_cons] at hl
    by_cases hg : g = 0
    · subst hg
      exact ⟨rfl, (Option.some.inj hl).symm⟩
    · have : (g == 0) = false := by simpa using hg
      rw [this] at hl
      cases hl
  obtain ⟨rfl, e⟩ := hg
  cases e
  refine ⟨cs0.toList, fun h => h, ?_, fun j u hj => ?_, yh, hrep⟩
  · have h0 := hcell 0
    have : cs0[0]? ≠ none := by
      intro hn
      have hlt : 0 < cs0.size := by
        have : cs0.toList.length = cs0.size := by simp
        omega
      rw [Array.getElem?_eq_getElem hlt] at hn
      cases hn
    show 0 < W.heap.size
    rcases Nat.eq_zero_or_pos W.heap.size with hz | hz
    · exfalso
      apply this
      rw [← h0]
      simp [World.cell?, hz]
    · exact hz
  · have e : (⟨0, 0, none⟩ : Addr).add j = ⟨0, j, none⟩ := by
      unfold Addr.add
      split
      · next h => subst h; rfl
      · show (⟨0, 0 + j, none⟩ : Addr) = _
        rw [Nat.zero_add]
    rw [e, hcell]
    simpa using hj
set_option maxRecDepth 100000 in
theorem wn {H : Type} {enc : TypeId × Value → H} {w : World} {Gl : f7} (hg : GlobOk prog Gl (fun _ => False) w) {f : FuncId} {aty : Ty} (hk : aY prog Gl f (zb aty)) {ts : List TypeId} (hc : gq prog cx ts aty = true) {r : Reach} {b0 : Nat} {spare : Nat → Bool} {held : Bool} {args : Array Value} {ds : List (DataW H)} {ps : List MemPlace}
    (h : DataW.TrodAll enc prog w 0 spare held ts args.toList ds ps) (hv : ∀ (j : Nat) t v, ts[j]? = some t → args[j]? = some v → Value.okWide prog w r b0 t v) : Calls prog f args w fun e w' => e = .returned (.bool true) ∧ Below w.heap.size w w' := by
  obtain ⟨x, hx⟩ := nq bR ts aty args.toList ds ps hc h (fun j t v hj hv' => hv j t v hj (by simpa using hv'))
  have := hk.does (fun _ => False) w args.toList x (fun _ h => h.elim) hg hx trivial
  rw [Array.toArray_toList] at this
  refine Calls.mono this fun e w' ⟨v, e1, e2, rest, cs, e3, e4, e5⟩ => ?_
  have e4 : cs = [.bool true] := e4
  subst e4
  have e3 : [v] = [Value.bool true] := e3
  have : v = .bool true := by simpa using e3
  subst this
  exact ⟨e1, ⟨e2.os, e2.tape, e2.output, e2.size, e2.block⟩⟩
theorem yI (os : Os) (args : Array Value) : laidMetH prog mv ((World.laidAll prog os mv).forCall (fun _ _ => 0) ⟨#[], args, []⟩).memory := by
 rw [MakeChecks.laidMetH_plain _ _ _ (by kernel_rfl)]
 exact laidMet_laidAll _ (by kernel_rfl) (by kernel_rfl)
end Go.Proofs.YtnakjijahkaoaaaDoor
namespace Go.Proofs.YtnakjijahkaoaaaDoor
open Go Go.RowKit
abbrev Lk := den ae
end Go.Proofs.YtnakjijahkaoaaaDoor
namespace Go.Proofs.YtnakjijahkaoaaaDoor
open Go Go.RowKit
noncomputable abbrev lO : Fx := { fn := jj, ann := { frz := [(1, [1])] } }
noncomputable abbrev mX : bl := { D := { T := cx, F := [], R := [], ovl := [] }, inl := [] }
noncomputable abbrev sV : cw := .data lT
theorem sY : XOk prog mX := xok ((bP bR bt)) (by kernel_rfl) bu bM bN
noncomputable def m7 (id : den tId) : ab := ab.req (bg 0 16 (↑32 : Int)) (ab.req (16 ≤ List.length (bv (Ty.int IntKind.u8) id 0 16)) (ab.ret (K.val (Ty.pair aj Ty.unit) (List.take 16 (bv (Ty.int IntKind.u8) id 0 16), PUnit.unit))))
theorem p7 (id : den tId) : aC mX sV 5000 [] lO (aZ jj) (Env.of (bc lP (id, ()) 0) []) = m7 id := by kernel_rfl
noncomputable abbrev il : Fx := { fn := fw, ann := { }, own := [5] }
noncomputable abbrev iE : bl := { D := { T := cx, F := [], R := [], ovl := [] }, inl := [] }
noncomputable abbrev nw : cw := .row (ae)
theorem nv : XOk prog iE := xok ((bP bR bt)) (by kernel_rfl) bu bM bN
noncomputable def iB (s : den (Ty.slc ae)) : ab := ab.all Bool (fun (c : Bool) ↦ c = true → s = []) fun (q1 : Bool) ↦ ab.ite q1 (ab.ret (K.val (Ty.slc ae) [])) (ab.req (List.length (List.replicate 0 (zero ae) ++ s) ≤ bT) (ab.req (vok 0 (List.length (List.replicate 0 (zero ae) ++ s)) (List.length (List.replicate 0 (zero ae) ++ s))) (ab.ret (K.val (Ty.slc ae) (tg ae (List.replicate 0 (zero ae) ++ s) 0 (List.length (List.replicate 0 (zero ae) ++ s)))))))
theorem lh (s : den (Ty.slc ae)) : aC iE nw 5000 [] il (aZ fw) (Env.of (bc (Ty.pair (Ty.slc ae) Ty.unit) (s, ()) 0) []) = iB s := by kernel_rfl
end Go.Proofs.YtnakjijahkaoaaaDoor
namespace Go.Proofs.YtnakjijahkaoaaaDoor
open Go Go.RowKit
def aH (id : List Int) : List Int := List.take 16 id
noncomputable abbrev dO : cv := ⟨lP, lT, fun x => (aH x.1, ()), fun _ => True, true⟩
theorem nj : aY prog [] dN dO :=
 dr (S := dO) sY (fx := lO) se (by kernel_rfl) (fun _ _ => trivial) (T := fun x => m7 x.1) (fun x => p7 x.1) fun O w0 x hk _ => by
  obtain ⟨id, ⟨⟩⟩ := x
  have hl : List.length id = 32 := hk.1.1
  have e : bv (Ty.int IntKind.u8) id 0 16 = List.take 16 id := rfl
  refine ⟨⟨by decide, by decide, by decide⟩, ?_, _, rfl, ?_⟩
  ·rw [e]
   show 16 ≤ (List.take 16 id).length
   rw [List.length_take]
   omega
  ·rw [e]
   show (List.take 16 (List.take 16 id), ()) = (List.take 16 id, ())
   rw [List.take_take]; rfl
@[reducible] def fu : gt := ⟨ae, false, .pair (.slc ae) .unit, true, fun _ y => y.1.length ≤ bT, fun _ y => y.1⟩
theorem mG : kM prog [] dK fu :=
 zU nv (fx := il) rfl mA (by kernel_rfl) (T := fun _ y => iB y.1) (fun xs y _ => lh y.1) fun O w0 bk xs y hxl hy hp => by
  obtain ⟨s, ⟨⟩⟩ := y
  refine fun c hc => ⟨fun hx => ?_, fun hx => ?_⟩
  ·show K.val _ _ = K.val _ s
   rw [show s = [] from hc hx]
  ·refine ⟨?_, ?_, ?_⟩
   ·simpa using hp
   ·simp [vok]
   ·show K.val (.slc ae) (tg ae (List.replicate 0 (zero ae) ++ s) 0 (List.length (List.replicate 0 (zero ae) ++ s))) = K.val _ s
    rw [xY _ rfl]; rfl
end Go.Proofs.YtnakjijahkaoaaaDoor
namespace Go.Proofs.YtnakjijahkaoaaaDoor
open Go Go.RowKit
noncomputable abbrev mN : Fx := { fn := iD, ann := { } }
noncomputable abbrev mt : Fx := { fn := iI, ann := { } }
noncomputable abbrev oE : Fx := { fn := jr, ann := { } }
noncomputable abbrev aB : Fx := { fn := az, ann := { loops := [(5, { keep := [0, 1, 5, 6] })], frz := [(1000005, [4, 5])] }, own := [41] }
noncomputable abbrev ba : Fx := { fn := aX, ann := { loops := [(2, { keep := [0, 1, 7, 8] })], frz := [(1000002, [0, 1]), (2000002, [4, 5])] } }
noncomputable abbrev al : Fx := { fn := am, ann := { loops := [(4, { keep := [4], own := [(4, (.ref ae))] }), (6, { keep := [4, 5, 14, 15, 16] })] }, own := [5] }
noncomputable abbrev bp : bl := { D := { T := cx, F := [(dN, dO)], R := [(dK, fu)], ovl := [] }, inl := [(iz, mN), (iC, mt), (aD, oE), (fT, aB), (ge, ba)] }
noncomputable abbrev cS : cw := .data dC
theorem rr (h_proof_keyOf : aY prog [] dN dO) (h_slices_Clone_Link : kM prog [] dK fu) : XOk prog bp := xok (bf (bP bR bt) h_proof_keyOf) (by kernel_rfl) (yK h_slices_Clone_Link bu) (iN mn (by kernel_rfl) (iN me (by kernel_rfl) (iN nI (by kernel_rfl) (iN jz (by kernel_rfl) (iN jQ (by kernel_rfl) bM))))) bN
noncomputable def lc (l : den (Ty.slc ae)) : ab := ab.ite (decide (64 < lnx ae l)) (ab.ret (K.val (Ty.pair Ty.bool (Ty.pair ah Ty.unit)) (false, 2, PUnit.unit))) (ab.req (List.length l ≤ bT) (ab.loop [] al (lp am 4) [(4, K.val (Ty.slc ae) l)] []))
theorem ny (l : den (Ty.slc ae)) : aC bp cS 5000 [] al (aZ am) (Env.of (bc kB (l, ()) 0) []) = lc l := by kernel_rfl
noncomputable def d9 (v4 : den (Ty.slc ae)) : Env := Env.of [(4, K.val (Ty.slc ae) v4)] []
noncomputable def ol (v4 : den (Ty.slc ae)) : ab := ab.loop [] al (lp am 6) [(4, K.val (Ty.slc ae) v4), (5, K.ptr 0 ag []), (14, K.val (Ty.slc ae) v4), (15, K.val ah (lnx ae v4)), (16, K.val ah 0)] [(0, Bx.obj ag (K.agg (Ty.pair (Ty.mp aj Ty.bool) Ty.unit) (K.kcons K.nilmp K.knil)))]
theorem lU (v4 : den (Ty.slc ae)) : aC bp cS 5000 [] al (lp am 4) (d9 v4) = ol v4 := by kernel_rfl
noncomputable def jq (v4 : den (Ty.slc ae)) (v14 : den (Ty.slc ae)) (v15 : den ah) (v16 : den ah) : Env := Env.of [(4, K.val (Ty.slc ae) v4), (5, K.ptr 0 ag []), (14, K.val (Ty.slc ae) v14), (15, K.val ah v15), (16, K.val ah v16)] [(0, Bx.obj ag (K.agg (Ty.pair (Ty.mp aj Ty.bool) Ty.unit) (K.kcons K.nilmp K.knil)))]
noncomputable def om (v4 : den (Ty.slc ae)) (v14 : den (Ty.slc ae)) (v15 : den ah) (v16 : den ah) : ab := ab.ite (decide (v16 < v15)) (ab.req (inB v16 (lnx ae v14)) (ab.req True (ab.ite true (ab.loop [] al (lp am 6) [(4, K.val (Ty.slc ae) v4), (5, K.ptr 0 ag []), (14, K.val (Ty.slc ae) v14), (15, K.val ah v15), (16, K.val ah (IntKind.wrap IntKind.i64 (v16 + 1)))] [(0, Bx.obj ag (K.agg (Ty.pair (Ty.mp aj Ty.bool) Ty.unit) (K.kcons (K.pm (0 + 1)) K.knil))), (0 + 1, Bx.mpd aj Ty.bool (dQ [] (aH (Prod.fst (el ae v14 v16))) true))]) (ab.bad (1000 + 3))))) (ab.req (List.length v4 ≤ bT) (ab.loop [{ fx := aB, todo := bB az 1 2, dst := some 10, s := ofS [(0, K.sl 0 ae), (1, K.clo aD (K.kcons (K.ptr (0 + 1) ag []) K.knil))] }, { fx := al, todo := bB am 10 3, dst := some 28, s := ofS [(4, K.val (Ty.slc ae) v4), (5, K.ptr (0 + 1) ag [])] }] ba (lp aX 2) [(0, K.sl 0 ae), (1, K.clo aD (K.kcons (K.ptr (0 + 1) ag []) K.knil)), (7, K.val ah (lnx ae v4)), (8, K.val ah 0)] [(0, Bx.row ae v4), (0 + 1, Bx.obj ag (K.agg (Ty.pair (Ty.mp aj Ty.bool) Ty.unit) (K.kcons K.nilmp K.knil)))]))
theorem gO (v4 : den (Ty.slc ae)) (v14 : den (Ty.slc ae)) (v15 : den ah) (v16 : den ah) : aC bp cS 5000 [] al (lp am 6) (jq v4 v14 v15 v16) = om v4 v14 v15 v16 := by kernel_rfl
noncomputable def iH (v4 : den (Ty.slc ae)) (v14 : den (Ty.slc ae)) (v15 : den ah) (v16 : den ah) (b1 : List (den aj × den Ty.bool)) : Env := Env.of [(4, K.val (Ty.slc ae) v4), (5, K.ptr 0 ag []), (14, K.val (Ty.slc ae) v14), (15, K.val ah v15), (16, K.val ah v16)] [(0, Bx.obj ag (K.agg (Ty.pair (Ty.mp aj Ty.bool) Ty.unit) (K.kcons (K.pm (0 + 1)) K.knil))), (1, Bx.mpd aj Ty.bool b1)]
noncomputable def mw (v4 : den (Ty.slc ae)) (v14 : den (Ty.slc ae)) (v15 : den ah) (v16 : den ah) (b1 : List (den aj × den Ty.bool)) : ab := ab.ite (decide (v16 < v15)) (ab.req (inB v16 (lnx ae v14)) (ab.req True (ab.ite false (ab.loop [] al (lp am 6) [(4, K.val (Ty.slc ae) v4), (5, K.ptr 0 ag []), (14, K.val (Ty.slc ae) v14), (15, K.val ah v15), (16, K.val ah (IntKind.wrap IntKind.i64 (v16 + 1)))] [(0, Bx.obj ag (K.agg (Ty.pair (Ty.mp aj Ty.bool) Ty.unit) (K.kcons (K.pm (0 + 1)) K.knil))), (0 + 1, Bx.mpd aj Ty.bool (dQ [] (aH (Prod.fst (el ae v14 v16))) true))]) (ab.loop [] al (lp am 6) [(4, K.val (Ty.slc ae) v4), (5, K.ptr 0 ag []), (14, K.val (Ty.slc ae) v14), (15, K.val ah v15), (16, K.val ah (IntKind.wrap IntKind.i64 (v16 + 1)))] [(0, Bx.obj ag (K.agg (Ty.pair (Ty.mp aj Ty.bool) Ty.unit) (K.kcons (K.pm (0 + 1)) K.knil))), (0 + 1, Bx.mpd aj Ty.bool (dQ b1 (aH (Prod.fst (el ae v14 v16))) true))])))) (ab.req (List.length v4 ≤ bT) (ab.loop [{ fx := aB, todo := bB az 1 2, dst := some 10, s := ofS [(0, K.sl 0 ae), (1, K.clo aD (K.kcons (K.ptr (0 + 1) ag []) K.knil))] }, { fx := al, todo := bB am 10 3, dst := some 28, s := ofS [(4, K.val (Ty.slc ae) v4), (5, K.ptr (0 + 1) ag [])] }] ba (lp aX 2) [(0, K.sl 0 ae), (1, K.clo aD (K.kcons (K.ptr (0 + 1) ag []) K.knil)), (7, K.val ah (lnx ae v4)), (8, K.val ah 0)] [(0, Bx.row ae v4), (0 + 1, Bx.obj ag (K.agg (Ty.pair (Ty.mp aj Ty.bool) Ty.unit) (K.kcons (K.pm (0 + 1 + 1)) K.knil))), (0 + 1 + 1, Bx.mpd aj Ty.bool b1)]))
theorem gd (v4 : den (Ty.slc ae)) (v14 : den (Ty.slc ae)) (v15 : den ah) (v16 : den ah) (b1 : List (den aj × den Ty.bool)) : aC bp cS 5000 [] al (lp am 6) (iH v4 v14 v15 v16 b1) = mw v4 v14 v15 v16 b1 := by kernel_rfl
noncomputable def fj (w1_4 : den (Ty.slc ae)) (v7 : den ah) (v8 : den ah) (b0 : List (den ae)) : List bj := [{ fx := aB, todo := bB az 1 2, dst := some 10, s := ofS [(0, K.sl 0 ae), (1, K.clo aD (K.kcons (K.ptr (0 + 1) ag []) K.knil))] }, { fx := al, todo := bB am 10 3, dst := some 28, s := ofS [(4, K.val (Ty.slc ae) w1_4), (5, K.ptr (0 + 1) ag [])] }]
noncomputable def fi (w1_4 : den (Ty.slc ae)) (v7 : den ah) (v8 : den ah) (b0 : List (den ae)) : Env := Env.of [(0, K.sl 0 ae), (1, K.clo aD (K.kcons (K.ptr (0 + 1) ag []) K.knil)), (7, K.val ah v7), (8, K.val ah v8)] [(0, Bx.row ae b0), (1, Bx.obj ag (K.agg (Ty.pair (Ty.mp aj Ty.bool) Ty.unit) (K.kcons K.nilmp K.knil)))]
noncomputable def eZ (w1_4 : den (Ty.slc ae)) (v7 : den ah) (v8 : den ah) (b0 : List (den ae)) : ab := ab.ite (decide (v8 < v7)) (ab.req (inB v8 (lnx ae b0)) (ab.req (inB v8 (lnx ae b0)) (ab.req True (ab.ite (!f5 (k := aj) (v := Ty.bool) [] (aH (Prod.fst (Prod.snd (el ae b0 v8))))) (ab.ite (decide (v8 = -1)) (ab.ite (decide (lnx ae b0 = lnx ae w1_4)) (ab.ret (K.val (Ty.pair Ty.bool (Ty.pair ah Ty.unit)) (decide (lnx ae w1_4 = 0), 0, PUnit.unit))) (ab.loop [] al (lp am 4) [(4, K.val (Ty.slc ae) b0)] [])) (ab.loop [{ fx := al, todo := bB am 10 3, dst := some 28, s := ofS [(4, K.val (Ty.slc ae) w1_4), (5, K.ptr (0 + 1) ag [])] }] aB (lp az 5) [(0, K.sl 0 ae), (1, K.clo aD (K.kcons (K.ptr (0 + 1) ag []) K.knil)), (5, K.val ah v8), (6, K.val ah (IntKind.wrap IntKind.i64 (v8 + 1)))] [(0, Bx.row ae b0), (0 + 1, Bx.obj ag (K.agg (Ty.pair (Ty.mp aj Ty.bool) Ty.unit) (K.kcons K.nilmp K.knil)))])) (ab.loop [{ fx := aB, todo := bB az 1 2, dst := some 10, s := ofS [(0, K.sl 0 ae), (1, K.clo aD (K.kcons (K.ptr (0 + 1) ag []) K.knil))] }, { fx := al, todo := bB am 10 3, dst := some 28, s := ofS [(4, K.val (Ty.slc ae) w1_4), (5, K.ptr (0 + 1) ag [])] }] ba (lp aX 2) [(0, K.sl 0 ae), (1, K.clo aD (K.kcons (K.ptr (0 + 1) ag []) K.knil)), (7, K.val ah v7), (8, K.val ah (IntKind.wrap IntKind.i64 (v8 + 1)))] [(0, Bx.row ae b0), (0 + 1, Bx.obj ag (K.agg (Ty.pair (Ty.mp aj Ty.bool) Ty.unit) (K.kcons K.nilmp K.knil)))]))))) (ab.ite (decide (-1 = -1)) (ab.ite (decide (lnx ae b0 = lnx ae w1_4)) (ab.ret (K.val (Ty.pair Ty.bool (Ty.pair ah Ty.unit)) (decide (lnx ae w1_4 = 0), 0, PUnit.unit))) (ab.loop [] al (lp am 4) [(4, K.val (Ty.slc ae) b0)] [])) (ab.loop [{ fx := al, todo := bB am 10 3, dst := some 28, s := ofS [(4, K.val (Ty.slc ae) w1_4), (5, K.ptr (0 + 1) ag [])] }] aB (lp az 5) [(0, K.sl 0 ae), (1, K.clo aD (K.kcons (K.ptr (0 + 1) ag []) K.knil)), (5, K.val ah (-1)), (6, K.val ah (IntKind.wrap IntKind.i64 (-1 + 1)))] [(0, Bx.row ae b0), (0 + 1, Bx.obj ag (K.agg (Ty.pair (Ty.mp aj Ty.bool) Ty.unit) (K.kcons K.nilmp K.knil)))]))
theorem d7 (w1_4 : den (Ty.slc ae)) (v7 : den ah) (v8 : den ah) (b0 : List (den ae)) : aC bp cS 5000 (fj w1_4 v7 v8 b0) ba (lp aX 2) (fi w1_4 v7 v8 b0) = eZ w1_4 v7 v8 b0 := by kernel_rfl
noncomputable def cJ (w1_4 : den (Ty.slc ae)) (v7 : den ah) (v8 : den ah) (b0 : List (den ae)) (b2 : List (den aj × den Ty.bool)) : List bj := [{ fx := aB, todo := bB az 1 2, dst := some 10, s := ofS [(0, K.sl 0 ae), (1, K.clo aD (K.kcons (K.ptr (0 + 1) ag []) K.knil))] }, { fx := al, todo := bB am 10 3, dst := some 28, s := ofS [(4, K.val (Ty.slc ae) w1_4), (5, K.ptr (0 + 1) ag [])] }]
noncomputable def cI (w1_4 : den (Ty.slc ae)) (v7 : den ah) (v8 : den ah) (b0 : List (den ae)) (b2 : List (den aj × den Ty.bool)) : Env := Env.of [(0, K.sl 0 ae), (1, K.clo aD (K.kcons (K.ptr (0 + 1) ag []) K.knil)), (7, K.val ah v7), (8, K.val ah v8)] [(0, Bx.row ae b0), (1, Bx.obj ag (K.agg (Ty.pair (Ty.mp aj Ty.bool) Ty.unit) (K.kcons (K.pm (0 + 1 + 1)) K.knil))), (2, Bx.mpd aj Ty.bool b2)]
noncomputable def eI (w1_4 : den (Ty.slc ae)) (v7 : den ah) (v8 : den ah) (b0 : List (den ae)) (b2 : List (den aj × den Ty.bool)) : ab := ab.ite (decide (v8 < v7)) (ab.req (inB v8 (lnx ae b0)) (ab.req (inB v8 (lnx ae b0)) (ab.req True (ab.ite (!f5 b2 (aH (Prod.fst (Prod.snd (el ae b0 v8))))) (ab.ite (decide (v8 = -1)) (ab.ite (decide (lnx ae b0 = lnx ae w1_4)) (ab.ret (K.val (Ty.pair Ty.bool (Ty.pair ah Ty.unit)) (decide (lnx ae w1_4 = 0), 0, PUnit.unit))) (ab.loop [] al (lp am 4) [(4, K.val (Ty.slc ae) b0)] [])) (ab.loop [{ fx := al, todo := bB am 10 3, dst := some 28, s := ofS [(4, K.val (Ty.slc ae) w1_4), (5, K.ptr (0 + 1) ag [])] }] aB (lp az 5) [(0, K.sl 0 ae), (1, K.clo aD (K.kcons (K.ptr (0 + 1) ag []) K.knil)), (5, K.val ah v8), (6, K.val ah (IntKind.wrap IntKind.i64 (v8 + 1)))] [(0, Bx.row ae b0), (0 + 1, Bx.obj ag (K.agg (Ty.pair (Ty.mp aj Ty.bool) Ty.unit) (K.kcons (K.pm (0 + 1 + 1)) K.knil))), (0 + 1 + 1, Bx.mpd aj Ty.bool b2)])) (ab.loop [{ fx := aB, todo := bB az 1 2, dst := some 10, s := ofS [(0, K.sl 0 ae), (1, K.clo aD (K.kcons (K.ptr (0 + 1) ag []) K.knil))] }, { fx := al, todo := bB am 10 3, dst := some 28, s := ofS [(4, K.val (Ty.slc ae) w1_4), (5, K.ptr (0 + 1) ag [])] }] ba (lp aX 2) [(0, K.sl 0 ae), (1, K.clo aD (K.kcons (K.ptr (0 + 1) ag []) K.knil)), (7, K.val ah v7), (8, K.val ah (IntKind.wrap IntKind.i64 (v8 + 1)))] [(0, Bx.row ae b0), (0 + 1, Bx.obj ag (K.agg (Ty.pair (Ty.mp aj Ty.bool) Ty.unit) (K.kcons (K.pm (0 + 1 + 1)) K.knil))), (0 + 1 + 1, Bx.mpd aj Ty.bool b2)]))))) (ab.ite (decide (-1 = -1)) (ab.ite (decide (lnx ae b0 = lnx ae w1_4)) (ab.ret (K.val (Ty.pair Ty.bool (Ty.pair ah Ty.unit)) (decide (lnx ae w1_4 = 0), 0, PUnit.unit))) (ab.loop [] al (lp am 4) [(4, K.val (Ty.slc ae) b0)] [])) (ab.loop [{ fx := al, todo := bB am 10 3, dst := some 28, s := ofS [(4, K.val (Ty.slc ae) w1_4), (5, K.ptr (0 + 1) ag [])] }] aB (lp az 5) [(0, K.sl 0 ae), (1, K.clo aD (K.kcons (K.ptr (0 + 1) ag []) K.knil)), (5, K.val ah (-1)), (6, K.val ah (IntKind.wrap IntKind.i64 (-1 + 1)))] [(0, Bx.row ae b0), (0 + 1, Bx.obj ag (K.agg (Ty.pair (Ty.mp aj Ty.bool) Ty.unit) (K.kcons (K.pm (0 + 1 + 1)) K.knil))), (0 + 1 + 1, Bx.mpd aj Ty.bool b2)]))
theorem cm (w1_4 : den (Ty.slc ae)) (v7 : den ah) (v8 : den ah) (b0 : List (den ae)) (b2 : List (den aj × den Ty.bool)) : aC bp cS 5000 (cJ w1_4 v7 v8 b0 b2) ba (lp aX 2) (cI w1_4 v7 v8 b0 b2) = eI w1_4 v7 v8 b0 b2 := by kernel_rfl
noncomputable def cF (w0_4 : den (Ty.slc ae)) (v5 : den ah) (v6 : den ah) (b0 : List (den ae)) (b2 : List (den aj × den Ty.bool)) : List bj := [{ fx := al, todo := bB am 10 3, dst := some 28, s := ofS [(4, K.val (Ty.slc ae) w0_4), (5, K.ptr (0 + 1) ag [])] }]
noncomputable def cD (w0_4 : den (Ty.slc ae)) (v5 : den ah) (v6 : den ah) (b0 : List (den ae)) (b2 : List (den aj × den Ty.bool)) : Env := Env.of [(0, K.sl 0 ae), (1, K.clo aD (K.kcons (K.ptr (0 + 1) ag []) K.knil)), (5, K.val ah v5), (6, K.val ah v6)] [(0, Bx.row ae b0), (1, Bx.obj ag (K.agg (Ty.pair (Ty.mp aj Ty.bool) Ty.unit) (K.kcons (K.pm (0 + 1 + 1)) K.knil))), (2, Bx.mpd aj Ty.bool b2)]
noncomputable def d6 (w0_4 : den (Ty.slc ae)) (v5 : den ah) (v6 : den ah) (b0 : List (den ae)) (b2 : List (den aj × den Ty.bool)) : ab := ab.ite (decide (v6 < lnx ae b0)) (ab.req (inB v6 (lnx ae b0)) (ab.req (inB v6 (lnx ae b0)) (ab.req True (ab.ite (!!f5 b2 (aH (Prod.fst (Prod.snd (el ae b0 v6))))) (ab.req (inB v5 (lnx ae b0)) (ab.req (inB v5 (lnx ae b0)) (ab.loop [{ fx := al, todo := bB am 10 3, dst := some 28, s := ofS [(4, K.val (Ty.slc ae) w0_4), (5, K.ptr (0 + 1) ag [])] }] aB (lp az 5) [(0, K.sl 0 ae), (1, K.clo aD (K.kcons (K.ptr (0 + 1) ag []) K.knil)), (5, K.val ah (IntKind.wrap IntKind.i64 (v5 + 1))), (6, K.val ah (IntKind.wrap IntKind.i64 (v6 + 1)))] [(0, Bx.row ae (ff ae b0 v5 (el ae b0 v6))), (0 + 1, Bx.obj ag (K.agg (Ty.pair (Ty.mp aj Ty.bool) Ty.unit) (K.kcons (K.pm (0 + 1 + 1)) K.knil))), (0 + 1 + 1, Bx.mpd aj Ty.bool b2)]))) (ab.loop [{ fx := al, todo := bB am 10 3, dst := some 28, s := ofS [(4, K.val (Ty.slc ae) w0_4), (5, K.ptr (0 + 1) ag [])] }] aB (lp az 5) [(0, K.sl 0 ae), (1, K.clo aD (K.kcons (K.ptr (0 + 1) ag []) K.knil)), (5, K.val ah v5), (6, K.val ah (IntKind.wrap IntKind.i64 (v6 + 1)))] [(0, Bx.row ae b0), (0 + 1, Bx.obj ag (K.agg (Ty.pair (Ty.mp aj Ty.bool) Ty.unit) (K.kcons (K.pm (0 + 1 + 1)) K.knil))), (0 + 1 + 1, Bx.mpd aj Ty.bool b2)]))))) (ab.req (vok 0 (List.length b0) (List.length b0)) (ab.req (bg v5 (↑(List.length b0) : Int) (↑(List.length b0 - 0) : Int)) (ab.req (vok (0 + Int.toNat v5) (Int.toNat (↑(List.length b0) : Int) - Int.toNat v5) (List.length b0)) (ab.req (bg 0 v5 (lnx ae (over b0 (0 + Int.toNat v5) (List.replicate (Int.toNat (↑(List.length b0) : Int) - Int.toNat v5) (zero ae))))) (ab.ite (decide (lnx ae (List.take (Int.toNat v5) (over b0 (0 + Int.toNat v5) (List.replicate (Int.toNat (↑(List.length b0) : Int) - Int.toNat v5) (zero ae)))) = lnx ae w0_4)) (ab.ret (K.val (Ty.pair Ty.bool (Ty.pair ah Ty.unit)) (decide (lnx ae w0_4 = 0), 0, PUnit.unit))) (ab.loop [] al (lp am 4) [(4, K.val (Ty.slc ae) (List.take (Int.toNat v5) (over b0 (0 + Int.toNat v5) (List.replicate (Int.toNat (↑(List.length b0) : Int) - Int.toNat v5) (zero ae)))))] []))))))
theorem cg (w0_4 : den (Ty.slc ae)) (v5 : den ah) (v6 : den ah) (b0 : List (den ae)) (b2 : List (den aj × den Ty.bool)) : aC bp cS 5000 (cF w0_4 v5 v6 b0 b2) aB (lp az 5) (cD w0_4 v5 v6 b0 b2) = d6 w0_4 v5 v6 b0 b2 := by kernel_rfl
end Go.Proofs.YtnakjijahkaoaaaDoor
namespace Go.Proofs.YtnakjijahkaoaaaDoor
open Go Go.RowKit
abbrev oc := List (den aj × den Ty.bool)
def oy (m : oc) (k : List Int) : Bool := f5 (k := aj) (v := Ty.bool) m k
def wG (m : oc) (k : List Int) : oc := dQ (k := aj) (v := Ty.bool) m k true
theorem eqK (a b : List Int) : eqb aj a b = decide (a = b) := by
 have := jO (t := aj) rfl a b
 cases h : eqb aj a b
 ·exact (decide_eq_false fun e => by rw [this.2 e] at h; cases h).symm
 ·exact (decide_eq_true (this.1 h)).symm
theorem zP (k : List Int) : oy [] k = false := rfl
theorem Ab : ∀ (m : oc) (a c : List Int), oy (wG m a) c = if c = a then true else oy m c := by
 intro m a c
 unfold oy wG f5 i5
 induction m with
 | nil =>
  rw [dQ]
  by_cases h : c = a
  ·rw [if_pos h, List.find?_cons_of_pos (by rw [eqK]; exact decide_eq_true h)]
   rfl
  ·rw [if_neg h, List.find?_cons_of_neg (by rw [eqK, decide_eq_false h]; simp)]
 | cons q m ih =>
  rw [dQ]
  by_cases hq : eqb aj a q.1 = true
  ·have hq' : a = q.1 := by rw [eqK] at hq; exact of_decide_eq_true hq
   rw [if_pos hq]
   by_cases h : c = a
   ·rw [if_pos h, List.find?_cons_of_pos (by rw [eqK]; exact decide_eq_true h)]
    rfl
   ·rw [if_neg h, List.find?_cons_of_neg (by rw [eqK, decide_eq_false h]; simp), List.find?_cons_of_neg (by rw [eqK, decide_eq_false (by rw [← hq']; exact h)]; simp)]
  ·rw [if_neg hq]
   by_cases hc : c = q.1
   ·have h : ¬ c = a := fun e => hq (by rw [eqK]; exact decide_eq_true (by rw [← e, hc]))
    rw [if_neg h, List.find?_cons_of_pos (by rw [eqK]; exact decide_eq_true hc), List.find?_cons_of_pos (by rw [eqK]; exact decide_eq_true hc)]
   ·rw [List.find?_cons_of_neg (by rw [eqK, decide_eq_false hc]; simp), List.find?_cons_of_neg (by rw [eqK, decide_eq_false hc]; simp)]
    exact ih
def cn (l : List Lk) : oc := l.foldl (fun m x => wG m (aH x.1)) []
theorem tD (k : List Int) : ∀ (l : List Lk) (m : oc), oy (l.foldl (fun m x => wG m (aH x.1)) m) k = (oy m k || decide (k ∈ l.map fun x => aH x.1))
 | [], m => by simp
 | x :: l, m => by
  rw [List.foldl_cons, tD k l, Ab, List.map_cons]
  by_cases h : k = aH x.1
  ·rw [if_pos h, decide_eq_true (show k ∈ aH x.1 :: _ by rw [h]; exact List.mem_cons_self)]
   simp
  ·rw [if_neg h]
   congr 1
   rw [decide_eq_decide, List.mem_cons]
   exact ⟨.inr, fun h' => h'.resolve_left h⟩
theorem uG (l : List Lk) (k : List Int) : oy (cn l) k = decide (k ∈ l.map fun x => aH x.1) := by
 unfold cn
 rw [tD, zP, Bool.false_or]
def dc (m : oc) (x : Lk) : Bool := oy m (aH x.2.1)
def g9 : Nat → List Lk → Bool
 | 0, _ => false
 | n + 1, l => if (l.filter (dc (cn l))).length = l.length then decide (l.length = 0) else g9 n (l.filter (dc (cn l)))
def bA (l : List Lk) : Bool × Int := if 64 < l.length then (false, 2) else (g9 (l.length + 1) l, 0)
noncomputable abbrev cN : cv := ⟨kB, dC, fun x => ((bA x.1).1, (bA x.1).2, ()), fun x => x.1.length ≤ 1000000, false⟩
theorem cM : XOk prog bp := rr nj mG
abbrev GA (O : Nat → Prop) (w0 : World) (y : Bool) := bo prog bp (Cx.base O w0) (eV prog O w0 dC fun z => z = (y, 0, ()))
theorem xj (O : Nat → Prop) (w0 : World) (l : List Lk) (y : Bool) (r : List Lk) (hr : r = l.filter (dc (cn l)))
    (hsame : r.length = l.length → y = decide (l.length = 0)) (hnext : r.length ≠ l.length → GA O w0 y [] al (lp am 4) (d9 r)) {b : List Lk} (hb : b = r) :
    aJ prog bp (Cx.base O w0) (eV prog O w0 dC fun z => z = (y, 0, ())) (fun k => ∃ x, aV dC k = some x ∧ x = (y, 0, ()))
      (ab.ite (decide (lnx ae b = lnx ae l)) (ab.ret (K.val (Ty.pair Ty.bool (Ty.pair ah Ty.unit)) (decide (lnx ae l = 0), 0, PUnit.unit)))
        (ab.loop [] al (lp am 4) [(4, K.val (Ty.slc ae) b)] [])) := by
  subst hb
  refine ⟨fun h => ⟨_, rfl, ?_⟩, fun h => ?_⟩
  · have h : ((b.length : Nat) : Int) = ((l.length : Nat) : Int) := of_decide_eq_true h
    rw [hsame (by omega)]
    have e : decide (lnx ae l = 0) = decide (l.length = 0) := by
      rw [decide_eq_decide]
      show ((l.length : Nat) : Int) = 0 ↔ _
      omega
    rw [e]
  · have h : ¬ ((b.length : Nat) : Int) = ((l.length : Nat) : Int) := of_decide_eq_false h
    exact hnext (by omega)
end Go.Proofs.YtnakjijahkaoaaaDoor
namespace Go.Proofs.YtnakjijahkaoaaaDoor
open Go Go.RowKit
structure Nx (O : Nat → Prop) (w0 : World) (l : List Lk) (y : Bool) : Prop where
 len : l.length ≤ 1000000
 same : (l.filter (dc (cn l))).length = l.length → y = decide (l.length = 0)
 next : (l.filter (dc (cn l))).length ≠ l.length → GA O w0 y [] al (lp am 4) (d9 (l.filter (dc (cn l))))
def Ar (O : Nat → Prop) (w0 : World) (l : List Lk) (y : Bool) (h : Nx O w0 l y) :=
 PLift.up <| c7 (σ := Nat × List Lk) l.length (fun j s => s.1 < j ∧ s.2.length = l.length ∧ s.2.take s.1 = (l.take j).filter (dc (cn l)) ∧ s.2.drop j = l.drop j)
  (fun j s => GA O w0 y (cF l (s.1 : Nat) (j : Nat) s.2 (cn l)) aB (lp az 5) (cD l (s.1 : Nat) (j : Nat) s.2 (cn l)))
  (fun j s hj hs ih => aQ cM (cg l _ _ s.2 _) (by
   obtain ⟨h1, h2, h3, h4⟩ := hs
   have hl := h.len
   have hjb : j < s.2.length := by omega
   have ej : s.2[j] = l[j] := by
    have e1 : (s.2.drop j)[0]? = (l.drop j)[0]? := by rw [h4]
    rw [List.getElem?_drop, List.getElem?_drop, Nat.add_zero, List.getElem?_eq_getElem hjb, List.getElem?_eq_getElem hj] at e1
    exact Option.some.inj e1
   have ed : s.2.drop (j + 1) = l.drop (j + 1) := by
    have e1 := congrArg (List.drop 1) h4
    rwa [List.drop_drop, List.drop_drop] at e1
   have el1 : el ae s.2 (j : Nat) = l[j] := by rw [o4 hjb, ej]
   refine ⟨fun _ => ⟨fU hjb, fU hjb, trivial, fun hc => ⟨fU (by omega), fU (by omega), ?_⟩, fun hc => ?_⟩, fun hc => ?_⟩
   ·rw [el1] at hc ⊢
    have hc : (!!dc (cn l) l[j]) = true := hc
    rw [Bool.not_not] at hc
    rw [dE (n := s.1) (m := s.2.length) (by omega) (by omega), dE hjb (by omega)]
    refine ih (s.1 + 1, ff ae s.2 (s.1 : Nat) l[j]) ⟨by show s.1 + 1 < j + 1; omega, ?_, ?_, ?_⟩
    ·show (List.set s.2 _ _).length = _
     rw [List.length_set]; exact h2
    ·show List.take (s.1 + 1) (List.set s.2 (Int.toNat (s.1 : Nat)) l[j]) = _
     rw [Int.toNat_natCast, List.take_succ_eq_append_getElem (by rw [List.length_set]; omega), List.getElem_set_self, List.take_set_of_le (Nat.le_refl _), h3, List.take_succ_eq_append_getElem hj, List.filter_append, List.filter_cons, if_pos hc]
     rfl
    ·show List.drop (j + 1) (List.set s.2 (Int.toNat (s.1 : Nat)) l[j]) = _
     rw [Int.toNat_natCast, List.drop_set_of_lt (by omega)]
     exact ed
   ·rw [el1] at hc
    have hc : (!!dc (cn l) l[j]) = false := hc
    rw [Bool.not_not] at hc
    rw [dE hjb (by omega)]
    refine ih (s.1, s.2) ⟨by show s.1 < j + 1; omega, h2, ?_, ed⟩
    show List.take s.1 s.2 = _
    rw [h3, List.take_succ_eq_append_getElem hj, List.filter_append, List.filter_cons, if_neg (by rw [hc]; simp), List.filter_nil, List.append_nil]
   ·rw [eM] at hc
    exact absurd hjb (of_decide_eq_false hc)))
  (fun s hs => aQ cM (cg l _ _ s.2 _) (by
   obtain ⟨h1, h2, h3, h4⟩ := hs
   have hi : s.1 < s.2.length := by omega
   rw [List.take_length] at h3
   have e0 : Int.toNat ((s.1 : Nat) : Int) = s.1 := Int.toNat_natCast _
   have e1 : Int.toNat ((s.2.length : Nat) : Int) = s.2.length := Int.toNat_natCast _
   have eov : ∀ ys : List Lk, List.take (Int.toNat ((s.1 : Nat) : Int)) (over s.2 (0 + Int.toNat ((s.1 : Nat) : Int)) ys) = l.filter (dc (cn l)) := fun ys => by
    unfold over
    rw [e0, Nat.zero_add, List.append_assoc, List.take_append_of_le_length (by rw [List.length_take]; omega), List.take_take, Nat.min_self, h3]
   have hov : ∀ ys : List Lk, s.1 ≤ (over s.2 (0 + Int.toNat ((s.1 : Nat) : Int)) ys).length := fun ys => by
    unfold over
    rw [e0, Nat.zero_add, List.length_append, List.length_append, List.length_take]
    omega
   refine ⟨fun hc => ?_, fun _ => ⟨Am _, ⟨Int.natCast_nonneg _, by show ((s.1 : Nat) : Int) ≤ _; omega, by show ((s.2.length : Nat) : Int) ≤ ((s.2.length - 0 : Nat) : Int); omega⟩, ?_, ⟨by decide, Int.natCast_nonneg _, Int.ofNat_le.2 (hov _)⟩, xj O w0 l y _ rfl h.same h.next (eov _)⟩⟩
   ·rw [eM] at hc
    have := of_decide_eq_true hc
    omega
   ·unfold vok
    rw [e0, e1]
    omega))
def Ax (O : Nat → Prop) (w0 : World) (l : List Lk) (y : Bool) (h : Nx O w0 l y) :=
 PLift.up <| c7 (σ := Unit) l.length (fun i _ => (l.take i).filter (dc (cn l)) = l.take i)
  (fun i _ => GA O w0 y (cJ l (lnx ae l) (i : Nat) l (cn l)) ba (lp aX 2) (cI l (lnx ae l) (i : Nat) l (cn l)))
  (fun i _ hi hb ih => aQ cM (cm l _ _ l _) (by
   have hl := h.len
   have e : el ae l (i : Nat) = l[i] := o4 hi
   refine ⟨fun _ => ⟨fU hi, fU hi, trivial, fun hc => ⟨fun h1 => ?_, fun _ => ?_⟩, fun hc => ?_⟩, fun hc => ?_⟩
   ·have h1 : ((i : Nat) : Int) = -1 := of_decide_eq_true h1
    omega
   ·rw [e] at hc
    have hc : (!dc (cn l) l[i]) = true := hc
    rw [dE hi (by omega)]
    refine (Ar O w0 l y h).down (i + 1) (i, l) hi ⟨Nat.lt_succ_self i, rfl, ?_, rfl⟩
    show l.take i = _
    rw [List.take_succ_eq_append_getElem hi, List.filter_append, hb, List.filter_cons, if_neg (by simpa using hc), List.filter_nil, List.append_nil]
   ·rw [e] at hc
    have hc : (!dc (cn l) l[i]) = false := hc
    rw [dE hi (by omega)]
    refine ih () ?_
    rw [List.take_succ_eq_append_getElem hi, List.filter_append, hb, List.filter_cons, if_pos (by simpa using hc)]
    rfl
   ·rw [show decide ((i : Nat) < lnx ae l) = decide (i < l.length) from eM l] at hc
    exact absurd hi (of_decide_eq_false hc)))
  (fun _ hb => aQ cM (cm l _ _ l _) (by
   rw [List.take_length] at hb
   refine ⟨fun hc => ?_, fun _ => ⟨fun _ => xj O w0 l y _ rfl h.same h.next hb.symm, fun hc => by cases hc⟩⟩
   exact absurd (Int.ofNat_lt.1 (of_decide_eq_true hc)) (Nat.lt_irrefl _)))
def AC (O : Nat → Prop) (w0 : World) (l : List Lk) (y : Bool) (h : Nx O w0 l y) :=
 PLift.up <| c7 (σ := oc) l.length (fun i m => m = cn (l.take i))
  (fun i m => GA O w0 y [] al (lp am 6) (iH l l (lnx ae l) (i : Nat) m))
  (fun i m hi hm ih => aQ cM (gd l l _ _ m) (by
   have hl := h.len
   have e : el ae l (i : Nat) = l[i] := o4 hi
   refine ⟨fun _ => ⟨fU hi, trivial, (fun hc => by cases hc), fun _ => ?_⟩, fun hc => ?_⟩
   ·rw [e, dE hi (by omega)]
    refine ih _ ?_
    rw [hm]
    unfold cn
    rw [List.take_succ_eq_append_getElem hi, List.foldl_append]
    rfl
   ·rw [eM] at hc
    exact absurd hi (of_decide_eq_false hc)))
  (fun m hm => aQ cM (gd l l _ _ m) (by
   rw [List.take_length] at hm
   subst hm
   refine ⟨fun hc => ?_, fun _ => ⟨Nat.le_trans h.len (by decide), (Ax O w0 l y h).down 0 () (Nat.zero_le _) rfl⟩⟩
   rw [eM] at hc
   exact absurd (of_decide_eq_true hc) (Nat.lt_irrefl _)))
theorem xo (O : Nat → Prop) (w0 : World) : ∀ (n : Nat) (l : List Lk), l.length < n → l.length ≤ 1000000 → GA O w0 (g9 n l) [] al (lp am 4) (d9 l)
 | 0, l, h, _ => absurd h (Nat.not_lt_zero _)
 | n + 1, l, h, hl => by
  have hN : Nx O w0 l (g9 (n + 1) l) := ⟨hl, fun e => by
   rw [g9, if_pos e], fun e => by
   rw [g9, if_neg e]
   have h1 := List.length_filter_le (dc (cn l)) l
   exact xo O w0 n _ (by omega) (by omega)⟩
  refine aQ cM (lU l) ?_
  show GA O w0 _ [] al (lp am 6) (jq l l (lnx ae l) 0)
  cases l with
  | nil =>
   refine aQ cM (gO [] [] _ _) ⟨(fun hc => by cases hc), fun _ => ⟨Nat.zero_le _, ?_⟩⟩
   exact aQ cM (d7 [] _ _ []) ⟨(fun hc => by cases hc), fun _ => ⟨fun _ => ⟨fun _ => ⟨_, rfl, rfl⟩, (fun hc => by cases hc)⟩, (fun hc => by cases hc)⟩⟩
  | cons x r =>
   have hi : 0 < (x :: r).length := Nat.succ_pos _
   have e : el ae (x :: r) ((0 : Nat) : Int) = x := rfl
   refine aQ cM (gO (x :: r) (x :: r) _ _) ⟨fun _ => ⟨fU hi, trivial, fun _ => ?_, (fun hc => by cases hc)⟩, fun hc => ?_⟩
   ·have hw : IntKind.wrap .i64 ((0 : Int) + 1) = ((1 : Nat) : Int) := by decide
    rw [hw]
    exact (AC O w0 (x :: r) _ hN).down 1 _ hi rfl
   ·have hc : ¬ ((0 : Int) < (((x :: r).length : Nat) : Int)) := of_decide_eq_false hc
    omega
theorem k4 : aY prog [] dg cN :=
 dr (S := cN) cM (fx := al) qm (by kernel_rfl) (fun h => by cases h) (T := fun x => lc x.1) (fun x => ny x.1) fun O w0 x _ hp => by
  obtain ⟨l, ⟨⟩⟩ := x
  have hp : l.length ≤ 1000000 := hp
  refine ⟨fun h => ⟨_, rfl, ?_⟩, fun h => ⟨Nat.le_trans hp (by decide), ?_⟩⟩
  ·have h : (64 : Int) < ((l.length : Nat) : Int) := of_decide_eq_true h
   show (false, (2 : Int), ()) = ((bA l).1, (bA l).2, ())
   unfold bA
   rw [if_pos (by omega)]
  ·have h : ¬ (64 : Int) < ((l.length : Nat) : Int) := of_decide_eq_false h
   have e : cN.g (l, ()) = (g9 (l.length + 1) l, 0, ()) := by
    show ((bA l).1, (bA l).2, ()) = _
    unfold bA
    rw [if_neg (by omega)]
   rw [e]
   exact xo O w0 (l.length + 1) l (Nat.lt_succ_self _) hp
end Go.Proofs.YtnakjijahkaoaaaDoor
