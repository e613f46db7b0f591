/- Part 7 of 9 of what this claim's proof stands on: a theory of programs on data, and the contracts of the functions that the law reaches. It holds no condition of its own. -/
import Derived.Test.YtnakjijahkaoaaaDoorCH6
import Derived.Test.YtnakjijahkaoaaaDoorProg
import Derived.Test.YtnakjijahkaoaaaDoorRows
import Derived.Shelf.Strings.Builder1
import Derived.Shelf.Strings.Builder2
import Derived.Shelf.Strings.OnBuilder
import Derived.Shelf.Strings.BuilderF
import Derived.Shelf.Strings.BuilderK
import Derived.Shelf.Strings.Builder2Cap
import Derived.Shelf.Strings.Prefix
import Derived.Shelf.Bits.Mul64
import Derived.Shelf.Strings.Repeat
import Derived.Shelf.Strings.BuilderCap
import Derived.LaidMore
import Derived.Lay
namespace Go.Proofs.YtnakjijahkaoaaaDoor
open Go
noncomputable section
noncomputable abbrev prog : Program := Tryd.prog
abbrev tId : Ty := (.arr 32 (.int .u8))
abbrev aj : Ty := (.arr 16 (.int .u8))
abbrev ae : Ty := (.arr 8 (.int .u32))
abbrev ah : Ty := (.st (.pair (.mp aj .bool) .unit))
abbrev af : Ty := (.st (.pair tId (.pair tId .unit)))
abbrev dD : Ty := (.st (.pair (.int .i64) (.pair tId (.pair (.int .i64) .unit))))
abbrev fX : Ty := (.st (.pair .bool (.pair .bool (.pair .bool (.pair .bool (.pair .bool (.pair .bool .unit)))))))
abbrev oD : Ty := (.st (.pair tId (.pair dD (.pair (.int .i64) .unit))))
abbrev eU : Ty := (.st (.pair (.int .i64) (.pair tId (.pair dD (.pair (.slc dD) (.pair (.int .i64) (.pair .str (.pair .str .unit))))))))
abbrev iv : Ty := (.st (.pair (.int .i64) (.pair eU .unit)))
def bT : List (Nat × Ty) := [
 (1, (.fn .unit .unit)),
 (2, (.int .i64)),
 (3, (.int .i64)),
 (4, .bool),
 (5, (.int .u8)),
 (9, .str),
 (12, (.int .u64)),
 (21, (.int .i32)),
 (22, tId),
 (23, tId),
 (24, (.int .i64)),
 (26, (.fn (.pair .str (.pair tId (.pair (.int .i64) .unit))) (.pair .str (.pair (.int .i64) .unit)))),
 (27, (.fn (.pair tId .unit) (.pair tId .unit))),
 (28, (.fn (.pair .str (.pair tId .unit)) (.pair tId .unit))),
 (29, (.fn (.pair tId (.pair tId .unit)) (.pair .bool .unit))),
 (30, (.fn .unit (.pair .bool .unit))),
 (31, (.fn (.pair .str (.pair tId (.pair (.int .i64) .unit))) (.pair .str .unit))),
 (32, (.fn (.pair tId (.pair tId (.pair .str (.pair (.int .i64) .unit)))) (.pair .bool .unit))),
 (33, (.slc af)),
 (35, (.fn (.pair (.slc af) .unit) (.pair .bool (.pair (.int .i64) .unit)))),
 (36, (.fn (.pair (.slc af) .unit) (.pair .bool .unit))),
 (37, af),
 (38, af),
 (39, (.fn (.pair tId (.pair tId (.pair tId (.pair (.slc af) .unit)))) (.pair .bool .unit))),
 (40, (.fn (.pair (.slc af) (.pair (.int .i64) .unit)) (.pair .bool .unit))),
 (41, dD),
 (42, dD),
 (43, (.slc dD)),
 (44, eU),
 (45, eU),
 (46, (.fn (.pair eU .unit) (.pair eU .unit))),
 (48, (.fn (.pair .str (.pair eU .unit)) (.pair (.int .i64) (.pair eU (.pair (.int .i64) .unit))))),
 (49, (.fn (.pair .str (.pair eU (.pair eU .unit))) (.pair .bool .unit))),
 (50, (.fn (.pair .str (.pair .str (.pair tId (.pair tId (.pair (.int .i64) .unit))))) (.pair .bool .unit))),
 (51, oD),
 (52, oD),
 (54, (.fn (.pair eU (.pair (.int .i64) .unit)) (.pair oD (.pair (.int .i64) .unit)))),
 (55, (.fn (.pair eU .unit) (.pair .bool .unit))),
 (56, (.fn (.pair eU (.pair (.int .i64) .unit)) (.pair oD .unit))),
 (57, (.fn (.pair eU (.pair eU .unit)) (.pair .bool .unit))),
 (58, iv),
 (59, iv),
 (60, (.fn (.pair .str (.pair eU .unit)) (.pair iv .unit))),
 (61, (.fn (.pair .str (.pair eU (.pair (.int .i64) .unit))) (.pair .bool .unit))),
 (62, (.fn (.pair .str (.pair .str (.pair tId (.pair (.int .i64) (.pair (.int .i64) (.pair (.int .i64) .unit)))))) (.pair .bool .unit))),
 (63, (.fn (.pair (.slc .str) .unit) (.pair tId .unit))),
 (64, (.slc (.int .u8))),
 (65, (.fn (.pair .str .unit) (.pair tId .unit))),
 (66, (.fn (.pair tId .unit) (.pair .str .unit))),
 (67, aj),
 (68, aj),
 (69, (.fn (.pair tId .unit) (.pair aj .unit))),
 (70, (.fn (.pair (.slc af) .unit) (.pair (.slc af) .unit))),
 (71, (.mp aj .bool)),
 (72, ah),
 (73, ah),
 (74, (.fn (.pair aj .unit) .unit)),
 (75, (.fn (.pair (.slc af) (.pair (.fn (.pair af .unit) (.pair .bool .unit)) .unit)) (.pair (.slc af) .unit))),
 (76, (.fn (.pair aj .unit) (.pair .bool .unit))),
 (77, (.fn (.pair af .unit) (.pair .bool .unit))),
 (78, (.fn (.pair (.slc .str) (.pair .str .unit)) (.pair .bool .unit))),
 (79, (.slc .str)),
 (80, (.fn (.pair (.slc af) (.pair .str .unit)) (.pair (.slc .str) .unit))),
 (81, (.fn (.pair eU (.pair .str .unit)) (.pair (.int .i64) .unit))),
 (83, (.mp (.int .i64) (.fn (.pair eU (.pair .str .unit)) (.pair (.int .i64) .unit)))),
 (84, (.fn .unit (.pair (.mp (.int .i64) (.fn (.pair eU (.pair .str .unit)) (.pair (.int .i64) .unit))) .unit))),
 (85, (.fn (.pair (.slc dD) (.pair (.slc dD) .unit)) (.pair .bool .unit))),
 (86, (.int .u32)),
 (87, ae),
 (88, ae),
 (89, (.fn .unit (.pair ae .unit))),
 (90, (.fn (.pair (.fn (.pair .str .unit) (.pair .bool .unit)) .unit) .unit)),
 (91, (.fn (.pair (.fn (.pair .str .unit) (.pair .bool .unit)) .unit) .unit)),
 (92, (.fn (.pair .str .unit) (.pair (.fn (.pair (.fn (.pair .str .unit) (.pair .bool .unit)) .unit) .unit) .unit))),
 (93, (.fn (.pair (.slc .str) (.pair .str .unit)) (.pair .str .unit))),
 (94, (.fn (.pair .str .unit) (.pair ae .unit))),
 (95, (.slc (.int .u32))),
 (96, (.fn .unit (.pair (.slc (.int .u32)) .unit))),
 (97, (.fn (.pair .str .unit) (.pair .str .unit))),
 (98, (.fn (.pair (.slc (.int .u32)) (.pair .str .unit)) (.pair (.slc (.int .u32)) .unit))),
 (100, (.fn (.pair (.slc af) (.pair (.fn (.pair af .unit) (.pair .bool .unit)) .unit)) (.pair (.int .i64) .unit))),
 (101, (.fn (.pair (.int .i64) .unit) (.pair (.fn (.pair eU (.pair .str .unit)) (.pair (.int .i64) .unit)) .unit))),
 (102, fX),
 (103, fX),
 (105, (.mp (.int .i64) fX)),
 (106, (.fn .unit (.pair (.mp (.int .i64) fX) .unit))),
 (107, (.fn (.pair dD .unit) (.pair .bool .unit))),
 (108, (.fn (.pair (.slc dD) .unit) (.pair .bool .unit))),
 (109, (.fn (.pair (.int .i64) (.pair (.int .u8) .unit)) (.pair .bool .unit))),
 (110, (.int .u64)),
 (111, (.int .u64)),
 (112, (.fn (.pair .str (.pair (.int .i64) .unit)) (.pair .str .unit))),
 (113, (.fn (.pair .str .unit) (.pair .bool .unit))),
 (117, (.fn (.pair (.int .i64) .unit) .unit)),
 (122, (.fn .unit (.pair .str .unit))),
 (123, (.arr 64 (.int .u32))),
 (124, (.fn (.pair .str .unit) (.pair (.int .u32) .unit))),
 (125, (.fn (.pair (.int .u32) (.pair (.int .i64) (.pair (.int .i64) (.pair (.int .u32) .unit)))) (.pair (.int .u32) .unit))),
 (126, (.fn (.pair (.int .u32) (.pair (.int .i64) .unit)) (.pair (.int .u32) .unit))),
 (127, (.fn (.pair (.slc (.int .u32)) (.pair (.int .u32) (.pair (.int .u32) .unit))) (.pair (.slc (.int .u32)) .unit))),
 (129, (.fn (.pair (.int .u64) (.pair (.int .u64) .unit)) (.pair (.int .u64) (.pair (.int .u64) .unit)))),
 (130, (.fn (.pair .str (.pair .str .unit)) (.pair .bool .unit))),
 (131, (.fn .unit (.pair (.int .i64) .unit))),
 (133, (.fn (.pair (.slc dD) (.pair (.fn (.pair dD .unit) (.pair .bool .unit)) .unit)) (.pair .bool .unit))),
 (135, (.fn (.pair (.int .u32) (.pair (.int .u32) .unit)) (.pair (.int .u32) (.pair (.int .u32) .unit)))),
 (137, (.fn (.pair (.int .u64) (.pair (.int .u64) .unit)) (.pair (.int .u64) (.pair (.int .u64) .unit)))),
 (140, (.fn (.pair (.int .i64) .unit) (.pair (.slc (.int .u8)) .unit))),
 (141, (.fn (.pair (.slc dD) (.pair (.fn (.pair dD .unit) (.pair .bool .unit)) .unit)) (.pair (.int .i64) .unit)))]
theorem bE : sW prog bT = true := by kernel_rfl
theorem bm : prog.follows .mixedOrders = true := by kernel_rfl
abbrev lY : Nat := 3
noncomputable abbrev iA : Func := Tryd.f3
abbrev da : Ty := (.pair tId (.pair tId (.pair .str (.pair (.int .i64) .unit))))
abbrev rG : Ty := (.pair .bool .unit)
theorem rK : Tryd.prog.funcs[lY]? = some iA := Tryd.func3
abbrev eB : Nat := 11
noncomputable abbrev kK : Func := Tryd.f11
abbrev nW : Ty := (.pair .str (.pair tId (.pair (.int .i64) .unit)))
abbrev nS : Ty := (.pair .str (.pair (.int .i64) .unit))
theorem vm : Tryd.prog.funcs[eB]? = some kK := Tryd.func11
abbrev dr : Nat := 12
noncomputable abbrev lL : Func := Tryd.f12
abbrev po : Ty := (.pair tId .unit)
abbrev oW : Ty := (.pair tId .unit)
theorem ww : Tryd.prog.funcs[dr]? = some lL := Tryd.func12
abbrev gR : Nat := 13
noncomputable abbrev fD : Func := Tryd.f13
abbrev rV : Ty := (.pair .str (.pair tId .unit))
abbrev jU : Ty := (.pair tId .unit)
theorem y5 : Tryd.prog.funcs[gR]? = some fD := Tryd.func13
abbrev d7 : Nat := 14
noncomputable abbrev kJ : Func := Tryd.f14
abbrev nq : Ty := (.pair tId .unit)
abbrev nM : Ty := (.pair tId .unit)
theorem uM : Tryd.prog.funcs[d7]? = some kJ := Tryd.func14
abbrev ef : Nat := 15
noncomputable abbrev kG : Func := Tryd.f15
abbrev nO : Ty := (.pair tId (.pair tId .unit))
abbrev nw : Ty := (.pair .bool .unit)
theorem uV : Tryd.prog.funcs[ef]? = some kG := Tryd.func15
abbrev jY : Nat := 16
noncomputable abbrev mZ : Func := Tryd.f16
abbrev qA : Ty := (.pair tId (.pair tId .unit))
abbrev qZ : Ty := (.pair .bool .unit)
theorem yi : Tryd.prog.funcs[jY]? = some mZ := Tryd.func16
abbrev jN : Nat := 17
noncomputable abbrev na : Func := Tryd.f17
abbrev qq : Ty := .unit
abbrev qd : Ty := (.pair .bool .unit)
theorem xS : Tryd.prog.funcs[jN]? = some na := Tryd.func17
abbrev jS : Nat := 18
noncomputable abbrev ne : Func := Tryd.f18
abbrev qa : Ty := (.pair .str (.pair tId (.pair (.int .i64) .unit)))
abbrev qB : Ty := (.pair .str .unit)
theorem wT : Tryd.prog.funcs[jS]? = some ne := Tryd.func18
abbrev gq : Nat := 19
noncomputable abbrev ao : Func := Tryd.f19
abbrev lQ : Ty := (.pair (.slc af) .unit)
abbrev dT : Ty := (.pair .bool (.pair (.int .i64) .unit))
theorem sE : Tryd.prog.funcs[gq]? = some ao := Tryd.func19
abbrev fi : Nat := 29
noncomputable abbrev aN : Func := Tryd.f29
abbrev px : Ty := (.pair (.slc .str) .unit)
abbrev fL : Ty := (.pair tId .unit)
theorem wn : Tryd.prog.funcs[fi]? = some aN := Tryd.func29
abbrev fm : Nat := 30
noncomputable abbrev lz : Func := Tryd.f30
abbrev pe : Ty := (.pair .str (.pair tId .unit))
abbrev pc : Ty := (.pair tId .unit)
theorem ws : Tryd.prog.funcs[fm]? = some lz := Tryd.func30
abbrev iC : Nat := 31
noncomputable abbrev de : Func := Tryd.f31
abbrev ti : Ty := (.pair .str .unit)
abbrev oA : Ty := (.pair tId .unit)
theorem AI : Tryd.prog.funcs[iC]? = some de := Tryd.func31
abbrev iD : Nat := 32
noncomputable abbrev pR : Func := Tryd.f32
abbrev tp : Ty := (.pair tId .unit)
abbrev uh : Ty := (.pair .str .unit)
theorem AY : Tryd.prog.funcs[iD]? = some pR := Tryd.func32
abbrev er : Nat := 33
noncomputable abbrev kC : Func := Tryd.f33
abbrev nu : Ty := (.pair tId .unit)
abbrev nR : Ty := (.pair aj .unit)
theorem uX : Tryd.prog.funcs[er]? = some kC := Tryd.func33
abbrev d4 : Nat := 34
noncomputable abbrev gd : Func := Tryd.f34
theorem n8 : Tryd.prog.funcs[d4]? = some gd := Tryd.func34
abbrev jn : Nat := 35
noncomputable abbrev ju : Func := Tryd.f35
theorem oo : Tryd.prog.funcs[jn]? = some ju := Tryd.func35
abbrev gx : Nat := 36
noncomputable abbrev aB : Func := Tryd.f36
theorem lc : Tryd.prog.funcs[gx]? = some aB := Tryd.func36
abbrev aE : Nat := 37
noncomputable abbrev kL : Func := Tryd.f37
theorem qv : Tryd.prog.funcs[aE]? = some kL := Tryd.func37
abbrev jt : Nat := 38
noncomputable abbrev jm : Func := Tryd.f38
theorem oH : Tryd.prog.funcs[jt]? = some jm := Tryd.func38
abbrev gg : Nat := 45
noncomputable abbrev ji : Func := Tryd.f45
abbrev lV : Ty := .unit
abbrev ma : Ty := (.pair ae .unit)
theorem s9 : Tryd.prog.funcs[gg]? = some ji := Tryd.func45
abbrev mG : Nat := 46
noncomputable abbrev dw : Func := Tryd.f46
theorem sH : Tryd.prog.funcs[mG]? = some dw := Tryd.func46
abbrev gN : Nat := 47
noncomputable abbrev vq : Func := Tryd.f47
abbrev ue : Ty := (.pair (.slc .str) (.pair .str .unit))
abbrev tv : Ty := (.pair .str .unit)
theorem uv : Tryd.prog.funcs[gN]? = some vq := Tryd.func47
abbrev dZ : Nat := 48
noncomputable abbrev a8 : Func := Tryd.f48
abbrev iT : Ty := (.pair ae (.pair .str .unit))
abbrev dF : Ty := (.pair ae .unit)
theorem ot : Tryd.prog.funcs[dZ]? = some a8 := Tryd.func48
abbrev jZ : Nat := 49
noncomputable abbrev m8 : Func := Tryd.f49
abbrev pW : Ty := .unit
abbrev qP : Ty := (.pair (.slc (.int .u32)) .unit)
theorem xM : Tryd.prog.funcs[jZ]? = some m8 := Tryd.func49
abbrev i8 : Nat := 50
noncomputable abbrev cn : Func := Tryd.f50
abbrev pl : Ty := (.pair .str .unit)
abbrev ii : Ty := (.pair .str .unit)
theorem wm : Tryd.prog.funcs[i8]? = some cn := Tryd.func50
abbrev j1 : Nat := 51
noncomputable abbrev aQ : Func := Tryd.f51
abbrev qu : Ty := (.pair (.slc (.int .u32)) (.pair .str .unit))
abbrev lC : Ty := (.pair (.slc (.int .u32)) .unit)
theorem xy : Tryd.prog.funcs[j1]? = some aQ := Tryd.func51
abbrev g6 : Nat := 52
noncomputable abbrev bh : Func := Tryd.f52
theorem lB : Tryd.prog.funcs[g6]? = some bh := Tryd.func52
abbrev fH : Nat := 62
noncomputable abbrev sZ : Func := Tryd.f62
abbrev rI : Ty := (.pair .str (.pair (.int .i64) .unit))
abbrev rJ : Ty := (.pair .str .unit)
theorem rH : Tryd.prog.funcs[fH]? = some sZ := Tryd.func62
abbrev kN : Nat := 63
noncomputable abbrev db : Func := Tryd.f63
theorem rb : Tryd.prog.funcs[kN]? = some db := Tryd.func63
abbrev gr : Nat := 67
noncomputable abbrev c7 : Func := Tryd.f67
abbrev lS : Ty := (.pair .str .unit)
abbrev iw : Ty := (.pair (.int .u32) .unit)
theorem sY : Tryd.prog.funcs[gr]? = some c7 := Tryd.func67
abbrev jh : Nat := 68
noncomputable abbrev lE : Func := Tryd.f68
abbrev ph : Ty := (.pair (.int .u32) (.pair (.int .i64) (.pair (.int .i64) (.pair (.int .u32) .unit))))
abbrev pu : Ty := (.pair (.int .u32) .unit)
theorem wr : Tryd.prog.funcs[jh]? = some lE := Tryd.func68
abbrev cG : Nat := 69
noncomputable abbrev f9 : Func := Tryd.f69
abbrev jg : Ty := (.pair (.int .u32) (.pair (.int .i64) .unit))
abbrev jf : Ty := (.pair (.int .u32) .unit)
theorem ol : Tryd.prog.funcs[cG]? = some f9 := Tryd.func69
abbrev gL : Nat := 70
noncomputable abbrev fB : Func := Tryd.f70
abbrev se : Ty := (.pair (.int .u32) (.pair (.int .i64) .unit))
abbrev nj : Ty := (.pair (.int .u32) .unit)
theorem y6 : Tryd.prog.funcs[gL]? = some fB := Tryd.func70
abbrev k9 : Nat := 71
noncomputable abbrev oI : Func := Tryd.f71
abbrev r8 : Ty := .unit
abbrev rS : Ty := (.pair (.slc (.int .u32)) .unit)
theorem zq : Tryd.prog.funcs[k9]? = some oI := Tryd.func71
abbrev jR : Nat := 72
noncomputable abbrev mX : Func := Tryd.f72
abbrev pO : Ty := (.pair (.slc (.int .u32)) (.pair (.int .u32) (.pair (.int .u32) .unit)))
abbrev qy : Ty := (.pair (.slc (.int .u32)) .unit)
theorem w5 : Tryd.prog.funcs[jR]? = some mX := Tryd.func72
end
end Go.Proofs.YtnakjijahkaoaaaDoor
namespace Go.Proofs.YtnakjijahkaoaaaDoor
open Go Go.RowKit
theorem bO {σ : Type} (n : Nat) (Inv : Nat → σ → Prop) (Q : Nat → σ → Prop) (step : ∀ i s, i < n → Inv i s → (∀ s', Inv (i + 1) s' → Q (i + 1) s') → Q i s) (last : ∀ s, Inv n s → Q n s) : ∀ (i : Nat) (s : σ), i ≤ n → Inv i s → Q i s := by
 intro i s hi
 obtain ⟨k, hk⟩ : ∃ k, k + i = n := ⟨n - i, by omega⟩
 induction k generalizing i s with
 | zero =>
  have e : i = n := by omega
  subst e
  exact last s
 | succ k ih =>
  intro hI
  exact step i s (by omega) hI fun s' h' => ih (i + 1) s' (by omega) (by omega) h'
theorem nB {e : Ty} (t : List (den e)) {i : Nat} : (decide ((i : Int) < lnx e t)) = decide (i < t.length) := by
 rw [Bool.eq_iff_iff, decide_eq_true_eq, decide_eq_true_eq]
 exact ⟨fun h => by have h : (i : Int) < (t.length : Int) := h; omega, fun h => by show (i : Int) < (t.length : Int); omega⟩
theorem bc {n : Int} (h : -1000000000000000 ≤ n ∧ n ≤ 1000000000000000) : IntKind.wrap .i64 n = n := BH (by omega) (by omega)
theorem Eg (n : Nat) : vok 0 n n := by unfold vok; omega
theorem BD {e : Ty} (xs : List (den e)) {n : Nat} (h : n = xs.length) : wF e xs 0 n = xs := by
 unfold wF; rw [h, List.drop_zero, List.take_length]
theorem aR {P : ab → Prop} {A : Type} {e : A} {f : A → ab} (h : P (f e)) : ∀ q, q = e → P (f q) := fun q hq => by cases hq; exact h
theorem Ew (s : ByteArray) (n : Nat) : bo 0 (g9 (aY s) (n : Int)) (aY s) := by
 unfold g9 bo aY
 split <;> omega
end Go.Proofs.YtnakjijahkaoaaaDoor
namespace Go.Proofs.YtnakjijahkaoaaaDoor
open Go Go.RowKit
noncomputable abbrev iS : Fx := { fn := f9, ann := { } }
noncomputable abbrev jl : bp := { D := { T := bT, F := [], R := [], ovl := [] }, inl := [] }
noncomputable abbrev pF : bS := .data jf
theorem pB : XOk prog jl := xok ((bv bE bm)) (by kernel_rfl) bj bu bt
noncomputable def js (x : den (Ty.int IntKind.u32)) (k : den ag) : ab := ab.req (ge0 (IntKind.wrap IntKind.u64 (↑(BitVec.toNat (BitVec.ofInt (IntKind.bits IntKind.u64) (IntKind.wrap IntKind.u64 k) &&& BitVec.ofInt (IntKind.bits IntKind.u64) 31)) : Int))) (ab.req (ge0 (IntKind.wrap IntKind.u64 (32 - IntKind.wrap IntKind.u64 (↑(BitVec.toNat (BitVec.ofInt (IntKind.bits IntKind.u64) (IntKind.wrap IntKind.u64 k) &&& BitVec.ofInt (IntKind.bits IntKind.u64) 31)) : Int)))) (ab.ret (K.val (Ty.pair (Ty.int IntKind.u32) Ty.unit) (IntKind.wrap IntKind.u32 (↑(BitVec.toNat (BitVec.ofInt (IntKind.bits IntKind.u32) (IntKind.wrap IntKind.u32 (x * 2 ^ min (Int.toNat (IntKind.wrap IntKind.u64 (↑(BitVec.toNat (BitVec.ofInt (IntKind.bits IntKind.u64) (IntKind.wrap IntKind.u64 k) &&& BitVec.ofInt (IntKind.bits IntKind.u64) 31)) : Int))) (IntKind.bits IntKind.u32))) ||| BitVec.ofInt (IntKind.bits IntKind.u32) (Int.fdiv x (2 ^ min (Int.toNat (IntKind.wrap IntKind.u64 (32 - IntKind.wrap IntKind.u64 (↑(BitVec.toNat (BitVec.ofInt (IntKind.bits IntKind.u64) (IntKind.wrap IntKind.u64 k) &&& BitVec.ofInt (IntKind.bits IntKind.u64) 31)) : Int)))) (IntKind.bits IntKind.u32))))) : Int), PUnit.unit))))
theorem mY (x : den (Ty.int IntKind.u32)) (k : den ag) : ax jl pF 5000 [] iS (aX f9) (Env.of (a6 jg (x, k, ()) 0) []) = js x k := by kernel_rfl
noncomputable abbrev lA : Fx := { fn := ji, ann := { } }
noncomputable abbrev mO : bp := { D := { T := bT, F := [], R := [], ovl := [] }, inl := [] }
noncomputable abbrev ug : bS := .data ma
theorem tL : XOk prog mO := xok ((bv bE bm)) (by kernel_rfl) bj bu bt
noncomputable def mr : ab := ab.ret (K.val (Ty.pair ae Ty.unit) (List.set (List.set (List.set (List.set (List.set (List.set (List.set (List.set (List.replicate 8 (zero (Ty.int IntKind.u32))) 0 1779033703) 1 3144134277) 2 1013904242) 3 2773480762) 4 1359893119) 5 2600822924) 6 528734635) 7 1541459225, PUnit.unit))
theorem qK : ax mO ug 5000 [] lA (aX ji) (Env.of (a6 lV () 0) []) = mr := by kernel_rfl
end Go.Proofs.YtnakjijahkaoaaaDoor
namespace Go.Proofs.YtnakjijahkaoaaaDoor
open Go Go.RowKit
theorem bQ {Gl : gT} {f : FuncId} {S : bW} (h : aL prog [] f S) : aL prog Gl f S := ⟨h.can, h.all, fun O w vs x hO _ hx hp => h.does O w vs x hO (fun _ _ _ h => by cases h) hx hp⟩
def Ef : DataW Unit → List Int
 | .agg l => l.map fun | .lit (.int _ n) => n | _ => 0
 | _ => []
def gV : List Int := Ef Rows.laid_posthouse_digest_keys
noncomputable abbrev gl : gT := [(0, ⟨.arr 64 (.int .u32), gV⟩)]
def nA (k : Int) : Int := IntKind.wrap .u64 ((BitVec.toNat (BitVec.ofInt (IntKind.bits .u64) (IntKind.wrap .u64 k) &&& BitVec.ofInt (IntKind.bits .u64) 31) : Nat) : Int)
def bM (x k : Int) : Int :=
 IntKind.wrap .u32 ((BitVec.toNat (BitVec.ofInt (IntKind.bits .u32) (IntKind.wrap .u32 (x * 2 ^ min (Int.toNat (nA k)) (IntKind.bits .u32))) |||
  BitVec.ofInt (IntKind.bits .u32) (Int.fdiv x (2 ^ min (Int.toNat (IntKind.wrap .u64 (32 - nA k))) (IntKind.bits .u32)))) : Nat) : Int)
theorem xf (n : Int) : 0 ≤ IntKind.wrap .u64 n := by
 have : IntKind.wrap .u64 n = n % 18446744073709551616 := rfl
 rw [this]
 exact Int.emod_nonneg _ (by decide)
noncomputable abbrev cI : bW := ⟨jg, jf, fun x => (bM x.1 x.2.1, ()), fun _ => True, true⟩
theorem cH : aL prog [] cG cI :=
 cE (S := cI) pB (fx := iS) ol (by kernel_rfl) (fun _ _ => trivial) (T := fun x => js x.1 x.2.1) (fun x => mY x.1 x.2.1) fun O w0 x _ _ =>
  ⟨xf _, xf _, _, rfl, rfl⟩
def dz : List Int := [1779033703, 3144134277, 1013904242, 2773480762, 1359893119, 2600822924, 528734635, 1541459225]
noncomputable abbrev ge : bW := ⟨lV, ma, fun _ => (dz, ()), fun _ => True, true⟩
theorem uz : aL prog [] gg ge :=
 cE (S := ge) tL (fx := lA) s9 (by kernel_rfl) (fun _ _ => trivial) (T := fun _ => mr) (fun _ => qK) fun O w0 x _ _ => ⟨_, rfl, rfl⟩
end Go.Proofs.YtnakjijahkaoaaaDoor
namespace Go.Proofs.YtnakjijahkaoaaaDoor
open Go Go.RowKit
noncomputable abbrev o7 : Fx := { fn := lE, ann := { } }
noncomputable abbrev pJ : bp := { D := { T := bT, F := [(cG, cI)], R := [], ovl := [] }, inl := [] }
noncomputable abbrev xc : bS := .data pu
theorem yw (h_bits_RotateLeft32 : aL prog [] cG cI) : XOk prog pJ := xok (aO (bv bE bm) h_bits_RotateLeft32) (by kernel_rfl) bj bu bt
noncomputable def qV (x : den (Ty.int IntKind.u32)) (a : den ag) (b : den ag) (c : den (Ty.int IntKind.u32)) : ab := ab.req True (ab.req True (ab.ret (K.val (Ty.pair (Ty.int IntKind.u32) Ty.unit) (IntKind.wrap IntKind.u32 (↑(BitVec.toNat (BitVec.ofInt (IntKind.bits IntKind.u32) (IntKind.wrap IntKind.u32 (↑(BitVec.toNat (BitVec.ofInt (IntKind.bits IntKind.u32) (bM x (IntKind.wrap IntKind.i64 (qN a))) ^^^ BitVec.ofInt (IntKind.bits IntKind.u32) (bM x (IntKind.wrap IntKind.i64 (qN b))))) : Int)) ^^^ BitVec.ofInt (IntKind.bits IntKind.u32) c)) : Int), PUnit.unit))))
theorem uw (x : den (Ty.int IntKind.u32)) (a : den ag) (b : den ag) (c : den (Ty.int IntKind.u32)) : ax pJ xc 5000 [] o7 (aX lE) (Env.of (a6 ph (x, a, b, c, ()) 0) []) = qV x a b c := by kernel_rfl
noncomputable abbrev dl : Fx := { fn := c7, ann := { loops := [(3, { keep := [0, 3, 6, 7] })] } }
noncomputable abbrev gk : bp := { D := { T := bT, F := [], R := [], ovl := [] }, inl := [] }
noncomputable abbrev mU : bS := .data iw
theorem iZ : XOk prog gk := xok ((bv bE bm)) (by kernel_rfl) bj bu bt
noncomputable def mv (s : den Ty.str) : ab := ab.loop [] dl (lp c7 3) [(0, K.val Ty.str s), (3, K.val (Ty.int IntKind.u32) 0), (6, K.val ag (aY s)), (7, K.val ag 0)] []
theorem pQ (s : den Ty.str) : ax gk mU 5000 [] dl (aX c7) (Env.of (a6 lS (s, ()) 0) []) = mv s := by kernel_rfl
noncomputable def kR (v0 : den Ty.str) (v3 : den (Ty.int IntKind.u32)) (v6 : den ag) (v7 : den ag) : Env := Env.of [(0, K.val Ty.str v0), (3, K.val (Ty.int IntKind.u32) v3), (6, K.val ag v6), (7, K.val ag v7)] []
noncomputable def qO (v0 : den Ty.str) (v3 : den (Ty.int IntKind.u32)) (v6 : den ag) (v7 : den ag) : ab := ab.ite (decide (v7 < v6)) (ab.req (ge0 8) (ab.req (inB v7 (aY v0)) (ab.loop [] dl (lp c7 3) [(0, K.val Ty.str v0), (3, K.val (Ty.int IntKind.u32) (IntKind.wrap IntKind.u32 (↑(BitVec.toNat (BitVec.ofInt (IntKind.bits IntKind.u32) (IntKind.wrap IntKind.u32 (v3 * 2 ^ min (Int.toNat 8) (IntKind.bits IntKind.u32))) ||| BitVec.ofInt (IntKind.bits IntKind.u32) (IntKind.wrap IntKind.u32 (sAt v0 v7)))) : Int))), (6, K.val ag v6), (7, K.val ag (IntKind.wrap IntKind.i64 (v7 + 1)))] []))) (ab.ret (K.val (Ty.pair (Ty.int IntKind.u32) Ty.unit) (v3, PUnit.unit)))
theorem iF (v0 : den Ty.str) (v3 : den (Ty.int IntKind.u32)) (v6 : den ag) (v7 : den ag) : ax gk mU 5000 [] dl (lp c7 3) (kR v0 v3 v6 v7) = qO v0 v3 v6 v7 := by kernel_rfl
end Go.Proofs.YtnakjijahkaoaaaDoor
namespace Go.Proofs.YtnakjijahkaoaaaDoor
open Go Go.RowKit
def dI (a b : Int) : Int := IntKind.wrap .u32 ((BitVec.toNat (BitVec.ofInt (IntKind.bits .u32) a ^^^ BitVec.ofInt (IntKind.bits .u32) b) : Nat) : Int)
def f6 (a b : Int) : Int := IntKind.wrap .u32 ((BitVec.toNat (BitVec.ofInt (IntKind.bits .u32) a &&& BitVec.ofInt (IntKind.bits .u32) b) : Nat) : Int)
def lor (a b : Int) : Int := IntKind.wrap .u32 ((BitVec.toNat (BitVec.ofInt (IntKind.bits .u32) a ||| BitVec.ofInt (IntKind.bits .u32) b) : Nat) : Int)
def cL (a b : Int) : Int := IntKind.wrap .u32 (a + b)
def cB (x a b c : Int) : Int := dI (dI (bM x (IntKind.wrap .i64 (qN a))) (bM x (IntKind.wrap .i64 (qN b)))) c
noncomputable abbrev iU : bW := ⟨ph, pu, fun x => (cB x.1 x.2.1 x.2.2.1 x.2.2.2.1, ()), fun _ => True, true⟩
theorem gw : aL prog [] jh iU :=
 cE (S := iU) (yw cH) (fx := o7) wr (by kernel_rfl) (fun _ _ => trivial) (T := fun x => qV x.1 x.2.1 x.2.2.1 x.2.2.2.1) (fun x => uw x.1 x.2.1 x.2.2.1 x.2.2.2.1) fun O w0 x _ _ =>
  ⟨trivial, trivial, _, rfl, rfl⟩
def f5 (n b : Int) : Int := lor (IntKind.wrap .u32 (n * 2 ^ min (Int.toNat 8) (IntKind.bits .u32))) (IntKind.wrap .u32 b)
def lH (s : ByteArray) : Int := (aU s).foldl f5 0
noncomputable abbrev gh : bW := ⟨lS, iw, fun x => (lH x.1, ()), fun x => ByteArray.size x.1 ≤ 1000000, false⟩
theorem eN (s : ByteArray) : (aU s).length = s.size := by
 unfold aU
 rw [List.length_map, Array.length_toList]
 rfl
theorem yn (s : ByteArray) {i : Nat} (hi : i < s.size) : (aU s)[i]'(by rw [eN]; exact hi) = sAt s (i : Nat) := by
 have hd : i < s.data.size := hi
 unfold aU sAt
 rw [List.getElem_map, Int.toNat_natCast, Array.getElem?_eq_getElem hd]
 rfl
theorem xn (s : ByteArray) {i : Nat} : decide ((i : Int) < aY s) = decide (i < s.size) := by
 rw [Bool.eq_iff_iff, decide_eq_true_eq, decide_eq_true_eq]
 exact ⟨fun h => by have h : (i : Int) < (s.size : Int) := h; omega, fun h => by show (i : Int) < (s.size : Int); omega⟩
def sV (O : Nat → Prop) (w0 : World) (s : ByteArray) (hs : s.size ≤ 1000000) :=
 PLift.up <| bO (σ := Int) s.size (fun i n => n = ((aU s).take i).foldl f5 0)
  (fun i n => br prog gk (Cx.base O w0) (dQ prog O w0 iw fun y => y = (lH s, ())) [] dl (lp c7 3) (kR s n (aY s) (i : Nat)))
  (fun i n hi hn ih => aF iZ (iF s n _ _) (by
   refine ⟨fun _ => ⟨show (0 : Int) ≤ 8 by decide, ⟨Int.natCast_nonneg _, Int.ofNat_lt.2 hi⟩, ?_⟩, fun h => ?_⟩
   ·rw [cJ hi (by omega)]
    refine ih (f5 n (sAt s (i : Nat))) ?_
    have hi' : i < (aU s).length := by rw [eN]; exact hi
    rw [List.take_succ_eq_append_getElem hi', List.foldl_append, ← hn, yn s hi]
    rfl
   ·rw [xn] at h
    exact absurd hi (of_decide_eq_false h)))
  (fun n hn => aF iZ (iF s n _ _) (by
   refine ⟨fun h => ?_, fun _ => ⟨_, rfl, ?_⟩⟩
   ·rw [xn] at h
    exact absurd (of_decide_eq_true h) (Nat.lt_irrefl _)
   ·have hn : n = ((aU s).take s.size).foldl f5 0 := hn
    rw [List.take_of_length_le (by rw [eN]; exact Nat.le_refl _)] at hn
    rw [hn]; rfl))
theorem eJ : aL prog [] gr gh :=
 cE (S := gh) iZ (fx := dl) sY (by kernel_rfl) (fun h => by cases h) (T := fun x => mv x.1) (fun x => pQ x.1) fun O w0 x _ hp =>
  (sV O w0 x.1 hp).down 0 0 (Nat.zero_le _) rfl
end Go.Proofs.YtnakjijahkaoaaaDoor
namespace Go.Proofs.YtnakjijahkaoaaaDoor
open Go Go.RowKit
noncomputable abbrev be : Fx := { fn := a8, ann := { loops := [(4, { keep := [1, 2, 4, 5, 6, 16] }), (16, { keep := [2, 4, 6, 126] })] }, share := true, shareD := true }
noncomputable abbrev cF : bp := { D := { T := bT, F := [(cG, cI), (jh, iU), (gr, gh)], R := [], ovl := [], G := gl }, inl := [] }
noncomputable abbrev f7 : bS := .data dF
theorem dk (h_bits_RotateLeft32 : aL prog gl cG cI) (h_digest_two : aL prog gl jh iU) (h_digest_number : aL prog gl gr gh) : XOk prog cF := xok (aO (aO (aO (bv bE bm) h_digest_number) h_digest_two) h_bits_RotateLeft32) (by kernel_rfl) bj bu bt
noncomputable def jp (h : den ae) (s : den Ty.str) : ab := ab.loop [] be (lp a8 4) [(1, K.val Ty.str s), (2, K.ptr 0 ae []), (4, K.ptr (0 + 1) ae []), (5, K.ptr (0 + 1 + 1) (Ty.arr 64 (Ty.int IntKind.u32)) []), (6, K.ptr (0 + 1 + 1 + 1) ae []), (16, K.val ag 0)] [(0, Bx.cell ae h), (0 + 1, Bx.cell ae (zero ae)), (0 + 1 + 1, Bx.cell (Ty.arr 64 (Ty.int IntKind.u32)) (zero (Ty.arr 64 (Ty.int IntKind.u32)))), (0 + 1 + 1 + 1, Bx.cell ae h)]
theorem m9 (h : den ae) (s : den Ty.str) : ax cF f7 5000 [] be (aX a8) (Env.of (a6 iT (h, s, ()) 0) []) = jp h s := by kernel_rfl
noncomputable def dv (v1 : den Ty.str) (v16 : den ag) (b0 : den ae) (b1 : den ae) (b2 : den (Ty.arr 64 (Ty.int IntKind.u32))) (b3 : den ae) : Env := Env.of [(1, K.val Ty.str v1), (2, K.ptr 0 ae []), (4, K.ptr (0 + 1) ae []), (5, K.ptr (0 + 1 + 1) (Ty.arr 64 (Ty.int IntKind.u32)) []), (6, K.ptr (0 + 1 + 1 + 1) ae []), (16, K.val ag v16)] [(0, Bx.cell ae b0), (1, Bx.cell ae b1), (2, Bx.cell (Ty.arr 64 (Ty.int IntKind.u32)) b2), (3, Bx.cell ae b3)]
noncomputable def ng (v1 : den Ty.str) (v16 : den ag) (b0 : den ae) (b1 : den ae) (b2 : den (Ty.arr 64 (Ty.int IntKind.u32))) (b3 : den ae) : ab := ab.ite (decide (v16 < 64)) (ab.ite (decide (v16 < 16)) (ab.req (bo (IntKind.wrap IntKind.i64 (4 * v16)) (IntKind.wrap IntKind.i64 (IntKind.wrap IntKind.i64 (4 * v16) + 4)) (aY v1)) (ab.req (ByteArray.size (bI v1 (IntKind.wrap IntKind.i64 (4 * v16)) (IntKind.wrap IntKind.i64 (IntKind.wrap IntKind.i64 (4 * v16) + 4))) ≤ 1000000) (ab.all (den (Ty.int IntKind.u32)) (fun (q6 : den (Ty.int IntKind.u32)) ↦ q6 = lH (bI v1 (IntKind.wrap IntKind.i64 (4 * v16)) (IntKind.wrap IntKind.i64 (IntKind.wrap IntKind.i64 (4 * v16) + 4)))) fun (q6 : den (Ty.int IntKind.u32)) ↦ ab.req (inB v16 (↑64 : Int)) (ab.req (inB 0 (↑8 : Int)) (ab.req (inB 4 (↑8 : Int)) (ab.all (den (Ty.int IntKind.u32)) (fun (q7 : den (Ty.int IntKind.u32)) ↦ q7 = el (Ty.int IntKind.u32) b3 0) fun (q7 : den (Ty.int IntKind.u32)) ↦ ab.all (den (Ty.int IntKind.u32)) (fun (q8 : den (Ty.int IntKind.u32)) ↦ q8 = el (Ty.int IntKind.u32) b3 4) fun (q8 : den (Ty.int IntKind.u32)) ↦ ab.req (inB 7 (↑8 : Int)) (ab.req True (ab.req True (ab.req (inB 6 (↑8 : Int)) (ab.req (inB 5 (↑8 : Int)) (ab.req (inB 6 (↑8 : Int)) (ab.req (inB v16 (↑64 : Int)) (ab.req (inB v16 (↑64 : Int)) (ab.all (den (Ty.int IntKind.u32)) (fun (q9 : den (Ty.int IntKind.u32)) ↦ q9 = bM q8 (-25)) fun (q9 : den (Ty.int IntKind.u32)) ↦ ab.all (den (Ty.int IntKind.u32)) (fun (q10 : den (Ty.int IntKind.u32)) ↦ q10 = cB q8 6 11 (bM q8 (-25))) fun (q10 : den (Ty.int IntKind.u32)) ↦ ab.all (den (Ty.int IntKind.u32)) (fun (q11 : den (Ty.int IntKind.u32)) ↦ q11 = IntKind.wrap IntKind.u32 (IntKind.wrap IntKind.u32 (IntKind.wrap IntKind.u32 (IntKind.wrap IntKind.u32 (el (Ty.int IntKind.u32) b3 7 + cB q8 6 11 (bM q8 (-25))) + IntKind.wrap IntKind.u32 (↑(BitVec.toNat (BitVec.ofInt (IntKind.bits IntKind.u32) (el (Ty.int IntKind.u32) b3 6) ^^^ BitVec.ofInt (IntKind.bits IntKind.u32) (IntKind.wrap IntKind.u32 (↑(BitVec.toNat (BitVec.ofInt (IntKind.bits IntKind.u32) q8 &&& BitVec.ofInt (IntKind.bits IntKind.u32) (IntKind.wrap IntKind.u32 (↑(BitVec.toNat (BitVec.ofInt (IntKind.bits IntKind.u32) (el (Ty.int IntKind.u32) b3 5) ^^^ BitVec.ofInt (IntKind.bits IntKind.u32) (el (Ty.int IntKind.u32) b3 6))) : Int)))) : Int)))) : Int)) + el (Ty.int IntKind.u32) gV v16) + el (Ty.int IntKind.u32) (bF (Ty.int IntKind.u32) b2 v16 q6) v16)) fun (q11 : den (Ty.int IntKind.u32)) ↦ ab.req (inB 1 (↑8 : Int)) (ab.req (inB 2 (↑8 : Int)) (ab.req (inB 1 (↑8 : Int)) (ab.req True (ab.req True (ab.req (inB 1 (↑8 : Int)) (ab.req (inB 2 (↑8 : Int)) (ab.req (inB 3 (↑8 : Int)) (ab.req (inB 5 (↑8 : Int)) (ab.req (inB 6 (↑8 : Int)) (ab.all (den (Ty.int IntKind.u32)) (fun (q12 : den (Ty.int IntKind.u32)) ↦ q12 = bM q7 (-22)) fun (q12 : den (Ty.int IntKind.u32)) ↦ ab.all (den (Ty.int IntKind.u32)) (fun (q13 : den (Ty.int IntKind.u32)) ↦ q13 = cB q7 2 13 (bM q7 (-22))) fun (q13 : den (Ty.int IntKind.u32)) ↦ ab.loop [] be (lp a8 4) [(1, K.val Ty.str v1), (2, K.ptr 0 ae []), (4, K.ptr (0 + 1) ae []), (5, K.ptr (0 + 1 + 1) (Ty.arr 64 (Ty.int IntKind.u32)) []), (6, K.ptr (0 + 1 + 1 + 1) ae []), (16, K.val ag (IntKind.wrap IntKind.i64 (v16 + 1)))] [(0, Bx.cell ae b0), (0 + 1, Bx.cell ae b1), (0 + 1 + 1, Bx.cell (Ty.arr 64 (Ty.int IntKind.u32)) (bF (Ty.int IntKind.u32) b2 v16 q6)), (0 + 1 + 1 + 1, Bx.cell ae (List.set (List.set (List.set (List.set (List.set (List.set (List.set (List.set (List.replicate 8 (zero (Ty.int IntKind.u32))) 0 (IntKind.wrap IntKind.u32 (IntKind.wrap IntKind.u32 (q11 + cB q7 2 13 (bM q7 (-22))) + IntKind.wrap IntKind.u32 (↑(BitVec.toNat (BitVec.ofInt (IntKind.bits IntKind.u32) (IntKind.wrap IntKind.u32 (↑(BitVec.toNat (BitVec.ofInt (IntKind.bits IntKind.u32) q7 &&& BitVec.ofInt (IntKind.bits IntKind.u32) (el (Ty.int IntKind.u32) b3 1))) : Int)) ||| BitVec.ofInt (IntKind.bits IntKind.u32) (IntKind.wrap IntKind.u32 (↑(BitVec.toNat (BitVec.ofInt (IntKind.bits IntKind.u32) (el (Ty.int IntKind.u32) b3 2) &&& BitVec.ofInt (IntKind.bits IntKind.u32) (IntKind.wrap IntKind.u32 (↑(BitVec.toNat (BitVec.ofInt (IntKind.bits IntKind.u32) q7 ||| BitVec.ofInt (IntKind.bits IntKind.u32) (el (Ty.int IntKind.u32) b3 1))) : Int)))) : Int)))) : Int)))) 1 q7) 2 (el (Ty.int IntKind.u32) b3 1)) 3 (el (Ty.int IntKind.u32) b3 2)) 4 (IntKind.wrap IntKind.u32 (el (Ty.int IntKind.u32) b3 3 + q11))) 5 q8) 6 (el (Ty.int IntKind.u32) b3 5)) 7 (el (Ty.int IntKind.u32) b3 6)))])))))))))))))))))))))))) (ab.req (inB (IntKind.wrap IntKind.i64 (v16 - 15)) (↑64 : Int)) (ab.req (inB (IntKind.wrap IntKind.i64 (v16 - 2)) (↑64 : Int)) (ab.all (den (Ty.int IntKind.u32)) (fun (q6 : den (Ty.int IntKind.u32)) ↦ q6 = el (Ty.int IntKind.u32) b2 (IntKind.wrap IntKind.i64 (v16 - 15))) fun (q6 : den (Ty.int IntKind.u32)) ↦ ab.all (den (Ty.int IntKind.u32)) (fun (q7 : den (Ty.int IntKind.u32)) ↦ q7 = el (Ty.int IntKind.u32) b2 (IntKind.wrap IntKind.i64 (v16 - 2))) fun (q7 : den (Ty.int IntKind.u32)) ↦ ab.req (ge0 10) (ab.req True (ab.req (inB (IntKind.wrap IntKind.i64 (v16 - 7)) (↑64 : Int)) (ab.req (ge0 3) (ab.req True (ab.req (inB (IntKind.wrap IntKind.i64 (v16 - 16)) (↑64 : Int)) (ab.req (inB v16 (↑64 : Int)) (ab.all (den (Ty.int IntKind.u32)) (fun (q8 : den (Ty.int IntKind.u32)) ↦ q8 = cB q7 17 19 (Int.fdiv q7 (2 ^ min (Int.toNat 10) (IntKind.bits IntKind.u32)))) fun (q8 : den (Ty.int IntKind.u32)) ↦ ab.all (den (Ty.int IntKind.u32)) (fun (q9 : den (Ty.int IntKind.u32)) ↦ q9 = cB q6 7 18 (Int.fdiv q6 (2 ^ min (Int.toNat 3) (IntKind.bits IntKind.u32)))) fun (q9 : den (Ty.int IntKind.u32)) ↦ ab.req (inB 0 (↑8 : Int)) (ab.req (inB 4 (↑8 : Int)) (ab.all (den (Ty.int IntKind.u32)) (fun (q10 : den (Ty.int IntKind.u32)) ↦ q10 = el (Ty.int IntKind.u32) b3 0) fun (q10 : den (Ty.int IntKind.u32)) ↦ ab.all (den (Ty.int IntKind.u32)) (fun (q11 : den (Ty.int IntKind.u32)) ↦ q11 = el (Ty.int IntKind.u32) b3 4) fun (q11 : den (Ty.int IntKind.u32)) ↦ ab.req (inB 7 (↑8 : Int)) (ab.req True (ab.req True (ab.req (inB 6 (↑8 : Int)) (ab.req (inB 5 (↑8 : Int)) (ab.req (inB 6 (↑8 : Int)) (ab.req (inB v16 (↑64 : Int)) (ab.req (inB v16 (↑64 : Int)) (ab.all (den (Ty.int IntKind.u32)) (fun (q12 : den (Ty.int IntKind.u32)) ↦ q12 = bM q11 (-25)) fun (q12 : den (Ty.int IntKind.u32)) ↦ ab.all (den (Ty.int IntKind.u32)) (fun (q13 : den (Ty.int IntKind.u32)) ↦ q13 = cB q11 6 11 (bM q11 (-25))) fun (q13 : den (Ty.int IntKind.u32)) ↦ ab.all (den (Ty.int IntKind.u32)) (fun (q14 : den (Ty.int IntKind.u32)) ↦ q14 = IntKind.wrap IntKind.u32 (IntKind.wrap IntKind.u32 (IntKind.wrap IntKind.u32 (IntKind.wrap IntKind.u32 (el (Ty.int IntKind.u32) b3 7 + cB q11 6 11 (bM q11 (-25))) + IntKind.wrap IntKind.u32 (↑(BitVec.toNat (BitVec.ofInt (IntKind.bits IntKind.u32) (el (Ty.int IntKind.u32) b3 6) ^^^ BitVec.ofInt (IntKind.bits IntKind.u32) (IntKind.wrap IntKind.u32 (↑(BitVec.toNat (BitVec.ofInt (IntKind.bits IntKind.u32) q11 &&& BitVec.ofInt (IntKind.bits IntKind.u32) (IntKind.wrap IntKind.u32 (↑(BitVec.toNat (BitVec.ofInt (IntKind.bits IntKind.u32) (el (Ty.int IntKind.u32) b3 5) ^^^ BitVec.ofInt (IntKind.bits IntKind.u32) (el (Ty.int IntKind.u32) b3 6))) : Int)))) : Int)))) : Int)) + el (Ty.int IntKind.u32) gV v16) + el (Ty.int IntKind.u32) (bF (Ty.int IntKind.u32) b2 v16 (IntKind.wrap IntKind.u32 (IntKind.wrap IntKind.u32 (IntKind.wrap IntKind.u32 (cB q7 17 19 (Int.fdiv q7 (2 ^ min (Int.toNat 10) (IntKind.bits IntKind.u32))) + el (Ty.int IntKind.u32) b2 (IntKind.wrap IntKind.i64 (v16 - 7))) + cB q6 7 18 (Int.fdiv q6 (2 ^ min (Int.toNat 3) (IntKind.bits IntKind.u32)))) + el (Ty.int IntKind.u32) b2 (IntKind.wrap IntKind.i64 (v16 - 16))))) v16)) fun (q14 : den (Ty.int IntKind.u32)) ↦ ab.req (inB 1 (↑8 : Int)) (ab.req (inB 2 (↑8 : Int)) (ab.req (inB 1 (↑8 : Int)) (ab.req True (ab.req True (ab.req (inB 1 (↑8 : Int)) (ab.req (inB 2 (↑8 : Int)) (ab.req (inB 3 (↑8 : Int)) (ab.req (inB 5 (↑8 : Int)) (ab.req (inB 6 (↑8 : Int)) (ab.all (den (Ty.int IntKind.u32)) (fun (q15 : den (Ty.int IntKind.u32)) ↦ q15 = bM q10 (-22)) fun (q15 : den (Ty.int IntKind.u32)) ↦ ab.all (den (Ty.int IntKind.u32)) (fun (q16 : den (Ty.int IntKind.u32)) ↦ q16 = cB q10 2 13 (bM q10 (-22))) fun (q16 : den (Ty.int IntKind.u32)) ↦ ab.loop [] be (lp a8 4) [(1, K.val Ty.str v1), (2, K.ptr 0 ae []), (4, K.ptr (0 + 1) ae []), (5, K.ptr (0 + 1 + 1) (Ty.arr 64 (Ty.int IntKind.u32)) []), (6, K.ptr (0 + 1 + 1 + 1) ae []), (16, K.val ag (IntKind.wrap IntKind.i64 (v16 + 1)))] [(0, Bx.cell ae b0), (0 + 1, Bx.cell ae b1), (0 + 1 + 1, Bx.cell (Ty.arr 64 (Ty.int IntKind.u32)) (bF (Ty.int IntKind.u32) b2 v16 (IntKind.wrap IntKind.u32 (IntKind.wrap IntKind.u32 (IntKind.wrap IntKind.u32 (cB q7 17 19 (Int.fdiv q7 (2 ^ min (Int.toNat 10) (IntKind.bits IntKind.u32))) + el (Ty.int IntKind.u32) b2 (IntKind.wrap IntKind.i64 (v16 - 7))) + cB q6 7 18 (Int.fdiv q6 (2 ^ min (Int.toNat 3) (IntKind.bits IntKind.u32)))) + el (Ty.int IntKind.u32) b2 (IntKind.wrap IntKind.i64 (v16 - 16)))))), (0 + 1 + 1 + 1, Bx.cell ae (List.set (List.set (List.set (List.set (List.set (List.set (List.set (List.set (List.replicate 8 (zero (Ty.int IntKind.u32))) 0 (IntKind.wrap IntKind.u32 (IntKind.wrap IntKind.u32 (q14 + cB q10 2 13 (bM q10 (-22))) + IntKind.wrap IntKind.u32 (↑(BitVec.toNat (BitVec.ofInt (IntKind.bits IntKind.u32) (IntKind.wrap IntKind.u32 (↑(BitVec.toNat (BitVec.ofInt (IntKind.bits IntKind.u32) q10 &&& BitVec.ofInt (IntKind.bits IntKind.u32) (el (Ty.int IntKind.u32) b3 1))) : Int)) ||| BitVec.ofInt (IntKind.bits IntKind.u32) (IntKind.wrap IntKind.u32 (↑(BitVec.toNat (BitVec.ofInt (IntKind.bits IntKind.u32) (el (Ty.int IntKind.u32) b3 2) &&& BitVec.ofInt (IntKind.bits IntKind.u32) (IntKind.wrap IntKind.u32 (↑(BitVec.toNat (BitVec.ofInt (IntKind.bits IntKind.u32) q10 ||| BitVec.ofInt (IntKind.bits IntKind.u32) (el (Ty.int IntKind.u32) b3 1))) : Int)))) : Int)))) : Int)))) 1 q10) 2 (el (Ty.int IntKind.u32) b3 1)) 3 (el (Ty.int IntKind.u32) b3 2)) 4 (IntKind.wrap IntKind.u32 (el (Ty.int IntKind.u32) b3 3 + q14))) 5 q11) 6 (el (Ty.int IntKind.u32) b3 5)) 7 (el (Ty.int IntKind.u32) b3 6)))]))))))))))))))))))))))))))))))) (ab.loop [] be (lp a8 16) [(2, K.ptr 0 ae []), (4, K.ptr (0 + 1) ae []), (6, K.ptr (0 + 1 + 1) ae []), (126, K.val ag 0)] [(0, Bx.cell ae b0), (0 + 1, Bx.cell ae b1), (0 + 1 + 1, Bx.cell ae b3)])
theorem gf (v1 : den Ty.str) (v16 : den ag) (b0 : den ae) (b1 : den ae) (b2 : den (Ty.arr 64 (Ty.int IntKind.u32))) (b3 : den ae) : ax cF f7 5000 [] be (lp a8 4) (dv v1 v16 b0 b1 b2 b3) = ng v1 v16 b0 b1 b2 b3 := by kernel_rfl
noncomputable def hP (v126 : den ag) (b0 : den ae) (b1 : den ae) (b2 : den ae) : Env := Env.of [(2, K.ptr 0 ae []), (4, K.ptr (0 + 1) ae []), (6, K.ptr (0 + 1 + 1) ae []), (126, K.val ag v126)] [(0, Bx.cell ae b0), (1, Bx.cell ae b1), (2, Bx.cell ae b2)]
noncomputable def ml (v126 : den ag) (b0 : den ae) (b1 : den ae) (b2 : den ae) : ab := ab.ite (decide (v126 < 8)) (ab.req (inB v126 (↑8 : Int)) (ab.req (inB v126 (↑8 : Int)) (ab.req (inB v126 (↑8 : Int)) (ab.loop [] be (lp a8 16) [(2, K.ptr 0 ae []), (4, K.ptr (0 + 1) ae []), (6, K.ptr (0 + 1 + 1) ae []), (126, K.val ag (IntKind.wrap IntKind.i64 (v126 + 1)))] [(0, Bx.cell ae (bF (Ty.int IntKind.u32) b0 v126 (IntKind.wrap IntKind.u32 (el (Ty.int IntKind.u32) b0 v126 + el (Ty.int IntKind.u32) b2 v126)))), (0 + 1, Bx.cell ae b1), (0 + 1 + 1, Bx.cell ae b2)])))) (ab.ret (K.val (Ty.pair ae Ty.unit) (b0, PUnit.unit)))
theorem fR (v126 : den ag) (b0 : den ae) (b1 : den ae) (b2 : den ae) : ax cF f7 5000 [] be (lp a8 16) (hP v126 b0 b1 b2) = ml v126 b0 b1 b2 := by kernel_rfl
end Go.Proofs.YtnakjijahkaoaaaDoor
namespace Go.Proofs.YtnakjijahkaoaaaDoor
open Go Go.RowKit
abbrev ar (l : List Int) (n : Int) : Int := el (.int .u32) l n
def jP (x : Int) (k : Int) : Int := Int.fdiv x (2 ^ min (Int.toNat k) (IntKind.bits .u32))
def A9 (k : Int) (wt : Int) (v : List Int) : Int :=
 cL (cL (cL (cL (ar v 7) (cB (ar v 4) 6 11 (bM (ar v 4) (-25)))) (dI (ar v 6) (f6 (ar v 4) (dI (ar v 5) (ar v 6))))) k) wt
def ya (v : List Int) : Int := lor (f6 (ar v 0) (ar v 1)) (f6 (ar v 2) (lor (ar v 0) (ar v 1)))
def ovV (k : Int) (wt : Int) (v : List Int) : List Int :=
 List.set (List.set (List.set (List.set (List.set (List.set (List.set (List.set (List.replicate 8 (zero (.int .u32))) 0
  (cL (cL (A9 k wt v) (cB (ar v 0) 2 13 (bM (ar v 0) (-22)))) (ya v))) 1 (ar v 0)) 2 (ar v 1)) 3 (ar v 2)) 4 (cL (ar v 3) (A9 k wt v))) 5 (ar v 4)) 6 (ar v 5)) 7 (ar v 6)
def ovB (s : ByteArray) (t : Int) : Int := lH (bI s (IntKind.wrap .i64 (4 * t)) (IntKind.wrap .i64 (IntKind.wrap .i64 (4 * t) + 4)))
def ovN (w : List Int) (t : Int) : Int :=
 cL (cL (cL (cB (ar w (IntKind.wrap .i64 (t - 2))) 17 19 (jP (ar w (IntKind.wrap .i64 (t - 2))) 10)) (ar w (IntKind.wrap .i64 (t - 7))))
  (cB (ar w (IntKind.wrap .i64 (t - 15))) 7 18 (jP (ar w (IntKind.wrap .i64 (t - 15))) 3))) (ar w (IntKind.wrap .i64 (t - 16)))
def ovW (s : ByteArray) (w : List Int) (t : Int) : List Int := if t < 16 then bF (.int .u32) w t (ovB s t) else bF (.int .u32) w t (ovN w t)
def ovS (s : ByteArray) (v : List Int) : Nat → List Int × List Int
 | 0 => (zero (.arr 64 (.int .u32)), v)
 | i + 1 =>
  let p := ovS s v i
  let w := ovW s p.1 i
  (w, ovV (ar gV i) (ar w i) p.2)
def ovA (h v : List Int) : Nat → List Int
 | 0 => h
 | i + 1 => bF (.int .u32) (ovA h v i) i (cL (ar (ovA h v i) i) (ar v i))
def lI (h : List Int) (s : ByteArray) : List Int := ovA h (ovS s h 64).2 8
noncomputable abbrev d5 : bW := ⟨iT, dF, fun x => (lI x.1 x.2.1, ()), fun x => ByteArray.size x.2.1 = 64, false⟩
def mi (O : Nat → Prop) (w0 : World) (h v1 v : List Int) (out : List Int) (ho : out = ovA h v 8) :=
 PLift.up <| bO (σ := List Int) 8 (fun i b => b = ovA h v i)
  (fun i b => br prog cF (Cx.base O w0) (dQ prog O w0 dF fun y => y = (out, ())) [] be (lp a8 16) (hP (i : Nat) b v1 v))
  (fun i b hi hb ih => aF (dk (bQ cH) (bQ gw) (bQ eJ)) (fR _ b v1 v) (by
   refine ⟨fun _ => ⟨⟨Int.natCast_nonneg _, Int.ofNat_lt.2 hi⟩, ⟨Int.natCast_nonneg _, Int.ofNat_lt.2 hi⟩, ⟨Int.natCast_nonneg _, Int.ofNat_lt.2 hi⟩, ?_⟩, fun h => ?_⟩
   ·rw [cJ hi (by omega)]
    refine ih _ ?_
    rw [hb]
    rfl
   ·exact absurd (Int.ofNat_lt.2 hi) (of_decide_eq_false h)))
  (fun b hb => aF (dk (bQ cH) (bQ gw) (bQ eJ)) (fR _ b v1 v) (by
   refine ⟨fun h => ?_, fun _ => ⟨_, rfl, ?_⟩⟩
   ·exact absurd (of_decide_eq_true h) (by decide)
   ·show (b, ()) = (out, ())
    rw [hb, ho]))
theorem BG (s : ByteArray) (a b : Int) : (bI s a b).size ≤ s.size := by
 unfold bI; rw [ByteArray.size_extract]; omega
theorem wr4 {i : Nat} (h : i < 16) : IntKind.wrap .i64 (4 * (i : Int)) = 4 * (i : Int) ∧ IntKind.wrap .i64 (IntKind.wrap .i64 (4 * (i : Int)) + 4) = 4 * (i : Int) + 4 := by
 have h1 : IntKind.wrap .i64 (4 * (i : Int)) = 4 * (i : Int) := bc (by omega)
 refine ⟨h1, ?_⟩
 rw [h1]
 exact bc (by omega)
theorem wrm {i : Nat} (k : Int) (h : i < 64) (h0 : 0 ≤ k) (h1 : k ≤ i) : inB (IntKind.wrap .i64 ((i : Int) - k)) ((64 : Nat) : Int) := by
 rw [bc (by omega)]
 exact ⟨by omega, by omega⟩
theorem dB {a b : Int} (h : decide (0 ≤ a ∧ a < b) = true := by rfl) : inB a b := (of_decide_eq_true h : 0 ≤ a ∧ a < b)
theorem d0 {a : Int} (h : decide (0 ≤ a) = true := by rfl) : ge0 a := (of_decide_eq_true h : 0 ≤ a)
def nk (O : Nat → Prop) (w0 : World) (h b1 : List Int) (s : ByteArray) (hs : s.size = 64) :=
 PLift.up <| bO (σ := List Int × List Int) 64 (fun i b => b = ovS s h i)
  (fun i b => br prog cF (Cx.base O w0) (dQ prog O w0 dF fun y => y = (lI h s, ())) [] be (lp a8 4) (dv s (i : Nat) h b1 b.1 b.2))
  (fun i b hi hb ih => aF (dk (bQ cH) (bQ gw) (bQ eJ)) (gf s _ h b1 b.1 b.2) (by
   have hB : inB (i : Int) ((64 : Nat) : Int) := ⟨Int.natCast_nonneg _, Int.ofNat_lt.2 hi⟩
   refine ⟨fun _ => ⟨fun hl => ?_, fun hl => ?_⟩, fun h => ?_⟩
   ·have hl : i < 16 := Int.ofNat_lt.1 (of_decide_eq_true hl)
    refine ⟨?_, Nat.le_trans (BG _ _ _) (by rw [hs]; decide), aR ⟨hB, dB, dB, aR <| aR ⟨dB, trivial, trivial, dB, dB, dB, hB, hB, aR <| aR <| aR ⟨dB, dB, dB, trivial, trivial, dB, dB, dB, dB, dB, aR <| aR ?_⟩⟩⟩⟩
    ·rw [(wr4 hl).2, (wr4 hl).1]
     refine ⟨by omega, by omega, ?_⟩
     show 4 * (i : Int) + 4 ≤ (s.size : Int)
     rw [hs]; omega
    ·have hw : IntKind.wrap .i64 ((i : Int) + 1) = ((i + 1 : Nat) : Int) := cJ hi (by omega)
     show br _ _ _ _ _ _ _ (dv s (IntKind.wrap .i64 ((i : Int) + 1)) h b1 _ _)
     rw [hw]
     refine ih (_, _) ?_
     rw [hb]
     have hlI : (i : Int) < 16 := Int.ofNat_lt.2 hl
     show _ = (ovW s (ovS s h i).1 i, ovV (ar gV i) (ar (ovW s (ovS s h i).1 i) i) (ovS s h i).2)
     unfold ovW
     rw [if_pos hlI]
     rfl
   ·have hl : ¬ i < 16 := fun h => of_decide_eq_false hl (Int.ofNat_lt.2 h)
    refine ⟨wrm 15 hi (by decide) (by omega), wrm 2 hi (by decide) (by omega), aR <| aR ⟨d0, trivial, wrm 7 hi (by decide) (by omega), d0, trivial, wrm 16 hi (by decide) (by omega), hB, aR <| aR ⟨dB, dB, aR <| aR ⟨dB, trivial, trivial, dB, dB, dB, hB, hB, aR <| aR <| aR ⟨dB, dB, dB, trivial, trivial, dB, dB, dB, dB, dB, aR <| aR ?_⟩⟩⟩⟩⟩
    have hw : IntKind.wrap .i64 ((i : Int) + 1) = ((i + 1 : Nat) : Int) := cJ hi (by omega)
    show br _ _ _ _ _ _ _ (dv s (IntKind.wrap .i64 ((i : Int) + 1)) h b1 _ _)
    rw [hw]
    refine ih (_, _) ?_
    rw [hb]
    have hlI : ¬ (i : Int) < 16 := fun h => hl (Int.ofNat_lt.1 h)
    show _ = (ovW s (ovS s h i).1 i, ovV (ar gV i) (ar (ovW s (ovS s h i).1 i) i) (ovS s h i).2)
    unfold ovW
    rw [if_neg hlI]
    rfl
   ·exact absurd (Int.ofNat_lt.2 hi) (of_decide_eq_false h)))
  (fun b hb => aF (dk (bQ cH) (bQ gw) (bQ eJ)) (gf s _ h b1 b.1 b.2) (by
   refine ⟨fun h => ?_, fun _ => ?_⟩
   ·exact absurd (of_decide_eq_true h) (by decide)
   ·exact (mi O w0 h b1 b.2 _ (by rw [hb]; rfl)).down 0 h (Nat.zero_le _) rfl))
theorem pE : aL prog gl dZ d5 :=
 cE (S := d5) (dk (bQ cH) (bQ gw) (bQ eJ)) (fx := be) ot (by kernel_rfl) (fun h => by cases h) (T := fun x => jp x.1 x.2.1) (fun x => m9 x.1 x.2.1) fun O w0 x _ hp =>
  (nk O w0 x.1 _ x.2.1 hp).down 0 (_, _) (Nat.zero_le _) rfl
end Go.Proofs.YtnakjijahkaoaaaDoor
namespace Go.Proofs
open Go.Shelf
def Tryd.lays156_ren : Go.Shelf.Ren := ⟨fun | 156 => 47 | 165 => 64 | 166 => 65 | 169 => 66 | 240 => 78 | 241 => 79 | 276 => 85 | 277 => 86 | n => n, fun | 31 => 79 | 9 => 9 | 3 => 3 | 4 => 4 | 0 => 0 | 20 => 20 | 72 => 116 | 76 => 120 | 70 => 114 | 37 => 64 | 75 => 119 | 127 => 132 | 164 => 138 | 5 => 5 | 80 => 122 | n => n, fun | n => n⟩
theorem Tryd.lays156 : Go.Proofs.Lays.n156 Tryd.prog Tryd.lays156_ren := {
 mixed := by kernel_rfl
 f156 := Tryd.func47.trans (congrArg some (by kernel_rfl))
 f165 := Tryd.func64.trans (congrArg some (by kernel_rfl))
 f166 := Tryd.func65.trans (congrArg some (by kernel_rfl))
 f169 := Tryd.func66.trans (congrArg some (by kernel_rfl))
 f240 := Tryd.func78.trans (congrArg some (by kernel_rfl))
 f241 := Tryd.func79.trans (congrArg some (by kernel_rfl))
 f276 := Tryd.func85.trans (congrArg some (by kernel_rfl))
 f277 := Tryd.func86.trans (congrArg some (by kernel_rfl))
 t0 := Tryd.underlying0
 a0 := Tryd.isAgg0
 z0 := Tryd.sizeOf0
 v0 := Tryd.zeroValue0
 t3 := Tryd.underlying3
 a3 := Tryd.isAgg3
 z3 := Tryd.sizeOf3
 v3 := Tryd.zeroValue3
 t4 := Tryd.underlying4
 a4 := Tryd.isAgg4
 z4 := Tryd.sizeOf4
 v4 := Tryd.zeroValue4
 t9 := Tryd.underlying9
 a9 := Tryd.isAgg9
 z9 := Tryd.sizeOf9
 v9 := Tryd.zeroValue9
 t20 := Tryd.underlying20
 a20 := Tryd.isAgg20
 z20 := Tryd.sizeOf20
 v20 := Tryd.zeroValue20
 t31 := Tryd.underlying79
 a31 := Tryd.isAgg79
 z31 := Tryd.sizeOf79
 v31 := Tryd.zeroValue79
 t37 := Tryd.underlying64
 a37 := Tryd.isAgg64
 z37 := Tryd.sizeOf64
 v37 := Tryd.zeroValue64
 t70 := Tryd.underlying114
 a70 := Tryd.isAgg114
 z70 := Tryd.sizeOf114
 v70 := Tryd.zeroValue114
 t72 := Tryd.underlying116
 a72 := Tryd.isAgg116
 z72 := Tryd.sizeOf116
 v72 := Tryd.zeroValue116
 t75 := Tryd.underlying119
 a75 := Tryd.isAgg119
 z75 := Tryd.sizeOf119
 v75 := Tryd.zeroValue119
 t76 := Tryd.underlying120
 a76 := Tryd.isAgg120
 z76 := Tryd.sizeOf120
 v76 := Tryd.zeroValue120
 t127 := Tryd.underlying132
 a127 := Tryd.isAgg132
 z127 := Tryd.sizeOf132
 v127 := Tryd.zeroValue132
 t164 := Tryd.underlying138
 a164 := Tryd.isAgg138
 z164 := Tryd.sizeOf138
 v164 := Tryd.zeroValue138 }
theorem Tryd.Builder_Extra_156 : Builder.Extra Tryd.prog Tryd.lays156_ren := {
 sizeBuilder := by kernel_rfl
 liesBuilder := by kernel_rfl
 t5 := Tryd.underlying5
 a5 := Tryd.isAgg5
 z5 := Tryd.sizeOf5
 v5 := Tryd.zeroValue5
 infoByte := by kernel_rfl
 cellsByte := by kernel_rfl
 sizeByte := by kernel_rfl
 neB5 := by decide }
open Go.RowKit in
theorem Tryd.strings_Join_none (a : Option Addr) (c : Nat) (sep : ByteArray) (w : World) :
    Calls Tryd.prog 47 #[.slice a 0 c, .string sep] w fun e w' => e = .returned (.string ⟨#[]⟩) ∧ w' = w := Any.strings_Join_none Tryd.lays156 Tryd.Builder_Extra_156 a c sep w
open Go.RowKit in
theorem Tryd.strings_Join (bk o c : Nat) (xs : List ByteArray) (sep : ByteArray) (w : World) (hcells : ∀ (j : Nat) x, xs[j]? = some x → w.cell? ⟨bk, o + j, none⟩ = some (.string x)) (hbk : bk < w.heap.size) (hN : xs.length ≤ 140737488355328) (hcap : xs.length ≤ c) (hlen : (Lib.join (xs.map (·.data.toList)) sep.data.toList).length ≤ 140737488355328) :
    Calls Tryd.prog 47 #[.slice (some ⟨bk, o, none⟩) xs.length c, .string sep] w fun e w' => e = .returned (.string ⟨(Lib.join (xs.map (·.data.toList)) sep.data.toList).toArray⟩) ∧ Below w.heap.size w w' := Any.strings_Join Tryd.lays156 Tryd.Builder_Extra_156 bk o c xs sep w hcells hbk hN hcap hlen
def Tryd.lays105_ren : Go.Shelf.Ren := ⟨fun | 105 => 62 | 212 => 75 | 99 => 76 | 165 => 64 | 166 => 65 | 170 => 77 | 169 => 66 | 263 => 82 | 264 => 83 | 206 => 84 | 240 => 78 | 241 => 79 | 276 => 85 | 277 => 86 | n => n, fun | 9 => 9 | 3 => 3 | 4 => 4 | 20 => 20 | 0 => 0 | 46 => 111 | 109 => 128 | 5 => 5 | 72 => 116 | 76 => 120 | 51 => 86 | 146 => 134 | 53 => 110 | 148 => 136 | 70 => 114 | 37 => 64 | 75 => 119 | 127 => 132 | 164 => 138 | 80 => 122 | n => n, fun | n => n⟩
theorem Tryd.lays105 : Go.Proofs.Lays.n105 Tryd.prog Tryd.lays105_ren := {
 mixed := by kernel_rfl
 f99 := Tryd.func76.trans (congrArg some (by kernel_rfl))
 f105 := Tryd.func62.trans (congrArg some (by kernel_rfl))
 f165 := Tryd.func64.trans (congrArg some (by kernel_rfl))
 f166 := Tryd.func65.trans (congrArg some (by kernel_rfl))
 f169 := Tryd.func66.trans (congrArg some (by kernel_rfl))
 f170 := Tryd.func77.trans (congrArg some (by kernel_rfl))
 f206 := Tryd.func84.trans (congrArg some (by kernel_rfl))
 f212 := Tryd.func75.trans (congrArg some (by kernel_rfl))
 f240 := Tryd.func78.trans (congrArg some (by kernel_rfl))
 f241 := Tryd.func79.trans (congrArg some (by kernel_rfl))
 f263 := Tryd.func82.trans (congrArg some (by kernel_rfl))
 f264 := Tryd.func83.trans (congrArg some (by kernel_rfl))
 f276 := Tryd.func85.trans (congrArg some (by kernel_rfl))
 f277 := Tryd.func86.trans (congrArg some (by kernel_rfl))
 t0 := Tryd.underlying0
 a0 := Tryd.isAgg0
 z0 := Tryd.sizeOf0
 v0 := Tryd.zeroValue0
 t3 := Tryd.underlying3
 a3 := Tryd.isAgg3
 z3 := Tryd.sizeOf3
 v3 := Tryd.zeroValue3
 t4 := Tryd.underlying4
 a4 := Tryd.isAgg4
 z4 := Tryd.sizeOf4
 v4 := Tryd.zeroValue4
 t5 := Tryd.underlying5
 a5 := Tryd.isAgg5
 z5 := Tryd.sizeOf5
 v5 := Tryd.zeroValue5
 t9 := Tryd.underlying9
 a9 := Tryd.isAgg9
 z9 := Tryd.sizeOf9
 v9 := Tryd.zeroValue9
 t20 := Tryd.underlying20
 a20 := Tryd.isAgg20
 z20 := Tryd.sizeOf20
 v20 := Tryd.zeroValue20
 t37 := Tryd.underlying64
 a37 := Tryd.isAgg64
 z37 := Tryd.sizeOf64
 v37 := Tryd.zeroValue64
 t46 := Tryd.underlying111
 a46 := Tryd.isAgg111
 z46 := Tryd.sizeOf111
 v46 := Tryd.zeroValue111
 t51 := Tryd.underlying86
 a51 := Tryd.isAgg86
 z51 := Tryd.sizeOf86
 v51 := Tryd.zeroValue86
 t53 := Tryd.underlying110
 a53 := Tryd.isAgg110
 z53 := Tryd.sizeOf110
 v53 := Tryd.zeroValue110
 t70 := Tryd.underlying114
 a70 := Tryd.isAgg114
 z70 := Tryd.sizeOf114
 v70 := Tryd.zeroValue114
 t72 := Tryd.underlying116
 a72 := Tryd.isAgg116
 z72 := Tryd.sizeOf116
 v72 := Tryd.zeroValue116
 t75 := Tryd.underlying119
 a75 := Tryd.isAgg119
 z75 := Tryd.sizeOf119
 v75 := Tryd.zeroValue119
 t76 := Tryd.underlying120
 a76 := Tryd.isAgg120
 z76 := Tryd.sizeOf120
 v76 := Tryd.zeroValue120
 t109 := Tryd.underlying128
 a109 := Tryd.isAgg128
 z109 := Tryd.sizeOf128
 v109 := Tryd.zeroValue128
 t127 := Tryd.underlying132
 a127 := Tryd.isAgg132
 z127 := Tryd.sizeOf132
 v127 := Tryd.zeroValue132
 t146 := Tryd.underlying134
 a146 := Tryd.isAgg134
 z146 := Tryd.sizeOf134
 v146 := Tryd.zeroValue134
 t148 := Tryd.underlying136
 a148 := Tryd.isAgg136
 z148 := Tryd.sizeOf136
 v148 := Tryd.zeroValue136
 t164 := Tryd.underlying138
 a164 := Tryd.isAgg138
 z164 := Tryd.sizeOf138
 v164 := Tryd.zeroValue138 }
theorem Tryd.Builder_Extra_105 : Builder.Extra Tryd.prog Tryd.lays105_ren := {
 sizeBuilder := by kernel_rfl
 liesBuilder := by kernel_rfl
 t5 := Tryd.underlying5
 a5 := Tryd.isAgg5
 z5 := Tryd.sizeOf5
 v5 := Tryd.zeroValue5
 infoByte := by kernel_rfl
 cellsByte := by kernel_rfl
 sizeByte := by kernel_rfl
 neB5 := by decide }
open Go.RowKit Go.Lib in
theorem Tryd.strings_Repeat (s : ByteArray) (c : Nat) (w : World) (hc : c ≤ 9223372036854775807) (hlen : s.size * c ≤ 140737488355328) :
    Calls Tryd.prog 62 #[.string s, .int .i64 c] w fun e w' => e = .returned (.string ⟨(Lib.repeatL s.data.toList c).toArray⟩) ∧ Below w.heap.size w w' := Any.strings_Repeat Tryd.lays105 Tryd.Builder_Extra_105 s c w hc hlen
end Go.Proofs
namespace Go.Proofs.YtnakjijahkaoaaaDoor
open Go Go.RowKit
def bC (xs : List ByteArray) (sep : ByteArray) : ByteArray := ⟨(Lib.join (xs.map (·.data.toList)) sep.data.toList).toArray⟩
def iR (s : ByteArray) (c : Int) : ByteArray := ⟨(Lib.repeatL s.data.toList c.toNat).toArray⟩
theorem tj {w w' : World} (h : Below w.heap.size w w') : Kept w w' := ⟨h.os, h.tape, h.output, h.size, h.block⟩
theorem qJ (l : List UInt8) : ByteArray.size ⟨l.toArray⟩ = l.length := by
 show l.toArray.size = l.length
 exact List.size_toArray ..
theorem tF {P : Program} {O : Nat → Prop} {w : World} : ∀ {xs : List ByteArray} {L : List Value}, ai (fun cs x => Rep P .str .cells O w cs x) 1 L xs → ∀ (j : Nat) x, xs[j]? = some x → L[j]? = some (.string x)
 | [], _, _, j, x, hx => by simp at hx
 | y :: ys, L, h, j, x, hx => by
  cases L with
  | nil => obtain ⟨⟨h1, _⟩, _⟩ := h; simp at h1
  | cons u us =>
   obtain ⟨⟨h1, _⟩, h2⟩ := h
   cases j with
   | zero =>
    simp at hx h1
    simp [← hx, h1]
   | succ j =>
    simp at hx h2
    simpa using tF h2 j x hx
noncomputable abbrev fu : bW := ⟨ue, tv, fun x => (bC x.1 x.2.1, ()), fun x => List.length x.1 ≤ 1000000 ∧ ByteArray.size (bC x.1 x.2.1) ≤ 1000000, false⟩
theorem vG : aL prog [] gN fu := by
 refine ⟨hH uv (by kernel_rfl) (by kernel_rfl), (fun h => by cases h), fun O w vs x hO _ hx hp => ?_⟩
 obtain ⟨xs, sep, ⟨⟩⟩ := x
 obtain ⟨rest, cs, rfl, ⟨a, c, L, rfl, h2, h3, h4, h5, h6, h7⟩, rest', cs', rfl, ⟨rfl, hs⟩, hn⟩ := hx
 have hn : rest' = [] := hn
 subst hn
 have hp1 : xs.length ≤ 1000000 := hp.1
 have hp2 : (Lib.join (xs.map (·.data.toList)) sep.data.toList).length ≤ 1000000 := by
  have := hp.2
  unfold bC at this
  rwa [qJ] at this
 have fin : ∀ e w', e = .returned (.string (bC xs sep)) → Kept w w' → ∃ v, e = Ending.returned v ∧ Kept w w' ∧ Rep prog fu.rs .result O w' [v] (fu.g (xs, sep, ())) := by
  intro e w' he hk
  refine ⟨_, he, hk, ?_⟩
  refine ⟨[], [.string (bC xs sep)], rfl, ⟨rfl, ?_⟩, rfl⟩
  show (bC xs sep).size ≤ maxLen
  unfold bC
  rw [qJ]
  exact Nat.le_trans hp2 (by decide)
 cases hx0 : xs with
 | nil =>
  subst hx0
  refine Calls.mono (Tryd.strings_Join_none a c sep w) fun e w' he => ?_
  exact fin e w' he.1 (by rw [he.2]; exact Kept.refl w)
 | cons x0 xr =>
  rw [← hx0]
  obtain ⟨ad, ha, hO', hb, hc⟩ := h6 (by rw [hx0]; exact List.cons_ne_nil _ _)
  subst ha
  obtain ⟨bk, o, sp⟩ := ad
  have hat : ∀ (j : Nat) x, xs[j]? = some x → w.cell? ((⟨bk, o, sp⟩ : Addr).add j) = some (.string x) := fun j x hx => hc j _ (tF h5 j x hx)
  have hsp : sp = none := by
   have h0 := hat 0 x0 (by rw [hx0]; rfl)
   have e : (⟨bk, o, sp⟩ : Addr).add 0 = ⟨bk, o, sp⟩ := rfl
   rw [e] at h0
   unfold World.cell? at h0
   cases sp with
   | none => rfl
   | some q =>
    exfalso
    simp only [Option.isSome_some, if_true] at h0
    split at h0 <;> cases h0
  subst hsp
  have hcells : ∀ (j : Nat) x, xs[j]? = some x → w.cell? ⟨bk, o + j, none⟩ = some (.string x) := fun j x hx => by
   have h := hat j x hx
   unfold Addr.add at h
   split at h
   ·next hj => subst hj; exact h
   ·exact h
  exact Calls.mono (Tryd.strings_Join bk o c xs sep w hcells hb (by omega) h2 (Nat.le_trans hp2 (by decide))) fun e w' he => fin e w' he.1 (tj he.2)
noncomputable abbrev ir : bW := ⟨rI, rJ, fun x => (iR x.1 x.2.1, ()), fun x => (0 : Int) ≤ x.2.1 ∧ (x.2.1 : Int) ≤ 1000000 ∧ ByteArray.size x.1 = 1, false⟩
theorem sr : aL prog [] fH ir := by
 refine ⟨hH rH (by kernel_rfl) (by kernel_rfl), (fun h => by cases h), fun O w vs x hO _ hx hp => ?_⟩
 obtain ⟨s, c, ⟨⟩⟩ := x
 obtain ⟨rest, cs, rfl, ⟨rfl, hs⟩, rest', cs', rfl, ⟨rfl, hc⟩, hn⟩ := hx
 have hn : rest' = [] := hn
 subst hn
 have h0 : (0 : Int) ≤ c := hp.1
 have h1 : (c : Int) ≤ 1000000 := hp.2.1
 have hs1 : s.size = 1 := hp.2.2
 obtain ⟨n, hn⟩ : ∃ n : Nat, (n : Int) = c := ⟨Int.toNat c, Int.toNat_of_nonneg h0⟩
 subst hn
 have hlt : n ≤ 1000000 := Int.ofNat_le.1 h1
 refine Calls.mono (Tryd.strings_Repeat s n w (Nat.le_trans hlt (by decide)) (by rw [hs1, Nat.one_mul]; exact Nat.le_trans hlt (by decide))) fun e w' he => ?_
 refine ⟨_, he.1, tj he.2, ?_⟩
 have e : iR s (n : Int) = ⟨(Lib.repeatL s.data.toList n).toArray⟩ := rfl
 refine ⟨[], [.string (iR s n)], rfl, ⟨rfl, ?_⟩, rfl⟩
 show (iR s (n : Int)).size ≤ maxLen
 rw [e, qJ, Lib.repeatL_length]
 have : s.data.toList.length = 1 := hs1
 rw [this, Nat.mul_one]
 exact Nat.le_trans hlt (by decide)
end Go.Proofs.YtnakjijahkaoaaaDoor
namespace Go.Proofs.YtnakjijahkaoaaaDoor
open Go Go.RowKit
noncomputable abbrev dV : Fx := { fn := dw, ann := { loops := [(5, { keep := [1, 3, 19] })], frz := [(1000005, [2, 3])] } }
noncomputable abbrev du : Fx := { fn := db, ann := { loops := [(0, { keep := [0, 1] })], frz := [(1000000, [2, 3])] } }
noncomputable abbrev bK : Fx := { fn := aN, ann := { loops := [(7, { keep := [2, 3, 5, 15] })] } }
noncomputable abbrev cY : bp := { D := { T := bT, F := [(gg, ge), (dZ, d5), (gN, fu), (fH, ir)], R := [], ovl := [], G := gl }, inl := [(mG, dV), (kN, du)] }
noncomputable abbrev iX : bS := .data fL
theorem wS (h_digest_begins : aL prog gl gg ge) (h_digest_words_over : aL prog gl dZ d5) (h_strings_Join : aL prog gl gN fu) (h_strings_Repeat : aL prog gl fH ir) : XOk prog cY := xok (aO (aO (aO (aO (bv bE bm) h_strings_Repeat) h_strings_Join) h_digest_words_over) h_digest_begins) (by kernel_rfl) bj (jv sH (by kernel_rfl) (jv rb (by kernel_rfl) bu)) bt
noncomputable def qg (l : den (Ty.slc Ty.str)) : ab := ab.req True (ab.req (List.length l ≤ 1000000 ∧ ByteArray.size (bC l { data := { toList := [] } }) ≤ 1000000) (ab.req (ge0 3) (ab.req (ByteArray.size (bC l { data := { toList := [] } }) + ByteArray.size { data := { toList := [128] } } ≤ 1099511627776) (ab.req (nz 64) (ab.req (nz 64) (ab.req (0 ≤ Int.tmod (IntKind.wrap IntKind.i64 (120 - Int.tmod (aY (bC l { data := { toList := [] } } ++ { data := { toList := [128] } })) 64)) 64 ∧ Int.tmod (IntKind.wrap IntKind.i64 (120 - Int.tmod (aY (bC l { data := { toList := [] } } ++ { data := { toList := [128] } })) 64)) 64 ≤ 1000000 ∧ ByteArray.size { data := { toList := [0] } } = 1) (ab.req (ByteArray.size (bC l { data := { toList := [] } } ++ { data := { toList := [128] } }) + ByteArray.size (iR { data := { toList := [0] } } (Int.tmod (IntKind.wrap IntKind.i64 (120 - Int.tmod (aY (bC l { data := { toList := [] } } ++ { data := { toList := [128] } })) 64)) 64)) ≤ 1099511627776) (ab.loop [{ fx := bK, todo := bU aN 2 2, dst := some 10, s := ofS [(2, K.ptr (0 + 1) tId []), (3, K.ptr (0 + 1 + 1) ae [])] }] dV (lp dw 5) [(1, K.ptr 0 Ty.str []), (3, K.val (Ty.int IntKind.u64) (IntKind.wrap IntKind.u64 (IntKind.wrap IntKind.u64 (aY (bC l { data := { toList := [] } })) * 2 ^ min (Int.toNat 3) (IntKind.bits IntKind.u64)))), (19, K.val ag 0)] [(0, Bx.cell Ty.str (bC l { data := { toList := [] } } ++ { data := { toList := [128] } } ++ iR { data := { toList := [0] } } (Int.tmod (IntKind.wrap IntKind.i64 (120 - Int.tmod (aY (bC l { data := { toList := [] } } ++ { data := { toList := [128] } })) 64)) 64))), (0 + 1, Bx.cell tId (zero tId)), (0 + 1 + 1, Bx.cell ae dz)]))))))))
theorem uE (l : den (Ty.slc Ty.str)) : ax cY iX 5000 [] bK (aX aN) (Env.of (a6 px (l, ()) 0) []) = qg l := by kernel_rfl
noncomputable def fj (v3 : den (Ty.int IntKind.u64)) (v19 : den ag) (b0 : den Ty.str) (b1 : den tId) (b2 : den ae) : List bH := [{ fx := bK, todo := bU aN 2 2, dst := some 10, s := ofS [(2, K.ptr (0 + 1) tId []), (3, K.ptr (0 + 1 + 1) ae [])] }]
noncomputable def fg (v3 : den (Ty.int IntKind.u64)) (v19 : den ag) (b0 : den Ty.str) (b1 : den tId) (b2 : den ae) : Env := Env.of [(1, K.ptr 0 Ty.str []), (3, K.val (Ty.int IntKind.u64) v3), (19, K.val ag v19)] [(0, Bx.cell Ty.str b0), (1, Bx.cell tId b1), (2, Bx.cell ae b2)]
noncomputable def jk (v3 : den (Ty.int IntKind.u64)) (v19 : den ag) (b0 : den Ty.str) (b1 : den tId) (b2 : den ae) : ab := ab.ite (decide (v19 < 8)) (ab.req (ge0 (IntKind.wrap IntKind.i64 (8 * IntKind.wrap IntKind.i64 (7 - v19)))) (ab.req (ByteArray.size b0 + ByteArray.size (al (List.set (List.replicate 1 (zero (Ty.int IntKind.u8))) 0 (IntKind.wrap IntKind.u8 (Int.fdiv v3 (2 ^ min (Int.toNat (IntKind.wrap IntKind.i64 (8 * IntKind.wrap IntKind.i64 (7 - v19)))) (IntKind.bits IntKind.u64)))))) ≤ 1099511627776) (ab.loop [{ fx := bK, todo := bU aN 2 2, dst := some 10, s := ofS [(2, K.ptr (0 + 1) tId []), (3, K.ptr (0 + 1 + 1) ae [])] }] dV (lp dw 5) [(1, K.ptr 0 Ty.str []), (3, K.val (Ty.int IntKind.u64) v3), (19, K.val ag (IntKind.wrap IntKind.i64 (v19 + 1)))] [(0, Bx.cell Ty.str (b0 ++ al (List.set (List.replicate 1 (zero (Ty.int IntKind.u8))) 0 (IntKind.wrap IntKind.u8 (Int.fdiv v3 (2 ^ min (Int.toNat (IntKind.wrap IntKind.i64 (8 * IntKind.wrap IntKind.i64 (7 - v19)))) (IntKind.bits IntKind.u64))))))), (0 + 1, Bx.cell tId b1), (0 + 1 + 1, Bx.cell ae b2)]))) (ab.loop [{ fx := bK, todo := om aN 4, dst := none, s := ofS [(2, K.ptr (0 + 1 + 1) tId []), (3, K.ptr (0 + 1 + 1 + 1) ae [])], rng := some 0 }] du (lp db 0) [(0, K.yld 0), (1, K.ptr (0 + 1) Ty.str [])] [(0, Bx.lop LoopState.ready none [(3, K.ptr (0 + 1 + 1 + 1) ae [])] 32 (CK aN 4) (s4 aN 4) (xH aN 4)), (0 + 1, Bx.cell Ty.str b0), (0 + 1 + 1, Bx.cell tId b1), (0 + 1 + 1 + 1, Bx.cell ae b2)])
theorem dN (v3 : den (Ty.int IntKind.u64)) (v19 : den ag) (b0 : den Ty.str) (b1 : den tId) (b2 : den ae) : ax cY iX 5000 (fj v3 v19 b0 b1 b2) dV (lp dw 5) (fg v3 v19 b0 b1 b2) = jk v3 v19 b0 b1 b2 := by kernel_rfl
noncomputable def eH (b1 : den Ty.str) (b2 : den tId) (b3 : den ae) : List bH := [{ fx := bK, todo := om aN 4, dst := none, s := ofS [(2, K.ptr (0 + 1 + 1) tId []), (3, K.ptr (0 + 1 + 1 + 1) ae [])], rng := some 0 }]
noncomputable def eK (b1 : den Ty.str) (b2 : den tId) (b3 : den ae) : Env := Env.of [(0, K.yld 0), (1, K.ptr (0 + 1) Ty.str [])] [(0, Bx.lop LoopState.ready none [(3, K.ptr (0 + 1 + 1 + 1) ae [])] 32 (CK aN 4) (s4 aN 4) (xH aN 4)), (1, Bx.cell Ty.str b1), (2, Bx.cell tId b2), (3, Bx.cell ae b3)]
noncomputable def iM (b1 : den Ty.str) (b2 : den tId) (b3 : den ae) : ab := ab.ite (!eqb Ty.str b1 { data := { toList := [] } }) (ab.req (bo 0 64 (aY b1)) (ab.req (ByteArray.size (bI b1 0 64) = 64) (ab.ite (!true) (ab.loop [] bK (lp aN 7) [(2, K.ptr 0 tId []), (3, K.ptr (0 + 1) ae []), (5, K.ptr (0 + 1 + 1) tId []), (15, K.val ag 0)] [(0, Bx.cell tId b2), (0 + 1, Bx.cell ae (lI b3 (bI b1 0 64))), (0 + 1 + 1, Bx.cell tId (zero tId))]) (ab.req (bo 64 (aY b1) (aY b1)) (ab.loop [{ fx := bK, todo := om aN 4, dst := none, s := ofS [(2, K.ptr (0 + 1 + 1) tId []), (3, K.ptr (0 + 1 + 1 + 1) ae [])], rng := some 0 }] du (lp db 0) [(0, K.yld 0), (1, K.ptr (0 + 1) Ty.str [])] [(0, Bx.lop LoopState.ready none [(3, K.ptr (0 + 1 + 1 + 1) ae [])] 32 (CK aN 4) (s4 aN 4) (xH aN 4)), (0 + 1, Bx.cell Ty.str (bI b1 64 (aY b1))), (0 + 1 + 1, Bx.cell tId b2), (0 + 1 + 1 + 1, Bx.cell ae (lI b3 (bI b1 0 64)))]))))) (ab.loop [] bK (lp aN 7) [(2, K.ptr 0 tId []), (3, K.ptr (0 + 1) ae []), (5, K.ptr (0 + 1 + 1) tId []), (15, K.val ag 0)] [(0, Bx.cell tId b2), (0 + 1, Bx.cell ae b3), (0 + 1 + 1, Bx.cell tId (zero tId))])
theorem dE (b1 : den Ty.str) (b2 : den tId) (b3 : den ae) : ax cY iX 5000 (eH b1 b2 b3) du (lp db 0) (eK b1 b2 b3) = iM b1 b2 b3 := by kernel_rfl
noncomputable def nE (v15 : den ag) (b0 : den tId) (b1 : den ae) (b2 : den tId) : Env := Env.of [(2, K.ptr 0 tId []), (3, K.ptr (0 + 1) ae []), (5, K.ptr (0 + 1 + 1) tId []), (15, K.val ag v15)] [(0, Bx.cell tId b0), (1, Bx.cell ae b1), (2, Bx.cell tId b2)]
noncomputable def ut (v15 : den ag) (b0 : den tId) (b1 : den ae) (b2 : den tId) : ab := ab.ite (decide (v15 < 32)) (ab.req (nz 4) (ab.req (inB (IntKind.wrap IntKind.i64 (Int.tdiv v15 4)) (↑8 : Int)) (ab.req (nz 4) (ab.req (ge0 (IntKind.wrap IntKind.i64 (24 - IntKind.wrap IntKind.i64 (8 * Int.tmod v15 4)))) (ab.req (inB v15 (↑32 : Int)) (ab.loop [] bK (lp aN 7) [(2, K.ptr 0 tId []), (3, K.ptr (0 + 1) ae []), (5, K.ptr (0 + 1 + 1) tId []), (15, K.val ag (IntKind.wrap IntKind.i64 (v15 + 1)))] [(0, Bx.cell tId b0), (0 + 1, Bx.cell ae b1), (0 + 1 + 1, Bx.cell tId (bF (Ty.int IntKind.u8) b2 v15 (IntKind.wrap IntKind.u8 (Int.fdiv (el (Ty.int IntKind.u32) b1 (IntKind.wrap IntKind.i64 (Int.tdiv v15 4))) (2 ^ min (Int.toNat (IntKind.wrap IntKind.i64 (24 - IntKind.wrap IntKind.i64 (8 * Int.tmod v15 4)))) (IntKind.bits IntKind.u32))))))])))))) (ab.ret (K.val (Ty.pair tId Ty.unit) (b2, PUnit.unit)))
theorem kf (v15 : den ag) (b0 : den tId) (b1 : den ae) (b2 : den tId) : ax cY iX 5000 [] bK (lp aN 7) (nE v15 b0 b1 b2) = ut v15 b0 b1 b2 := by kernel_rfl
end Go.Proofs.YtnakjijahkaoaaaDoor
namespace Go.Proofs.YtnakjijahkaoaaaDoor
open Go Go.RowKit
def e0 : ByteArray := { data := { toList := [] } }
def qR : ByteArray := { data := { toList := [128] } }
def bz : ByteArray := { data := { toList := [0] } }
def kI (s : ByteArray) : Int := Int.tmod (IntKind.wrap .i64 (120 - Int.tmod (aY (s ++ qR)) 64)) 64
def mP (s : ByteArray) : Int := IntKind.wrap .u64 (IntKind.wrap .u64 (aY s) * 2 ^ min (Int.toNat 3) (IntKind.bits .u64))
def rB (s : ByteArray) (i : Int) : ByteArray :=
 al (List.set (List.replicate 1 (zero (Ty.int IntKind.u8))) 0
  (IntKind.wrap .u8 (Int.fdiv (mP s) (2 ^ min (Int.toNat (IntKind.wrap .i64 (8 * IntKind.wrap .i64 (7 - i)))) (IntKind.bits .u64)))))
def m6 (s : ByteArray) : Nat → ByteArray
 | 0 => s ++ qR ++ iR bz (kI s)
 | i + 1 => m6 s i ++ rB s i
def goR : Nat → ByteArray → List Int → List Int
 | 0, _, h => h
 | m + 1, s, h => goR m (bI s 64 (aY s)) (lI h (bI s 0 64))
def mg (h : List Int) (i : Int) : Int :=
 IntKind.wrap .u8 (Int.fdiv (el (Ty.int IntKind.u32) h (IntKind.wrap .i64 (Int.tdiv i 4))) (2 ^ min (Int.toNat (IntKind.wrap .i64 (24 - IntKind.wrap .i64 (8 * Int.tmod i 4)))) (IntKind.bits .u32)))
def oK (h : List Int) : Nat → List Int
 | 0 => zero tId
 | i + 1 => bF (Ty.int IntKind.u8) (oK h i) i (mg h i)
def gQ (s : ByteArray) : Nat := (s.size + 8) / 64 + 1
def t6 (s : ByteArray) : List Int := oK (goR (gQ s) (m6 s 8) dz) 32
def eE (l : List ByteArray) : List Int := t6 (bC l e0)
theorem By {n : Int} (h : 0 ≤ n) : ((iR bz n).size : Int) = n := by
 unfold iR
 rw [qJ, Lib.repeatL_length]
 have : bz.data.toList.length = 1 := rfl
 rw [this, Nat.mul_one, Int.toNat_of_nonneg h]
theorem tV (s : ByteArray) (i : Int) : (rB s i).size = 1 := rfl
theorem nU {s : ByteArray} (hs : s.size ≤ 900000) : kI s = (120 - ((s.size : Int) + 1) % 64) % 64 := by
 have h1 : aY (s ++ qR) = (s.size : Int) + 1 := by
  unfold aY
  rw [ByteArray.size_append]
  rfl
 unfold kI
 have h2 : Int.tmod ((s.size : Int) + 1) 64 = ((s.size : Int) + 1) % 64 := Int.tmod_eq_emod_of_nonneg (by omega)
 rw [h1, h2, bc (by omega)]
 exact Int.tmod_eq_emod_of_nonneg (by omega)
theorem mE {s : ByteArray} (hs : s.size ≤ 900000) : ∀ i : Nat, ((m6 s i).size : Int) = (s.size : Int) + 1 + (120 - ((s.size : Int) + 1) % 64) % 64 + i
 | 0 => by
  have h0 : (0 : Int) ≤ kI s := by rw [nU hs]; exact Int.emod_nonneg _ (by decide)
  show ((s ++ qR ++ iR bz (kI s)).size : Int) = _
  rw [ByteArray.size_append, ByteArray.size_append]
  have h1 := By h0
  rw [nU hs] at h1
  have h2 : qR.size = 1 := rfl
  rw [nU hs]
  omega
 | i + 1 => by
  show ((m6 s i ++ rB s i).size : Int) = _
  rw [ByteArray.size_append, tV]
  have := mE hs i
  omega
theorem yf {s : ByteArray} (hs : s.size ≤ 900000) : (m6 s 8).size = 64 * gQ s := by
 have h := mE hs 8
 unfold gQ
 omega
theorem dC : XOk prog cY := wS (bQ uz) pE (bQ vG) (bQ sr)
theorem tJ : ∀ i : Nat, i < 32 → (0 ≤ IntKind.wrap .i64 (Int.tdiv (i : Int) 4) ∧ IntKind.wrap .i64 (Int.tdiv (i : Int) 4) < ((8 : Nat) : Int)) ∧
    0 ≤ IntKind.wrap .i64 (24 - IntKind.wrap .i64 (8 * Int.tmod (i : Int) 4)) := by decide
def ua (O : Nat → Prop) (w0 : World) (b0 h : List Int) (out : List Int) (ho : out = oK h 32) :=
 PLift.up <| bO (σ := List Int) 32 (fun i b => b = oK h i)
  (fun i b => br prog cY (Cx.base O w0) (dQ prog O w0 fL fun y => y = (out, ())) [] bK (lp aN 7) (nE (i : Nat) b0 h b))
  (fun i b hi hb ih => aF dC (kf _ b0 h b) (by
   refine ⟨fun _ => ⟨show (4 : Int) ≠ 0 by decide, (tJ i hi).1, show (4 : Int) ≠ 0 by decide, (tJ i hi).2, ⟨Int.natCast_nonneg _, Int.ofNat_lt.2 hi⟩, ?_⟩, fun h => ?_⟩
   ·rw [cJ hi (by omega)]
    refine ih _ ?_
    rw [hb]
    rfl
   ·exact absurd (Int.ofNat_lt.2 hi) (of_decide_eq_false h)))
  (fun b hb => aF dC (kf _ b0 h b) (by
   refine ⟨fun h => ?_, fun _ => ⟨_, rfl, ?_⟩⟩
   ·exact absurd (of_decide_eq_true h) (by decide)
   ·show (b, ()) = (out, ())
    rw [hb, ho]))
theorem Cw {s : ByteArray} {m : Nat} (h : s.size = 64 * (m + 1)) : (bI s 64 (aY s)).size = 64 * m := by
 unfold bI aY
 rw [ByteArray.size_extract, Int.toNat_natCast]
 have : Int.toNat 64 = 64 := rfl
 omega
theorem Bi {s : ByteArray} {m : Nat} (h : s.size = 64 * (m + 1)) : (bI s 0 64).size = 64 := by
 unfold bI
 rw [ByteArray.size_extract]
 have h1 : Int.toNat 64 = 64 := rfl
 have h2 : Int.toNat 0 = 0 := rfl
 omega
theorem su (O : Nat → Prop) (w0 : World) (b2 out : List Int) (m : Nat) : ∀ (s : ByteArray) (h : List Int), s.size = 64 * m → out = oK (goR m s h) 32 →
    br prog cY (Cx.base O w0) (dQ prog O w0 fL fun y => y = (out, ())) (eH s b2 h) du (lp db 0) (eK s b2 h) := by
  induction m with
  | zero =>
    intro s h hs ho
    have e : s = e0 := ByteArray.ext (Array.eq_empty_of_size_eq_zero hs)
    have e1 : eqb Ty.str s e0 = true := (fT (t := .str) rfl s e0).2 e
    refine aF dC (dE s b2 h) ⟨fun hc => ?_, fun _ => ?_⟩
    · have hc : (!eqb Ty.str s e0) = true := hc
      rw [e1] at hc
      cases hc
    · exact (ua O w0 b2 h out ho).down 0 _ (Nat.zero_le _) rfl
  | succ m ih =>
    intro s h hs ho
    have hl : aY s = 64 * ((m : Int) + 1) := by unfold aY; rw [hs]; omega
    refine aF dC (dE s b2 h) ⟨fun _ => ⟨?_, Bi hs, fun hc => ?_, fun _ => ⟨?_, ?_⟩⟩, fun hc => ?_⟩
    · rw [hl]
      exact ⟨by decide, by decide, by omega⟩
    · cases hc
    · rw [hl]
      exact ⟨by decide, by omega, Int.le_refl _⟩
    · exact ih _ _ (Cw hs) ho
    · have hc : (!eqb Ty.str s e0) = false := hc
      have e : s = e0 := (fT (t := .str) rfl s e0).1 (by cases h1 : eqb Ty.str s e0 with | true => rfl | false => rw [h1] at hc; cases hc)
      rw [e] at hs
      have : e0.size = 0 := rfl
      omega
def uj (O : Nat → Prop) (w0 : World) (s : ByteArray) (hs : s.size ≤ 900000) :=
 PLift.up <| bO (σ := ByteArray) 8 (fun i b => b = m6 s i)
  (fun i b => br prog cY (Cx.base O w0) (dQ prog O w0 fL fun y => y = (t6 s, ())) (fj (mP s) (i : Nat) b (zero tId) dz) dV (lp dw 5) (fg (mP s) (i : Nat) b (zero tId) dz))
  (fun i b hi hb ih => aF dC (dN (mP s) _ b _ _) (by
   have hz : b.size ≤ 1000000 := by have := mE hs i; rw [hb]; omega
   refine ⟨fun _ => ⟨?_, ?_, ?_⟩, fun h => ?_⟩
   ·show (0 : Int) ≤ IntKind.wrap .i64 (8 * IntKind.wrap .i64 (7 - (i : Int)))
    rw [bc (n := 7 - (i : Int)) (by omega), bc (by omega)]
    omega
   ·show b.size + (rB s i).size ≤ _
    rw [tV]
    omega
   ·rw [cJ hi (by omega)]
    refine ih _ ?_
    rw [hb]
    rfl
   ·exact absurd (Int.ofNat_lt.2 hi) (of_decide_eq_false h)))
  (fun b hb => aF dC (dN (mP s) _ b _ _) (by
   refine ⟨fun h => ?_, fun _ => ?_⟩
   ·exact absurd (of_decide_eq_true h) (by decide)
   ·exact su O w0 _ _ (gQ s) b dz (by rw [hb]; exact yf hs) (by rw [hb]; rfl)))
noncomputable abbrev fo : bW := ⟨px, fL, fun x => (eE x.1, ()), fun x => List.length x.1 ≤ 1000000 ∧ ByteArray.size (bC x.1 e0) ≤ 900000, false⟩
theorem qI : aL prog gl fi fo :=
 cE (S := fo) dC (fx := bK) wn (by kernel_rfl) (fun h => by cases h) (T := fun x => qg x.1) (fun x => uE x.1) fun O w0 x _ hp => by
  obtain ⟨l, ⟨⟩⟩ := x
  have hp1 : List.length l ≤ 1000000 := hp.1
  have hp2 : (bC l e0).size ≤ 900000 := hp.2
  have hk : kI (bC l e0) = _ := nU hp2
  refine ⟨trivial, ⟨hp1, Nat.le_trans hp2 (by decide)⟩, by show (0 : Int) ≤ 3; decide, ?_, show (64 : Int) ≠ 0 by decide, show (64 : Int) ≠ 0 by decide, ⟨?_, ?_, rfl⟩, ?_, ?_⟩
  ·show (bC l e0).size + 1 ≤ _
   omega
  ·show (0 : Int) ≤ kI (bC l e0)
   rw [hk]; omega
  ·show kI (bC l e0) ≤ 1000000
   rw [hk]; omega
  ·show (bC l e0 ++ qR).size + (iR bz (kI (bC l e0))).size ≤ _
   have h := mE hp2 0
   have : (m6 (bC l e0) 0).size = (bC l e0 ++ qR).size + (iR bz (kI (bC l e0))).size := ByteArray.size_append
   omega
  ·exact (uj O w0 (bC l e0) hp2).down 0 _ (Nat.zero_le _) rfl
end Go.Proofs.YtnakjijahkaoaaaDoor
namespace Go.Proofs.YtnakjijahkaoaaaDoor
open Go Go.RowKit
def k5 : Nat → List Int → List Int
 | 0, l => l
 | n + 1, l => k5 n (l ++ [0])
def gX (l : List Int) : Nat := (120 - l.length % 64) % 64
def xN : Nat → Int
 | 0 => 72057594037927936
 | n + 1 => IntKind.wrap .u64 (Int.tdiv (xN n) 256)
def rx (s : ByteArray) (n : Nat) : Int :=
 IntKind.wrap .u8 (Int.tmod (IntKind.wrap .u64 (Int.tdiv (IntKind.wrap .u64 (IntKind.wrap .u64 (aY s) * 8)) (xN n))) 256)
def kW (s : ByteArray) : Nat → List Int → List Int
 | 0, l => l
 | n + 1, l => kW s n l ++ [rx s n]
def io (s : ByteArray) : List Int := kW s 8 (k5 (gX (aU s ++ [128])) (aU s ++ [128]))
noncomputable abbrev jc : bW := ⟨pl, ii, fun x => (al (io x.1), ()), fun x => ByteArray.size x.1 ≤ 1000, false⟩
end Go.Proofs.YtnakjijahkaoaaaDoor
namespace Go.Proofs.YtnakjijahkaoaaaDoor
open Go Go.RowKit Go.ChangeShapes Go.WideShapes Go.ChangeAt
def oV : List (String × DataW Unit) := [("posthouse/digest.keys", Rows.laid_posthouse_digest_keys)]
noncomputable def AV : Nat := ((prog.globals[0]?).map (·.type)).getD 0
theorem CM : (prog.globals[0]?).map (·.type) = some AV := by kernel_rfl
theorem Be : bT.lookup AV = some (.arr 64 (.int .u32)) := by kernel_rfl
theorem E0 : prog.globalNamed "posthouse/digest.keys" = some 0 := by kernel_rfl
def Bs : DataW Unit → Int := fun | .lit (.int _ n) => n | _ => 0
theorem pS {P : Program} {O : Nat → Prop} {w : World} {k : IntKind} : ∀ (cs : List Value) (ds : List (DataW Unit)), cs.length = ds.length →
    (∀ (i : Nat) c d, cs[i]? = some c → ds[i]? = some d → ∃ z, c = .int k z ∧ d = .lit (.int k z) ∧ InK k z) → ai (fun cs x => Rep P (.int k) .cells O w cs x) 1 cs (ds.map Bs)
  | [], [], _, _ => rfl
  | c :: cs, d :: ds, hl, h => by
    obtain ⟨z, e1, e2, e3⟩ := h 0 c d rfl rfl
    refine ⟨?_, pS cs ds (by simpa using hl) fun i c d hc hd => h (i + 1) c d hc hd⟩
    rw [e1, e2]
    exact ⟨rfl, e3⟩
  | [], _ :: _, hl, _ => by simp at hl
  | _ :: _, [], hl, _ => by simp at hl
theorem Cb : gV.length = 64 := by kernel_rfl
def Ax : DataW Unit → List (DataW Unit)
 | .agg l => l
 | _ => []
theorem DV : (Rows.laid_posthouse_digest_keys : DataW Unit) = .agg (Ax Rows.laid_posthouse_digest_keys) := by kernel_rfl
theorem CA : gV = (Ax Rows.laid_posthouse_digest_keys).map Bs := by kernel_rfl
theorem BZ {W : World} (h : laidMetH prog oV W) : GlobOk prog gl (fun _ => False) W := by
  rw [MakeChecks.laidMetH_plain _ _ _ (by kernel_rfl)] at h
  obtain ⟨ps, ⟨g0, t0, cs0, f0, p0, q0, hg0, ht0, hv0, hd0, _, _⟩, _, _⟩ := h
  obtain rfl := Option.some.inj (E0.symm.trans hg0)
  obtain rfl := Option.some.inj (CM.symm.trans ht0)
  have hf := gI bE Be
  obtain ⟨e, hu, he, _⟩ := dJ hf.shape
  obtain ⟨xs, k, hm, hx, h3, h4, h5⟩ := DataW.trod_array hu hd0
  have hfe := gI bE he
  have hse : prog.cellsOf e = 1 := qk hfe
  have hst : prog.cellsOf AV = 64 := qk hf
  rw [DV] at hx
  have hx1 : Ax Rows.laid_posthouse_digest_keys = xs.map (·.1) := DataW.agg.inj (Prod.mk.inj hx).1
  have hlen : cs0.toList.length = 64 := h3.trans hst
  have hrep : ai (fun cs x => Rep prog (.int .u32) .cells (fun _ => False) W cs x) 1 cs0.toList gV := by
    rw [CA]
    refine pS _ _ ?_ fun i c d hc hd => ?_
    · rw [hlen, hx1, List.length_map, h4]
    · have hi : i < 64 := by
        have := (List.getElem?_eq_some_iff.1 hc).1
        omega
      have h6 := h5 i hi
      rw [hse, Nat.mul_one] at h6
      have hc1 : (cs0.toList.drop i).take 1 = [c] := by
        have hlt : i < cs0.toList.length := by omega
        rw [List.drop_eq_getElem_cons hlt]
        have : cs0.toList[i] = c := by
          rw [List.getElem?_eq_getElem hlt] at hc
          exact Option.some.inj hc
        rw [this]
        rfl
      rw [hc1] at h6
      rw [hx1, List.getElem?_map] at hd
      cases hxi : xs[i]? with
      | none => rw [hxi] at hd; cases hd
      | some x =>
        rw [hxi] at hd h6
        obtain ⟨z, e1, e2, e3⟩ := DataW.trod_int (cT hfe.shape) h6
        have hd : x.1 = d := Option.some.inj hd
        refine ⟨z, ?_, ?_, vH e3⟩
        · exact (List.cons.inj e1).1
        · rw [← hd, e2]
  have hcell : ∀ j, W.cell? ⟨0, j, none⟩ = cs0[j]? := fun j => World.var?_cell hg0 hv0 j
  intro g t y hl
  have hg : g = 0 ∧ (⟨t, y⟩ : (t : Ty) × den t) = ⟨.arr 64 (.int .u32), gV⟩ := by
    have hl : List.lookup g [((0 : Nat), (⟨.arr 64 (.int .u32), gV⟩ : (t : Ty) × den t))] = some ⟨t, y⟩ := hl
    rw [List.lookup_cons] at hl
    by_cases hg : g = 0
    · subst hg
      exact ⟨rfl, (Option.some.inj hl).symm⟩
    · have : (g == 0) = false := by simpa using hg
      rw [this] at hl
      cases hl
  obtain ⟨rfl, e⟩ := hg
  cases e
  refine ⟨cs0.toList, fun h => h, ?_, fun j u hj => ?_, Cb, hrep⟩
  · have h0 := hcell 0
    have : cs0[0]? ≠ none := by
      intro hn
      have hlt : 0 < cs0.size := by
        have : cs0.toList.length = cs0.size := by simp
        omega
      rw [Array.getElem?_eq_getElem hlt] at hn
      cases hn
    show 0 < W.heap.size
    rcases Nat.eq_zero_or_pos W.heap.size with hz | hz
    · exfalso
      apply this
      rw [← h0]
      simp [World.cell?, hz]
    · exact hz
  · have e : (⟨0, 0, none⟩ : Addr).add j = ⟨0, j, none⟩ := by
      unfold Addr.add
      split
      · next h => subst h; rfl
      · show (⟨0, 0 + j, none⟩ : Addr) = _
        rw [Nat.zero_add]
    rw [e, hcell]
    simpa using hj
set_option maxRecDepth 100000 in
theorem AH {H : Type} {enc : TypeId × Value → H} {w : World} {Gl : gT} (hg : GlobOk prog Gl (fun _ => False) w) {f : FuncId} {aty : Ty} (hk : aL prog Gl f (Dj aty)) {ts : List TypeId} (hc : ia prog bT ts aty = true) {r : Reach} {b0 : Nat} {spare : Nat → Bool} {held : Bool} {args : Array Value} {ds : List (DataW H)} {ps : List MemPlace}
    (h : DataW.TrodAll enc prog w 0 spare held ts args.toList ds ps) (hv : ∀ (j : Nat) t v, ts[j]? = some t → args[j]? = some v → Value.okWide prog w r b0 t v) : Calls prog f args w fun e w' => e = .returned (.bool true) ∧ Below w.heap.size w w' := by
  obtain ⟨x, hx⟩ := pr bE ts aty args.toList ds ps hc h (fun j t v hj hv' => hv j t v hj (by simpa using hv'))
  have := hk.does (fun _ => False) w args.toList x (fun _ h => h.elim) hg hx trivial
  rw [Array.toArray_toList] at this
  refine Calls.mono this fun e w' ⟨v, e1, e2, rest, cs, e3, e4, e5⟩ => ?_
  have e4 : cs = [.bool true] := e4
  subst e4
  have e3 : [v] = [Value.bool true] := e3
  have : v = .bool true := by simpa using e3
  subst this
  exact ⟨e1, ⟨e2.os, e2.tape, e2.output, e2.size, e2.block⟩⟩
theorem Dl (os : Os) (args : Array Value) : laidMetH prog oV ((World.laidAll prog os oV).forCall (fun _ _ => 0) ⟨#[], args, []⟩).memory := by
 rw [MakeChecks.laidMetH_plain _ _ _ (by kernel_rfl)]
 exact laidMet_laidAll _ (by kernel_rfl) (by kernel_rfl)
end Go.Proofs.YtnakjijahkaoaaaDoor
namespace Go.Proofs.YtnakjijahkaoaaaDoor
open Go Go.RowKit
abbrev Lk := den af
end Go.Proofs.YtnakjijahkaoaaaDoor
namespace Go.Proofs.YtnakjijahkaoaaaDoor
open Go Go.RowKit
noncomputable abbrev nN : Fx := { fn := kC, ann := { frz := [(1, [1])] } }
noncomputable abbrev pd : bp := { D := { T := bT, F := [], R := [], ovl := [] }, inl := [] }
noncomputable abbrev wB : bS := .data nR
theorem wu : XOk prog pd := xok ((bv bE bm)) (by kernel_rfl) bj bu bt
noncomputable def o5 (id : den tId) : ab := ab.req (bo 0 16 (↑32 : Int)) (ab.req (16 ≤ List.length (bB (Ty.int IntKind.u8) id 0 16)) (ab.ret (K.val (Ty.pair aj Ty.unit) (List.take 16 (bB (Ty.int IntKind.u8) id 0 16), PUnit.unit))))
theorem sM (id : den tId) : ax pd wB 5000 [] nN (aX kC) (Env.of (a6 nu (id, ()) 0) []) = o5 id := by kernel_rfl
noncomputable abbrev iN : Fx := { fn := gd, ann := { }, own := [5] }
noncomputable abbrev jr : bp := { D := { T := bT, F := [], R := [], ovl := [] }, inl := [] }
noncomputable abbrev pD : bS := .row (af)
theorem pA : XOk prog jr := xok ((bv bE bm)) (by kernel_rfl) bj bu bt
noncomputable def jq (s : den (Ty.slc af)) : ab := ab.all Bool (fun (c : Bool) ↦ c = true → s = []) fun (q1 : Bool) ↦ ab.ite q1 (ab.ret (K.val (Ty.slc af) [])) (ab.req (List.length (List.replicate 0 (zero af) ++ s) ≤ bX) (ab.req (vok 0 (List.length (List.replicate 0 (zero af) ++ s)) (List.length (List.replicate 0 (zero af) ++ s))) (ab.ret (K.val (Ty.slc af) (wF af (List.replicate 0 (zero af) ++ s) 0 (List.length (List.replicate 0 (zero af) ++ s)))))))
theorem nh (s : den (Ty.slc af)) : ax jr pD 5000 [] iN (aX gd) (Env.of (a6 (Ty.pair (Ty.slc af) Ty.unit) (s, ()) 0) []) = jq s := by kernel_rfl
end Go.Proofs.YtnakjijahkaoaaaDoor
namespace Go.Proofs.YtnakjijahkaoaaaDoor
open Go Go.RowKit
def bD (id : List Int) : List Int := List.take 16 id
noncomputable abbrev ep : bW := ⟨nu, nR, fun x => (bD x.1, ()), fun _ => True, true⟩
theorem o6 : aL prog [] er ep :=
 cE (S := ep) wu (fx := nN) uX (by kernel_rfl) (fun _ _ => trivial) (T := fun x => o5 x.1) (fun x => sM x.1) fun O w0 x hk _ => by
  obtain ⟨id, ⟨⟩⟩ := x
  have hl : List.length id = 32 := hk.1.1
  have e : bB (Ty.int IntKind.u8) id 0 16 = List.take 16 id := rfl
  refine ⟨⟨by decide, by decide, by decide⟩, ?_, _, rfl, ?_⟩
  ·rw [e]
   show 16 ≤ (List.take 16 id).length
   rw [List.length_take]
   omega
  ·rw [e]
   show (List.take 16 (List.take 16 id), ()) = (List.take 16 id, ())
   rw [List.take_take]; rfl
@[reducible] def f8 : ij := ⟨af, false, .pair (.slc af) .unit, true, fun _ y => y.1.length ≤ bX, fun _ y => y.1⟩
theorem oB : mH prog [] d4 f8 :=
 D6 pA (fx := iN) rfl n8 (by kernel_rfl) (T := fun _ y => jq y.1) (fun xs y _ => nh y.1) fun O w0 bk xs y hxl hy hp => by
  obtain ⟨s, ⟨⟩⟩ := y
  refine fun c hc => ⟨fun hx => ?_, fun hx => ?_⟩
  ·show K.val _ _ = K.val _ s
   rw [show s = [] from hc hx]
  ·refine ⟨?_, ?_, ?_⟩
   ·simpa using hp
   ·simp [vok]
   ·show K.val (.slc af) (wF af (List.replicate 0 (zero af) ++ s) 0 (List.length (List.replicate 0 (zero af) ++ s))) = K.val _ s
    rw [BD _ rfl]; rfl
end Go.Proofs.YtnakjijahkaoaaaDoor
namespace Go.Proofs.YtnakjijahkaoaaaDoor
open Go Go.RowKit
noncomputable abbrev n1 : Fx := { fn := ju, ann := { } }
noncomputable abbrev og : Fx := { fn := jm, ann := { } }
noncomputable abbrev qF : Fx := { fn := kL, ann := { } }
noncomputable abbrev aD : Fx := { fn := aB, ann := { loops := [(5, { keep := [0, 1, 5, 6] })], frz := [(1000005, [4, 5])] }, own := [41] }
noncomputable abbrev bn : Fx := { fn := bh, ann := { loops := [(2, { keep := [0, 1, 7, 8] })], frz := [(1000002, [0, 1]), (2000002, [4, 5])] } }
noncomputable abbrev am : Fx := { fn := ao, ann := { loops := [(4, { keep := [4], own := [(4, (.ref af))] }), (6, { keep := [4, 5, 14, 15, 16] })] }, own := [5] }
noncomputable abbrev bL : bp := { D := { T := bT, F := [(er, ep)], R := [(d4, f8)], ovl := [] }, inl := [(jn, n1), (jt, og), (aE, qF), (gx, aD), (g6, bn)] }
noncomputable abbrev c8 : bS := .data dT
theorem ui (h_proof_keyOf : aL prog [] er ep) (h_slices_Clone_Link : mH prog [] d4 f8) : XOk prog bL := xok (aO (bv bE bm) h_proof_keyOf) (by kernel_rfl) (CV h_slices_Clone_Link bj) (jv oo (by kernel_rfl) (jv oH (by kernel_rfl) (jv qv (by kernel_rfl) (jv lc (by kernel_rfl) (jv lB (by kernel_rfl) bu))))) bt
noncomputable def mM (l : den (Ty.slc af)) : ab := ab.ite (decide (64 < lnx af l)) (ab.ret (K.val (Ty.pair Ty.bool (Ty.pair ag Ty.unit)) (false, 2, PUnit.unit))) (ab.req (List.length l ≤ bX) (ab.loop [] am (lp ao 4) [(4, K.val (Ty.slc af) l)] []))
theorem qf (l : den (Ty.slc af)) : ax bL c8 5000 [] am (aX ao) (Env.of (a6 lQ (l, ()) 0) []) = mM l := by kernel_rfl
noncomputable def fe (v4 : den (Ty.slc af)) : Env := Env.of [(4, K.val (Ty.slc af) v4)] []
noncomputable def qQ (v4 : den (Ty.slc af)) : ab := ab.loop [] am (lp ao 6) [(4, K.val (Ty.slc af) v4), (5, K.ptr 0 ah []), (14, K.val (Ty.slc af) v4), (15, K.val ag (lnx af v4)), (16, K.val ag 0)] [(0, Bx.obj ah (K.agg (Ty.pair (Ty.mp aj Ty.bool) Ty.unit) (K.kcons K.nilmp K.knil)))]
theorem nY (v4 : den (Ty.slc af)) : ax bL c8 5000 [] am (lp ao 4) (fe v4) = qQ v4 := by kernel_rfl
noncomputable def kM (v4 : den (Ty.slc af)) (v14 : den (Ty.slc af)) (v15 : den ag) (v16 : den ag) : Env := Env.of [(4, K.val (Ty.slc af) v4), (5, K.ptr 0 ah []), (14, K.val (Ty.slc af) v14), (15, K.val ag v15), (16, K.val ag v16)] [(0, Bx.obj ah (K.agg (Ty.pair (Ty.mp aj Ty.bool) Ty.unit) (K.kcons K.nilmp K.knil)))]
noncomputable def qi (v4 : den (Ty.slc af)) (v14 : den (Ty.slc af)) (v15 : den ag) (v16 : den ag) : ab := ab.ite (decide (v16 < v15)) (ab.req (inB v16 (lnx af v14)) (ab.req True (ab.ite true (ab.loop [] am (lp ao 6) [(4, K.val (Ty.slc af) v4), (5, K.ptr 0 ah []), (14, K.val (Ty.slc af) v14), (15, K.val ag v15), (16, K.val ag (IntKind.wrap IntKind.i64 (v16 + 1)))] [(0, Bx.obj ah (K.agg (Ty.pair (Ty.mp aj Ty.bool) Ty.unit) (K.kcons (K.pm (0 + 1)) K.knil))), (0 + 1, Bx.mpd aj Ty.bool (fa [] (bD (Prod.fst (el af v14 v16))) true))]) (ab.bad (1000 + 3))))) (ab.req (List.length v4 ≤ bX) (ab.loop [{ fx := aD, todo := bU aB 1 2, dst := some 10, s := ofS [(0, K.sl 0 af), (1, K.clo aE (K.kcons (K.ptr (0 + 1) ah []) K.knil))] }, { fx := am, todo := bU ao 10 3, dst := some 28, s := ofS [(4, K.val (Ty.slc af) v4), (5, K.ptr (0 + 1) ah [])] }] bn (lp bh 2) [(0, K.sl 0 af), (1, K.clo aE (K.kcons (K.ptr (0 + 1) ah []) K.knil)), (7, K.val ag (lnx af v4)), (8, K.val ag 0)] [(0, Bx.row af v4), (0 + 1, Bx.obj ah (K.agg (Ty.pair (Ty.mp aj Ty.bool) Ty.unit) (K.kcons K.nilmp K.knil)))]))
theorem iJ (v4 : den (Ty.slc af)) (v14 : den (Ty.slc af)) (v15 : den ag) (v16 : den ag) : ax bL c8 5000 [] am (lp ao 6) (kM v4 v14 v15 v16) = qi v4 v14 v15 v16 := by kernel_rfl
noncomputable def jo (v4 : den (Ty.slc af)) (v14 : den (Ty.slc af)) (v15 : den ag) (v16 : den ag) (b1 : List (den aj × den Ty.bool)) : Env := Env.of [(4, K.val (Ty.slc af) v4), (5, K.ptr 0 ah []), (14, K.val (Ty.slc af) v14), (15, K.val ag v15), (16, K.val ag v16)] [(0, Bx.obj ah (K.agg (Ty.pair (Ty.mp aj Ty.bool) Ty.unit) (K.kcons (K.pm (0 + 1)) K.knil))), (1, Bx.mpd aj Ty.bool b1)]
noncomputable def oE (v4 : den (Ty.slc af)) (v14 : den (Ty.slc af)) (v15 : den ag) (v16 : den ag) (b1 : List (den aj × den Ty.bool)) : ab := ab.ite (decide (v16 < v15)) (ab.req (inB v16 (lnx af v14)) (ab.req True (ab.ite false (ab.loop [] am (lp ao 6) [(4, K.val (Ty.slc af) v4), (5, K.ptr 0 ah []), (14, K.val (Ty.slc af) v14), (15, K.val ag v15), (16, K.val ag (IntKind.wrap IntKind.i64 (v16 + 1)))] [(0, Bx.obj ah (K.agg (Ty.pair (Ty.mp aj Ty.bool) Ty.unit) (K.kcons (K.pm (0 + 1)) K.knil))), (0 + 1, Bx.mpd aj Ty.bool (fa [] (bD (Prod.fst (el af v14 v16))) true))]) (ab.loop [] am (lp ao 6) [(4, K.val (Ty.slc af) v4), (5, K.ptr 0 ah []), (14, K.val (Ty.slc af) v14), (15, K.val ag v15), (16, K.val ag (IntKind.wrap IntKind.i64 (v16 + 1)))] [(0, Bx.obj ah (K.agg (Ty.pair (Ty.mp aj Ty.bool) Ty.unit) (K.kcons (K.pm (0 + 1)) K.knil))), (0 + 1, Bx.mpd aj Ty.bool (fa b1 (bD (Prod.fst (el af v14 v16))) true))])))) (ab.req (List.length v4 ≤ bX) (ab.loop [{ fx := aD, todo := bU aB 1 2, dst := some 10, s := ofS [(0, K.sl 0 af), (1, K.clo aE (K.kcons (K.ptr (0 + 1) ah []) K.knil))] }, { fx := am, todo := bU ao 10 3, dst := some 28, s := ofS [(4, K.val (Ty.slc af) v4), (5, K.ptr (0 + 1) ah [])] }] bn (lp bh 2) [(0, K.sl 0 af), (1, K.clo aE (K.kcons (K.ptr (0 + 1) ah []) K.knil)), (7, K.val ag (lnx af v4)), (8, K.val ag 0)] [(0, Bx.row af v4), (0 + 1, Bx.obj ah (K.agg (Ty.pair (Ty.mp aj Ty.bool) Ty.unit) (K.kcons (K.pm (0 + 1 + 1)) K.knil))), (0 + 1 + 1, Bx.mpd aj Ty.bool b1)]))
theorem gZ (v4 : den (Ty.slc af)) (v14 : den (Ty.slc af)) (v15 : den ag) (v16 : den ag) (b1 : List (den aj × den Ty.bool)) : ax bL c8 5000 [] am (lp ao 6) (jo v4 v14 v15 v16 b1) = oE v4 v14 v15 v16 b1 := by kernel_rfl
noncomputable def fP (w1_4 : den (Ty.slc af)) (v7 : den ag) (v8 : den ag) (b0 : List (den af)) : List bH := [{ fx := aD, todo := bU aB 1 2, dst := some 10, s := ofS [(0, K.sl 0 af), (1, K.clo aE (K.kcons (K.ptr (0 + 1) ah []) K.knil))] }, { fx := am, todo := bU ao 10 3, dst := some 28, s := ofS [(4, K.val (Ty.slc af) w1_4), (5, K.ptr (0 + 1) ah [])] }]
noncomputable def fK (w1_4 : den (Ty.slc af)) (v7 : den ag) (v8 : den ag) (b0 : List (den af)) : Env := Env.of [(0, K.sl 0 af), (1, K.clo aE (K.kcons (K.ptr (0 + 1) ah []) K.knil)), (7, K.val ag v7), (8, K.val ag v8)] [(0, Bx.row af b0), (1, Bx.obj ah (K.agg (Ty.pair (Ty.mp aj Ty.bool) Ty.unit) (K.kcons K.nilmp K.knil)))]
noncomputable def fC (w1_4 : den (Ty.slc af)) (v7 : den ag) (v8 : den ag) (b0 : List (den af)) : ab := ab.ite (decide (v8 < v7)) (ab.req (inB v8 (lnx af b0)) (ab.req (inB v8 (lnx af b0)) (ab.req True (ab.ite (!gW (k := aj) (v := Ty.bool) [] (bD (Prod.fst (Prod.snd (el af b0 v8))))) (ab.ite (decide (v8 = -1)) (ab.ite (decide (lnx af b0 = lnx af w1_4)) (ab.ret (K.val (Ty.pair Ty.bool (Ty.pair ag Ty.unit)) (decide (lnx af w1_4 = 0), 0, PUnit.unit))) (ab.loop [] am (lp ao 4) [(4, K.val (Ty.slc af) b0)] [])) (ab.loop [{ fx := am, todo := bU ao 10 3, dst := some 28, s := ofS [(4, K.val (Ty.slc af) w1_4), (5, K.ptr (0 + 1) ah [])] }] aD (lp aB 5) [(0, K.sl 0 af), (1, K.clo aE (K.kcons (K.ptr (0 + 1) ah []) K.knil)), (5, K.val ag v8), (6, K.val ag (IntKind.wrap IntKind.i64 (v8 + 1)))] [(0, Bx.row af b0), (0 + 1, Bx.obj ah (K.agg (Ty.pair (Ty.mp aj Ty.bool) Ty.unit) (K.kcons K.nilmp K.knil)))])) (ab.loop [{ fx := aD, todo := bU aB 1 2, dst := some 10, s := ofS [(0, K.sl 0 af), (1, K.clo aE (K.kcons (K.ptr (0 + 1) ah []) K.knil))] }, { fx := am, todo := bU ao 10 3, dst := some 28, s := ofS [(4, K.val (Ty.slc af) w1_4), (5, K.ptr (0 + 1) ah [])] }] bn (lp bh 2) [(0, K.sl 0 af), (1, K.clo aE (K.kcons (K.ptr (0 + 1) ah []) K.knil)), (7, K.val ag v7), (8, K.val ag (IntKind.wrap IntKind.i64 (v8 + 1)))] [(0, Bx.row af b0), (0 + 1, Bx.obj ah (K.agg (Ty.pair (Ty.mp aj Ty.bool) Ty.unit) (K.kcons K.nilmp K.knil)))]))))) (ab.ite (decide (-1 = -1)) (ab.ite (decide (lnx af b0 = lnx af w1_4)) (ab.ret (K.val (Ty.pair Ty.bool (Ty.pair ag Ty.unit)) (decide (lnx af w1_4 = 0), 0, PUnit.unit))) (ab.loop [] am (lp ao 4) [(4, K.val (Ty.slc af) b0)] [])) (ab.loop [{ fx := am, todo := bU ao 10 3, dst := some 28, s := ofS [(4, K.val (Ty.slc af) w1_4), (5, K.ptr (0 + 1) ah [])] }] aD (lp aB 5) [(0, K.sl 0 af), (1, K.clo aE (K.kcons (K.ptr (0 + 1) ah []) K.knil)), (5, K.val ag (-1)), (6, K.val ag (IntKind.wrap IntKind.i64 (-1 + 1)))] [(0, Bx.row af b0), (0 + 1, Bx.obj ah (K.agg (Ty.pair (Ty.mp aj Ty.bool) Ty.unit) (K.kcons K.nilmp K.knil)))]))
theorem eZ (w1_4 : den (Ty.slc af)) (v7 : den ag) (v8 : den ag) (b0 : List (den af)) : ax bL c8 5000 (fP w1_4 v7 v8 b0) bn (lp bh 2) (fK w1_4 v7 v8 b0) = fC w1_4 v7 v8 b0 := by kernel_rfl
noncomputable def cW (w1_4 : den (Ty.slc af)) (v7 : den ag) (v8 : den ag) (b0 : List (den af)) (b2 : List (den aj × den Ty.bool)) : List bH := [{ fx := aD, todo := bU aB 1 2, dst := some 10, s := ofS [(0, K.sl 0 af), (1, K.clo aE (K.kcons (K.ptr (0 + 1) ah []) K.knil))] }, { fx := am, todo := bU ao 10 3, dst := some 28, s := ofS [(4, K.val (Ty.slc af) w1_4), (5, K.ptr (0 + 1) ah [])] }]
noncomputable def cV (w1_4 : den (Ty.slc af)) (v7 : den ag) (v8 : den ag) (b0 : List (den af)) (b2 : List (den aj × den Ty.bool)) : Env := Env.of [(0, K.sl 0 af), (1, K.clo aE (K.kcons (K.ptr (0 + 1) ah []) K.knil)), (7, K.val ag v7), (8, K.val ag v8)] [(0, Bx.row af b0), (1, Bx.obj ah (K.agg (Ty.pair (Ty.mp aj Ty.bool) Ty.unit) (K.kcons (K.pm (0 + 1 + 1)) K.knil))), (2, Bx.mpd aj Ty.bool b2)]
noncomputable def ff (w1_4 : den (Ty.slc af)) (v7 : den ag) (v8 : den ag) (b0 : List (den af)) (b2 : List (den aj × den Ty.bool)) : ab := ab.ite (decide (v8 < v7)) (ab.req (inB v8 (lnx af b0)) (ab.req (inB v8 (lnx af b0)) (ab.req True (ab.ite (!gW b2 (bD (Prod.fst (Prod.snd (el af b0 v8))))) (ab.ite (decide (v8 = -1)) (ab.ite (decide (lnx af b0 = lnx af w1_4)) (ab.ret (K.val (Ty.pair Ty.bool (Ty.pair ag Ty.unit)) (decide (lnx af w1_4 = 0), 0, PUnit.unit))) (ab.loop [] am (lp ao 4) [(4, K.val (Ty.slc af) b0)] [])) (ab.loop [{ fx := am, todo := bU ao 10 3, dst := some 28, s := ofS [(4, K.val (Ty.slc af) w1_4), (5, K.ptr (0 + 1) ah [])] }] aD (lp aB 5) [(0, K.sl 0 af), (1, K.clo aE (K.kcons (K.ptr (0 + 1) ah []) K.knil)), (5, K.val ag v8), (6, K.val ag (IntKind.wrap IntKind.i64 (v8 + 1)))] [(0, Bx.row af b0), (0 + 1, Bx.obj ah (K.agg (Ty.pair (Ty.mp aj Ty.bool) Ty.unit) (K.kcons (K.pm (0 + 1 + 1)) K.knil))), (0 + 1 + 1, Bx.mpd aj Ty.bool b2)])) (ab.loop [{ fx := aD, todo := bU aB 1 2, dst := some 10, s := ofS [(0, K.sl 0 af), (1, K.clo aE (K.kcons (K.ptr (0 + 1) ah []) K.knil))] }, { fx := am, todo := bU ao 10 3, dst := some 28, s := ofS [(4, K.val (Ty.slc af) w1_4), (5, K.ptr (0 + 1) ah [])] }] bn (lp bh 2) [(0, K.sl 0 af), (1, K.clo aE (K.kcons (K.ptr (0 + 1) ah []) K.knil)), (7, K.val ag v7), (8, K.val ag (IntKind.wrap IntKind.i64 (v8 + 1)))] [(0, Bx.row af b0), (0 + 1, Bx.obj ah (K.agg (Ty.pair (Ty.mp aj Ty.bool) Ty.unit) (K.kcons (K.pm (0 + 1 + 1)) K.knil))), (0 + 1 + 1, Bx.mpd aj Ty.bool b2)]))))) (ab.ite (decide (-1 = -1)) (ab.ite (decide (lnx af b0 = lnx af w1_4)) (ab.ret (K.val (Ty.pair Ty.bool (Ty.pair ag Ty.unit)) (decide (lnx af w1_4 = 0), 0, PUnit.unit))) (ab.loop [] am (lp ao 4) [(4, K.val (Ty.slc af) b0)] [])) (ab.loop [{ fx := am, todo := bU ao 10 3, dst := some 28, s := ofS [(4, K.val (Ty.slc af) w1_4), (5, K.ptr (0 + 1) ah [])] }] aD (lp aB 5) [(0, K.sl 0 af), (1, K.clo aE (K.kcons (K.ptr (0 + 1) ah []) K.knil)), (5, K.val ag (-1)), (6, K.val ag (IntKind.wrap IntKind.i64 (-1 + 1)))] [(0, Bx.row af b0), (0 + 1, Bx.obj ah (K.agg (Ty.pair (Ty.mp aj Ty.bool) Ty.unit) (K.kcons (K.pm (0 + 1 + 1)) K.knil))), (0 + 1 + 1, Bx.mpd aj Ty.bool b2)]))
theorem cD (w1_4 : den (Ty.slc af)) (v7 : den ag) (v8 : den ag) (b0 : List (den af)) (b2 : List (den aj × den Ty.bool)) : ax bL c8 5000 (cW w1_4 v7 v8 b0 b2) bn (lp bh 2) (cV w1_4 v7 v8 b0 b2) = ff w1_4 v7 v8 b0 b2 := by kernel_rfl
noncomputable def cU (w0_4 : den (Ty.slc af)) (v5 : den ag) (v6 : den ag) (b0 : List (den af)) (b2 : List (den aj × den Ty.bool)) : List bH := [{ fx := am, todo := bU ao 10 3, dst := some 28, s := ofS [(4, K.val (Ty.slc af) w0_4), (5, K.ptr (0 + 1) ah [])] }]
noncomputable def cS (w0_4 : den (Ty.slc af)) (v5 : den ag) (v6 : den ag) (b0 : List (den af)) (b2 : List (den aj × den Ty.bool)) : Env := Env.of [(0, K.sl 0 af), (1, K.clo aE (K.kcons (K.ptr (0 + 1) ah []) K.knil)), (5, K.val ag v5), (6, K.val ag v6)] [(0, Bx.row af b0), (1, Bx.obj ah (K.agg (Ty.pair (Ty.mp aj Ty.bool) Ty.unit) (K.kcons (K.pm (0 + 1 + 1)) K.knil))), (2, Bx.mpd aj Ty.bool b2)]
noncomputable def e9 (w0_4 : den (Ty.slc af)) (v5 : den ag) (v6 : den ag) (b0 : List (den af)) (b2 : List (den aj × den Ty.bool)) : ab := ab.ite (decide (v6 < lnx af b0)) (ab.req (inB v6 (lnx af b0)) (ab.req (inB v6 (lnx af b0)) (ab.req True (ab.ite (!!gW b2 (bD (Prod.fst (Prod.snd (el af b0 v6))))) (ab.req (inB v5 (lnx af b0)) (ab.req (inB v5 (lnx af b0)) (ab.loop [{ fx := am, todo := bU ao 10 3, dst := some 28, s := ofS [(4, K.val (Ty.slc af) w0_4), (5, K.ptr (0 + 1) ah [])] }] aD (lp aB 5) [(0, K.sl 0 af), (1, K.clo aE (K.kcons (K.ptr (0 + 1) ah []) K.knil)), (5, K.val ag (IntKind.wrap IntKind.i64 (v5 + 1))), (6, K.val ag (IntKind.wrap IntKind.i64 (v6 + 1)))] [(0, Bx.row af (bF af b0 v5 (el af b0 v6))), (0 + 1, Bx.obj ah (K.agg (Ty.pair (Ty.mp aj Ty.bool) Ty.unit) (K.kcons (K.pm (0 + 1 + 1)) K.knil))), (0 + 1 + 1, Bx.mpd aj Ty.bool b2)]))) (ab.loop [{ fx := am, todo := bU ao 10 3, dst := some 28, s := ofS [(4, K.val (Ty.slc af) w0_4), (5, K.ptr (0 + 1) ah [])] }] aD (lp aB 5) [(0, K.sl 0 af), (1, K.clo aE (K.kcons (K.ptr (0 + 1) ah []) K.knil)), (5, K.val ag v5), (6, K.val ag (IntKind.wrap IntKind.i64 (v6 + 1)))] [(0, Bx.row af b0), (0 + 1, Bx.obj ah (K.agg (Ty.pair (Ty.mp aj Ty.bool) Ty.unit) (K.kcons (K.pm (0 + 1 + 1)) K.knil))), (0 + 1 + 1, Bx.mpd aj Ty.bool b2)]))))) (ab.req (vok 0 (List.length b0) (List.length b0)) (ab.req (bo v5 (↑(List.length b0) : Int) (↑(List.length b0 - 0) : Int)) (ab.req (vok (0 + Int.toNat v5) (Int.toNat (↑(List.length b0) : Int) - Int.toNat v5) (List.length b0)) (ab.req (bo 0 v5 (lnx af (over b0 (0 + Int.toNat v5) (List.replicate (Int.toNat (↑(List.length b0) : Int) - Int.toNat v5) (zero af))))) (ab.ite (decide (lnx af (List.take (Int.toNat v5) (over b0 (0 + Int.toNat v5) (List.replicate (Int.toNat (↑(List.length b0) : Int) - Int.toNat v5) (zero af)))) = lnx af w0_4)) (ab.ret (K.val (Ty.pair Ty.bool (Ty.pair ag Ty.unit)) (decide (lnx af w0_4 = 0), 0, PUnit.unit))) (ab.loop [] am (lp ao 4) [(4, K.val (Ty.slc af) (List.take (Int.toNat v5) (over b0 (0 + Int.toNat v5) (List.replicate (Int.toNat (↑(List.length b0) : Int) - Int.toNat v5) (zero af)))))] []))))))
theorem cx (w0_4 : den (Ty.slc af)) (v5 : den ag) (v6 : den ag) (b0 : List (den af)) (b2 : List (den aj × den Ty.bool)) : ax bL c8 5000 (cU w0_4 v5 v6 b0 b2) aD (lp aB 5) (cS w0_4 v5 v6 b0 b2) = e9 w0_4 v5 v6 b0 b2 := by kernel_rfl
end Go.Proofs.YtnakjijahkaoaaaDoor
namespace Go.Proofs.YtnakjijahkaoaaaDoor
open Go Go.RowKit
abbrev vb := List (den aj × den Ty.bool)
def EV (m : vb) (k : List Int) : Bool := gW (k := aj) (v := Ty.bool) m k
def EY (m : vb) (k : List Int) : vb := fa (k := aj) (v := Ty.bool) m k true
theorem eqK (a b : List Int) : eqb aj a b = decide (a = b) := by
 have := fT (t := aj) rfl a b
 cases h : eqb aj a b
 ·exact (decide_eq_false fun e => by rw [this.2 e] at h; cases h).symm
 ·exact (decide_eq_true (this.1 h)).symm
def dx (l : List Lk) : vb := l.foldl (fun m x => EY m (bD x.1)) []
def gn (m : vb) (x : Lk) : Bool := EV m (bD x.2.1)
def sA : Nat → List Lk → Bool
 | 0, _ => false
 | n + 1, l => if (l.filter (gn (dx l))).length = l.length then decide (l.length = 0) else sA n (l.filter (gn (dx l)))
def dp (l : List Lk) : Bool × Int := if 64 < l.length then (false, 2) else (sA (l.length + 1) l, 0)
noncomputable abbrev eR : bW := ⟨lQ, dT, fun x => ((dp x.1).1, (dp x.1).2, ()), fun x => x.1.length ≤ 1000000, false⟩
theorem cX : XOk prog bL := ui o6 oB
abbrev GA (O : Nat → Prop) (w0 : World) (y : Bool) := br prog bL (Cx.base O w0) (dQ prog O w0 dT fun z => z = (y, 0, ()))
theorem Bq (O : Nat → Prop) (w0 : World) (l : List Lk) (y : Bool) (r : List Lk) (hr : r = l.filter (gn (dx l)))
    (hsame : r.length = l.length → y = decide (l.length = 0)) (hnext : r.length ≠ l.length → GA O w0 y [] am (lp ao 4) (fe r)) {b : List Lk} (hb : b = r) :
    aK prog bL (Cx.base O w0) (dQ prog O w0 dT fun z => z = (y, 0, ())) (fun k => ∃ x, ba dT k = some x ∧ x = (y, 0, ()))
      (ab.ite (decide (lnx af b = lnx af l)) (ab.ret (K.val (Ty.pair Ty.bool (Ty.pair ag Ty.unit)) (decide (lnx af l = 0), 0, PUnit.unit)))
        (ab.loop [] am (lp ao 4) [(4, K.val (Ty.slc af) b)] [])) := by
  subst hb
  refine ⟨fun h => ⟨_, rfl, ?_⟩, fun h => ?_⟩
  · have h : ((b.length : Nat) : Int) = ((l.length : Nat) : Int) := of_decide_eq_true h
    rw [hsame (by omega)]
    have e : decide (lnx af l = 0) = decide (l.length = 0) := by
      rw [decide_eq_decide]
      show ((l.length : Nat) : Int) = 0 ↔ _
      omega
    rw [e]
  · have h : ¬ ((b.length : Nat) : Int) = ((l.length : Nat) : Int) := of_decide_eq_false h
    exact hnext (by omega)
end Go.Proofs.YtnakjijahkaoaaaDoor
namespace Go.Proofs.YtnakjijahkaoaaaDoor
open Go Go.RowKit
structure Nx (O : Nat → Prop) (w0 : World) (l : List Lk) (y : Bool) : Prop where
 len : l.length ≤ 1000000
 same : (l.filter (gn (dx l))).length = l.length → y = decide (l.length = 0)
 next : (l.filter (gn (dx l))).length ≠ l.length → GA O w0 y [] am (lp ao 4) (fe (l.filter (gn (dx l))))
def EE (O : Nat → Prop) (w0 : World) (l : List Lk) (y : Bool) (h : Nx O w0 l y) :=
 PLift.up <| bO (σ := Nat × List Lk) l.length (fun j s => s.1 < j ∧ s.2.length = l.length ∧ s.2.take s.1 = (l.take j).filter (gn (dx l)) ∧ s.2.drop j = l.drop j)
  (fun j s => GA O w0 y (cU l (s.1 : Nat) (j : Nat) s.2 (dx l)) aD (lp aB 5) (cS l (s.1 : Nat) (j : Nat) s.2 (dx l)))
  (fun j s hj hs ih => aF cX (cx l _ _ s.2 _) (by
   obtain ⟨h1, h2, h3, h4⟩ := hs
   have hl := h.len
   have hjb : j < s.2.length := by omega
   have ej : s.2[j] = l[j] := by
    have e1 : (s.2.drop j)[0]? = (l.drop j)[0]? := by rw [h4]
    rw [List.getElem?_drop, List.getElem?_drop, Nat.add_zero, List.getElem?_eq_getElem hjb, List.getElem?_eq_getElem hj] at e1
    exact Option.some.inj e1
   have ed : s.2.drop (j + 1) = l.drop (j + 1) := by
    have e1 := congrArg (List.drop 1) h4
    rwa [List.drop_drop, List.drop_drop] at e1
   have el1 : el af s.2 (j : Nat) = l[j] := by rw [rh hjb, ej]
   refine ⟨fun _ => ⟨eD hjb, eD hjb, trivial, fun hc => ⟨eD (by omega), eD (by omega), ?_⟩, fun hc => ?_⟩, fun hc => ?_⟩
   ·rw [el1] at hc ⊢
    have hc : (!!gn (dx l) l[j]) = true := hc
    rw [Bool.not_not] at hc
    rw [cJ (n := s.1) (m := s.2.length) (by omega) (by omega), cJ hjb (by omega)]
    refine ih (s.1 + 1, bF af s.2 (s.1 : Nat) l[j]) ⟨by show s.1 + 1 < j + 1; omega, ?_, ?_, ?_⟩
    ·show (List.set s.2 _ _).length = _
     rw [List.length_set]; exact h2
    ·show List.take (s.1 + 1) (List.set s.2 (Int.toNat (s.1 : Nat)) l[j]) = _
     rw [Int.toNat_natCast, List.take_succ_eq_append_getElem (by rw [List.length_set]; omega), List.getElem_set_self, List.take_set_of_le (Nat.le_refl _), h3, List.take_succ_eq_append_getElem hj, List.filter_append, List.filter_cons, if_pos hc]
     rfl
    ·show List.drop (j + 1) (List.set s.2 (Int.toNat (s.1 : Nat)) l[j]) = _
     rw [Int.toNat_natCast, List.drop_set_of_lt (by omega)]
     exact ed
   ·rw [el1] at hc
    have hc : (!!gn (dx l) l[j]) = false := hc
    rw [Bool.not_not] at hc
    rw [cJ hjb (by omega)]
    refine ih (s.1, s.2) ⟨by show s.1 < j + 1; omega, h2, ?_, ed⟩
    show List.take s.1 s.2 = _
    rw [h3, List.take_succ_eq_append_getElem hj, List.filter_append, List.filter_cons, if_neg (by rw [hc]; simp), List.filter_nil, List.append_nil]
   ·rw [nB] at hc
    exact absurd hjb (of_decide_eq_false hc)))
  (fun s hs => aF cX (cx l _ _ s.2 _) (by
   obtain ⟨h1, h2, h3, h4⟩ := hs
   have hi : s.1 < s.2.length := by omega
   rw [List.take_length] at h3
   have e0 : Int.toNat ((s.1 : Nat) : Int) = s.1 := Int.toNat_natCast _
   have e1 : Int.toNat ((s.2.length : Nat) : Int) = s.2.length := Int.toNat_natCast _
   have eov : ∀ ys : List Lk, List.take (Int.toNat ((s.1 : Nat) : Int)) (over s.2 (0 + Int.toNat ((s.1 : Nat) : Int)) ys) = l.filter (gn (dx l)) := fun ys => by
    unfold over
    rw [e0, Nat.zero_add, List.append_assoc, List.take_append_of_le_length (by rw [List.length_take]; omega), List.take_take, Nat.min_self, h3]
   have hov : ∀ ys : List Lk, s.1 ≤ (over s.2 (0 + Int.toNat ((s.1 : Nat) : Int)) ys).length := fun ys => by
    unfold over
    rw [e0, Nat.zero_add, List.length_append, List.length_append, List.length_take]
    omega
   refine ⟨fun hc => ?_, fun _ => ⟨Eg _, ⟨Int.natCast_nonneg _, by show ((s.1 : Nat) : Int) ≤ _; omega, by show ((s.2.length : Nat) : Int) ≤ ((s.2.length - 0 : Nat) : Int); omega⟩, ?_, ⟨by decide, Int.natCast_nonneg _, Int.ofNat_le.2 (hov _)⟩, Bq O w0 l y _ rfl h.same h.next (eov _)⟩⟩
   ·rw [nB] at hc
    have := of_decide_eq_true hc
    omega
   ·unfold vok
    rw [e0, e1]
    omega))
def Ey (O : Nat → Prop) (w0 : World) (l : List Lk) (y : Bool) (h : Nx O w0 l y) :=
 PLift.up <| bO (σ := Unit) l.length (fun i _ => (l.take i).filter (gn (dx l)) = l.take i)
  (fun i _ => GA O w0 y (cW l (lnx af l) (i : Nat) l (dx l)) bn (lp bh 2) (cV l (lnx af l) (i : Nat) l (dx l)))
  (fun i _ hi hb ih => aF cX (cD l _ _ l _) (by
   have hl := h.len
   have e : el af l (i : Nat) = l[i] := rh hi
   refine ⟨fun _ => ⟨eD hi, eD hi, trivial, fun hc => ⟨fun h1 => ?_, fun _ => ?_⟩, fun hc => ?_⟩, fun hc => ?_⟩
   ·have h1 : ((i : Nat) : Int) = -1 := of_decide_eq_true h1
    omega
   ·rw [e] at hc
    have hc : (!gn (dx l) l[i]) = true := hc
    rw [cJ hi (by omega)]
    refine (EE O w0 l y h).down (i + 1) (i, l) hi ⟨Nat.lt_succ_self i, rfl, ?_, rfl⟩
    show l.take i = _
    rw [List.take_succ_eq_append_getElem hi, List.filter_append, hb, List.filter_cons, if_neg (by simpa using hc), List.filter_nil, List.append_nil]
   ·rw [e] at hc
    have hc : (!gn (dx l) l[i]) = false := hc
    rw [cJ hi (by omega)]
    refine ih () ?_
    rw [List.take_succ_eq_append_getElem hi, List.filter_append, hb, List.filter_cons, if_pos (by simpa using hc)]
    rfl
   ·rw [show decide ((i : Nat) < lnx af l) = decide (i < l.length) from nB l] at hc
    exact absurd hi (of_decide_eq_false hc)))
  (fun _ hb => aF cX (cD l _ _ l _) (by
   rw [List.take_length] at hb
   refine ⟨fun hc => ?_, fun _ => ⟨fun _ => Bq O w0 l y _ rfl h.same h.next hb.symm, fun hc => by cases hc⟩⟩
   exact absurd (Int.ofNat_lt.1 (of_decide_eq_true hc)) (Nat.lt_irrefl _)))
def Es (O : Nat → Prop) (w0 : World) (l : List Lk) (y : Bool) (h : Nx O w0 l y) :=
 PLift.up <| bO (σ := vb) l.length (fun i m => m = dx (l.take i))
  (fun i m => GA O w0 y [] am (lp ao 6) (jo l l (lnx af l) (i : Nat) m))
  (fun i m hi hm ih => aF cX (gZ l l _ _ m) (by
   have hl := h.len
   have e : el af l (i : Nat) = l[i] := rh hi
   refine ⟨fun _ => ⟨eD hi, trivial, (fun hc => by cases hc), fun _ => ?_⟩, fun hc => ?_⟩
   ·rw [e, cJ hi (by omega)]
    refine ih _ ?_
    rw [hm]
    unfold dx
    rw [List.take_succ_eq_append_getElem hi, List.foldl_append]
    rfl
   ·rw [nB] at hc
    exact absurd hi (of_decide_eq_false hc)))
  (fun m hm => aF cX (gZ l l _ _ m) (by
   rw [List.take_length] at hm
   subst hm
   refine ⟨fun hc => ?_, fun _ => ⟨Nat.le_trans h.len (by decide), (Ey O w0 l y h).down 0 () (Nat.zero_le _) rfl⟩⟩
   rw [nB] at hc
   exact absurd (of_decide_eq_true hc) (Nat.lt_irrefl _)))
theorem B0 (O : Nat → Prop) (w0 : World) : ∀ (n : Nat) (l : List Lk), l.length < n → l.length ≤ 1000000 → GA O w0 (sA n l) [] am (lp ao 4) (fe l)
 | 0, l, h, _ => absurd h (Nat.not_lt_zero _)
 | n + 1, l, h, hl => by
  have hN : Nx O w0 l (sA (n + 1) l) := ⟨hl, fun e => by
   rw [sA, if_pos e], fun e => by
   rw [sA, if_neg e]
   have h1 := List.length_filter_le (gn (dx l)) l
   exact B0 O w0 n _ (by omega) (by omega)⟩
  refine aF cX (nY l) ?_
  show GA O w0 _ [] am (lp ao 6) (kM l l (lnx af l) 0)
  cases l with
  | nil =>
   refine aF cX (iJ [] [] _ _) ⟨(fun hc => by cases hc), fun _ => ⟨Nat.zero_le _, ?_⟩⟩
   exact aF cX (eZ [] _ _ []) ⟨(fun hc => by cases hc), fun _ => ⟨fun _ => ⟨fun _ => ⟨_, rfl, rfl⟩, (fun hc => by cases hc)⟩, (fun hc => by cases hc)⟩⟩
  | cons x r =>
   have hi : 0 < (x :: r).length := Nat.succ_pos _
   have e : el af (x :: r) ((0 : Nat) : Int) = x := rfl
   refine aF cX (iJ (x :: r) (x :: r) _ _) ⟨fun _ => ⟨eD hi, trivial, fun _ => ?_, (fun hc => by cases hc)⟩, fun hc => ?_⟩
   ·have hw : IntKind.wrap .i64 ((0 : Int) + 1) = ((1 : Nat) : Int) := by decide
    rw [hw]
    exact (Es O w0 (x :: r) _ hN).down 1 _ hi rfl
   ·have hc : ¬ ((0 : Int) < (((x :: r).length : Nat) : Int)) := of_decide_eq_false hc
    omega
theorem tD : aL prog [] gq eR :=
 cE (S := eR) cX (fx := am) sE (by kernel_rfl) (fun h => by cases h) (T := fun x => mM x.1) (fun x => qf x.1) fun O w0 x _ hp => by
  obtain ⟨l, ⟨⟩⟩ := x
  have hp : l.length ≤ 1000000 := hp
  refine ⟨fun h => ⟨_, rfl, ?_⟩, fun h => ⟨Nat.le_trans hp (by decide), ?_⟩⟩
  ·have h : (64 : Int) < ((l.length : Nat) : Int) := of_decide_eq_true h
   show (false, (2 : Int), ()) = ((dp l).1, (dp l).2, ())
   unfold dp
   rw [if_pos (by omega)]
  ·have h : ¬ (64 : Int) < ((l.length : Nat) : Int) := of_decide_eq_false h
   have e : eR.g (l, ()) = (sA (l.length + 1) l, 0, ()) := by
    show ((dp l).1, (dp l).2, ()) = _
    unfold dp
    rw [if_neg (by omega)]
   rw [e]
   exact B0 O w0 (l.length + 1) l (Nat.lt_succ_self _) hp
end Go.Proofs.YtnakjijahkaoaaaDoor
