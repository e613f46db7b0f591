/- Part 7 of 9 of what this claim's proof stands on: a theory of programs on data, and the contracts of the functions that the law reaches. It holds no condition of its own. -/
import Derived.Test.YtnakjijahkaoaaaDoorCE6
import Derived.Test.YtnakjijahkaoaaaDoorProg
import Derived.Test.YtnakjijahkaoaaaDoorRows
import Derived.Shelf.Strings.Builder1
import Derived.Shelf.Strings.Builder2
import Derived.Shelf.Strings.OnBuilder
import Derived.Shelf.Strings.BuilderF
import Derived.Shelf.Strings.BuilderK
import Derived.Shelf.Strings.Builder2Cap
import Derived.Shelf.Strings.Prefix
import Derived.Shelf.Bits.Mul64
import Derived.Shelf.Strings.Repeat
import Derived.Shelf.Strings.BuilderCap
import Derived.LaidMore
import Derived.Lay
namespace Go.Proofs.YtnakjijahkaoaaaDoor
open Go
noncomputable section
noncomputable abbrev prog : Program := Tryd.prog
abbrev tId : Ty := (.arr 32 (.int .u8))
abbrev bc : Ty := (.arr 16 (.int .u8))
abbrev ae : Ty := (.arr 8 (.int .u32))
abbrev nl : Ty := (.st (.pair (.mp bc .bool) .unit))
abbrev dI : Ty := (.st (.pair tId (.pair tId .unit)))
abbrev al : Ty := (.st (.pair (.int .i64) (.pair tId (.pair (.int .i64) .unit))))
abbrev cn : Ty := (.st (.pair .bool (.pair .bool (.pair .bool (.pair .bool (.pair .bool (.pair .bool .unit)))))))
abbrev mO : Ty := (.st (.pair tId (.pair al (.pair (.int .i64) .unit))))
abbrev aK : Ty := (.st (.pair (.int .i64) (.pair tId (.pair al (.pair (.slc al) (.pair (.int .i64) (.pair .str (.pair .str .unit))))))))
abbrev gE : Ty := (.st (.pair (.int .i64) (.pair aK .unit)))
def bN : List (Nat × Ty) := [
 (1, (.fn .unit .unit)),
 (2, (.int .i64)),
 (3, (.int .i64)),
 (4, .bool),
 (5, (.int .u8)),
 (9, .str),
 (12, (.int .u64)),
 (21, (.int .i32)),
 (22, tId),
 (23, tId),
 (24, (.int .i64)),
 (26, (.fn (.pair .str (.pair tId (.pair (.int .i64) .unit))) (.pair .str (.pair (.int .i64) .unit)))),
 (27, (.fn (.pair tId .unit) (.pair tId .unit))),
 (28, (.fn (.pair .str (.pair tId .unit)) (.pair tId .unit))),
 (29, (.fn (.pair tId (.pair tId .unit)) (.pair .bool .unit))),
 (30, (.fn .unit (.pair .bool .unit))),
 (31, (.fn (.pair .str (.pair tId (.pair (.int .i64) .unit))) (.pair .str .unit))),
 (32, (.fn (.pair tId (.pair tId (.pair .str (.pair (.int .i64) .unit)))) (.pair .bool .unit))),
 (33, (.slc dI)),
 (35, (.fn (.pair (.slc dI) .unit) (.pair .bool (.pair (.int .i64) .unit)))),
 (36, (.fn (.pair (.slc dI) .unit) (.pair .bool .unit))),
 (37, dI),
 (38, dI),
 (39, (.fn (.pair tId (.pair tId (.pair tId (.pair (.slc dI) .unit)))) (.pair .bool .unit))),
 (40, (.fn (.pair (.slc dI) (.pair (.int .i64) .unit)) (.pair .bool .unit))),
 (41, al),
 (42, al),
 (43, (.slc al)),
 (44, aK),
 (45, aK),
 (46, (.fn (.pair aK .unit) (.pair aK .unit))),
 (48, (.fn (.pair .str (.pair aK .unit)) (.pair (.int .i64) (.pair aK (.pair (.int .i64) .unit))))),
 (49, (.fn (.pair .str (.pair aK (.pair aK .unit))) (.pair .bool .unit))),
 (50, (.fn (.pair .str (.pair .str (.pair tId (.pair tId (.pair (.int .i64) .unit))))) (.pair .bool .unit))),
 (51, mO),
 (52, mO),
 (54, (.fn (.pair aK (.pair (.int .i64) .unit)) (.pair mO (.pair (.int .i64) .unit)))),
 (55, (.fn (.pair aK .unit) (.pair .bool .unit))),
 (56, (.fn (.pair aK (.pair (.int .i64) .unit)) (.pair mO .unit))),
 (57, (.fn (.pair aK (.pair aK .unit)) (.pair .bool .unit))),
 (58, gE),
 (59, gE),
 (60, (.fn (.pair .str (.pair aK .unit)) (.pair gE .unit))),
 (61, (.fn (.pair .str (.pair aK (.pair (.int .i64) .unit))) (.pair .bool .unit))),
 (62, (.fn (.pair .str (.pair .str (.pair tId (.pair (.int .i64) (.pair (.int .i64) (.pair (.int .i64) .unit)))))) (.pair .bool .unit))),
 (63, (.fn (.pair (.slc .str) .unit) (.pair tId .unit))),
 (64, (.slc (.int .u8))),
 (65, (.fn (.pair .str .unit) (.pair tId .unit))),
 (66, (.fn (.pair tId .unit) (.pair .str .unit))),
 (67, bc),
 (68, bc),
 (69, (.fn (.pair tId .unit) (.pair bc .unit))),
 (70, (.fn (.pair (.slc dI) .unit) (.pair (.slc dI) .unit))),
 (71, (.mp bc .bool)),
 (72, nl),
 (73, nl),
 (74, (.fn (.pair bc .unit) .unit)),
 (75, (.fn (.pair (.slc dI) (.pair (.fn (.pair dI .unit) (.pair .bool .unit)) .unit)) (.pair (.slc dI) .unit))),
 (76, (.fn (.pair bc .unit) (.pair .bool .unit))),
 (77, (.fn (.pair dI .unit) (.pair .bool .unit))),
 (78, (.fn (.pair (.slc .str) (.pair .str .unit)) (.pair .bool .unit))),
 (79, (.slc .str)),
 (80, (.fn (.pair (.slc dI) (.pair .str .unit)) (.pair (.slc .str) .unit))),
 (81, (.fn (.pair aK (.pair .str .unit)) (.pair (.int .i64) .unit))),
 (83, (.mp (.int .i64) (.fn (.pair aK (.pair .str .unit)) (.pair (.int .i64) .unit)))),
 (84, (.fn .unit (.pair (.mp (.int .i64) (.fn (.pair aK (.pair .str .unit)) (.pair (.int .i64) .unit))) .unit))),
 (85, (.fn (.pair (.slc al) (.pair (.slc al) .unit)) (.pair .bool .unit))),
 (86, (.int .u32)),
 (87, ae),
 (88, ae),
 (89, (.fn .unit (.pair ae .unit))),
 (90, (.fn (.pair (.fn (.pair .str .unit) (.pair .bool .unit)) .unit) .unit)),
 (91, (.fn (.pair (.fn (.pair .str .unit) (.pair .bool .unit)) .unit) .unit)),
 (92, (.fn (.pair .str .unit) (.pair (.fn (.pair (.fn (.pair .str .unit) (.pair .bool .unit)) .unit) .unit) .unit))),
 (93, (.fn (.pair (.slc .str) (.pair .str .unit)) (.pair .str .unit))),
 (94, (.fn (.pair .str .unit) (.pair ae .unit))),
 (95, (.slc (.int .u32))),
 (96, (.fn .unit (.pair (.slc (.int .u32)) .unit))),
 (97, (.fn (.pair .str .unit) (.pair .str .unit))),
 (98, (.fn (.pair (.slc (.int .u32)) (.pair .str .unit)) (.pair (.slc (.int .u32)) .unit))),
 (100, (.fn (.pair (.slc dI) (.pair (.fn (.pair dI .unit) (.pair .bool .unit)) .unit)) (.pair (.int .i64) .unit))),
 (101, (.fn (.pair (.int .i64) .unit) (.pair (.fn (.pair aK (.pair .str .unit)) (.pair (.int .i64) .unit)) .unit))),
 (102, cn),
 (103, cn),
 (105, (.mp (.int .i64) cn)),
 (106, (.fn .unit (.pair (.mp (.int .i64) cn) .unit))),
 (107, (.fn (.pair al .unit) (.pair .bool .unit))),
 (108, (.fn (.pair (.slc al) .unit) (.pair .bool .unit))),
 (109, (.fn (.pair (.int .i64) (.pair (.int .u8) .unit)) (.pair .bool .unit))),
 (110, (.int .u64)),
 (111, (.int .u64)),
 (112, (.fn (.pair .str (.pair (.int .i64) .unit)) (.pair .str .unit))),
 (113, (.fn (.pair .str .unit) (.pair .bool .unit))),
 (117, (.fn (.pair (.int .i64) .unit) .unit)),
 (122, (.fn .unit (.pair .str .unit))),
 (123, (.arr 64 (.int .u32))),
 (124, (.fn (.pair .str .unit) (.pair (.int .u32) .unit))),
 (125, (.fn (.pair (.int .u32) (.pair (.int .i64) (.pair (.int .i64) (.pair (.int .u32) .unit)))) (.pair (.int .u32) .unit))),
 (126, (.fn (.pair (.int .u32) (.pair (.int .i64) .unit)) (.pair (.int .u32) .unit))),
 (127, (.fn (.pair (.slc (.int .u32)) (.pair (.int .u32) (.pair (.int .u32) .unit))) (.pair (.slc (.int .u32)) .unit))),
 (129, (.fn (.pair (.int .u64) (.pair (.int .u64) .unit)) (.pair (.int .u64) (.pair (.int .u64) .unit)))),
 (130, (.fn (.pair .str (.pair .str .unit)) (.pair .bool .unit))),
 (131, (.fn .unit (.pair (.int .i64) .unit))),
 (133, (.fn (.pair (.slc al) (.pair (.fn (.pair al .unit) (.pair .bool .unit)) .unit)) (.pair .bool .unit))),
 (135, (.fn (.pair (.int .u32) (.pair (.int .u32) .unit)) (.pair (.int .u32) (.pair (.int .u32) .unit)))),
 (137, (.fn (.pair (.int .u64) (.pair (.int .u64) .unit)) (.pair (.int .u64) (.pair (.int .u64) .unit)))),
 (140, (.fn (.pair (.int .i64) .unit) (.pair (.slc (.int .u8)) .unit))),
 (141, (.fn (.pair (.slc al) (.pair (.fn (.pair al .unit) (.pair .bool .unit)) .unit)) (.pair (.int .i64) .unit)))]
theorem bu : qm prog bN = true := by kernel_rfl
theorem a8 : prog.follows .mixedOrders = true := by kernel_rfl
abbrev kh : Nat := 8
noncomputable abbrev gG : Func := Tryd.f8
abbrev cL : Ty := (.pair .str (.pair .str (.pair tId (.pair tId (.pair (.int .i64) .unit)))))
abbrev pB : Ty := (.pair .bool .unit)
theorem pz : Tryd.prog.funcs[kh]? = some gG := Tryd.func8
abbrev gr : Nat := 11
noncomputable abbrev jc : Func := Tryd.f11
abbrev l7 : Ty := (.pair .str (.pair tId (.pair (.int .i64) .unit)))
abbrev lY : Ty := (.pair .str (.pair (.int .i64) .unit))
theorem sE : Tryd.prog.funcs[gr]? = some jc := Tryd.func11
abbrev d9 : Nat := 12
noncomputable abbrev kQ : Func := Tryd.f12
abbrev m9 : Ty := (.pair tId .unit)
abbrev ne : Ty := (.pair tId .unit)
theorem tV : Tryd.prog.funcs[d9]? = some kQ := Tryd.func12
abbrev gy : Nat := 14
noncomputable abbrev jl : Func := Tryd.f14
abbrev mh : Ty := (.pair tId .unit)
abbrev lX : Ty := (.pair tId .unit)
theorem sv : Tryd.prog.funcs[gy]? = some jl := Tryd.func14
abbrev dF : Nat := 15
noncomputable abbrev jf : Func := Tryd.f15
abbrev ml : Ty := (.pair tId (.pair tId .unit))
abbrev ma : Ty := (.pair .bool .unit)
theorem s5 : Tryd.prog.funcs[dF]? = some jf := Tryd.func15
abbrev dG : Nat := 22
noncomputable abbrev ji : Func := Tryd.f22
abbrev l9 : Ty := (.pair .str (.pair aK .unit))
abbrev iB : Ty := (.pair (.int .i64) (.pair aK (.pair (.int .i64) .unit)))
theorem sF : Tryd.prog.funcs[dG]? = some ji := Tryd.func22
abbrev iT : Nat := 23
noncomputable abbrev lG : Func := Tryd.f23
abbrev nZ : Ty := .unit
abbrev oy : Ty := (.pair .bool .unit)
theorem uu : Tryd.prog.funcs[iT]? = some lG := Tryd.func23
abbrev eC : Nat := 29
noncomputable abbrev aA : Func := Tryd.f29
abbrev nB : Ty := (.pair (.slc .str) .unit)
abbrev eY : Ty := (.pair tId .unit)
theorem tC : Tryd.prog.funcs[eC]? = some aA := Tryd.func29
abbrev ep : Nat := 30
noncomputable abbrev kA : Func := Tryd.f30
abbrev nH : Ty := (.pair .str (.pair tId .unit))
abbrev nw : Ty := (.pair tId .unit)
theorem tG : Tryd.prog.funcs[ep]? = some kA := Tryd.func30
abbrev gt : Nat := 33
noncomputable abbrev jk : Func := Tryd.f33
abbrev mm : Ty := (.pair tId .unit)
abbrev mj : Ty := (.pair bc .unit)
theorem sY : Tryd.prog.funcs[gt]? = some jk := Tryd.func33
abbrev f7 : Nat := 41
noncomputable abbrev iH : Func := Tryd.f41
abbrev lq : Ty := .unit
abbrev lm : Ty := (.pair (.mp (.int .i64) (.fn (.pair aK (.pair .str .unit)) (.pair (.int .i64) .unit))) .unit)
theorem rl : Tryd.prog.funcs[f7]? = some iH := Tryd.func41
abbrev ib : Nat := 42
noncomputable abbrev kd : Func := Tryd.f42
abbrev nh : Ty := (.pair aK .unit)
abbrev jo : Ty := (.pair .bool .unit)
theorem tL : Tryd.prog.funcs[ib]? = some kd := Tryd.func42
abbrev ft : Nat := 45
noncomputable abbrev ik : Func := Tryd.f45
abbrev jZ : Ty := .unit
abbrev kF : Ty := (.pair ae .unit)
theorem qx : Tryd.prog.funcs[ft]? = some ik := Tryd.func45
abbrev k8 : Nat := 46
noncomputable abbrev c5 : Func := Tryd.f46
theorem qh : Tryd.prog.funcs[k8]? = some c5 := Tryd.func46
abbrev f5 : Nat := 47
noncomputable abbrev sx : Func := Tryd.f47
abbrev sb : Ty := (.pair (.slc .str) (.pair .str .unit))
abbrev rB : Ty := (.pair .str .unit)
theorem r9 : Tryd.prog.funcs[f5]? = some sx := Tryd.func47
abbrev dz : Nat := 48
noncomputable abbrev aN : Func := Tryd.f48
abbrev gU : Ty := (.pair ae (.pair .str .unit))
abbrev dh : Ty := (.pair ae .unit)
theorem m3 : Tryd.prog.funcs[dz]? = some aN := Tryd.func48
abbrev kg : Nat := 53
noncomputable abbrev kb : Func := Tryd.f53
theorem pC : Tryd.prog.funcs[kg]? = some kb := Tryd.func53
abbrev dQ : Nat := 54
noncomputable abbrev fG : Func := Tryd.f54
abbrev iu : Ty := (.pair aK (.pair .str (.pair (.ref (.int .i64)) .unit)))
abbrev iq : Ty := (.pair (.int .i64) .unit)
theorem nL : Tryd.prog.funcs[dQ]? = some fG := Tryd.func54
abbrev eM : Nat := 55
noncomputable abbrev gL : Func := Tryd.f55
abbrev gb : Ty := (.pair aK (.pair .str .unit))
abbrev d8 : Ty := (.pair (.int .i64) .unit)
theorem pA : Tryd.prog.funcs[eM]? = some gL := Tryd.func55
abbrev g9 : Nat := 56
noncomputable abbrev kD : Func := Tryd.f56
abbrev nv : Ty := .unit
abbrev m6 : Ty := (.pair (.mp (.int .i64) cn) .unit)
theorem tr : Tryd.prog.funcs[g9]? = some kD := Tryd.func56
abbrev fZ : Nat := 57
noncomputable abbrev jD : Func := Tryd.f57
abbrev p7 : Ty := (.pair al .unit)
abbrev pZ : Ty := (.pair .bool .unit)
theorem vO : Tryd.prog.funcs[fZ]? = some jD := Tryd.func57
abbrev gp : Nat := 58
noncomputable abbrev jg : Func := Tryd.f58
abbrev lU : Ty := (.pair (.slc al) .unit)
abbrev mi : Ty := (.pair .bool .unit)
theorem sP : Tryd.prog.funcs[gp]? = some jg := Tryd.func58
abbrev eS : Nat := 62
noncomputable abbrev qN : Func := Tryd.f62
abbrev pF : Ty := (.pair .str (.pair (.int .i64) .unit))
abbrev pD : Ty := (.pair .str .unit)
theorem py : Tryd.prog.funcs[eS]? = some qN := Tryd.func62
abbrev jr : Nat := 63
noncomputable abbrev cK : Func := Tryd.f63
theorem oN : Tryd.prog.funcs[jr]? = some cK := Tryd.func63
abbrev fA : Nat := 67
noncomputable abbrev cG : Func := Tryd.f67
abbrev kI : Ty := (.pair .str .unit)
abbrev gF : Ty := (.pair (.int .u32) .unit)
theorem qE : Tryd.prog.funcs[fA]? = some cG := Tryd.func67
abbrev gW : Nat := 68
noncomputable abbrev jR : Func := Tryd.f68
abbrev np : Ty := (.pair (.int .u32) (.pair (.int .i64) (.pair (.int .i64) (.pair (.int .u32) .unit))))
abbrev nk : Ty := (.pair (.int .u32) .unit)
theorem tI : Tryd.prog.funcs[gW]? = some jR := Tryd.func68
abbrev cg : Nat := 69
noncomputable abbrev fm : Func := Tryd.f69
abbrev hY : Ty := (.pair (.int .u32) (.pair (.int .i64) .unit))
abbrev il : Ty := (.pair (.int .u32) .unit)
theorem mG : Tryd.prog.funcs[cg]? = some fm := Tryd.func69
abbrev iV : Nat := 73
noncomputable abbrev fj : Func := Tryd.f73
abbrev o1 : Ty := (.pair (.slc al) .unit)
abbrev ka : Ty := (.pair .bool .unit)
theorem vf : Tryd.prog.funcs[iV]? = some fj := Tryd.func73
abbrev eH : Nat := 80
noncomputable abbrev bv : Func := Tryd.f80
theorem iJ : Tryd.prog.funcs[eH]? = some bv := Tryd.func80
abbrev ff : Nat := 81
noncomputable abbrev m7 : Func := Tryd.f81
theorem sU : Tryd.prog.funcs[ff]? = some m7 := Tryd.func81
abbrev fH : Nat := 87
noncomputable abbrev bp : Func := Tryd.f87
theorem jy : Tryd.prog.funcs[fH]? = some bp := Tryd.func87
end
end Go.Proofs.YtnakjijahkaoaaaDoor
namespace Go.Proofs.YtnakjijahkaoaaaDoor
open Go Go.RowKit
theorem gO {σ : Type} (n : Nat) (Inv : Nat → σ → Prop) (Q : Nat → σ → Prop) (step : ∀ i s, i < n → Inv i s → (∀ s', Inv (i + 1) s' → Q (i + 1) s') → Q i s) (last : ∀ s, Inv n s → Q n s) : ∀ (i : Nat) (s : σ), i ≤ n → Inv i s → Q i s := by
 intro i s hi
 obtain ⟨k, hk⟩ : ∃ k, k + i = n := ⟨n - i, by omega⟩
 induction k generalizing i s with
 | zero =>
  have e : i = n := by omega
  subst e
  exact last s
 | succ k ih =>
  intro hI
  exact step i s (by omega) hI fun s' h' => ih (i + 1) s' (by omega) (by omega) h'
theorem wL {e : Ty} (t : List (den e)) {i : Nat} : (decide ((i : Int) < lnx e t)) = decide (i < t.length) := by
 rw [Bool.eq_iff_iff, decide_eq_true_eq, decide_eq_true_eq]
 exact ⟨fun h => by have h : (i : Int) < (t.length : Int) := h; omega, fun h => by show (i : Int) < (t.length : Int); omega⟩
theorem gQ {n : Int} (h : -1000000000000000 ≤ n ∧ n ≤ 1000000000000000) : IntKind.wrap .i64 n = n := uL (by omega) (by omega)
theorem bq {P : ab → Prop} {A : Type} {e : A} {f : A → ab} (h : P (f e)) : ∀ q, q = e → P (f q) := fun q hq => by cases hq; exact h
theorem yM (s : ByteArray) (n : Nat) : ba 0 (dx (aP s) (n : Int)) (aP s) := by
 unfold dx ba aP
 split <;> omega
def ya (n : Nat) (k : Int) : Nat := ((k.tmod n + n).tmod n).toNat
theorem yp {n : Nat} (h : 0 < n) (hn : n ≤ 1000000) (k : Int) : IntKind.wrap .i64 (k.tmod n + n) = k.tmod n + n ∧ (k.tmod n + n).tmod n = (ya n k : Nat) ∧ ya n k < n := by
 have h1 : k.tmod n < n := Int.tmod_lt_of_pos k (by omega)
 have h2 : -(n : Int) < k.tmod n := Int.lt_tmod_of_pos k (by omega)
 have h3 : 0 ≤ (k.tmod n + n).tmod n := Int.tmod_nonneg _ (by omega)
 have h4 : (k.tmod n + n).tmod n < n := Int.tmod_lt_of_pos _ (by omega)
 refine ⟨uL (by omega) (by omega), by unfold ya; omega, by unfold ya; omega⟩
end Go.Proofs.YtnakjijahkaoaaaDoor
namespace Go.Proofs.YtnakjijahkaoaaaDoor
open Go Go.RowKit
noncomputable abbrev g7 : Fx := { fn := fm, ann := { } }
noncomputable abbrev it : bf := { D := { T := bN, F := [], R := [], ovl := [] }, inl := [] }
noncomputable abbrev nK : bY := .data il
theorem nM : XOk prog it := xok ((bo bu a8)) (by kernel_rfl) bg bA bw
noncomputable def iv (x : den (Ty.int IntKind.u32)) (k : den af) : ab := ab.req (ge0 (IntKind.wrap IntKind.u64 (↑(BitVec.toNat (BitVec.ofInt (IntKind.bits IntKind.u64) (IntKind.wrap IntKind.u64 k) &&& BitVec.ofInt (IntKind.bits IntKind.u64) 31)) : Int))) (ab.req (ge0 (IntKind.wrap IntKind.u64 (32 - IntKind.wrap IntKind.u64 (↑(BitVec.toNat (BitVec.ofInt (IntKind.bits IntKind.u64) (IntKind.wrap IntKind.u64 k) &&& BitVec.ofInt (IntKind.bits IntKind.u64) 31)) : Int)))) (ab.ret (K.val (Ty.pair (Ty.int IntKind.u32) Ty.unit) (IntKind.wrap IntKind.u32 (↑(BitVec.toNat (BitVec.ofInt (IntKind.bits IntKind.u32) (IntKind.wrap IntKind.u32 (x * 2 ^ min (Int.toNat (IntKind.wrap IntKind.u64 (↑(BitVec.toNat (BitVec.ofInt (IntKind.bits IntKind.u64) (IntKind.wrap IntKind.u64 k) &&& BitVec.ofInt (IntKind.bits IntKind.u64) 31)) : Int))) (IntKind.bits IntKind.u32))) ||| BitVec.ofInt (IntKind.bits IntKind.u32) (Int.fdiv x (2 ^ min (Int.toNat (IntKind.wrap IntKind.u64 (32 - IntKind.wrap IntKind.u64 (↑(BitVec.toNat (BitVec.ofInt (IntKind.bits IntKind.u64) (IntKind.wrap IntKind.u64 k) &&& BitVec.ofInt (IntKind.bits IntKind.u64) 31)) : Int)))) (IntKind.bits IntKind.u32))))) : Int), PUnit.unit))))
theorem lL (x : den (Ty.int IntKind.u32)) (k : den af) : ax it nK 5000 [] g7 (aI fm) (Env.of (aX hY (x, k, ()) 0) []) = iv x k := by kernel_rfl
noncomputable abbrev kr : Fx := { fn := ik, ann := { } }
noncomputable abbrev lx : bf := { D := { T := bN, F := [], R := [], ovl := [] }, inl := [] }
noncomputable abbrev rx : bY := .data kF
theorem qX : XOk prog lx := xok ((bo bu a8)) (by kernel_rfl) bg bA bw
noncomputable def k7 : ab := ab.ret (K.val (Ty.pair ae Ty.unit) (List.set (List.set (List.set (List.set (List.set (List.set (List.set (List.set (List.replicate 8 (zero (Ty.int IntKind.u32))) 0 1779033703) 1 3144134277) 2 1013904242) 3 2773480762) 4 1359893119) 5 2600822924) 6 528734635) 7 1541459225, PUnit.unit))
theorem n8 : ax lx rx 5000 [] kr (aI ik) (Env.of (aX jZ () 0) []) = k7 := by kernel_rfl
end Go.Proofs.YtnakjijahkaoaaaDoor
namespace Go.Proofs.YtnakjijahkaoaaaDoor
open Go Go.RowKit
theorem bH {Gl : gw} {f : FuncId} {S : bt} (h : aJ prog [] f S) : aJ prog Gl f S := ⟨h.can, h.all, fun O w vs x hO _ hx hp => h.does O w vs x hO (fun _ _ _ h => by cases h) hx hp⟩
def AR : DataW Unit → List Int
 | .agg l => l.map fun | .lit (.int _ n) => n | _ => 0
 | _ => []
def g8 : List Int := AR Rows.laid_posthouse_digest_keys
noncomputable abbrev gl : gw := [(0, ⟨.arr 64 (.int .u32), g8⟩)]
def za (k : Int) : Int := IntKind.wrap .u64 ((BitVec.toNat (BitVec.ofInt (IntKind.bits .u64) (IntKind.wrap .u64 k) &&& BitVec.ofInt (IntKind.bits .u64) 31) : Nat) : Int)
def cC (x k : Int) : Int :=
 IntKind.wrap .u32 ((BitVec.toNat (BitVec.ofInt (IntKind.bits .u32) (IntKind.wrap .u32 (x * 2 ^ min (Int.toNat (za k)) (IntKind.bits .u32))) |||
  BitVec.ofInt (IntKind.bits .u32) (Int.fdiv x (2 ^ min (Int.toNat (IntKind.wrap .u64 (32 - za k))) (IntKind.bits .u32)))) : Nat) : Int)
theorem uJ (n : Int) : 0 ≤ IntKind.wrap .u64 n := by
 have : IntKind.wrap .u64 n = n % 18446744073709551616 := rfl
 rw [this]
 exact Int.emod_nonneg _ (by decide)
noncomputable abbrev cj : bt := ⟨hY, il, fun x => (cC x.1 x.2.1, ()), fun _ => True, true⟩
theorem ci : aJ prog [] cg cj :=
 cO (S := cj) nM (fx := g7) mG (by kernel_rfl) (fun _ _ => trivial) (T := fun x => iv x.1 x.2.1) (fun x => lL x.1 x.2.1) fun O w0 x _ _ =>
  ⟨uJ _, uJ _, _, rfl, rfl⟩
def iz : List Int := [1779033703, 3144134277, 1013904242, 2773480762, 1359893119, 2600822924, 528734635, 1541459225]
noncomputable abbrev fp : bt := ⟨jZ, kF, fun _ => (iz, ()), fun _ => True, true⟩
theorem rM : aJ prog [] ft fp :=
 cO (S := fp) qX (fx := kr) qx (by kernel_rfl) (fun _ _ => trivial) (T := fun _ => k7) (fun _ => n8) fun O w0 x _ _ => ⟨_, rfl, rfl⟩
end Go.Proofs.YtnakjijahkaoaaaDoor
namespace Go.Proofs.YtnakjijahkaoaaaDoor
open Go Go.RowKit
noncomputable abbrev nI : Fx := { fn := jR, ann := { } }
noncomputable abbrev oZ : bf := { D := { T := bN, F := [(cg, cj)], R := [], ovl := [] }, inl := [] }
noncomputable abbrev uS : bY := .data nk
theorem ut (h_bits_RotateLeft32 : aJ prog [] cg cj) : XOk prog oZ := xok (aS (bo bu a8) h_bits_RotateLeft32) (by kernel_rfl) bg bA bw
noncomputable def nY (x : den (Ty.int IntKind.u32)) (a : den af) (b : den af) (c : den (Ty.int IntKind.u32)) : ab := ab.req True (ab.req True (ab.ret (K.val (Ty.pair (Ty.int IntKind.u32) Ty.unit) (IntKind.wrap IntKind.u32 (↑(BitVec.toNat (BitVec.ofInt (IntKind.bits IntKind.u32) (IntKind.wrap IntKind.u32 (↑(BitVec.toNat (BitVec.ofInt (IntKind.bits IntKind.u32) (cC x (IntKind.wrap IntKind.i64 (sG a))) ^^^ BitVec.ofInt (IntKind.bits IntKind.u32) (cC x (IntKind.wrap IntKind.i64 (sG b))))) : Int)) ^^^ BitVec.ofInt (IntKind.bits IntKind.u32) c)) : Int), PUnit.unit))))
theorem rh (x : den (Ty.int IntKind.u32)) (a : den af) (b : den af) (c : den (Ty.int IntKind.u32)) : ax oZ uS 5000 [] nI (aI jR) (Env.of (aX np (x, a, b, c, ()) 0) []) = nY x a b c := by kernel_rfl
noncomputable abbrev cU : Fx := { fn := cG, ann := { loops := [(3, { keep := [0, 3, 6, 7] })] } }
noncomputable abbrev fq : bf := { D := { T := bN, F := [], R := [], ovl := [] }, inl := [] }
noncomputable abbrev lg : bY := .data gF
theorem gY : XOk prog fq := xok ((bo bu a8)) (by kernel_rfl) bg bA bw
noncomputable def kU (s : den Ty.str) : ab := ab.loop [] cU (lp cG 3) [(0, K.val Ty.str s), (3, K.val (Ty.int IntKind.u32) 0), (6, K.val af (aP s)), (7, K.val af 0)] []
theorem oJ (s : den Ty.str) : ax fq lg 5000 [] cU (aI cG) (Env.of (aX kI (s, ()) 0) []) = kU s := by kernel_rfl
noncomputable def jp (v0 : den Ty.str) (v3 : den (Ty.int IntKind.u32)) (v6 : den af) (v7 : den af) : Env := Env.of [(0, K.val Ty.str v0), (3, K.val (Ty.int IntKind.u32) v3), (6, K.val af v6), (7, K.val af v7)] []
noncomputable def oa (v0 : den Ty.str) (v3 : den (Ty.int IntKind.u32)) (v6 : den af) (v7 : den af) : ab := ab.ite (decide (v7 < v6)) (ab.req (ge0 8) (ab.req (inB v7 (aP v0)) (ab.loop [] cU (lp cG 3) [(0, K.val Ty.str v0), (3, K.val (Ty.int IntKind.u32) (IntKind.wrap IntKind.u32 (↑(BitVec.toNat (BitVec.ofInt (IntKind.bits IntKind.u32) (IntKind.wrap IntKind.u32 (v3 * 2 ^ min (Int.toNat 8) (IntKind.bits IntKind.u32))) ||| BitVec.ofInt (IntKind.bits IntKind.u32) (IntKind.wrap IntKind.u32 (sAt v0 v7)))) : Int))), (6, K.val af v6), (7, K.val af (IntKind.wrap IntKind.i64 (v7 + 1)))] []))) (ab.ret (K.val (Ty.pair (Ty.int IntKind.u32) Ty.unit) (v3, PUnit.unit)))
theorem gR (v0 : den Ty.str) (v3 : den (Ty.int IntKind.u32)) (v6 : den af) (v7 : den af) : ax fq lg 5000 [] cU (lp cG 3) (jp v0 v3 v6 v7) = oa v0 v3 v6 v7 := by kernel_rfl
end Go.Proofs.YtnakjijahkaoaaaDoor
namespace Go.Proofs.YtnakjijahkaoaaaDoor
open Go Go.RowKit
def xT (a b : Int) : Int := IntKind.wrap .u32 ((BitVec.toNat (BitVec.ofInt (IntKind.bits .u32) a ^^^ BitVec.ofInt (IntKind.bits .u32) b) : Nat) : Int)
def zp (a b : Int) : Int := IntKind.wrap .u32 ((BitVec.toNat (BitVec.ofInt (IntKind.bits .u32) a &&& BitVec.ofInt (IntKind.bits .u32) b) : Nat) : Int)
def lor (a b : Int) : Int := IntKind.wrap .u32 ((BitVec.toNat (BitVec.ofInt (IntKind.bits .u32) a ||| BitVec.ofInt (IntKind.bits .u32) b) : Nat) : Int)
def jV (a b : Int) : Int := IntKind.wrap .u32 (a + b)
def de (x a b c : Int) : Int := xT (xT (cC x (IntKind.wrap .i64 (sG a))) (cC x (IntKind.wrap .i64 (sG b)))) c
noncomputable abbrev g6 : bt := ⟨np, nk, fun x => (de x.1 x.2.1 x.2.2.1 x.2.2.2.1, ()), fun _ => True, true⟩
theorem fD : aJ prog [] gW g6 :=
 cO (S := g6) (ut ci) (fx := nI) tI (by kernel_rfl) (fun _ _ => trivial) (T := fun x => nY x.1 x.2.1 x.2.2.1 x.2.2.2.1) (fun x => rh x.1 x.2.1 x.2.2.1 x.2.2.2.1) fun O w0 x _ _ =>
  ⟨trivial, trivial, _, rfl, rfl⟩
def ph (n b : Int) : Int := lor (IntKind.wrap .u32 (n * 2 ^ min (Int.toNat 8) (IntKind.bits .u32))) (IntKind.wrap .u32 b)
def mM (s : ByteArray) : Int := (a7 s).foldl ph 0
noncomputable abbrev fw : bt := ⟨kI, gF, fun x => (mM x.1, ()), fun x => ByteArray.size x.1 ≤ 1000000, false⟩
theorem oC (s : ByteArray) : (a7 s).length = s.size := by
 unfold a7
 rw [List.length_map, Array.length_toList]
 rfl
theorem zV (s : ByteArray) {i : Nat} (hi : i < s.size) : (a7 s)[i]'(by rw [oC]; exact hi) = sAt s (i : Nat) := by
 have hd : i < s.data.size := hi
 unfold a7 sAt
 rw [List.getElem_map, Int.toNat_natCast, Array.getElem?_eq_getElem hd]
 rfl
theorem uU (s : ByteArray) {i : Nat} : decide ((i : Int) < aP s) = decide (i < s.size) := by
 rw [Bool.eq_iff_iff, decide_eq_true_eq, decide_eq_true_eq]
 exact ⟨fun h => by have h : (i : Int) < (s.size : Int) := h; omega, fun h => by show (i : Int) < (s.size : Int); omega⟩
def qL (O : Nat → Prop) (w0 : World) (s : ByteArray) (hs : s.size ≤ 1000000) :=
 PLift.up <| gO (σ := Int) s.size (fun i n => n = ((a7 s).take i).foldl ph 0)
  (fun i n => bG prog fq (Cx.base O w0) (ed prog O w0 gF fun y => y = (mM s, ())) [] cU (lp cG 3) (jp s n (aP s) (i : Nat)))
  (fun i n hi hn ih => cr gY (gR s n _ _) (by
   refine ⟨fun _ => ⟨show (0 : Int) ≤ 8 by decide, ⟨Int.natCast_nonneg _, Int.ofNat_lt.2 hi⟩, ?_⟩, fun h => ?_⟩
   ·rw [jS hi (by omega)]
    refine ih (ph n (sAt s (i : Nat))) ?_
    have hi' : i < (a7 s).length := by rw [oC]; exact hi
    rw [List.take_succ_eq_append_getElem hi', List.foldl_append, ← hn, zV s hi]
    rfl
   ·rw [uU] at h
    exact absurd hi (of_decide_eq_false h)))
  (fun n hn => cr gY (gR s n _ _) (by
   refine ⟨fun h => ?_, fun _ => ⟨_, rfl, ?_⟩⟩
   ·rw [uU] at h
    exact absurd (of_decide_eq_true h) (Nat.lt_irrefl _)
   ·have hn : n = ((a7 s).take s.size).foldl ph 0 := hn
    rw [List.take_of_length_le (by rw [oC]; exact Nat.le_refl _)] at hn
    rw [hn]; rfl))
theorem dP : aJ prog [] fA fw :=
 cO (S := fw) gY (fx := cU) qE (by kernel_rfl) (fun h => by cases h) (T := fun x => kU x.1) (fun x => oJ x.1) fun O w0 x _ hp =>
  (qL O w0 x.1 hp).down 0 0 (Nat.zero_le _) rfl
end Go.Proofs.YtnakjijahkaoaaaDoor
namespace Go.Proofs.YtnakjijahkaoaaaDoor
open Go Go.RowKit
noncomputable abbrev aQ : Fx := { fn := aN, ann := { loops := [(4, { keep := [1, 2, 4, 5, 6, 16] }), (16, { keep := [2, 4, 6, 126] })] }, share := true, shareD := true }
noncomputable abbrev cm : bf := { D := { T := bN, F := [(cg, cj), (gW, g6), (fA, fw)], R := [], ovl := [], G := gl }, inl := [] }
noncomputable abbrev fl : bY := .data dh
theorem cQ (h_bits_RotateLeft32 : aJ prog gl cg cj) (h_digest_two : aJ prog gl gW g6) (h_digest_number : aJ prog gl fA fw) : XOk prog cm := xok (aS (aS (aS (bo bu a8) h_digest_number) h_digest_two) h_bits_RotateLeft32) (by kernel_rfl) bg bA bw
noncomputable def ir (h : den ae) (s : den Ty.str) : ab := ab.loop [] aQ (lp aN 4) [(1, K.val Ty.str s), (2, K.ptr 0 ae []), (4, K.ptr (0 + 1) ae []), (5, K.ptr (0 + 1 + 1) (Ty.arr 64 (Ty.int IntKind.u32)) []), (6, K.ptr (0 + 1 + 1 + 1) ae []), (16, K.val af 0)] [(0, Bx.cell ae h), (0 + 1, Bx.cell ae (zero ae)), (0 + 1 + 1, Bx.cell (Ty.arr 64 (Ty.int IntKind.u32)) (zero (Ty.arr 64 (Ty.int IntKind.u32)))), (0 + 1 + 1 + 1, Bx.cell ae h)]
theorem lB (h : den ae) (s : den Ty.str) : ax cm fl 5000 [] aQ (aI aN) (Env.of (aX gU (h, s, ()) 0) []) = ir h s := by kernel_rfl
noncomputable def c4 (v1 : den Ty.str) (v16 : den af) (b0 : den ae) (b1 : den ae) (b2 : den (Ty.arr 64 (Ty.int IntKind.u32))) (b3 : den ae) : Env := Env.of [(1, K.val Ty.str v1), (2, K.ptr 0 ae []), (4, K.ptr (0 + 1) ae []), (5, K.ptr (0 + 1 + 1) (Ty.arr 64 (Ty.int IntKind.u32)) []), (6, K.ptr (0 + 1 + 1 + 1) ae []), (16, K.val af v16)] [(0, Bx.cell ae b0), (1, Bx.cell ae b1), (2, Bx.cell (Ty.arr 64 (Ty.int IntKind.u32)) b2), (3, Bx.cell ae b3)]
noncomputable def lJ (v1 : den Ty.str) (v16 : den af) (b0 : den ae) (b1 : den ae) (b2 : den (Ty.arr 64 (Ty.int IntKind.u32))) (b3 : den ae) : ab := ab.ite (decide (v16 < 64)) (ab.ite (decide (v16 < 16)) (ab.req (ba (IntKind.wrap IntKind.i64 (4 * v16)) (IntKind.wrap IntKind.i64 (IntKind.wrap IntKind.i64 (4 * v16) + 4)) (aP v1)) (ab.req (ByteArray.size (bQ v1 (IntKind.wrap IntKind.i64 (4 * v16)) (IntKind.wrap IntKind.i64 (IntKind.wrap IntKind.i64 (4 * v16) + 4))) ≤ 1000000) (ab.all (den (Ty.int IntKind.u32)) (fun (q6 : den (Ty.int IntKind.u32)) ↦ q6 = mM (bQ v1 (IntKind.wrap IntKind.i64 (4 * v16)) (IntKind.wrap IntKind.i64 (IntKind.wrap IntKind.i64 (4 * v16) + 4)))) fun (q6 : den (Ty.int IntKind.u32)) ↦ ab.req (inB v16 (↑64 : Int)) (ab.req (inB 0 (↑8 : Int)) (ab.req (inB 4 (↑8 : Int)) (ab.all (den (Ty.int IntKind.u32)) (fun (q7 : den (Ty.int IntKind.u32)) ↦ q7 = el (Ty.int IntKind.u32) b3 0) fun (q7 : den (Ty.int IntKind.u32)) ↦ ab.all (den (Ty.int IntKind.u32)) (fun (q8 : den (Ty.int IntKind.u32)) ↦ q8 = el (Ty.int IntKind.u32) b3 4) fun (q8 : den (Ty.int IntKind.u32)) ↦ ab.req (inB 7 (↑8 : Int)) (ab.req True (ab.req True (ab.req (inB 6 (↑8 : Int)) (ab.req (inB 5 (↑8 : Int)) (ab.req (inB 6 (↑8 : Int)) (ab.req (inB v16 (↑64 : Int)) (ab.req (inB v16 (↑64 : Int)) (ab.all (den (Ty.int IntKind.u32)) (fun (q9 : den (Ty.int IntKind.u32)) ↦ q9 = cC q8 (-25)) fun (q9 : den (Ty.int IntKind.u32)) ↦ ab.all (den (Ty.int IntKind.u32)) (fun (q10 : den (Ty.int IntKind.u32)) ↦ q10 = de q8 6 11 (cC q8 (-25))) fun (q10 : den (Ty.int IntKind.u32)) ↦ ab.all (den (Ty.int IntKind.u32)) (fun (q11 : den (Ty.int IntKind.u32)) ↦ q11 = IntKind.wrap IntKind.u32 (IntKind.wrap IntKind.u32 (IntKind.wrap IntKind.u32 (IntKind.wrap IntKind.u32 (el (Ty.int IntKind.u32) b3 7 + de q8 6 11 (cC q8 (-25))) + IntKind.wrap IntKind.u32 (↑(BitVec.toNat (BitVec.ofInt (IntKind.bits IntKind.u32) (el (Ty.int IntKind.u32) b3 6) ^^^ BitVec.ofInt (IntKind.bits IntKind.u32) (IntKind.wrap IntKind.u32 (↑(BitVec.toNat (BitVec.ofInt (IntKind.bits IntKind.u32) q8 &&& BitVec.ofInt (IntKind.bits IntKind.u32) (IntKind.wrap IntKind.u32 (↑(BitVec.toNat (BitVec.ofInt (IntKind.bits IntKind.u32) (el (Ty.int IntKind.u32) b3 5) ^^^ BitVec.ofInt (IntKind.bits IntKind.u32) (el (Ty.int IntKind.u32) b3 6))) : Int)))) : Int)))) : Int)) + el (Ty.int IntKind.u32) g8 v16) + el (Ty.int IntKind.u32) (gf (Ty.int IntKind.u32) b2 v16 q6) v16)) fun (q11 : den (Ty.int IntKind.u32)) ↦ ab.req (inB 1 (↑8 : Int)) (ab.req (inB 2 (↑8 : Int)) (ab.req (inB 1 (↑8 : Int)) (ab.req True (ab.req True (ab.req (inB 1 (↑8 : Int)) (ab.req (inB 2 (↑8 : Int)) (ab.req (inB 3 (↑8 : Int)) (ab.req (inB 5 (↑8 : Int)) (ab.req (inB 6 (↑8 : Int)) (ab.all (den (Ty.int IntKind.u32)) (fun (q12 : den (Ty.int IntKind.u32)) ↦ q12 = cC q7 (-22)) fun (q12 : den (Ty.int IntKind.u32)) ↦ ab.all (den (Ty.int IntKind.u32)) (fun (q13 : den (Ty.int IntKind.u32)) ↦ q13 = de q7 2 13 (cC q7 (-22))) fun (q13 : den (Ty.int IntKind.u32)) ↦ ab.loop [] aQ (lp aN 4) [(1, K.val Ty.str v1), (2, K.ptr 0 ae []), (4, K.ptr (0 + 1) ae []), (5, K.ptr (0 + 1 + 1) (Ty.arr 64 (Ty.int IntKind.u32)) []), (6, K.ptr (0 + 1 + 1 + 1) ae []), (16, K.val af (IntKind.wrap IntKind.i64 (v16 + 1)))] [(0, Bx.cell ae b0), (0 + 1, Bx.cell ae b1), (0 + 1 + 1, Bx.cell (Ty.arr 64 (Ty.int IntKind.u32)) (gf (Ty.int IntKind.u32) b2 v16 q6)), (0 + 1 + 1 + 1, Bx.cell ae (List.set (List.set (List.set (List.set (List.set (List.set (List.set (List.set (List.replicate 8 (zero (Ty.int IntKind.u32))) 0 (IntKind.wrap IntKind.u32 (IntKind.wrap IntKind.u32 (q11 + de q7 2 13 (cC q7 (-22))) + IntKind.wrap IntKind.u32 (↑(BitVec.toNat (BitVec.ofInt (IntKind.bits IntKind.u32) (IntKind.wrap IntKind.u32 (↑(BitVec.toNat (BitVec.ofInt (IntKind.bits IntKind.u32) q7 &&& BitVec.ofInt (IntKind.bits IntKind.u32) (el (Ty.int IntKind.u32) b3 1))) : Int)) ||| BitVec.ofInt (IntKind.bits IntKind.u32) (IntKind.wrap IntKind.u32 (↑(BitVec.toNat (BitVec.ofInt (IntKind.bits IntKind.u32) (el (Ty.int IntKind.u32) b3 2) &&& BitVec.ofInt (IntKind.bits IntKind.u32) (IntKind.wrap IntKind.u32 (↑(BitVec.toNat (BitVec.ofInt (IntKind.bits IntKind.u32) q7 ||| BitVec.ofInt (IntKind.bits IntKind.u32) (el (Ty.int IntKind.u32) b3 1))) : Int)))) : Int)))) : Int)))) 1 q7) 2 (el (Ty.int IntKind.u32) b3 1)) 3 (el (Ty.int IntKind.u32) b3 2)) 4 (IntKind.wrap IntKind.u32 (el (Ty.int IntKind.u32) b3 3 + q11))) 5 q8) 6 (el (Ty.int IntKind.u32) b3 5)) 7 (el (Ty.int IntKind.u32) b3 6)))])))))))))))))))))))))))) (ab.req (inB (IntKind.wrap IntKind.i64 (v16 - 15)) (↑64 : Int)) (ab.req (inB (IntKind.wrap IntKind.i64 (v16 - 2)) (↑64 : Int)) (ab.all (den (Ty.int IntKind.u32)) (fun (q6 : den (Ty.int IntKind.u32)) ↦ q6 = el (Ty.int IntKind.u32) b2 (IntKind.wrap IntKind.i64 (v16 - 15))) fun (q6 : den (Ty.int IntKind.u32)) ↦ ab.all (den (Ty.int IntKind.u32)) (fun (q7 : den (Ty.int IntKind.u32)) ↦ q7 = el (Ty.int IntKind.u32) b2 (IntKind.wrap IntKind.i64 (v16 - 2))) fun (q7 : den (Ty.int IntKind.u32)) ↦ ab.req (ge0 10) (ab.req True (ab.req (inB (IntKind.wrap IntKind.i64 (v16 - 7)) (↑64 : Int)) (ab.req (ge0 3) (ab.req True (ab.req (inB (IntKind.wrap IntKind.i64 (v16 - 16)) (↑64 : Int)) (ab.req (inB v16 (↑64 : Int)) (ab.all (den (Ty.int IntKind.u32)) (fun (q8 : den (Ty.int IntKind.u32)) ↦ q8 = de q7 17 19 (Int.fdiv q7 (2 ^ min (Int.toNat 10) (IntKind.bits IntKind.u32)))) fun (q8 : den (Ty.int IntKind.u32)) ↦ ab.all (den (Ty.int IntKind.u32)) (fun (q9 : den (Ty.int IntKind.u32)) ↦ q9 = de q6 7 18 (Int.fdiv q6 (2 ^ min (Int.toNat 3) (IntKind.bits IntKind.u32)))) fun (q9 : den (Ty.int IntKind.u32)) ↦ ab.req (inB 0 (↑8 : Int)) (ab.req (inB 4 (↑8 : Int)) (ab.all (den (Ty.int IntKind.u32)) (fun (q10 : den (Ty.int IntKind.u32)) ↦ q10 = el (Ty.int IntKind.u32) b3 0) fun (q10 : den (Ty.int IntKind.u32)) ↦ ab.all (den (Ty.int IntKind.u32)) (fun (q11 : den (Ty.int IntKind.u32)) ↦ q11 = el (Ty.int IntKind.u32) b3 4) fun (q11 : den (Ty.int IntKind.u32)) ↦ ab.req (inB 7 (↑8 : Int)) (ab.req True (ab.req True (ab.req (inB 6 (↑8 : Int)) (ab.req (inB 5 (↑8 : Int)) (ab.req (inB 6 (↑8 : Int)) (ab.req (inB v16 (↑64 : Int)) (ab.req (inB v16 (↑64 : Int)) (ab.all (den (Ty.int IntKind.u32)) (fun (q12 : den (Ty.int IntKind.u32)) ↦ q12 = cC q11 (-25)) fun (q12 : den (Ty.int IntKind.u32)) ↦ ab.all (den (Ty.int IntKind.u32)) (fun (q13 : den (Ty.int IntKind.u32)) ↦ q13 = de q11 6 11 (cC q11 (-25))) fun (q13 : den (Ty.int IntKind.u32)) ↦ ab.all (den (Ty.int IntKind.u32)) (fun (q14 : den (Ty.int IntKind.u32)) ↦ q14 = IntKind.wrap IntKind.u32 (IntKind.wrap IntKind.u32 (IntKind.wrap IntKind.u32 (IntKind.wrap IntKind.u32 (el (Ty.int IntKind.u32) b3 7 + de q11 6 11 (cC q11 (-25))) + IntKind.wrap IntKind.u32 (↑(BitVec.toNat (BitVec.ofInt (IntKind.bits IntKind.u32) (el (Ty.int IntKind.u32) b3 6) ^^^ BitVec.ofInt (IntKind.bits IntKind.u32) (IntKind.wrap IntKind.u32 (↑(BitVec.toNat (BitVec.ofInt (IntKind.bits IntKind.u32) q11 &&& BitVec.ofInt (IntKind.bits IntKind.u32) (IntKind.wrap IntKind.u32 (↑(BitVec.toNat (BitVec.ofInt (IntKind.bits IntKind.u32) (el (Ty.int IntKind.u32) b3 5) ^^^ BitVec.ofInt (IntKind.bits IntKind.u32) (el (Ty.int IntKind.u32) b3 6))) : Int)))) : Int)))) : Int)) + el (Ty.int IntKind.u32) g8 v16) + el (Ty.int IntKind.u32) (gf (Ty.int IntKind.u32) b2 v16 (IntKind.wrap IntKind.u32 (IntKind.wrap IntKind.u32 (IntKind.wrap IntKind.u32 (de q7 17 19 (Int.fdiv q7 (2 ^ min (Int.toNat 10) (IntKind.bits IntKind.u32))) + el (Ty.int IntKind.u32) b2 (IntKind.wrap IntKind.i64 (v16 - 7))) + de q6 7 18 (Int.fdiv q6 (2 ^ min (Int.toNat 3) (IntKind.bits IntKind.u32)))) + el (Ty.int IntKind.u32) b2 (IntKind.wrap IntKind.i64 (v16 - 16))))) v16)) fun (q14 : den (Ty.int IntKind.u32)) ↦ ab.req (inB 1 (↑8 : Int)) (ab.req (inB 2 (↑8 : Int)) (ab.req (inB 1 (↑8 : Int)) (ab.req True (ab.req True (ab.req (inB 1 (↑8 : Int)) (ab.req (inB 2 (↑8 : Int)) (ab.req (inB 3 (↑8 : Int)) (ab.req (inB 5 (↑8 : Int)) (ab.req (inB 6 (↑8 : Int)) (ab.all (den (Ty.int IntKind.u32)) (fun (q15 : den (Ty.int IntKind.u32)) ↦ q15 = cC q10 (-22)) fun (q15 : den (Ty.int IntKind.u32)) ↦ ab.all (den (Ty.int IntKind.u32)) (fun (q16 : den (Ty.int IntKind.u32)) ↦ q16 = de q10 2 13 (cC q10 (-22))) fun (q16 : den (Ty.int IntKind.u32)) ↦ ab.loop [] aQ (lp aN 4) [(1, K.val Ty.str v1), (2, K.ptr 0 ae []), (4, K.ptr (0 + 1) ae []), (5, K.ptr (0 + 1 + 1) (Ty.arr 64 (Ty.int IntKind.u32)) []), (6, K.ptr (0 + 1 + 1 + 1) ae []), (16, K.val af (IntKind.wrap IntKind.i64 (v16 + 1)))] [(0, Bx.cell ae b0), (0 + 1, Bx.cell ae b1), (0 + 1 + 1, Bx.cell (Ty.arr 64 (Ty.int IntKind.u32)) (gf (Ty.int IntKind.u32) b2 v16 (IntKind.wrap IntKind.u32 (IntKind.wrap IntKind.u32 (IntKind.wrap IntKind.u32 (de q7 17 19 (Int.fdiv q7 (2 ^ min (Int.toNat 10) (IntKind.bits IntKind.u32))) + el (Ty.int IntKind.u32) b2 (IntKind.wrap IntKind.i64 (v16 - 7))) + de q6 7 18 (Int.fdiv q6 (2 ^ min (Int.toNat 3) (IntKind.bits IntKind.u32)))) + el (Ty.int IntKind.u32) b2 (IntKind.wrap IntKind.i64 (v16 - 16)))))), (0 + 1 + 1 + 1, Bx.cell ae (List.set (List.set (List.set (List.set (List.set (List.set (List.set (List.set (List.replicate 8 (zero (Ty.int IntKind.u32))) 0 (IntKind.wrap IntKind.u32 (IntKind.wrap IntKind.u32 (q14 + de q10 2 13 (cC q10 (-22))) + IntKind.wrap IntKind.u32 (↑(BitVec.toNat (BitVec.ofInt (IntKind.bits IntKind.u32) (IntKind.wrap IntKind.u32 (↑(BitVec.toNat (BitVec.ofInt (IntKind.bits IntKind.u32) q10 &&& BitVec.ofInt (IntKind.bits IntKind.u32) (el (Ty.int IntKind.u32) b3 1))) : Int)) ||| BitVec.ofInt (IntKind.bits IntKind.u32) (IntKind.wrap IntKind.u32 (↑(BitVec.toNat (BitVec.ofInt (IntKind.bits IntKind.u32) (el (Ty.int IntKind.u32) b3 2) &&& BitVec.ofInt (IntKind.bits IntKind.u32) (IntKind.wrap IntKind.u32 (↑(BitVec.toNat (BitVec.ofInt (IntKind.bits IntKind.u32) q10 ||| BitVec.ofInt (IntKind.bits IntKind.u32) (el (Ty.int IntKind.u32) b3 1))) : Int)))) : Int)))) : Int)))) 1 q10) 2 (el (Ty.int IntKind.u32) b3 1)) 3 (el (Ty.int IntKind.u32) b3 2)) 4 (IntKind.wrap IntKind.u32 (el (Ty.int IntKind.u32) b3 3 + q14))) 5 q11) 6 (el (Ty.int IntKind.u32) b3 5)) 7 (el (Ty.int IntKind.u32) b3 6)))]))))))))))))))))))))))))))))))) (ab.loop [] aQ (lp aN 16) [(2, K.ptr 0 ae []), (4, K.ptr (0 + 1) ae []), (6, K.ptr (0 + 1 + 1) ae []), (126, K.val af 0)] [(0, Bx.cell ae b0), (0 + 1, Bx.cell ae b1), (0 + 1 + 1, Bx.cell ae b3)])
theorem fB (v1 : den Ty.str) (v16 : den af) (b0 : den ae) (b1 : den ae) (b2 : den (Ty.arr 64 (Ty.int IntKind.u32))) (b3 : den ae) : ax cm fl 5000 [] aQ (lp aN 4) (c4 v1 v16 b0 b1 b2 b3) = lJ v1 v16 b0 b1 b2 b3 := by kernel_rfl
noncomputable def gi (v126 : den af) (b0 : den ae) (b1 : den ae) (b2 : den ae) : Env := Env.of [(2, K.ptr 0 ae []), (4, K.ptr (0 + 1) ae []), (6, K.ptr (0 + 1 + 1) ae []), (126, K.val af v126)] [(0, Bx.cell ae b0), (1, Bx.cell ae b1), (2, Bx.cell ae b2)]
noncomputable def kS (v126 : den af) (b0 : den ae) (b1 : den ae) (b2 : den ae) : ab := ab.ite (decide (v126 < 8)) (ab.req (inB v126 (↑8 : Int)) (ab.req (inB v126 (↑8 : Int)) (ab.req (inB v126 (↑8 : Int)) (ab.loop [] aQ (lp aN 16) [(2, K.ptr 0 ae []), (4, K.ptr (0 + 1) ae []), (6, K.ptr (0 + 1 + 1) ae []), (126, K.val af (IntKind.wrap IntKind.i64 (v126 + 1)))] [(0, Bx.cell ae (gf (Ty.int IntKind.u32) b0 v126 (IntKind.wrap IntKind.u32 (el (Ty.int IntKind.u32) b0 v126 + el (Ty.int IntKind.u32) b2 v126)))), (0 + 1, Bx.cell ae b1), (0 + 1 + 1, Bx.cell ae b2)])))) (ab.ret (K.val (Ty.pair ae Ty.unit) (b0, PUnit.unit)))
theorem eZ (v126 : den af) (b0 : den ae) (b1 : den ae) (b2 : den ae) : ax cm fl 5000 [] aQ (lp aN 16) (gi v126 b0 b1 b2) = kS v126 b0 b1 b2 := by kernel_rfl
end Go.Proofs.YtnakjijahkaoaaaDoor
namespace Go.Proofs.YtnakjijahkaoaaaDoor
open Go Go.RowKit
abbrev bP (l : List Int) (n : Int) : Int := el (.int .u32) l n
def Ao (x : Int) (k : Int) : Int := Int.fdiv x (2 ^ min (Int.toNat k) (IntKind.bits .u32))
def Bj (k : Int) (wt : Int) (v : List Int) : Int :=
 jV (jV (jV (jV (bP v 7) (de (bP v 4) 6 11 (cC (bP v 4) (-25)))) (xT (bP v 6) (zp (bP v 4) (xT (bP v 5) (bP v 6))))) k) wt
def A8 (v : List Int) : Int := lor (zp (bP v 0) (bP v 1)) (zp (bP v 2) (lor (bP v 0) (bP v 1)))
def ovV (k : Int) (wt : Int) (v : List Int) : List Int :=
 List.set (List.set (List.set (List.set (List.set (List.set (List.set (List.set (List.replicate 8 (zero (.int .u32))) 0
  (jV (jV (Bj k wt v) (de (bP v 0) 2 13 (cC (bP v 0) (-22)))) (A8 v))) 1 (bP v 0)) 2 (bP v 1)) 3 (bP v 2)) 4 (jV (bP v 3) (Bj k wt v))) 5 (bP v 4)) 6 (bP v 5)) 7 (bP v 6)
def ovB (s : ByteArray) (t : Int) : Int := mM (bQ s (IntKind.wrap .i64 (4 * t)) (IntKind.wrap .i64 (IntKind.wrap .i64 (4 * t) + 4)))
def ovN (w : List Int) (t : Int) : Int :=
 jV (jV (jV (de (bP w (IntKind.wrap .i64 (t - 2))) 17 19 (Ao (bP w (IntKind.wrap .i64 (t - 2))) 10)) (bP w (IntKind.wrap .i64 (t - 7))))
  (de (bP w (IntKind.wrap .i64 (t - 15))) 7 18 (Ao (bP w (IntKind.wrap .i64 (t - 15))) 3))) (bP w (IntKind.wrap .i64 (t - 16)))
def ovW (s : ByteArray) (w : List Int) (t : Int) : List Int := if t < 16 then gf (.int .u32) w t (ovB s t) else gf (.int .u32) w t (ovN w t)
def ovS (s : ByteArray) (v : List Int) : Nat → List Int × List Int
 | 0 => (zero (.arr 64 (.int .u32)), v)
 | i + 1 =>
  let p := ovS s v i
  let w := ovW s p.1 i
  (w, ovV (bP g8 i) (bP w i) p.2)
def ovA (h v : List Int) : Nat → List Int
 | 0 => h
 | i + 1 => gf (.int .u32) (ovA h v i) i (jV (bP (ovA h v i) i) (bP v i))
def nT (h : List Int) (s : ByteArray) : List Int := ovA h (ovS s h 64).2 8
noncomputable abbrev dA : bt := ⟨gU, dh, fun x => (nT x.1 x.2.1, ()), fun x => ByteArray.size x.2.1 = 64, false⟩
def kT (O : Nat → Prop) (w0 : World) (h v1 v : List Int) (out : List Int) (ho : out = ovA h v 8) :=
 PLift.up <| gO (σ := List Int) 8 (fun i b => b = ovA h v i)
  (fun i b => bG prog cm (Cx.base O w0) (ed prog O w0 dh fun y => y = (out, ())) [] aQ (lp aN 16) (gi (i : Nat) b v1 v))
  (fun i b hi hb ih => cr (cQ (bH ci) (bH fD) (bH dP)) (eZ _ b v1 v) (by
   refine ⟨fun _ => ⟨⟨Int.natCast_nonneg _, Int.ofNat_lt.2 hi⟩, ⟨Int.natCast_nonneg _, Int.ofNat_lt.2 hi⟩, ⟨Int.natCast_nonneg _, Int.ofNat_lt.2 hi⟩, ?_⟩, fun h => ?_⟩
   ·rw [jS hi (by omega)]
    refine ih _ ?_
    rw [hb]
    rfl
   ·exact absurd (Int.ofNat_lt.2 hi) (of_decide_eq_false h)))
  (fun b hb => cr (cQ (bH ci) (bH fD) (bH dP)) (eZ _ b v1 v) (by
   refine ⟨fun h => ?_, fun _ => ⟨_, rfl, ?_⟩⟩
   ·exact absurd (of_decide_eq_true h) (by decide)
   ·show (b, ()) = (out, ())
    rw [hb, ho]))
theorem ze (s : ByteArray) (a b : Int) : (bQ s a b).size ≤ s.size := by
 unfold bQ; rw [ByteArray.size_extract]; omega
theorem wr4 {i : Nat} (h : i < 16) : IntKind.wrap .i64 (4 * (i : Int)) = 4 * (i : Int) ∧ IntKind.wrap .i64 (IntKind.wrap .i64 (4 * (i : Int)) + 4) = 4 * (i : Int) + 4 := by
 have h1 : IntKind.wrap .i64 (4 * (i : Int)) = 4 * (i : Int) := gQ (by omega)
 refine ⟨h1, ?_⟩
 rw [h1]
 exact gQ (by omega)
theorem wrm {i : Nat} (k : Int) (h : i < 64) (h0 : 0 ≤ k) (h1 : k ≤ i) : inB (IntKind.wrap .i64 ((i : Int) - k)) ((64 : Nat) : Int) := by
 rw [gQ (by omega)]
 exact ⟨by omega, by omega⟩
theorem dB {a b : Int} (h : decide (0 ≤ a ∧ a < b) = true := by rfl) : inB a b := (of_decide_eq_true h : 0 ≤ a ∧ a < b)
theorem d0 {a : Int} (h : decide (0 ≤ a) = true := by rfl) : ge0 a := (of_decide_eq_true h : 0 ≤ a)
def lI (O : Nat → Prop) (w0 : World) (h b1 : List Int) (s : ByteArray) (hs : s.size = 64) :=
 PLift.up <| gO (σ := List Int × List Int) 64 (fun i b => b = ovS s h i)
  (fun i b => bG prog cm (Cx.base O w0) (ed prog O w0 dh fun y => y = (nT h s, ())) [] aQ (lp aN 4) (c4 s (i : Nat) h b1 b.1 b.2))
  (fun i b hi hb ih => cr (cQ (bH ci) (bH fD) (bH dP)) (fB s _ h b1 b.1 b.2) (by
   have hB : inB (i : Int) ((64 : Nat) : Int) := ⟨Int.natCast_nonneg _, Int.ofNat_lt.2 hi⟩
   refine ⟨fun _ => ⟨fun hl => ?_, fun hl => ?_⟩, fun h => ?_⟩
   ·have hl : i < 16 := Int.ofNat_lt.1 (of_decide_eq_true hl)
    refine ⟨?_, Nat.le_trans (ze _ _ _) (by rw [hs]; decide), bq ⟨hB, dB, dB, bq <| bq ⟨dB, trivial, trivial, dB, dB, dB, hB, hB, bq <| bq <| bq ⟨dB, dB, dB, trivial, trivial, dB, dB, dB, dB, dB, bq <| bq ?_⟩⟩⟩⟩
    ·rw [(wr4 hl).2, (wr4 hl).1]
     refine ⟨by omega, by omega, ?_⟩
     show 4 * (i : Int) + 4 ≤ (s.size : Int)
     rw [hs]; omega
    ·have hw : IntKind.wrap .i64 ((i : Int) + 1) = ((i + 1 : Nat) : Int) := jS hi (by omega)
     show bG _ _ _ _ _ _ _ (c4 s (IntKind.wrap .i64 ((i : Int) + 1)) h b1 _ _)
     rw [hw]
     refine ih (_, _) ?_
     rw [hb]
     have hlI : (i : Int) < 16 := Int.ofNat_lt.2 hl
     show _ = (ovW s (ovS s h i).1 i, ovV (bP g8 i) (bP (ovW s (ovS s h i).1 i) i) (ovS s h i).2)
     unfold ovW
     rw [if_pos hlI]
     rfl
   ·have hl : ¬ i < 16 := fun h => of_decide_eq_false hl (Int.ofNat_lt.2 h)
    refine ⟨wrm 15 hi (by decide) (by omega), wrm 2 hi (by decide) (by omega), bq <| bq ⟨d0, trivial, wrm 7 hi (by decide) (by omega), d0, trivial, wrm 16 hi (by decide) (by omega), hB, bq <| bq ⟨dB, dB, bq <| bq ⟨dB, trivial, trivial, dB, dB, dB, hB, hB, bq <| bq <| bq ⟨dB, dB, dB, trivial, trivial, dB, dB, dB, dB, dB, bq <| bq ?_⟩⟩⟩⟩⟩
    have hw : IntKind.wrap .i64 ((i : Int) + 1) = ((i + 1 : Nat) : Int) := jS hi (by omega)
    show bG _ _ _ _ _ _ _ (c4 s (IntKind.wrap .i64 ((i : Int) + 1)) h b1 _ _)
    rw [hw]
    refine ih (_, _) ?_
    rw [hb]
    have hlI : ¬ (i : Int) < 16 := fun h => hl (Int.ofNat_lt.1 h)
    show _ = (ovW s (ovS s h i).1 i, ovV (bP g8 i) (bP (ovW s (ovS s h i).1 i) i) (ovS s h i).2)
    unfold ovW
    rw [if_neg hlI]
    rfl
   ·exact absurd (Int.ofNat_lt.2 hi) (of_decide_eq_false h)))
  (fun b hb => cr (cQ (bH ci) (bH fD) (bH dP)) (fB s _ h b1 b.1 b.2) (by
   refine ⟨fun h => ?_, fun _ => ?_⟩
   ·exact absurd (of_decide_eq_true h) (by decide)
   ·exact (kT O w0 h b1 b.2 _ (by rw [hb]; rfl)).down 0 h (Nat.zero_le _) rfl))
theorem nP : aJ prog gl dz dA :=
 cO (S := dA) (cQ (bH ci) (bH fD) (bH dP)) (fx := aQ) m3 (by kernel_rfl) (fun h => by cases h) (T := fun x => ir x.1 x.2.1) (fun x => lB x.1 x.2.1) fun O w0 x _ hp =>
  (lI O w0 x.1 _ x.2.1 hp).down 0 (_, _) (Nat.zero_le _) rfl
end Go.Proofs.YtnakjijahkaoaaaDoor
namespace Go.Proofs
open Go.Shelf
def Tryd.lays156_ren : Go.Shelf.Ren := ⟨fun | 156 => 47 | 165 => 64 | 166 => 65 | 169 => 66 | 240 => 78 | 241 => 79 | 276 => 85 | 277 => 86 | n => n, fun | 31 => 79 | 9 => 9 | 3 => 3 | 4 => 4 | 0 => 0 | 20 => 20 | 72 => 116 | 76 => 120 | 70 => 114 | 37 => 64 | 75 => 119 | 127 => 132 | 164 => 138 | 5 => 5 | 80 => 122 | n => n, fun | n => n⟩
theorem Tryd.lays156 : Go.Proofs.Lays.n156 Tryd.prog Tryd.lays156_ren := {
 mixed := by kernel_rfl
 f156 := Tryd.func47.trans (congrArg some (by kernel_rfl))
 f165 := Tryd.func64.trans (congrArg some (by kernel_rfl))
 f166 := Tryd.func65.trans (congrArg some (by kernel_rfl))
 f169 := Tryd.func66.trans (congrArg some (by kernel_rfl))
 f240 := Tryd.func78.trans (congrArg some (by kernel_rfl))
 f241 := Tryd.func79.trans (congrArg some (by kernel_rfl))
 f276 := Tryd.func85.trans (congrArg some (by kernel_rfl))
 f277 := Tryd.func86.trans (congrArg some (by kernel_rfl))
 t0 := Tryd.underlying0
 a0 := Tryd.isAgg0
 z0 := Tryd.sizeOf0
 v0 := Tryd.zeroValue0
 t3 := Tryd.underlying3
 a3 := Tryd.isAgg3
 z3 := Tryd.sizeOf3
 v3 := Tryd.zeroValue3
 t4 := Tryd.underlying4
 a4 := Tryd.isAgg4
 z4 := Tryd.sizeOf4
 v4 := Tryd.zeroValue4
 t9 := Tryd.underlying9
 a9 := Tryd.isAgg9
 z9 := Tryd.sizeOf9
 v9 := Tryd.zeroValue9
 t20 := Tryd.underlying20
 a20 := Tryd.isAgg20
 z20 := Tryd.sizeOf20
 v20 := Tryd.zeroValue20
 t31 := Tryd.underlying79
 a31 := Tryd.isAgg79
 z31 := Tryd.sizeOf79
 v31 := Tryd.zeroValue79
 t37 := Tryd.underlying64
 a37 := Tryd.isAgg64
 z37 := Tryd.sizeOf64
 v37 := Tryd.zeroValue64
 t70 := Tryd.underlying114
 a70 := Tryd.isAgg114
 z70 := Tryd.sizeOf114
 v70 := Tryd.zeroValue114
 t72 := Tryd.underlying116
 a72 := Tryd.isAgg116
 z72 := Tryd.sizeOf116
 v72 := Tryd.zeroValue116
 t75 := Tryd.underlying119
 a75 := Tryd.isAgg119
 z75 := Tryd.sizeOf119
 v75 := Tryd.zeroValue119
 t76 := Tryd.underlying120
 a76 := Tryd.isAgg120
 z76 := Tryd.sizeOf120
 v76 := Tryd.zeroValue120
 t127 := Tryd.underlying132
 a127 := Tryd.isAgg132
 z127 := Tryd.sizeOf132
 v127 := Tryd.zeroValue132
 t164 := Tryd.underlying138
 a164 := Tryd.isAgg138
 z164 := Tryd.sizeOf138
 v164 := Tryd.zeroValue138 }
theorem Tryd.Builder_Extra_156 : Builder.Extra Tryd.prog Tryd.lays156_ren := {
 sizeBuilder := by kernel_rfl
 liesBuilder := by kernel_rfl
 t5 := Tryd.underlying5
 a5 := Tryd.isAgg5
 z5 := Tryd.sizeOf5
 v5 := Tryd.zeroValue5
 infoByte := by kernel_rfl
 cellsByte := by kernel_rfl
 sizeByte := by kernel_rfl
 neB5 := by decide }
open Go.RowKit in
theorem Tryd.strings_Join_none (a : Option Addr) (c : Nat) (sep : ByteArray) (w : World) :
    Calls Tryd.prog 47 #[.slice a 0 c, .string sep] w fun e w' => e = .returned (.string ⟨#[]⟩) ∧ w' = w := Any.strings_Join_none Tryd.lays156 Tryd.Builder_Extra_156 a c sep w
open Go.RowKit in
theorem Tryd.strings_Join (bk o c : Nat) (xs : List ByteArray) (sep : ByteArray) (w : World) (hcells : ∀ (j : Nat) x, xs[j]? = some x → w.cell? ⟨bk, o + j, none⟩ = some (.string x)) (hbk : bk < w.heap.size) (hN : xs.length ≤ 140737488355328) (hcap : xs.length ≤ c) (hlen : (Lib.join (xs.map (·.data.toList)) sep.data.toList).length ≤ 140737488355328) :
    Calls Tryd.prog 47 #[.slice (some ⟨bk, o, none⟩) xs.length c, .string sep] w fun e w' => e = .returned (.string ⟨(Lib.join (xs.map (·.data.toList)) sep.data.toList).toArray⟩) ∧ Below w.heap.size w w' := Any.strings_Join Tryd.lays156 Tryd.Builder_Extra_156 bk o c xs sep w hcells hbk hN hcap hlen
def Tryd.lays105_ren : Go.Shelf.Ren := ⟨fun | 105 => 62 | 212 => 75 | 99 => 76 | 165 => 64 | 166 => 65 | 170 => 77 | 169 => 66 | 263 => 82 | 264 => 83 | 206 => 84 | 240 => 78 | 241 => 79 | 276 => 85 | 277 => 86 | n => n, fun | 9 => 9 | 3 => 3 | 4 => 4 | 20 => 20 | 0 => 0 | 46 => 111 | 109 => 128 | 5 => 5 | 72 => 116 | 76 => 120 | 51 => 86 | 146 => 134 | 53 => 110 | 148 => 136 | 70 => 114 | 37 => 64 | 75 => 119 | 127 => 132 | 164 => 138 | 80 => 122 | n => n, fun | n => n⟩
theorem Tryd.lays105 : Go.Proofs.Lays.n105 Tryd.prog Tryd.lays105_ren := {
 mixed := by kernel_rfl
 f99 := Tryd.func76.trans (congrArg some (by kernel_rfl))
 f105 := Tryd.func62.trans (congrArg some (by kernel_rfl))
 f165 := Tryd.func64.trans (congrArg some (by kernel_rfl))
 f166 := Tryd.func65.trans (congrArg some (by kernel_rfl))
 f169 := Tryd.func66.trans (congrArg some (by kernel_rfl))
 f170 := Tryd.func77.trans (congrArg some (by kernel_rfl))
 f206 := Tryd.func84.trans (congrArg some (by kernel_rfl))
 f212 := Tryd.func75.trans (congrArg some (by kernel_rfl))
 f240 := Tryd.func78.trans (congrArg some (by kernel_rfl))
 f241 := Tryd.func79.trans (congrArg some (by kernel_rfl))
 f263 := Tryd.func82.trans (congrArg some (by kernel_rfl))
 f264 := Tryd.func83.trans (congrArg some (by kernel_rfl))
 f276 := Tryd.func85.trans (congrArg some (by kernel_rfl))
 f277 := Tryd.func86.trans (congrArg some (by kernel_rfl))
 t0 := Tryd.underlying0
 a0 := Tryd.isAgg0
 z0 := Tryd.sizeOf0
 v0 := Tryd.zeroValue0
 t3 := Tryd.underlying3
 a3 := Tryd.isAgg3
 z3 := Tryd.sizeOf3
 v3 := Tryd.zeroValue3
 t4 := Tryd.underlying4
 a4 := Tryd.isAgg4
 z4 := Tryd.sizeOf4
 v4 := Tryd.zeroValue4
 t5 := Tryd.underlying5
 a5 := Tryd.isAgg5
 z5 := Tryd.sizeOf5
 v5 := Tryd.zeroValue5
 t9 := Tryd.underlying9
 a9 := Tryd.isAgg9
 z9 := Tryd.sizeOf9
 v9 := Tryd.zeroValue9
 t20 := Tryd.underlying20
 a20 := Tryd.isAgg20
 z20 := Tryd.sizeOf20
 v20 := Tryd.zeroValue20
 t37 := Tryd.underlying64
 a37 := Tryd.isAgg64
 z37 := Tryd.sizeOf64
 v37 := Tryd.zeroValue64
 t46 := Tryd.underlying111
 a46 := Tryd.isAgg111
 z46 := Tryd.sizeOf111
 v46 := Tryd.zeroValue111
 t51 := Tryd.underlying86
 a51 := Tryd.isAgg86
 z51 := Tryd.sizeOf86
 v51 := Tryd.zeroValue86
 t53 := Tryd.underlying110
 a53 := Tryd.isAgg110
 z53 := Tryd.sizeOf110
 v53 := Tryd.zeroValue110
 t70 := Tryd.underlying114
 a70 := Tryd.isAgg114
 z70 := Tryd.sizeOf114
 v70 := Tryd.zeroValue114
 t72 := Tryd.underlying116
 a72 := Tryd.isAgg116
 z72 := Tryd.sizeOf116
 v72 := Tryd.zeroValue116
 t75 := Tryd.underlying119
 a75 := Tryd.isAgg119
 z75 := Tryd.sizeOf119
 v75 := Tryd.zeroValue119
 t76 := Tryd.underlying120
 a76 := Tryd.isAgg120
 z76 := Tryd.sizeOf120
 v76 := Tryd.zeroValue120
 t109 := Tryd.underlying128
 a109 := Tryd.isAgg128
 z109 := Tryd.sizeOf128
 v109 := Tryd.zeroValue128
 t127 := Tryd.underlying132
 a127 := Tryd.isAgg132
 z127 := Tryd.sizeOf132
 v127 := Tryd.zeroValue132
 t146 := Tryd.underlying134
 a146 := Tryd.isAgg134
 z146 := Tryd.sizeOf134
 v146 := Tryd.zeroValue134
 t148 := Tryd.underlying136
 a148 := Tryd.isAgg136
 z148 := Tryd.sizeOf136
 v148 := Tryd.zeroValue136
 t164 := Tryd.underlying138
 a164 := Tryd.isAgg138
 z164 := Tryd.sizeOf138
 v164 := Tryd.zeroValue138 }
theorem Tryd.Builder_Extra_105 : Builder.Extra Tryd.prog Tryd.lays105_ren := {
 sizeBuilder := by kernel_rfl
 liesBuilder := by kernel_rfl
 t5 := Tryd.underlying5
 a5 := Tryd.isAgg5
 z5 := Tryd.sizeOf5
 v5 := Tryd.zeroValue5
 infoByte := by kernel_rfl
 cellsByte := by kernel_rfl
 sizeByte := by kernel_rfl
 neB5 := by decide }
open Go.RowKit Go.Lib in
theorem Tryd.strings_Repeat (s : ByteArray) (c : Nat) (w : World) (hc : c ≤ 9223372036854775807) (hlen : s.size * c ≤ 140737488355328) :
    Calls Tryd.prog 62 #[.string s, .int .i64 c] w fun e w' => e = .returned (.string ⟨(Lib.repeatL s.data.toList c).toArray⟩) ∧ Below w.heap.size w w' := Any.strings_Repeat Tryd.lays105 Tryd.Builder_Extra_105 s c w hc hlen
end Go.Proofs
namespace Go.Proofs.YtnakjijahkaoaaaDoor
open Go Go.RowKit
def bj (xs : List ByteArray) (sep : ByteArray) : ByteArray := ⟨(Lib.join (xs.map (·.data.toList)) sep.data.toList).toArray⟩
def jn (s : ByteArray) (c : Int) : ByteArray := ⟨(Lib.repeatL s.data.toList c.toNat).toArray⟩
theorem rX {w w' : World} (h : Below w.heap.size w w') : Kept w w' := ⟨h.os, h.tape, h.output, h.size, h.block⟩
theorem nW (l : List UInt8) : ByteArray.size ⟨l.toArray⟩ = l.length := by
 show l.toArray.size = l.length
 exact List.size_toArray ..
theorem rp {P : Program} {O : Nat → Prop} {w : World} : ∀ {xs : List ByteArray} {L : List Value}, ag (fun cs x => Rep P .str .cells O w cs x) 1 L xs → ∀ (j : Nat) x, xs[j]? = some x → L[j]? = some (.string x)
 | [], _, _, j, x, hx => by simp at hx
 | y :: ys, L, h, j, x, hx => by
  cases L with
  | nil => obtain ⟨⟨h1, _⟩, _⟩ := h; simp at h1
  | cons u us =>
   obtain ⟨⟨h1, _⟩, h2⟩ := h
   cases j with
   | zero =>
    simp at hx h1
    simp [← hx, h1]
   | succ j =>
    simp at hx h2
    simpa using rp h2 j x hx
noncomputable abbrev eD : bt := ⟨sb, rB, fun x => (bj x.1 x.2.1, ()), fun x => List.length x.1 ≤ 1000000 ∧ ByteArray.size (bj x.1 x.2.1) ≤ 1000000, false⟩
theorem so : aJ prog [] f5 eD := by
 refine ⟨ge r9 (by kernel_rfl) (by kernel_rfl), (fun h => by cases h), fun O w vs x hO _ hx hp => ?_⟩
 obtain ⟨xs, sep, ⟨⟩⟩ := x
 obtain ⟨rest, cs, rfl, ⟨a, c, L, rfl, h2, h3, h4, h5, h6, h7⟩, rest', cs', rfl, ⟨rfl, hs⟩, hn⟩ := hx
 have hn : rest' = [] := hn
 subst hn
 have hp1 : xs.length ≤ 1000000 := hp.1
 have hp2 : (Lib.join (xs.map (·.data.toList)) sep.data.toList).length ≤ 1000000 := by
  have := hp.2
  unfold bj at this
  rwa [nW] at this
 have fin : ∀ e w', e = .returned (.string (bj xs sep)) → Kept w w' → ∃ v, e = Ending.returned v ∧ Kept w w' ∧ Rep prog eD.rs .result O w' [v] (eD.g (xs, sep, ())) := by
  intro e w' he hk
  refine ⟨_, he, hk, ?_⟩
  refine ⟨[], [.string (bj xs sep)], rfl, ⟨rfl, ?_⟩, rfl⟩
  show (bj xs sep).size ≤ maxLen
  unfold bj
  rw [nW]
  exact Nat.le_trans hp2 (by decide)
 cases hx0 : xs with
 | nil =>
  subst hx0
  refine Calls.mono (Tryd.strings_Join_none a c sep w) fun e w' he => ?_
  exact fin e w' he.1 (by rw [he.2]; exact Kept.refl w)
 | cons x0 xr =>
  rw [← hx0]
  obtain ⟨ad, ha, hO', hb, hc⟩ := h6 (by rw [hx0]; exact List.cons_ne_nil _ _)
  subst ha
  obtain ⟨bk, o, sp⟩ := ad
  have hat : ∀ (j : Nat) x, xs[j]? = some x → w.cell? ((⟨bk, o, sp⟩ : Addr).add j) = some (.string x) := fun j x hx => hc j _ (rp h5 j x hx)
  have hsp : sp = none := by
   have h0 := hat 0 x0 (by rw [hx0]; rfl)
   have e : (⟨bk, o, sp⟩ : Addr).add 0 = ⟨bk, o, sp⟩ := rfl
   rw [e] at h0
   unfold World.cell? at h0
   cases sp with
   | none => rfl
   | some q =>
    exfalso
    simp only [Option.isSome_some, if_true] at h0
    split at h0 <;> cases h0
  subst hsp
  have hcells : ∀ (j : Nat) x, xs[j]? = some x → w.cell? ⟨bk, o + j, none⟩ = some (.string x) := fun j x hx => by
   have h := hat j x hx
   unfold Addr.add at h
   split at h
   ·next hj => subst hj; exact h
   ·exact h
  exact Calls.mono (Tryd.strings_Join bk o c xs sep w hcells hb (by omega) h2 (Nat.le_trans hp2 (by decide))) fun e w' he => fin e w' he.1 (rX he.2)
noncomputable abbrev gJ : bt := ⟨pF, pD, fun x => (jn x.1 x.2.1, ()), fun x => (0 : Int) ≤ x.2.1 ∧ (x.2.1 : Int) ≤ 1000000 ∧ ByteArray.size x.1 = 1, false⟩
theorem qF : aJ prog [] eS gJ := by
 refine ⟨ge py (by kernel_rfl) (by kernel_rfl), (fun h => by cases h), fun O w vs x hO _ hx hp => ?_⟩
 obtain ⟨s, c, ⟨⟩⟩ := x
 obtain ⟨rest, cs, rfl, ⟨rfl, hs⟩, rest', cs', rfl, ⟨rfl, hc⟩, hn⟩ := hx
 have hn : rest' = [] := hn
 subst hn
 have h0 : (0 : Int) ≤ c := hp.1
 have h1 : (c : Int) ≤ 1000000 := hp.2.1
 have hs1 : s.size = 1 := hp.2.2
 obtain ⟨n, hn⟩ : ∃ n : Nat, (n : Int) = c := ⟨Int.toNat c, Int.toNat_of_nonneg h0⟩
 subst hn
 have hlt : n ≤ 1000000 := Int.ofNat_le.1 h1
 refine Calls.mono (Tryd.strings_Repeat s n w (Nat.le_trans hlt (by decide)) (by rw [hs1, Nat.one_mul]; exact Nat.le_trans hlt (by decide))) fun e w' he => ?_
 refine ⟨_, he.1, rX he.2, ?_⟩
 have e : jn s (n : Int) = ⟨(Lib.repeatL s.data.toList n).toArray⟩ := rfl
 refine ⟨[], [.string (jn s n)], rfl, ⟨rfl, ?_⟩, rfl⟩
 show (jn s (n : Int)).size ≤ maxLen
 rw [e, nW, Lib.repeatL_length]
 have : s.data.toList.length = 1 := hs1
 rw [this, Nat.mul_one]
 exact Nat.le_trans hlt (by decide)
end Go.Proofs.YtnakjijahkaoaaaDoor
namespace Go.Proofs.YtnakjijahkaoaaaDoor
open Go Go.RowKit
noncomputable abbrev dt : Fx := { fn := c5, ann := { loops := [(5, { keep := [1, 3, 19] })], frz := [(1000005, [2, 3])] } }
noncomputable abbrev cW : Fx := { fn := cK, ann := { loops := [(0, { keep := [0, 1] })], frz := [(1000000, [2, 3])] } }
noncomputable abbrev bh : Fx := { fn := aA, ann := { loops := [(7, { keep := [2, 3, 5, 15] })] } }
noncomputable abbrev cH : bf := { D := { T := bN, F := [(ft, fp), (dz, dA), (f5, eD), (eS, gJ)], R := [], ovl := [], G := gl }, inl := [(k8, dt), (jr, cW)] }
noncomputable abbrev im : bY := .data eY
theorem uz (h_digest_begins : aJ prog gl ft fp) (h_digest_words_over : aJ prog gl dz dA) (h_strings_Join : aJ prog gl f5 eD) (h_strings_Repeat : aJ prog gl eS gJ) : XOk prog cH := xok (aS (aS (aS (aS (bo bu a8) h_strings_Repeat) h_strings_Join) h_digest_words_over) h_digest_begins) (by kernel_rfl) bg (jL qh (by kernel_rfl) (jL oN (by kernel_rfl) bA)) bw
noncomputable def ou (l : den (Ty.slc Ty.str)) : ab := ab.req True (ab.req (List.length l ≤ 1000000 ∧ ByteArray.size (bj l { data := { toList := [] } }) ≤ 1000000) (ab.req (ge0 3) (ab.req (ByteArray.size (bj l { data := { toList := [] } }) + ByteArray.size { data := { toList := [128] } } ≤ 1099511627776) (ab.req (nz 64) (ab.req (nz 64) (ab.req (0 ≤ Int.tmod (IntKind.wrap IntKind.i64 (120 - Int.tmod (aP (bj l { data := { toList := [] } } ++ { data := { toList := [128] } })) 64)) 64 ∧ Int.tmod (IntKind.wrap IntKind.i64 (120 - Int.tmod (aP (bj l { data := { toList := [] } } ++ { data := { toList := [128] } })) 64)) 64 ≤ 1000000 ∧ ByteArray.size { data := { toList := [0] } } = 1) (ab.req (ByteArray.size (bj l { data := { toList := [] } } ++ { data := { toList := [128] } }) + ByteArray.size (jn { data := { toList := [0] } } (Int.tmod (IntKind.wrap IntKind.i64 (120 - Int.tmod (aP (bj l { data := { toList := [] } } ++ { data := { toList := [128] } })) 64)) 64)) ≤ 1099511627776) (ab.loop [{ fx := bh, todo := fT aA 2 2, dst := some 10, s := ofS [(2, K.ptr (0 + 1) tId []), (3, K.ptr (0 + 1 + 1) ae [])] }] dt (lp c5 5) [(1, K.ptr 0 Ty.str []), (3, K.val (Ty.int IntKind.u64) (IntKind.wrap IntKind.u64 (IntKind.wrap IntKind.u64 (aP (bj l { data := { toList := [] } })) * 2 ^ min (Int.toNat 3) (IntKind.bits IntKind.u64)))), (19, K.val af 0)] [(0, Bx.cell Ty.str (bj l { data := { toList := [] } } ++ { data := { toList := [128] } } ++ jn { data := { toList := [0] } } (Int.tmod (IntKind.wrap IntKind.i64 (120 - Int.tmod (aP (bj l { data := { toList := [] } } ++ { data := { toList := [128] } })) 64)) 64))), (0 + 1, Bx.cell tId (zero tId)), (0 + 1 + 1, Bx.cell ae iz)]))))))))
theorem rV (l : den (Ty.slc Ty.str)) : ax cH im 5000 [] bh (aI aA) (Env.of (aX nB (l, ()) 0) []) = ou l := by kernel_rfl
noncomputable def eB (v3 : den (Ty.int IntKind.u64)) (v19 : den af) (b0 : den Ty.str) (b1 : den tId) (b2 : den ae) : List bm := [{ fx := bh, todo := fT aA 2 2, dst := some 10, s := ofS [(2, K.ptr (0 + 1) tId []), (3, K.ptr (0 + 1 + 1) ae [])] }]
noncomputable def ew (v3 : den (Ty.int IntKind.u64)) (v19 : den af) (b0 : den Ty.str) (b1 : den tId) (b2 : den ae) : Env := Env.of [(1, K.ptr 0 Ty.str []), (3, K.val (Ty.int IntKind.u64) v3), (19, K.val af v19)] [(0, Bx.cell Ty.str b0), (1, Bx.cell tId b1), (2, Bx.cell ae b2)]
noncomputable def io (v3 : den (Ty.int IntKind.u64)) (v19 : den af) (b0 : den Ty.str) (b1 : den tId) (b2 : den ae) : ab := ab.ite (decide (v19 < 8)) (ab.req (ge0 (IntKind.wrap IntKind.i64 (8 * IntKind.wrap IntKind.i64 (7 - v19)))) (ab.req (ByteArray.size b0 + ByteArray.size (aO (List.set (List.replicate 1 (zero (Ty.int IntKind.u8))) 0 (IntKind.wrap IntKind.u8 (Int.fdiv v3 (2 ^ min (Int.toNat (IntKind.wrap IntKind.i64 (8 * IntKind.wrap IntKind.i64 (7 - v19)))) (IntKind.bits IntKind.u64)))))) ≤ 1099511627776) (ab.loop [{ fx := bh, todo := fT aA 2 2, dst := some 10, s := ofS [(2, K.ptr (0 + 1) tId []), (3, K.ptr (0 + 1 + 1) ae [])] }] dt (lp c5 5) [(1, K.ptr 0 Ty.str []), (3, K.val (Ty.int IntKind.u64) v3), (19, K.val af (IntKind.wrap IntKind.i64 (v19 + 1)))] [(0, Bx.cell Ty.str (b0 ++ aO (List.set (List.replicate 1 (zero (Ty.int IntKind.u8))) 0 (IntKind.wrap IntKind.u8 (Int.fdiv v3 (2 ^ min (Int.toNat (IntKind.wrap IntKind.i64 (8 * IntKind.wrap IntKind.i64 (7 - v19)))) (IntKind.bits IntKind.u64))))))), (0 + 1, Bx.cell tId b1), (0 + 1 + 1, Bx.cell ae b2)]))) (ab.loop [{ fx := bh, todo := m0 aA 4, dst := none, s := ofS [(2, K.ptr (0 + 1 + 1) tId []), (3, K.ptr (0 + 1 + 1 + 1) ae [])], rng := some 0 }] cW (lp cK 0) [(0, K.yld 0), (1, K.ptr (0 + 1) Ty.str [])] [(0, Bx.lop LoopState.ready none [(3, K.ptr (0 + 1 + 1 + 1) ae [])] 32 (zT aA 4) (qy aA 4) (vl aA 4)), (0 + 1, Bx.cell Ty.str b0), (0 + 1 + 1, Bx.cell tId b1), (0 + 1 + 1 + 1, Bx.cell ae b2)])
theorem dq (v3 : den (Ty.int IntKind.u64)) (v19 : den af) (b0 : den Ty.str) (b1 : den tId) (b2 : den ae) : ax cH im 5000 (eB v3 v19 b0 b1 b2) dt (lp c5 5) (ew v3 v19 b0 b1 b2) = io v3 v19 b0 b1 b2 := by kernel_rfl
noncomputable def dL (b1 : den Ty.str) (b2 : den tId) (b3 : den ae) : List bm := [{ fx := bh, todo := m0 aA 4, dst := none, s := ofS [(2, K.ptr (0 + 1 + 1) tId []), (3, K.ptr (0 + 1 + 1 + 1) ae [])], rng := some 0 }]
noncomputable def dO (b1 : den Ty.str) (b2 : den tId) (b3 : den ae) : Env := Env.of [(0, K.yld 0), (1, K.ptr (0 + 1) Ty.str [])] [(0, Bx.lop LoopState.ready none [(3, K.ptr (0 + 1 + 1 + 1) ae [])] 32 (zT aA 4) (qy aA 4) (vl aA 4)), (1, Bx.cell Ty.str b1), (2, Bx.cell tId b2), (3, Bx.cell ae b3)]
noncomputable def gS (b1 : den Ty.str) (b2 : den tId) (b3 : den ae) : ab := ab.ite (!eqb Ty.str b1 { data := { toList := [] } }) (ab.req (ba 0 64 (aP b1)) (ab.req (ByteArray.size (bQ b1 0 64) = 64) (ab.ite (!true) (ab.loop [] bh (lp aA 7) [(2, K.ptr 0 tId []), (3, K.ptr (0 + 1) ae []), (5, K.ptr (0 + 1 + 1) tId []), (15, K.val af 0)] [(0, Bx.cell tId b2), (0 + 1, Bx.cell ae (nT b3 (bQ b1 0 64))), (0 + 1 + 1, Bx.cell tId (zero tId))]) (ab.req (ba 64 (aP b1) (aP b1)) (ab.loop [{ fx := bh, todo := m0 aA 4, dst := none, s := ofS [(2, K.ptr (0 + 1 + 1) tId []), (3, K.ptr (0 + 1 + 1 + 1) ae [])], rng := some 0 }] cW (lp cK 0) [(0, K.yld 0), (1, K.ptr (0 + 1) Ty.str [])] [(0, Bx.lop LoopState.ready none [(3, K.ptr (0 + 1 + 1 + 1) ae [])] 32 (zT aA 4) (qy aA 4) (vl aA 4)), (0 + 1, Bx.cell Ty.str (bQ b1 64 (aP b1))), (0 + 1 + 1, Bx.cell tId b2), (0 + 1 + 1 + 1, Bx.cell ae (nT b3 (bQ b1 0 64)))]))))) (ab.loop [] bh (lp aA 7) [(2, K.ptr 0 tId []), (3, K.ptr (0 + 1) ae []), (5, K.ptr (0 + 1 + 1) tId []), (15, K.val af 0)] [(0, Bx.cell tId b2), (0 + 1, Bx.cell ae b3), (0 + 1 + 1, Bx.cell tId (zero tId))])
theorem dc (b1 : den Ty.str) (b2 : den tId) (b3 : den ae) : ax cH im 5000 (dL b1 b2 b3) cW (lp cK 0) (dO b1 b2 b3) = gS b1 b2 b3 := by kernel_rfl
noncomputable def lZ (v15 : den af) (b0 : den tId) (b1 : den ae) (b2 : den tId) : Env := Env.of [(2, K.ptr 0 tId []), (3, K.ptr (0 + 1) ae []), (5, K.ptr (0 + 1 + 1) tId []), (15, K.val af v15)] [(0, Bx.cell tId b0), (1, Bx.cell ae b1), (2, Bx.cell tId b2)]
noncomputable def rt (v15 : den af) (b0 : den tId) (b1 : den ae) (b2 : den tId) : ab := ab.ite (decide (v15 < 32)) (ab.req (nz 4) (ab.req (inB (IntKind.wrap IntKind.i64 (Int.tdiv v15 4)) (↑8 : Int)) (ab.req (nz 4) (ab.req (ge0 (IntKind.wrap IntKind.i64 (24 - IntKind.wrap IntKind.i64 (8 * Int.tmod v15 4)))) (ab.req (inB v15 (↑32 : Int)) (ab.loop [] bh (lp aA 7) [(2, K.ptr 0 tId []), (3, K.ptr (0 + 1) ae []), (5, K.ptr (0 + 1 + 1) tId []), (15, K.val af (IntKind.wrap IntKind.i64 (v15 + 1)))] [(0, Bx.cell tId b0), (0 + 1, Bx.cell ae b1), (0 + 1 + 1, Bx.cell tId (gf (Ty.int IntKind.u8) b2 v15 (IntKind.wrap IntKind.u8 (Int.fdiv (el (Ty.int IntKind.u32) b1 (IntKind.wrap IntKind.i64 (Int.tdiv v15 4))) (2 ^ min (Int.toNat (IntKind.wrap IntKind.i64 (24 - IntKind.wrap IntKind.i64 (8 * Int.tmod v15 4)))) (IntKind.bits IntKind.u32))))))])))))) (ab.ret (K.val (Ty.pair tId Ty.unit) (b2, PUnit.unit)))
theorem i8 (v15 : den af) (b0 : den tId) (b1 : den ae) (b2 : den tId) : ax cH im 5000 [] bh (lp aA 7) (lZ v15 b0 b1 b2) = rt v15 b0 b1 b2 := by kernel_rfl
end Go.Proofs.YtnakjijahkaoaaaDoor
namespace Go.Proofs.YtnakjijahkaoaaaDoor
open Go Go.RowKit
def e0 : ByteArray := { data := { toList := [] } }
def qd : ByteArray := { data := { toList := [128] } }
def bz : ByteArray := { data := { toList := [0] } }
def lF (s : ByteArray) : Int := Int.tmod (IntKind.wrap .i64 (120 - Int.tmod (aP (s ++ qd)) 64)) 64
def rb (s : ByteArray) : Int := IntKind.wrap .u64 (IntKind.wrap .u64 (aP s) * 2 ^ min (Int.toNat 3) (IntKind.bits .u64))
def tY (s : ByteArray) (i : Int) : ByteArray :=
 aO (List.set (List.replicate 1 (zero (Ty.int IntKind.u8))) 0
  (IntKind.wrap .u8 (Int.fdiv (rb s) (2 ^ min (Int.toNat (IntKind.wrap .i64 (8 * IntKind.wrap .i64 (7 - i)))) (IntKind.bits .u64)))))
def qI (s : ByteArray) : Nat → ByteArray
 | 0 => s ++ qd ++ jn bz (lF s)
 | i + 1 => qI s i ++ tY s i
def goR : Nat → ByteArray → List Int → List Int
 | 0, _, h => h
 | m + 1, s, h => goR m (bQ s 64 (aP s)) (nT h (bQ s 0 64))
def Bz (h : List Int) (i : Int) : Int :=
 IntKind.wrap .u8 (Int.fdiv (el (Ty.int IntKind.u32) h (IntKind.wrap .i64 (Int.tdiv i 4))) (2 ^ min (Int.toNat (IntKind.wrap .i64 (24 - IntKind.wrap .i64 (8 * Int.tmod i 4)))) (IntKind.bits .u32)))
def sh (h : List Int) : Nat → List Int
 | 0 => zero tId
 | i + 1 => gf (Ty.int IntKind.u8) (sh h i) i (Bz h i)
def pv (s : ByteArray) : Nat := (s.size + 8) / 64 + 1
def xf (s : ByteArray) : List Int := sh (goR (pv s) (qI s 8) iz) 32
def jA (l : List ByteArray) : List Int := xf (bj l e0)
theorem yq {n : Int} (h : 0 ≤ n) : ((jn bz n).size : Int) = n := by
 unfold jn
 rw [nW, Lib.repeatL_length]
 have : bz.data.toList.length = 1 := rfl
 rw [this, Nat.mul_one, Int.toNat_of_nonneg h]
theorem rv (s : ByteArray) (i : Int) : (tY s i).size = 1 := rfl
theorem pc {s : ByteArray} (hs : s.size ≤ 900000) : lF s = (120 - ((s.size : Int) + 1) % 64) % 64 := by
 have h1 : aP (s ++ qd) = (s.size : Int) + 1 := by
  unfold aP
  rw [ByteArray.size_append]
  rfl
 unfold lF
 have h2 : Int.tmod ((s.size : Int) + 1) 64 = ((s.size : Int) + 1) % 64 := Int.tmod_eq_emod_of_nonneg (by omega)
 rw [h1, h2, gQ (by omega)]
 exact Int.tmod_eq_emod_of_nonneg (by omega)
theorem ll {s : ByteArray} (hs : s.size ≤ 900000) : ∀ i : Nat, ((qI s i).size : Int) = (s.size : Int) + 1 + (120 - ((s.size : Int) + 1) % 64) % 64 + i
 | 0 => by
  have h0 : (0 : Int) ≤ lF s := by rw [pc hs]; exact Int.emod_nonneg _ (by decide)
  show ((s ++ qd ++ jn bz (lF s)).size : Int) = _
  rw [ByteArray.size_append, ByteArray.size_append]
  have h1 := yq h0
  rw [pc hs] at h1
  have h2 : qd.size = 1 := rfl
  rw [pc hs]
  omega
 | i + 1 => by
  show ((qI s i ++ tY s i).size : Int) = _
  rw [ByteArray.size_append, rv]
  have := ll hs i
  omega
theorem zC {s : ByteArray} (hs : s.size ≤ 900000) : (qI s 8).size = 64 * pv s := by
 have h := ll hs 8
 unfold pv
 omega
theorem da : XOk prog cH := uz (bH rM) nP (bH so) (bH qF)
theorem rn : ∀ i : Nat, i < 32 → (0 ≤ IntKind.wrap .i64 (Int.tdiv (i : Int) 4) ∧ IntKind.wrap .i64 (Int.tdiv (i : Int) 4) < ((8 : Nat) : Int)) ∧
    0 ≤ IntKind.wrap .i64 (24 - IntKind.wrap .i64 (8 * Int.tmod (i : Int) 4)) := by decide
def r8 (O : Nat → Prop) (w0 : World) (b0 h : List Int) (out : List Int) (ho : out = sh h 32) :=
 PLift.up <| gO (σ := List Int) 32 (fun i b => b = sh h i)
  (fun i b => bG prog cH (Cx.base O w0) (ed prog O w0 eY fun y => y = (out, ())) [] bh (lp aA 7) (lZ (i : Nat) b0 h b))
  (fun i b hi hb ih => cr da (i8 _ b0 h b) (by
   refine ⟨fun _ => ⟨show (4 : Int) ≠ 0 by decide, (rn i hi).1, show (4 : Int) ≠ 0 by decide, (rn i hi).2, ⟨Int.natCast_nonneg _, Int.ofNat_lt.2 hi⟩, ?_⟩, fun h => ?_⟩
   ·rw [jS hi (by omega)]
    refine ih _ ?_
    rw [hb]
    rfl
   ·exact absurd (Int.ofNat_lt.2 hi) (of_decide_eq_false h)))
  (fun b hb => cr da (i8 _ b0 h b) (by
   refine ⟨fun h => ?_, fun _ => ⟨_, rfl, ?_⟩⟩
   ·exact absurd (of_decide_eq_true h) (by decide)
   ·show (b, ()) = (out, ())
    rw [hb, ho]))
theorem yb {s : ByteArray} {m : Nat} (h : s.size = 64 * (m + 1)) : (bQ s 64 (aP s)).size = 64 * m := by
 unfold bQ aP
 rw [ByteArray.size_extract, Int.toNat_natCast]
 have : Int.toNat 64 = 64 := rfl
 omega
theorem yn {s : ByteArray} {m : Nat} (h : s.size = 64 * (m + 1)) : (bQ s 0 64).size = 64 := by
 unfold bQ
 rw [ByteArray.size_extract]
 have h1 : Int.toNat 64 = 64 := rfl
 have h2 : Int.toNat 0 = 0 := rfl
 omega
theorem qP (O : Nat → Prop) (w0 : World) (b2 out : List Int) (m : Nat) : ∀ (s : ByteArray) (h : List Int), s.size = 64 * m → out = sh (goR m s h) 32 →
    bG prog cH (Cx.base O w0) (ed prog O w0 eY fun y => y = (out, ())) (dL s b2 h) cW (lp cK 0) (dO s b2 h) := by
  induction m with
  | zero =>
    intro s h hs ho
    have e : s = e0 := ByteArray.ext (Array.eq_empty_of_size_eq_zero hs)
    have e1 : eqb Ty.str s e0 = true := (iw (t := .str) rfl s e0).2 e
    refine cr da (dc s b2 h) ⟨fun hc => ?_, fun _ => ?_⟩
    · have hc : (!eqb Ty.str s e0) = true := hc
      rw [e1] at hc
      cases hc
    · exact (r8 O w0 b2 h out ho).down 0 _ (Nat.zero_le _) rfl
  | succ m ih =>
    intro s h hs ho
    have hl : aP s = 64 * ((m : Int) + 1) := by unfold aP; rw [hs]; omega
    refine cr da (dc s b2 h) ⟨fun _ => ⟨?_, yn hs, fun hc => ?_, fun _ => ⟨?_, ?_⟩⟩, fun hc => ?_⟩
    · rw [hl]
      exact ⟨by decide, by decide, by omega⟩
    · cases hc
    · rw [hl]
      exact ⟨by decide, by omega, Int.le_refl _⟩
    · exact ih _ _ (yb hs) ho
    · have hc : (!eqb Ty.str s e0) = false := hc
      have e : s = e0 := (iw (t := .str) rfl s e0).1 (by cases h1 : eqb Ty.str s e0 with | true => rfl | false => rw [h1] at hc; cases hc)
      rw [e] at hs
      have : e0.size = 0 := rfl
      omega
def rI (O : Nat → Prop) (w0 : World) (s : ByteArray) (hs : s.size ≤ 900000) :=
 PLift.up <| gO (σ := ByteArray) 8 (fun i b => b = qI s i)
  (fun i b => bG prog cH (Cx.base O w0) (ed prog O w0 eY fun y => y = (xf s, ())) (eB (rb s) (i : Nat) b (zero tId) iz) dt (lp c5 5) (ew (rb s) (i : Nat) b (zero tId) iz))
  (fun i b hi hb ih => cr da (dq (rb s) _ b _ _) (by
   have hz : b.size ≤ 1000000 := by have := ll hs i; rw [hb]; omega
   refine ⟨fun _ => ⟨?_, ?_, ?_⟩, fun h => ?_⟩
   ·show (0 : Int) ≤ IntKind.wrap .i64 (8 * IntKind.wrap .i64 (7 - (i : Int)))
    rw [gQ (n := 7 - (i : Int)) (by omega), gQ (by omega)]
    omega
   ·show b.size + (tY s i).size ≤ _
    rw [rv]
    omega
   ·rw [jS hi (by omega)]
    refine ih _ ?_
    rw [hb]
    rfl
   ·exact absurd (Int.ofNat_lt.2 hi) (of_decide_eq_false h)))
  (fun b hb => cr da (dq (rb s) _ b _ _) (by
   refine ⟨fun h => ?_, fun _ => ?_⟩
   ·exact absurd (of_decide_eq_true h) (by decide)
   ·exact qP O w0 _ _ (pv s) b iz (by rw [hb]; exact zC hs) (by rw [hb]; rfl)))
noncomputable abbrev er : bt := ⟨nB, eY, fun x => (jA x.1, ()), fun x => List.length x.1 ≤ 1000000 ∧ ByteArray.size (bj x.1 e0) ≤ 900000, false⟩
theorem ov : aJ prog gl eC er :=
 cO (S := er) da (fx := bh) tC (by kernel_rfl) (fun h => by cases h) (T := fun x => ou x.1) (fun x => rV x.1) fun O w0 x _ hp => by
  obtain ⟨l, ⟨⟩⟩ := x
  have hp1 : List.length l ≤ 1000000 := hp.1
  have hp2 : (bj l e0).size ≤ 900000 := hp.2
  have hk : lF (bj l e0) = _ := pc hp2
  refine ⟨trivial, ⟨hp1, Nat.le_trans hp2 (by decide)⟩, by show (0 : Int) ≤ 3; decide, ?_, show (64 : Int) ≠ 0 by decide, show (64 : Int) ≠ 0 by decide, ⟨?_, ?_, rfl⟩, ?_, ?_⟩
  ·show (bj l e0).size + 1 ≤ _
   omega
  ·show (0 : Int) ≤ lF (bj l e0)
   rw [hk]; omega
  ·show lF (bj l e0) ≤ 1000000
   rw [hk]; omega
  ·show (bj l e0 ++ qd).size + (jn bz (lF (bj l e0))).size ≤ _
   have h := ll hp2 0
   have : (qI (bj l e0) 0).size = (bj l e0 ++ qd).size + (jn bz (lF (bj l e0))).size := ByteArray.size_append
   omega
  ·exact (rI O w0 (bj l e0) hp2).down 0 _ (Nat.zero_le _) rfl
end Go.Proofs.YtnakjijahkaoaaaDoor
namespace Go.Proofs.YtnakjijahkaoaaaDoor
open Go Go.RowKit
end Go.Proofs.YtnakjijahkaoaaaDoor
namespace Go.Proofs.YtnakjijahkaoaaaDoor
open Go Go.RowKit Go.ChangeShapes Go.WideShapes Go.ChangeAt
def mR : List (String × DataW Unit) := [("posthouse/digest.keys", Rows.laid_posthouse_digest_keys)]
noncomputable def xo : Nat := ((prog.globals[0]?).map (·.type)).getD 0
theorem zO : (prog.globals[0]?).map (·.type) = some xo := by kernel_rfl
theorem yg : bN.lookup xo = some (.arr 64 (.int .u32)) := by kernel_rfl
theorem Bw : prog.globalNamed "posthouse/digest.keys" = some 0 := by kernel_rfl
def yC : DataW Unit → Int := fun | .lit (.int _ n) => n | _ => 0
theorem oL {P : Program} {O : Nat → Prop} {w : World} {k : IntKind} : ∀ (cs : List Value) (ds : List (DataW Unit)), cs.length = ds.length →
    (∀ (i : Nat) c d, cs[i]? = some c → ds[i]? = some d → ∃ z, c = .int k z ∧ d = .lit (.int k z) ∧ InK k z) → ag (fun cs x => Rep P (.int k) .cells O w cs x) 1 cs (ds.map yC)
  | [], [], _, _ => rfl
  | c :: cs, d :: ds, hl, h => by
    obtain ⟨z, e1, e2, e3⟩ := h 0 c d rfl rfl
    refine ⟨?_, oL cs ds (by simpa using hl) fun i c d hc hd => h (i + 1) c d hc hd⟩
    rw [e1, e2]
    exact ⟨rfl, e3⟩
  | [], _ :: _, hl, _ => by simp at hl
  | _ :: _, [], hl, _ => by simp at hl
theorem yD : g8.length = 64 := by kernel_rfl
def xB : DataW Unit → List (DataW Unit)
 | .agg l => l
 | _ => []
theorem AM : (Rows.laid_posthouse_digest_keys : DataW Unit) = .agg (xB Rows.laid_posthouse_digest_keys) := by kernel_rfl
theorem z8 : g8 = (xB Rows.laid_posthouse_digest_keys).map yC := by kernel_rfl
theorem yR {W : World} (h : laidMetH prog mR W) : GlobOk prog gl (fun _ => False) W := by
  rw [MakeChecks.laidMetH_plain _ _ _ (by kernel_rfl)] at h
  obtain ⟨ps, ⟨g0, t0, cs0, f0, p0, q0, hg0, ht0, hv0, hd0, _, _⟩, _, _⟩ := h
  obtain rfl := Option.some.inj (Bw.symm.trans hg0)
  obtain rfl := Option.some.inj (zO.symm.trans ht0)
  have hf := f9 bu yg
  obtain ⟨e, hu, he, _⟩ := dl hf.shape
  obtain ⟨xs, k, hm, hx, h3, h4, h5⟩ := DataW.trod_array hu hd0
  have hfe := f9 bu he
  have hse : prog.cellsOf e = 1 := oK hfe
  have hst : prog.cellsOf xo = 64 := oK hf
  rw [AM] at hx
  have hx1 : xB Rows.laid_posthouse_digest_keys = xs.map (·.1) := DataW.agg.inj (Prod.mk.inj hx).1
  have hlen : cs0.toList.length = 64 := h3.trans hst
  have hrep : ag (fun cs x => Rep prog (.int .u32) .cells (fun _ => False) W cs x) 1 cs0.toList g8 := by
    rw [z8]
    refine oL _ _ ?_ fun i c d hc hd => ?_
    · rw [hlen, hx1, List.length_map, h4]
    · have hi : i < 64 := by
        have := (List.getElem?_eq_some_iff.1 hc).1
        omega
      have h6 := h5 i hi
      rw [hse, Nat.mul_one] at h6
      have hc1 : (cs0.toList.drop i).take 1 = [c] := by
        have hlt : i < cs0.toList.length := by omega
        rw [List.drop_eq_getElem_cons hlt]
        have : cs0.toList[i] = c := by
          rw [List.getElem?_eq_getElem hlt] at hc
          exact Option.some.inj hc
        rw [this]
        rfl
      rw [hc1] at h6
      rw [hx1, List.getElem?_map] at hd
      cases hxi : xs[i]? with
      | none => rw [hxi] at hd; cases hd
      | some x =>
        rw [hxi] at hd h6
        obtain ⟨z, e1, e2, e3⟩ := DataW.trod_int (cw hfe.shape) h6
        have hd : x.1 = d := Option.some.inj hd
        refine ⟨z, ?_, ?_, tf e3⟩
        · exact (List.cons.inj e1).1
        · rw [← hd, e2]
  have hcell : ∀ j, W.cell? ⟨0, j, none⟩ = cs0[j]? := fun j => World.var?_cell hg0 hv0 j
  intro g t y hl
  have hg : g = 0 ∧ (⟨t, y⟩ : (t : Ty) × den t) = ⟨.arr 64 (.int .u32), g8⟩ := by
    have hl : List.lookup g [((0 : Nat), (⟨.arr 64 (.int .u32), g8⟩ : (t : Ty) × den t))] = some ⟨t, y⟩ := hl
    rw [List.lookup_cons] at hl
    by_cases hg : g = 0
    · subst hg
      exact ⟨rfl, (Option.some.inj hl).symm⟩
    · have : (g == 0) = false := by simpa using hg
      rw [this] at hl
      cases hl
  obtain ⟨rfl, e⟩ := hg
  cases e
  refine ⟨cs0.toList, fun h => h, ?_, fun j u hj => ?_, yD, hrep⟩
  · have h0 := hcell 0
    have : cs0[0]? ≠ none := by
      intro hn
      have hlt : 0 < cs0.size := by
        have : cs0.toList.length = cs0.size := by simp
        omega
      rw [Array.getElem?_eq_getElem hlt] at hn
      cases hn
    show 0 < W.heap.size
    rcases Nat.eq_zero_or_pos W.heap.size with hz | hz
    · exfalso
      apply this
      rw [← h0]
      simp [World.cell?, hz]
    · exact hz
  · have e : (⟨0, 0, none⟩ : Addr).add j = ⟨0, j, none⟩ := by
      unfold Addr.add
      split
      · next h => subst h; rfl
      · show (⟨0, 0 + j, none⟩ : Addr) = _
        rw [Nat.zero_add]
    rw [e, hcell]
    simpa using hj
set_option maxRecDepth 100000 in
theorem xx {H : Type} {enc : TypeId × Value → H} {w : World} {Gl : gw} (hg : GlobOk prog Gl (fun _ => False) w) {f : FuncId} {aty : Ty} (hk : aJ prog Gl f (zu aty)) {ts : List TypeId} (hc : gd prog bN ts aty = true) {r : Reach} {b0 : Nat} {spare : Nat → Bool} {held : Bool} {args : Array Value} {ds : List (DataW H)} {ps : List MemPlace}
    (h : DataW.TrodAll enc prog w 0 spare held ts args.toList ds ps) (hv : ∀ (j : Nat) t v, ts[j]? = some t → args[j]? = some v → Value.okWide prog w r b0 t v) : Calls prog f args w fun e w' => e = .returned (.bool true) ∧ Below w.heap.size w w' := by
  obtain ⟨x, hx⟩ := nr bu ts aty args.toList ds ps hc h (fun j t v hj hv' => hv j t v hj (by simpa using hv'))
  have := hk.does (fun _ => False) w args.toList x (fun _ h => h.elim) hg hx trivial
  rw [Array.toArray_toList] at this
  refine Calls.mono this fun e w' ⟨v, e1, e2, rest, cs, e3, e4, e5⟩ => ?_
  have e4 : cs = [.bool true] := e4
  subst e4
  have e3 : [v] = [Value.bool true] := e3
  have : v = .bool true := by simpa using e3
  subst this
  exact ⟨e1, ⟨e2.os, e2.tape, e2.output, e2.size, e2.block⟩⟩
theorem zi (os : Os) (args : Array Value) : laidMetH prog mR ((World.laidAll prog os mR).forCall (fun _ _ => 0) ⟨#[], args, []⟩).memory := by
 rw [MakeChecks.laidMetH_plain _ _ _ (by kernel_rfl)]
 exact laidMet_laidAll _ (by kernel_rfl) (by kernel_rfl)
end Go.Proofs.YtnakjijahkaoaaaDoor
namespace Go.Proofs.YtnakjijahkaoaaaDoor
open Go Go.RowKit
abbrev Lk := den dI
end Go.Proofs.YtnakjijahkaoaaaDoor
namespace Go.Proofs.YtnakjijahkaoaaaDoor
open Go Go.RowKit
noncomputable abbrev mt : Fx := { fn := jk, ann := { frz := [(1, [1])] } }
noncomputable abbrev nt : bf := { D := { T := bN, F := [], R := [], ovl := [] }, inl := [] }
noncomputable abbrev tB : bY := .data mj
theorem tK : XOk prog nt := xok ((bo bu a8)) (by kernel_rfl) bg bA bw
noncomputable def m5 (id : den tId) : ab := ab.req (ba 0 16 (↑32 : Int)) (ab.req (16 ≤ List.length (c7 (Ty.int IntKind.u8) id 0 16)) (ab.ret (K.val (Ty.pair bc Ty.unit) (List.take 16 (c7 (Ty.int IntKind.u8) id 0 16), PUnit.unit))))
theorem qt (id : den tId) : ax nt tB 5000 [] mt (aI jk) (Env.of (aX mm (id, ()) 0) []) = m5 id := by kernel_rfl
end Go.Proofs.YtnakjijahkaoaaaDoor
namespace Go.Proofs.YtnakjijahkaoaaaDoor
open Go Go.RowKit
def cT (id : List Int) : List Int := List.take 16 id
noncomputable abbrev gA : bt := ⟨mm, mj, fun x => (cT x.1, ()), fun _ => True, true⟩
theorem tM : aJ prog [] gt gA :=
 cO (S := gA) tK (fx := mt) sY (by kernel_rfl) (fun _ _ => trivial) (T := fun x => m5 x.1) (fun x => qt x.1) fun O w0 x hk _ => by
  obtain ⟨id, ⟨⟩⟩ := x
  have hl : List.length id = 32 := hk.1.1
  have e : c7 (Ty.int IntKind.u8) id 0 16 = List.take 16 id := rfl
  refine ⟨⟨by decide, by decide, by decide⟩, ?_, _, rfl, ?_⟩
  ·rw [e]
   show 16 ≤ (List.take 16 id).length
   rw [List.length_take]
   omega
  ·rw [e]
   show (List.take 16 (List.take 16 id), ()) = (List.take 16 id, ())
   rw [List.take_take]; rfl
end Go.Proofs.YtnakjijahkaoaaaDoor
namespace Go.Proofs.YtnakjijahkaoaaaDoor
open Go Go.RowKit
end Go.Proofs.YtnakjijahkaoaaaDoor
namespace Go.Proofs.YtnakjijahkaoaaaDoor
open Go Go.RowKit
theorem eqK (a b : List Int) : eqb bc a b = decide (a = b) := by
 have := iw (t := bc) rfl a b
 cases h : eqb bc a b
 ·exact (decide_eq_false fun e => by rw [this.2 e] at h; cases h).symm
 ·exact (decide_eq_true (this.1 h)).symm
end Go.Proofs.YtnakjijahkaoaaaDoor
namespace Go.Proofs.YtnakjijahkaoaaaDoor
open Go Go.RowKit
end Go.Proofs.YtnakjijahkaoaaaDoor
