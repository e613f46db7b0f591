/- Part 7 of 10 of what this claim's proof stands on: a theory of programs on data, and the contracts of the functions that the law reaches. It holds no condition of its own. -/
import Derived.Test.YtimdnodkabnbfaaCA6
import Derived.Test.YtimdnodkabnbfaaProg
import Derived.Shelf.SlSortCmp.WholeK
import Derived.Shelf.SlSortCmp.NoneTotal
import Derived.Ground.SlsfProg
namespace Go.Proofs.Ytimdnodkabnbfaa
open Go
noncomputable section
noncomputable abbrev prog : Program := Try.prog
abbrev tId : Ty := (.arr 32 (.int .u8))
abbrev ab : Ty := (.st (.pair (.int .i64) (.pair tId .unit)))
abbrev ay : Ty := (.st (.pair ab (.pair .bool .unit)))
abbrev nW : Ty := (.st (.pair (.slc (.int .i64)) (.pair ab (.pair (.int .i64) .unit))))
abbrev ag : Ty := (.st (.pair ab (.pair ab (.pair (.slc ab) (.pair (.slc ab) .unit)))))
abbrev ah : Ty := (.st (.pair (.slc ag) .unit))
def bg : List (Nat × Ty) := [
 (1, (.fn .unit .unit)),
 (2, (.int .i64)),
 (3, (.int .i64)),
 (4, .bool),
 (5, (.int .u8)),
 (9, .str),
 (12, (.int .u64)),
 (21, (.int .i32)),
 (22, (.slc ag)),
 (23, ah),
 (24, ah),
 (25, tId),
 (26, tId),
 (27, (.fn (.pair ah .unit) (.pair ah .unit))),
 (28, (.slc (.int .i64))),
 (29, ab),
 (30, ab),
 (31, (.int .i64)),
 (33, (.fn (.pair ah (.pair (.int .i64) (.pair tId (.pair (.int .i64) .unit)))) (.pair (.slc (.int .i64)) (.pair ab (.pair (.int .i64) .unit))))),
 (34, (.fn (.pair ah .unit) (.pair .bool .unit))),
 (35, (.fn .unit (.pair .bool .unit))),
 (36, nW),
 (37, nW),
 (38, (.fn (.pair ah (.pair (.int .i64) (.pair tId (.pair (.int .i64) .unit)))) (.pair nW .unit))),
 (39, (.fn (.pair ah (.pair (.int .i64) (.pair (.int .i64) (.pair tId .unit)))) (.pair .bool .unit))),
 (40, (.fn (.pair ah (.pair (.int .i64) (.pair tId (.pair (.int .i64) .unit)))) (.pair .bool .unit))),
 (41, (.mp (.int .i64) .bool)),
 (42, (.slc ab)),
 (43, (.fn (.pair ah .unit) (.pair (.slc ab) .unit))),
 (45, (.fn (.pair ah (.pair tId (.pair (.int .i64) .unit))) (.pair (.slc ab) (.pair (.int .i64) .unit)))),
 (46, (.fn (.pair (.slc ab) (.pair (.slc ab) .unit)) (.pair .bool .unit))),
 (47, (.fn (.pair ah (.pair tId (.pair (.int .i64) .unit))) (.pair (.slc ab) .unit))),
 (48, (.fn (.pair ah (.pair tId (.pair (.int .i64) .unit))) (.pair .bool .unit))),
 (50, (.fn (.pair (.slc ab) (.pair tId .unit)) (.pair ab (.pair (.int .i64) .unit)))),
 (51, (.mp (.int .i64) tId)),
 (52, ag),
 (53, ag),
 (54, (.fn (.pair tId (.pair tId .unit)) (.pair (.int .i64) .unit))),
 (55, (.fn (.pair tId (.pair tId .unit)) (.pair tId .unit))),
 (56, (.fn (.pair ah (.pair tId .unit)) (.pair .bool .unit))),
 (58, (.fn (.pair ah (.pair (.int .i64) (.pair (.int .i64) .unit))) (.pair ah (.pair (.int .i64) .unit)))),
 (59, (.fn (.pair ah (.pair tId (.pair (.slc (.int .i64)) .unit))) (.pair .bool .unit))),
 (60, (.fn (.pair ah .unit) (.pair ah (.pair (.int .i64) .unit)))),
 (61, (.fn (.pair ah (.pair (.int .i64) .unit)) (.pair ah (.pair (.int .i64) .unit)))),
 (62, (.fn (.pair ah (.pair ah .unit)) (.pair .bool .unit))),
 (63, (.fn (.pair ah (.pair ab (.pair (.int .i64) .unit))) (.pair ah (.pair (.int .i64) .unit)))),
 (64, (.fn (.pair (.fn (.pair (.int .i64) (.pair ay .unit)) (.pair .bool .unit)) .unit) .unit)),
 (65, (.fn (.pair (.fn (.pair (.int .i64) (.pair ay .unit)) (.pair .bool .unit)) .unit) .unit)),
 (66, (.fn (.pair ah (.pair (.int .i64) (.pair tId .unit))) (.pair (.fn (.pair (.fn (.pair (.int .i64) (.pair ay .unit)) (.pair .bool .unit)) .unit) .unit) .unit))),
 (67, ay),
 (68, ay),
 (69, (.fn (.pair ag .unit) (.pair .bool .unit))),
 (70, (.fn (.pair ag .unit) (.pair (.slc ab) .unit))),
 (71, (.fn (.pair (.slc ab) (.pair (.int .i64) .unit)) (.pair ab .unit))),
 (72, (.fn (.pair (.slc ab) .unit) (.pair .bool .unit))),
 (73, (.fn (.pair ah (.pair (.int .i64) .unit)) (.pair .bool .unit))),
 (74, ay),
 (75, ay),
 (76, (.fn (.pair ah (.pair (.int .i64) (.pair tId .unit))) (.pair ay .unit))),
 (77, (.fn (.pair (.slc ab) (.pair (.int .i64) (.pair (.int .i64) .unit))) (.pair (.slc ab) (.pair (.int .i64) .unit)))),
 (78, (.fn (.pair (.slc ab) (.pair tId .unit)) (.pair ab .unit))),
 (79, (.fn (.pair (.slc ab) (.pair ab (.pair (.int .i64) .unit))) (.pair (.slc ab) .unit))),
 (80, (.fn (.pair (.slc ab) (.pair (.int .i64) .unit)) (.pair ab (.pair (.int .i64) .unit)))),
 (81, (.fn (.pair (.slc ab) (.pair (.fn (.pair ab (.pair ab .unit)) (.pair (.int .i64) .unit)) .unit)) (.pair ab .unit))),
 (82, (.fn (.pair ab (.pair ab .unit)) (.pair (.int .i64) .unit))),
 (83, (.fn (.pair tId .unit) (.pair (.fn (.pair ab (.pair ab .unit)) (.pair (.int .i64) .unit)) .unit))),
 (84, (.fn (.pair (.slc (.int .u8)) (.pair (.slc (.int .u8)) .unit)) (.pair (.int .i64) .unit))),
 (85, (.slc (.int .u8))),
 (87, (.fn (.pair ah (.pair (.int .i64) .unit)) (.pair (.int .i64) (.pair (.int .i64) .unit)))),
 (89, (.fn (.pair ah (.pair (.int .i64) .unit)) (.pair ab (.pair .bool .unit)))),
 (91, (.fn (.pair ag (.pair ab .unit)) (.pair ag (.pair (.int .i64) .unit)))),
 (92, (.fn (.pair ah (.pair (.int .i64) .unit)) .unit)),
 (93, (.fn (.pair (.fn (.pair ab .unit) (.pair .bool .unit)) .unit) .unit)),
 (94, (.fn (.pair (.fn (.pair ab .unit) (.pair .bool .unit)) .unit) .unit)),
 (95, (.fn (.pair ag .unit) (.pair (.fn (.pair (.fn (.pair ab .unit) (.pair .bool .unit)) .unit) .unit) .unit))),
 (96, (.fn (.pair ag (.pair ag .unit)) (.pair .bool .unit))),
 (97, (.fn (.pair (.slc ag) (.pair (.int .i64) (.pair (.int .i64) .unit))) (.pair (.slc ag) .unit))),
 (98, (.fn (.pair (.slc ag) .unit) (.pair (.slc ag) .unit))),
 (99, (.fn (.pair ab .unit) (.pair ag (.pair (.int .i64) .unit)))),
 (100, (.fn (.pair ab .unit) (.pair .bool .unit))),
 (101, (.fn (.pair (.slc ab) (.pair (.fn (.pair ab .unit) (.pair .bool .unit)) .unit)) (.pair .bool .unit))),
 (102, (.fn (.pair (.fn (.pair (.fn (.pair ab .unit) (.pair .bool .unit)) .unit) .unit) .unit) (.pair (.slc ab) .unit))),
 (104, (.fn (.pair ah (.pair (.int .i64) .unit)) (.pair (.int .i64) (.pair .bool .unit)))),
 (105, (.fn (.pair (.slc ag) (.pair (.int .i64) (.pair (.slc ag) .unit))) (.pair (.slc ag) .unit))),
 (106, (.fn (.pair (.int .i64) (.pair ay .unit)) (.pair .bool .unit))),
 (108, (.fn (.pair ah (.pair (.int .i64) (.pair tId .unit))) (.pair ay (.pair .bool .unit)))),
 (109, (.fn (.pair (.slc ab) (.pair (.int .i64) .unit)) (.pair .bool .unit))),
 (110, (.fn (.pair ah (.pair (.int .i64) .unit)) (.pair ag .unit))),
 (111, (.fn (.pair ag (.pair (.slc (.int .i64)) .unit)) (.pair ag .unit))),
 (112, (.fn (.pair tId (.pair tId (.pair tId .unit))) (.pair .bool .unit))),
 (113, (.fn (.pair ag (.pair tId .unit)) (.pair ay .unit))),
 (114, (.fn (.pair (.slc ab) (.pair (.int .i64) .unit)) (.pair (.slc ab) (.pair (.int .i64) .unit)))),
 (115, (.fn (.pair (.slc ab) (.pair ab .unit)) (.pair ab .unit))),
 (116, (.fn (.pair (.int .u8) (.pair (.int .u8) .unit)) (.pair (.int .i64) .unit))),
 (117, (.fn (.pair (.int .i64) .unit) (.pair (.fn (.pair ab .unit) (.pair .bool .unit)) .unit))),
 (118, (.fn (.pair (.slc ab) .unit) (.pair (.slc ab) .unit))),
 (119, (.fn (.pair ag (.pair (.slc (.int .i64)) .unit)) (.pair ag (.pair (.int .i64) .unit)))),
 (120, (.fn (.pair ah (.pair ag .unit)) (.pair (.slc (.int .i64)) .unit))),
 (121, (.fn (.pair ag (.pair ag .unit)) (.pair ag (.pair (.int .i64) .unit)))),
 (122, (.fn .unit (.pair ab .unit))),
 (123, (.fn (.pair (.slc ab) .unit) (.pair (.fn (.pair (.fn (.pair ab .unit) (.pair .bool .unit)) .unit) .unit) .unit))),
 (124, (.fn (.pair (.slc (.slc ab)) .unit) (.pair (.slc ab) .unit))),
 (125, (.fn (.pair (.slc ab) (.pair (.fn (.pair ab .unit) (.pair .bool .unit)) .unit)) (.pair (.int .i64) .unit))),
 (126, (.fn (.pair (.slc ab) (.pair (.fn (.pair (.fn (.pair ab .unit) (.pair .bool .unit)) .unit) .unit) .unit)) (.pair (.slc ab) .unit))),
 (127, (.fn (.pair (.slc ag) (.pair (.int .i64) (.pair (.fn (.pair ag (.pair (.int .i64) .unit)) (.pair (.int .i64) .unit)) .unit))) (.pair (.int .i64) (.pair .bool .unit)))),
 (128, (.fn (.pair (.int .i64) (.pair (.int .i64) .unit)) (.pair (.int .i64) .unit))),
 (129, (.fn (.pair ag (.pair (.int .i64) .unit)) (.pair (.int .i64) .unit))),
 (130, (.fn (.pair (.slc ag) (.pair (.slc ag) .unit)) (.pair .bool .unit))),
 (131, (.fn (.pair (.slc ag) (.pair (.int .i64) .unit)) .unit)),
 (132, (.fn (.pair (.slc ag) (.pair (.fn (.pair ag .unit) (.pair .bool .unit)) .unit)) (.pair (.int .i64) .unit))),
 (133, (.fn (.pair (.slc ag) (.pair (.fn (.pair ag .unit) (.pair .bool .unit)) .unit)) (.pair .bool .unit))),
 (134, (.fn (.pair ag (.pair tId .unit)) (.pair .bool .unit))),
 (136, (.fn (.pair ag (.pair tId .unit)) (.pair ab (.pair .bool (.pair (.int .i64) .unit))))),
 (137, (.fn (.pair (.slc ab) (.pair (.slc (.int .i64)) (.pair (.int .i64) .unit))) (.pair (.slc ab) .unit))),
 (138, (.fn (.pair tId (.pair tId (.pair (.slc ab) .unit))) (.pair ab .unit))),
 (139, (.fn (.pair (.fn (.pair (.fn (.pair ab .unit) (.pair .bool .unit)) .unit) .unit) (.pair (.fn (.pair ab (.pair ab .unit)) (.pair (.int .i64) .unit)) .unit)) (.pair (.slc ab) .unit))),
 (140, (.fn (.pair tId (.pair (.int .i64) .unit)) (.pair (.int .i64) .unit))),
 (141, (.fn (.pair tId .unit) (.pair tId .unit))),
 (142, (.fn (.pair (.int .i64) .unit) (.pair tId .unit))),
 (143, (.fn (.pair (.int .u8) .unit) (.pair .bool .unit))),
 (144, (.fn (.pair (.slc (.int .i64)) (.pair (.int .i64) .unit)) (.pair .bool .unit))),
 (145, (.fn (.pair (.slc ab) (.pair (.fn (.pair ab .unit) (.pair .bool .unit)) .unit)) (.pair (.slc ab) .unit))),
 (146, (.fn (.pair (.slc ab) (.pair (.int .i64) .unit)) (.pair (.fn (.pair (.fn (.pair ab .unit) (.pair .bool .unit)) .unit) .unit) .unit))),
 (147, (.slc (.slc ab))),
 (148, (.fn (.pair (.slc ab) (.pair (.int .i64) .unit)) (.pair (.slc ab) .unit))),
 (149, (.int .u64)),
 (150, (.fn (.pair (.int .i64) .unit) (.pair .bool .unit))),
 (151, (.fn (.pair tId (.pair tId (.pair (.slc ab) .unit))) (.pair ab (.pair (.int .i64) .unit)))),
 (152, (.fn (.pair (.slc ab) (.pair (.fn (.pair ab (.pair ab .unit)) (.pair (.int .i64) .unit)) .unit)) .unit)),
 (153, (.fn (.pair (.slc (.int .i64)) (.pair (.int .i64) .unit)) (.pair (.int .i64) .unit))),
 (154, (.fn (.pair (.slc ag) .unit) .unit)),
 (155, (.fn (.pair (.slc ab) (.pair (.fn (.pair ab .unit) (.pair .bool .unit)) .unit)) (.pair (.fn (.pair (.fn (.pair ab .unit) (.pair .bool .unit)) .unit) .unit) .unit))),
 (156, (.fn (.pair (.slc ab) (.pair (.int .i64) (.pair (.int .i64) (.pair (.int .i64) (.pair (.fn (.pair ab (.pair ab .unit)) (.pair (.int .i64) .unit)) .unit))))) .unit)),
 (157, (.fn (.pair (.int .u64) .unit) (.pair (.int .i64) .unit))),
 (158, (.fn (.pair (.slc ab) (.pair (.int .i64) (.pair (.int .i64) (.pair (.fn (.pair ab (.pair ab .unit)) (.pair (.int .i64) .unit)) .unit)))) .unit)),
 (159, (.int .i64)),
 (161, (.fn (.pair (.slc ab) (.pair (.int .i64) (.pair (.int .i64) (.pair (.fn (.pair ab (.pair ab .unit)) (.pair (.int .i64) .unit)) .unit)))) (.pair (.int .i64) (.pair (.int .i64) .unit)))),
 (162, (.fn (.pair (.slc ab) (.pair (.int .i64) (.pair (.int .i64) (.pair (.fn (.pair ab (.pair ab .unit)) (.pair (.int .i64) .unit)) .unit)))) (.pair .bool .unit))),
 (163, (.fn (.pair (.slc ab) (.pair (.int .i64) (.pair (.int .i64) (.pair (.int .i64) (.pair (.fn (.pair ab (.pair ab .unit)) (.pair (.int .i64) .unit)) .unit))))) (.pair (.int .i64) .unit))),
 (164, (.fn (.pair (.slc ab) (.pair (.int .i64) (.pair (.int .i64) (.pair (.int .i64) (.pair (.fn (.pair ab (.pair ab .unit)) (.pair (.int .i64) .unit)) .unit))))) (.pair (.int .i64) (.pair .bool .unit)))),
 (165, (.fn (.pair (.int .u32) .unit) (.pair (.int .i64) .unit))),
 (166, (.int .u32)),
 (167, (.fn (.pair (.int .u64) .unit) (.pair (.int .i64) .unit))),
 (168, (.int .u64)),
 (169, (.int .u64)),
 (170, (.fn (.pair (.int .i64) .unit) (.pair (.int .u64) .unit))),
 (171, (.fn .unit (.pair (.int .u64) .unit))),
 (178, (.fn .unit (.pair .str .unit))),
 (184, (.fn .unit (.pair (.int .i64) .unit)))]
theorem aS : AE prog bg = true := by kernel_rfl
theorem aE : prog.follows .mixedOrders = true := by kernel_rfl
abbrev qv : Nat := 8
noncomputable abbrev bT : Func := Try.f8
abbrev ew : Ty := (.pair ah (.pair tId (.pair (.slc (.int .i64)) .unit)))
abbrev pB : Ty := (.pair .bool .unit)
theorem y3 : Try.prog.funcs[qv]? = some bT := Try.func8
abbrev uj : Nat := 10
noncomputable abbrev lW : Func := Try.f10
abbrev Eh : Ty := (.pair ah .unit)
abbrev xH : Ty := (.pair ah .unit)
theorem LO : Try.prog.funcs[uj]? = some lW := Try.func10
abbrev iL : Nat := 11
noncomputable abbrev bm : Func := Try.f11
abbrev wx : Ty := (.pair ah (.pair (.int .i64) (.pair tId (.pair (.int .i64) .unit))))
abbrev eU : Ty := (.pair (.slc (.int .i64)) (.pair ab (.pair (.int .i64) .unit)))
theorem E6 : Try.prog.funcs[iL]? = some bm := Try.func11
abbrev qi : Nat := 13
noncomputable abbrev vz : Func := Try.f13
abbrev zt : Ty := .unit
abbrev zE : Ty := (.pair .bool .unit)
theorem Hu : Try.prog.funcs[qi]? = some vz := Try.func13
abbrev d8 : Nat := 15
noncomputable abbrev fq : Func := Try.f15
abbrev tY : Ty := (.pair ah .unit)
abbrev nP : Ty := (.pair (.slc ab) .unit)
theorem Cl : Try.prog.funcs[d8]? = some fq := Try.func15
abbrev mK : Nat := 19
noncomputable abbrev eV : Func := Try.f19
abbrev uq : Ty := (.pair ah .unit)
abbrev lK : Ty := (.pair .bool .unit)
theorem Em : Try.prog.funcs[mK]? = some eV := Try.func19
abbrev o5 : Nat := 20
noncomputable abbrev sI : Func := Try.f20
abbrev yW : Ty := (.pair (.slc ab) (.pair tId .unit))
abbrev rG : Ty := (.pair ab (.pair (.int .i64) .unit))
theorem GV : Try.prog.funcs[o5]? = some sI := Try.func20
abbrev ed : Nat := 21
noncomputable abbrev lm : Func := Try.f21
abbrev s9 : Ty := (.pair tId (.pair tId .unit))
abbrev sN : Ty := (.pair (.int .i64) .unit)
theorem CY : Try.prog.funcs[ed]? = some lm := Try.func21
abbrev gS : Nat := 22
noncomputable abbrev dy : Func := Try.f22
abbrev Ao : Ty := (.pair tId (.pair tId .unit))
abbrev lU : Ty := (.pair tId .unit)
theorem Hr : Try.prog.funcs[gS]? = some dy := Try.func22
abbrev nK : Nat := 23
noncomputable abbrev rJ : Func := Try.f23
abbrev xi : Ty := (.pair ah (.pair (.int .i64) (.pair (.int .i64) .unit)))
abbrev wI : Ty := (.pair ah (.pair (.int .i64) .unit))
theorem FH : Try.prog.funcs[nK]? = some rJ := Try.func23
abbrev fC : Nat := 27
noncomputable abbrev bB : Func := Try.f27
abbrev wZ : Ty := (.pair ah .unit)
abbrev pK : Ty := (.pair .bool .unit)
theorem EP : Try.prog.funcs[fC]? = some bB := Try.func27
abbrev vV : Nat := 32
noncomputable abbrev wg : Func := Try.f32
theorem Eu : Try.prog.funcs[vV]? = some wg := Try.func32
abbrev o6 : Nat := 40
noncomputable abbrev ic : Func := Try.f40
abbrev yn : Ty := (.pair (.slc ab) (.pair (.int .i64) (.pair (.int .i64) .unit)))
abbrev kO : Ty := (.pair (.slc ab) (.pair (.int .i64) .unit))
theorem GO : Try.prog.funcs[o6]? = some ic := Try.func40
abbrev nE : Nat := 43
noncomputable abbrev rF : Func := Try.f43
abbrev xk : Ty := (.pair (.slc ab) (.pair (.int .i64) .unit))
abbrev pG : Ty := (.pair ab (.pair (.int .i64) .unit))
theorem EU : Try.prog.funcs[nE]? = some rF := Try.func43
abbrev dG : Nat := 44
noncomputable abbrev c4 : Func := Try.f44
abbrev nq : Ty := (.pair (.slc ab) (.pair (.slc ab) .unit))
abbrev jh : Ty := (.pair .bool .unit)
theorem vf : Try.prog.funcs[dG]? = some c4 := Try.func44
abbrev gf : Nat := 45
noncomputable abbrev ig : Func := Try.f45
abbrev yv : Ty := (.pair (.slc ab) .unit)
abbrev rh : Ty := (.pair .bool .unit)
theorem Gr : Try.prog.funcs[gf]? = some ig := Try.func45
abbrev fH : Nat := 46
noncomputable abbrev cv : Func := Try.f46
abbrev mb : Ty := (.pair (.slc ab) (.pair (.fn (.pair ab (.pair ab .unit)) (.pair (.int .i64) .unit)) .unit))
abbrev ip : Ty := (.pair ab .unit)
theorem tC : Try.prog.funcs[fH]? = some cv := Try.func46
abbrev kV : Nat := 47
noncomputable abbrev vA : Func := Try.f47
abbrev zg : Ty := (.pair tId .unit)
abbrev z6 : Ty := (.pair (.fn (.pair ab (.pair ab .unit)) (.pair (.int .i64) .unit)) .unit)
theorem HD : Try.prog.funcs[kV]? = some vA := Try.func47
abbrev gt : Nat := 48
noncomputable abbrev bY : Func := Try.f48
abbrev nk : Ty := (.pair (.slc (.int .u8)) (.pair (.slc (.int .u8)) .unit))
abbrev gd : Ty := (.pair (.int .i64) .unit)
theorem vT : Try.prog.funcs[gt]? = some bY := Try.func48
abbrev nG : Nat := 49
noncomputable abbrev rL : Func := Try.f49
abbrev wh : Ty := (.pair ah (.pair (.int .i64) .unit))
abbrev wL : Ty := (.pair (.int .i64) (.pair (.int .i64) .unit))
theorem EA : Try.prog.funcs[nG]? = some rL := Try.func49
abbrev jK : Nat := 50
noncomputable abbrev ie : Func := Try.f50
abbrev yE : Ty := (.pair ah (.pair (.int .i64) .unit))
abbrev rM : Ty := (.pair ab (.pair .bool .unit))
theorem GL : Try.prog.funcs[jK]? = some ie := Try.func50
abbrev oD : Nat := 51
noncomputable abbrev tT : Func := Try.f51
abbrev yr : Ty := (.pair ag (.pair ab .unit))
abbrev yC : Ty := (.pair ag (.pair (.int .i64) .unit))
theorem GZ : Try.prog.funcs[oD]? = some tT := Try.func51
abbrev w8 : Nat := 52
noncomputable abbrev wX : Func := Try.f52
theorem Di : Try.prog.funcs[w8]? = some wX := Try.func52
abbrev dn : Nat := 54
noncomputable abbrev sJ : Func := Try.f54
abbrev yR : Ty := (.pair ag .unit)
abbrev ym : Ty := (.pair .bool .unit)
theorem GG : Try.prog.funcs[dn]? = some sJ := Try.func54
abbrev nu : Nat := 55
noncomputable abbrev qV : Func := Try.f55
abbrev wN : Ty := (.pair ag .unit)
theorem EQ : Try.prog.funcs[nu]? = some qV := Try.func55
abbrev iv : Nat := 58
noncomputable abbrev k8 : Func := Try.f58
theorem yi : Try.prog.funcs[iv]? = some k8 := Try.func58
abbrev bH : Nat := 61
noncomputable abbrev fZ : Func := Try.f61
abbrev jp : Ty := (.pair (.slc ab) (.pair (.fn (.pair ab .unit) (.pair .bool .unit)) .unit))
abbrev js : Ty := (.pair .bool .unit)
theorem pp : Try.prog.funcs[bH]? = some fZ := Try.func61
abbrev mN : Nat := 62
noncomputable abbrev cJ : Func := Try.f62
theorem t7 : Try.prog.funcs[mN]? = some cJ := Try.func62
abbrev si : Nat := 63
noncomputable abbrev j3 : Func := Try.f63
abbrev BH : Ty := (.pair ah (.pair (.int .i64) .unit))
abbrev vJ : Ty := (.pair (.int .i64) (.pair .bool .unit))
theorem JK : Try.prog.funcs[si]? = some j3 := Try.func63
abbrev tb : Nat := 65
noncomputable abbrev da : Func := Try.f65
theorem Bm : Try.prog.funcs[tb]? = some da := Try.func65
abbrev nL : Nat := 66
noncomputable abbrev fA : Func := Try.f66
abbrev wK : Ty := (.pair ah (.pair (.int .i64) (.pair tId .unit)))
abbrev mE : Ty := (.pair ay (.pair .bool .unit))
theorem EH : Try.prog.funcs[nL]? = some fA := Try.func66
abbrev iG : Nat := 74
noncomputable abbrev qS : Func := Try.f74
abbrev xc : Ty := (.pair (.slc ab) (.pair (.int .i64) .unit))
abbrev pP : Ty := (.pair (.slc ab) (.pair (.int .i64) .unit))
theorem ER : Try.prog.funcs[iG]? = some qS := Try.func74
abbrev mF : Nat := 78
noncomputable abbrev pJ : Func := Try.f78
abbrev uv : Ty := (.pair ab (.pair (.ref ab) .unit))
abbrev uP : Ty := (.pair .bool .unit)
theorem Dv : Try.prog.funcs[mF]? = some pJ := Try.func78
abbrev nH : Nat := 79
noncomputable abbrev rD : Func := Try.f79
abbrev xf : Ty := (.pair ab (.pair ab (.pair (.ref tId) .unit)))
abbrev wy : Ty := (.pair (.int .i64) .unit)
theorem Fq : Try.prog.funcs[nH]? = some rD := Try.func79
abbrev iP : Nat := 80
noncomputable abbrev iO : Func := Try.f80
abbrev pF : Ty := (.pair (.int .u8) (.pair (.int .u8) .unit))
abbrev pA : Ty := (.pair (.int .i64) .unit)
theorem y8 : Try.prog.funcs[iP]? = some iO := Try.func80
abbrev jb : Nat := 81
noncomputable abbrev xr : Func := Try.f81
abbrev BX : Ty := (.pair ab .unit)
abbrev B5 : Ty := (.pair .bool .unit)
theorem Jn : Try.prog.funcs[jb]? = some xr := Try.func81
abbrev ot : Nat := 82
noncomputable abbrev zl : Func := Try.f82
abbrev Ey : Ty := (.pair (.int .i64) .unit)
abbrev Dz : Ty := (.pair (.fn (.pair ab .unit) (.pair .bool .unit)) .unit)
theorem KZ : Try.prog.funcs[ot]? = some zl := Try.func82
abbrev gN : Nat := 83
noncomputable abbrev kp : Func := Try.f83
abbrev ww : Ty := (.pair (.slc ab) .unit)
theorem wS : Try.prog.funcs[gN]? = some kp := Try.func83
abbrev qj : Nat := 84
noncomputable abbrev bO : Func := Try.f84
abbrev zw : Ty := (.pair ag (.pair (.slc (.int .i64)) .unit))
abbrev jP : Ty := (.pair ag (.pair (.int .i64) .unit))
theorem Hm : Try.prog.funcs[qj]? = some bO := Try.func84
abbrev gT : Nat := 88
noncomputable abbrev vp : Func := Try.f88
abbrev AG : Ty := .unit
abbrev zF : Ty := (.pair ab .unit)
theorem I3 : Try.prog.funcs[gT]? = some vp := Try.func88
abbrev ny : Nat := 89
noncomputable abbrev gA : Func := Try.f89
abbrev xm : Ty := (.pair (.slc ab) (.pair (.int .i64) .unit))
abbrev p6 : Ty := (.pair .bool .unit)
theorem E0 : Try.prog.funcs[ny]? = some gA := Try.func89
abbrev dz : Nat := 90
noncomputable abbrev jf : Func := Try.f90
abbrev mP : Ty := (.pair (.slc ab) .unit)
theorem uf : Try.prog.funcs[dz]? = some jf := Try.func90
abbrev ci : Nat := 91
noncomputable abbrev aO : Func := Try.f91
theorem ug : Try.prog.funcs[ci]? = some aO := Try.func91
abbrev cw : Nat := 92
noncomputable abbrev aH : Func := Try.f92
abbrev kz : Ty := (.pair (.slc ab) (.pair (.fn (.pair ab .unit) (.pair .bool .unit)) .unit))
abbrev gE : Ty := (.pair (.int .i64) .unit)
theorem kG : Try.prog.funcs[cw]? = some aH := Try.func92
abbrev lr : Nat := 93
noncomputable abbrev ax : Func := Try.f93
theorem rt : Try.prog.funcs[lr]? = some ax := Try.func93
abbrev gH : Nat := 94
noncomputable abbrev bC : Func := Try.f94
theorem my : Try.prog.funcs[gH]? = some bC := Try.func94
abbrev oE : Nat := 95
noncomputable abbrev tF : Func := Try.f95
abbrev rO : Ty := (.pair ag (.pair (.int .i64) .unit))
abbrev yu : Ty := (.pair (.int .i64) .unit)
theorem GA : Try.prog.funcs[oE]? = some tF := Try.func95
abbrev jt : Nat := 96
noncomputable abbrev ju : Func := Try.f96
abbrev qx : Ty := (.pair (.int .i64) (.pair (.int .i64) .unit))
abbrev qP : Ty := (.pair (.int .i64) .unit)
theorem z8 : Try.prog.funcs[jt]? = some ju := Try.func96
abbrev c8 : Nat := 99
noncomputable abbrev cI : Func := Try.f99
abbrev mh : Ty := (.pair (.slc ag) (.pair (.fn (.pair ag .unit) (.pair .bool .unit)) .unit))
abbrev ia : Ty := (.pair (.int .i64) .unit)
theorem sO : Try.prog.funcs[c8]? = some cI := Try.func99
abbrev lj : Nat := 100
noncomputable abbrev o3 : Func := Try.f100
abbrev tA : Ty := (.pair ag (.pair (.ref (.int .i64)) .unit))
abbrev sQ : Ty := (.pair .bool .unit)
theorem CP : Try.prog.funcs[lj]? = some o3 := Try.func100
abbrev eI : Nat := 101
noncomputable abbrev gG : Func := Try.f101
abbrev jY : Ty := (.pair (.slc ag) (.pair (.fn (.pair ag .unit) (.pair .bool .unit)) .unit))
abbrev j2 : Ty := (.pair .bool .unit)
theorem qu : Try.prog.funcs[eI]? = some gG := Try.func101
abbrev lk : Nat := 102
noncomputable abbrev ph : Func := Try.f102
abbrev tE : Ty := (.pair ag (.pair (.ref ab) .unit))
abbrev tX : Ty := (.pair .bool .unit)
theorem CI : Try.prog.funcs[lk]? = some ph := Try.func102
abbrev qe : Nat := 103
noncomputable abbrev vG : Func := Try.f103
abbrev An : Ty := (.pair ag (.pair tId .unit))
abbrev zV : Ty := (.pair .bool .unit)
theorem IX : Try.prog.funcs[qe]? = some vG := Try.func103
abbrev qr : Nat := 104
noncomputable abbrev vD : Func := Try.f104
abbrev zK : Ty := (.pair ag (.pair tId .unit))
abbrev tV : Ty := (.pair ab (.pair .bool (.pair (.int .i64) .unit)))
theorem Hh : Try.prog.funcs[qr]? = some vD := Try.func104
abbrev lJ : Nat := 107
noncomputable abbrev oN : Func := Try.f107
abbrev s5 : Ty := (.pair ab (.pair (.ref (.int .i64)) .unit))
abbrev tO : Ty := (.pair .bool .unit)
theorem Cc : Try.prog.funcs[lJ]? = some oN := Try.func107
abbrev eD : Nat := 108
noncomputable abbrev bU : Func := Try.f108
abbrev gk : Ty := (.pair (.slc ab) .unit)
theorem qz : Try.prog.funcs[eD]? = some bU := Try.func108
abbrev ke : Nat := 113
noncomputable abbrev kh : Func := Try.f113
abbrev rQ : Ty := (.pair (.int .u8) .unit)
abbrev rR : Ty := (.pair .bool .unit)
theorem Bq : Try.prog.funcs[ke]? = some kh := Try.func113
abbrev qf : Nat := 114
noncomputable abbrev vS : Func := Try.f114
abbrev AM : Ty := (.pair ab (.pair (.ref (.int .i64)) .unit))
abbrev zb : Ty := (.pair .bool .unit)
theorem Ia : Try.prog.funcs[qf]? = some vS := Try.func114
abbrev al : Nat := 115
noncomputable abbrev rv : Func := Try.f115
abbrev w9 : Ty := (.pair ab (.pair (.ref ag) (.pair (.ref (.slc (.int .i64))) .unit)))
abbrev w7 : Ty := (.pair .bool .unit)
theorem Fz : Try.prog.funcs[al]? = some rv := Try.func115
abbrev gp : Nat := 116
noncomputable abbrev jD : Func := Try.f116
abbrev m4 : Ty := (.pair (.slc (.int .i64)) (.pair (.int .i64) .unit))
abbrev m8 : Ty := (.pair .bool .unit)
theorem vo : Try.prog.funcs[gp]? = some jD := Try.func116
abbrev kJ : Nat := 117
noncomputable abbrev ar : Func := Try.f117
theorem qK : Try.prog.funcs[kJ]? = some ar := Try.func117
abbrev gu : Nat := 118
noncomputable abbrev jL : Func := Try.f118
theorem vH : Try.prog.funcs[gu]? = some jL := Try.func118
abbrev i8 : Nat := 119
noncomputable abbrev oO : Func := Try.f119
abbrev BE : Ty := (.pair tId (.pair tId (.pair tId .unit)))
abbrev vK : Ty := (.pair .bool .unit)
theorem Js : Try.prog.funcs[i8]? = some oO := Try.func119
abbrev co : Nat := 121
noncomputable abbrev be : Func := Try.f121
theorem lz : Try.prog.funcs[co]? = some be := Try.func121
abbrev pe : Nat := 122
noncomputable abbrev oC : Func := Try.f122
theorem vZ : Try.prog.funcs[pe]? = some oC := Try.func122
abbrev lL : Nat := 123
noncomputable abbrev li : Func := Try.f123
abbrev td : Ty := (.pair (.int .i64) .unit)
abbrev tg : Ty := (.pair .bool .unit)
theorem CZ : Try.prog.funcs[lL]? = some li := Try.func123
abbrev j6 : Nat := 125
noncomputable abbrev aR : Func := Try.f125
abbrev rV : Ty := (.pair tId (.pair tId (.pair (.slc ab) .unit)))
abbrev m0 : Ty := (.pair ab (.pair (.int .i64) .unit))
theorem Bl : Try.prog.funcs[j6]? = some aR := Try.func125
abbrev fh : Nat := 127
noncomputable abbrev sK : Func := Try.f127
theorem sj : Try.prog.funcs[fh]? = some sK := Try.func127
abbrev i6 : Nat := 128
noncomputable abbrev dM : Func := Try.f128
abbrev pE : Ty := (.pair (.slc (.int .i64)) (.pair (.int .i64) .unit))
abbrev pC : Ty := (.pair (.int .i64) .unit)
theorem y9 : Try.prog.funcs[i6]? = some dM := Try.func128
abbrev i4 : Nat := 131
noncomputable abbrev mr : Func := Try.f131
abbrev pD : Ty := (.pair ab (.pair (.ref tId) (.pair (.ref tId) .unit)))
abbrev px : Ty := (.pair .bool .unit)
theorem yY : Try.prog.funcs[i4]? = some mr := Try.func131
abbrev nl : Nat := 132
noncomputable abbrev ni : Func := Try.f132
theorem ue : Try.prog.funcs[nl]? = some ni := Try.func132
abbrev lQ : Nat := 135
noncomputable abbrev cn : Func := Try.f135
theorem r8 : Try.prog.funcs[lQ]? = some cn := Try.func135
end
end Go.Proofs.Ytimdnodkabnbfaa
namespace Go.Proofs.Ytimdnodkabnbfaa
open Go Go.RowKit
theorem bN {σ : Type} (n : Nat) (Inv : Nat → σ → Prop) (Q : Nat → σ → Prop) (step : ∀ i s, i < n → Inv i s → (∀ s', Inv (i + 1) s' → Q (i + 1) s') → Q i s) (last : ∀ s, Inv n s → Q n s) : ∀ (i : Nat) (s : σ), i ≤ n → Inv i s → Q i s := by
 intro i s hi
 obtain ⟨k, hk⟩ : ∃ k, k + i = n := ⟨n - i, by omega⟩
 induction k generalizing i s with
 | zero =>
  have e : i = n := by omega
  subst e
  exact last s
 | succ k ih =>
  intro hI
  exact step i s (by omega) hI fun s' h' => ih (i + 1) s' (by omega) (by omega) h'
theorem cL {e : Ty} (t : List (den e)) {i : Nat} : (decide ((i : Int) < lnx e t)) = decide (i < t.length) := by
 rw [Bool.eq_iff_iff, decide_eq_true_eq, decide_eq_true_eq]
 exact ⟨fun h => by have h : (i : Int) < (t.length : Int) := h; omega, fun h => by show (i : Int) < (t.length : Int); omega⟩
theorem cP {n : Int} (h : -1000000000000000 ≤ n ∧ n ≤ 1000000000000000) : IntKind.wrap .i64 n = n := Nk (by omega) (by omega)
theorem zX {e : Ty} (xs : List (den e)) {n : Nat} (h : n = xs.length) : nv e xs 0 n = xs := by
 unfold nv; rw [h, List.drop_zero, List.take_length]
theorem LF {e : Ty} (xs : List (den e)) {n : Nat} : nv e xs 0 n = xs.take n := by
 unfold nv; rw [List.drop_zero]
theorem B9 {α : Type} {zs ys : List α} {i : Nat} (h : i + ys.length ≤ zs.length) : (over zs i ys).length = zs.length := by
 unfold over; simp only [List.length_append, List.length_take, List.length_drop]; omega
theorem Mm {α : Type} {zs ys : List α} {i : Nat} (h : i ≤ zs.length) : (over zs i ys).take (i + ys.length) = zs.take i ++ ys := by
 unfold over
 rw [List.take_append_of_le_length (by rw [List.length_append, List.length_take, Nat.min_eq_left h]; exact Nat.le_refl _), List.take_of_length_le]
 rw [List.length_append, List.length_take, Nat.min_eq_left h]; exact Nat.le_refl _
theorem Jl {α : Type} {zs ys : List α} {i n : Nat} (h : n ≤ i) (h' : i ≤ zs.length) : (over zs i ys).take n = zs.take n := by
 unfold over
 rw [List.append_assoc, List.take_append_of_le_length (by rw [List.length_take, Nat.min_eq_left h']; exact h), List.take_take, Nat.min_eq_left h]
theorem bn {P : af → Prop} {A : Type} {e : A} {f : A → af} (h : P (f e)) : ∀ q, q = e → P (f q) := fun q hq => by cases hq; exact h
theorem Iw {n : Int} (h : 0 ≤ n ∧ n ≤ 255) : IntKind.wrap .u8 n = n := by
 unfold IntKind.wrap
 simp only [IntKind.signed, IntKind.bits]
 simp
 omega
end Go.Proofs.Ytimdnodkabnbfaa
namespace Go.Proofs.Ytimdnodkabnbfaa
open Go Go.RowKit
def ft : (t : Ty) → den t → List Value
 | .int k, x => [.int k x]
 | .bool, x => [.bool x]
 | .str, x => [.string x]
 | .unit, _ => []
 | .pair a b, x => ft a x.1 ++ ft b x.2
 | .st b, x => ft b x
 | .arr _ e, x => x.flatMap (ft e)
 | .slc _, _ => []
 | .fn _ _, _ => []
 | .ref _, _ => []
 | .mp _ _, _ => []
 | .clo _ _, _ => []
theorem qn {α β : Type} {f : α → List β} {k : Nat} : ∀ {xs : List α}, (∀ x ∈ xs, (f x).length = k) → (xs.flatMap f).length = xs.length * k
 | [], _ => by simp
 | x :: xs, h => by
  rw [List.flatMap_cons, List.length_append, h x List.mem_cons_self, qn fun y hy => h y (List.mem_cons_of_mem _ hy), List.length_cons, Nat.add_mul, Nat.one_mul, Nat.add_comm]
theorem xF {P : Program} {O : Nat → Prop} {w : World} {e : Ty} {ok : den e → Prop} (h : ∀ cs x, Rep P e .cells O w cs x → cs = ft e x ∧ ok x) : ∀ {xs : List (den e)} {L : List Value}, RepAll (fun cs x => Rep P e .cells O w cs x) (siz e) L xs → L = xs.flatMap (ft e) ∧ ∀ x ∈ xs, ok x
 | [], L, hh => ⟨by rw [show L = [] from hh]; rfl, fun x hx => by cases hx⟩
 | x :: xs, L, hh => by
  obtain ⟨h1, h2⟩ := hh
  obtain ⟨e1, o1⟩ := h _ _ h1
  obtain ⟨e2, o2⟩ := xF h h2
  refine ⟨?_, fun y hy => ?_⟩
  ·rw [List.flatMap_cons, ← e1, ← e2, List.take_append_drop]
  ·rcases List.mem_cons.1 hy with rfl | hy
   ·exact o1
   ·exact o2 y hy
theorem xB {P : Program} {O : Nat → Prop} {w : World} {e : Ty} {ok : den e → Prop} (h : ∀ x, ok x → Rep P e .cells O w (ft e x) x) (hl : ∀ x, ok x → (ft e x).length = siz e) : ∀ {xs : List (den e)}, (∀ x ∈ xs, ok x) → RepAll (fun cs x => Rep P e .cells O w cs x) (siz e) (xs.flatMap (ft e)) xs
 | [], _ => rfl
 | x :: xs, hh => by
  have hx := hh x List.mem_cons_self
  refine ⟨?_, ?_⟩
  ·rw [List.flatMap_cons, List.take_append_of_le_length (by rw [hl x hx]; exact Nat.le_refl _), List.take_of_length_le (by rw [hl x hx]; exact Nat.le_refl _)]
   exact h x hx
  ·rw [List.flatMap_cons, List.drop_append_of_le_length (by rw [hl x hx]; exact Nat.le_refl _), List.drop_of_length_le (by rw [hl x hx]; exact Nat.le_refl _), List.nil_append]
   exact xB h hl fun y hy => hh y (List.mem_cons_of_mem _ hy)
theorem Pn {P : Program} {O : Nat → Prop} {w : World} : ∀ {t : Ty}, eZ t = true → ∀ cs x, Rep P t .cells O w cs x → cs = ft t x ∧ okT t x := by
 intro t
 induction t with
 | int k => intro _ cs x h; exact ⟨h.1, h.2⟩
 | bool => intro _ cs x h; exact ⟨h, trivial⟩
 | str => intro _ cs x h; exact ⟨h.1, h.2⟩
 | unit => intro _ cs x h; exact ⟨h, trivial⟩
 | pair a b iha ihb =>
  intro hf cs x h
  simp only [eZ, Bool.and_eq_true] at hf
  obtain ⟨e1, o1⟩ := iha hf.1 _ _ h.1
  obtain ⟨e2, o2⟩ := ihb hf.2 _ _ h.2
  refine ⟨?_, o1, o2⟩
  show cs = ft a x.1 ++ ft b x.2
  rw [← e1, ← e2, List.take_append_drop]
 | st b ih => intro hf cs x h; exact ih hf cs x h
 | arr n e ih =>
  intro hf cs x h
  obtain ⟨e1, o1⟩ := xF (ok := okT e) (ih hf) h.2
  exact ⟨e1, h.1, o1⟩
 | _ => intro hf; cases hf
theorem tq : ∀ {t : Ty}, eZ t = true → ∀ x, okT t x → (ft t x).length = siz t := by
 intro t
 induction t with
 | int k => intro _ x _; rfl
 | bool => intro _ x _; rfl
 | str => intro _ x _; rfl
 | unit => intro _ x _; rfl
 | pair a b iha ihb =>
  intro hf x h
  simp only [eZ, Bool.and_eq_true] at hf
  show (ft a x.1 ++ ft b x.2).length = siz a + siz b
  rw [List.length_append, iha hf.1 _ h.1, ihb hf.2 _ h.2]
 | st b ih => intro hf x h; exact ih hf x h
 | arr n e ih =>
  intro hf x h
  show (List.flatMap (ft e) x).length = n * siz e
  rw [qn fun y hy => ih hf y (h.2 y hy), h.1]
 | _ => intro hf; cases hf
theorem E3 {P : Program} {O : Nat → Prop} {w : World} : ∀ {t : Ty}, eZ t = true → ∀ x, okT t x → Rep P t .cells O w (ft t x) x := by
 intro t
 induction t with
 | int k => intro _ x h; exact ⟨rfl, h⟩
 | bool => intro _ x _; rfl
 | str => intro _ x h; exact ⟨rfl, h⟩
 | unit => intro _ x _; rfl
 | pair a b iha ihb =>
  intro hf x h
  simp only [eZ, Bool.and_eq_true] at hf
  have hl := tq hf.1 _ h.1
  refine ⟨?_, ?_⟩
  ·show Rep P a .cells O w ((ft a x.1 ++ ft b x.2).take (siz a)) x.1
   rw [List.take_append_of_le_length (by rw [hl]; exact Nat.le_refl _), List.take_of_length_le (by rw [hl]; exact Nat.le_refl _)]
   exact iha hf.1 _ h.1
  ·show Rep P b .cells O w ((ft a x.1 ++ ft b x.2).drop (siz a)) x.2
   rw [List.drop_append_of_le_length (by rw [hl]; exact Nat.le_refl _), List.drop_of_length_le (by rw [hl]; exact Nat.le_refl _), List.nil_append]
   exact ihb hf.2 _ h.2
 | st b ih => intro hf x h; exact ih hf x h
 | arr n e ih => intro hf x h; exact ⟨h.1, xB (ok := okT e) (ih hf) (tq hf) h.2⟩
 | _ => intro hf; cases hf
theorem NH : ∀ {t : Ty}, eZ t = true → ∀ x, ∀ v ∈ ft t x, v.oneCell' = true := by
 intro t
 induction t with
 | int k => intro _ x v hv; rw [List.mem_singleton.1 hv]; rfl
 | bool => intro _ x v hv; rw [List.mem_singleton.1 hv]; rfl
 | str => intro _ x v hv; rw [List.mem_singleton.1 hv]; rfl
 | unit => intro _ x v hv; cases hv
 | pair a b iha ihb =>
  intro hf x v hv
  simp only [eZ, Bool.and_eq_true] at hf
  rcases List.mem_append.1 hv with hv | hv
  ·exact iha hf.1 _ v hv
  ·exact ihb hf.2 _ v hv
 | st b ih => intro hf x; exact ih hf x
 | arr n e ih =>
  intro hf x v hv
  obtain ⟨y, _, hy⟩ := List.mem_flatMap.1 hv
  exact ih hf y v hy
 | _ => intro hf; cases hf
theorem DO {α : Type} [Inhabited α] {f : α → List Value} {k : Nat} (hk : ∀ x, (f x).length = k) : ∀ (xs : List α) (t : Nat), t < xs.length * k → (xs.flatMap f)[t]? = (f (xs[t / k]?.getD default))[t % k]?
  | [], t, h => by simp at h
  | x :: xs, t, h => by
    rw [List.flatMap_cons, List.getElem?_append, hk]
    have k0 : 0 < k := by rcases Nat.eq_zero_or_pos k with e | e
                          · subst e; simp at h
                          · exact e
    split
    · rename_i hlt
      rw [Nat.div_eq_of_lt hlt, Nat.mod_eq_of_lt hlt]
      rfl
    · rename_i hge
      have hge : k ≤ t := by omega
      rw [List.length_cons, Nat.add_mul, Nat.one_mul] at h
      rw [DO hk xs (t - k) (by omega)]
      have e1 : t / k = (t - k) / k + 1 := by
        rw [Nat.div_eq_sub_div k0 hge]
      have e2 : t % k = (t - k) % k := Nat.mod_eq_sub_mod hge
      rw [e1, e2]
      rfl
theorem AT {α : Type} [Inhabited α] (enc : α → List Value) (k : Nat) (hk : ∀ x, (enc x).length = k) (d : Array α) : (Sort.flatK enc k d).toList = d.toList.flatMap enc := by
 apply List.ext_getElem?
 intro t
 by_cases h : t < d.size * k
 ·have hl : t < (Sort.flatK enc k d).size := by rw [Sort.size_flatK]; exact h
  have h1 : (Sort.flatK enc k d)[t]? = some ((Sort.flatK enc k d)[t]!) := by rw [getElem!_pos (Sort.flatK enc k d) t hl, Array.getElem?_eq_getElem hl]
  rw [Array.getElem?_toList, h1, Sort.get_flatK enc k d t h, DO hk d.toList t (by rw [Array.length_toList]; exact h)]
  have e : d.toList[t / k]?.getD default = d[t / k]! := by rw [Array.getElem?_toList, getElem!_def]; cases d[t / k]? <;> rfl
  rw [e]
  have hm : t % k < (enc d[t / k]!).length := by
   rw [hk]
   refine Nat.mod_lt _ ?_
   rcases Nat.eq_zero_or_pos k with e | e
   ·subst e; simp at h
   ·exact e
  rw [List.getElem?_eq_getElem hm, getElem!_pos (enc d[t / k]!) (t % k) hm]
 ·rw [List.getElem?_eq_none (by rw [Array.length_toList, Sort.size_flatK]; omega), List.getElem?_eq_none (by rw [qn (k := k) (fun x _ => hk x), Array.length_toList]; omega)]
theorem Mh {α : Type} [Inhabited α] {enc : α → List Value} {k : Nat} (hk : ∀ x, (enc x).length = k) {w : World} {g off : Nat} {d : Array α} {arr : Array Value} {eid : TypeId} (hg : w.heap[g]? = some (.cells arr eid (0, 0))) (hL : (arr.toList.drop off).take (d.size * k) = d.toList.flatMap enc) (hb : off + d.size * k ≤ arr.size) :
    Sort.HoldsK enc k w g off d := by
  intro j hj
  have hj' : j < d.size * k := by rw [Sort.size_flatK] at hj; exact hj
  have e1 : (Sort.flatK enc k d).toList[j]? = some ((Sort.flatK enc k d)[j]!) := by rw [Array.getElem?_toList, getElem!_pos (Sort.flatK enc k d) j hj, Array.getElem?_eq_getElem hj]
  rw [AT enc k hk, ← hL, List.getElem?_take, if_pos hj', List.getElem?_drop, Array.getElem?_toList] at e1
  refine ⟨?_, ?_⟩
  · show (match w.heap[g]? with | some (.cells c _ _) => if (none : Option _).isSome then none else c[off + j]? | _ => none) = _
    rw [hg]
    exact e1
  · show (match w.heap[g]? with | some (.cells _ _ (lo, hi)) => decide (lo ≤ off + j) && decide (off + j < hi) | _ => false) = false
    rw [hg]
    simp
theorem DX {F arr : Array Value} {off : Nat} (h : off + F.size ≤ arr.size) : Sort.putCells id off F arr = (aw arr.toList off F.toList).toArray := by
 apply Array.ext_getElem?
 intro i
 unfold Sort.putCells aw
 simp only [List.append_assoc]
 refine Eq.trans ?_ (List.getElem?_toArray ..).symm
 rw [Array.getElem?_mapIdx, List.getElem?_append, List.length_take, Array.length_toList, Nat.min_eq_left (by omega), List.getElem?_append, Array.length_toList, List.getElem?_take, List.getElem?_drop, Array.getElem?_toList, Array.getElem?_toList, Array.getElem?_toList]
 by_cases h1 : i < off
 ·rw [if_pos h1, if_pos h1]
  have : arr[i]? = some arr[i] := Array.getElem?_eq_getElem (by omega)
  rw [this, Option.map_some, if_neg (by omega)]
 ·rw [if_neg h1]
  by_cases h2 : i - off < F.size
  ·have : arr[i]? = some arr[i] := Array.getElem?_eq_getElem (by omega)
   rw [if_pos h2, this, Option.map_some, if_pos ⟨by omega, by omega⟩, Array.getElem?_eq_getElem h2]
   congr 1
   exact getElem!_pos F (i - off) h2
  ·rw [if_neg h2, show off + F.size + (i - off - F.size) = i by omega]
   cases e : arr[i]? with
   | none => rfl
   | some z => rw [Option.map_some, if_neg (by omega)]
theorem Mj {α : Type} [Inhabited α] {enc : α → List Value} {k : Nat} (hk : ∀ x, (enc x).length = k) {w : World} {g off n : Nat} {d : Array α} {os : Array Obj} {arr : Array Value} {eid : TypeId} (hg : w.heap[g]? = some (.cells arr eid (0, 0))) (hb : off + d.size * k ≤ arr.size) :
    Kept (w.setRow g (aw arr.toList off (d.toList.flatMap enc)).toArray) (Go.Proofs.sortWorldK enc k w g off n d os) := by
  have hF : (Sort.flatK enc k d).size = d.size * k := Sort.size_flatK ..
  have e0 : Sort.putCells id off (Sort.flatK enc k d) arr = (aw arr.toList off (d.toList.flatMap enc)).toArray := by
    rw [DX (by rw [hF]; exact hb), AT enc k hk]
  have hlt : g < w.heap.size := (Array.getElem?_eq_some_iff.1 hg).1
  have hheap : (Sort.putRowK enc k (Sort.ahead w n) g off d).heap = (w.setRow g (aw arr.toList off (d.toList.flatMap enc)).toArray).heap := by
    apply Array.ext_getElem?
    intro b
    show (w.heap.modify g (Sort.onCells (Sort.putCells id off (Sort.flatK enc k d))))[b]? = _
    by_cases hbg : b = g
    · subst hbg
      rw [setRow_heap w b arr _ eid (0, 0) hg, Array.getElem?_modify, if_pos rfl, hg, Option.map_some]
      show some (Obj.cells (Sort.putCells id off (Sort.flatK enc k d) arr) eid (0, 0)) = _
      rw [e0]
    · rw [setRow_other w g b _ hbg, Array.getElem?_modify, if_neg (Ne.symm hbg)]
  refine ⟨rfl, ⟨rfl, fun _ => Nat.le_add_right _ _⟩, rfl, ?_, fun b hb' => ?_⟩
  · show _ ≤ ((Sort.putRowK enc k (Sort.ahead w n) g off d).heap ++ os).size
    rw [hheap, Array.size_append]
    exact Nat.le_add_right _ _
  · show ((Sort.putRowK enc k (Sort.ahead w n) g off d).heap ++ os)[b]? = _
    rw [hheap, Array.getElem?_append, if_pos hb']
theorem Ir {w w' : World} (h : Kept w w') : ∃ q os, w' = Sort.grow (w.drewN q) os := by
 obtain ⟨h1, h2, h3, h4, h5⟩ := h
 refine ⟨w'.drawn - w.drawn, w'.heap.extract w.heap.size w'.heap.size, ?_⟩
 have hd := h2.le trivial
 have hh : w'.heap = w.heap ++ w'.heap.extract w.heap.size w'.heap.size := by
  apply Array.ext_getElem?
  intro b
  rw [Array.getElem?_append]
  split
  ·rename_i hb; exact h5 b hb
  ·rename_i hb
   rw [Array.getElem?_extract, Nat.add_sub_cancel' (by omega)]
   split
   ·rfl
   ·rename_i hb'
    exact Array.getElem?_eq_none (by omega)
 have ht := h2.eq
 cases w
 cases w'
 simp only at h1 h3 hh hd ht
 unfold Sort.grow World.drewN
 simp only [World.mk.injEq]
 exact ⟨hh, ht, by omega, h1, h3⟩
abbrev InT (e : Ty) (xs : List (den e)) := {x : den e // okT e x ∧ x ∈ xs}
abbrev uS (e : Ty) : Ty := .fn (.pair e (.pair e .unit)) (.pair ae .unit)
def cfD (e : Ty) (f : den (uS e)) (x y : den e) : Int := (Hc (a := .pair e (.pair e .unit)) (r := .pair ae .unit) f (x, y, ())).1
def ltD (e : Ty) (f : den (uS e)) (x y : den e) : Bool := decide (cfD e f x y < 0)
def qY (e : Ty) (xs : List (den e)) (x : InT e xs) : List Value := ft e x.1
theorem NR {P : Program} {e : Ty} (hfl : eZ e = true) (hag : isAgg e = true) {xs : List (den e)} [Inhabited (InT e xs)] {O : Nat → Prop} {w : World} {g : Nat} (hO : ∀ b, O b → b < w.heap.size) (hg : O g) {q : den (.pair e (.pair e .unit)) → den (.pair ae .unit)} {f : FuncId} {cb : Array Value}
    (hf : ∀ O' w', Lat O w O' w' → (∀ g, O' g → g < w'.heap.size) → ∀ vs x, Rep P (.pair e (.pair e .unit)) .chain O' w' vs x → Calls P f (vs.toArray ++ cb) w' fun e' w'' => ∃ v, e' = .returned v ∧ Kept w' w'' ∧ Rep P (.pair ae .unit) .result O' w'' [v] (q x))
    {off size : Nat} : Go.Proofs.CmpLays P f cb (qY e xs) (siz e) (fun x y => cfD e (some q) x.1 y.1) g off size w := by
  intro m os dk hs x y
  have hlat : Lat O w O (Go.Proofs.sortWorldK (qY e xs) (siz e) w g off m dk os) := by
    refine ⟨?_, fun b hb hnb => ⟨?_, hnb⟩⟩
    · show _ ≤ ((w.heap.modify g _) ++ os).size
      rw [Array.size_append, Array.size_modify]
      exact Nat.le_add_right _ _
    · have hbg : ¬ g = b := fun h => hnb (h ▸ hg)
      show ((w.heap.modify g _) ++ os)[b]? = _
      rw [Array.getElem?_append, if_pos (by rw [Array.size_modify]; exact hb), Array.getElem?_modify, if_neg hbg]
  have hx : Rep P (.pair e (.pair e .unit)) .chain O (Go.Proofs.sortWorldK (qY e xs) (siz e) w g off m dk os) [.agg (qY e xs x).toArray, .agg (qY e xs y).toArray] (x.1, y.1, ()) := by
    have e1 : ∀ z : InT e xs, Value.agg (qY e xs z).toArray = az e (ft e z.1) := fun z => by unfold az; rw [hag]; rfl
    rw [e1 x, e1 y]
    exact ⟨[az e (ft e y.1)], ft e x.1, rfl, E3 hfl _ x.2.1, [], ft e y.1, rfl, E3 hfl _ y.2.1, rfl⟩
  have := hf O _ hlat (fun b hb => Nat.lt_of_lt_of_le (hO b hb) hlat.size) _ _ hx
  refine Calls.mono this ?_
  rintro e' w'' ⟨v, rfl, hk, rest, cs, hv, hi, hr⟩
  refine ⟨?_, ?_⟩
  · have hi : cs = [.int .i64 (q (x.1, y.1, ())).1] := hi.1
    subst hi
    have hv : [v] = [Value.int .i64 (q (x.1, y.1, ())).1] := hv
    have : v = Value.int .i64 (q (x.1, y.1, ())).1 := by simpa using hv
    rw [this]
    rfl
  · exact Ir hk
def ge (e : Ty) (f : den (uS e)) (xs : List (den e)) : List (den e) := xs.mergeSort fun x y => !ltD e f y x
structure jN (e : Ty) (f : den (uS e)) (xs : List (den e)) : Prop where
 fn : Li (a := .pair e (.pair e .unit)) (r := .pair ae .unit) f
 swo : Sort.SWO (ltD e f)
 tot : ∀ x ∈ xs, ∀ y ∈ xs, ltD e f x y = false → ltD e f y x = false → x = y
 len : xs.length ≤ 1000000
@[reducible] def Ow (e : Ty) : d6 := ⟨e, true, .pair (uS e) .unit, false, fun xs y => jN e y.1 xs, fun xs y => ge e y.1 xs⟩
theorem NU {P : Program} {Gl : gQ} {e : Ty} (hfl : eZ e = true) (hag : isAgg e = true) {fid : FuncId} (can : gx P fid)
    (none : ∀ (p : Option Addr) (cap : Nat) (fv : Value) (w : World), Calls P fid #[.slice p 0 cap, fv] w fun e' w' => e' = .returned (.tuple #[]) ∧ w' = w)
    (tot : ∀ {α : Type} [Inhabited α] (enc : α → List Value) (_ : ∀ x, (enc x).length = siz e) (_ : ∀ x, ∀ v ∈ enc x, v.oneCell' = true) (cf : α → α → Int) (_ : Sort.SWO (Go.Proofs.ltOf cf)) (g : Nat) (cb : Array Value) (blk off cap : Nat) (d : Array α) (w : World)
      (_ : ∀ args w, (callFunc g args).run P w = .ok (.enter g args) w) (_ : Go.Proofs.CmpLays P g cb enc (siz e) cf blk off d.size w) (_ : Sort.HoldsK enc (siz e) w blk off d) (_ : blk < w.heap.size) (_ : d.size < 4611686018427387904) (_ : ∀ x y, (Go.Proofs.ltOf cf) x y = false → (Go.Proofs.ltOf cf) y x = false → x = y),
      Calls P fid #[.slice (some ⟨blk, off, Option.none⟩) d.size cap, .func (.func g) #[] cb] w fun e' w' => e' = .returned (.tuple #[]) ∧ ∃ n os, w' = Go.Proofs.sortWorldK enc (siz e) w blk off n (d.toList.mergeSort fun x y => !(Go.Proofs.ltOf cf) y x).toArray os) :
    sm P Gl fid (Ow e) := by
  refine ⟨can, rfl, fun xs y _ => List.length_mergeSort .., fun O w a0 c vs y hO hgl hv hp => ?_, fun O w g off c arr eid xs vs y hO hg hgl hne hrow hb hc hm hrep hv hp => ?_⟩
  · obtain ⟨rest, cs, rfl, hf, hr⟩ := hv
    have hr : rest = [] := hr
    subst hr
    refine Calls.mono (none a0 c _ w) fun e' w' he => ⟨he.1, by rw [he.2]; exact Kept.refl w⟩
  · obtain ⟨f, ⟨⟩⟩ := y
    obtain ⟨rest, cs, rfl, hf, hr⟩ := hv
    have hr : rest = [] := hr
    subst hr
    obtain ⟨q, hq⟩ := hp.fn
    have hq : f = some q := hq
    subst hq
    obtain ⟨fi, captured, rfl, hcan, hdo⟩ := hf
    obtain ⟨hL, hok⟩ := xF (ok := okT e) (Pn hfl) hrep
    have hlx : xs.length ≤ 1000000 := hp.len
    let ys : List (InT e xs) := xs.attach.map fun x => ⟨x.1, hok x.1 x.2, x.2⟩
    have hys : ys.map (·.1) = xs := by
      show (xs.attach.map _).map _ = xs
      rw [List.map_map]
      exact List.attach_map_subtype_val xs
    have hyl : ys.length = xs.length := by simpa using congrArg List.length hys
    obtain ⟨y0, hy0⟩ : ∃ y0, y0 ∈ ys := by
      cases hc0 : ys with
      | nil => rw [hc0] at hys; exact absurd hys.symm hne
      | cons z zs => exact ⟨z, List.mem_cons_self⟩
    haveI : Inhabited (InT e xs) := ⟨y0⟩
    have hflat : ∀ zs : List (InT e xs), zs.flatMap (qY e xs) = (zs.map (·.1)).flatMap (ft e) := fun zs => by
      rw [List.flatMap_map]
      rfl
    have hk : ∀ x, (qY e xs x).length = siz e := fun x => tq hfl _ x.2.1
    have hnb : ¬ e = .int .u8 := fun h => by rw [h] at hag; cases hag
    obtain ⟨fz, hgr, hfz⟩ := hrow
    have hfz : fz = (0, 0) := hfz.resolve_right fun h => hnb h.1
    subst hfz
    have hlt : g < w.heap.size := (Array.getElem?_eq_some_iff.1 hgr).1
    have hsz : ys.toArray.size = xs.length := by rw [List.size_toArray, hyl]
    have hH : Sort.HoldsK (qY e xs) (siz e) w g off ys.toArray := Mh hk hgr (by rw [hsz, hL]; show _ = ys.flatMap (qY e xs); rw [hflat, hys]) (by rw [hsz]; exact hb)
    have := tot (qY e xs) hk (fun x => NH hfl x.1) (fun x y => cfD e (some q) x.1 y.1) ⟨fun x => hp.swo.irrefl x.1, fun x y z => hp.swo.trans x.1 y.1 z.1, fun x y z => hp.swo.ntrans x.1 y.1 z.1⟩ fi captured g off c ys.toArray w hcan (NR hfl hag hO hg hdo) hH hlt (by rw [hsz]; omega)
      (fun x y h1 h2 => Subtype.ext (hp.tot x.1 x.2.2 y.1 y.2.2 h1 h2))
    rw [hsz] at this
    refine Calls.mono this ?_
    rintro e' w' ⟨rfl, n, os, rfl⟩
    refine ⟨rfl, (ge e (some q) xs).flatMap (ft e), ?_, ?_, ?_⟩
    · have hmem : ∀ x ∈ ge e (some q) xs, x ∈ xs := fun x hx => (List.mem_mergeSort).1 hx
      have hlen : (ge e (some q) xs).length = xs.length := List.length_mergeSort ..
      rw [qn (k := siz e) fun x hx => tq hfl x (hok x (hmem x hx)), hlen]
    · have hmem : ∀ x ∈ ge e (some q) xs, x ∈ xs := fun x hx => (List.mem_mergeSort).1 hx
      exact xB (ok := okT e) (E3 hfl) (tq hfl) fun x hx => hok x (hmem x hx)
    · have hs : ((ys.mergeSort fun x y => !(Go.Proofs.ltOf fun (x y : InT e xs) => cfD e (some q) x.1 y.1) y x).map (·.1)) = ge e (some q) xs := by
        have := List.map_mergeSort (r := fun x y => !(Go.Proofs.ltOf fun (x y : InT e xs) => cfD e (some q) x.1 y.1) y x) (s := fun x y => !ltD e (some q) y x) (f := fun x : InT e xs => x.1) (l := ys) (fun a _ b _ => rfl)
        rw [hys] at this
        exact this
      have hk2 := Mj (enc := qY e xs) hk (n := n) (os := os) (d := (ys.mergeSort fun x y => !(Go.Proofs.ltOf fun (x y : InT e xs) => cfD e (some q) x.1 y.1) y x).toArray) hgr (off := off) (by rw [List.size_toArray, List.length_mergeSort, hyl]; exact hb)
      rw [hflat, hs] at hk2
      exact hk2
end Go.Proofs.Ytimdnodkabnbfaa
namespace Go.Proofs.Ytimdnodkabnbfaa
open Go Go.RowKit
noncomputable abbrev nX : aK := { T := bg, F := [], n := (kh).ntmps }
noncomputable abbrev tN : Ann := { }
theorem CH : cQ prog nX := zz ((aL aS aE))
theorem Bj : dX nX = true := by kernel_rfl
noncomputable def sT (x : den (Ty.int IntKind.u8)) : a6 := a6.ret (K.val (Ty.pair Ty.bool Ty.unit) (!decide (x = x), PUnit.unit))
theorem za (x : den (Ty.int IntKind.u8)) : gn nX tN rR kh 1000 (aA kh) (Env.of (aF rQ (x, ()) 0) []) = sT x := by kernel_rfl
noncomputable abbrev oF : aK := { T := bg, F := [], n := (li).ntmps }
noncomputable abbrev uH : Ann := { }
theorem Ev : cQ prog oF := zz ((aL aS aE))
theorem Co : dX oF = true := by kernel_rfl
noncomputable def uD (x : den ae) : a6 := a6.ret (K.val (Ty.pair Ty.bool Ty.unit) (!decide (x = x), PUnit.unit))
theorem As (x : den ae) : gn oF uH tg li 1000 (aA li) (Env.of (aF td (x, ()) 0) []) = uD x := by kernel_rfl
end Go.Proofs.Ytimdnodkabnbfaa
namespace Go.Proofs.Ytimdnodkabnbfaa
open Go Go.RowKit
noncomputable abbrev oQ : bq := ⟨td, tg, fun _ => (false, ()), fun _ => True, true⟩
theorem DU : ap prog [] lL oQ :=
 zT Ev Co CZ (by kernel_rfl) (fun _ _ => trivial) (A := uH) (T := fun x => uD x.1) (fun x => As x.1) fun O w0 x _ _ => by
  refine ⟨_, rfl, ?_⟩
  simp
noncomputable abbrev nS : bq := ⟨rQ, rR, fun _ => (false, ()), fun _ => True, true⟩
theorem Ci : ap prog [] ke nS :=
 zT CH Bj Bq (by kernel_rfl) (fun _ _ => trivial) (A := tN) (T := fun x => sT x.1) (fun x => za x.1) fun O w0 x _ _ => by
  refine ⟨_, rfl, ?_⟩
  simp
theorem A6 (x y : den tId) : eqb tId x y = decide (x = y) := by
 have := n8 (t := tId) rfl x y
 cases h : eqb tId x y
 ·have : ¬ x = y := fun e => by rw [this.2 e] at h; cases h
  simp [this]
 ·simp [this.1 h]
end Go.Proofs.Ytimdnodkabnbfaa
namespace Go.Proofs.Ytimdnodkabnbfaa
open Go Go.RowKit
noncomputable abbrev mW : aK := { T := bg, F := [(lL, oQ)], n := (ju).ntmps }
noncomputable abbrev rU : Ann := { }
theorem Bi (h_cmp_isNaN_int : ap prog [] lL oQ) : cQ prog mW := zz (an (aL aS aE) h_cmp_isNaN_int)
theorem Aj : dX mW = true := by kernel_rfl
noncomputable def rP (x : den ae) (y : den ae) : a6 := a6.req True (a6.req True (a6.ite false (a6.ite false (a6.ret (K.val (Ty.pair ae Ty.unit) (0, PUnit.unit))) (a6.ret (K.val (Ty.pair ae Ty.unit) (-1, PUnit.unit)))) (a6.ite false (a6.ret (K.val (Ty.pair ae Ty.unit) (1, PUnit.unit))) (a6.ite (decide (x < y)) (a6.ret (K.val (Ty.pair ae Ty.unit) (-1, PUnit.unit))) (a6.ite (decide (y < x)) (a6.ret (K.val (Ty.pair ae Ty.unit) (1, PUnit.unit))) (a6.ret (K.val (Ty.pair ae Ty.unit) (0, PUnit.unit))))))))
theorem xt (x : den ae) (y : den ae) : gn mW rU qP ju 1000 (aA ju) (Env.of (aF qx (x, y, ()) 0) []) = rP x y := by kernel_rfl
noncomputable abbrev l6 : aK := { T := bg, F := [(ke, nS)], n := (iO).ntmps }
noncomputable abbrev qL : Ann := { }
theorem At (h_cmp_isNaN_byte : ap prog [] ke nS) : cQ prog l6 := zz (an (aL aS aE) h_cmp_isNaN_byte)
theorem y7 : dX l6 = true := by kernel_rfl
noncomputable def qy (x : den (Ty.int IntKind.u8)) (y : den (Ty.int IntKind.u8)) : a6 := a6.req True (a6.req True (a6.ite false (a6.ite false (a6.ret (K.val (Ty.pair ae Ty.unit) (0, PUnit.unit))) (a6.ret (K.val (Ty.pair ae Ty.unit) (-1, PUnit.unit)))) (a6.ite false (a6.ret (K.val (Ty.pair ae Ty.unit) (1, PUnit.unit))) (a6.ite (decide (x < y)) (a6.ret (K.val (Ty.pair ae Ty.unit) (-1, PUnit.unit))) (a6.ite (decide (y < x)) (a6.ret (K.val (Ty.pair ae Ty.unit) (1, PUnit.unit))) (a6.ret (K.val (Ty.pair ae Ty.unit) (0, PUnit.unit))))))))
theorem wq (x : den (Ty.int IntKind.u8)) (y : den (Ty.int IntKind.u8)) : gn l6 qL pA iO 1000 (aA iO) (Env.of (aF pF (x, y, ()) 0) []) = qy x y := by kernel_rfl
noncomputable abbrev k5 : aK := { T := bg, F := [], n := (dy).ntmps }
noncomputable abbrev vL : Ann := { loops := [(4, { keep := [2, 3, 4, 5, 6, 7] })] }
theorem vv : cQ prog k5 := zz ((aL aS aE))
theorem tl : dX k5 = true := by kernel_rfl
noncomputable def BV (a : den tId) (b : den tId) : a6 := a6.loop (lp dy 4) [(2, K.ptr 2 tId []), (3, K.ptr 3 tId []), (4, K.ptr 4 tId []), (5, K.ptr 5 tId []), (6, K.val ae 0), (7, K.val ae 31)] [(2, Bx.cell tId a), (3, Bx.cell tId b), (4, Bx.cell tId (zero tId)), (5, Bx.cell tId (zero tId))]
theorem Fb (a : den tId) (b : den tId) : gn k5 vL lU dy 1000 (aA dy) (Env.of (aF Ao (a, b, ()) 0) []) = BV a b := by kernel_rfl
noncomputable def rq (v6 : den ae) (v7 : den ae) (b2 : den tId) (b3 : den tId) (b4 : den tId) (b5 : den tId) : Env := Env.of [(2, K.ptr 2 tId []), (3, K.ptr 3 tId []), (4, K.ptr 4 tId []), (5, K.ptr 5 tId []), (6, K.val ae v6), (7, K.val ae v7)] [(2, Bx.cell tId b2), (3, Bx.cell tId b3), (4, Bx.cell tId b4), (5, Bx.cell tId b5)]
noncomputable def FB (v6 : den ae) (v7 : den ae) (b2 : den tId) (b3 : den tId) (b4 : den tId) (b5 : den tId) : a6 := a6.ite (decide (0 ≤ v7)) (a6.req (inB v7 ↑32) (a6.req (inB v7 ↑32) (a6.ite (decide (IntKind.wrap IntKind.i64 (IntKind.wrap IntKind.i64 (IntKind.wrap IntKind.i64 (el (Ty.int IntKind.u8) b3 v7) - IntKind.wrap IntKind.i64 (el (Ty.int IntKind.u8) b2 v7)) - v6) < 0)) (a6.req (inB v7 ↑32) (a6.loop (lp dy 4) [(2, K.ptr 2 tId []), (3, K.ptr 3 tId []), (4, K.ptr 4 tId []), (5, K.ptr 5 tId []), (6, K.val ae 1), (7, K.val ae (IntKind.wrap IntKind.i64 (v7 - 1)))] [(2, Bx.cell tId b2), (3, Bx.cell tId b3), (4, Bx.cell tId b4), (5, Bx.cell tId (we (Ty.int IntKind.u8) b5 v7 (IntKind.wrap IntKind.u8 (IntKind.wrap IntKind.i64 (IntKind.wrap IntKind.i64 (IntKind.wrap IntKind.i64 (IntKind.wrap IntKind.i64 (el (Ty.int IntKind.u8) b3 v7) - IntKind.wrap IntKind.i64 (el (Ty.int IntKind.u8) b2 v7)) - v6) + 256)))))])) (a6.req (inB v7 ↑32) (a6.loop (lp dy 4) [(2, K.ptr 2 tId []), (3, K.ptr 3 tId []), (4, K.ptr 4 tId []), (5, K.ptr 5 tId []), (6, K.val ae 0), (7, K.val ae (IntKind.wrap IntKind.i64 (v7 - 1)))] [(2, Bx.cell tId b2), (3, Bx.cell tId b3), (4, Bx.cell tId b4), (5, Bx.cell tId (we (Ty.int IntKind.u8) b5 v7 (IntKind.wrap IntKind.u8 (IntKind.wrap IntKind.i64 (IntKind.wrap IntKind.i64 (IntKind.wrap IntKind.i64 (el (Ty.int IntKind.u8) b3 v7) - IntKind.wrap IntKind.i64 (el (Ty.int IntKind.u8) b2 v7)) - v6)))))]))))) (a6.ret (K.val (Ty.pair tId Ty.unit) (b5, PUnit.unit)))
theorem rT (v6 : den ae) (v7 : den ae) (b2 : den tId) (b3 : den tId) (b4 : den tId) (b5 : den tId) : gn k5 vL lU dy 1000 (lp dy 4) (rq v6 v7 b2 b3 b4 b5) = FB v6 v7 b2 b3 b4 b5 := by kernel_rfl
end Go.Proofs.Ytimdnodkabnbfaa
namespace Go.Proofs.Ytimdnodkabnbfaa
open Go Go.RowKit
def fg (x y : Int) : Int := if x < y then -1 else if y < x then 1 else 0
noncomputable abbrev m3 : bq := ⟨qx, qP, fun x => (fg x.1 x.2.1, ()), fun _ => True, true⟩
theorem Bn : ap prog [] jt m3 :=
 zT (Bi DU) Aj z8 (by kernel_rfl) (fun _ _ => trivial) (A := rU) (T := fun x => rP x.1 x.2.1) (fun x => xt x.1 x.2.1) fun O w0 x _ _ => by
  refine ⟨trivial, trivial, fun h => (by cases h), fun _ => ⟨fun h => (by cases h), fun _ => ⟨fun h => ⟨_, rfl, ?_⟩, fun h => ⟨fun h' => ⟨_, rfl, ?_⟩, fun h' => ⟨_, rfl, ?_⟩⟩⟩⟩⟩
  ·simp [fg, of_decide_eq_true h]
  ·simp [fg, of_decide_eq_false h, of_decide_eq_true h']
  ·simp [fg, of_decide_eq_false h, of_decide_eq_false h']
noncomputable abbrev l8 : bq := ⟨pF, pA, fun x => (fg x.1 x.2.1, ()), fun _ => True, true⟩
theorem lO : ap prog [] iP l8 :=
 zT (At Ci) y7 y8 (by kernel_rfl) (fun _ _ => trivial) (A := qL) (T := fun x => qy x.1 x.2.1) (fun x => wq x.1 x.2.1) fun O w0 x _ _ => by
  refine ⟨trivial, trivial, fun h => (by cases h), fun _ => ⟨fun h => (by cases h), fun _ => ⟨fun h => ⟨_, rfl, ?_⟩, fun h => ⟨fun h' => ⟨_, rfl, ?_⟩, fun h' => ⟨_, rfl, ?_⟩⟩⟩⟩⟩
  ·simp [fg, of_decide_eq_true h]
  ·simp [fg, of_decide_eq_false h, of_decide_eq_true h']
  ·simp [fg, of_decide_eq_false h, of_decide_eq_false h']
end Go.Proofs.Ytimdnodkabnbfaa
namespace Go.Proofs.Ytimdnodkabnbfaa
open Go
def byt (l : List Int) : Prop := ∀ x ∈ l, 0 ≤ x ∧ x ≤ 255
theorem pS {x : Int} {l : List Int} : byt (x :: l) ↔ (0 ≤ x ∧ x ≤ 255) ∧ byt l := by
 simp [byt]
theorem qN {x : den tId} (h : okT tId x) : x.length = 32 ∧ byt x :=
 ⟨h.1, fun y hy => by
  have : InK .u8 y := h.2 y hy
  have h1 : IntKind.min .u8 = 0 := by decide
  have h2 : IntKind.max .u8 = 255 := by decide
  unfold InK at this
  rw [h1, h2] at this
  exact this⟩
def vB : List Int → Int
 | [] => 0
 | x :: l => x * 256 ^ l.length + vB l
theorem xO (n : Nat) : (0 : Int) < 256 ^ n := Int.pow_pos (by decide)
theorem nY : ∀ {l : List Int}, byt l → 0 ≤ vB l ∧ vB l < 256 ^ l.length
 | [], _ => by simp [vB]
 | x :: l, h => by
  obtain ⟨hx, hl⟩ := pS.1 h
  obtain ⟨h1, h2⟩ := nY hl
  have hp := xO l.length
  have h3 : 0 ≤ x * 256 ^ l.length := Int.mul_nonneg hx.1 (Int.le_of_lt hp)
  have h4 : x * 256 ^ l.length ≤ 255 * 256 ^ l.length := Int.mul_le_mul_of_nonneg_right hx.2 (Int.le_of_lt hp)
  rw [List.length_cons, Int.pow_succ]
  simp only [vB]
  omega
def toB : Nat → Int → List Int
 | 0, _ => []
 | n + 1, v => v / 256 ^ n :: toB n (v % 256 ^ n)
theorem ss : ∀ (n : Nat) (v : Int), (toB n v).length = n
 | 0, _ => rfl
 | n + 1, v => by simp [toB, ss n]
theorem DF : ∀ {l : List Int}, byt l → toB l.length (vB l) = l
 | [], _ => rfl
 | x :: l, h => by
  obtain ⟨hx, hl⟩ := pS.1 h
  obtain ⟨h1, h2⟩ := nY hl
  have hp := xO l.length
  have e1 : (x * 256 ^ l.length + vB l) / 256 ^ l.length = x := by
   rw [Int.add_comm, Int.add_mul_ediv_right _ _ (by omega), Int.ediv_eq_zero_of_lt h1 h2]; omega
  have e2 : (x * 256 ^ l.length + vB l) % 256 ^ l.length = vB l := by
   rw [Int.add_comm, Int.add_mul_emod_self_right, Int.emod_eq_of_lt h1 h2]
  show (x * 256 ^ l.length + vB l) / 256 ^ l.length :: toB l.length ((x * 256 ^ l.length + vB l) % 256 ^ l.length) = x :: l
  rw [e1, e2, DF hl]
theorem xW : ∀ (n : Nat) {v : Int}, 0 ≤ v → v < 256 ^ n → byt (toB n v) ∧ vB (toB n v) = v
 | 0, v, h0, h1 => ⟨by simp [toB, byt], by simp at h1; simp [toB, vB]; omega⟩
 | n + 1, v, h0, h1 => by
  have hp := xO n
  obtain ⟨i1, i2⟩ := xW n (Int.emod_nonneg v (by omega)) (Int.emod_lt_of_pos v hp)
  rw [Int.pow_succ] at h1
  have hd : v / 256 ^ n ≤ 255 := by
   have : v / 256 ^ n < 256 := Int.ediv_lt_of_lt_mul hp (by rw [Int.mul_comm]; exact h1)
   omega
  refine ⟨pS.2 ⟨⟨Int.ediv_nonneg h0 (Int.le_of_lt hp), hd⟩, i1⟩, ?_⟩
  show v / 256 ^ n * 256 ^ (toB n _).length + vB (toB n _) = v
  rw [i2, ss]
  have := Int.mul_ediv_add_emod v (256 ^ n)
  rw [Int.mul_comm]
  exact this
theorem AB {a b : List Int} (hl : a.length = b.length) (ha : byt a) (hb : byt b) (h : vB a = vB b) : a = b := by
 rw [← DF ha, ← DF hb, h, hl]
def tf : List Int → List Int → Int
 | [], [] => 0
 | [], _ :: _ => -1
 | _ :: _, [] => 1
 | x :: xs, y :: ys => if fg x y = 0 then tf xs ys else fg x y
theorem F2 {x y : Int} : fg x y = 0 ↔ x = y := by
 unfold fg; split
 ·omega
 ·split <;> omega
theorem Ks : ∀ {a b : List Int}, a.length = b.length → byt a → byt b → tf a b = fg (vB a) (vB b)
 | [], [], _, _, _ => by simp [tf, vB, fg]
 | [], _ :: _, h, _, _ => by simp at h
 | _ :: _, [], h, _, _ => by simp at h
 | x :: xs, y :: ys, h, ha, hb => by
  obtain ⟨hx, ha⟩ := pS.1 ha
  obtain ⟨hy, hb⟩ := pS.1 hb
  have hl : xs.length = ys.length := by simpa using h
  have ih := Ks hl ha hb
  obtain ⟨a1, a2⟩ := nY ha
  obtain ⟨b1, b2⟩ := nY hb
  rw [hl] at a2
  simp only [tf, vB]
  rw [hl]
  have hp := xO ys.length
  generalize (256 : Int) ^ ys.length = p at *
  split
  ·rename_i e
   rw [ih, F2.1 e]
   unfold fg
   split
   ·rw [if_pos (by omega)]
   ·split
    ·rw [if_neg (by omega), if_pos (by omega)]
    ·rw [if_neg (by omega), if_neg (by omega)]
  ·rename_i e
   have e : ¬ x = y := fun h => e (F2.2 h)
   rcases Int.lt_or_gt_of_ne e with hlt | hgt
   ·have : (x + 1) * p ≤ y * p := Int.mul_le_mul_of_nonneg_right hlt (Int.le_of_lt hp)
    rw [Int.add_mul, Int.one_mul] at this
    unfold fg
    rw [if_pos hlt, if_pos (by omega)]
   ·have : (y + 1) * p ≤ x * p := Int.mul_le_mul_of_nonneg_right hgt (Int.le_of_lt hp)
    rw [Int.add_mul, Int.one_mul] at this
    unfold fg
    rw [if_neg (by omega), if_pos hgt, if_neg (by omega), if_pos (by omega)]
def aT : Int := 256 ^ 32
def a7 (a b : List Int) : List Int := toB 32 ((vB b - vB a) % aT)
theorem Kx {l : List Int} {i : Nat} (h : i < l.length) : vB (l.drop i) = l[i] * 256 ^ (l.length - (i + 1)) + vB (l.drop (i + 1)) := by
 rw [List.drop_eq_getElem_cons h]
 simp [vB]
theorem Bs {l : List Int} {i : Nat} (h : i < l.length) (y : Int) : (l.set i y).drop i = y :: l.drop (i + 1) := by
 rw [List.drop_eq_getElem_cons (by simpa using h), List.getElem_set_self, List.drop_set_of_lt (by omega)]
end Go.Proofs.Ytimdnodkabnbfaa
namespace Go.Proofs.Ytimdnodkabnbfaa
open Go Go.RowKit
noncomputable abbrev jk : bq := ⟨Ao, lU, fun x => (a7 x.1 x.2.1, ()), fun _ => True, true⟩
theorem zp (O : Nat → Prop) (w0 : World) (a b z : List Int) (ha : a.length = 32) (hb : b.length = 32) (ba : byt a) (bb : byt b) : ∀ (i : Nat) (less : Int) (out : List Int), i ≤ 32 → out.length = 32 → (less = 0 ∨ less = 1) → byt (out.drop i) →
    vB (out.drop i) = vB (b.drop i) - vB (a.drop i) + less * 256 ^ (32 - i) →
    iA prog k5 O w0 dy (cG prog O w0 lU fun y => y = (a7 a b, ())) (lp dy 4) (rq less ((i : Int) - 1) a b z out)
  | 0, less, out, _, ho, hless, hby, hv => D9 vv tl (rT less _ a b z out) ⟨fun h => by
      have h : (0 : Int) ≤ ((0 : Nat) : Int) - 1 := of_decide_eq_true h
      omega, fun _ => ⟨_, rfl, by
        simp only [List.drop_zero] at hby hv
        have r := nY hby
        rw [ho] at r
        have e : (vB b - vB a) % aT = vB out := by
          have : vB b - vB a = vB out + (-less) * aT := by
            unfold aT
            rw [hv, Int.neg_mul]; omega
          rw [this, Int.add_mul_emod_self_right]
          exact Int.emod_eq_of_lt r.1 r.2
        have : a7 a b = out := by
          unfold a7
          rw [e, ← ho, DF hby]
        rw [this]⟩⟩
  | i + 1, less, out, hi, ho, hless, hby, hv => D9 vv tl (rT less _ a b z out) ⟨fun _ => by
      have ei : (((i + 1 : Nat) : Int) - 1) = ((i : Nat) : Int) := by omega
      rw [ei]
      have h1 : i < a.length := by omega
      have h2 : i < b.length := by omega
      have h3 : i < out.length := by omega
      rw [bS (e := .int .u8) h1, bS (e := .int .u8) h2]
      obtain ⟨a0, a1⟩ := ba _ (List.getElem_mem h1)
      obtain ⟨b0, b1⟩ := bb _ (List.getElem_mem h2)
      rw [cP (n := a[i]) (by omega), cP (n := b[i]) (by omega), cP (n := b[i] - a[i]) (by omega), cP (n := b[i] - a[i] - less) (by omega)]
      have hs : ∀ y : Int, we (.int .u8) out (i : Nat) y = out.set i y := fun y => rfl
      have hp : (256 : Int) ^ (32 - i) = 256 * 256 ^ (31 - i) := by
        rw [show 32 - i = (31 - i) + 1 by omega, Int.pow_succ, Int.mul_comm]
      have hq : 32 - (i + 1) = 31 - i := by omega
      rw [hq] at hv
      have va := Kx h1
      have vb := Kx h2
      rw [ha, hq] at va
      rw [hb, hq] at vb
      have step : ∀ y less' : Int, 0 ≤ y ∧ y ≤ 255 → (less' = 0 ∨ less' = 1) → y = b[i] - a[i] - less + 256 * less' →
          iA prog k5 O w0 dy (cG prog O w0 lU fun y => y = (a7 a b, ())) (lp dy 4) (rq less' ((i : Int) - 1) a b z (out.set i y)) := by
        intro y less' hy hl' e
        refine zp O w0 a b z ha hb ba bb i less' (out.set i y) (by omega) (by simpa using ho) hl' ?_ ?_
        · rw [Bs h3]; exact pS.2 ⟨hy, hby⟩
        · rw [Bs h3, va, vb, hp]
          simp only [vB, List.length_drop, ho, hq]
          rw [hv, e]
          generalize (256 : Int) ^ (31 - i) = p
          simp only [Int.sub_mul, Int.add_mul]
          have : 256 * less' * p = less' * (256 * p) := by rw [Int.mul_comm 256 less', Int.mul_assoc]
          omega
      refine ⟨bf (n := 32) (by omega), bf (n := 32) (by omega), fun h => ⟨bf (n := 32) (by omega), ?_⟩, fun h => ⟨bf (n := 32) (by omega), ?_⟩⟩
      · have h : b[i] - a[i] - less < 0 := of_decide_eq_true h
        rw [hs, cP (n := b[i] - a[i] - less + 256) (by omega), Iw (by omega), cP (by omega)]
        exact step _ 1 (by omega) (.inr rfl) (by omega)
      · have h : ¬ b[i] - a[i] - less < 0 := of_decide_eq_false h
        rw [hs, Iw (by omega), cP (by omega)]
        exact step _ 0 (by omega) (.inl rfl) (by omega), fun h => by
      have h : ¬ (0 : Int) ≤ ((i + 1 : Nat) : Int) - 1 := of_decide_eq_false h
      omega⟩
theorem vI : ap prog [] gS jk :=
 zT vv tl Hr (by kernel_rfl) (fun _ _ => trivial) (A := vL) (T := fun x => BV x.1 x.2.1) (fun x => Fb x.1 x.2.1) fun O w0 x hk _ => by
  obtain ⟨la, ba⟩ := qN hk.1
  obtain ⟨lb, bb⟩ := qN hk.2.1
  have hz : (zero tId : List Int).length = 32 := by simp [zero]
  exact zp O w0 x.1 x.2.1 (zero tId) la lb ba bb 32 0 (zero tId) (Nat.le_refl _) hz (.inl rfl) (by rw [List.drop_eq_nil_of_le (by omega)]; simp [byt])
   (by rw [List.drop_eq_nil_of_le (by omega), List.drop_eq_nil_of_le (by omega), List.drop_eq_nil_of_le (by omega)]; simp [vB])
end Go.Proofs.Ytimdnodkabnbfaa
namespace Go.Proofs.Ytimdnodkabnbfaa
open Go Go.RowKit
end Go.Proofs.Ytimdnodkabnbfaa
namespace Go.Proofs.Ytimdnodkabnbfaa
open Go Go.RowKit
noncomputable abbrev eP : aK := { T := bg, F := [(iP, l8)], n := (bY).ntmps }
noncomputable abbrev jO : Ann := { loops := [(2, { keep := [0, 1, 9, 10, 11] })] }
theorem jR (h_cmp_Compare_byte : ap prog [] iP l8) : cQ prog eP := zz (an (aL aS aE) h_cmp_Compare_byte)
theorem jj : dX eP = true := by kernel_rfl
noncomputable def og (s1 : den (Ty.slc (Ty.int IntKind.u8))) (s2 : den (Ty.slc (Ty.int IntKind.u8))) : a6 := a6.loop (lp bY 2) [(0, K.val (Ty.slc (Ty.int IntKind.u8)) s1), (1, K.val (Ty.slc (Ty.int IntKind.u8)) s2), (9, K.val (Ty.slc (Ty.int IntKind.u8)) s1), (10, K.val ae (lnx (Ty.int IntKind.u8) s1)), (11, K.val ae 0)] []
theorem ta (s1 : den (Ty.slc (Ty.int IntKind.u8))) (s2 : den (Ty.slc (Ty.int IntKind.u8))) : gn eP jO gd bY 1000 (aA bY) (Env.of (aF nk (s1, s2, ()) 0) []) = og s1 s2 := by kernel_rfl
noncomputable def mM (v0 : den (Ty.slc (Ty.int IntKind.u8))) (v1 : den (Ty.slc (Ty.int IntKind.u8))) (v9 : den (Ty.slc (Ty.int IntKind.u8))) (v10 : den ae) (v11 : den ae) : Env := Env.of [(0, K.val (Ty.slc (Ty.int IntKind.u8)) v0), (1, K.val (Ty.slc (Ty.int IntKind.u8)) v1), (9, K.val (Ty.slc (Ty.int IntKind.u8)) v9), (10, K.val ae v10), (11, K.val ae v11)] []
noncomputable def tt (v0 : den (Ty.slc (Ty.int IntKind.u8))) (v1 : den (Ty.slc (Ty.int IntKind.u8))) (v9 : den (Ty.slc (Ty.int IntKind.u8))) (v10 : den ae) (v11 : den ae) : a6 := a6.ite (decide (v11 < v10)) (a6.req (inB v11 (lnx (Ty.int IntKind.u8) v9)) (a6.ite (decide (lnx (Ty.int IntKind.u8) v1 ≤ v11)) (a6.ret (K.val (Ty.pair ae Ty.unit) (1, PUnit.unit))) (a6.req (inB v11 (lnx (Ty.int IntKind.u8) v1)) (a6.req True (a6.ite (!decide (fg (el (Ty.int IntKind.u8) v9 v11) (el (Ty.int IntKind.u8) v1 v11) = 0)) (a6.ret (K.val (Ty.pair ae Ty.unit) (fg (el (Ty.int IntKind.u8) v9 v11) (el (Ty.int IntKind.u8) v1 v11), PUnit.unit))) (a6.loop (lp bY 2) [(0, K.val (Ty.slc (Ty.int IntKind.u8)) v0), (1, K.val (Ty.slc (Ty.int IntKind.u8)) v1), (9, K.val (Ty.slc (Ty.int IntKind.u8)) v9), (10, K.val ae v10), (11, K.val ae (IntKind.wrap IntKind.i64 (v11 + 1)))] [])))))) (a6.ite (decide (lnx (Ty.int IntKind.u8) v0 < lnx (Ty.int IntKind.u8) v1)) (a6.ret (K.val (Ty.pair ae Ty.unit) (-1, PUnit.unit))) (a6.ret (K.val (Ty.pair ae Ty.unit) (0, PUnit.unit))))
theorem jW (v0 : den (Ty.slc (Ty.int IntKind.u8))) (v1 : den (Ty.slc (Ty.int IntKind.u8))) (v9 : den (Ty.slc (Ty.int IntKind.u8))) (v10 : den ae) (v11 : den ae) : gn eP jO gd bY 1000 (lp bY 2) (mM v0 v1 v9 v10 v11) = tt v0 v1 v9 v10 v11 := by kernel_rfl
end Go.Proofs.Ytimdnodkabnbfaa
namespace Go.Proofs.Ytimdnodkabnbfaa
open Go Go.RowKit
noncomputable abbrev jH : bq := ⟨nk, gd, fun x => (tf x.1 x.2.1, ()), fun _ => True, true⟩
theorem Fa (a : List Int) : tf a [] = if a = [] then 0 else 1 := by
 cases a <;> rfl
def vh (O : Nat → Prop) (w0 : World) (a b : List Int) (hm : a.length ≤ maxLen) :=
 PLift.up <| Ls (P := prog) (D := eP) (fn := bY) (rs := gd) (O := O) (w0 := w0) (todo := lp bY 2) (σ := Unit) a.length
  (fun i _ => mM a b a (lnx (.int .u8) a) i) (fun i _ => i ≤ b.length) (fun i _ y => y = (tf (a.drop i) (b.drop i), ()))
  (fun i _ hi hb ih => D9 (jR lO) jj (jW a b a _ _) ⟨fun _ => by
   refine ⟨bf hi, fun h => ⟨_, rfl, ?_⟩, fun h => ?_⟩
   ·have h : (b.length : Int) ≤ (i : Int) := of_decide_eq_true h
    rw [List.drop_eq_nil_of_le (show b.length ≤ i by omega), Fa, if_neg (fun e => by have := congrArg List.length e; simp at this; omega)]
   ·have h : ¬ (b.length : Int) ≤ (i : Int) := of_decide_eq_false h
    have hi' : i < b.length := by omega
    rw [bS (e := .int .u8) hi, bS (e := .int .u8) hi', cN hi hm]
    refine ⟨bf hi', trivial, fun h => ⟨_, rfl, ?_⟩, fun h => iA.mono (fun y hy => ?_) (ih () (by omega))⟩
    ·have h : ¬ fg a[i] b[i] = 0 := by simpa using h
     rw [List.drop_eq_getElem_cons hi, List.drop_eq_getElem_cons hi']
     simp only [tf, if_neg h]
    ·have h : fg a[i] b[i] = 0 := by simpa using h
     rw [hy, List.drop_eq_getElem_cons hi, List.drop_eq_getElem_cons hi']
     simp only [tf, if_pos h], fun h => by
   have h : ¬ (i : Int) < (a.length : Int) := of_decide_eq_false h
   omega⟩)
  (fun s hb => D9 (jR lO) jj (jW a b a _ _) ⟨fun h => by
   have h : (a.length : Int) < (a.length : Int) := of_decide_eq_true h
   omega, fun _ => ⟨fun h => ⟨_, rfl, by
    have h : (a.length : Int) < (b.length : Int) := of_decide_eq_true h
    rw [List.drop_eq_nil_of_le (Nat.le_refl _), List.drop_eq_getElem_cons (show a.length < b.length by omega)]
    rfl⟩, fun h => ⟨_, rfl, by
    have h : ¬ (a.length : Int) < (b.length : Int) := of_decide_eq_false h
    rw [List.drop_eq_nil_of_le (Nat.le_refl _), List.drop_eq_nil_of_le (show b.length ≤ a.length by omega)]
    rfl⟩⟩⟩)
theorem wt : ap prog [] gt jH :=
 zT (jR lO) jj vT (by kernel_rfl) (fun _ _ => trivial) (A := jO) (T := fun x => og x.1 x.2.1) (fun x => ta x.1 x.2.1) fun O w0 x hk _ =>
  (vh O w0 x.1 x.2.1 hk.1.1).down 0 () (Nat.zero_le _) (Nat.zero_le _)
end Go.Proofs.Ytimdnodkabnbfaa
namespace Go.Proofs.Ytimdnodkabnbfaa
open Go Go.RowKit
def gO (a b : List Int) : Int := fg (vB a) (vB b)
end Go.Proofs.Ytimdnodkabnbfaa
namespace Go.Proofs.Ytimdnodkabnbfaa
open Go Go.RowKit
noncomputable abbrev oL : aK := { T := bg, F := [(gt, jH)], n := (lm).ntmps }
noncomputable abbrev uy : Ann := { frz := [(1, [2, 3])] }
theorem Eb (h_slices_Compare_byte : ap prog [] gt jH) : cQ prog oL := zz (an (aL aS aE) h_slices_Compare_byte)
theorem CW : dX oL = true := by kernel_rfl
noncomputable def uu (a : den tId) (b : den tId) : a6 := a6.req (bQ 0 ↑32 ↑32) (a6.req (bQ 0 ↑32 ↑32) (a6.req True (a6.ret (K.val (Ty.pair ae Ty.unit) (tf (dS (Ty.int IntKind.u8) a 0 ↑32) (dS (Ty.int IntKind.u8) b 0 ↑32), PUnit.unit)))))
theorem Ad (a : den tId) (b : den tId) : gn oL uy sN lm 1000 (aA lm) (Env.of (aF s9 (a, b, ()) 0) []) = uu a b := by kernel_rfl
end Go.Proofs.Ytimdnodkabnbfaa
namespace Go.Proofs.Ytimdnodkabnbfaa
open Go Go.RowKit
noncomputable abbrev fj : bq := ⟨s9, sN, fun x => (gO x.1 x.2.1, ()), fun _ => True, true⟩
theorem oI : ap prog [] ed fj :=
 zT (Eb wt) CW CY (by kernel_rfl) (fun _ _ => trivial) (A := uy) (T := fun x => uu x.1 x.2.1) (fun x => Ad x.1 x.2.1) fun O w0 x hk _ => by
  obtain ⟨la, ba⟩ := qN hk.1
  obtain ⟨lb, bb⟩ := qN hk.2.1
  have hc : ∀ l : List Int, l.length = 32 → dS (.int .u8) l 0 32 = l := fun l hl => by
   show (l.take 32).drop 0 = l
   rw [List.drop_zero, ← hl, List.take_length]
  refine ⟨⟨Int.le_refl _, by decide, Int.le_refl _⟩, ⟨Int.le_refl _, by decide, Int.le_refl _⟩, trivial, _, rfl, ?_⟩
  have e := Ks (a := x.1) (b := x.2.1) (by rw [la, lb]) ba bb
  show (tf (dS (.int .u8) x.1 0 32) (dS (.int .u8) x.2.1 0 32), PUnit.unit) = (gO x.1 x.2.1, ())
  rw [hc x.1 la, hc x.2.1 lb, e]
  rfl
def gD (x a b : List Int) : Bool :=
 if a = b then true else if vB a < vB b then decide (vB a < vB x) && decide (vB x ≤ vB b) else decide (vB a < vB x) || decide (vB x ≤ vB b)
theorem Dk {a b : List Int} : gO a b < 0 ↔ vB a < vB b := by
 unfold gO fg; split
 ·exact ⟨fun _ => by omega, fun _ => by omega⟩
 ·split <;> exact ⟨fun _ => by omega, fun _ => by omega⟩
theorem Mz {a b : List Int} : gO a b ≤ 0 ↔ vB a ≤ vB b := by
 unfold gO fg; split
 ·exact ⟨fun _ => by omega, fun _ => by omega⟩
 ·split <;> exact ⟨fun _ => by omega, fun _ => by omega⟩
end Go.Proofs.Ytimdnodkabnbfaa
namespace Go.Proofs.Ytimdnodkabnbfaa
open Go Go.RowKit
noncomputable abbrev r6 : aK := { T := bg, F := [(gS, jk), (ed, fj)], n := (oO).ntmps }
noncomputable abbrev Ej : Ann := { }
theorem L3 (h_ident_Far : ap prog [] gS jk) (h_ident_Compare : ap prog [] ed fj) : cQ prog r6 := zz (an (an (aL aS aE) h_ident_Compare) h_ident_Far)
theorem Jc : dX r6 = true := by kernel_rfl
noncomputable def rZ (x : den tId) (a : den tId) (b : den tId) : a6 := a6.ite (eqb tId a b) (a6.ret (K.val (Ty.pair Ty.bool Ty.unit) (true, PUnit.unit))) (a6.req True (a6.req (dV [(!eqb tId (a7 a x) (List.replicate 32 (zero (Ty.int IntKind.u8))), true)] True) (a6.req (dV [(!eqb tId (a7 a x) (List.replicate 32 (zero (Ty.int IntKind.u8))), true)] True) (a6.ret (K.val (Ty.pair Ty.bool Ty.unit) (bif !eqb tId (a7 a x) (List.replicate 32 (zero (Ty.int IntKind.u8))) then decide (gO (a7 a x) (a7 a b) ≤ 0) else false, PUnit.unit))))))
theorem Gs (x : den tId) (a : den tId) (b : den tId) : gn r6 Ej vK oO 1000 (aA oO) (Env.of (aF BE (x, a, b, ()) 0) []) = rZ x a b := by kernel_rfl
end Go.Proofs.Ytimdnodkabnbfaa
namespace Go.Proofs.Ytimdnodkabnbfaa
open Go Go.RowKit
theorem O1 {x y W : Int} (hx : 0 ≤ x ∧ x < W) (hy : 0 ≤ y ∧ y < W) : (y - x) % W = if x ≤ y then y - x else y - x + W := by
 split
 ·exact Int.emod_eq_of_lt (by omega) (by omega)
 ·rw [← Int.add_emod_right]
  exact Int.emod_eq_of_lt (by omega) (by omega)
theorem ly {a : List Int} (ha : a.length = 32 ∧ byt a) : 0 ≤ vB a ∧ vB a < aT := by
 have := nY ha.2; rw [ha.1] at this; exact this
theorem DV {a b : List Int} (ha : a.length = 32 ∧ byt a) (hb : b.length = 32 ∧ byt b) : vB (a7 a b) = if vB a ≤ vB b then vB b - vB a else vB b - vB a + aT := by
 have ra := ly ha
 have rb := ly hb
 rw [← O1 ra rb]
 exact (xW 32 (Int.emod_nonneg _ (by decide)) (Int.emod_lt_of_pos _ (by decide))).2
theorem KM {a b : List Int} : (a7 a b).length = 32 ∧ byt (a7 a b) :=
 ⟨ss _ _, (xW 32 (Int.emod_nonneg _ (by decide)) (Int.emod_lt_of_pos _ (by decide))).1⟩
theorem Ip : vB (List.replicate 32 (0 : Int)) = 0 := by decide
theorem MH : byt (List.replicate 32 (0 : Int)) := fun x h => by
 have := List.eq_of_mem_replicate h
 omega
theorem H8 {a b : List Int} (ha : a.length = 32 ∧ byt a) (hb : b.length = 32 ∧ byt b) : a7 a b = List.replicate 32 (0 : Int) ↔ vB a = vB b := by
 have ra := ly ha
 have rb := ly hb
 have h1 := DV ha hb
 refine ⟨fun h => ?_, fun h => ?_⟩
 ·rw [h, Ip] at h1
  split at h1 <;> omega
 ·refine AB (by rw [KM.1, List.length_replicate]) KM.2 MH ?_
  rw [h1, Ip, if_pos (by omega)]; omega
noncomputable abbrev kw : bq := ⟨BE, vK, fun x => (gD x.1 x.2.1 x.2.2.1, ()), fun _ => True, true⟩
theorem MX {x a b : List Int} (hx : x.length = 32 ∧ byt x) (ha : a.length = 32 ∧ byt a) (hb : b.length = 32 ∧ byt b) (h : ¬ a = b) :
    (bif !decide (a7 a x = List.replicate 32 (0 : Int)) then decide (gO (a7 a x) (a7 a b) ≤ 0) else false) = gD x a b := by
  have rx := ly hx
  have ra := ly ha
  have rb := ly hb
  have hne : ¬ vB a = vB b := fun e => h (AB (by rw [ha.1, hb.1]) ha.2 hb.2 e)
  simp only [Mz, H8 ha hx, DV ha hx, DV ha hb]
  rw [gD, if_neg h]
  by_cases e1 : vB a = vB x
  · simp only [e1, decide_true, Bool.not_true, cond_false]
    split
    · simp
    · symm; simp; omega
  · simp only [e1, decide_false, Bool.not_false, cond_true]
    rw [Bool.eq_iff_iff]
    split <;> split <;> split <;> simp only [Bool.and_eq_true, Bool.or_eq_true, decide_eq_true_eq] <;> omega
theorem Jk (O : Nat → Prop) (w0 : World) (x a b : List Int) (hx : x.length = 32 ∧ byt x) (ha : a.length = 32 ∧ byt a) (hb : b.length = 32 ∧ byt b) : cj prog r6 O w0 oO vK (fun y => y = (gD x a b, ())) (rZ x a b) := by
 unfold rZ
 rw [A6, A6]
 refine ⟨fun h => ⟨_, rfl, ?_⟩, fun h => ⟨trivial, fun _ => trivial, fun _ => trivial, _, rfl, ?_⟩⟩
 ·have h : a = b := of_decide_eq_true h
  simp [gD, h]
 ·have h : ¬ a = b := of_decide_eq_false h
  rw [← MX hx ha hb h]; rfl
theorem yg : ap prog [] i8 kw :=
 zT (L3 vI oI) Jc Js (by kernel_rfl) (fun _ _ => trivial) (A := Ej) (T := fun x => rZ x.1 x.2.1 x.2.2.1) (fun x => Gs x.1 x.2.1 x.2.2.1) fun O w0 x hk _ =>
  Jk O w0 x.1 x.2.1 x.2.2.1 (qN hk.1) (qN hk.2.1) (qN hk.2.2.1)
end Go.Proofs.Ytimdnodkabnbfaa
namespace Go.Proofs.Ytimdnodkabnbfaa
open Go Go.RowKit
noncomputable abbrev wU : Fx := { fn := rD, ann := { } }
noncomputable abbrev yt : a8 := { D := { T := bg, F := [(gS, jk), (ed, fj)], R := [], ovl := [] }, inl := [] }
noncomputable abbrev GJ : bu := .data wy
theorem GK (h_ident_Far : ap prog [] gS jk) (h_ident_Compare : ap prog [] ed fj) : XOk prog yt := xok (an (an (aL aS aE) h_ident_Compare) h_ident_Far) (by kernel_rfl) aN aW aV
noncomputable def yD (a : den ab) (b : den ab) (id : den (Ty.ref tId)) : af := af.req True (af.req True (af.req True (af.ret (K.val (Ty.pair ae Ty.unit) (gO (a7 id (Prod.fst (Prod.snd a))) (a7 id (Prod.fst (Prod.snd b))), PUnit.unit)))))
theorem Cs (a : den ab) (b : den ab) (id : den (Ty.ref tId)) : aj yt GJ 5000 [] wU (aA rD) (Env.of (aF xf (a, b, id, ()) 0) []) = yD a b id := by kernel_rfl
noncomputable abbrev vc : Fx := { fn := pJ, ann := { } }
noncomputable abbrev xn : a8 := { D := { T := bg, F := [], R := [], ovl := [] }, inl := [] }
noncomputable abbrev FA : bu := .data uP
theorem ES : XOk prog xn := xok ((aL aS aE)) (by kernel_rfl) aN aW aV
noncomputable def wB (x : den ab) (m : den (Ty.ref ab)) : af := af.ret (K.val (Ty.pair Ty.bool Ty.unit) (bif decide (Prod.fst x = Prod.fst m) then true else eqb tId (Prod.fst (Prod.snd x)) (Prod.fst (Prod.snd m)), PUnit.unit))
theorem Bk (x : den ab) (m : den (Ty.ref ab)) : aj xn FA 5000 [] vc (aA pJ) (Env.of (aF uv (x, m, ()) 0) []) = wB x m := by kernel_rfl
noncomputable abbrev t8 : Fx := { fn := oN, ann := { } }
noncomputable abbrev uL : a8 := { D := { T := bg, F := [], R := [], ovl := [] }, inl := [] }
noncomputable abbrev Ek : bu := .data tO
theorem D4 : XOk prog uL := xok ((aL aS aE)) (by kernel_rfl) aN aW aV
noncomputable def uK (m : den ab) (no : den (Ty.ref ae)) : af := af.ret (K.val (Ty.pair Ty.bool Ty.unit) (decide (Prod.fst m = no), PUnit.unit))
theorem ze (m : den ab) (no : den (Ty.ref ae)) : aj uL Ek 5000 [] t8 (aA oN) (Env.of (aF s5 (m, no, ()) 0) []) = uK m no := by kernel_rfl
noncomputable abbrev aD : Fx := { fn := aH, ann := { loops := [(2, { keep := [0, 1, 7, 8] })], frz := [(1000002, [0, 1]), (2000002, [2, 3, 4, 6])] }, own := [16] }
noncomputable abbrev eY : a8 := { D := { T := bg, F := [], R := [], ovl := [] }, inl := [] }
noncomputable abbrev lH : bu := .data gE
theorem gP : XOk prog eY := xok ((aL aS aE)) (by kernel_rfl) aN aW aV
noncomputable def lq (s : den (Ty.slc ab)) (f : den (Ty.fn (Ty.pair ab Ty.unit) (Ty.pair Ty.bool Ty.unit))) : af := af.loop [] aD (lp aH 2) [(0, K.val (Ty.slc ab) s), (1, K.val (Ty.fn (Ty.pair ab Ty.unit) (Ty.pair Ty.bool Ty.unit)) f), (7, K.val ae (lnx ab s)), (8, K.val ae 0)] []
theorem pO (s : den (Ty.slc ab)) (f : den (Ty.fn (Ty.pair ab Ty.unit) (Ty.pair Ty.bool Ty.unit))) : aj eY lH 5000 [] aD (aA aH) (Env.of (aF kz (s, f, ()) 0) []) = lq s f := by kernel_rfl
noncomputable def jZ (v0 : den (Ty.slc ab)) (v1 : den (Ty.fn (Ty.pair ab Ty.unit) (Ty.pair Ty.bool Ty.unit))) (v7 : den ae) (v8 : den ae) : Env := Env.of [(0, K.val (Ty.slc ab) v0), (1, K.val (Ty.fn (Ty.pair ab Ty.unit) (Ty.pair Ty.bool Ty.unit)) v1), (7, K.val ae v7), (8, K.val ae v8)] []
noncomputable def pQ (v0 : den (Ty.slc ab)) (v1 : den (Ty.fn (Ty.pair ab Ty.unit) (Ty.pair Ty.bool Ty.unit))) (v7 : den ae) (v8 : den ae) : af := af.ite (decide (v8 < v7)) (af.req (inB v8 (lnx ab v0)) (af.req (lE (Ty.pair ab Ty.unit) (Ty.pair Ty.bool Ty.unit) v1) (af.ite (Prod.fst (pc (Ty.pair ab Ty.unit) (Ty.pair Ty.bool Ty.unit) v1 (el ab v0 v8, PUnit.unit))) (af.ret (K.val (Ty.pair ae Ty.unit) (v8, PUnit.unit))) (af.loop [] aD (lp aH 2) [(0, K.val (Ty.slc ab) v0), (1, K.val (Ty.fn (Ty.pair ab Ty.unit) (Ty.pair Ty.bool Ty.unit)) v1), (7, K.val ae v7), (8, K.val ae (IntKind.wrap IntKind.i64 (v8 + 1)))] [])))) (af.ret (K.val (Ty.pair ae Ty.unit) (-1, PUnit.unit)))
theorem iw (v0 : den (Ty.slc ab)) (v1 : den (Ty.fn (Ty.pair ab Ty.unit) (Ty.pair Ty.bool Ty.unit))) (v7 : den ae) (v8 : den ae) : aj eY lH 5000 [] aD (lp aH 2) (jZ v0 v1 v7 v8) = pQ v0 v1 v7 v8 := by kernel_rfl
noncomputable abbrev cE : Fx := { fn := cv, ann := { loops := [(5, { keep := [0, 1, 4, 5, 6] })] } }
noncomputable abbrev fI : a8 := { D := { T := bg, F := [], R := [], ovl := [] }, inl := [] }
noncomputable abbrev mR : bu := .data ip
theorem iB : XOk prog fI := xok ((aL aS aE)) (by kernel_rfl) aN aW aV
noncomputable def mQ (x : den (Ty.slc ab)) (cmp : den (Ty.fn (Ty.pair ab (Ty.pair ab Ty.unit)) (Ty.pair ae Ty.unit))) : af := af.ite (decide (lnx ab x < 1)) (af.bad (100000 + 1000 * 0 + 0)) (af.req (inB 0 (lnx ab x)) (af.loop [] cE (lp cv 5) [(0, K.val (Ty.slc ab) x), (1, K.val (Ty.fn (Ty.pair ab (Ty.pair ab Ty.unit)) (Ty.pair ae Ty.unit)) cmp), (4, K.ptr 0 ab []), (5, K.ptr (0 + 1) ab []), (6, K.val ae 1)] [(0, Bx.cell ab (zero ab)), (0 + 1, Bx.cell ab (el ab x 0))]))
theorem rK (x : den (Ty.slc ab)) (cmp : den (Ty.fn (Ty.pair ab (Ty.pair ab Ty.unit)) (Ty.pair ae Ty.unit))) : aj fI mR 5000 [] cE (aA cv) (Env.of (aF mb (x, cmp, ()) 0) []) = mQ x cmp := by kernel_rfl
noncomputable def lA (v0 : den (Ty.slc ab)) (v1 : den (Ty.fn (Ty.pair ab (Ty.pair ab Ty.unit)) (Ty.pair ae Ty.unit))) (v6 : den ae) (b0 : den ab) (b1 : den ab) : Env := Env.of [(0, K.val (Ty.slc ab) v0), (1, K.val (Ty.fn (Ty.pair ab (Ty.pair ab Ty.unit)) (Ty.pair ae Ty.unit)) v1), (4, K.ptr 0 ab []), (5, K.ptr (0 + 1) ab []), (6, K.val ae v6)] [(0, Bx.cell ab b0), (1, Bx.cell ab b1)]
noncomputable def rk (v0 : den (Ty.slc ab)) (v1 : den (Ty.fn (Ty.pair ab (Ty.pair ab Ty.unit)) (Ty.pair ae Ty.unit))) (v6 : den ae) (b0 : den ab) (b1 : den ab) : af := af.ite (decide (v6 < lnx ab v0)) (af.req (inB v6 (lnx ab v0)) (af.req (lE (Ty.pair ab (Ty.pair ab Ty.unit)) (Ty.pair ae Ty.unit) v1) (af.ite (decide (Prod.fst (pc (Ty.pair ab (Ty.pair ab Ty.unit)) (Ty.pair ae Ty.unit) v1 (el ab v0 v6, b1, PUnit.unit)) < 0)) (af.req (inB v6 (lnx ab v0)) (af.loop [] cE (lp cv 5) [(0, K.val (Ty.slc ab) v0), (1, K.val (Ty.fn (Ty.pair ab (Ty.pair ab Ty.unit)) (Ty.pair ae Ty.unit)) v1), (4, K.ptr 0 ab []), (5, K.ptr (0 + 1) ab []), (6, K.val ae (IntKind.wrap IntKind.i64 (v6 + 1)))] [(0, Bx.cell ab b0), (0 + 1, Bx.cell ab (el ab v0 v6))])) (af.loop [] cE (lp cv 5) [(0, K.val (Ty.slc ab) v0), (1, K.val (Ty.fn (Ty.pair ab (Ty.pair ab Ty.unit)) (Ty.pair ae Ty.unit)) v1), (4, K.ptr 0 ab []), (5, K.ptr (0 + 1) ab []), (6, K.val ae (IntKind.wrap IntKind.i64 (v6 + 1)))] [(0, Bx.cell ab b0), (0 + 1, Bx.cell ab b1)])))) (af.ret (K.val (Ty.pair ab Ty.unit) (b1, PUnit.unit)))
theorem jq (v0 : den (Ty.slc ab)) (v1 : den (Ty.fn (Ty.pair ab (Ty.pair ab Ty.unit)) (Ty.pair ae Ty.unit))) (v6 : den ae) (b0 : den ab) (b1 : den ab) : aj fI mR 5000 [] cE (lp cv 5) (lA v0 v1 v6 b0 b1) = rk v0 v1 v6 b0 b1 := by kernel_rfl
end Go.Proofs.Ytimdnodkabnbfaa
namespace Go.Proofs.Ytimdnodkabnbfaa
open Go Go.RowKit
abbrev Mem := den ab
abbrev f9 (a : List Int) : Prop := a.length = 32 ∧ byt a
theorem Km {x : den tId} (h : okT tId x) : f9 x := qN h
def He (a b : List Int) : List Int := toB 32 ((vB a + vB b) % aT)
def pw0 : List Int := List.replicate 31 0 ++ [1]
theorem PN : vB pw0 = 1 := by kernel_rfl
def k7 (x m : Mem) : Bool := bif decide (x.1 = m.1) then true else eqb tId x.2.1 m.2.1
noncomputable abbrev mt : bq := ⟨uv, uP, fun x => (k7 x.1 x.2.1, ()), fun _ => True, true⟩
theorem EX : ap prog [] mF mt :=
 bL (S := mt) ES (fx := vc) Dv (by kernel_rfl) (fun _ _ => trivial) (T := fun x => wB x.1 x.2.1) (fun x => Bk x.1 x.2.1) fun O w0 x _ _ => ⟨_, rfl, rfl⟩
noncomputable abbrev lu : bq := ⟨s5, tO, fun x => (decide (x.1.1 = x.2.1), ()), fun _ => True, true⟩
theorem D1 : ap prog [] lJ lu :=
 bL (S := lu) D4 (fx := t8) Cc (by kernel_rfl) (fun _ _ => trivial) (T := fun x => uK x.1 x.2.1) (fun x => ze x.1 x.2.1) fun O w0 x _ _ => ⟨_, rfl, rfl⟩
noncomputable abbrev nr : bq := ⟨xf, wy, fun x => (gO (a7 x.2.2.1 x.1.2.1) (a7 x.2.2.1 x.2.1.2.1), ()), fun _ => True, true⟩
theorem GU : ap prog [] nH nr :=
 bL (S := nr) (GK vI oI) (fx := wU) Fq (by kernel_rfl) (fun _ _ => trivial) (T := fun x => yD x.1 x.2.1 x.2.2.1) (fun x => Cs x.1 x.2.1 x.2.2.1) fun O w0 x _ _ => ⟨trivial, trivial, trivial, _, rfl, rfl⟩
def prM (f : den (.fn (.pair ab .unit) (.pair .bool .unit))) (m : Mem) : Bool := (pc (.pair ab .unit) (.pair .bool .unit) f (m, ())).1
def ixP (p : Mem → Bool) : List Mem → Int → Int
 | [], _ => -1
 | x :: l, i => bif p x then i else ixP p l (i + 1)
theorem vd (p : Mem → Bool) : ∀ (l : List Mem) (i : Int), 0 ≤ i → (l.any p = true → i ≤ ixP p l i ∧ ixP p l i < i + l.length) ∧ (l.any p = false → ixP p l i = -1)
 | [], i, _ => ⟨fun h => (by cases h), fun _ => rfl⟩
 | x :: l, i, hi => by
  obtain ⟨h1, h2⟩ := vd p l (i + 1) (by omega)
  rw [List.any_cons, List.length_cons]
  show (_ → _ ≤ (bif p x then i else ixP p l (i + 1)) ∧ (bif p x then i else ixP p l (i + 1)) < _) ∧ (_ → (bif p x then i else ixP p l (i + 1)) = -1)
  cases p x with
  | true => exact ⟨fun _ => ⟨Int.le_refl _, by show i < _; omega⟩, fun h => (by cases h)⟩
  | false =>
   refine ⟨fun h => ?_, fun h => h2 h⟩
   have := h1 h
   exact ⟨by show i ≤ ixP p l (i + 1); omega, by show ixP p l (i + 1) < _; omega⟩
theorem OP (p : Mem → Bool) (l : List Mem) : decide (0 ≤ ixP p l 0) = l.any p := by
 obtain ⟨h1, h2⟩ := vd p l 0 (Int.le_refl _)
 cases h : l.any p with
 | true => exact decide_eq_true (h1 h).1
 | false => rw [h2 h]; rfl
theorem Nr (p : Mem → Bool) : ∀ (l : List Mem) (i : Int), l.any p = true → ∃ k : Nat, ∃ h : k < l.length, ixP p l i = i + (k : Int) ∧ p l[k] = true
 | [], _, h => by cases h
 | x :: l, i, h => by
  show ∃ k : Nat, ∃ h : k < l.length + 1, (bif p x then i else ixP p l (i + 1)) = i + (k : Int) ∧ p (x :: l)[k] = true
  cases hx : p x with
  | true => exact ⟨0, by omega, by simp, hx⟩
  | false =>
   rw [List.any_cons, hx, Bool.false_or] at h
   obtain ⟨k, hk, h1, h2⟩ := Nr p l (i + 1) h
   exact ⟨k + 1, by omega, by show ixP p l (i + 1) = _; rw [h1]; omega, h2⟩
noncomputable abbrev cT : bq := ⟨kz, gE, fun x => (ixP (prM x.2.1) x.1 0, ()), fun x => lE (.pair ab .unit) (.pair .bool .unit) x.2.1, false⟩
abbrev GIx (O : Nat → Prop) (w0 : World) (y : Int) := bG prog eY (Cx.base O w0) (cG prog O w0 gE fun z => z = (y, ()))
def IS (O : Nat → Prop) (w0 : World) (xs : List Mem) (f : den (.fn (.pair ab .unit) (.pair .bool .unit))) (hf : lE (.pair ab .unit) (.pair .bool .unit) f) (hm : xs.length ≤ maxLen) (y : Int) (hy : y = ixP (prM f) xs 0) :=
 PLift.up <| bN (σ := Unit) xs.length (fun i _ => ixP (prM f) (xs.drop i) (i : Nat) = y)
  (fun i _ => GIx O w0 y [] aD (lp aH 2) (jZ xs f (lnx ab xs) (i : Nat)))
  (fun i _ hi hs ih => aM gP (iw xs f _ _) (by
   rw [List.drop_eq_getElem_cons hi] at hs
   have hs : (bif prM f xs[i] then ((i : Nat) : Int) else ixP (prM f) (xs.drop (i + 1)) (((i : Nat) : Int) + 1)) = y := hs
   refine ⟨fun _ => ⟨bf hi, hf, ?_⟩, fun hc => absurd hi (by rw [cL] at hc; exact of_decide_eq_false hc)⟩
   rw [bS hi, cN hi hm]
   refine ⟨fun hc => ⟨_, rfl, ?_⟩, fun hc => ih () ?_⟩
   ·have hc : prM f xs[i] = true := hc
    rw [hc] at hs
    rw [← hs]
    rfl
   ·have hc : prM f xs[i] = false := hc
    rw [hc] at hs
    exact hs))
  (fun _ hs => aM gP (iw xs f _ _) (by
   refine ⟨fun hc => absurd (of_decide_eq_true hc) (Int.lt_irrefl _), fun _ => ⟨_, rfl, ?_⟩⟩
   rw [List.drop_length] at hs
   rw [← hs]
   rfl))
theorem lI : ap prog [] cw cT :=
 bL (S := cT) gP (fx := aD) kG (by kernel_rfl) (fun h => by cases h) (T := fun x => lq x.1 x.2.1) (fun x => pO x.1 x.2.1) fun O w0 x hk hp =>
  (IS O w0 x.1 x.2.1 hp hk.1.1 _ rfl).down 0 () (Nat.zero_le _) rfl
def xY (k : Mem → Mem → Int) : Mem → List Mem → Mem
 | b, [] => b
 | b, x :: l => xY k (if k x b < 0 then x else b) l
def cmM (f : den (.fn (.pair ab (.pair ab .unit)) (.pair ae .unit))) (x y : Mem) : Int := (pc (.pair ab (.pair ab .unit)) (.pair ae .unit) f (x, y, ())).1
def HA (k : Mem → Mem → Int) : List Mem → Mem
 | [] => zero ab
 | b :: l => xY k b l
noncomputable abbrev fL : bq := ⟨mb, ip, fun x => (HA (cmM x.2.1) x.1, ()), fun x => lE (.pair ab (.pair ab .unit)) (.pair ae .unit) x.2.1 ∧ 0 < List.length x.1, false⟩
abbrev GMi (O : Nat → Prop) (w0 : World) (y : Mem) := bG prog fI (Cx.base O w0) (cG prog O w0 ip fun z => z = (y, ()))
def Lv (O : Nat → Prop) (w0 : World) (xs : List Mem) (f : den (.fn (.pair ab (.pair ab .unit)) (.pair ae .unit))) (hf : lE (.pair ab (.pair ab .unit)) (.pair ae .unit) f) (hm : xs.length ≤ maxLen) (z y : Mem) :=
 PLift.up <| bN (σ := Mem) xs.length (fun i b => xY (cmM f) b (xs.drop i) = y)
  (fun i b => GMi O w0 y [] cE (lp cv 5) (lA xs f (i : Nat) z b))
  (fun i b hi hs ih => aM iB (jq xs f _ z b) (by
   rw [List.drop_eq_getElem_cons hi] at hs
   have hs : xY (cmM f) (if cmM f xs[i] b < 0 then xs[i] else b) (xs.drop (i + 1)) = y := hs
   refine ⟨fun _ => ⟨bf hi, hf, ?_⟩, fun hc => absurd hi (by rw [cL] at hc; exact of_decide_eq_false hc)⟩
   rw [bS hi, cN hi hm]
   refine ⟨fun hc => ⟨bf hi, ih _ ?_⟩, fun hc => ih _ ?_⟩
   ·have hc : cmM f xs[i] b < 0 := of_decide_eq_true hc
    rw [if_pos hc] at hs
    exact hs
   ·have hc : ¬ cmM f xs[i] b < 0 := of_decide_eq_false hc
    rw [if_neg hc] at hs
    exact hs))
  (fun b hs => aM iB (jq xs f _ z b) (by
   refine ⟨fun hc => absurd (of_decide_eq_true hc) (Int.lt_irrefl _), fun _ => ⟨_, rfl, ?_⟩⟩
   rw [List.drop_length] at hs
   rw [← hs]
   rfl))
theorem uh : ap prog [] fH fL :=
 bL (S := fL) iB (fx := cE) tC (by kernel_rfl) (fun h => by cases h) (T := fun x => mQ x.1 x.2.1) (fun x => rK x.1 x.2.1) fun O w0 x hk hp => by
  obtain ⟨xs, f, ⟨⟩⟩ := x
  have hm : List.length xs ≤ maxLen := hk.1.1
  have h0 : 0 < List.length xs := hp.2
  refine ⟨fun hc => ?_, fun _ => ⟨bf (i := 0) h0, ?_⟩⟩
  ·exfalso
   have hc : ((xs.length : Nat) : Int) < 1 := of_decide_eq_true hc
   omega
  ·rw [show (0 : Int) = ((0 : Nat) : Int) from rfl, bS h0]
   refine (Lv O w0 xs f hp.1 hm (zero ab) (HA (cmM f) xs)).down 1 _ h0 ?_
   cases xs with
   | nil => cases h0
   | cons b l => rfl
def C3 (l : List Mem) (no : Int) : Mem := (l.find? fun m => decide (m.1 = no)).getD (-1, zero (Ty.pair tId Ty.unit))
theorem kW (x y : Mem) : eqb ab x y = decide (x = y) := by
 have := n8 (t := ab) rfl x y
 cases h : eqb ab x y
 ·have : ¬ x = y := fun e => by rw [this.2 e] at h; cases h
  simp [this]
 ·simp [this.1 h]
end Go.Proofs.Ytimdnodkabnbfaa
namespace Go.Proofs.Ytimdnodkabnbfaa
def rky (W a p : Int) : Int := if a ≤ p then p - a else p - a + W
def rup (W a : Int) : Int := if a + 1 = W then 0 else a + 1
theorem jg {W a p : Int} (ha : 0 ≤ a ∧ a < W) (hp : 0 ≤ p ∧ p < W) : 0 ≤ rky W a p ∧ rky W a p < W := by unfold rky; split <;> omega
theorem Do {W a p q : Int} (_ : 0 ≤ a ∧ a < W) (hp : 0 ≤ p ∧ p < W) (hq : 0 ≤ q ∧ q < W) (h : rky W a p = rky W a q) : p = q := by unfold rky at h; split at h <;> split at h <;> omega
theorem sA {W a : Int} : rky W a a = 0 := by unfold rky; rw [if_pos (Int.le_refl _)]; omega
theorem sy {W a p : Int} (ha : 0 ≤ a ∧ a < W) (hp : 0 ≤ p ∧ p < W) (h : rky W a p = 0) : p = a := by unfold rky at h; split at h <;> omega
theorem CJ {W a m p : Int} (ha : 0 ≤ a ∧ a < W) (hm : 0 ≤ m ∧ m < W) (hp : 0 ≤ p ∧ p < W) : rky W m p = if rky W a m ≤ rky W a p then rky W a p - rky W a m else rky W a p - rky W a m + W := by
 unfold rky
 split <;> split <;> split <;> split <;> omega
theorem xG {W m p : Int} (hm : 0 ≤ m ∧ m < W) (hp : 0 ≤ p ∧ p < W) : rky W (rup W m) p = if p = m then W - 1 else rky W m p - 1 := by
 unfold rky rup
 split <;> split <;> split <;> (try split) <;> omega
theorem Mw {W m : Int} (hm : 0 ≤ m ∧ m < W) : 0 ≤ rup W m ∧ rup W m < W := by unfold rup; split <;> omega
section
variable {M : Type} {pos : M → Int} {W : Int}
structure HS (pos : M → Int) (W : Int) (l : List M) : Prop where
 in' : ∀ m ∈ l, 0 ≤ pos m ∧ pos m < W
 inj : ∀ x ∈ l, ∀ y ∈ l, pos x = pos y → x = y
def fG (pos : M → Int) (W a : Int) (l : List M) (m : M) : Prop := m ∈ l ∧ ∀ x ∈ l, rky W a (pos m) ≤ rky W a (pos x)
theorem fG.uniq {l : List M} (h : HS pos W l) {a : Int} (ha : 0 ≤ a ∧ a < W) {m n : M} (hm : fG pos W a l m) (hn : fG pos W a l n) : m = n :=
 h.inj m hm.1 n hn.1 (Do ha (h.in' m hm.1) (h.in' n hn.1) (Int.le_antisymm (hm.2 n hn.1) (hn.2 m hm.1)))
theorem fG.mem {l : List M} {a : Int} {m : M} (h : fG pos W a l m) : m ∈ l := h.1
theorem fG.sub {l l' : List M} {a : Int} {m : M} (h : fG pos W a l m) (hs : ∀ x ∈ l', x ∈ l) (hm : m ∈ l') : fG pos W a l' m := ⟨hm, fun x hx => h.2 x (hs x hx)⟩
def mA (k : M → Int) : M → List M → M
 | b, [] => b
 | b, x :: l => mA k (if k x < k b then x else b) l
theorem Le (k : M → Int) (b x : M) (l : List M) : mA k b (x :: l) = mA k (if k x < k b then x else b) l := rfl
theorem x8 (k : M → Int) : ∀ (l : List M) (b : M), mA k b l ∈ b :: l ∧ k (mA k b l) ≤ k b ∧ ∀ x ∈ l, k (mA k b l) ≤ k x
 | [], b => ⟨List.mem_cons_self, Int.le_refl _, fun x hx => by cases hx⟩
 | x :: l, b => by
  rw [Le]
  by_cases h : k x < k b
  ·rw [if_pos h]
   obtain ⟨h1, h2, h3⟩ := x8 k l x
   refine ⟨List.mem_cons_of_mem _ h1, by omega, fun y hy => ?_⟩
   rcases List.mem_cons.1 hy with rfl | hy
   ·exact h2
   ·exact h3 y hy
  ·rw [if_neg h]
   obtain ⟨h1, h2, h3⟩ := x8 k l b
   refine ⟨?_, h2, fun y hy => ?_⟩
   ·rcases List.mem_cons.1 h1 with e | h'
    ·rw [e]; exact List.mem_cons_self
    ·exact List.mem_cons_of_mem _ (List.mem_cons_of_mem _ h')
   ·rcases List.mem_cons.1 hy with rfl | hy
    ·omega
    ·exact h3 y hy
structure nR (pos : M → Int) (W a : Int) (l s : List M) : Prop where
 mem : ∀ x, x ∈ s ↔ x ∈ l
 lt : s.Pairwise fun x y => rky W a (pos x) < rky W a (pos y)
theorem nR.get {a : Int} {l s : List M} (h : nR pos W a l s) {i j : Nat} (hi : i < j) (hj : j < s.length) : rky W a (pos s[i]) < rky W a (pos s[j]) := List.pairwise_iff_getElem.1 h.lt i j (by omega) hj hi
theorem nR.nodup {a : Int} {l s : List M} (h : nR pos W a l s) {i j : Nat} (hi : i < s.length) (hj : j < s.length) (e : s[i] = s[j]) : i = j := by
 rcases Nat.lt_trichotomy i j with h1 | h1 | h1
 ·have := h.get h1 hj; rw [e] at this; omega
 ·exact h1
 ·have := h.get h1 hi; rw [e] at this; omega
theorem nR.first {a : Int} {l s : List M} (h : nR pos W a l s) (h0 : 0 < s.length) : fG pos W a l s[0] :=
 ⟨(h.mem _).1 (List.getElem_mem h0), fun x hx => by
  obtain ⟨j, hj, rfl⟩ := List.getElem_of_mem ((h.mem x).2 hx)
  rcases Nat.eq_zero_or_pos j with e | e
  ·subst e; exact Int.le_refl _
  ·exact Int.le_of_lt (h.get e hj)⟩
theorem nR.next {a : Int} {l s : List M} (hl : HS pos W l) (ha : 0 ≤ a ∧ a < W) (h : nR pos W a l s) {i : Nat} (hi : i < s.length) :
    fG pos W (rup W (pos s[i])) l (s[(i + 1) % s.length]'(Nat.mod_lt _ (by omega))) := by
  have hr : ∀ j (hj : j < s.length), 0 ≤ pos s[j] ∧ pos s[j] < W := fun j hj => hl.in' _ ((h.mem _).1 (List.getElem_mem hj))
  have hn : (i + 1) % s.length < s.length := Nat.mod_lt _ (by omega)
  refine ⟨(h.mem _).1 (List.getElem_mem hn), fun x hx => ?_⟩
  obtain ⟨j, hj, rfl⟩ := List.getElem_of_mem ((h.mem x).2 hx)
  have key : ∀ k (hk : k < s.length), rky W (rup W (pos s[i])) (pos s[k]) = if k = i then W - 1 else (if i < k then rky W a (pos s[k]) - rky W a (pos s[i]) - 1 else rky W a (pos s[k]) - rky W a (pos s[i]) + W - 1) := fun k hk => by
    rw [xG (hr i hi) (hr k hk)]
    by_cases e : k = i
    · subst e; rw [if_pos rfl, if_pos rfl]
    · have hne : ¬ pos s[k] = pos s[i] := fun hp => e (h.nodup hk hi (hl.inj _ ((h.mem _).1 (List.getElem_mem hk)) _ ((h.mem _).1 (List.getElem_mem hi)) hp))
      rw [if_neg hne, if_neg e, CJ ha (hr i hi) (hr k hk)]
      by_cases h1 : i < k
      · have := h.get h1 hk
        rw [if_pos h1, if_pos (by omega)]
      · have := h.get (show k < i by omega) hi
        rw [if_neg h1, if_neg (by omega)]
  rw [key _ hn, key j hj]
  have rg : ∀ k (hk : k < s.length), 0 ≤ rky W a (pos s[k]) ∧ rky W a (pos s[k]) < W := fun k hk => jg ha (hr k hk)
  have ri := rg i hi
  have rj := rg j hj
  by_cases hlast : i + 1 < s.length
  · have e : (i + 1) % s.length = i + 1 := Nat.mod_eq_of_lt hlast
    simp only [e]
    rw [if_neg (by omega), if_pos (by omega)]
    have r1 := rg (i + 1) hlast
    have g1 := h.get (show i < i + 1 by omega) hlast
    by_cases e1 : j = i
    · rw [if_pos e1]; omega
    · rw [if_neg e1]
      by_cases e2 : i < j
      · rw [if_pos e2]
        rcases Nat.lt_or_ge (i + 1) j with e3 | e3
        · have := h.get e3 hj; omega
        · have : j = i + 1 := by omega
          subst this; omega
      · rw [if_neg e2]; omega
  · have e : (i + 1) % s.length = 0 := by rw [show i + 1 = s.length by omega, Nat.mod_self]
    simp only [e]
    by_cases e0 : 0 = i
    · subst e0
      have : j = 0 := by omega
      subst this
      exact Int.le_refl _
    · rw [if_neg e0, if_neg (by omega)]
      have r0 := rg 0 (by omega)
      have g0 := h.get (show 0 < i by omega) hi
      by_cases e1 : j = i
      · rw [if_pos e1]; omega
      · rw [if_neg e1, if_neg (by omega)]
        rcases Nat.eq_zero_or_pos j with e2 | e2
        · subst e2; omega
        · have := h.get e2 hj; omega
theorem nR.self {l s : List M} (hl : HS pos W l) {m : M} (hm : m ∈ l) (h : nR pos W (pos m) l s) (h0 : 0 < s.length) : s[0] = m :=
 fG.uniq hl (hl.in' m hm) (h.first h0) ⟨hm, fun x hx => by rw [sA]; exact (jg (hl.in' m hm) (hl.in' x hx)).1⟩
theorem ND {l : List M} (hl : HS pos W l) {b m : M} {a : Int} (ha : 0 ≤ a ∧ a < W) (hb : b ∈ l) (hn : fG pos W (rup W (pos b)) l m) (hne : ¬ b = m) : (0 < rky W (pos b) a ∧ rky W (pos b) a ≤ rky W (pos b) (pos m)) ↔ fG pos W a l m := by
 have rb := hl.in' b hb
 have rm := hl.in' m hn.1
 have hpm : ¬ pos m = pos b := fun e => hne (hl.inj b hb m hn.1 e.symm)
 have am := xG rb rm
 rw [if_neg hpm] at am
 have hmin : ∀ x ∈ l, ¬ pos x = pos b → rky W (pos b) (pos m) ≤ rky W (pos b) (pos x) := fun x hx hxb => by
  have h1 := hn.2 x hx
  rw [am, xG rb (hl.in' x hx), if_neg hxb] at h1
  omega
 have sh : ∀ x ∈ l, rky W a (pos x) = if rky W (pos b) a ≤ rky W (pos b) (pos x) then rky W (pos b) (pos x) - rky W (pos b) a else rky W (pos b) (pos x) - rky W (pos b) a + W := fun x hx => CJ rb ha (hl.in' x hx)
 have hbb : rky W (pos b) (pos b) = 0 := sA
 have ra := jg rb ha
 have rm2 := jg rb rm
 constructor
 ·rintro ⟨h1, h2⟩
  refine ⟨hn.1, fun x hx => ?_⟩
  rw [sh m hn.1, sh x hx, if_pos h2]
  by_cases hxb : pos x = pos b
  ·rw [hxb, hbb, if_neg (by omega)]; omega
  ·have := hmin x hx hxb
   rw [if_pos (by omega)]; omega
 ·intro h
  have h1 := h.2 b hb
  rw [sh m hn.1, sh b hb, hbb] at h1
  by_cases h0 : rky W (pos b) a = 0
  ·rw [h0, if_pos rm2.1, if_pos (Int.le_refl _)] at h1
   have : rky W (pos b) (pos m) = 0 := by omega
   exact absurd (sy rb rm this) hpm
  ·refine ⟨by omega, ?_⟩
   rcases Int.lt_or_le (rky W (pos b) (pos m)) (rky W (pos b) a) with h2 | h2
   ·rw [if_neg (by omega), if_neg (by omega)] at h1
    have : rky W (pos b) (pos m) = 0 := by omega
    exact absurd (sy rb rm this) hpm
   ·exact h2
end
end Go.Proofs.Ytimdnodkabnbfaa
namespace Go.Proofs
open Go.Shelf
def Try.sortMember_ren : Go.Shelf.Ren := ⟨fun | 6 => 127 | 15 => 134 | 14 => 133 | 28 => 144 | 29 => 145 | 20 => 136 | 21 => 137 | 22 => 138 | 23 => 139 | 24 => 140 | 25 => 141 | 26 => 142 | 27 => 143 | 46 => 146 | 47 => 147 | 48 => 148 | 49 => 149 | 50 => 150 | 57 => 151 | n => n, fun | 22 => 42 | 24 => 30 | 25 => 82 | 3 => 3 | 39 => 149 | 0 => 0 | 53 => 166 | 55 => 168 | 4 => 4 | 46 => 160 | 45 => 159 | 50 => 103 | 5 => 5 | 9 => 9 | 66 => 169 | 70 => 173 | 76 => 175 | 77 => 176 | n => n, fun | n => n⟩
theorem Try.sortMember : Go.Proofs.SlLaysF0.n6 Try.prog Try.sortMember_ren := {
 mixed := by kernel_rfl
 f6 := ⟨Try.f127.name, by decide, Try.func127.trans (congrArg some (by kernel_rfl))⟩
 f14 := ⟨Try.f133.name, by decide, Try.func133.trans (congrArg some (by kernel_rfl))⟩
 f15 := Try.func134.trans (congrArg some (by kernel_rfl))
 f20 := ⟨Try.f136.name, by decide, Try.func136.trans (congrArg some (by kernel_rfl))⟩
 f21 := ⟨Try.f137.name, by decide, Try.func137.trans (congrArg some (by kernel_rfl))⟩
 f22 := ⟨Try.f138.name, by decide, Try.func138.trans (congrArg some (by kernel_rfl))⟩
 f23 := ⟨Try.f139.name, by decide, Try.func139.trans (congrArg some (by kernel_rfl))⟩
 f24 := ⟨Try.f140.name, by decide, Try.func140.trans (congrArg some (by kernel_rfl))⟩
 f25 := ⟨Try.f141.name, by decide, Try.func141.trans (congrArg some (by kernel_rfl))⟩
 f26 := ⟨Try.f142.name, by decide, Try.func142.trans (congrArg some (by kernel_rfl))⟩
 f27 := ⟨Try.f143.name, by decide, Try.func143.trans (congrArg some (by kernel_rfl))⟩
 f28 := Try.func144.trans (congrArg some (by kernel_rfl))
 f29 := Try.func145.trans (congrArg some (by kernel_rfl))
 f46 := ⟨Try.f146.name, by decide, Try.func146.trans (congrArg some (by kernel_rfl))⟩
 f47 := Try.func147.trans (congrArg some (by kernel_rfl))
 f48 := Try.func148.trans (congrArg some (by kernel_rfl))
 f49 := ⟨Try.f149.name, by decide, Try.func149.trans (congrArg some (by kernel_rfl))⟩
 f50 := ⟨Try.f150.name, by decide, Try.func150.trans (congrArg some (by kernel_rfl))⟩
 f57 := ⟨Try.f151.name, by decide, Try.func151.trans (congrArg some (by kernel_rfl))⟩
 t0 := Try.underlying0
 a0 := Try.isAgg0
 z0 := Try.sizeOf0
 v0 := Try.zeroValue0
 t3 := Try.underlying3
 a3 := Try.isAgg3
 z3 := Try.sizeOf3
 v3 := Try.zeroValue3
 t4 := Try.underlying4
 a4 := Try.isAgg4
 z4 := Try.sizeOf4
 v4 := Try.zeroValue4
 t5 := Try.underlying5
 a5 := Try.isAgg5
 z5 := Try.sizeOf5
 v5 := Try.zeroValue5
 t9 := Try.underlying9
 a9 := Try.isAgg9
 z9 := Try.sizeOf9
 v9 := Try.zeroValue9
 t22 := Try.underlying42
 a22 := Try.isAgg42
 z22 := Try.sizeOf42
 v22 := Try.zeroValue42
 t25 := Try.underlying82
 a25 := Try.isAgg82
 z25 := Try.sizeOf82
 v25 := Try.zeroValue82
 t39 := Try.underlying149
 a39 := Try.isAgg149
 z39 := Try.sizeOf149
 v39 := Try.zeroValue149
 t45 := Try.underlying159
 a45 := Try.isAgg159
 z45 := Try.sizeOf159
 v45 := Try.zeroValue159
 t46 := Try.underlying160
 a46 := Try.isAgg160
 z46 := Try.sizeOf160
 v46 := Try.zeroValue160
 t50 := Try.underlying103
 a50 := Try.isAgg103
 z50 := Try.sizeOf103
 v50 := Try.zeroValue103
 t53 := Try.underlying166
 a53 := Try.isAgg166
 z53 := Try.sizeOf166
 v53 := Try.zeroValue166
 t55 := Try.underlying168
 a55 := Try.isAgg168
 z55 := Try.sizeOf168
 v55 := Try.zeroValue168
 t66 := Try.underlying169
 a66 := Try.isAgg169
 z66 := Try.sizeOf169
 v66 := Try.zeroValue169
 t70 := Try.underlying173
 a70 := Try.isAgg173
 z70 := Try.sizeOf173
 v70 := Try.zeroValue173
 t76 := Try.underlying175
 a76 := Try.isAgg175
 z76 := Try.sizeOf175
 v76 := Try.zeroValue175
 t77 := Try.underlying176
 a77 := Try.isAgg176
 z77 := Try.sizeOf176
 v77 := Try.zeroValue176 }
theorem Try.sortMember_none (p : Option Addr) (cap : Nat) (fv : Value) (w : World) :
    Calls Try.prog 127 #[.slice p 0 cap, fv] w fun e w' => e = .returned (.tuple #[]) ∧ w' = w := AnyF.slices_SortFunc_none Try.sortMember p cap fv w
end Go.Proofs
namespace Go.Proofs.Ytimdnodkabnbfaa
open Go Go.RowKit
@[reducible] def hY : d6 := Ow ab
theorem qU : sm prog [] fh hY :=
 NU (e := ab) rfl rfl (kY sj (by kernel_rfl) (by kernel_rfl)) (fun p cap fv w => Try.sortMember_none p cap fv w) fun enc hk h1 cf hO g cb blk off cap d w eg hcmp hH hblk hsz hT =>
  Go.Proofs.AnyQ.slices_SortFunc_total Try.sortMember 33 (fun w => (mw aS (show List.lookup (Try.sortMember_ren.t 24) bg = some ab by kernel_rfl)).isAgg w) (fun w => (mw aS (show List.lookup (Try.sortMember_ren.t 24) bg = some ab by kernel_rfl)).sizeOf w) enc hk h1 cf hO g cb blk off cap d w eg hcmp hH hblk hsz hT
abbrev NG : Ty := .clo co (.pair (.ref (.slc ab)) .unit)
abbrev lN : Ty := .pair NG .unit
noncomputable abbrev dA : bq := ⟨mP, lN, fun x => ((x.1, ()), ()), fun _ => True, false⟩
abbrev jM : Ty := .pair NG (.pair (uS ab) .unit)
noncomputable abbrev eE : bq := ⟨jM, gk, fun x => (ge ab x.2.1 x.1.1, ()), fun x => jN ab x.2.1 x.1.1, false⟩
def c5 (id : List Int) : den (uS ab) := some fun y => (gO (a7 id y.1.2.1) (a7 id y.2.1.2.1), ())
noncomputable abbrev kU : bq := ⟨zg, z6, fun x => (c5 x.1, ()), fun _ => True, true⟩
noncomputable abbrev bI : bq := ⟨jp, js, fun x => (x.1.any (prM x.2.1), ()), fun x => lE (.pair ab .unit) (.pair .bool .unit) x.2.1, false⟩
def AL : List Mem → List Mem → Bool
 | _, [] => true
 | pre, m :: l => (!(pre.any fun x => k7 x m)) && decide (0 ≤ m.1) && decide (m.1 < 16) && AL (pre ++ [m]) l
def bv (l : List Mem) : Bool := AL [] l && decide (l.length ≤ 16)
noncomputable abbrev gi : bq := ⟨yv, rh, fun x => (bv x.1, ()), fun _ => True, true⟩
def gq (l : List Mem) (id : List Int) : Mem × Int := bif !bv l then (zero ab, 1) else bif decide (lnx ab l = 0) then (zero ab, 6) else (HA (cmM (c5 id)) l, 0)
noncomputable abbrev lY : bq := ⟨yW, rG, fun x => ((gq x.1 x.2.1).1, (gq x.1 x.2.1).2, ()), fun _ => True, true⟩
def mX (l : List Mem) (no : Int) : Int := ixP (fun m => decide (m.1 = no)) l 0
def br (l : List Mem) (no : Int) : List Mem × Int := bif !bv l then ([], 1) else bif decide (mX l no < 0) then ([], 6) else (ge ab (c5 (el ab l (mX l no)).2.1) l, 0)
noncomputable abbrev gC : bq := ⟨xc, pP, fun x => ((br x.1 x.2.1).1, (br x.1 x.2.1).2, ()), fun _ => True, true⟩
def vr (all : List Mem) : Nat → List Mem
 | 0 => []
 | i + 1 => vr all i ++ [el ab all (Int.tmod ((i : Int) + 1) all.length)]
def eQ (l : List Mem) (no many : Int) : List Mem × Int := bif (bif decide (many < 0) then true else decide (16 < many)) then ([], 1) else bif !decide ((br l no).2 = 0) then ([], (br l no).2) else (vr (br l no).1 many.toNat, 0)
noncomputable abbrev md : bq := ⟨yn, kO, fun x => ((eQ x.1 x.2.1 x.2.2.1).1, (eQ x.1 x.2.1 x.2.2.1).2, ()), fun _ => True, true⟩
def fe (l : List Mem) (no : Int) : Mem × Int := bif !decide ((br l no).2 = 0) then (zero ab, (br l no).2) else (el ab (br l no).1 ((br l no).1.length - 1), 0)
noncomputable abbrev kE : bq := ⟨xk, pG, fun x => ((fe x.1 x.2.1).1, (fe x.1 x.2.1).2, ()), fun _ => True, true⟩
def noM : Mem := (-1, zero (Ty.pair tId Ty.unit))
def vg (id : List Int) (b m : Mem) : Mem := bif (bif decide (b.1 < 0) then true else decide (gO (a7 id m.2.1) (a7 id b.2.1) < 0)) then m else b
def Ik (l : List Mem) (id : List Int) : Mem := l.foldl (vg id) noM
def bX (l : List Mem) (m : Mem) : Mem := Ik l (He m.2.1 pw0)
def k6 (l : List Mem) : Mem → Nat → List Mem × Mem
 | m, 0 => ([], m)
 | m, i + 1 => ((k6 l m i).1 ++ [bX l (k6 l m i).2], bX l (k6 l m i).2)
end Go.Proofs.Ytimdnodkabnbfaa
