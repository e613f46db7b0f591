/- Part 7 of 9 of what this claim's proof stands on: a theory of programs on data, and the contracts of the functions that the law reaches. It holds no condition of its own. -/
import Derived.Test.YtimdnodkabnbfaaCA6
import Derived.Test.YtimdnodkabnbfaaProg
import Derived.Shelf.SlSortCmp.WholeK
import Derived.Shelf.SlSortCmp.NoneTotal
import Derived.Ground.SlsfProg
namespace Go.Proofs.Ytimdnodkabnbfaa
open Go
noncomputable section
noncomputable abbrev prog : Program := Try.prog
abbrev tId : Ty := (.arr 32 (.int .u8))
abbrev ab : Ty := (.st (.pair (.int .i64) (.pair tId .unit)))
abbrev ao : Ty := (.st (.pair ab (.pair .bool .unit)))
abbrev kY : Ty := (.st (.pair (.slc (.int .i64)) (.pair ab (.pair (.int .i64) .unit))))
abbrev ag : Ty := (.st (.pair ab (.pair ab (.pair (.slc ab) (.pair (.slc ab) .unit)))))
abbrev ah : Ty := (.st (.pair (.slc ag) .unit))
def br : List (Nat × Ty) := [
 (1, (.fn .unit .unit)),
 (2, (.int .i64)),
 (3, (.int .i64)),
 (4, .bool),
 (5, (.int .u8)),
 (9, .str),
 (12, (.int .u64)),
 (21, (.int .i32)),
 (22, (.slc ag)),
 (23, ah),
 (24, ah),
 (25, tId),
 (26, tId),
 (27, (.fn (.pair ah .unit) (.pair ah .unit))),
 (28, (.slc (.int .i64))),
 (29, ab),
 (30, ab),
 (31, (.int .i64)),
 (33, (.fn (.pair ah (.pair (.int .i64) (.pair tId (.pair (.int .i64) .unit)))) (.pair (.slc (.int .i64)) (.pair ab (.pair (.int .i64) .unit))))),
 (34, (.fn (.pair ah .unit) (.pair .bool .unit))),
 (35, (.fn .unit (.pair .bool .unit))),
 (36, kY),
 (37, kY),
 (38, (.fn (.pair ah (.pair (.int .i64) (.pair tId (.pair (.int .i64) .unit)))) (.pair kY .unit))),
 (39, (.fn (.pair ah (.pair (.int .i64) (.pair (.int .i64) (.pair tId .unit)))) (.pair .bool .unit))),
 (40, (.fn (.pair ah (.pair (.int .i64) (.pair tId (.pair (.int .i64) .unit)))) (.pair .bool .unit))),
 (41, (.mp (.int .i64) .bool)),
 (42, (.slc ab)),
 (43, (.fn (.pair ah .unit) (.pair (.slc ab) .unit))),
 (45, (.fn (.pair ah (.pair tId (.pair (.int .i64) .unit))) (.pair (.slc ab) (.pair (.int .i64) .unit)))),
 (46, (.fn (.pair (.slc ab) (.pair (.slc ab) .unit)) (.pair .bool .unit))),
 (47, (.fn (.pair ah (.pair tId (.pair (.int .i64) .unit))) (.pair (.slc ab) .unit))),
 (48, (.fn (.pair ah (.pair tId (.pair (.int .i64) .unit))) (.pair .bool .unit))),
 (50, (.fn (.pair (.slc ab) (.pair tId .unit)) (.pair ab (.pair (.int .i64) .unit)))),
 (51, (.mp (.int .i64) tId)),
 (52, ag),
 (53, ag),
 (54, (.fn (.pair tId (.pair tId .unit)) (.pair (.int .i64) .unit))),
 (55, (.fn (.pair tId (.pair tId .unit)) (.pair tId .unit))),
 (56, (.fn (.pair ah (.pair tId .unit)) (.pair .bool .unit))),
 (58, (.fn (.pair ah (.pair (.int .i64) (.pair (.int .i64) .unit))) (.pair ah (.pair (.int .i64) .unit)))),
 (59, (.fn (.pair ah (.pair tId (.pair (.slc (.int .i64)) .unit))) (.pair .bool .unit))),
 (60, (.fn (.pair ah .unit) (.pair ah (.pair (.int .i64) .unit)))),
 (61, (.fn (.pair ah (.pair (.int .i64) .unit)) (.pair ah (.pair (.int .i64) .unit)))),
 (62, (.fn (.pair ah (.pair ah .unit)) (.pair .bool .unit))),
 (63, (.fn (.pair ah (.pair ab (.pair (.int .i64) .unit))) (.pair ah (.pair (.int .i64) .unit)))),
 (64, (.fn (.pair (.fn (.pair (.int .i64) (.pair ao .unit)) (.pair .bool .unit)) .unit) .unit)),
 (65, (.fn (.pair (.fn (.pair (.int .i64) (.pair ao .unit)) (.pair .bool .unit)) .unit) .unit)),
 (66, (.fn (.pair ah (.pair (.int .i64) (.pair tId .unit))) (.pair (.fn (.pair (.fn (.pair (.int .i64) (.pair ao .unit)) (.pair .bool .unit)) .unit) .unit) .unit))),
 (67, ao),
 (68, ao),
 (69, (.fn (.pair ag .unit) (.pair .bool .unit))),
 (70, (.fn (.pair ag .unit) (.pair (.slc ab) .unit))),
 (71, (.fn (.pair (.slc ab) (.pair (.int .i64) .unit)) (.pair ab .unit))),
 (72, (.fn (.pair (.slc ab) .unit) (.pair .bool .unit))),
 (73, (.fn (.pair ah (.pair (.int .i64) .unit)) (.pair .bool .unit))),
 (74, ao),
 (75, ao),
 (76, (.fn (.pair ah (.pair (.int .i64) (.pair tId .unit))) (.pair ao .unit))),
 (77, (.fn (.pair (.slc ab) (.pair (.int .i64) (.pair (.int .i64) .unit))) (.pair (.slc ab) (.pair (.int .i64) .unit)))),
 (78, (.fn (.pair (.slc ab) (.pair tId .unit)) (.pair ab .unit))),
 (79, (.fn (.pair (.slc ab) (.pair ab (.pair (.int .i64) .unit))) (.pair (.slc ab) .unit))),
 (80, (.fn (.pair (.slc ab) (.pair (.int .i64) .unit)) (.pair ab (.pair (.int .i64) .unit)))),
 (81, (.fn (.pair (.slc ab) (.pair (.fn (.pair ab (.pair ab .unit)) (.pair (.int .i64) .unit)) .unit)) (.pair ab .unit))),
 (82, (.fn (.pair ab (.pair ab .unit)) (.pair (.int .i64) .unit))),
 (83, (.fn (.pair tId .unit) (.pair (.fn (.pair ab (.pair ab .unit)) (.pair (.int .i64) .unit)) .unit))),
 (84, (.fn (.pair (.slc (.int .u8)) (.pair (.slc (.int .u8)) .unit)) (.pair (.int .i64) .unit))),
 (85, (.slc (.int .u8))),
 (87, (.fn (.pair ah (.pair (.int .i64) .unit)) (.pair (.int .i64) (.pair (.int .i64) .unit)))),
 (89, (.fn (.pair ah (.pair (.int .i64) .unit)) (.pair ab (.pair .bool .unit)))),
 (91, (.fn (.pair ag (.pair ab .unit)) (.pair ag (.pair (.int .i64) .unit)))),
 (92, (.fn (.pair ah (.pair (.int .i64) .unit)) .unit)),
 (93, (.fn (.pair (.fn (.pair ab .unit) (.pair .bool .unit)) .unit) .unit)),
 (94, (.fn (.pair (.fn (.pair ab .unit) (.pair .bool .unit)) .unit) .unit)),
 (95, (.fn (.pair ag .unit) (.pair (.fn (.pair (.fn (.pair ab .unit) (.pair .bool .unit)) .unit) .unit) .unit))),
 (96, (.fn (.pair ag (.pair ag .unit)) (.pair .bool .unit))),
 (97, (.fn (.pair (.slc ag) (.pair (.int .i64) (.pair (.int .i64) .unit))) (.pair (.slc ag) .unit))),
 (98, (.fn (.pair (.slc ag) .unit) (.pair (.slc ag) .unit))),
 (99, (.fn (.pair ab .unit) (.pair ag (.pair (.int .i64) .unit)))),
 (100, (.fn (.pair ab .unit) (.pair .bool .unit))),
 (101, (.fn (.pair (.slc ab) (.pair (.fn (.pair ab .unit) (.pair .bool .unit)) .unit)) (.pair .bool .unit))),
 (102, (.fn (.pair (.fn (.pair (.fn (.pair ab .unit) (.pair .bool .unit)) .unit) .unit) .unit) (.pair (.slc ab) .unit))),
 (104, (.fn (.pair ah (.pair (.int .i64) .unit)) (.pair (.int .i64) (.pair .bool .unit)))),
 (105, (.fn (.pair (.slc ag) (.pair (.int .i64) (.pair (.slc ag) .unit))) (.pair (.slc ag) .unit))),
 (106, (.fn (.pair (.int .i64) (.pair ao .unit)) (.pair .bool .unit))),
 (108, (.fn (.pair ah (.pair (.int .i64) (.pair tId .unit))) (.pair ao (.pair .bool .unit)))),
 (109, (.fn (.pair (.slc ab) (.pair (.int .i64) .unit)) (.pair .bool .unit))),
 (110, (.fn (.pair ah (.pair (.int .i64) .unit)) (.pair ag .unit))),
 (111, (.fn (.pair ag (.pair (.slc (.int .i64)) .unit)) (.pair ag .unit))),
 (112, (.fn (.pair tId (.pair tId (.pair tId .unit))) (.pair .bool .unit))),
 (113, (.fn (.pair ag (.pair tId .unit)) (.pair ao .unit))),
 (114, (.fn (.pair (.slc ab) (.pair (.int .i64) .unit)) (.pair (.slc ab) (.pair (.int .i64) .unit)))),
 (115, (.fn (.pair (.slc ab) (.pair ab .unit)) (.pair ab .unit))),
 (116, (.fn (.pair (.int .u8) (.pair (.int .u8) .unit)) (.pair (.int .i64) .unit))),
 (117, (.fn (.pair (.int .i64) .unit) (.pair (.fn (.pair ab .unit) (.pair .bool .unit)) .unit))),
 (118, (.fn (.pair (.slc ab) .unit) (.pair (.slc ab) .unit))),
 (119, (.fn (.pair ag (.pair (.slc (.int .i64)) .unit)) (.pair ag (.pair (.int .i64) .unit)))),
 (120, (.fn (.pair ah (.pair ag .unit)) (.pair (.slc (.int .i64)) .unit))),
 (121, (.fn (.pair ag (.pair ag .unit)) (.pair ag (.pair (.int .i64) .unit)))),
 (122, (.fn .unit (.pair ab .unit))),
 (123, (.fn (.pair (.slc ab) .unit) (.pair (.fn (.pair (.fn (.pair ab .unit) (.pair .bool .unit)) .unit) .unit) .unit))),
 (124, (.fn (.pair (.slc (.slc ab)) .unit) (.pair (.slc ab) .unit))),
 (125, (.fn (.pair (.slc ab) (.pair (.fn (.pair ab .unit) (.pair .bool .unit)) .unit)) (.pair (.int .i64) .unit))),
 (126, (.fn (.pair (.slc ab) (.pair (.fn (.pair (.fn (.pair ab .unit) (.pair .bool .unit)) .unit) .unit) .unit)) (.pair (.slc ab) .unit))),
 (127, (.fn (.pair (.slc ag) (.pair (.int .i64) (.pair (.fn (.pair ag (.pair (.int .i64) .unit)) (.pair (.int .i64) .unit)) .unit))) (.pair (.int .i64) (.pair .bool .unit)))),
 (128, (.fn (.pair (.int .i64) (.pair (.int .i64) .unit)) (.pair (.int .i64) .unit))),
 (129, (.fn (.pair ag (.pair (.int .i64) .unit)) (.pair (.int .i64) .unit))),
 (130, (.fn (.pair (.slc ag) (.pair (.slc ag) .unit)) (.pair .bool .unit))),
 (131, (.fn (.pair (.slc ag) (.pair (.int .i64) .unit)) .unit)),
 (132, (.fn (.pair (.slc ag) (.pair (.fn (.pair ag .unit) (.pair .bool .unit)) .unit)) (.pair (.int .i64) .unit))),
 (133, (.fn (.pair (.slc ag) (.pair (.fn (.pair ag .unit) (.pair .bool .unit)) .unit)) (.pair .bool .unit))),
 (134, (.fn (.pair ag (.pair tId .unit)) (.pair .bool .unit))),
 (136, (.fn (.pair ag (.pair tId .unit)) (.pair ab (.pair .bool (.pair (.int .i64) .unit))))),
 (137, (.fn (.pair (.slc ab) (.pair (.slc (.int .i64)) (.pair (.int .i64) .unit))) (.pair (.slc ab) .unit))),
 (138, (.fn (.pair tId (.pair tId (.pair (.slc ab) .unit))) (.pair ab .unit))),
 (139, (.fn (.pair (.fn (.pair (.fn (.pair ab .unit) (.pair .bool .unit)) .unit) .unit) (.pair (.fn (.pair ab (.pair ab .unit)) (.pair (.int .i64) .unit)) .unit)) (.pair (.slc ab) .unit))),
 (140, (.fn (.pair tId (.pair (.int .i64) .unit)) (.pair (.int .i64) .unit))),
 (141, (.fn (.pair tId .unit) (.pair tId .unit))),
 (142, (.fn (.pair (.int .i64) .unit) (.pair tId .unit))),
 (143, (.fn (.pair (.int .u8) .unit) (.pair .bool .unit))),
 (144, (.fn (.pair (.slc (.int .i64)) (.pair (.int .i64) .unit)) (.pair .bool .unit))),
 (145, (.fn (.pair (.slc ab) (.pair (.fn (.pair ab .unit) (.pair .bool .unit)) .unit)) (.pair (.slc ab) .unit))),
 (146, (.fn (.pair (.slc ab) (.pair (.int .i64) .unit)) (.pair (.fn (.pair (.fn (.pair ab .unit) (.pair .bool .unit)) .unit) .unit) .unit))),
 (147, (.slc (.slc ab))),
 (148, (.fn (.pair (.slc ab) (.pair (.int .i64) .unit)) (.pair (.slc ab) .unit))),
 (149, (.int .u64)),
 (150, (.fn (.pair (.int .i64) .unit) (.pair .bool .unit))),
 (151, (.fn (.pair tId (.pair tId (.pair (.slc ab) .unit))) (.pair ab (.pair (.int .i64) .unit)))),
 (152, (.fn (.pair (.slc ab) (.pair (.fn (.pair ab (.pair ab .unit)) (.pair (.int .i64) .unit)) .unit)) .unit)),
 (153, (.fn (.pair (.slc (.int .i64)) (.pair (.int .i64) .unit)) (.pair (.int .i64) .unit))),
 (154, (.fn (.pair (.slc ag) .unit) .unit)),
 (155, (.fn (.pair (.slc ab) (.pair (.fn (.pair ab .unit) (.pair .bool .unit)) .unit)) (.pair (.fn (.pair (.fn (.pair ab .unit) (.pair .bool .unit)) .unit) .unit) .unit))),
 (156, (.fn (.pair (.slc ab) (.pair (.int .i64) (.pair (.int .i64) (.pair (.int .i64) (.pair (.fn (.pair ab (.pair ab .unit)) (.pair (.int .i64) .unit)) .unit))))) .unit)),
 (157, (.fn (.pair (.int .u64) .unit) (.pair (.int .i64) .unit))),
 (158, (.fn (.pair (.slc ab) (.pair (.int .i64) (.pair (.int .i64) (.pair (.fn (.pair ab (.pair ab .unit)) (.pair (.int .i64) .unit)) .unit)))) .unit)),
 (159, (.int .i64)),
 (161, (.fn (.pair (.slc ab) (.pair (.int .i64) (.pair (.int .i64) (.pair (.fn (.pair ab (.pair ab .unit)) (.pair (.int .i64) .unit)) .unit)))) (.pair (.int .i64) (.pair (.int .i64) .unit)))),
 (162, (.fn (.pair (.slc ab) (.pair (.int .i64) (.pair (.int .i64) (.pair (.fn (.pair ab (.pair ab .unit)) (.pair (.int .i64) .unit)) .unit)))) (.pair .bool .unit))),
 (163, (.fn (.pair (.slc ab) (.pair (.int .i64) (.pair (.int .i64) (.pair (.int .i64) (.pair (.fn (.pair ab (.pair ab .unit)) (.pair (.int .i64) .unit)) .unit))))) (.pair (.int .i64) .unit))),
 (164, (.fn (.pair (.slc ab) (.pair (.int .i64) (.pair (.int .i64) (.pair (.int .i64) (.pair (.fn (.pair ab (.pair ab .unit)) (.pair (.int .i64) .unit)) .unit))))) (.pair (.int .i64) (.pair .bool .unit)))),
 (165, (.fn (.pair (.int .u32) .unit) (.pair (.int .i64) .unit))),
 (166, (.int .u32)),
 (167, (.fn (.pair (.int .u64) .unit) (.pair (.int .i64) .unit))),
 (168, (.int .u64)),
 (169, (.int .u64)),
 (170, (.fn (.pair (.int .i64) .unit) (.pair (.int .u64) .unit))),
 (171, (.fn .unit (.pair (.int .u64) .unit))),
 (178, (.fn .unit (.pair .str .unit))),
 (184, (.fn .unit (.pair (.int .i64) .unit)))]
theorem bf : t4 prog br = true := by kernel_rfl
theorem aP : prog.follows .mixedOrders = true := by kernel_rfl
abbrev nQ : Nat := 5
noncomputable abbrev bv : Func := Try.f5
abbrev dx : Ty := (.pair ah (.pair (.int .i64) (.pair tId (.pair (.int .i64) .unit))))
abbrev nd : Ty := (.pair .bool .unit)
theorem uC : Try.prog.funcs[nQ]? = some bv := Try.func5
abbrev pL : Nat := 10
noncomputable abbrev jA : Func := Try.f10
abbrev xA : Ty := (.pair ah .unit)
abbrev sc : Ty := (.pair ah .unit)
theorem DG : Try.prog.funcs[pL]? = some jA := Try.func10
abbrev fQ : Nat := 11
noncomputable abbrev aR : Func := Try.f11
abbrev rZ : Ty := (.pair ah (.pair (.int .i64) (.pair tId (.pair (.int .i64) .unit))))
abbrev dw : Ty := (.pair (.slc (.int .i64)) (.pair ab (.pair (.int .i64) .unit)))
theorem y7 : Try.prog.funcs[fQ]? = some aR := Try.func11
abbrev mP : Nat := 13
noncomputable abbrev qR : Func := Try.f13
abbrev ua : Ty := .unit
abbrev tC : Ty := (.pair .bool .unit)
theorem B2 : Try.prog.funcs[mP]? = some qR := Try.func13
abbrev eZ : Nat := 15
noncomputable abbrev dP : Func := Try.f15
abbrev oH : Ty := (.pair ah .unit)
abbrev kU : Ty := (.pair (.slc ab) .unit)
theorem wc : Try.prog.funcs[eZ]? = some dP := Try.func15
abbrev eR : Nat := 21
noncomputable abbrev i8 : Func := Try.f21
abbrev o0 : Ty := (.pair tId (.pair tId .unit))
abbrev pl : Ty := (.pair (.int .i64) .unit)
theorem wL : Try.prog.funcs[eR]? = some i8 := Try.func21
abbrev iS : Nat := 22
noncomputable abbrev cH : Func := Try.f22
abbrev t3 : Ty := (.pair tId (.pair tId .unit))
abbrev jp : Ty := (.pair tId .unit)
theorem BX : Try.prog.funcs[iS]? = some cH := Try.func22
abbrev kG : Nat := 27
noncomputable abbrev a5 : Func := Try.f27
abbrev rq : Ty := (.pair ah .unit)
abbrev mK : Ty := (.pair .bool .unit)
theorem yJ : Try.prog.funcs[kG]? = some a5 := Try.func27
abbrev rS : Nat := 32
noncomputable abbrev rr : Func := Try.f32
theorem w6 : Try.prog.funcs[rS]? = some rr := Try.func32
abbrev eU : Nat := 44
noncomputable abbrev cg : Func := Try.f44
abbrev kd : Ty := (.pair (.slc ab) (.pair (.slc ab) .unit))
abbrev gq : Ty := (.pair .bool .unit)
theorem qJ : Try.prog.funcs[eU]? = some cg := Try.func44
abbrev lH : Nat := 45
noncomputable abbrev fC : Func := Try.f45
abbrev sU : Ty := (.pair (.slc ab) .unit)
abbrev nt : Ty := (.pair .bool .unit)
theorem Ac : Try.prog.funcs[lH]? = some fC := Try.func45
abbrev fa : Nat := 48
noncomputable abbrev bp : Func := Try.f48
abbrev kD : Ty := (.pair (.slc (.int .u8)) (.pair (.slc (.int .u8)) .unit))
abbrev eH : Ty := (.pair (.int .i64) .unit)
theorem qL : Try.prog.funcs[fa]? = some bp := Try.func48
abbrev lC : Nat := 50
noncomputable abbrev fw : Func := Try.f50
abbrev sN : Ty := (.pair ah (.pair (.int .i64) .unit))
abbrev nw : Ty := (.pair ab (.pair .bool .unit))
theorem Ag : Try.prog.funcs[lC]? = some fw := Try.func50
abbrev dh : Nat := 54
noncomputable abbrev o4 : Func := Try.f54
abbrev sR : Ty := (.pair ag .unit)
abbrev s6 : Ty := (.pair .bool .unit)
theorem Ak : Try.prog.funcs[dh]? = some o4 := Try.func54
abbrev kQ : Nat := 55
noncomputable abbrev nK : Func := Try.f55
abbrev rh : Ty := (.pair ag .unit)
theorem yP : Try.prog.funcs[kQ]? = some nK := Try.func55
abbrev bO : Nat := 61
noncomputable abbrev d9 : Func := Try.f61
abbrev gA : Ty := (.pair (.slc ab) (.pair (.fn (.pair ab .unit) (.pair .bool .unit)) .unit))
abbrev gB : Ty := (.pair .bool .unit)
theorem lX : Try.prog.funcs[bO]? = some d9 := Try.func61
abbrev pt : Nat := 65
noncomputable abbrev cw : Func := Try.f65
theorem vl : Try.prog.funcs[pt]? = some cw := Try.func65
abbrev kH : Nat := 66
noncomputable abbrev dT : Func := Try.f66
abbrev rF : Ty := (.pair ah (.pair (.int .i64) (.pair tId .unit)))
abbrev jS : Ty := (.pair ao (.pair .bool .unit))
theorem y4 : Try.prog.funcs[kH]? = some dT := Try.func66
abbrev jV : Nat := 78
noncomputable abbrev mt : Func := Try.f78
abbrev p5 : Ty := (.pair ab (.pair (.ref ab) .unit))
abbrev pO : Ty := (.pair .bool .unit)
theorem xy : Try.prog.funcs[jV]? = some mt := Try.func78
abbrev f9 : Nat := 80
noncomputable abbrev fX : Func := Try.f80
abbrev l7 : Ty := (.pair (.int .u8) (.pair (.int .u8) .unit))
abbrev md : Ty := (.pair (.int .i64) .unit)
theorem td : Try.prog.funcs[f9]? = some fX := Try.func80
abbrev jK : Nat := 81
noncomputable abbrev sE : Func := Try.f81
abbrev vp : Ty := (.pair ab .unit)
abbrev vH : Ty := (.pair .bool .unit)
theorem Cj : Try.prog.funcs[jK]? = some sE := Try.func81
abbrev pY : Nat := 82
noncomputable abbrev t8 : Func := Try.f82
abbrev xr : Ty := (.pair (.int .i64) .unit)
abbrev yk : Ty := (.pair (.fn (.pair ab .unit) (.pair .bool .unit)) .unit)
theorem Em : Try.prog.funcs[pY]? = some t8 := Try.func82
abbrev mR : Nat := 84
noncomputable abbrev bm : Func := Try.f84
abbrev tY : Ty := (.pair ag (.pair (.slc (.int .i64)) .unit))
abbrev gL : Ty := (.pair ag (.pair (.int .i64) .unit))
theorem Bf : Try.prog.funcs[mR]? = some bm := Try.func84
abbrev fj : Nat := 88
noncomputable abbrev qw : Func := Try.f88
abbrev tH : Ty := .unit
abbrev tn : Ty := (.pair ab .unit)
theorem AJ : Try.prog.funcs[fj]? = some qw := Try.func88
abbrev kN : Nat := 89
noncomputable abbrev fb : Func := Try.f89
abbrev rM : Ty := (.pair (.slc ab) (.pair (.int .i64) .unit))
abbrev my : Ty := (.pair .bool .unit)
theorem yH : Try.prog.funcs[kN]? = some fb := Try.func89
abbrev eI : Nat := 90
noncomputable abbrev gt : Func := Try.f90
abbrev jZ : Ty := (.pair (.slc ab) .unit)
theorem pC : Try.prog.funcs[eI]? = some gt := Try.func90
abbrev bz : Nat := 91
noncomputable abbrev aE : Func := Try.f91
theorem pB : Try.prog.funcs[bz]? = some aE := Try.func91
abbrev cL : Nat := 92
noncomputable abbrev az : Func := Try.f92
abbrev iI : Ty := (.pair (.slc ab) (.pair (.fn (.pair ab .unit) (.pair .bool .unit)) .unit))
abbrev ff : Ty := (.pair (.int .i64) .unit)
theorem iD : Try.prog.funcs[cL]? = some az := Try.func92
abbrev cq : Nat := 99
noncomputable abbrev bT : Func := Try.f99
abbrev jy : Ty := (.pair (.slc ag) (.pair (.fn (.pair ag .unit) (.pair .bool .unit)) .unit))
abbrev fA : Ty := (.pair (.int .i64) .unit)
theorem oR : Try.prog.funcs[cq]? = some bT := Try.func99
abbrev jg : Nat := 100
noncomputable abbrev lD : Func := Try.f100
abbrev oV : Ty := (.pair ag (.pair (.ref (.int .i64)) .unit))
abbrev o9 : Ty := (.pair .bool .unit)
theorem wn : Try.prog.funcs[jg]? = some lD := Try.func100
abbrev dn : Nat := 101
noncomputable abbrev fe : Func := Try.f101
abbrev hH : Ty := (.pair (.slc ag) (.pair (.fn (.pair ag .unit) (.pair .bool .unit)) .unit))
abbrev hP : Ty := (.pair .bool .unit)
theorem m5 : Try.prog.funcs[dn]? = some fe := Try.func101
abbrev ji : Nat := 102
noncomputable abbrev lF : Func := Try.f102
abbrev oW : Ty := (.pair ag (.pair (.ref ab) .unit))
abbrev pc : Ty := (.pair .bool .unit)
theorem wg : Try.prog.funcs[ji]? = some lF := Try.func102
abbrev mL : Nat := 103
noncomputable abbrev qE : Func := Try.f103
abbrev tD : Ty := (.pair ag (.pair tId .unit))
abbrev uy : Ty := (.pair .bool .unit)
theorem BF : Try.prog.funcs[mL]? = some qE := Try.func103
abbrev m3 : Nat := 104
noncomputable abbrev qS : Func := Try.f104
abbrev tl : Ty := (.pair ag (.pair tId .unit))
abbrev oG : Ty := (.pair ab (.pair .bool (.pair (.int .i64) .unit)))
theorem A4 : Try.prog.funcs[m3]? = some qS := Try.func104
abbrev im : Nat := 113
noncomputable abbrev iu : Func := Try.f113
abbrev nO : Ty := (.pair (.int .u8) .unit)
abbrev nR : Ty := (.pair .bool .unit)
theorem vg : Try.prog.funcs[im]? = some iu := Try.func113
abbrev mW : Nat := 114
noncomputable abbrev qA : Func := Try.f114
abbrev tz : Ty := (.pair ab (.pair (.ref (.int .i64)) .unit))
abbrev tX : Ty := (.pair .bool .unit)
theorem Aw : Try.prog.funcs[mW]? = some qA := Try.func114
abbrev aj : Nat := 115
noncomputable abbrev nL : Func := Try.f115
abbrev rf : Ty := (.pair ab (.pair (.ref ag) (.pair (.ref (.slc (.int .i64))) .unit)))
abbrev rA : Ty := (.pair .bool .unit)
theorem yA : Try.prog.funcs[aj]? = some nL := Try.func115
abbrev eP : Nat := 116
noncomputable abbrev gS : Func := Try.f116
abbrev kz : Ty := (.pair (.slc (.int .i64)) (.pair (.int .i64) .unit))
abbrev ku : Ty := (.pair .bool .unit)
theorem qN : Try.prog.funcs[eP]? = some gS := Try.func116
abbrev iN : Nat := 117
noncomputable abbrev al : Func := Try.f117
theorem ne : Try.prog.funcs[iN]? = some al := Try.func117
abbrev eN : Nat := 118
noncomputable abbrev gJ : Func := Try.f118
theorem qU : Try.prog.funcs[eN]? = some gJ := Try.func118
abbrev fY : Nat := 119
noncomputable abbrev lL : Func := Try.f119
abbrev vP : Ty := (.pair tId (.pair tId (.pair tId .unit)))
abbrev qW : Ty := (.pair .bool .unit)
theorem CL : Try.prog.funcs[fY]? = some lL := Try.func119
abbrev cQ : Nat := 121
noncomputable abbrev ce : Func := Try.f121
theorem n5 : Try.prog.funcs[cQ]? = some ce := Try.func121
abbrev lG : Nat := 122
noncomputable abbrev lJ : Func := Try.f122
theorem r7 : Try.prog.funcs[lG]? = some lJ := Try.func122
abbrev it : Nat := 125
noncomputable abbrev aJ : Func := Try.f125
abbrev nS : Ty := (.pair tId (.pair tId (.pair (.slc ab) .unit)))
abbrev j8 : Ty := (.pair ab (.pair (.int .i64) .unit))
theorem vf : Try.prog.funcs[it]? = some aJ := Try.func125
abbrev ge : Nat := 128
noncomputable abbrev cR : Func := Try.f128
abbrev l6 : Ty := (.pair (.slc (.int .i64)) (.pair (.int .i64) .unit))
abbrev lZ : Ty := (.pair (.int .i64) .unit)
theorem tg : Try.prog.funcs[ge]? = some cR := Try.func128
abbrev gi : Nat := 131
noncomputable abbrev js : Func := Try.f131
abbrev l8 : Ty := (.pair ab (.pair (.ref tId) (.pair (.ref tId) .unit)))
abbrev me : Ty := (.pair .bool .unit)
theorem th : Try.prog.funcs[gi]? = some js := Try.func131
abbrev ke : Nat := 132
noncomputable abbrev kr : Func := Try.f132
theorem pE : Try.prog.funcs[ke]? = some kr := Try.func132
abbrev jl : Nat := 135
noncomputable abbrev bC : Func := Try.f135
theorem nV : Try.prog.funcs[jl]? = some bC := Try.func135
end
end Go.Proofs.Ytimdnodkabnbfaa
namespace Go.Proofs.Ytimdnodkabnbfaa
open Go Go.RowKit
theorem bF {σ : Type} (n : Nat) (Inv : Nat → σ → Prop) (Q : Nat → σ → Prop) (step : ∀ i s, i < n → Inv i s → (∀ s', Inv (i + 1) s' → Q (i + 1) s') → Q i s) (last : ∀ s, Inv n s → Q n s) : ∀ (i : Nat) (s : σ), i ≤ n → Inv i s → Q i s := by
 intro i s hi
 obtain ⟨k, hk⟩ : ∃ k, k + i = n := ⟨n - i, by omega⟩
 induction k generalizing i s with
 | zero =>
  have e : i = n := by omega
  subst e
  exact last s
 | succ k ih =>
  intro hI
  exact step i s (by omega) hI fun s' h' => ih (i + 1) s' (by omega) (by omega) h'
theorem cp {e : Ty} (t : List (den e)) {i : Nat} : (decide ((i : Int) < lnx e t)) = decide (i < t.length) := by
 rw [Bool.eq_iff_iff, decide_eq_true_eq, decide_eq_true_eq]
 exact ⟨fun h => by have h : (i : Int) < (t.length : Int) := h; omega, fun h => by show (i : Int) < (t.length : Int); omega⟩
theorem du {n : Int} (h : -1000000000000000 ≤ n ∧ n ≤ 1000000000000000) : IntKind.wrap .i64 n = n := Fz (by omega) (by omega)
theorem zG {e : Ty} (xs : List (den e)) {n : Nat} (h : n = xs.length) : mS e xs 0 n = xs := by
 unfold mS; rw [h, List.drop_zero, List.take_length]
theorem D0 {e : Ty} (xs : List (den e)) {n : Nat} : mS e xs 0 n = xs.take n := by
 unfold mS; rw [List.drop_zero]
theorem wY {α : Type} {zs ys : List α} {i : Nat} (h : i + ys.length ≤ zs.length) : (over zs i ys).length = zs.length := by
 unfold over; simp only [List.length_append, List.length_take, List.length_drop]; omega
theorem EB {α : Type} {zs ys : List α} {i : Nat} (h : i ≤ zs.length) : (over zs i ys).take (i + ys.length) = zs.take i ++ ys := by
 unfold over
 rw [List.take_append_of_le_length (by rw [List.length_append, List.length_take, Nat.min_eq_left h]; exact Nat.le_refl _), List.take_of_length_le]
 rw [List.length_append, List.length_take, Nat.min_eq_left h]; exact Nat.le_refl _
theorem Ca {α : Type} {zs ys : List α} {i n : Nat} (h : n ≤ i) (h' : i ≤ zs.length) : (over zs i ys).take n = zs.take n := by
 unfold over
 rw [List.append_assoc, List.take_append_of_le_length (by rw [List.length_take, Nat.min_eq_left h']; exact h), List.take_take, Nat.min_eq_left h]
theorem bE {P : af → Prop} {A : Type} {e : A} {f : A → af} (h : P (f e)) : ∀ q, q = e → P (f q) := fun q hq => by cases hq; exact h
theorem A6 {n : Int} (h : 0 ≤ n ∧ n ≤ 255) : IntKind.wrap .u8 n = n := by
 unfold IntKind.wrap
 simp only [IntKind.signed, IntKind.bits]
 simp
 omega
end Go.Proofs.Ytimdnodkabnbfaa
namespace Go.Proofs.Ytimdnodkabnbfaa
open Go Go.RowKit
end Go.Proofs.Ytimdnodkabnbfaa
namespace Go.Proofs.Ytimdnodkabnbfaa
open Go Go.RowKit
noncomputable abbrev kT : aD := { T := br, F := [], n := (iu).ntmps }
noncomputable abbrev pv : Ann := { }
theorem wV : cf prog kT := y3 ((aV bf aP))
theorem vk : dD kT = true := by kernel_rfl
noncomputable def oL (x : den (Ty.int IntKind.u8)) : aY := aY.ret (K.val (Ty.pair Ty.bool Ty.unit) (!decide (x = x), PUnit.unit))
theorem tc (x : den (Ty.int IntKind.u8)) : fh kT pv nR iu 1000 (aI iu) (Env.of (aN nO (x, ()) 0) []) = oL x := by kernel_rfl
end Go.Proofs.Ytimdnodkabnbfaa
namespace Go.Proofs.Ytimdnodkabnbfaa
open Go Go.RowKit
noncomputable abbrev kS : bt := ⟨nO, nR, fun _ => (false, ()), fun _ => True, true⟩
theorem wP : aC prog [] im kS :=
 yW wV vk vg (by kernel_rfl) (fun _ _ => trivial) (A := pv) (T := fun x => oL x.1) (fun x => tc x.1) fun O w0 x _ _ => by
  refine ⟨_, rfl, ?_⟩
  simp
theorem uW (x y : den tId) : eqb tId x y = decide (x = y) := by
 have := lh (t := tId) rfl x y
 cases h : eqb tId x y
 ·have : ¬ x = y := fun e => by rw [this.2 e] at h; cases h
  simp [this]
 ·simp [this.1 h]
end Go.Proofs.Ytimdnodkabnbfaa
namespace Go.Proofs.Ytimdnodkabnbfaa
open Go Go.RowKit
noncomputable abbrev jG : aD := { T := br, F := [(im, kS)], n := (fX).ntmps }
noncomputable abbrev nk : Ann := { }
theorem tq (h_cmp_isNaN_byte : aC prog [] im kS) : cf prog jG := y3 (aH (aV bf aP) h_cmp_isNaN_byte)
theorem ti : dD jG = true := by kernel_rfl
noncomputable def nm (x : den (Ty.int IntKind.u8)) (y : den (Ty.int IntKind.u8)) : aY := aY.req True (aY.req True (aY.ite false (aY.ite false (aY.ret (K.val (Ty.pair ae Ty.unit) (0, PUnit.unit))) (aY.ret (K.val (Ty.pair ae Ty.unit) (-1, PUnit.unit)))) (aY.ite false (aY.ret (K.val (Ty.pair ae Ty.unit) (1, PUnit.unit))) (aY.ite (decide (x < y)) (aY.ret (K.val (Ty.pair ae Ty.unit) (-1, PUnit.unit))) (aY.ite (decide (y < x)) (aY.ret (K.val (Ty.pair ae Ty.unit) (1, PUnit.unit))) (aY.ret (K.val (Ty.pair ae Ty.unit) (0, PUnit.unit))))))))
theorem rN (x : den (Ty.int IntKind.u8)) (y : den (Ty.int IntKind.u8)) : fh jG nk md fX 1000 (aI fX) (Env.of (aN l7 (x, y, ()) 0) []) = nm x y := by kernel_rfl
noncomputable abbrev iT : aD := { T := br, F := [], n := (cH).ntmps }
noncomputable abbrev qK : Ann := { loops := [(4, { keep := [2, 3, 4, 5, 6, 7] })] }
theorem qQ : cf prog iT := y3 ((aV bf aP))
theorem oO : dD iT = true := by kernel_rfl
noncomputable def vv (a : den tId) (b : den tId) : aY := aY.loop (lp cH 4) [(2, K.ptr 2 tId []), (3, K.ptr 3 tId []), (4, K.ptr 4 tId []), (5, K.ptr 5 tId []), (6, K.val ae 0), (7, K.val ae 31)] [(2, Bx.cell tId a), (3, Bx.cell tId b), (4, Bx.cell tId (zero tId)), (5, Bx.cell tId (zero tId))]
theorem zc (a : den tId) (b : den tId) : fh iT qK jp cH 1000 (aI cH) (Env.of (aN t3 (a, b, ()) 0) []) = vv a b := by kernel_rfl
noncomputable def nC (v6 : den ae) (v7 : den ae) (b2 : den tId) (b3 : den tId) (b4 : den tId) (b5 : den tId) : Env := Env.of [(2, K.ptr 2 tId []), (3, K.ptr 3 tId []), (4, K.ptr 4 tId []), (5, K.ptr 5 tId []), (6, K.val ae v6), (7, K.val ae v7)] [(2, Bx.cell tId b2), (3, Bx.cell tId b3), (4, Bx.cell tId b4), (5, Bx.cell tId b5)]
noncomputable def yF (v6 : den ae) (v7 : den ae) (b2 : den tId) (b3 : den tId) (b4 : den tId) (b5 : den tId) : aY := aY.ite (decide (0 ≤ v7)) (aY.req (inB v7 ↑32) (aY.req (inB v7 ↑32) (aY.ite (decide (IntKind.wrap IntKind.i64 (IntKind.wrap IntKind.i64 (IntKind.wrap IntKind.i64 (el (Ty.int IntKind.u8) b3 v7) - IntKind.wrap IntKind.i64 (el (Ty.int IntKind.u8) b2 v7)) - v6) < 0)) (aY.req (inB v7 ↑32) (aY.loop (lp cH 4) [(2, K.ptr 2 tId []), (3, K.ptr 3 tId []), (4, K.ptr 4 tId []), (5, K.ptr 5 tId []), (6, K.val ae 1), (7, K.val ae (IntKind.wrap IntKind.i64 (v7 - 1)))] [(2, Bx.cell tId b2), (3, Bx.cell tId b3), (4, Bx.cell tId b4), (5, Bx.cell tId (tJ (Ty.int IntKind.u8) b5 v7 (IntKind.wrap IntKind.u8 (IntKind.wrap IntKind.i64 (IntKind.wrap IntKind.i64 (IntKind.wrap IntKind.i64 (IntKind.wrap IntKind.i64 (el (Ty.int IntKind.u8) b3 v7) - IntKind.wrap IntKind.i64 (el (Ty.int IntKind.u8) b2 v7)) - v6) + 256)))))])) (aY.req (inB v7 ↑32) (aY.loop (lp cH 4) [(2, K.ptr 2 tId []), (3, K.ptr 3 tId []), (4, K.ptr 4 tId []), (5, K.ptr 5 tId []), (6, K.val ae 0), (7, K.val ae (IntKind.wrap IntKind.i64 (v7 - 1)))] [(2, Bx.cell tId b2), (3, Bx.cell tId b3), (4, Bx.cell tId b4), (5, Bx.cell tId (tJ (Ty.int IntKind.u8) b5 v7 (IntKind.wrap IntKind.u8 (IntKind.wrap IntKind.i64 (IntKind.wrap IntKind.i64 (IntKind.wrap IntKind.i64 (el (Ty.int IntKind.u8) b3 v7) - IntKind.wrap IntKind.i64 (el (Ty.int IntKind.u8) b2 v7)) - v6)))))]))))) (aY.ret (K.val (Ty.pair tId Ty.unit) (b5, PUnit.unit)))
theorem nN (v6 : den ae) (v7 : den ae) (b2 : den tId) (b3 : den tId) (b4 : den tId) (b5 : den tId) : fh iT qK jp cH 1000 (lp cH 4) (nC v6 v7 b2 b3 b4 b5) = yF v6 v7 b2 b3 b4 b5 := by kernel_rfl
end Go.Proofs.Ytimdnodkabnbfaa
namespace Go.Proofs.Ytimdnodkabnbfaa
open Go Go.RowKit
def ir (x y : Int) : Int := if x < y then -1 else if y < x then 1 else 0
noncomputable abbrev jv : bt := ⟨l7, md, fun x => (ir x.1 x.2.1, ()), fun _ => True, true⟩
theorem jt : aC prog [] f9 jv :=
 yW (tq wP) ti td (by kernel_rfl) (fun _ _ => trivial) (A := nk) (T := fun x => nm x.1 x.2.1) (fun x => rN x.1 x.2.1) fun O w0 x _ _ => by
  refine ⟨trivial, trivial, fun h => (by cases h), fun _ => ⟨fun h => (by cases h), fun _ => ⟨fun h => ⟨_, rfl, ?_⟩, fun h => ⟨fun h' => ⟨_, rfl, ?_⟩, fun h' => ⟨_, rfl, ?_⟩⟩⟩⟩⟩
  ·simp [ir, of_decide_eq_true h]
  ·simp [ir, of_decide_eq_false h, of_decide_eq_true h']
  ·simp [ir, of_decide_eq_false h, of_decide_eq_false h']
end Go.Proofs.Ytimdnodkabnbfaa
namespace Go.Proofs.Ytimdnodkabnbfaa
open Go
def byt (l : List Int) : Prop := ∀ x ∈ l, 0 ≤ x ∧ x ≤ 255
theorem mu {x : Int} {l : List Int} : byt (x :: l) ↔ (0 ≤ x ∧ x ≤ 255) ∧ byt l := by
 simp [byt]
theorem nl {x : den tId} (h : okT tId x) : x.length = 32 ∧ byt x :=
 ⟨h.1, fun y hy => by
  have : InK .u8 y := h.2 y hy
  have h1 : IntKind.min .u8 = 0 := by decide
  have h2 : IntKind.max .u8 = 255 := by decide
  unfold InK at this
  rw [h1, h2] at this
  exact this⟩
def vB : List Int → Int
 | [] => 0
 | x :: l => x * 256 ^ l.length + vB l
theorem sg (n : Nat) : (0 : Int) < 256 ^ n := Int.pow_pos (by decide)
theorem mw : ∀ {l : List Int}, byt l → 0 ≤ vB l ∧ vB l < 256 ^ l.length
 | [], _ => by simp [vB]
 | x :: l, h => by
  obtain ⟨hx, hl⟩ := mu.1 h
  obtain ⟨h1, h2⟩ := mw hl
  have hp := sg l.length
  have h3 : 0 ≤ x * 256 ^ l.length := Int.mul_nonneg hx.1 (Int.le_of_lt hp)
  have h4 : x * 256 ^ l.length ≤ 255 * 256 ^ l.length := Int.mul_le_mul_of_nonneg_right hx.2 (Int.le_of_lt hp)
  rw [List.length_cons, Int.pow_succ]
  simp only [vB]
  omega
def toB : Nat → Int → List Int
 | 0, _ => []
 | n + 1, v => v / 256 ^ n :: toB n (v % 256 ^ n)
theorem sw : ∀ (n : Nat) (v : Int), (toB n v).length = n
 | 0, _ => rfl
 | n + 1, v => by simp [toB, sw n]
theorem yf : ∀ {l : List Int}, byt l → toB l.length (vB l) = l
 | [], _ => rfl
 | x :: l, h => by
  obtain ⟨hx, hl⟩ := mu.1 h
  obtain ⟨h1, h2⟩ := mw hl
  have hp := sg l.length
  have e1 : (x * 256 ^ l.length + vB l) / 256 ^ l.length = x := by
   rw [Int.add_comm, Int.add_mul_ediv_right _ _ (by omega), Int.ediv_eq_zero_of_lt h1 h2]; omega
  have e2 : (x * 256 ^ l.length + vB l) % 256 ^ l.length = vB l := by
   rw [Int.add_comm, Int.add_mul_emod_self_right, Int.emod_eq_of_lt h1 h2]
  show (x * 256 ^ l.length + vB l) / 256 ^ l.length :: toB l.length ((x * 256 ^ l.length + vB l) % 256 ^ l.length) = x :: l
  rw [e1, e2, yf hl]
theorem wX : ∀ (n : Nat) {v : Int}, 0 ≤ v → v < 256 ^ n → byt (toB n v) ∧ vB (toB n v) = v
 | 0, v, h0, h1 => ⟨by simp [toB, byt], by simp at h1; simp [toB, vB]; omega⟩
 | n + 1, v, h0, h1 => by
  have hp := sg n
  obtain ⟨i1, i2⟩ := wX n (Int.emod_nonneg v (by omega)) (Int.emod_lt_of_pos v hp)
  rw [Int.pow_succ] at h1
  have hd : v / 256 ^ n ≤ 255 := by
   have : v / 256 ^ n < 256 := Int.ediv_lt_of_lt_mul hp (by rw [Int.mul_comm]; exact h1)
   omega
  refine ⟨mu.2 ⟨⟨Int.ediv_nonneg h0 (Int.le_of_lt hp), hd⟩, i1⟩, ?_⟩
  show v / 256 ^ n * 256 ^ (toB n _).length + vB (toB n _) = v
  rw [i2, sw]
  have := Int.mul_ediv_add_emod v (256 ^ n)
  rw [Int.mul_comm]
  exact this
theorem BI {a b : List Int} (hl : a.length = b.length) (ha : byt a) (hb : byt b) (h : vB a = vB b) : a = b := by
 rw [← yf ha, ← yf hb, h, hl]
def oE : List Int → List Int → Int
 | [], [] => 0
 | [], _ :: _ => -1
 | _ :: _, [] => 1
 | x :: xs, y :: ys => if ir x y = 0 then oE xs ys else ir x y
theorem zF {x y : Int} : ir x y = 0 ↔ x = y := by
 unfold ir; split
 ·omega
 ·split <;> omega
theorem Dd : ∀ {a b : List Int}, a.length = b.length → byt a → byt b → oE a b = ir (vB a) (vB b)
 | [], [], _, _, _ => by simp [oE, vB, ir]
 | [], _ :: _, h, _, _ => by simp at h
 | _ :: _, [], h, _, _ => by simp at h
 | x :: xs, y :: ys, h, ha, hb => by
  obtain ⟨hx, ha⟩ := mu.1 ha
  obtain ⟨hy, hb⟩ := mu.1 hb
  have hl : xs.length = ys.length := by simpa using h
  have ih := Dd hl ha hb
  obtain ⟨a1, a2⟩ := mw ha
  obtain ⟨b1, b2⟩ := mw hb
  rw [hl] at a2
  simp only [oE, vB]
  rw [hl]
  have hp := sg ys.length
  generalize (256 : Int) ^ ys.length = p at *
  split
  ·rename_i e
   rw [ih, zF.1 e]
   unfold ir
   split
   ·rw [if_pos (by omega)]
   ·split
    ·rw [if_neg (by omega), if_pos (by omega)]
    ·rw [if_neg (by omega), if_neg (by omega)]
  ·rename_i e
   have e : ¬ x = y := fun h => e (zF.2 h)
   rcases Int.lt_or_gt_of_ne e with hlt | hgt
   ·have : (x + 1) * p ≤ y * p := Int.mul_le_mul_of_nonneg_right hlt (Int.le_of_lt hp)
    rw [Int.add_mul, Int.one_mul] at this
    unfold ir
    rw [if_pos hlt, if_pos (by omega)]
   ·have : (y + 1) * p ≤ x * p := Int.mul_le_mul_of_nonneg_right hgt (Int.le_of_lt hp)
    rw [Int.add_mul, Int.one_mul] at this
    unfold ir
    rw [if_neg (by omega), if_pos hgt, if_neg (by omega), if_pos (by omega)]
def sK : Int := 256 ^ 32
def c5 (a b : List Int) : List Int := toB 32 ((vB b - vB a) % sK)
theorem Dh {l : List Int} {i : Nat} (h : i < l.length) : vB (l.drop i) = l[i] * 256 ^ (l.length - (i + 1)) + vB (l.drop (i + 1)) := by
 rw [List.drop_eq_getElem_cons h]
 simp [vB]
theorem vQ {l : List Int} {i : Nat} (h : i < l.length) (y : Int) : (l.set i y).drop i = y :: l.drop (i + 1) := by
 rw [List.drop_eq_getElem_cons (by simpa using h), List.getElem_set_self, List.drop_set_of_lt (by omega)]
end Go.Proofs.Ytimdnodkabnbfaa
namespace Go.Proofs.Ytimdnodkabnbfaa
open Go Go.RowKit
noncomputable abbrev kC : bt := ⟨t3, jp, fun x => (c5 x.1 x.2.1, ()), fun _ => True, true⟩
theorem ur (O : Nat → Prop) (w0 : World) (a b z : List Int) (ha : a.length = 32) (hb : b.length = 32) (ba : byt a) (bb : byt b) : ∀ (i : Nat) (less : Int) (out : List Int), i ≤ 32 → out.length = 32 → (less = 0 ∨ less = 1) → byt (out.drop i) →
    vB (out.drop i) = vB (b.drop i) - vB (a.drop i) + less * 256 ^ (32 - i) →
    fP prog iT O w0 cH (cv prog O w0 jp fun y => y = (c5 a b, ())) (lp cH 4) (nC less ((i : Int) - 1) a b z out)
  | 0, less, out, _, ho, hless, hby, hv => xa qQ oO (nN less _ a b z out) ⟨fun h => by
      have h : (0 : Int) ≤ ((0 : Nat) : Int) - 1 := of_decide_eq_true h
      omega, fun _ => ⟨_, rfl, by
        simp only [List.drop_zero] at hby hv
        have r := mw hby
        rw [ho] at r
        have e : (vB b - vB a) % sK = vB out := by
          have : vB b - vB a = vB out + (-less) * sK := by
            unfold sK
            rw [hv, Int.neg_mul]; omega
          rw [this, Int.add_mul_emod_self_right]
          exact Int.emod_eq_of_lt r.1 r.2
        have : c5 a b = out := by
          unfold c5
          rw [e, ← ho, yf hby]
        rw [this]⟩⟩
  | i + 1, less, out, hi, ho, hless, hby, hv => xa qQ oO (nN less _ a b z out) ⟨fun _ => by
      have ei : (((i + 1 : Nat) : Int) - 1) = ((i : Nat) : Int) := by omega
      rw [ei]
      have h1 : i < a.length := by omega
      have h2 : i < b.length := by omega
      have h3 : i < out.length := by omega
      rw [cn (e := .int .u8) h1, cn (e := .int .u8) h2]
      obtain ⟨a0, a1⟩ := ba _ (List.getElem_mem h1)
      obtain ⟨b0, b1⟩ := bb _ (List.getElem_mem h2)
      rw [du (n := a[i]) (by omega), du (n := b[i]) (by omega), du (n := b[i] - a[i]) (by omega), du (n := b[i] - a[i] - less) (by omega)]
      have hs : ∀ y : Int, tJ (.int .u8) out (i : Nat) y = out.set i y := fun y => rfl
      have hp : (256 : Int) ^ (32 - i) = 256 * 256 ^ (31 - i) := by
        rw [show 32 - i = (31 - i) + 1 by omega, Int.pow_succ, Int.mul_comm]
      have hq : 32 - (i + 1) = 31 - i := by omega
      rw [hq] at hv
      have va := Dh h1
      have vb := Dh h2
      rw [ha, hq] at va
      rw [hb, hq] at vb
      have step : ∀ y less' : Int, 0 ≤ y ∧ y ≤ 255 → (less' = 0 ∨ less' = 1) → y = b[i] - a[i] - less + 256 * less' →
          fP prog iT O w0 cH (cv prog O w0 jp fun y => y = (c5 a b, ())) (lp cH 4) (nC less' ((i : Int) - 1) a b z (out.set i y)) := by
        intro y less' hy hl' e
        refine ur O w0 a b z ha hb ba bb i less' (out.set i y) (by omega) (by simpa using ho) hl' ?_ ?_
        · rw [vQ h3]; exact mu.2 ⟨hy, hby⟩
        · rw [vQ h3, va, vb, hp]
          simp only [vB, List.length_drop, ho, hq]
          rw [hv, e]
          generalize (256 : Int) ^ (31 - i) = p
          simp only [Int.sub_mul, Int.add_mul]
          have : 256 * less' * p = less' * (256 * p) := by rw [Int.mul_comm 256 less', Int.mul_assoc]
          omega
      refine ⟨be (n := 32) (by omega), be (n := 32) (by omega), fun h => ⟨be (n := 32) (by omega), ?_⟩, fun h => ⟨be (n := 32) (by omega), ?_⟩⟩
      · have h : b[i] - a[i] - less < 0 := of_decide_eq_true h
        rw [hs, du (n := b[i] - a[i] - less + 256) (by omega), A6 (by omega), du (by omega)]
        exact step _ 1 (by omega) (.inr rfl) (by omega)
      · have h : ¬ b[i] - a[i] - less < 0 := of_decide_eq_false h
        rw [hs, A6 (by omega), du (by omega)]
        exact step _ 0 (by omega) (.inl rfl) (by omega), fun h => by
      have h : ¬ (0 : Int) ≤ ((i + 1 : Nat) : Int) - 1 := of_decide_eq_false h
      omega⟩
theorem vA : aC prog [] iS kC :=
 yW qQ oO BX (by kernel_rfl) (fun _ _ => trivial) (A := qK) (T := fun x => vv x.1 x.2.1) (fun x => zc x.1 x.2.1) fun O w0 x hk _ => by
  obtain ⟨la, ba⟩ := nl hk.1
  obtain ⟨lb, bb⟩ := nl hk.2.1
  have hz : (zero tId : List Int).length = 32 := by simp [zero]
  exact ur O w0 x.1 x.2.1 (zero tId) la lb ba bb 32 0 (zero tId) (Nat.le_refl _) hz (.inl rfl) (by rw [List.drop_eq_nil_of_le (by omega)]; simp [byt])
   (by rw [List.drop_eq_nil_of_le (by omega), List.drop_eq_nil_of_le (by omega), List.drop_eq_nil_of_le (by omega)]; simp [vB])
end Go.Proofs.Ytimdnodkabnbfaa
namespace Go.Proofs.Ytimdnodkabnbfaa
open Go Go.RowKit
end Go.Proofs.Ytimdnodkabnbfaa
namespace Go.Proofs.Ytimdnodkabnbfaa
open Go Go.RowKit
noncomputable abbrev dA : aD := { T := br, F := [(f9, jv)], n := (bp).ntmps }
noncomputable abbrev gI : Ann := { loops := [(2, { keep := [0, 1, 9, 10, 11] })] }
theorem gQ (h_cmp_Compare_byte : aC prog [] f9 jv) : cf prog dA := y3 (aH (aV bf aP) h_cmp_Compare_byte)
theorem gr : dD dA = true := by kernel_rfl
noncomputable def li (s1 : den (Ty.slc (Ty.int IntKind.u8))) (s2 : den (Ty.slc (Ty.int IntKind.u8))) : aY := aY.loop (lp bp 2) [(0, K.val (Ty.slc (Ty.int IntKind.u8)) s1), (1, K.val (Ty.slc (Ty.int IntKind.u8)) s2), (9, K.val (Ty.slc (Ty.int IntKind.u8)) s1), (10, K.val ae (lnx (Ty.int IntKind.u8) s1)), (11, K.val ae 0)] []
theorem pA (s1 : den (Ty.slc (Ty.int IntKind.u8))) (s2 : den (Ty.slc (Ty.int IntKind.u8))) : fh dA gI eH bp 1000 (aI bp) (Env.of (aN kD (s1, s2, ()) 0) []) = li s1 s2 := by kernel_rfl
noncomputable def j2 (v0 : den (Ty.slc (Ty.int IntKind.u8))) (v1 : den (Ty.slc (Ty.int IntKind.u8))) (v9 : den (Ty.slc (Ty.int IntKind.u8))) (v10 : den ae) (v11 : den ae) : Env := Env.of [(0, K.val (Ty.slc (Ty.int IntKind.u8)) v0), (1, K.val (Ty.slc (Ty.int IntKind.u8)) v1), (9, K.val (Ty.slc (Ty.int IntKind.u8)) v9), (10, K.val ae v10), (11, K.val ae v11)] []
noncomputable def oJ (v0 : den (Ty.slc (Ty.int IntKind.u8))) (v1 : den (Ty.slc (Ty.int IntKind.u8))) (v9 : den (Ty.slc (Ty.int IntKind.u8))) (v10 : den ae) (v11 : den ae) : aY := aY.ite (decide (v11 < v10)) (aY.req (inB v11 (lnx (Ty.int IntKind.u8) v9)) (aY.ite (decide (lnx (Ty.int IntKind.u8) v1 ≤ v11)) (aY.ret (K.val (Ty.pair ae Ty.unit) (1, PUnit.unit))) (aY.req (inB v11 (lnx (Ty.int IntKind.u8) v1)) (aY.req True (aY.ite (!decide (ir (el (Ty.int IntKind.u8) v9 v11) (el (Ty.int IntKind.u8) v1 v11) = 0)) (aY.ret (K.val (Ty.pair ae Ty.unit) (ir (el (Ty.int IntKind.u8) v9 v11) (el (Ty.int IntKind.u8) v1 v11), PUnit.unit))) (aY.loop (lp bp 2) [(0, K.val (Ty.slc (Ty.int IntKind.u8)) v0), (1, K.val (Ty.slc (Ty.int IntKind.u8)) v1), (9, K.val (Ty.slc (Ty.int IntKind.u8)) v9), (10, K.val ae v10), (11, K.val ae (IntKind.wrap IntKind.i64 (v11 + 1)))] [])))))) (aY.ite (decide (lnx (Ty.int IntKind.u8) v0 < lnx (Ty.int IntKind.u8) v1)) (aY.ret (K.val (Ty.pair ae Ty.unit) (-1, PUnit.unit))) (aY.ret (K.val (Ty.pair ae Ty.unit) (0, PUnit.unit))))
theorem hK (v0 : den (Ty.slc (Ty.int IntKind.u8))) (v1 : den (Ty.slc (Ty.int IntKind.u8))) (v9 : den (Ty.slc (Ty.int IntKind.u8))) (v10 : den ae) (v11 : den ae) : fh dA gI eH bp 1000 (lp bp 2) (j2 v0 v1 v9 v10 v11) = oJ v0 v1 v9 v10 v11 := by kernel_rfl
end Go.Proofs.Ytimdnodkabnbfaa
namespace Go.Proofs.Ytimdnodkabnbfaa
open Go Go.RowKit
noncomputable abbrev g6 : bt := ⟨kD, eH, fun x => (oE x.1 x.2.1, ()), fun _ => True, true⟩
theorem y6 (a : List Int) : oE a [] = if a = [] then 0 else 1 := by
 cases a <;> rfl
def qv (O : Nat → Prop) (w0 : World) (a b : List Int) (hm : a.length ≤ maxLen) :=
 PLift.up <| DY (P := prog) (D := dA) (fn := bp) (rs := eH) (O := O) (w0 := w0) (todo := lp bp 2) (σ := Unit) a.length
  (fun i _ => j2 a b a (lnx (.int .u8) a) i) (fun i _ => i ≤ b.length) (fun i _ y => y = (oE (a.drop i) (b.drop i), ()))
  (fun i _ hi hb ih => xa (gQ jt) gr (hK a b a _ _) ⟨fun _ => by
   refine ⟨be hi, fun h => ⟨_, rfl, ?_⟩, fun h => ?_⟩
   ·have h : (b.length : Int) ≤ (i : Int) := of_decide_eq_true h
    rw [List.drop_eq_nil_of_le (show b.length ≤ i by omega), y6, if_neg (fun e => by have := congrArg List.length e; simp at this; omega)]
   ·have h : ¬ (b.length : Int) ≤ (i : Int) := of_decide_eq_false h
    have hi' : i < b.length := by omega
    rw [cn (e := .int .u8) hi, cn (e := .int .u8) hi', cF hi hm]
    refine ⟨be hi', trivial, fun h => ⟨_, rfl, ?_⟩, fun h => fP.mono (fun y hy => ?_) (ih () (by omega))⟩
    ·have h : ¬ ir a[i] b[i] = 0 := by simpa using h
     rw [List.drop_eq_getElem_cons hi, List.drop_eq_getElem_cons hi']
     simp only [oE, if_neg h]
    ·have h : ir a[i] b[i] = 0 := by simpa using h
     rw [hy, List.drop_eq_getElem_cons hi, List.drop_eq_getElem_cons hi']
     simp only [oE, if_pos h], fun h => by
   have h : ¬ (i : Int) < (a.length : Int) := of_decide_eq_false h
   omega⟩)
  (fun s hb => xa (gQ jt) gr (hK a b a _ _) ⟨fun h => by
   have h : (a.length : Int) < (a.length : Int) := of_decide_eq_true h
   omega, fun _ => ⟨fun h => ⟨_, rfl, by
    have h : (a.length : Int) < (b.length : Int) := of_decide_eq_true h
    rw [List.drop_eq_nil_of_le (Nat.le_refl _), List.drop_eq_getElem_cons (show a.length < b.length by omega)]
    rfl⟩, fun h => ⟨_, rfl, by
    have h : ¬ (a.length : Int) < (b.length : Int) := of_decide_eq_false h
    rw [List.drop_eq_nil_of_le (Nat.le_refl _), List.drop_eq_nil_of_le (show b.length ≤ a.length by omega)]
    rfl⟩⟩⟩)
theorem rp : aC prog [] fa g6 :=
 yW (gQ jt) gr qL (by kernel_rfl) (fun _ _ => trivial) (A := gI) (T := fun x => li x.1 x.2.1) (fun x => pA x.1 x.2.1) fun O w0 x hk _ =>
  (qv O w0 x.1 x.2.1 hk.1.1).down 0 () (Nat.zero_le _) (Nat.zero_le _)
end Go.Proofs.Ytimdnodkabnbfaa
namespace Go.Proofs.Ytimdnodkabnbfaa
open Go Go.RowKit
def lN (a b : List Int) : Int := ir (vB a) (vB b)
end Go.Proofs.Ytimdnodkabnbfaa
namespace Go.Proofs.Ytimdnodkabnbfaa
open Go Go.RowKit
noncomputable abbrev lW : aD := { T := br, F := [(fa, g6)], n := (i8).ntmps }
noncomputable abbrev pP : Ann := { frz := [(1, [2, 3])] }
theorem xq (h_slices_Compare_byte : aC prog [] fa g6) : cf prog lW := y3 (aH (aV bf aP) h_slices_Compare_byte)
theorem wF : dD lW = true := by kernel_rfl
noncomputable def pT (a : den tId) (b : den tId) : aY := aY.req (bq 0 ↑32 ↑32) (aY.req (bq 0 ↑32 ↑32) (aY.req True (aY.ret (K.val (Ty.pair ae Ty.unit) (oE (e9 (Ty.int IntKind.u8) a 0 ↑32) (e9 (Ty.int IntKind.u8) b 0 ↑32), PUnit.unit)))))
theorem tM (a : den tId) (b : den tId) : fh lW pP pl i8 1000 (aI i8) (Env.of (aN o0 (a, b, ()) 0) []) = pT a b := by kernel_rfl
end Go.Proofs.Ytimdnodkabnbfaa
namespace Go.Proofs.Ytimdnodkabnbfaa
open Go Go.RowKit
noncomputable abbrev gg : bt := ⟨o0, pl, fun x => (lN x.1 x.2.1, ()), fun _ => True, true⟩
theorem pX : aC prog [] eR gg :=
 yW (xq rp) wF wL (by kernel_rfl) (fun _ _ => trivial) (A := pP) (T := fun x => pT x.1 x.2.1) (fun x => tM x.1 x.2.1) fun O w0 x hk _ => by
  obtain ⟨la, ba⟩ := nl hk.1
  obtain ⟨lb, bb⟩ := nl hk.2.1
  have hc : ∀ l : List Int, l.length = 32 → e9 (.int .u8) l 0 32 = l := fun l hl => by
   show (l.take 32).drop 0 = l
   rw [List.drop_zero, ← hl, List.take_length]
  refine ⟨⟨Int.le_refl _, by decide, Int.le_refl _⟩, ⟨Int.le_refl _, by decide, Int.le_refl _⟩, trivial, _, rfl, ?_⟩
  have e := Dd (a := x.1) (b := x.2.1) (by rw [la, lb]) ba bb
  show (oE (e9 (.int .u8) x.1 0 32) (e9 (.int .u8) x.2.1 0 32), PUnit.unit) = (lN x.1 x.2.1, ())
  rw [hc x.1 la, hc x.2.1 lb, e]
  rfl
def nx (x a b : List Int) : Bool :=
 if a = b then true else if vB a < vB b then decide (vB a < vB x) && decide (vB x ≤ vB b) else decide (vB a < vB x) || decide (vB x ≤ vB b)
theorem HU {a b : List Int} : lN a b ≤ 0 ↔ vB a ≤ vB b := by
 unfold lN ir; split
 ·exact ⟨fun _ => by omega, fun _ => by omega⟩
 ·split <;> exact ⟨fun _ => by omega, fun _ => by omega⟩
end Go.Proofs.Ytimdnodkabnbfaa
namespace Go.Proofs.Ytimdnodkabnbfaa
open Go Go.RowKit
noncomputable abbrev oc : aD := { T := br, F := [(iS, kC), (eR, gg)], n := (lL).ntmps }
noncomputable abbrev xF : Ann := { }
theorem Ec (h_ident_Far : aC prog [] iS kC) (h_ident_Compare : aC prog [] eR gg) : cf prog oc := y3 (aH (aH (aV bf aP) h_ident_Compare) h_ident_Far)
theorem Cs : dD oc = true := by kernel_rfl
noncomputable def nZ (x : den tId) (a : den tId) (b : den tId) : aY := aY.ite (eqb tId a b) (aY.ret (K.val (Ty.pair Ty.bool Ty.unit) (true, PUnit.unit))) (aY.req True (aY.req (dH [(!eqb tId (c5 a x) (List.replicate 32 (zero (Ty.int IntKind.u8))), true)] True) (aY.req (dH [(!eqb tId (c5 a x) (List.replicate 32 (zero (Ty.int IntKind.u8))), true)] True) (aY.ret (K.val (Ty.pair Ty.bool Ty.unit) (bif !eqb tId (c5 a x) (List.replicate 32 (zero (Ty.int IntKind.u8))) then decide (lN (c5 a x) (c5 a b) ≤ 0) else false, PUnit.unit))))))
theorem z5 (x : den tId) (a : den tId) (b : den tId) : fh oc xF qW lL 1000 (aI lL) (Env.of (aN vP (x, a, b, ()) 0) []) = nZ x a b := by kernel_rfl
end Go.Proofs.Ytimdnodkabnbfaa
namespace Go.Proofs.Ytimdnodkabnbfaa
open Go Go.RowKit
theorem Hk {x y W : Int} (hx : 0 ≤ x ∧ x < W) (hy : 0 ≤ y ∧ y < W) : (y - x) % W = if x ≤ y then y - x else y - x + W := by
 split
 ·exact Int.emod_eq_of_lt (by omega) (by omega)
 ·rw [← Int.add_emod_right]
  exact Int.emod_eq_of_lt (by omega) (by omega)
theorem qj {a : List Int} (ha : a.length = 32 ∧ byt a) : 0 ≤ vB a ∧ vB a < sK := by
 have := mw ha.2; rw [ha.1] at this; exact this
theorem AO {a b : List Int} (ha : a.length = 32 ∧ byt a) (hb : b.length = 32 ∧ byt b) : vB (c5 a b) = if vB a ≤ vB b then vB b - vB a else vB b - vB a + sK := by
 have ra := qj ha
 have rb := qj hb
 rw [← Hk ra rb]
 exact (wX 32 (Int.emod_nonneg _ (by decide)) (Int.emod_lt_of_pos _ (by decide))).2
theorem Dw {a b : List Int} : (c5 a b).length = 32 ∧ byt (c5 a b) :=
 ⟨sw _ _, (wX 32 (Int.emod_nonneg _ (by decide)) (Int.emod_lt_of_pos _ (by decide))).1⟩
theorem BH : vB (List.replicate 32 (0 : Int)) = 0 := by decide
theorem Fo : byt (List.replicate 32 (0 : Int)) := fun x h => by
 have := List.eq_of_mem_replicate h
 omega
theorem Gs {a b : List Int} (ha : a.length = 32 ∧ byt a) (hb : b.length = 32 ∧ byt b) : c5 a b = List.replicate 32 (0 : Int) ↔ vB a = vB b := by
 have ra := qj ha
 have rb := qj hb
 have h1 := AO ha hb
 refine ⟨fun h => ?_, fun h => ?_⟩
 ·rw [h, BH] at h1
  split at h1 <;> omega
 ·refine BI (by rw [Dw.1, List.length_replicate]) Dw.2 Fo ?_
  rw [h1, BH, if_pos (by omega)]; omega
noncomputable abbrev iz : bt := ⟨vP, qW, fun x => (nx x.1 x.2.1 x.2.2.1, ()), fun _ => True, true⟩
theorem H6 {x a b : List Int} (hx : x.length = 32 ∧ byt x) (ha : a.length = 32 ∧ byt a) (hb : b.length = 32 ∧ byt b) (h : ¬ a = b) :
    (bif !decide (c5 a x = List.replicate 32 (0 : Int)) then decide (lN (c5 a x) (c5 a b) ≤ 0) else false) = nx x a b := by
  have rx := qj hx
  have ra := qj ha
  have rb := qj hb
  have hne : ¬ vB a = vB b := fun e => h (BI (by rw [ha.1, hb.1]) ha.2 hb.2 e)
  simp only [HU, Gs ha hx, AO ha hx, AO ha hb]
  rw [nx, if_neg h]
  by_cases e1 : vB a = vB x
  · simp only [e1, decide_true, Bool.not_true, cond_false]
    split
    · simp
    · symm; simp; omega
  · simp only [e1, decide_false, Bool.not_false, cond_true]
    rw [Bool.eq_iff_iff]
    split <;> split <;> split <;> simp only [Bool.and_eq_true, Bool.or_eq_true, decide_eq_true_eq] <;> omega
theorem Cq (O : Nat → Prop) (w0 : World) (x a b : List Int) (hx : x.length = 32 ∧ byt x) (ha : a.length = 32 ∧ byt a) (hb : b.length = 32 ∧ byt b) : bB prog oc O w0 lL qW (fun y => y = (nx x a b, ())) (nZ x a b) := by
 unfold nZ
 rw [uW, uW]
 refine ⟨fun h => ⟨_, rfl, ?_⟩, fun h => ⟨trivial, fun _ => trivial, fun _ => trivial, _, rfl, ?_⟩⟩
 ·have h : a = b := of_decide_eq_true h
  simp [nx, h]
 ·have h : ¬ a = b := of_decide_eq_false h
  rw [← H6 hx ha hb h]; rfl
theorem so : aC prog [] fY iz :=
 yW (Ec vA pX) Cs CL (by kernel_rfl) (fun _ _ => trivial) (A := xF) (T := fun x => nZ x.1 x.2.1 x.2.2.1) (fun x => z5 x.1 x.2.1 x.2.2.1) fun O w0 x hk _ =>
  Cq O w0 x.1 x.2.1 x.2.2.1 (nl hk.1) (nl hk.2.1) (nl hk.2.2.1)
end Go.Proofs.Ytimdnodkabnbfaa
namespace Go.Proofs.Ytimdnodkabnbfaa
open Go Go.RowKit
noncomputable abbrev pI : Fx := { fn := mt, ann := { } }
noncomputable abbrev rU : a8 := { D := { T := br, F := [], R := [], ovl := [] }, inl := [] }
noncomputable abbrev yw : bG := .data pO
theorem yq : XOk prog rU := xok ((aV bf aP)) (by kernel_rfl) aW bh bg
noncomputable def rK (x : den ab) (m : den (Ty.ref ab)) : af := af.ret (K.val (Ty.pair Ty.bool Ty.unit) (bif decide (Prod.fst x = Prod.fst m) then true else eqb tId (Prod.fst (Prod.snd x)) (Prod.fst (Prod.snd m)), PUnit.unit))
theorem vh (x : den ab) (m : den (Ty.ref ab)) : ap rU yw 5000 [] pI (aI mt) (Env.of (aN p5 (x, m, ()) 0) []) = rK x m := by kernel_rfl
noncomputable abbrev ax : Fx := { fn := az, ann := { loops := [(2, { keep := [0, 1, 7, 8] })], frz := [(1000002, [0, 1]), (2000002, [2, 3, 4, 6])] }, own := [16] }
noncomputable abbrev dB : a8 := { D := { T := br, F := [], R := [], ovl := [] }, inl := [] }
noncomputable abbrev i5 : bG := .data ff
theorem fg : XOk prog dB := xok ((aV bf aP)) (by kernel_rfl) aW bh bg
noncomputable def jj (s : den (Ty.slc ab)) (f : den (Ty.fn (Ty.pair ab Ty.unit) (Ty.pair Ty.bool Ty.unit))) : af := af.loop [] ax (lp az 2) [(0, K.val (Ty.slc ab) s), (1, K.val (Ty.fn (Ty.pair ab Ty.unit) (Ty.pair Ty.bool Ty.unit)) f), (7, K.val ae (lnx ab s)), (8, K.val ae 0)] []
theorem mi (s : den (Ty.slc ab)) (f : den (Ty.fn (Ty.pair ab Ty.unit) (Ty.pair Ty.bool Ty.unit))) : ap dB i5 5000 [] ax (aI az) (Env.of (aN iI (s, f, ()) 0) []) = jj s f := by kernel_rfl
noncomputable def hY (v0 : den (Ty.slc ab)) (v1 : den (Ty.fn (Ty.pair ab Ty.unit) (Ty.pair Ty.bool Ty.unit))) (v7 : den ae) (v8 : den ae) : Env := Env.of [(0, K.val (Ty.slc ab) v0), (1, K.val (Ty.fn (Ty.pair ab Ty.unit) (Ty.pair Ty.bool Ty.unit)) v1), (7, K.val ae v7), (8, K.val ae v8)] []
noncomputable def mC (v0 : den (Ty.slc ab)) (v1 : den (Ty.fn (Ty.pair ab Ty.unit) (Ty.pair Ty.bool Ty.unit))) (v7 : den ae) (v8 : den ae) : af := af.ite (decide (v8 < v7)) (af.req (inB v8 (lnx ab v0)) (af.req (oq (Ty.pair ab Ty.unit) (Ty.pair Ty.bool Ty.unit) v1) (af.ite (Prod.fst (uz (Ty.pair ab Ty.unit) (Ty.pair Ty.bool Ty.unit) v1 (el ab v0 v8, PUnit.unit))) (af.ret (K.val (Ty.pair ae Ty.unit) (v8, PUnit.unit))) (af.loop [] ax (lp az 2) [(0, K.val (Ty.slc ab) v0), (1, K.val (Ty.fn (Ty.pair ab Ty.unit) (Ty.pair Ty.bool Ty.unit)) v1), (7, K.val ae v7), (8, K.val ae (IntKind.wrap IntKind.i64 (v8 + 1)))] [])))) (af.ret (K.val (Ty.pair ae Ty.unit) (-1, PUnit.unit)))
theorem fL (v0 : den (Ty.slc ab)) (v1 : den (Ty.fn (Ty.pair ab Ty.unit) (Ty.pair Ty.bool Ty.unit))) (v7 : den ae) (v8 : den ae) : ap dB i5 5000 [] ax (lp az 2) (hY v0 v1 v7 v8) = mC v0 v1 v7 v8 := by kernel_rfl
end Go.Proofs.Ytimdnodkabnbfaa
namespace Go.Proofs.Ytimdnodkabnbfaa
open Go Go.RowKit
abbrev Mem := den ab
abbrev H1 (a : List Int) : Prop := a.length = 32 ∧ byt a
theorem HJ {x : den tId} (h : okT tId x) : H1 x := nl h
def k4 (x m : Mem) : Bool := bif decide (x.1 = m.1) then true else eqb tId x.2.1 m.2.1
noncomputable abbrev jM : bt := ⟨p5, pO, fun x => (k4 x.1 x.2.1, ()), fun _ => True, true⟩
theorem yX : aC prog [] jV jM :=
 bY (S := jM) yq (fx := pI) xy (by kernel_rfl) (fun _ _ => trivial) (T := fun x => rK x.1 x.2.1) (fun x => vh x.1 x.2.1) fun O w0 x _ _ => ⟨_, rfl, rfl⟩
def prM (f : den (.fn (.pair ab .unit) (.pair .bool .unit))) (m : Mem) : Bool := (uz (.pair ab .unit) (.pair .bool .unit) f (m, ())).1
def ixP (p : Mem → Bool) : List Mem → Int → Int
 | [], _ => -1
 | x :: l, i => bif p x then i else ixP p l (i + 1)
theorem zr (p : Mem → Bool) : ∀ (l : List Mem) (i : Int), 0 ≤ i → (l.any p = true → i ≤ ixP p l i ∧ ixP p l i < i + l.length) ∧ (l.any p = false → ixP p l i = -1)
 | [], i, _ => ⟨fun h => (by cases h), fun _ => rfl⟩
 | x :: l, i, hi => by
  obtain ⟨h1, h2⟩ := zr p l (i + 1) (by omega)
  rw [List.any_cons, List.length_cons]
  show (_ → _ ≤ (bif p x then i else ixP p l (i + 1)) ∧ (bif p x then i else ixP p l (i + 1)) < _) ∧ (_ → (bif p x then i else ixP p l (i + 1)) = -1)
  cases p x with
  | true => exact ⟨fun _ => ⟨Int.le_refl _, by show i < _; omega⟩, fun h => (by cases h)⟩
  | false =>
   refine ⟨fun h => ?_, fun h => h2 h⟩
   have := h1 h
   exact ⟨by show i ≤ ixP p l (i + 1); omega, by show ixP p l (i + 1) < _; omega⟩
theorem GX (p : Mem → Bool) (l : List Mem) : decide (0 ≤ ixP p l 0) = l.any p := by
 obtain ⟨h1, h2⟩ := zr p l 0 (Int.le_refl _)
 cases h : l.any p with
 | true => exact decide_eq_true (h1 h).1
 | false => rw [h2 h]; rfl
noncomputable abbrev dC : bt := ⟨iI, ff, fun x => (ixP (prM x.2.1) x.1 0, ()), fun x => oq (.pair ab .unit) (.pair .bool .unit) x.2.1, false⟩
abbrev GIx (O : Nat → Prop) (w0 : World) (y : Int) := bw prog dB (Cx.base O w0) (cv prog O w0 ff fun z => z = (y, ()))
def AA (O : Nat → Prop) (w0 : World) (xs : List Mem) (f : den (.fn (.pair ab .unit) (.pair .bool .unit))) (hf : oq (.pair ab .unit) (.pair .bool .unit) f) (hm : xs.length ≤ maxLen) (y : Int) (hy : y = ixP (prM f) xs 0) :=
 PLift.up <| bF (σ := Unit) xs.length (fun i _ => ixP (prM f) (xs.drop i) (i : Nat) = y)
  (fun i _ => GIx O w0 y [] ax (lp az 2) (hY xs f (lnx ab xs) (i : Nat)))
  (fun i _ hi hs ih => aO fg (fL xs f _ _) (by
   rw [List.drop_eq_getElem_cons hi] at hs
   have hs : (bif prM f xs[i] then ((i : Nat) : Int) else ixP (prM f) (xs.drop (i + 1)) (((i : Nat) : Int) + 1)) = y := hs
   refine ⟨fun _ => ⟨be hi, hf, ?_⟩, fun hc => absurd hi (by rw [cp] at hc; exact of_decide_eq_false hc)⟩
   rw [cn hi, cF hi hm]
   refine ⟨fun hc => ⟨_, rfl, ?_⟩, fun hc => ih () ?_⟩
   ·have hc : prM f xs[i] = true := hc
    rw [hc] at hs
    rw [← hs]
    rfl
   ·have hc : prM f xs[i] = false := hc
    rw [hc] at hs
    exact hs))
  (fun _ hs => aO fg (fL xs f _ _) (by
   refine ⟨fun hc => absurd (of_decide_eq_true hc) (Int.lt_irrefl _), fun _ => ⟨_, rfl, ?_⟩⟩
   rw [List.drop_length] at hs
   rw [← hs]
   rfl))
theorem od : aC prog [] cL dC :=
 bY (S := dC) fg (fx := ax) iD (by kernel_rfl) (fun h => by cases h) (T := fun x => jj x.1 x.2.1) (fun x => mi x.1 x.2.1) fun O w0 x hk hp =>
  (AA O w0 x.1 x.2.1 hp hk.1.1 _ rfl).down 0 () (Nat.zero_le _) rfl
theorem k5 (x y : Mem) : eqb ab x y = decide (x = y) := by
 have := lh (t := ab) rfl x y
 cases h : eqb ab x y
 ·have : ¬ x = y := fun e => by rw [this.2 e] at h; cases h
  simp [this]
 ·simp [this.1 h]
end Go.Proofs.Ytimdnodkabnbfaa
namespace Go.Proofs.Ytimdnodkabnbfaa
def rky (W a p : Int) : Int := if a ≤ p then p - a else p - a + W
def rup (W a : Int) : Int := if a + 1 = W then 0 else a + 1
theorem BU {W a p : Int} (ha : 0 ≤ a ∧ a < W) (hp : 0 ≤ p ∧ p < W) : 0 ≤ rky W a p ∧ rky W a p < W := by unfold rky; split <;> omega
theorem H5 {W a p q : Int} (_ : 0 ≤ a ∧ a < W) (hp : 0 ≤ p ∧ p < W) (hq : 0 ≤ q ∧ q < W) (h : rky W a p = rky W a q) : p = q := by unfold rky at h; split at h <;> split at h <;> omega
theorem Hw {W a : Int} : rky W a a = 0 := by unfold rky; rw [if_pos (Int.le_refl _)]; omega
theorem FZ {W a m p : Int} (ha : 0 ≤ a ∧ a < W) (hm : 0 ≤ m ∧ m < W) (hp : 0 ≤ p ∧ p < W) : rky W m p = if rky W a m ≤ rky W a p then rky W a p - rky W a m else rky W a p - rky W a m + W := by
 unfold rky
 split <;> split <;> split <;> split <;> omega
theorem Io {W m p : Int} (hm : 0 ≤ m ∧ m < W) (hp : 0 ≤ p ∧ p < W) : rky W (rup W m) p = if p = m then W - 1 else rky W m p - 1 := by
 unfold rky rup
 split <;> split <;> split <;> (try split) <;> omega
section
variable {M : Type} {pos : M → Int} {W : Int}
structure DD (pos : M → Int) (W : Int) (l : List M) : Prop where
 in' : ∀ m ∈ l, 0 ≤ pos m ∧ pos m < W
 inj : ∀ x ∈ l, ∀ y ∈ l, pos x = pos y → x = y
def oD (pos : M → Int) (W a : Int) (l : List M) (m : M) : Prop := m ∈ l ∧ ∀ x ∈ l, rky W a (pos m) ≤ rky W a (pos x)
theorem oD.uniq {l : List M} (h : DD pos W l) {a : Int} (ha : 0 ≤ a ∧ a < W) {m n : M} (hm : oD pos W a l m) (hn : oD pos W a l n) : m = n :=
 h.inj m hm.1 n hn.1 (H5 ha (h.in' m hm.1) (h.in' n hn.1) (Int.le_antisymm (hm.2 n hn.1) (hn.2 m hm.1)))
theorem oD.mem {l : List M} {a : Int} {m : M} (h : oD pos W a l m) : m ∈ l := h.1
theorem oD.sub {l l' : List M} {a : Int} {m : M} (h : oD pos W a l m) (hs : ∀ x ∈ l', x ∈ l) (hm : m ∈ l') : oD pos W a l' m := ⟨hm, fun x hx => h.2 x (hs x hx)⟩
structure qz (pos : M → Int) (W a : Int) (l s : List M) : Prop where
 mem : ∀ x, x ∈ s ↔ x ∈ l
 lt : s.Pairwise fun x y => rky W a (pos x) < rky W a (pos y)
theorem qz.get {a : Int} {l s : List M} (h : qz pos W a l s) {i j : Nat} (hi : i < j) (hj : j < s.length) : rky W a (pos s[i]) < rky W a (pos s[j]) := List.pairwise_iff_getElem.1 h.lt i j (by omega) hj hi
theorem qz.nodup {a : Int} {l s : List M} (h : qz pos W a l s) {i j : Nat} (hi : i < s.length) (hj : j < s.length) (e : s[i] = s[j]) : i = j := by
 rcases Nat.lt_trichotomy i j with h1 | h1 | h1
 ·have := h.get h1 hj; rw [e] at this; omega
 ·exact h1
 ·have := h.get h1 hi; rw [e] at this; omega
theorem qz.first {a : Int} {l s : List M} (h : qz pos W a l s) (h0 : 0 < s.length) : oD pos W a l s[0] :=
 ⟨(h.mem _).1 (List.getElem_mem h0), fun x hx => by
  obtain ⟨j, hj, rfl⟩ := List.getElem_of_mem ((h.mem x).2 hx)
  rcases Nat.eq_zero_or_pos j with e | e
  ·subst e; exact Int.le_refl _
  ·exact Int.le_of_lt (h.get e hj)⟩
theorem qz.next {a : Int} {l s : List M} (hl : DD pos W l) (ha : 0 ≤ a ∧ a < W) (h : qz pos W a l s) {i : Nat} (hi : i < s.length) :
    oD pos W (rup W (pos s[i])) l (s[(i + 1) % s.length]'(Nat.mod_lt _ (by omega))) := by
  have hr : ∀ j (hj : j < s.length), 0 ≤ pos s[j] ∧ pos s[j] < W := fun j hj => hl.in' _ ((h.mem _).1 (List.getElem_mem hj))
  have hn : (i + 1) % s.length < s.length := Nat.mod_lt _ (by omega)
  refine ⟨(h.mem _).1 (List.getElem_mem hn), fun x hx => ?_⟩
  obtain ⟨j, hj, rfl⟩ := List.getElem_of_mem ((h.mem x).2 hx)
  have key : ∀ k (hk : k < s.length), rky W (rup W (pos s[i])) (pos s[k]) = if k = i then W - 1 else (if i < k then rky W a (pos s[k]) - rky W a (pos s[i]) - 1 else rky W a (pos s[k]) - rky W a (pos s[i]) + W - 1) := fun k hk => by
    rw [Io (hr i hi) (hr k hk)]
    by_cases e : k = i
    · subst e; rw [if_pos rfl, if_pos rfl]
    · have hne : ¬ pos s[k] = pos s[i] := fun hp => e (h.nodup hk hi (hl.inj _ ((h.mem _).1 (List.getElem_mem hk)) _ ((h.mem _).1 (List.getElem_mem hi)) hp))
      rw [if_neg hne, if_neg e, FZ ha (hr i hi) (hr k hk)]
      by_cases h1 : i < k
      · have := h.get h1 hk
        rw [if_pos h1, if_pos (by omega)]
      · have := h.get (show k < i by omega) hi
        rw [if_neg h1, if_neg (by omega)]
  rw [key _ hn, key j hj]
  have rg : ∀ k (hk : k < s.length), 0 ≤ rky W a (pos s[k]) ∧ rky W a (pos s[k]) < W := fun k hk => BU ha (hr k hk)
  have ri := rg i hi
  have rj := rg j hj
  by_cases hlast : i + 1 < s.length
  · have e : (i + 1) % s.length = i + 1 := Nat.mod_eq_of_lt hlast
    simp only [e]
    rw [if_neg (by omega), if_pos (by omega)]
    have r1 := rg (i + 1) hlast
    have g1 := h.get (show i < i + 1 by omega) hlast
    by_cases e1 : j = i
    · rw [if_pos e1]; omega
    · rw [if_neg e1]
      by_cases e2 : i < j
      · rw [if_pos e2]
        rcases Nat.lt_or_ge (i + 1) j with e3 | e3
        · have := h.get e3 hj; omega
        · have : j = i + 1 := by omega
          subst this; omega
      · rw [if_neg e2]; omega
  · have e : (i + 1) % s.length = 0 := by rw [show i + 1 = s.length by omega, Nat.mod_self]
    simp only [e]
    by_cases e0 : 0 = i
    · subst e0
      have : j = 0 := by omega
      subst this
      exact Int.le_refl _
    · rw [if_neg e0, if_neg (by omega)]
      have r0 := rg 0 (by omega)
      have g0 := h.get (show 0 < i by omega) hi
      by_cases e1 : j = i
      · rw [if_pos e1]; omega
      · rw [if_neg e1, if_neg (by omega)]
        rcases Nat.eq_zero_or_pos j with e2 | e2
        · subst e2; omega
        · have := h.get e2 hj; omega
theorem qz.self {l s : List M} (hl : DD pos W l) {m : M} (hm : m ∈ l) (h : qz pos W (pos m) l s) (h0 : 0 < s.length) : s[0] = m :=
 oD.uniq hl (hl.in' m hm) (h.first h0) ⟨hm, fun x hx => by rw [Hw]; exact (BU (hl.in' m hm) (hl.in' x hx)).1⟩
end
end Go.Proofs.Ytimdnodkabnbfaa
namespace Go.Proofs
open Go.Shelf
end Go.Proofs
namespace Go.Proofs.Ytimdnodkabnbfaa
open Go Go.RowKit
abbrev H2 : Ty := .clo cQ (.pair (.ref (.slc ab)) .unit)
abbrev jo : Ty := .pair H2 .unit
noncomputable abbrev eE : bt := ⟨jZ, jo, fun x => ((x.1, ()), ()), fun _ => True, false⟩
noncomputable abbrev bP : bt := ⟨gA, gB, fun x => (x.1.any (prM x.2.1), ()), fun x => oq (.pair ab .unit) (.pair .bool .unit) x.2.1, false⟩
def wS : List Mem → List Mem → Bool
 | _, [] => true
 | pre, m :: l => (!(pre.any fun x => k4 x m)) && decide (0 ≤ m.1) && decide (m.1 < 16) && wS (pre ++ [m]) l
def io (l : List Mem) : Bool := wS [] l && decide (l.length ≤ 16)
noncomputable abbrev lT : bt := ⟨sU, nt, fun x => (io x.1, ()), fun _ => True, true⟩
def noM : Mem := (-1, zero (Ty.pair tId Ty.unit))
end Go.Proofs.Ytimdnodkabnbfaa
