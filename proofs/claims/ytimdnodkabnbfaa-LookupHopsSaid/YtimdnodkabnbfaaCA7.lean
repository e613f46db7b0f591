/- Part 7 of 9 of what this claim's proof stands on: a theory of programs on data, and the contracts of the functions that the law reaches. It holds no condition of its own. -/
import Derived.Test.YtimdnodkabnbfaaCA6
import Derived.Test.YtimdnodkabnbfaaProg
import Derived.Shelf.SlSortCmp.WholeK
import Derived.Shelf.SlSortCmp.NoneTotal
import Derived.Ground.SlsfProg
namespace Go.Proofs.Ytimdnodkabnbfaa
open Go
noncomputable section
noncomputable abbrev prog : Program := Try.prog
abbrev tId : Ty := (.arr 32 (.int .u8))
abbrev ab : Ty := (.st (.pair (.int .i64) (.pair tId .unit)))
abbrev ao : Ty := (.st (.pair ab (.pair .bool .unit)))
abbrev kQ : Ty := (.st (.pair (.slc (.int .i64)) (.pair ab (.pair (.int .i64) .unit))))
abbrev ag : Ty := (.st (.pair ab (.pair ab (.pair (.slc ab) (.pair (.slc ab) .unit)))))
abbrev ah : Ty := (.st (.pair (.slc ag) .unit))
def bt : List (Nat × Ty) := [
 (1, (.fn .unit .unit)),
 (2, (.int .i64)),
 (3, (.int .i64)),
 (4, .bool),
 (5, (.int .u8)),
 (9, .str),
 (12, (.int .u64)),
 (21, (.int .i32)),
 (22, (.slc ag)),
 (23, ah),
 (24, ah),
 (25, tId),
 (26, tId),
 (27, (.fn (.pair ah .unit) (.pair ah .unit))),
 (28, (.slc (.int .i64))),
 (29, ab),
 (30, ab),
 (31, (.int .i64)),
 (33, (.fn (.pair ah (.pair (.int .i64) (.pair tId (.pair (.int .i64) .unit)))) (.pair (.slc (.int .i64)) (.pair ab (.pair (.int .i64) .unit))))),
 (34, (.fn (.pair ah .unit) (.pair .bool .unit))),
 (35, (.fn .unit (.pair .bool .unit))),
 (36, kQ),
 (37, kQ),
 (38, (.fn (.pair ah (.pair (.int .i64) (.pair tId (.pair (.int .i64) .unit)))) (.pair kQ .unit))),
 (39, (.fn (.pair ah (.pair (.int .i64) (.pair (.int .i64) (.pair tId .unit)))) (.pair .bool .unit))),
 (40, (.fn (.pair ah (.pair (.int .i64) (.pair tId (.pair (.int .i64) .unit)))) (.pair .bool .unit))),
 (41, (.mp (.int .i64) .bool)),
 (42, (.slc ab)),
 (43, (.fn (.pair ah .unit) (.pair (.slc ab) .unit))),
 (45, (.fn (.pair ah (.pair tId (.pair (.int .i64) .unit))) (.pair (.slc ab) (.pair (.int .i64) .unit)))),
 (46, (.fn (.pair (.slc ab) (.pair (.slc ab) .unit)) (.pair .bool .unit))),
 (47, (.fn (.pair ah (.pair tId (.pair (.int .i64) .unit))) (.pair (.slc ab) .unit))),
 (48, (.fn (.pair ah (.pair tId (.pair (.int .i64) .unit))) (.pair .bool .unit))),
 (50, (.fn (.pair (.slc ab) (.pair tId .unit)) (.pair ab (.pair (.int .i64) .unit)))),
 (51, (.mp (.int .i64) tId)),
 (52, ag),
 (53, ag),
 (54, (.fn (.pair tId (.pair tId .unit)) (.pair (.int .i64) .unit))),
 (55, (.fn (.pair tId (.pair tId .unit)) (.pair tId .unit))),
 (56, (.fn (.pair ah (.pair tId .unit)) (.pair .bool .unit))),
 (58, (.fn (.pair ah (.pair (.int .i64) (.pair (.int .i64) .unit))) (.pair ah (.pair (.int .i64) .unit)))),
 (59, (.fn (.pair ah (.pair tId (.pair (.slc (.int .i64)) .unit))) (.pair .bool .unit))),
 (60, (.fn (.pair ah .unit) (.pair ah (.pair (.int .i64) .unit)))),
 (61, (.fn (.pair ah (.pair (.int .i64) .unit)) (.pair ah (.pair (.int .i64) .unit)))),
 (62, (.fn (.pair ah (.pair ah .unit)) (.pair .bool .unit))),
 (63, (.fn (.pair ah (.pair ab (.pair (.int .i64) .unit))) (.pair ah (.pair (.int .i64) .unit)))),
 (64, (.fn (.pair (.fn (.pair (.int .i64) (.pair ao .unit)) (.pair .bool .unit)) .unit) .unit)),
 (65, (.fn (.pair (.fn (.pair (.int .i64) (.pair ao .unit)) (.pair .bool .unit)) .unit) .unit)),
 (66, (.fn (.pair ah (.pair (.int .i64) (.pair tId .unit))) (.pair (.fn (.pair (.fn (.pair (.int .i64) (.pair ao .unit)) (.pair .bool .unit)) .unit) .unit) .unit))),
 (67, ao),
 (68, ao),
 (69, (.fn (.pair ag .unit) (.pair .bool .unit))),
 (70, (.fn (.pair ag .unit) (.pair (.slc ab) .unit))),
 (71, (.fn (.pair (.slc ab) (.pair (.int .i64) .unit)) (.pair ab .unit))),
 (72, (.fn (.pair (.slc ab) .unit) (.pair .bool .unit))),
 (73, (.fn (.pair ah (.pair (.int .i64) .unit)) (.pair .bool .unit))),
 (74, ao),
 (75, ao),
 (76, (.fn (.pair ah (.pair (.int .i64) (.pair tId .unit))) (.pair ao .unit))),
 (77, (.fn (.pair (.slc ab) (.pair (.int .i64) (.pair (.int .i64) .unit))) (.pair (.slc ab) (.pair (.int .i64) .unit)))),
 (78, (.fn (.pair (.slc ab) (.pair tId .unit)) (.pair ab .unit))),
 (79, (.fn (.pair (.slc ab) (.pair ab (.pair (.int .i64) .unit))) (.pair (.slc ab) .unit))),
 (80, (.fn (.pair (.slc ab) (.pair (.int .i64) .unit)) (.pair ab (.pair (.int .i64) .unit)))),
 (81, (.fn (.pair (.slc ab) (.pair (.fn (.pair ab (.pair ab .unit)) (.pair (.int .i64) .unit)) .unit)) (.pair ab .unit))),
 (82, (.fn (.pair ab (.pair ab .unit)) (.pair (.int .i64) .unit))),
 (83, (.fn (.pair tId .unit) (.pair (.fn (.pair ab (.pair ab .unit)) (.pair (.int .i64) .unit)) .unit))),
 (84, (.fn (.pair (.slc (.int .u8)) (.pair (.slc (.int .u8)) .unit)) (.pair (.int .i64) .unit))),
 (85, (.slc (.int .u8))),
 (87, (.fn (.pair ah (.pair (.int .i64) .unit)) (.pair (.int .i64) (.pair (.int .i64) .unit)))),
 (89, (.fn (.pair ah (.pair (.int .i64) .unit)) (.pair ab (.pair .bool .unit)))),
 (91, (.fn (.pair ag (.pair ab .unit)) (.pair ag (.pair (.int .i64) .unit)))),
 (92, (.fn (.pair ah (.pair (.int .i64) .unit)) .unit)),
 (93, (.fn (.pair (.fn (.pair ab .unit) (.pair .bool .unit)) .unit) .unit)),
 (94, (.fn (.pair (.fn (.pair ab .unit) (.pair .bool .unit)) .unit) .unit)),
 (95, (.fn (.pair ag .unit) (.pair (.fn (.pair (.fn (.pair ab .unit) (.pair .bool .unit)) .unit) .unit) .unit))),
 (96, (.fn (.pair ag (.pair ag .unit)) (.pair .bool .unit))),
 (97, (.fn (.pair (.slc ag) (.pair (.int .i64) (.pair (.int .i64) .unit))) (.pair (.slc ag) .unit))),
 (98, (.fn (.pair (.slc ag) .unit) (.pair (.slc ag) .unit))),
 (99, (.fn (.pair ab .unit) (.pair ag (.pair (.int .i64) .unit)))),
 (100, (.fn (.pair ab .unit) (.pair .bool .unit))),
 (101, (.fn (.pair (.slc ab) (.pair (.fn (.pair ab .unit) (.pair .bool .unit)) .unit)) (.pair .bool .unit))),
 (102, (.fn (.pair (.fn (.pair (.fn (.pair ab .unit) (.pair .bool .unit)) .unit) .unit) .unit) (.pair (.slc ab) .unit))),
 (104, (.fn (.pair ah (.pair (.int .i64) .unit)) (.pair (.int .i64) (.pair .bool .unit)))),
 (105, (.fn (.pair (.slc ag) (.pair (.int .i64) (.pair (.slc ag) .unit))) (.pair (.slc ag) .unit))),
 (106, (.fn (.pair (.int .i64) (.pair ao .unit)) (.pair .bool .unit))),
 (108, (.fn (.pair ah (.pair (.int .i64) (.pair tId .unit))) (.pair ao (.pair .bool .unit)))),
 (109, (.fn (.pair (.slc ab) (.pair (.int .i64) .unit)) (.pair .bool .unit))),
 (110, (.fn (.pair ah (.pair (.int .i64) .unit)) (.pair ag .unit))),
 (111, (.fn (.pair ag (.pair (.slc (.int .i64)) .unit)) (.pair ag .unit))),
 (112, (.fn (.pair tId (.pair tId (.pair tId .unit))) (.pair .bool .unit))),
 (113, (.fn (.pair ag (.pair tId .unit)) (.pair ao .unit))),
 (114, (.fn (.pair (.slc ab) (.pair (.int .i64) .unit)) (.pair (.slc ab) (.pair (.int .i64) .unit)))),
 (115, (.fn (.pair (.slc ab) (.pair ab .unit)) (.pair ab .unit))),
 (116, (.fn (.pair (.int .u8) (.pair (.int .u8) .unit)) (.pair (.int .i64) .unit))),
 (117, (.fn (.pair (.int .i64) .unit) (.pair (.fn (.pair ab .unit) (.pair .bool .unit)) .unit))),
 (118, (.fn (.pair (.slc ab) .unit) (.pair (.slc ab) .unit))),
 (119, (.fn (.pair ag (.pair (.slc (.int .i64)) .unit)) (.pair ag (.pair (.int .i64) .unit)))),
 (120, (.fn (.pair ah (.pair ag .unit)) (.pair (.slc (.int .i64)) .unit))),
 (121, (.fn (.pair ag (.pair ag .unit)) (.pair ag (.pair (.int .i64) .unit)))),
 (122, (.fn .unit (.pair ab .unit))),
 (123, (.fn (.pair (.slc ab) .unit) (.pair (.fn (.pair (.fn (.pair ab .unit) (.pair .bool .unit)) .unit) .unit) .unit))),
 (124, (.fn (.pair (.slc (.slc ab)) .unit) (.pair (.slc ab) .unit))),
 (125, (.fn (.pair (.slc ab) (.pair (.fn (.pair ab .unit) (.pair .bool .unit)) .unit)) (.pair (.int .i64) .unit))),
 (126, (.fn (.pair (.slc ab) (.pair (.fn (.pair (.fn (.pair ab .unit) (.pair .bool .unit)) .unit) .unit) .unit)) (.pair (.slc ab) .unit))),
 (127, (.fn (.pair (.slc ag) (.pair (.int .i64) (.pair (.fn (.pair ag (.pair (.int .i64) .unit)) (.pair (.int .i64) .unit)) .unit))) (.pair (.int .i64) (.pair .bool .unit)))),
 (128, (.fn (.pair (.int .i64) (.pair (.int .i64) .unit)) (.pair (.int .i64) .unit))),
 (129, (.fn (.pair ag (.pair (.int .i64) .unit)) (.pair (.int .i64) .unit))),
 (130, (.fn (.pair (.slc ag) (.pair (.slc ag) .unit)) (.pair .bool .unit))),
 (131, (.fn (.pair (.slc ag) (.pair (.int .i64) .unit)) .unit)),
 (132, (.fn (.pair (.slc ag) (.pair (.fn (.pair ag .unit) (.pair .bool .unit)) .unit)) (.pair (.int .i64) .unit))),
 (133, (.fn (.pair (.slc ag) (.pair (.fn (.pair ag .unit) (.pair .bool .unit)) .unit)) (.pair .bool .unit))),
 (134, (.fn (.pair ag (.pair tId .unit)) (.pair .bool .unit))),
 (136, (.fn (.pair ag (.pair tId .unit)) (.pair ab (.pair .bool (.pair (.int .i64) .unit))))),
 (137, (.fn (.pair (.slc ab) (.pair (.slc (.int .i64)) (.pair (.int .i64) .unit))) (.pair (.slc ab) .unit))),
 (138, (.fn (.pair tId (.pair tId (.pair (.slc ab) .unit))) (.pair ab .unit))),
 (139, (.fn (.pair (.fn (.pair (.fn (.pair ab .unit) (.pair .bool .unit)) .unit) .unit) (.pair (.fn (.pair ab (.pair ab .unit)) (.pair (.int .i64) .unit)) .unit)) (.pair (.slc ab) .unit))),
 (140, (.fn (.pair tId (.pair (.int .i64) .unit)) (.pair (.int .i64) .unit))),
 (141, (.fn (.pair tId .unit) (.pair tId .unit))),
 (142, (.fn (.pair (.int .i64) .unit) (.pair tId .unit))),
 (143, (.fn (.pair (.int .u8) .unit) (.pair .bool .unit))),
 (144, (.fn (.pair (.slc (.int .i64)) (.pair (.int .i64) .unit)) (.pair .bool .unit))),
 (145, (.fn (.pair (.slc ab) (.pair (.fn (.pair ab .unit) (.pair .bool .unit)) .unit)) (.pair (.slc ab) .unit))),
 (146, (.fn (.pair (.slc ab) (.pair (.int .i64) .unit)) (.pair (.fn (.pair (.fn (.pair ab .unit) (.pair .bool .unit)) .unit) .unit) .unit))),
 (147, (.slc (.slc ab))),
 (148, (.fn (.pair (.slc ab) (.pair (.int .i64) .unit)) (.pair (.slc ab) .unit))),
 (149, (.int .u64)),
 (150, (.fn (.pair (.int .i64) .unit) (.pair .bool .unit))),
 (151, (.fn (.pair tId (.pair tId (.pair (.slc ab) .unit))) (.pair ab (.pair (.int .i64) .unit)))),
 (152, (.fn (.pair (.slc ab) (.pair (.fn (.pair ab (.pair ab .unit)) (.pair (.int .i64) .unit)) .unit)) .unit)),
 (153, (.fn (.pair (.slc (.int .i64)) (.pair (.int .i64) .unit)) (.pair (.int .i64) .unit))),
 (154, (.fn (.pair (.slc ag) .unit) .unit)),
 (155, (.fn (.pair (.slc ab) (.pair (.fn (.pair ab .unit) (.pair .bool .unit)) .unit)) (.pair (.fn (.pair (.fn (.pair ab .unit) (.pair .bool .unit)) .unit) .unit) .unit))),
 (156, (.fn (.pair (.slc ab) (.pair (.int .i64) (.pair (.int .i64) (.pair (.int .i64) (.pair (.fn (.pair ab (.pair ab .unit)) (.pair (.int .i64) .unit)) .unit))))) .unit)),
 (157, (.fn (.pair (.int .u64) .unit) (.pair (.int .i64) .unit))),
 (158, (.fn (.pair (.slc ab) (.pair (.int .i64) (.pair (.int .i64) (.pair (.fn (.pair ab (.pair ab .unit)) (.pair (.int .i64) .unit)) .unit)))) .unit)),
 (159, (.int .i64)),
 (161, (.fn (.pair (.slc ab) (.pair (.int .i64) (.pair (.int .i64) (.pair (.fn (.pair ab (.pair ab .unit)) (.pair (.int .i64) .unit)) .unit)))) (.pair (.int .i64) (.pair (.int .i64) .unit)))),
 (162, (.fn (.pair (.slc ab) (.pair (.int .i64) (.pair (.int .i64) (.pair (.fn (.pair ab (.pair ab .unit)) (.pair (.int .i64) .unit)) .unit)))) (.pair .bool .unit))),
 (163, (.fn (.pair (.slc ab) (.pair (.int .i64) (.pair (.int .i64) (.pair (.int .i64) (.pair (.fn (.pair ab (.pair ab .unit)) (.pair (.int .i64) .unit)) .unit))))) (.pair (.int .i64) .unit))),
 (164, (.fn (.pair (.slc ab) (.pair (.int .i64) (.pair (.int .i64) (.pair (.int .i64) (.pair (.fn (.pair ab (.pair ab .unit)) (.pair (.int .i64) .unit)) .unit))))) (.pair (.int .i64) (.pair .bool .unit)))),
 (165, (.fn (.pair (.int .u32) .unit) (.pair (.int .i64) .unit))),
 (166, (.int .u32)),
 (167, (.fn (.pair (.int .u64) .unit) (.pair (.int .i64) .unit))),
 (168, (.int .u64)),
 (169, (.int .u64)),
 (170, (.fn (.pair (.int .i64) .unit) (.pair (.int .u64) .unit))),
 (171, (.fn .unit (.pair (.int .u64) .unit))),
 (178, (.fn .unit (.pair .str .unit))),
 (184, (.fn .unit (.pair (.int .i64) .unit)))]
theorem bf : tQ prog bt = true := by kernel_rfl
theorem aO : prog.follows .mixedOrders = true := by kernel_rfl
abbrev oN : Nat := 4
noncomputable abbrev dm : Func := Try.f4
abbrev dM : Ty := (.pair ah (.pair (.int .i64) (.pair tId (.pair (.int .i64) .unit))))
abbrev nK : Ty := (.pair .bool .unit)
theorem u9 : Try.prog.funcs[oN]? = some dm := Try.func4
abbrev pZ : Nat := 10
noncomputable abbrev jk : Func := Try.f10
abbrev xO : Ty := (.pair ah .unit)
abbrev sm : Ty := (.pair ah .unit)
theorem DJ : Try.prog.funcs[pZ]? = some jk := Try.func10
abbrev fL : Nat := 11
noncomputable abbrev aR : Func := Try.f11
abbrev rS : Ty := (.pair ah (.pair (.int .i64) (.pair tId (.pair (.int .i64) .unit))))
abbrev dt : Ty := (.pair (.slc (.int .i64)) (.pair ab (.pair (.int .i64) .unit)))
theorem zg : Try.prog.funcs[fL]? = some aR := Try.func11
abbrev mK : Nat := 13
noncomputable abbrev qN : Func := Try.f13
abbrev ub : Ty := .unit
abbrev tH : Ty := (.pair .bool .unit)
theorem AI : Try.prog.funcs[mK]? = some qN := Try.func13
abbrev jc : Nat := 15
noncomputable abbrev dF : Func := Try.f15
abbrev pf : Ty := (.pair ah .unit)
abbrev kU : Ty := (.pair (.slc ab) .unit)
theorem wz : Try.prog.funcs[jc]? = some dF := Try.func15
abbrev eK : Nat := 21
noncomputable abbrev je : Func := Try.f21
abbrev oF : Ty := (.pair tId (.pair tId .unit))
abbrev pv : Ty := (.pair (.int .i64) .unit)
theorem wa : Try.prog.funcs[eK]? = some je := Try.func21
abbrev iN : Nat := 22
noncomputable abbrev cF : Func := Try.f22
abbrev tt : Ty := (.pair tId (.pair tId .unit))
abbrev jq : Ty := (.pair tId .unit)
theorem At : Try.prog.funcs[iN]? = some cF := Try.func22
abbrev kD : Nat := 27
noncomputable abbrev a5 : Func := Try.f27
abbrev rf : Ty := (.pair ah .unit)
abbrev mg : Ty := (.pair .bool .unit)
theorem yz : Try.prog.funcs[kD]? = some a5 := Try.func27
abbrev rQ : Nat := 32
noncomputable abbrev rV : Func := Try.f32
theorem xU : Try.prog.funcs[rQ]? = some rV := Try.func32
abbrev eT : Nat := 44
noncomputable abbrev bZ : Func := Try.f44
abbrev j6 : Ty := (.pair (.slc ab) (.pair (.slc ab) .unit))
abbrev gp : Ty := (.pair .bool .unit)
theorem qK : Try.prog.funcs[eT]? = some bZ := Try.func44
abbrev lD : Nat := 45
noncomputable abbrev fl : Func := Try.f45
abbrev sP : Ty := (.pair (.slc ab) .unit)
abbrev nx : Ty := (.pair .bool .unit)
theorem Af : Try.prog.funcs[lD]? = some fl := Try.func45
abbrev eR : Nat := 48
noncomputable abbrev bq : Func := Try.f48
abbrev j5 : Ty := (.pair (.slc (.int .u8)) (.pair (.slc (.int .u8)) .unit))
abbrev eF : Ty := (.pair (.int .i64) .unit)
theorem qy : Try.prog.funcs[eR]? = some bq := Try.func48
abbrev lJ : Nat := 50
noncomputable abbrev fp : Func := Try.f50
abbrev sZ : Ty := (.pair ah (.pair (.int .i64) .unit))
abbrev nD : Ty := (.pair ab (.pair .bool .unit))
theorem Aa : Try.prog.funcs[lJ]? = some fp := Try.func50
abbrev c9 : Nat := 54
noncomputable abbrev po : Func := Try.f54
abbrev sE : Ty := (.pair ag .unit)
abbrev sT : Ty := (.pair .bool .unit)
theorem z6 : Try.prog.funcs[c9]? = some po := Try.func54
abbrev kL : Nat := 55
noncomputable abbrev ny : Func := Try.f55
abbrev rU : Ty := (.pair ag .unit)
theorem yC : Try.prog.funcs[kL]? = some ny := Try.func55
abbrev bO : Nat := 61
noncomputable abbrev ed : Func := Try.f61
abbrev gx : Ty := (.pair (.slc ab) (.pair (.fn (.pair ab .unit) (.pair .bool .unit)) .unit))
abbrev gw : Ty := (.pair .bool .unit)
theorem lS : Try.prog.funcs[bO]? = some ed := Try.func61
abbrev oH : Nat := 65
noncomputable abbrev cp : Func := Try.f65
theorem u5 : Try.prog.funcs[oH]? = some cp := Try.func65
abbrev kB : Nat := 66
noncomputable abbrev dP : Func := Try.f66
abbrev rh : Ty := (.pair ah (.pair (.int .i64) (.pair tId .unit)))
abbrev jI : Ty := (.pair ao (.pair .bool .unit))
theorem yq : Try.prog.funcs[kB]? = some dP := Try.func66
abbrev jF : Nat := 78
noncomputable abbrev mA : Func := Try.f78
abbrev p9 : Ty := (.pair ab (.pair (.ref ab) .unit))
abbrev qf : Ty := (.pair .bool .unit)
theorem wY : Try.prog.funcs[jF]? = some mA := Try.func78
abbrev fW : Nat := 80
noncomputable abbrev fY : Func := Try.f80
abbrev lZ : Ty := (.pair (.int .u8) (.pair (.int .u8) .unit))
abbrev lT : Ty := (.pair (.int .i64) .unit)
theorem s4 : Try.prog.funcs[fW]? = some fY := Try.func80
abbrev jL : Nat := 81
noncomputable abbrev sB : Func := Try.f81
abbrev vP : Ty := (.pair ab .unit)
abbrev vL : Ty := (.pair .bool .unit)
theorem CX : Try.prog.funcs[jL]? = some sB := Try.func81
abbrev qg : Nat := 82
noncomputable abbrev uu : Func := Try.f82
abbrev xx : Ty := (.pair (.int .i64) .unit)
abbrev xS : Ty := (.pair (.fn (.pair ab .unit) (.pair .bool .unit)) .unit)
theorem Et : Try.prog.funcs[qg]? = some uu := Try.func82
abbrev mN : Nat := 84
noncomputable abbrev bm : Func := Try.f84
abbrev tp : Ty := (.pair ag (.pair (.slc (.int .i64)) .unit))
abbrev gN : Ty := (.pair ag (.pair (.int .i64) .unit))
theorem Bq : Try.prog.funcs[mN]? = some bm := Try.func84
abbrev fg : Nat := 88
noncomputable abbrev qT : Func := Try.f88
abbrev tG : Ty := .unit
abbrev tu : Ty := (.pair ab .unit)
theorem AT : Try.prog.funcs[fg]? = some qT := Try.func88
abbrev kK : Nat := 89
noncomputable abbrev e9 : Func := Try.f89
abbrev rN : Ty := (.pair (.slc ab) (.pair (.int .i64) .unit))
abbrev me : Ty := (.pair .bool .unit)
theorem yv : Try.prog.funcs[kK]? = some e9 := Try.func89
abbrev eD : Nat := 90
noncomputable abbrev gk : Func := Try.f90
abbrev jU : Ty := (.pair (.slc ab) .unit)
theorem pz : Try.prog.funcs[eD]? = some gk := Try.func90
abbrev bw : Nat := 91
noncomputable abbrev aD : Func := Try.f91
theorem pA : Try.prog.funcs[bw]? = some aD := Try.func91
abbrev cH : Nat := 92
noncomputable abbrev az : Func := Try.f92
abbrev iA : Ty := (.pair (.slc ab) (.pair (.fn (.pair ab .unit) (.pair .bool .unit)) .unit))
abbrev eZ : Ty := (.pair (.int .i64) .unit)
theorem iw : Try.prog.funcs[cH]? = some az := Try.func92
abbrev cm : Nat := 99
noncomputable abbrev bR : Func := Try.f99
abbrev js : Ty := (.pair (.slc ag) (.pair (.fn (.pair ag .unit) (.pair .bool .unit)) .unit))
abbrev fo : Ty := (.pair (.int .i64) .unit)
theorem o5 : Try.prog.funcs[cm]? = some bR := Try.func99
abbrev i7 : Nat := 100
noncomputable abbrev lG : Func := Try.f100
abbrev pq : Ty := (.pair ag (.pair (.ref (.int .i64)) .unit))
abbrev o0 : Ty := (.pair .bool .unit)
theorem wN : Try.prog.funcs[i7]? = some lG := Try.func100
abbrev dh : Nat := 101
noncomputable abbrev eY : Func := Try.f101
abbrev gX : Ty := (.pair (.slc ag) (.pair (.fn (.pair ag .unit) (.pair .bool .unit)) .unit))
abbrev hH : Ty := (.pair .bool .unit)
theorem mY : Try.prog.funcs[dh]? = some eY := Try.func101
abbrev i5 : Nat := 102
noncomputable abbrev lA : Func := Try.f102
abbrev oz : Ty := (.pair ag (.pair (.ref ab) .unit))
abbrev oT : Ty := (.pair .bool .unit)
theorem wX : Try.prog.funcs[i5]? = some lA := Try.func102
abbrev mU : Nat := 103
noncomputable abbrev qB : Func := Try.f103
abbrev tk : Ty := (.pair ag (.pair tId .unit))
abbrev tn : Ty := (.pair .bool .unit)
theorem A2 : Try.prog.funcs[mU]? = some qB := Try.func103
abbrev mF : Nat := 104
noncomputable abbrev qS : Func := Try.f104
abbrev tY : Ty := (.pair ag (.pair tId .unit))
abbrev o8 : Ty := (.pair ab (.pair .bool (.pair (.int .i64) .unit)))
theorem BK : Try.prog.funcs[mF]? = some qS := Try.func104
abbrev ig : Nat := 113
noncomputable abbrev ij : Func := Try.f113
abbrev nL : Ty := (.pair (.int .u8) .unit)
abbrev nH : Ty := (.pair .bool .unit)
theorem u6 : Try.prog.funcs[ig]? = some ij := Try.func113
abbrev mG : Nat := 114
noncomputable abbrev qA : Func := Try.f114
abbrev tL : Ty := (.pair ab (.pair (.ref (.int .i64)) .unit))
abbrev tJ : Ty := (.pair .bool .unit)
theorem A4 : Try.prog.funcs[mG]? = some qA := Try.func114
abbrev aj : Nat := 115
noncomputable abbrev nC : Func := Try.f115
abbrev rz : Ty := (.pair ab (.pair (.ref ag) (.pair (.ref (.slc (.int .i64))) .unit)))
abbrev rv : Ty := (.pair .bool .unit)
theorem yZ : Try.prog.funcs[aj]? = some nC := Try.func115
abbrev eN : Nat := 116
noncomputable abbrev gD : Func := Try.f116
abbrev kr : Ty := (.pair (.slc (.int .i64)) (.pair (.int .i64) .unit))
abbrev kh : Ty := (.pair .bool .unit)
theorem qQ : Try.prog.funcs[eN]? = some gD := Try.func116
abbrev iE : Nat := 117
noncomputable abbrev al : Func := Try.f117
theorem m5 : Try.prog.funcs[iE]? = some al := Try.func117
abbrev eQ : Nat := 118
noncomputable abbrev gQ : Func := Try.f118
theorem qF : Try.prog.funcs[eQ]? = some gQ := Try.func118
abbrev gc : Nat := 119
noncomputable abbrev lM : Func := Try.f119
abbrev vS : Ty := (.pair tId (.pair tId (.pair tId .unit)))
abbrev qx : Ty := (.pair .bool .unit)
theorem Co : Try.prog.funcs[gc]? = some lM := Try.func119
abbrev cU : Nat := 121
noncomputable abbrev cg : Func := Try.f121
theorem n5 : Try.prog.funcs[cU]? = some cg := Try.func121
abbrev lI : Nat := 122
noncomputable abbrev lQ : Func := Try.f122
theorem ry : Try.prog.funcs[lI]? = some lQ := Try.func122
abbrev ir : Nat := 125
noncomputable abbrev aJ : Func := Try.f125
abbrev nM : Ty := (.pair tId (.pair tId (.pair (.slc ab) .unit)))
abbrev jZ : Ty := (.pair ab (.pair (.int .i64) .unit))
theorem u7 : Try.prog.funcs[ir]? = some aJ := Try.func125
abbrev f9 : Nat := 128
noncomputable abbrev cN : Func := Try.f128
abbrev l8 : Ty := (.pair (.slc (.int .i64)) (.pair (.int .i64) .unit))
abbrev lY : Ty := (.pair (.int .i64) .unit)
theorem s7 : Try.prog.funcs[f9]? = some cN := Try.func128
abbrev fS : Nat := 131
noncomputable abbrev jo : Func := Try.f131
abbrev lU : Ty := (.pair ab (.pair (.ref tId) (.pair (.ref tId) .unit)))
abbrev lV : Ty := (.pair .bool .unit)
theorem ta : Try.prog.funcs[fS]? = some jo := Try.func131
abbrev j9 : Nat := 132
noncomputable abbrev j4 : Func := Try.f132
theorem pB : Try.prog.funcs[j9]? = some j4 := Try.func132
abbrev jj : Nat := 135
noncomputable abbrev bz : Func := Try.f135
theorem nQ : Try.prog.funcs[jj]? = some bz := Try.func135
end
end Go.Proofs.Ytimdnodkabnbfaa
namespace Go.Proofs.Ytimdnodkabnbfaa
open Go Go.RowKit
theorem bK {σ : Type} (n : Nat) (Inv : Nat → σ → Prop) (Q : Nat → σ → Prop) (step : ∀ i s, i < n → Inv i s → (∀ s', Inv (i + 1) s' → Q (i + 1) s') → Q i s) (last : ∀ s, Inv n s → Q n s) : ∀ (i : Nat) (s : σ), i ≤ n → Inv i s → Q i s := by
 intro i s hi
 obtain ⟨k, hk⟩ : ∃ k, k + i = n := ⟨n - i, by omega⟩
 induction k generalizing i s with
 | zero =>
  have e : i = n := by omega
  subst e
  exact last s
 | succ k ih =>
  intro hI
  exact step i s (by omega) hI fun s' h' => ih (i + 1) s' (by omega) (by omega) h'
theorem cD {e : Ty} (t : List (den e)) {i : Nat} : (decide ((i : Int) < lnx e t)) = decide (i < t.length) := by
 rw [Bool.eq_iff_iff, decide_eq_true_eq, decide_eq_true_eq]
 exact ⟨fun h => by have h : (i : Int) < (t.length : Int) := h; omega, fun h => by show (i : Int) < (t.length : Int); omega⟩
theorem dx {n : Int} (h : -1000000000000000 ≤ n ∧ n ≤ 1000000000000000) : IntKind.wrap .i64 n = n := Fd (by omega) (by omega)
theorem zB {e : Ty} (xs : List (den e)) {n : Nat} (h : n = xs.length) : mJ e xs 0 n = xs := by
 unfold mJ; rw [h, List.drop_zero, List.take_length]
theorem Ek {e : Ty} (xs : List (den e)) {n : Nat} : mJ e xs 0 n = xs.take n := by
 unfold mJ; rw [List.drop_zero]
theorem wK {α : Type} {zs ys : List α} {i : Nat} (h : i + ys.length ≤ zs.length) : (over zs i ys).length = zs.length := by
 unfold over; simp only [List.length_append, List.length_take, List.length_drop]; omega
theorem E2 {α : Type} {zs ys : List α} {i : Nat} (h : i ≤ zs.length) : (over zs i ys).take (i + ys.length) = zs.take i ++ ys := by
 unfold over
 rw [List.take_append_of_le_length (by rw [List.length_append, List.length_take, Nat.min_eq_left h]; exact Nat.le_refl _), List.take_of_length_le]
 rw [List.length_append, List.length_take, Nat.min_eq_left h]; exact Nat.le_refl _
theorem Ce {α : Type} {zs ys : List α} {i n : Nat} (h : n ≤ i) (h' : i ≤ zs.length) : (over zs i ys).take n = zs.take n := by
 unfold over
 rw [List.append_assoc, List.take_append_of_le_length (by rw [List.length_take, Nat.min_eq_left h']; exact h), List.take_take, Nat.min_eq_left h]
theorem bC {P : af → Prop} {A : Type} {e : A} {f : A → af} (h : P (f e)) : ∀ q, q = e → P (f q) := fun q hq => by cases hq; exact h
theorem Be {n : Int} (h : 0 ≤ n ∧ n ≤ 255) : IntKind.wrap .u8 n = n := by
 unfold IntKind.wrap
 simp only [IntKind.signed, IntKind.bits]
 simp
 omega
end Go.Proofs.Ytimdnodkabnbfaa
namespace Go.Proofs.Ytimdnodkabnbfaa
open Go Go.RowKit
end Go.Proofs.Ytimdnodkabnbfaa
namespace Go.Proofs.Ytimdnodkabnbfaa
open Go Go.RowKit
noncomputable abbrev kP : aC := { T := bt, F := [], n := (ij).ntmps }
noncomputable abbrev pc : Ann := { }
theorem wh : cf prog kP := zd ((aV bf aO))
theorem vc : dA kP = true := by kernel_rfl
noncomputable def oR (x : den (Ty.int IntKind.u8)) : aY := aY.ret (K.val (Ty.pair Ty.bool Ty.unit) (!decide (x = x), PUnit.unit))
theorem s8 (x : den (Ty.int IntKind.u8)) : fa kP pc nH ij 1000 (aH ij) (Env.of (aM nL (x, ()) 0) []) = oR x := by kernel_rfl
end Go.Proofs.Ytimdnodkabnbfaa
namespace Go.Proofs.Ytimdnodkabnbfaa
open Go Go.RowKit
noncomputable abbrev kR : bu := ⟨nL, nH, fun _ => (false, ()), fun _ => True, true⟩
theorem wT : aE prog [] ig kR :=
 yO wh vc u6 (by kernel_rfl) (fun _ _ => trivial) (A := pc) (T := fun x => oR x.1) (fun x => s8 x.1) fun O w0 x _ _ => by
  refine ⟨_, rfl, ?_⟩
  simp
theorem uR (x y : den tId) : eqb tId x y = decide (x = y) := by
 have := lg (t := tId) rfl x y
 cases h : eqb tId x y
 ·have : ¬ x = y := fun e => by rw [this.2 e] at h; cases h
  simp [this]
 ·simp [this.1 h]
end Go.Proofs.Ytimdnodkabnbfaa
namespace Go.Proofs.Ytimdnodkabnbfaa
open Go Go.RowKit
noncomputable abbrev jn : aC := { T := bt, F := [(ig, kR)], n := (fY).ntmps }
noncomputable abbrev ni : Ann := { }
theorem tX (h_cmp_isNaN_byte : aE prog [] ig kR) : cf prog jn := zd (aI (aV bf aO) h_cmp_isNaN_byte)
theorem s6 : dA jn = true := by kernel_rfl
noncomputable def nf (x : den (Ty.int IntKind.u8)) (y : den (Ty.int IntKind.u8)) : aY := aY.req True (aY.req True (aY.ite false (aY.ite false (aY.ret (K.val (Ty.pair ae Ty.unit) (0, PUnit.unit))) (aY.ret (K.val (Ty.pair ae Ty.unit) (-1, PUnit.unit)))) (aY.ite false (aY.ret (K.val (Ty.pair ae Ty.unit) (1, PUnit.unit))) (aY.ite (decide (x < y)) (aY.ret (K.val (Ty.pair ae Ty.unit) (-1, PUnit.unit))) (aY.ite (decide (y < x)) (aY.ret (K.val (Ty.pair ae Ty.unit) (1, PUnit.unit))) (aY.ret (K.val (Ty.pair ae Ty.unit) (0, PUnit.unit))))))))
theorem rY (x : den (Ty.int IntKind.u8)) (y : den (Ty.int IntKind.u8)) : fa jn ni lT fY 1000 (aH fY) (Env.of (aM lZ (x, y, ()) 0) []) = nf x y := by kernel_rfl
noncomputable abbrev iP : aC := { T := bt, F := [], n := (cF).ntmps }
noncomputable abbrev qr : Ann := { loops := [(4, { keep := [2, 3, 4, 5, 6, 7] })] }
theorem qO : cf prog iP := zd ((aV bf aO))
theorem px : dA iP = true := by kernel_rfl
noncomputable def vJ (a : den tId) (b : den tId) : aY := aY.loop (lp cF 4) [(2, K.ptr 2 tId []), (3, K.ptr 3 tId []), (4, K.ptr 4 tId []), (5, K.ptr 5 tId []), (6, K.val ae 0), (7, K.val ae 31)] [(2, Bx.cell tId a), (3, Bx.cell tId b), (4, Bx.cell tId (zero tId)), (5, Bx.cell tId (zero tId))]
theorem yJ (a : den tId) (b : den tId) : fa iP qr jq cF 1000 (aH cF) (Env.of (aM tt (a, b, ()) 0) []) = vJ a b := by kernel_rfl
noncomputable def nw (v6 : den ae) (v7 : den ae) (b2 : den tId) (b3 : den tId) (b4 : den tId) (b5 : den tId) : Env := Env.of [(2, K.ptr 2 tId []), (3, K.ptr 3 tId []), (4, K.ptr 4 tId []), (5, K.ptr 5 tId []), (6, K.val ae v6), (7, K.val ae v7)] [(2, Bx.cell tId b2), (3, Bx.cell tId b3), (4, Bx.cell tId b4), (5, Bx.cell tId b5)]
noncomputable def yx (v6 : den ae) (v7 : den ae) (b2 : den tId) (b3 : den tId) (b4 : den tId) (b5 : den tId) : aY := aY.ite (decide (0 ≤ v7)) (aY.req (inB v7 ↑32) (aY.req (inB v7 ↑32) (aY.ite (decide (IntKind.wrap IntKind.i64 (IntKind.wrap IntKind.i64 (IntKind.wrap IntKind.i64 (el (Ty.int IntKind.u8) b3 v7) - IntKind.wrap IntKind.i64 (el (Ty.int IntKind.u8) b2 v7)) - v6) < 0)) (aY.req (inB v7 ↑32) (aY.loop (lp cF 4) [(2, K.ptr 2 tId []), (3, K.ptr 3 tId []), (4, K.ptr 4 tId []), (5, K.ptr 5 tId []), (6, K.val ae 1), (7, K.val ae (IntKind.wrap IntKind.i64 (v7 - 1)))] [(2, Bx.cell tId b2), (3, Bx.cell tId b3), (4, Bx.cell tId b4), (5, Bx.cell tId (uF (Ty.int IntKind.u8) b5 v7 (IntKind.wrap IntKind.u8 (IntKind.wrap IntKind.i64 (IntKind.wrap IntKind.i64 (IntKind.wrap IntKind.i64 (IntKind.wrap IntKind.i64 (el (Ty.int IntKind.u8) b3 v7) - IntKind.wrap IntKind.i64 (el (Ty.int IntKind.u8) b2 v7)) - v6) + 256)))))])) (aY.req (inB v7 ↑32) (aY.loop (lp cF 4) [(2, K.ptr 2 tId []), (3, K.ptr 3 tId []), (4, K.ptr 4 tId []), (5, K.ptr 5 tId []), (6, K.val ae 0), (7, K.val ae (IntKind.wrap IntKind.i64 (v7 - 1)))] [(2, Bx.cell tId b2), (3, Bx.cell tId b3), (4, Bx.cell tId b4), (5, Bx.cell tId (uF (Ty.int IntKind.u8) b5 v7 (IntKind.wrap IntKind.u8 (IntKind.wrap IntKind.i64 (IntKind.wrap IntKind.i64 (IntKind.wrap IntKind.i64 (el (Ty.int IntKind.u8) b3 v7) - IntKind.wrap IntKind.i64 (el (Ty.int IntKind.u8) b2 v7)) - v6)))))]))))) (aY.ret (K.val (Ty.pair tId Ty.unit) (b5, PUnit.unit)))
theorem nI (v6 : den ae) (v7 : den ae) (b2 : den tId) (b3 : den tId) (b4 : den tId) (b5 : den tId) : fa iP qr jq cF 1000 (lp cF 4) (nw v6 v7 b2 b3 b4 b5) = yx v6 v7 b2 b3 b4 b5 := by kernel_rfl
end Go.Proofs.Ytimdnodkabnbfaa
namespace Go.Proofs.Ytimdnodkabnbfaa
open Go Go.RowKit
def ik (x y : Int) : Int := if x < y then -1 else if y < x then 1 else 0
noncomputable abbrev jl : bu := ⟨lZ, lT, fun x => (ik x.1 x.2.1, ()), fun _ => True, true⟩
theorem jD : aE prog [] fW jl :=
 yO (tX wT) s6 s4 (by kernel_rfl) (fun _ _ => trivial) (A := ni) (T := fun x => nf x.1 x.2.1) (fun x => rY x.1 x.2.1) fun O w0 x _ _ => by
  refine ⟨trivial, trivial, fun h => (by cases h), fun _ => ⟨fun h => (by cases h), fun _ => ⟨fun h => ⟨_, rfl, ?_⟩, fun h => ⟨fun h' => ⟨_, rfl, ?_⟩, fun h' => ⟨_, rfl, ?_⟩⟩⟩⟩⟩
  ·simp [ik, of_decide_eq_true h]
  ·simp [ik, of_decide_eq_false h, of_decide_eq_true h']
  ·simp [ik, of_decide_eq_false h, of_decide_eq_false h']
end Go.Proofs.Ytimdnodkabnbfaa
namespace Go.Proofs.Ytimdnodkabnbfaa
open Go
def byt (l : List Int) : Prop := ∀ x ∈ l, 0 ≤ x ∧ x ≤ 255
theorem mz {x : Int} {l : List Int} : byt (x :: l) ↔ (0 ≤ x ∧ x ≤ 255) ∧ byt l := by
 simp [byt]
theorem m9 {x : den tId} (h : okT tId x) : x.length = 32 ∧ byt x :=
 ⟨h.1, fun y hy => by
  have : InK .u8 y := h.2 y hy
  have h1 : IntKind.min .u8 = 0 := by decide
  have h2 : IntKind.max .u8 = 255 := by decide
  unfold InK at this
  rw [h1, h2] at this
  exact this⟩
def vB : List Int → Int
 | [] => 0
 | x :: l => x * 256 ^ l.length + vB l
theorem sn (n : Nat) : (0 : Int) < 256 ^ n := Int.pow_pos (by decide)
theorem mq : ∀ {l : List Int}, byt l → 0 ≤ vB l ∧ vB l < 256 ^ l.length
 | [], _ => by simp [vB]
 | x :: l, h => by
  obtain ⟨hx, hl⟩ := mz.1 h
  obtain ⟨h1, h2⟩ := mq hl
  have hp := sn l.length
  have h3 : 0 ≤ x * 256 ^ l.length := Int.mul_nonneg hx.1 (Int.le_of_lt hp)
  have h4 : x * 256 ^ l.length ≤ 255 * 256 ^ l.length := Int.mul_le_mul_of_nonneg_right hx.2 (Int.le_of_lt hp)
  rw [List.length_cons, Int.pow_succ]
  simp only [vB]
  omega
def toB : Nat → Int → List Int
 | 0, _ => []
 | n + 1, v => v / 256 ^ n :: toB n (v % 256 ^ n)
theorem sh : ∀ (n : Nat) (v : Int), (toB n v).length = n
 | 0, _ => rfl
 | n + 1, v => by simp [toB, sh n]
theorem xX : ∀ {l : List Int}, byt l → toB l.length (vB l) = l
 | [], _ => rfl
 | x :: l, h => by
  obtain ⟨hx, hl⟩ := mz.1 h
  obtain ⟨h1, h2⟩ := mq hl
  have hp := sn l.length
  have e1 : (x * 256 ^ l.length + vB l) / 256 ^ l.length = x := by
   rw [Int.add_comm, Int.add_mul_ediv_right _ _ (by omega), Int.ediv_eq_zero_of_lt h1 h2]; omega
  have e2 : (x * 256 ^ l.length + vB l) % 256 ^ l.length = vB l := by
   rw [Int.add_comm, Int.add_mul_emod_self_right, Int.emod_eq_of_lt h1 h2]
  show (x * 256 ^ l.length + vB l) / 256 ^ l.length :: toB l.length ((x * 256 ^ l.length + vB l) % 256 ^ l.length) = x :: l
  rw [e1, e2, xX hl]
theorem wU : ∀ (n : Nat) {v : Int}, 0 ≤ v → v < 256 ^ n → byt (toB n v) ∧ vB (toB n v) = v
 | 0, v, h0, h1 => ⟨by simp [toB, byt], by simp at h1; simp [toB, vB]; omega⟩
 | n + 1, v, h0, h1 => by
  have hp := sn n
  obtain ⟨i1, i2⟩ := wU n (Int.emod_nonneg v (by omega)) (Int.emod_lt_of_pos v hp)
  rw [Int.pow_succ] at h1
  have hd : v / 256 ^ n ≤ 255 := by
   have : v / 256 ^ n < 256 := Int.ediv_lt_of_lt_mul hp (by rw [Int.mul_comm]; exact h1)
   omega
  refine ⟨mz.2 ⟨⟨Int.ediv_nonneg h0 (Int.le_of_lt hp), hd⟩, i1⟩, ?_⟩
  show v / 256 ^ n * 256 ^ (toB n _).length + vB (toB n _) = v
  rw [i2, sh]
  have := Int.mul_ediv_add_emod v (256 ^ n)
  rw [Int.mul_comm]
  exact this
theorem BJ {a b : List Int} (hl : a.length = b.length) (ha : byt a) (hb : byt b) (h : vB a = vB b) : a = b := by
 rw [← xX ha, ← xX hb, h, hl]
def o3 : List Int → List Int → Int
 | [], [] => 0
 | [], _ :: _ => -1
 | _ :: _, [] => 1
 | x :: xs, y :: ys => if ik x y = 0 then o3 xs ys else ik x y
theorem zr {x y : Int} : ik x y = 0 ↔ x = y := by
 unfold ik; split
 ·omega
 ·split <;> omega
theorem Dc : ∀ {a b : List Int}, a.length = b.length → byt a → byt b → o3 a b = ik (vB a) (vB b)
 | [], [], _, _, _ => by simp [o3, vB, ik]
 | [], _ :: _, h, _, _ => by simp at h
 | _ :: _, [], h, _, _ => by simp at h
 | x :: xs, y :: ys, h, ha, hb => by
  obtain ⟨hx, ha⟩ := mz.1 ha
  obtain ⟨hy, hb⟩ := mz.1 hb
  have hl : xs.length = ys.length := by simpa using h
  have ih := Dc hl ha hb
  obtain ⟨a1, a2⟩ := mq ha
  obtain ⟨b1, b2⟩ := mq hb
  rw [hl] at a2
  simp only [o3, vB]
  rw [hl]
  have hp := sn ys.length
  generalize (256 : Int) ^ ys.length = p at *
  split
  ·rename_i e
   rw [ih, zr.1 e]
   unfold ik
   split
   ·rw [if_pos (by omega)]
   ·split
    ·rw [if_neg (by omega), if_pos (by omega)]
    ·rw [if_neg (by omega), if_neg (by omega)]
  ·rename_i e
   have e : ¬ x = y := fun h => e (zr.2 h)
   rcases Int.lt_or_gt_of_ne e with hlt | hgt
   ·have : (x + 1) * p ≤ y * p := Int.mul_le_mul_of_nonneg_right hlt (Int.le_of_lt hp)
    rw [Int.add_mul, Int.one_mul] at this
    unfold ik
    rw [if_pos hlt, if_pos (by omega)]
   ·have : (y + 1) * p ≤ x * p := Int.mul_le_mul_of_nonneg_right hgt (Int.le_of_lt hp)
    rw [Int.add_mul, Int.one_mul] at this
    unfold ik
    rw [if_neg (by omega), if_pos hgt, if_neg (by omega), if_pos (by omega)]
def sx : Int := 256 ^ 32
def cZ (a b : List Int) : List Int := toB 32 ((vB b - vB a) % sx)
theorem Da {l : List Int} {i : Nat} (h : i < l.length) : vB (l.drop i) = l[i] * 256 ^ (l.length - (i + 1)) + vB (l.drop (i + 1)) := by
 rw [List.drop_eq_getElem_cons h]
 simp [vB]
theorem vh {l : List Int} {i : Nat} (h : i < l.length) (y : Int) : (l.set i y).drop i = y :: l.drop (i + 1) := by
 rw [List.drop_eq_getElem_cons (by simpa using h), List.getElem_set_self, List.drop_set_of_lt (by omega)]
end Go.Proofs.Ytimdnodkabnbfaa
namespace Go.Proofs.Ytimdnodkabnbfaa
open Go Go.RowKit
noncomputable abbrev kf : bu := ⟨tt, jq, fun x => (cZ x.1 x.2.1, ()), fun _ => True, true⟩
theorem tw (O : Nat → Prop) (w0 : World) (a b z : List Int) (ha : a.length = 32) (hb : b.length = 32) (ba : byt a) (bb : byt b) : ∀ (i : Nat) (less : Int) (out : List Int), i ≤ 32 → out.length = 32 → (less = 0 ∨ less = 1) → byt (out.drop i) →
    vB (out.drop i) = vB (b.drop i) - vB (a.drop i) + less * 256 ^ (32 - i) →
    fJ prog iP O w0 cF (cu prog O w0 jq fun y => y = (cZ a b, ())) (lp cF 4) (nw less ((i : Int) - 1) a b z out)
  | 0, less, out, _, ho, hless, hby, hv => xR qO px (nI less _ a b z out) ⟨fun h => by
      have h : (0 : Int) ≤ ((0 : Nat) : Int) - 1 := of_decide_eq_true h
      omega, fun _ => ⟨_, rfl, by
        simp only [List.drop_zero] at hby hv
        have r := mq hby
        rw [ho] at r
        have e : (vB b - vB a) % sx = vB out := by
          have : vB b - vB a = vB out + (-less) * sx := by
            unfold sx
            rw [hv, Int.neg_mul]; omega
          rw [this, Int.add_mul_emod_self_right]
          exact Int.emod_eq_of_lt r.1 r.2
        have : cZ a b = out := by
          unfold cZ
          rw [e, ← ho, xX hby]
        rw [this]⟩⟩
  | i + 1, less, out, hi, ho, hless, hby, hv => xR qO px (nI less _ a b z out) ⟨fun _ => by
      have ei : (((i + 1 : Nat) : Int) - 1) = ((i : Nat) : Int) := by omega
      rw [ei]
      have h1 : i < a.length := by omega
      have h2 : i < b.length := by omega
      have h3 : i < out.length := by omega
      rw [cL (e := .int .u8) h1, cL (e := .int .u8) h2]
      obtain ⟨a0, a1⟩ := ba _ (List.getElem_mem h1)
      obtain ⟨b0, b1⟩ := bb _ (List.getElem_mem h2)
      rw [dx (n := a[i]) (by omega), dx (n := b[i]) (by omega), dx (n := b[i] - a[i]) (by omega), dx (n := b[i] - a[i] - less) (by omega)]
      have hs : ∀ y : Int, uF (.int .u8) out (i : Nat) y = out.set i y := fun y => rfl
      have hp : (256 : Int) ^ (32 - i) = 256 * 256 ^ (31 - i) := by
        rw [show 32 - i = (31 - i) + 1 by omega, Int.pow_succ, Int.mul_comm]
      have hq : 32 - (i + 1) = 31 - i := by omega
      rw [hq] at hv
      have va := Da h1
      have vb := Da h2
      rw [ha, hq] at va
      rw [hb, hq] at vb
      have step : ∀ y less' : Int, 0 ≤ y ∧ y ≤ 255 → (less' = 0 ∨ less' = 1) → y = b[i] - a[i] - less + 256 * less' →
          fJ prog iP O w0 cF (cu prog O w0 jq fun y => y = (cZ a b, ())) (lp cF 4) (nw less' ((i : Int) - 1) a b z (out.set i y)) := by
        intro y less' hy hl' e
        refine tw O w0 a b z ha hb ba bb i less' (out.set i y) (by omega) (by simpa using ho) hl' ?_ ?_
        · rw [vh h3]; exact mz.2 ⟨hy, hby⟩
        · rw [vh h3, va, vb, hp]
          simp only [vB, List.length_drop, ho, hq]
          rw [hv, e]
          generalize (256 : Int) ^ (31 - i) = p
          simp only [Int.sub_mul, Int.add_mul]
          have : 256 * less' * p = less' * (256 * p) := by rw [Int.mul_comm 256 less', Int.mul_assoc]
          omega
      refine ⟨be (n := 32) (by omega), be (n := 32) (by omega), fun h => ⟨be (n := 32) (by omega), ?_⟩, fun h => ⟨be (n := 32) (by omega), ?_⟩⟩
      · have h : b[i] - a[i] - less < 0 := of_decide_eq_true h
        rw [hs, dx (n := b[i] - a[i] - less + 256) (by omega), Be (by omega), dx (by omega)]
        exact step _ 1 (by omega) (.inr rfl) (by omega)
      · have h : ¬ b[i] - a[i] - less < 0 := of_decide_eq_false h
        rw [hs, Be (by omega), dx (by omega)]
        exact step _ 0 (by omega) (.inl rfl) (by omega), fun h => by
      have h : ¬ (0 : Int) ≤ ((i + 1 : Nat) : Int) - 1 := of_decide_eq_false h
      omega⟩
theorem vz : aE prog [] iN kf :=
 yO qO px At (by kernel_rfl) (fun _ _ => trivial) (A := qr) (T := fun x => vJ x.1 x.2.1) (fun x => yJ x.1 x.2.1) fun O w0 x hk _ => by
  obtain ⟨la, ba⟩ := m9 hk.1
  obtain ⟨lb, bb⟩ := m9 hk.2.1
  have hz : (zero tId : List Int).length = 32 := by simp [zero]
  exact tw O w0 x.1 x.2.1 (zero tId) la lb ba bb 32 0 (zero tId) (Nat.le_refl _) hz (.inl rfl) (by rw [List.drop_eq_nil_of_le (by omega)]; simp [byt])
   (by rw [List.drop_eq_nil_of_le (by omega), List.drop_eq_nil_of_le (by omega), List.drop_eq_nil_of_le (by omega)]; simp [vB])
end Go.Proofs.Ytimdnodkabnbfaa
namespace Go.Proofs.Ytimdnodkabnbfaa
open Go Go.RowKit
end Go.Proofs.Ytimdnodkabnbfaa
namespace Go.Proofs.Ytimdnodkabnbfaa
open Go Go.RowKit
noncomputable abbrev dr : aC := { T := bt, F := [(fW, jl)], n := (bq).ntmps }
noncomputable abbrev gV : Ann := { loops := [(2, { keep := [0, 1, 9, 10, 11] })] }
theorem gE (h_cmp_Compare_byte : aE prog [] fW jl) : cf prog dr := zd (aI (aV bf aO) h_cmp_Compare_byte)
theorem gq : dA dr = true := by kernel_rfl
noncomputable def k7 (s1 : den (Ty.slc (Ty.int IntKind.u8))) (s2 : den (Ty.slc (Ty.int IntKind.u8))) : aY := aY.loop (lp bq 2) [(0, K.val (Ty.slc (Ty.int IntKind.u8)) s1), (1, K.val (Ty.slc (Ty.int IntKind.u8)) s2), (9, K.val (Ty.slc (Ty.int IntKind.u8)) s1), (10, K.val ae (lnx (Ty.int IntKind.u8) s1)), (11, K.val ae 0)] []
theorem pu (s1 : den (Ty.slc (Ty.int IntKind.u8))) (s2 : den (Ty.slc (Ty.int IntKind.u8))) : fa dr gV eF bq 1000 (aH bq) (Env.of (aM j5 (s1, s2, ()) 0) []) = k7 s1 s2 := by kernel_rfl
noncomputable def jR (v0 : den (Ty.slc (Ty.int IntKind.u8))) (v1 : den (Ty.slc (Ty.int IntKind.u8))) (v9 : den (Ty.slc (Ty.int IntKind.u8))) (v10 : den ae) (v11 : den ae) : Env := Env.of [(0, K.val (Ty.slc (Ty.int IntKind.u8)) v0), (1, K.val (Ty.slc (Ty.int IntKind.u8)) v1), (9, K.val (Ty.slc (Ty.int IntKind.u8)) v9), (10, K.val ae v10), (11, K.val ae v11)] []
noncomputable def oD (v0 : den (Ty.slc (Ty.int IntKind.u8))) (v1 : den (Ty.slc (Ty.int IntKind.u8))) (v9 : den (Ty.slc (Ty.int IntKind.u8))) (v10 : den ae) (v11 : den ae) : aY := aY.ite (decide (v11 < v10)) (aY.req (inB v11 (lnx (Ty.int IntKind.u8) v9)) (aY.ite (decide (lnx (Ty.int IntKind.u8) v1 ≤ v11)) (aY.ret (K.val (Ty.pair ae Ty.unit) (1, PUnit.unit))) (aY.req (inB v11 (lnx (Ty.int IntKind.u8) v1)) (aY.req True (aY.ite (!decide (ik (el (Ty.int IntKind.u8) v9 v11) (el (Ty.int IntKind.u8) v1 v11) = 0)) (aY.ret (K.val (Ty.pair ae Ty.unit) (ik (el (Ty.int IntKind.u8) v9 v11) (el (Ty.int IntKind.u8) v1 v11), PUnit.unit))) (aY.loop (lp bq 2) [(0, K.val (Ty.slc (Ty.int IntKind.u8)) v0), (1, K.val (Ty.slc (Ty.int IntKind.u8)) v1), (9, K.val (Ty.slc (Ty.int IntKind.u8)) v9), (10, K.val ae v10), (11, K.val ae (IntKind.wrap IntKind.i64 (v11 + 1)))] [])))))) (aY.ite (decide (lnx (Ty.int IntKind.u8) v0 < lnx (Ty.int IntKind.u8) v1)) (aY.ret (K.val (Ty.pair ae Ty.unit) (-1, PUnit.unit))) (aY.ret (K.val (Ty.pair ae Ty.unit) (0, PUnit.unit))))
theorem g6 (v0 : den (Ty.slc (Ty.int IntKind.u8))) (v1 : den (Ty.slc (Ty.int IntKind.u8))) (v9 : den (Ty.slc (Ty.int IntKind.u8))) (v10 : den ae) (v11 : den ae) : fa dr gV eF bq 1000 (lp bq 2) (jR v0 v1 v9 v10 v11) = oD v0 v1 v9 v10 v11 := by kernel_rfl
end Go.Proofs.Ytimdnodkabnbfaa
namespace Go.Proofs.Ytimdnodkabnbfaa
open Go Go.RowKit
noncomputable abbrev gR : bu := ⟨j5, eF, fun x => (o3 x.1 x.2.1, ()), fun _ => True, true⟩
theorem zf (a : List Int) : o3 a [] = if a = [] then 0 else 1 := by
 cases a <;> rfl
def qG (O : Nat → Prop) (w0 : World) (a b : List Int) (hm : a.length ≤ maxLen) :=
 PLift.up <| Eq (P := prog) (D := dr) (fn := bq) (rs := eF) (O := O) (w0 := w0) (todo := lp bq 2) (σ := Unit) a.length
  (fun i _ => jR a b a (lnx (.int .u8) a) i) (fun i _ => i ≤ b.length) (fun i _ y => y = (o3 (a.drop i) (b.drop i), ()))
  (fun i _ hi hb ih => xR (gE jD) gq (g6 a b a _ _) ⟨fun _ => by
   refine ⟨be hi, fun h => ⟨_, rfl, ?_⟩, fun h => ?_⟩
   ·have h : (b.length : Int) ≤ (i : Int) := of_decide_eq_true h
    rw [List.drop_eq_nil_of_le (show b.length ≤ i by omega), zf, if_neg (fun e => by have := congrArg List.length e; simp at this; omega)]
   ·have h : ¬ (b.length : Int) ≤ (i : Int) := of_decide_eq_false h
    have hi' : i < b.length := by omega
    rw [cL (e := .int .u8) hi, cL (e := .int .u8) hi', cI hi hm]
    refine ⟨be hi', trivial, fun h => ⟨_, rfl, ?_⟩, fun h => fJ.mono (fun y hy => ?_) (ih () (by omega))⟩
    ·have h : ¬ ik a[i] b[i] = 0 := by simpa using h
     rw [List.drop_eq_getElem_cons hi, List.drop_eq_getElem_cons hi']
     simp only [o3, if_neg h]
    ·have h : ik a[i] b[i] = 0 := by simpa using h
     rw [hy, List.drop_eq_getElem_cons hi, List.drop_eq_getElem_cons hi']
     simp only [o3, if_pos h], fun h => by
   have h : ¬ (i : Int) < (a.length : Int) := of_decide_eq_false h
   omega⟩)
  (fun s hb => xR (gE jD) gq (g6 a b a _ _) ⟨fun h => by
   have h : (a.length : Int) < (a.length : Int) := of_decide_eq_true h
   omega, fun _ => ⟨fun h => ⟨_, rfl, by
    have h : (a.length : Int) < (b.length : Int) := of_decide_eq_true h
    rw [List.drop_eq_nil_of_le (Nat.le_refl _), List.drop_eq_getElem_cons (show a.length < b.length by omega)]
    rfl⟩, fun h => ⟨_, rfl, by
    have h : ¬ (a.length : Int) < (b.length : Int) := of_decide_eq_false h
    rw [List.drop_eq_nil_of_le (Nat.le_refl _), List.drop_eq_nil_of_le (show b.length ≤ a.length by omega)]
    rfl⟩⟩⟩)
theorem rp : aE prog [] eR gR :=
 yO (gE jD) gq qy (by kernel_rfl) (fun _ _ => trivial) (A := gV) (T := fun x => k7 x.1 x.2.1) (fun x => pu x.1 x.2.1) fun O w0 x hk _ =>
  (qG O w0 x.1 x.2.1 hk.1.1).down 0 () (Nat.zero_le _) (Nat.zero_le _)
end Go.Proofs.Ytimdnodkabnbfaa
namespace Go.Proofs.Ytimdnodkabnbfaa
open Go Go.RowKit
def lK (a b : List Int) : Int := ik (vB a) (vB b)
end Go.Proofs.Ytimdnodkabnbfaa
namespace Go.Proofs.Ytimdnodkabnbfaa
open Go Go.RowKit
noncomputable abbrev lz : aC := { T := bt, F := [(eR, gR)], n := (je).ntmps }
noncomputable abbrev qd : Ann := { frz := [(1, [2, 3])] }
theorem xn (h_slices_Compare_byte : aE prog [] eR gR) : cf prog lz := zd (aI (aV bf aO) h_slices_Compare_byte)
theorem wB : dA lz = true := by kernel_rfl
noncomputable def qb (a : den tId) (b : den tId) : aY := aY.req (br 0 ↑32 ↑32) (aY.req (br 0 ↑32 ↑32) (aY.req True (aY.ret (K.val (Ty.pair ae Ty.unit) (o3 (eP (Ty.int IntKind.u8) a 0 ↑32) (eP (Ty.int IntKind.u8) b 0 ↑32), PUnit.unit)))))
theorem uk (a : den tId) (b : den tId) : fa lz qd pv je 1000 (aH je) (Env.of (aM oF (a, b, ()) 0) []) = qb a b := by kernel_rfl
end Go.Proofs.Ytimdnodkabnbfaa
namespace Go.Proofs.Ytimdnodkabnbfaa
open Go Go.RowKit
noncomputable abbrev f6 : bu := ⟨oF, pv, fun x => (lK x.1 x.2.1, ()), fun _ => True, true⟩
theorem qk : aE prog [] eK f6 :=
 yO (xn rp) wB wa (by kernel_rfl) (fun _ _ => trivial) (A := qd) (T := fun x => qb x.1 x.2.1) (fun x => uk x.1 x.2.1) fun O w0 x hk _ => by
  obtain ⟨la, ba⟩ := m9 hk.1
  obtain ⟨lb, bb⟩ := m9 hk.2.1
  have hc : ∀ l : List Int, l.length = 32 → eP (.int .u8) l 0 32 = l := fun l hl => by
   show (l.take 32).drop 0 = l
   rw [List.drop_zero, ← hl, List.take_length]
  refine ⟨⟨Int.le_refl _, by decide, Int.le_refl _⟩, ⟨Int.le_refl _, by decide, Int.le_refl _⟩, trivial, _, rfl, ?_⟩
  have e := Dc (a := x.1) (b := x.2.1) (by rw [la, lb]) ba bb
  show (o3 (eP (.int .u8) x.1 0 32) (eP (.int .u8) x.2.1 0 32), PUnit.unit) = (lK x.1 x.2.1, ())
  rw [hc x.1 la, hc x.2.1 lb, e]
  rfl
def nu (x a b : List Int) : Bool :=
 if a = b then true else if vB a < vB b then decide (vB a < vB x) && decide (vB x ≤ vB b) else decide (vB a < vB x) || decide (vB x ≤ vB b)
theorem HR {a b : List Int} : lK a b ≤ 0 ↔ vB a ≤ vB b := by
 unfold lK ik; split
 ·exact ⟨fun _ => by omega, fun _ => by omega⟩
 ·split <;> exact ⟨fun _ => by omega, fun _ => by omega⟩
end Go.Proofs.Ytimdnodkabnbfaa
namespace Go.Proofs.Ytimdnodkabnbfaa
open Go Go.RowKit
noncomputable abbrev n7 : aC := { T := bt, F := [(iN, kf), (eK, f6)], n := (lM).ntmps }
noncomputable abbrev xF : Ann := { }
theorem DC (h_ident_Far : aE prog [] iN kf) (h_ident_Compare : aE prog [] eK f6) : cf prog n7 := zd (aI (aI (aV bf aO) h_ident_Compare) h_ident_Far)
theorem Ci : dA n7 = true := by kernel_rfl
noncomputable def n6 (x : den tId) (a : den tId) (b : den tId) : aY := aY.ite (eqb tId a b) (aY.ret (K.val (Ty.pair Ty.bool Ty.unit) (true, PUnit.unit))) (aY.req True (aY.req (dT [(!eqb tId (cZ a x) (List.replicate 32 (zero (Ty.int IntKind.u8))), true)] True) (aY.req (dT [(!eqb tId (cZ a x) (List.replicate 32 (zero (Ty.int IntKind.u8))), true)] True) (aY.ret (K.val (Ty.pair Ty.bool Ty.unit) (bif !eqb tId (cZ a x) (List.replicate 32 (zero (Ty.int IntKind.u8))) then decide (lK (cZ a x) (cZ a b) ≤ 0) else false, PUnit.unit))))))
theorem Ab (x : den tId) (a : den tId) (b : den tId) : fa n7 xF qx lM 1000 (aH lM) (Env.of (aM vS (x, a, b, ()) 0) []) = n6 x a b := by kernel_rfl
end Go.Proofs.Ytimdnodkabnbfaa
namespace Go.Proofs.Ytimdnodkabnbfaa
open Go Go.RowKit
theorem Hf {x y W : Int} (hx : 0 ≤ x ∧ x < W) (hy : 0 ≤ y ∧ y < W) : (y - x) % W = if x ≤ y then y - x else y - x + W := by
 split
 ·exact Int.emod_eq_of_lt (by omega) (by omega)
 ·rw [← Int.add_emod_right]
  exact Int.emod_eq_of_lt (by omega) (by omega)
theorem pL {a : List Int} (ha : a.length = 32 ∧ byt a) : 0 ≤ vB a ∧ vB a < sx := by
 have := mq ha.2; rw [ha.1] at this; exact this
theorem Bw {a b : List Int} (ha : a.length = 32 ∧ byt a) (hb : b.length = 32 ∧ byt b) : vB (cZ a b) = if vB a ≤ vB b then vB b - vB a else vB b - vB a + sx := by
 have ra := pL ha
 have rb := pL hb
 rw [← Hf ra rb]
 exact (wU 32 (Int.emod_nonneg _ (by decide)) (Int.emod_lt_of_pos _ (by decide))).2
theorem Do {a b : List Int} : (cZ a b).length = 32 ∧ byt (cZ a b) :=
 ⟨sh _ _, (wU 32 (Int.emod_nonneg _ (by decide)) (Int.emod_lt_of_pos _ (by decide))).1⟩
theorem AV : vB (List.replicate 32 (0 : Int)) = 0 := by decide
theorem EL : byt (List.replicate 32 (0 : Int)) := fun x h => by
 have := List.eq_of_mem_replicate h
 omega
theorem FU {a b : List Int} (ha : a.length = 32 ∧ byt a) (hb : b.length = 32 ∧ byt b) : cZ a b = List.replicate 32 (0 : Int) ↔ vB a = vB b := by
 have ra := pL ha
 have rb := pL hb
 have h1 := Bw ha hb
 refine ⟨fun h => ?_, fun h => ?_⟩
 ·rw [h, AV] at h1
  split at h1 <;> omega
 ·refine BJ (by rw [Do.1, List.length_replicate]) Do.2 EL ?_
  rw [h1, AV, if_pos (by omega)]; omega
noncomputable abbrev ie : bu := ⟨vS, qx, fun x => (nu x.1 x.2.1 x.2.2.1, ()), fun _ => True, true⟩
theorem HM {x a b : List Int} (hx : x.length = 32 ∧ byt x) (ha : a.length = 32 ∧ byt a) (hb : b.length = 32 ∧ byt b) (h : ¬ a = b) :
    (bif !decide (cZ a x = List.replicate 32 (0 : Int)) then decide (lK (cZ a x) (cZ a b) ≤ 0) else false) = nu x a b := by
  have rx := pL hx
  have ra := pL ha
  have rb := pL hb
  have hne : ¬ vB a = vB b := fun e => h (BJ (by rw [ha.1, hb.1]) ha.2 hb.2 e)
  simp only [HR, FU ha hx, Bw ha hx, Bw ha hb]
  rw [nu, if_neg h]
  by_cases e1 : vB a = vB x
  · simp only [e1, decide_true, Bool.not_true, cond_false]
    split
    · simp
    · symm; simp; omega
  · simp only [e1, decide_false, Bool.not_false, cond_true]
    rw [Bool.eq_iff_iff]
    split <;> split <;> split <;> simp only [Bool.and_eq_true, Bool.or_eq_true, decide_eq_true_eq] <;> omega
theorem CO (O : Nat → Prop) (w0 : World) (x a b : List Int) (hx : x.length = 32 ∧ byt x) (ha : a.length = 32 ∧ byt a) (hb : b.length = 32 ∧ byt b) : bB prog n7 O w0 lM qx (fun y => y = (nu x a b, ())) (n6 x a b) := by
 unfold n6
 rw [uR, uR]
 refine ⟨fun h => ⟨_, rfl, ?_⟩, fun h => ⟨trivial, fun _ => trivial, fun _ => trivial, _, rfl, ?_⟩⟩
 ·have h : a = b := of_decide_eq_true h
  simp [nu, h]
 ·have h : ¬ a = b := of_decide_eq_false h
  rw [← HM hx ha hb h]; rfl
theorem rZ : aE prog [] gc ie :=
 yO (DC vz qk) Ci Co (by kernel_rfl) (fun _ _ => trivial) (A := xF) (T := fun x => n6 x.1 x.2.1 x.2.2.1) (fun x => Ab x.1 x.2.1 x.2.2.1) fun O w0 x hk _ =>
  CO O w0 x.1 x.2.1 x.2.2.1 (m9 hk.1) (m9 hk.2.1) (m9 hk.2.2.1)
end Go.Proofs.Ytimdnodkabnbfaa
namespace Go.Proofs.Ytimdnodkabnbfaa
open Go Go.RowKit
noncomputable abbrev pS : Fx := { fn := mA, ann := { } }
noncomputable abbrev rm : a8 := { D := { T := bt, F := [], R := [], ovl := [] }, inl := [] }
noncomputable abbrev y8 : bE := .data qf
theorem ze : XOk prog rm := xok ((aV bf aO)) (by kernel_rfl) aW bg bh
noncomputable def rP (x : den ab) (m : den (Ty.ref ab)) : af := af.ret (K.val (Ty.pair Ty.bool Ty.unit) (bif decide (Prod.fst x = Prod.fst m) then true else eqb tId (Prod.fst (Prod.snd x)) (Prod.fst (Prod.snd m)), PUnit.unit))
theorem vd (x : den ab) (m : den (Ty.ref ab)) : ap rm y8 5000 [] pS (aH mA) (Env.of (aM p9 (x, m, ()) 0) []) = rP x m := by kernel_rfl
noncomputable abbrev ax : Fx := { fn := az, ann := { loops := [(2, { keep := [0, 1, 7, 8] })], frz := [(1000002, [0, 1]), (2000002, [2, 3, 4, 6])] }, own := [16] }
noncomputable abbrev dz : a8 := { D := { T := bt, F := [], R := [], ovl := [] }, inl := [] }
noncomputable abbrev iX : bE := .data eZ
theorem fb : XOk prog dz := xok ((aV bf aO)) (by kernel_rfl) aW bg bh
noncomputable def iZ (s : den (Ty.slc ab)) (f : den (Ty.fn (Ty.pair ab Ty.unit) (Ty.pair Ty.bool Ty.unit))) : af := af.loop [] ax (lp az 2) [(0, K.val (Ty.slc ab) s), (1, K.val (Ty.fn (Ty.pair ab Ty.unit) (Ty.pair Ty.bool Ty.unit)) f), (7, K.val ae (lnx ab s)), (8, K.val ae 0)] []
theorem mi (s : den (Ty.slc ab)) (f : den (Ty.fn (Ty.pair ab Ty.unit) (Ty.pair Ty.bool Ty.unit))) : ap dz iX 5000 [] ax (aH az) (Env.of (aM iA (s, f, ()) 0) []) = iZ s f := by kernel_rfl
noncomputable def g7 (v0 : den (Ty.slc ab)) (v1 : den (Ty.fn (Ty.pair ab Ty.unit) (Ty.pair Ty.bool Ty.unit))) (v7 : den ae) (v8 : den ae) : Env := Env.of [(0, K.val (Ty.slc ab) v0), (1, K.val (Ty.fn (Ty.pair ab Ty.unit) (Ty.pair Ty.bool Ty.unit)) v1), (7, K.val ae v7), (8, K.val ae v8)] []
noncomputable def mB (v0 : den (Ty.slc ab)) (v1 : den (Ty.fn (Ty.pair ab Ty.unit) (Ty.pair Ty.bool Ty.unit))) (v7 : den ae) (v8 : den ae) : af := af.ite (decide (v8 < v7)) (af.req (inB v8 (lnx ab v0)) (af.req (nV (Ty.pair ab Ty.unit) (Ty.pair Ty.bool Ty.unit) v1) (af.ite (Prod.fst (un (Ty.pair ab Ty.unit) (Ty.pair Ty.bool Ty.unit) v1 (el ab v0 v8, PUnit.unit))) (af.ret (K.val (Ty.pair ae Ty.unit) (v8, PUnit.unit))) (af.loop [] ax (lp az 2) [(0, K.val (Ty.slc ab) v0), (1, K.val (Ty.fn (Ty.pair ab Ty.unit) (Ty.pair Ty.bool Ty.unit)) v1), (7, K.val ae v7), (8, K.val ae (IntKind.wrap IntKind.i64 (v8 + 1)))] [])))) (af.ret (K.val (Ty.pair ae Ty.unit) (-1, PUnit.unit)))
theorem fG (v0 : den (Ty.slc ab)) (v1 : den (Ty.fn (Ty.pair ab Ty.unit) (Ty.pair Ty.bool Ty.unit))) (v7 : den ae) (v8 : den ae) : ap dz iX 5000 [] ax (lp az 2) (g7 v0 v1 v7 v8) = mB v0 v1 v7 v8 := by kernel_rfl
end Go.Proofs.Ytimdnodkabnbfaa
namespace Go.Proofs.Ytimdnodkabnbfaa
open Go Go.RowKit
abbrev Mem := den ab
abbrev HZ (a : List Int) : Prop := a.length = 32 ∧ byt a
theorem G3 {x : den tId} (h : okT tId x) : HZ x := m9 h
def kM (x m : Mem) : Bool := bif decide (x.1 = m.1) then true else eqb tId x.2.1 m.2.1
noncomputable abbrev jJ : bu := ⟨p9, qf, fun x => (kM x.1 x.2.1, ()), fun _ => True, true⟩
theorem yT : aE prog [] jF jJ :=
 bW (S := jJ) ze (fx := pS) wY (by kernel_rfl) (fun _ _ => trivial) (T := fun x => rP x.1 x.2.1) (fun x => vd x.1 x.2.1) fun O w0 x _ _ => ⟨_, rfl, rfl⟩
def prM (f : den (.fn (.pair ab .unit) (.pair .bool .unit))) (m : Mem) : Bool := (un (.pair ab .unit) (.pair .bool .unit) f (m, ())).1
def ixP (p : Mem → Bool) : List Mem → Int → Int
 | [], _ => -1
 | x :: l, i => bif p x then i else ixP p l (i + 1)
theorem zi (p : Mem → Bool) : ∀ (l : List Mem) (i : Int), 0 ≤ i → (l.any p = true → i ≤ ixP p l i ∧ ixP p l i < i + l.length) ∧ (l.any p = false → ixP p l i = -1)
 | [], i, _ => ⟨fun h => (by cases h), fun _ => rfl⟩
 | x :: l, i, hi => by
  obtain ⟨h1, h2⟩ := zi p l (i + 1) (by omega)
  rw [List.any_cons, List.length_cons]
  show (_ → _ ≤ (bif p x then i else ixP p l (i + 1)) ∧ (bif p x then i else ixP p l (i + 1)) < _) ∧ (_ → (bif p x then i else ixP p l (i + 1)) = -1)
  cases p x with
  | true => exact ⟨fun _ => ⟨Int.le_refl _, by show i < _; omega⟩, fun h => (by cases h)⟩
  | false =>
   refine ⟨fun h => ?_, fun h => h2 h⟩
   have := h1 h
   exact ⟨by show i ≤ ixP p l (i + 1); omega, by show ixP p l (i + 1) < _; omega⟩
theorem G5 (p : Mem → Bool) (l : List Mem) : decide (0 ≤ ixP p l 0) = l.any p := by
 obtain ⟨h1, h2⟩ := zi p l 0 (Int.le_refl _)
 cases h : l.any p with
 | true => exact decide_eq_true (h1 h).1
 | false => rw [h2 h]; rfl
noncomputable abbrev dy : bu := ⟨iA, eZ, fun x => (ixP (prM x.2.1) x.1 0, ()), fun x => nV (.pair ab .unit) (.pair .bool .unit) x.2.1, false⟩
abbrev GIx (O : Nat → Prop) (w0 : World) (y : Int) := bv prog dz (Cx.base O w0) (cu prog O w0 eZ fun z => z = (y, ()))
def BI (O : Nat → Prop) (w0 : World) (xs : List Mem) (f : den (.fn (.pair ab .unit) (.pair .bool .unit))) (hf : nV (.pair ab .unit) (.pair .bool .unit) f) (hm : xs.length ≤ maxLen) (y : Int) (hy : y = ixP (prM f) xs 0) :=
 PLift.up <| bK (σ := Unit) xs.length (fun i _ => ixP (prM f) (xs.drop i) (i : Nat) = y)
  (fun i _ => GIx O w0 y [] ax (lp az 2) (g7 xs f (lnx ab xs) (i : Nat)))
  (fun i _ hi hs ih => aP fb (fG xs f _ _) (by
   rw [List.drop_eq_getElem_cons hi] at hs
   have hs : (bif prM f xs[i] then ((i : Nat) : Int) else ixP (prM f) (xs.drop (i + 1)) (((i : Nat) : Int) + 1)) = y := hs
   refine ⟨fun _ => ⟨be hi, hf, ?_⟩, fun hc => absurd hi (by rw [cD] at hc; exact of_decide_eq_false hc)⟩
   rw [cL hi, cI hi hm]
   refine ⟨fun hc => ⟨_, rfl, ?_⟩, fun hc => ih () ?_⟩
   ·have hc : prM f xs[i] = true := hc
    rw [hc] at hs
    rw [← hs]
    rfl
   ·have hc : prM f xs[i] = false := hc
    rw [hc] at hs
    exact hs))
  (fun _ hs => aP fb (fG xs f _ _) (by
   refine ⟨fun hc => absurd (of_decide_eq_true hc) (Int.lt_irrefl _), fun _ => ⟨_, rfl, ?_⟩⟩
   rw [List.drop_length] at hs
   rw [← hs]
   rfl))
theorem nW : aE prog [] cH dy :=
 bW (S := dy) fb (fx := ax) iw (by kernel_rfl) (fun h => by cases h) (T := fun x => iZ x.1 x.2.1) (fun x => mi x.1 x.2.1) fun O w0 x hk hp =>
  (BI O w0 x.1 x.2.1 hp hk.1.1 _ rfl).down 0 () (Nat.zero_le _) rfl
theorem kW (x y : Mem) : eqb ab x y = decide (x = y) := by
 have := lg (t := ab) rfl x y
 cases h : eqb ab x y
 ·have : ¬ x = y := fun e => by rw [this.2 e] at h; cases h
  simp [this]
 ·simp [this.1 h]
end Go.Proofs.Ytimdnodkabnbfaa
namespace Go.Proofs.Ytimdnodkabnbfaa
def rky (W a p : Int) : Int := if a ≤ p then p - a else p - a + W
def rup (W a : Int) : Int := if a + 1 = W then 0 else a + 1
theorem BD {W a p : Int} (ha : 0 ≤ a ∧ a < W) (hp : 0 ≤ p ∧ p < W) : 0 ≤ rky W a p ∧ rky W a p < W := by unfold rky; split <;> omega
theorem H5 {W a p q : Int} (_ : 0 ≤ a ∧ a < W) (hp : 0 ≤ p ∧ p < W) (hq : 0 ≤ q ∧ q < W) (h : rky W a p = rky W a q) : p = q := by unfold rky at h; split at h <;> split at h <;> omega
theorem GP {W a : Int} : rky W a a = 0 := by unfold rky; rw [if_pos (Int.le_refl _)]; omega
theorem F0 {W a m p : Int} (ha : 0 ≤ a ∧ a < W) (hm : 0 ≤ m ∧ m < W) (hp : 0 ≤ p ∧ p < W) : rky W m p = if rky W a m ≤ rky W a p then rky W a p - rky W a m else rky W a p - rky W a m + W := by
 unfold rky
 split <;> split <;> split <;> split <;> omega
theorem Ik {W m p : Int} (hm : 0 ≤ m ∧ m < W) (hp : 0 ≤ p ∧ p < W) : rky W (rup W m) p = if p = m then W - 1 else rky W m p - 1 := by
 unfold rky rup
 split <;> split <;> split <;> (try split) <;> omega
section
variable {M : Type} {pos : M → Int} {W : Int}
structure DD (pos : M → Int) (W : Int) (l : List M) : Prop where
 in' : ∀ m ∈ l, 0 ≤ pos m ∧ pos m < W
 inj : ∀ x ∈ l, ∀ y ∈ l, pos x = pos y → x = y
def oA (pos : M → Int) (W a : Int) (l : List M) (m : M) : Prop := m ∈ l ∧ ∀ x ∈ l, rky W a (pos m) ≤ rky W a (pos x)
theorem oA.uniq {l : List M} (h : DD pos W l) {a : Int} (ha : 0 ≤ a ∧ a < W) {m n : M} (hm : oA pos W a l m) (hn : oA pos W a l n) : m = n :=
 h.inj m hm.1 n hn.1 (H5 ha (h.in' m hm.1) (h.in' n hn.1) (Int.le_antisymm (hm.2 n hn.1) (hn.2 m hm.1)))
theorem oA.mem {l : List M} {a : Int} {m : M} (h : oA pos W a l m) : m ∈ l := h.1
theorem oA.sub {l l' : List M} {a : Int} {m : M} (h : oA pos W a l m) (hs : ∀ x ∈ l', x ∈ l) (hm : m ∈ l') : oA pos W a l' m := ⟨hm, fun x hx => h.2 x (hs x hx)⟩
structure qv (pos : M → Int) (W a : Int) (l s : List M) : Prop where
 mem : ∀ x, x ∈ s ↔ x ∈ l
 lt : s.Pairwise fun x y => rky W a (pos x) < rky W a (pos y)
theorem qv.get {a : Int} {l s : List M} (h : qv pos W a l s) {i j : Nat} (hi : i < j) (hj : j < s.length) : rky W a (pos s[i]) < rky W a (pos s[j]) := List.pairwise_iff_getElem.1 h.lt i j (by omega) hj hi
theorem qv.nodup {a : Int} {l s : List M} (h : qv pos W a l s) {i j : Nat} (hi : i < s.length) (hj : j < s.length) (e : s[i] = s[j]) : i = j := by
 rcases Nat.lt_trichotomy i j with h1 | h1 | h1
 ·have := h.get h1 hj; rw [e] at this; omega
 ·exact h1
 ·have := h.get h1 hi; rw [e] at this; omega
theorem qv.first {a : Int} {l s : List M} (h : qv pos W a l s) (h0 : 0 < s.length) : oA pos W a l s[0] :=
 ⟨(h.mem _).1 (List.getElem_mem h0), fun x hx => by
  obtain ⟨j, hj, rfl⟩ := List.getElem_of_mem ((h.mem x).2 hx)
  rcases Nat.eq_zero_or_pos j with e | e
  ·subst e; exact Int.le_refl _
  ·exact Int.le_of_lt (h.get e hj)⟩
theorem qv.next {a : Int} {l s : List M} (hl : DD pos W l) (ha : 0 ≤ a ∧ a < W) (h : qv pos W a l s) {i : Nat} (hi : i < s.length) :
    oA pos W (rup W (pos s[i])) l (s[(i + 1) % s.length]'(Nat.mod_lt _ (by omega))) := by
  have hr : ∀ j (hj : j < s.length), 0 ≤ pos s[j] ∧ pos s[j] < W := fun j hj => hl.in' _ ((h.mem _).1 (List.getElem_mem hj))
  have hn : (i + 1) % s.length < s.length := Nat.mod_lt _ (by omega)
  refine ⟨(h.mem _).1 (List.getElem_mem hn), fun x hx => ?_⟩
  obtain ⟨j, hj, rfl⟩ := List.getElem_of_mem ((h.mem x).2 hx)
  have key : ∀ k (hk : k < s.length), rky W (rup W (pos s[i])) (pos s[k]) = if k = i then W - 1 else (if i < k then rky W a (pos s[k]) - rky W a (pos s[i]) - 1 else rky W a (pos s[k]) - rky W a (pos s[i]) + W - 1) := fun k hk => by
    rw [Ik (hr i hi) (hr k hk)]
    by_cases e : k = i
    · subst e; rw [if_pos rfl, if_pos rfl]
    · have hne : ¬ pos s[k] = pos s[i] := fun hp => e (h.nodup hk hi (hl.inj _ ((h.mem _).1 (List.getElem_mem hk)) _ ((h.mem _).1 (List.getElem_mem hi)) hp))
      rw [if_neg hne, if_neg e, F0 ha (hr i hi) (hr k hk)]
      by_cases h1 : i < k
      · have := h.get h1 hk
        rw [if_pos h1, if_pos (by omega)]
      · have := h.get (show k < i by omega) hi
        rw [if_neg h1, if_neg (by omega)]
  rw [key _ hn, key j hj]
  have rg : ∀ k (hk : k < s.length), 0 ≤ rky W a (pos s[k]) ∧ rky W a (pos s[k]) < W := fun k hk => BD ha (hr k hk)
  have ri := rg i hi
  have rj := rg j hj
  by_cases hlast : i + 1 < s.length
  · have e : (i + 1) % s.length = i + 1 := Nat.mod_eq_of_lt hlast
    simp only [e]
    rw [if_neg (by omega), if_pos (by omega)]
    have r1 := rg (i + 1) hlast
    have g1 := h.get (show i < i + 1 by omega) hlast
    by_cases e1 : j = i
    · rw [if_pos e1]; omega
    · rw [if_neg e1]
      by_cases e2 : i < j
      · rw [if_pos e2]
        rcases Nat.lt_or_ge (i + 1) j with e3 | e3
        · have := h.get e3 hj; omega
        · have : j = i + 1 := by omega
          subst this; omega
      · rw [if_neg e2]; omega
  · have e : (i + 1) % s.length = 0 := by rw [show i + 1 = s.length by omega, Nat.mod_self]
    simp only [e]
    by_cases e0 : 0 = i
    · subst e0
      have : j = 0 := by omega
      subst this
      exact Int.le_refl _
    · rw [if_neg e0, if_neg (by omega)]
      have r0 := rg 0 (by omega)
      have g0 := h.get (show 0 < i by omega) hi
      by_cases e1 : j = i
      · rw [if_pos e1]; omega
      · rw [if_neg e1, if_neg (by omega)]
        rcases Nat.eq_zero_or_pos j with e2 | e2
        · subst e2; omega
        · have := h.get e2 hj; omega
theorem qv.self {l s : List M} (hl : DD pos W l) {m : M} (hm : m ∈ l) (h : qv pos W (pos m) l s) (h0 : 0 < s.length) : s[0] = m :=
 oA.uniq hl (hl.in' m hm) (h.first h0) ⟨hm, fun x hx => by rw [GP]; exact (BD (hl.in' m hm) (hl.in' x hx)).1⟩
end
end Go.Proofs.Ytimdnodkabnbfaa
namespace Go.Proofs
open Go.Shelf
end Go.Proofs
namespace Go.Proofs.Ytimdnodkabnbfaa
open Go Go.RowKit
abbrev HS : Ty := .clo cU (.pair (.ref (.slc ab)) .unit)
abbrev jp : Ty := .pair HS .unit
noncomputable abbrev eE : bu := ⟨jU, jp, fun x => ((x.1, ()), ()), fun _ => True, false⟩
noncomputable abbrev bN : bu := ⟨gx, gw, fun x => (x.1.any (prM x.2.1), ()), fun x => nV (.pair ab .unit) (.pair .bool .unit) x.2.1, false⟩
def wI : List Mem → List Mem → Bool
 | _, [] => true
 | pre, m :: l => (!(pre.any fun x => kM x m)) && decide (0 ≤ m.1) && decide (m.1 < 16) && wI (pre ++ [m]) l
def ia (l : List Mem) : Bool := wI [] l && decide (l.length ≤ 16)
noncomputable abbrev lr : bu := ⟨sP, nx, fun x => (ia x.1, ()), fun _ => True, true⟩
def noM : Mem := (-1, zero (Ty.pair tId Ty.unit))
end Go.Proofs.Ytimdnodkabnbfaa
