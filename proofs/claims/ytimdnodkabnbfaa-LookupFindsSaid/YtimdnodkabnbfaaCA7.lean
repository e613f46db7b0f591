/- Part 7 of 10 of what this claim's proof stands on: a theory of programs on data, and the contracts of the functions that the law reaches. It holds no condition of its own. -/
import Derived.Test.YtimdnodkabnbfaaCA6
import Derived.Test.YtimdnodkabnbfaaProg
import Derived.Shelf.SlSortCmp.WholeK
import Derived.Shelf.SlSortCmp.NoneTotal
import Derived.Ground.SlsfProg
namespace Go.Proofs.Ytimdnodkabnbfaa
open Go
noncomputable section
noncomputable abbrev prog : Program := Try.prog
abbrev tId : Ty := (.arr 32 (.int .u8))
abbrev ab : Ty := (.st (.pair (.int .i64) (.pair tId .unit)))
abbrev aw : Ty := (.st (.pair ab (.pair .bool .unit)))
abbrev ng : Ty := (.st (.pair (.slc (.int .i64)) (.pair ab (.pair (.int .i64) .unit))))
abbrev ag : Ty := (.st (.pair ab (.pair ab (.pair (.slc ab) (.pair (.slc ab) .unit)))))
abbrev ah : Ty := (.st (.pair (.slc ag) .unit))
def br : List (Nat × Ty) := [
 (1, (.fn .unit .unit)),
 (2, (.int .i64)),
 (3, (.int .i64)),
 (4, .bool),
 (5, (.int .u8)),
 (9, .str),
 (12, (.int .u64)),
 (21, (.int .i32)),
 (22, (.slc ag)),
 (23, ah),
 (24, ah),
 (25, tId),
 (26, tId),
 (27, (.fn (.pair ah .unit) (.pair ah .unit))),
 (28, (.slc (.int .i64))),
 (29, ab),
 (30, ab),
 (31, (.int .i64)),
 (33, (.fn (.pair ah (.pair (.int .i64) (.pair tId (.pair (.int .i64) .unit)))) (.pair (.slc (.int .i64)) (.pair ab (.pair (.int .i64) .unit))))),
 (34, (.fn (.pair ah .unit) (.pair .bool .unit))),
 (35, (.fn .unit (.pair .bool .unit))),
 (36, ng),
 (37, ng),
 (38, (.fn (.pair ah (.pair (.int .i64) (.pair tId (.pair (.int .i64) .unit)))) (.pair ng .unit))),
 (39, (.fn (.pair ah (.pair (.int .i64) (.pair (.int .i64) (.pair tId .unit)))) (.pair .bool .unit))),
 (40, (.fn (.pair ah (.pair (.int .i64) (.pair tId (.pair (.int .i64) .unit)))) (.pair .bool .unit))),
 (41, (.mp (.int .i64) .bool)),
 (42, (.slc ab)),
 (43, (.fn (.pair ah .unit) (.pair (.slc ab) .unit))),
 (45, (.fn (.pair ah (.pair tId (.pair (.int .i64) .unit))) (.pair (.slc ab) (.pair (.int .i64) .unit)))),
 (46, (.fn (.pair (.slc ab) (.pair (.slc ab) .unit)) (.pair .bool .unit))),
 (47, (.fn (.pair ah (.pair tId (.pair (.int .i64) .unit))) (.pair (.slc ab) .unit))),
 (48, (.fn (.pair ah (.pair tId (.pair (.int .i64) .unit))) (.pair .bool .unit))),
 (50, (.fn (.pair (.slc ab) (.pair tId .unit)) (.pair ab (.pair (.int .i64) .unit)))),
 (51, (.mp (.int .i64) tId)),
 (52, ag),
 (53, ag),
 (54, (.fn (.pair tId (.pair tId .unit)) (.pair (.int .i64) .unit))),
 (55, (.fn (.pair tId (.pair tId .unit)) (.pair tId .unit))),
 (56, (.fn (.pair ah (.pair tId .unit)) (.pair .bool .unit))),
 (58, (.fn (.pair ah (.pair (.int .i64) (.pair (.int .i64) .unit))) (.pair ah (.pair (.int .i64) .unit)))),
 (59, (.fn (.pair ah (.pair tId (.pair (.slc (.int .i64)) .unit))) (.pair .bool .unit))),
 (60, (.fn (.pair ah .unit) (.pair ah (.pair (.int .i64) .unit)))),
 (61, (.fn (.pair ah (.pair (.int .i64) .unit)) (.pair ah (.pair (.int .i64) .unit)))),
 (62, (.fn (.pair ah (.pair ah .unit)) (.pair .bool .unit))),
 (63, (.fn (.pair ah (.pair ab (.pair (.int .i64) .unit))) (.pair ah (.pair (.int .i64) .unit)))),
 (64, (.fn (.pair (.fn (.pair (.int .i64) (.pair aw .unit)) (.pair .bool .unit)) .unit) .unit)),
 (65, (.fn (.pair (.fn (.pair (.int .i64) (.pair aw .unit)) (.pair .bool .unit)) .unit) .unit)),
 (66, (.fn (.pair ah (.pair (.int .i64) (.pair tId .unit))) (.pair (.fn (.pair (.fn (.pair (.int .i64) (.pair aw .unit)) (.pair .bool .unit)) .unit) .unit) .unit))),
 (67, aw),
 (68, aw),
 (69, (.fn (.pair ag .unit) (.pair .bool .unit))),
 (70, (.fn (.pair ag .unit) (.pair (.slc ab) .unit))),
 (71, (.fn (.pair (.slc ab) (.pair (.int .i64) .unit)) (.pair ab .unit))),
 (72, (.fn (.pair (.slc ab) .unit) (.pair .bool .unit))),
 (73, (.fn (.pair ah (.pair (.int .i64) .unit)) (.pair .bool .unit))),
 (74, aw),
 (75, aw),
 (76, (.fn (.pair ah (.pair (.int .i64) (.pair tId .unit))) (.pair aw .unit))),
 (77, (.fn (.pair (.slc ab) (.pair (.int .i64) (.pair (.int .i64) .unit))) (.pair (.slc ab) (.pair (.int .i64) .unit)))),
 (78, (.fn (.pair (.slc ab) (.pair tId .unit)) (.pair ab .unit))),
 (79, (.fn (.pair (.slc ab) (.pair ab (.pair (.int .i64) .unit))) (.pair (.slc ab) .unit))),
 (80, (.fn (.pair (.slc ab) (.pair (.int .i64) .unit)) (.pair ab (.pair (.int .i64) .unit)))),
 (81, (.fn (.pair (.slc ab) (.pair (.fn (.pair ab (.pair ab .unit)) (.pair (.int .i64) .unit)) .unit)) (.pair ab .unit))),
 (82, (.fn (.pair ab (.pair ab .unit)) (.pair (.int .i64) .unit))),
 (83, (.fn (.pair tId .unit) (.pair (.fn (.pair ab (.pair ab .unit)) (.pair (.int .i64) .unit)) .unit))),
 (84, (.fn (.pair (.slc (.int .u8)) (.pair (.slc (.int .u8)) .unit)) (.pair (.int .i64) .unit))),
 (85, (.slc (.int .u8))),
 (87, (.fn (.pair ah (.pair (.int .i64) .unit)) (.pair (.int .i64) (.pair (.int .i64) .unit)))),
 (89, (.fn (.pair ah (.pair (.int .i64) .unit)) (.pair ab (.pair .bool .unit)))),
 (91, (.fn (.pair ag (.pair ab .unit)) (.pair ag (.pair (.int .i64) .unit)))),
 (92, (.fn (.pair ah (.pair (.int .i64) .unit)) .unit)),
 (93, (.fn (.pair (.fn (.pair ab .unit) (.pair .bool .unit)) .unit) .unit)),
 (94, (.fn (.pair (.fn (.pair ab .unit) (.pair .bool .unit)) .unit) .unit)),
 (95, (.fn (.pair ag .unit) (.pair (.fn (.pair (.fn (.pair ab .unit) (.pair .bool .unit)) .unit) .unit) .unit))),
 (96, (.fn (.pair ag (.pair ag .unit)) (.pair .bool .unit))),
 (97, (.fn (.pair (.slc ag) (.pair (.int .i64) (.pair (.int .i64) .unit))) (.pair (.slc ag) .unit))),
 (98, (.fn (.pair (.slc ag) .unit) (.pair (.slc ag) .unit))),
 (99, (.fn (.pair ab .unit) (.pair ag (.pair (.int .i64) .unit)))),
 (100, (.fn (.pair ab .unit) (.pair .bool .unit))),
 (101, (.fn (.pair (.slc ab) (.pair (.fn (.pair ab .unit) (.pair .bool .unit)) .unit)) (.pair .bool .unit))),
 (102, (.fn (.pair (.fn (.pair (.fn (.pair ab .unit) (.pair .bool .unit)) .unit) .unit) .unit) (.pair (.slc ab) .unit))),
 (104, (.fn (.pair ah (.pair (.int .i64) .unit)) (.pair (.int .i64) (.pair .bool .unit)))),
 (105, (.fn (.pair (.slc ag) (.pair (.int .i64) (.pair (.slc ag) .unit))) (.pair (.slc ag) .unit))),
 (106, (.fn (.pair (.int .i64) (.pair aw .unit)) (.pair .bool .unit))),
 (108, (.fn (.pair ah (.pair (.int .i64) (.pair tId .unit))) (.pair aw (.pair .bool .unit)))),
 (109, (.fn (.pair (.slc ab) (.pair (.int .i64) .unit)) (.pair .bool .unit))),
 (110, (.fn (.pair ah (.pair (.int .i64) .unit)) (.pair ag .unit))),
 (111, (.fn (.pair ag (.pair (.slc (.int .i64)) .unit)) (.pair ag .unit))),
 (112, (.fn (.pair tId (.pair tId (.pair tId .unit))) (.pair .bool .unit))),
 (113, (.fn (.pair ag (.pair tId .unit)) (.pair aw .unit))),
 (114, (.fn (.pair (.slc ab) (.pair (.int .i64) .unit)) (.pair (.slc ab) (.pair (.int .i64) .unit)))),
 (115, (.fn (.pair (.slc ab) (.pair ab .unit)) (.pair ab .unit))),
 (116, (.fn (.pair (.int .u8) (.pair (.int .u8) .unit)) (.pair (.int .i64) .unit))),
 (117, (.fn (.pair (.int .i64) .unit) (.pair (.fn (.pair ab .unit) (.pair .bool .unit)) .unit))),
 (118, (.fn (.pair (.slc ab) .unit) (.pair (.slc ab) .unit))),
 (119, (.fn (.pair ag (.pair (.slc (.int .i64)) .unit)) (.pair ag (.pair (.int .i64) .unit)))),
 (120, (.fn (.pair ah (.pair ag .unit)) (.pair (.slc (.int .i64)) .unit))),
 (121, (.fn (.pair ag (.pair ag .unit)) (.pair ag (.pair (.int .i64) .unit)))),
 (122, (.fn .unit (.pair ab .unit))),
 (123, (.fn (.pair (.slc ab) .unit) (.pair (.fn (.pair (.fn (.pair ab .unit) (.pair .bool .unit)) .unit) .unit) .unit))),
 (124, (.fn (.pair (.slc (.slc ab)) .unit) (.pair (.slc ab) .unit))),
 (125, (.fn (.pair (.slc ab) (.pair (.fn (.pair ab .unit) (.pair .bool .unit)) .unit)) (.pair (.int .i64) .unit))),
 (126, (.fn (.pair (.slc ab) (.pair (.fn (.pair (.fn (.pair ab .unit) (.pair .bool .unit)) .unit) .unit) .unit)) (.pair (.slc ab) .unit))),
 (127, (.fn (.pair (.slc ag) (.pair (.int .i64) (.pair (.fn (.pair ag (.pair (.int .i64) .unit)) (.pair (.int .i64) .unit)) .unit))) (.pair (.int .i64) (.pair .bool .unit)))),
 (128, (.fn (.pair (.int .i64) (.pair (.int .i64) .unit)) (.pair (.int .i64) .unit))),
 (129, (.fn (.pair ag (.pair (.int .i64) .unit)) (.pair (.int .i64) .unit))),
 (130, (.fn (.pair (.slc ag) (.pair (.slc ag) .unit)) (.pair .bool .unit))),
 (131, (.fn (.pair (.slc ag) (.pair (.int .i64) .unit)) .unit)),
 (132, (.fn (.pair (.slc ag) (.pair (.fn (.pair ag .unit) (.pair .bool .unit)) .unit)) (.pair (.int .i64) .unit))),
 (133, (.fn (.pair (.slc ag) (.pair (.fn (.pair ag .unit) (.pair .bool .unit)) .unit)) (.pair .bool .unit))),
 (134, (.fn (.pair ag (.pair tId .unit)) (.pair .bool .unit))),
 (136, (.fn (.pair ag (.pair tId .unit)) (.pair ab (.pair .bool (.pair (.int .i64) .unit))))),
 (137, (.fn (.pair (.slc ab) (.pair (.slc (.int .i64)) (.pair (.int .i64) .unit))) (.pair (.slc ab) .unit))),
 (138, (.fn (.pair tId (.pair tId (.pair (.slc ab) .unit))) (.pair ab .unit))),
 (139, (.fn (.pair (.fn (.pair (.fn (.pair ab .unit) (.pair .bool .unit)) .unit) .unit) (.pair (.fn (.pair ab (.pair ab .unit)) (.pair (.int .i64) .unit)) .unit)) (.pair (.slc ab) .unit))),
 (140, (.fn (.pair tId (.pair (.int .i64) .unit)) (.pair (.int .i64) .unit))),
 (141, (.fn (.pair tId .unit) (.pair tId .unit))),
 (142, (.fn (.pair (.int .i64) .unit) (.pair tId .unit))),
 (143, (.fn (.pair (.int .u8) .unit) (.pair .bool .unit))),
 (144, (.fn (.pair (.slc (.int .i64)) (.pair (.int .i64) .unit)) (.pair .bool .unit))),
 (145, (.fn (.pair (.slc ab) (.pair (.fn (.pair ab .unit) (.pair .bool .unit)) .unit)) (.pair (.slc ab) .unit))),
 (146, (.fn (.pair (.slc ab) (.pair (.int .i64) .unit)) (.pair (.fn (.pair (.fn (.pair ab .unit) (.pair .bool .unit)) .unit) .unit) .unit))),
 (147, (.slc (.slc ab))),
 (148, (.fn (.pair (.slc ab) (.pair (.int .i64) .unit)) (.pair (.slc ab) .unit))),
 (149, (.int .u64)),
 (150, (.fn (.pair (.int .i64) .unit) (.pair .bool .unit))),
 (151, (.fn (.pair tId (.pair tId (.pair (.slc ab) .unit))) (.pair ab (.pair (.int .i64) .unit)))),
 (152, (.fn (.pair (.slc ab) (.pair (.fn (.pair ab (.pair ab .unit)) (.pair (.int .i64) .unit)) .unit)) .unit)),
 (153, (.fn (.pair (.slc (.int .i64)) (.pair (.int .i64) .unit)) (.pair (.int .i64) .unit))),
 (154, (.fn (.pair (.slc ag) .unit) .unit)),
 (155, (.fn (.pair (.slc ab) (.pair (.fn (.pair ab .unit) (.pair .bool .unit)) .unit)) (.pair (.fn (.pair (.fn (.pair ab .unit) (.pair .bool .unit)) .unit) .unit) .unit))),
 (156, (.fn (.pair (.slc ab) (.pair (.int .i64) (.pair (.int .i64) (.pair (.int .i64) (.pair (.fn (.pair ab (.pair ab .unit)) (.pair (.int .i64) .unit)) .unit))))) .unit)),
 (157, (.fn (.pair (.int .u64) .unit) (.pair (.int .i64) .unit))),
 (158, (.fn (.pair (.slc ab) (.pair (.int .i64) (.pair (.int .i64) (.pair (.fn (.pair ab (.pair ab .unit)) (.pair (.int .i64) .unit)) .unit)))) .unit)),
 (159, (.int .i64)),
 (161, (.fn (.pair (.slc ab) (.pair (.int .i64) (.pair (.int .i64) (.pair (.fn (.pair ab (.pair ab .unit)) (.pair (.int .i64) .unit)) .unit)))) (.pair (.int .i64) (.pair (.int .i64) .unit)))),
 (162, (.fn (.pair (.slc ab) (.pair (.int .i64) (.pair (.int .i64) (.pair (.fn (.pair ab (.pair ab .unit)) (.pair (.int .i64) .unit)) .unit)))) (.pair .bool .unit))),
 (163, (.fn (.pair (.slc ab) (.pair (.int .i64) (.pair (.int .i64) (.pair (.int .i64) (.pair (.fn (.pair ab (.pair ab .unit)) (.pair (.int .i64) .unit)) .unit))))) (.pair (.int .i64) .unit))),
 (164, (.fn (.pair (.slc ab) (.pair (.int .i64) (.pair (.int .i64) (.pair (.int .i64) (.pair (.fn (.pair ab (.pair ab .unit)) (.pair (.int .i64) .unit)) .unit))))) (.pair (.int .i64) (.pair .bool .unit)))),
 (165, (.fn (.pair (.int .u32) .unit) (.pair (.int .i64) .unit))),
 (166, (.int .u32)),
 (167, (.fn (.pair (.int .u64) .unit) (.pair (.int .i64) .unit))),
 (168, (.int .u64)),
 (169, (.int .u64)),
 (170, (.fn (.pair (.int .i64) .unit) (.pair (.int .u64) .unit))),
 (171, (.fn .unit (.pair (.int .u64) .unit))),
 (178, (.fn .unit (.pair .str .unit))),
 (184, (.fn .unit (.pair (.int .i64) .unit)))]
theorem aY : yc prog br = true := by kernel_rfl
theorem aM : prog.follows .mixedOrders = true := by kernel_rfl
abbrev qE : Nat := 7
noncomputable abbrev bj : Func := Try.f7
abbrev eE : Ty := (.pair ah (.pair tId .unit))
abbrev pP : Ty := (.pair .bool .unit)
theorem x8 : Try.prog.funcs[qE]? = some bj := Try.func7
abbrev tf : Nat := 10
noncomputable abbrev lq : Func := Try.f10
abbrev Bf : Ty := (.pair ah .unit)
abbrev wB : Ty := (.pair ah .unit)
theorem I1 : Try.prog.funcs[tf]? = some lq := Try.func10
abbrev ii : Nat := 11
noncomputable abbrev be : Func := Try.f11
abbrev uM : Ty := (.pair ah (.pair (.int .i64) (.pair tId (.pair (.int .i64) .unit))))
abbrev eF : Ty := (.pair (.slc (.int .i64)) (.pair ab (.pair (.int .i64) .unit)))
theorem Du : Try.prog.funcs[ii]? = some be := Try.func11
abbrev pr : Nat := 13
noncomputable abbrev ui : Func := Try.f13
abbrev xS : Ty := .unit
abbrev xK : Ty := (.pair .bool .unit)
theorem Gn : Try.prog.funcs[pr]? = some ui := Try.func13
abbrev dT : Nat := 15
noncomputable abbrev fb : Func := Try.f15
abbrev sS : Ty := (.pair ah .unit)
abbrev np : Ty := (.pair (.slc ab) .unit)
theorem A5 : Try.prog.funcs[dT]? = some fb := Try.func15
abbrev mc : Nat := 19
noncomputable abbrev eD : Func := Try.f19
abbrev s7 : Ty := (.pair ah .unit)
abbrev kU : Ty := (.pair .bool .unit)
theorem Bm : Try.prog.funcs[mc]? = some eD := Try.func19
abbrev nZ : Nat := 20
noncomputable abbrev rK : Func := Try.f20
abbrev wN : Ty := (.pair (.slc ab) (.pair tId .unit))
abbrev qd : Ty := (.pair ab (.pair (.int .i64) .unit))
theorem EL : Try.prog.funcs[nZ]? = some rK := Try.func20
abbrev cV : Nat := 21
noncomputable abbrev kT : Func := Try.f21
abbrev rQ : Ty := (.pair tId (.pair tId .unit))
abbrev r7 : Ty := (.pair (.int .i64) .unit)
theorem AP : Try.prog.funcs[cV]? = some kT := Try.func21
abbrev eV : Nat := 22
noncomputable abbrev dm : Func := Try.f22
abbrev yJ : Ty := (.pair tId (.pair tId .unit))
abbrev lD : Ty := (.pair tId .unit)
theorem EZ : Try.prog.funcs[eV]? = some dm := Try.func22
abbrev ie : Nat := 27
noncomputable abbrev bw : Func := Try.f27
abbrev uz : Ty := (.pair ah .unit)
abbrev oY : Ty := (.pair .bool .unit)
theorem CT : Try.prog.funcs[ie]? = some bw := Try.func27
abbrev uE : Nat := 32
noncomputable abbrev vC : Func := Try.f32
theorem BU : Try.prog.funcs[uE]? = some vC := Try.func32
abbrev oh : Nat := 40
noncomputable abbrev gV : Func := Try.f40
abbrev wQ : Ty := (.pair (.slc ab) (.pair (.int .i64) (.pair (.int .i64) .unit)))
abbrev ko : Ty := (.pair (.slc ab) (.pair (.int .i64) .unit))
theorem Ei : Try.prog.funcs[oh]? = some gV := Try.func40
abbrev m6 : Nat := 43
noncomputable abbrev qp : Func := Try.f43
abbrev uH : Ty := (.pair (.slc ab) (.pair (.int .i64) .unit))
abbrev o4 : Ty := (.pair ab (.pair (.int .i64) .unit))
theorem Dh : Try.prog.funcs[m6]? = some qp := Try.func43
abbrev dA : Nat := 44
noncomputable abbrev cO : Func := Try.f44
abbrev mK : Ty := (.pair (.slc ab) (.pair (.slc ab) .unit))
abbrev iR : Ty := (.pair .bool .unit)
theorem ut : Try.prog.funcs[dA]? = some cO := Try.func44
abbrev fV : Nat := 45
noncomputable abbrev gM : Func := Try.f45
abbrev xe : Ty := (.pair (.slc ab) .unit)
abbrev qi : Ty := (.pair .bool .unit)
theorem EI : Try.prog.funcs[fV]? = some gM := Try.func45
abbrev fw : Nat := 46
noncomputable abbrev ce : Func := Try.f46
abbrev lA : Ty := (.pair (.slc ab) (.pair (.fn (.pair ab (.pair ab .unit)) (.pair (.int .i64) .unit)) .unit))
abbrev gL : Ty := (.pair ab .unit)
theorem rO : Try.prog.funcs[fw]? = some ce := Try.func46
abbrev kz : Nat := 47
noncomputable abbrev ua : Func := Try.f47
abbrev yx : Ty := (.pair tId .unit)
abbrev xV : Ty := (.pair (.fn (.pair ab (.pair ab .unit)) (.pair (.int .i64) .unit)) .unit)
theorem GB : Try.prog.funcs[kz]? = some ua := Try.func47
abbrev f9 : Nat := 48
noncomputable abbrev bO : Func := Try.f48
abbrev mQ : Ty := (.pair (.slc (.int .u8)) (.pair (.slc (.int .u8)) .unit))
abbrev fR : Ty := (.pair (.int .i64) .unit)
theorem ue : Try.prog.funcs[f9]? = some bO := Try.func48
abbrev nV : Nat := 50
noncomputable abbrev gO : Func := Try.f50
abbrev xa : Ty := (.pair ah (.pair (.int .i64) .unit))
abbrev qu : Ty := (.pair ab (.pair .bool .unit))
theorem EB : Try.prog.funcs[nV]? = some gO := Try.func50
abbrev d6 : Nat := 54
noncomputable abbrev rC : Func := Try.f54
abbrev wE : Ty := (.pair ag .unit)
abbrev wU : Ty := (.pair .bool .unit)
theorem EM : Try.prog.funcs[d6]? = some rC := Try.func54
abbrev mX : Nat := 55
noncomputable abbrev qt : Func := Try.f55
abbrev u2 : Ty := (.pair ag .unit)
theorem CX : Try.prog.funcs[mX]? = some qt := Try.func55
abbrev cv : Nat := 61
noncomputable abbrev fL : Func := Try.f61
abbrev i6 : Ty := (.pair (.slc ab) (.pair (.fn (.pair ab .unit) (.pair .bool .unit)) .unit))
abbrev i7 : Ty := (.pair .bool .unit)
theorem oA : Try.prog.funcs[cv]? = some fL := Try.func61
abbrev mm : Nat := 62
noncomputable abbrev cE : Func := Try.f62
theorem sk : Try.prog.funcs[mm]? = some cE := Try.func62
abbrev sH : Nat := 65
noncomputable abbrev c6 : Func := Try.f65
theorem zw : Try.prog.funcs[sH]? = some c6 := Try.func65
abbrev mV : Nat := 66
noncomputable abbrev fl : Func := Try.f66
abbrev vp : Ty := (.pair ah (.pair (.int .i64) (.pair tId .unit)))
abbrev l6 : Ty := (.pair aw (.pair .bool .unit))
theorem Cy : Try.prog.funcs[mV]? = some fl := Try.func66
abbrev iv : Nat := 74
noncomputable abbrev ql : Func := Try.f74
abbrev uU : Ty := (.pair (.slc ab) (.pair (.int .i64) .unit))
abbrev oP : Ty := (.pair (.slc ab) (.pair (.int .i64) .unit))
theorem CI : Try.prog.funcs[iv]? = some ql := Try.func74
abbrev lU : Nat := 78
noncomputable abbrev o3 : Func := Try.f78
abbrev sZ : Ty := (.pair ab (.pair (.ref ab) .unit))
abbrev tz : Ty := (.pair .bool .unit)
theorem Bv : Try.prog.funcs[lU]? = some o3 := Try.func78
abbrev m0 : Nat := 79
noncomputable abbrev qf : Func := Try.f79
abbrev vc : Ty := (.pair ab (.pair ab (.pair (.ref tId) .unit)))
abbrev uO : Ty := (.pair (.int .i64) .unit)
theorem Dk : Try.prog.funcs[m0]? = some qf := Try.func79
abbrev iM : Nat := 80
noncomputable abbrev iI : Func := Try.f80
abbrev oG : Ty := (.pair (.int .u8) (.pair (.int .u8) .unit))
abbrev oF : Ty := (.pair (.int .i64) .unit)
theorem xl : Try.prog.funcs[iM]? = some iI := Try.func80
abbrev md : Nat := 81
noncomputable abbrev vO : Func := Try.f81
abbrev z6 : Ty := (.pair ab .unit)
abbrev zQ : Ty := (.pair .bool .unit)
theorem Ht : Try.prog.funcs[md]? = some vO := Try.func81
abbrev s6 : Nat := 82
noncomputable abbrev yL : Func := Try.f82
abbrev Bn : Ty := (.pair (.int .i64) .unit)
abbrev Bi : Ty := (.pair (.fn (.pair ab .unit) (.pair .bool .unit)) .unit)
theorem Jx : Try.prog.funcs[s6]? = some yL := Try.func82
abbrev pl : Nat := 84
noncomputable abbrev bK : Func := Try.f84
abbrev xW : Ty := (.pair ag (.pair (.slc (.int .i64)) .unit))
abbrev jp : Ty := (.pair ag (.pair (.int .i64) .unit))
theorem E0 : Try.prog.funcs[pl]? = some bK := Try.func84
abbrev gE : Nat := 88
noncomputable abbrev tZ : Func := Try.f88
abbrev yO : Ty := .unit
abbrev yM : Ty := (.pair ab .unit)
theorem Fb : Try.prog.funcs[gE]? = some tZ := Try.func88
abbrev mY : Nat := 89
noncomputable abbrev gl : Func := Try.f89
abbrev uI : Ty := (.pair (.slc ab) (.pair (.int .i64) .unit))
abbrev oT : Ty := (.pair .bool .unit)
theorem C0 : Try.prog.funcs[mY]? = some gl := Try.func89
abbrev dp : Nat := 90
noncomputable abbrev iU : Func := Try.f90
abbrev mv : Ty := (.pair (.slc ab) .unit)
theorem sV : Try.prog.funcs[dp]? = some iU := Try.func90
abbrev bQ : Nat := 91
noncomputable abbrev aL : Func := Try.f91
theorem sU : Try.prog.funcs[bQ]? = some aL := Try.func91
abbrev co : Nat := 92
noncomputable abbrev aE : Func := Try.f92
abbrev kh : Ty := (.pair (.slc ab) (.pair (.fn (.pair ab .unit) (.pair .bool .unit)) .unit))
abbrev gi : Ty := (.pair (.int .i64) .unit)
theorem kp : Try.prog.funcs[co]? = some aE := Try.func92
abbrev kR : Nat := 93
noncomputable abbrev au : Func := Try.f93
theorem qc : Try.prog.funcs[kR]? = some au := Try.func93
abbrev cW : Nat := 99
noncomputable abbrev cB : Func := Try.f99
abbrev lN : Ty := (.pair (.slc ag) (.pair (.fn (.pair ag .unit) (.pair .bool .unit)) .unit))
abbrev gP : Ty := (.pair (.int .i64) .unit)
theorem rP : Try.prog.funcs[cW]? = some cB := Try.func99
abbrev k7 : Nat := 100
noncomputable abbrev nQ : Func := Try.f100
abbrev rL : Ty := (.pair ag (.pair (.ref (.int .i64)) .unit))
abbrev rG : Ty := (.pair .bool .unit)
theorem A6 : Try.prog.funcs[k7]? = some nQ := Try.func100
abbrev d7 : Nat := 101
noncomputable abbrev gp : Func := Try.f101
abbrev jL : Ty := (.pair (.slc ag) (.pair (.fn (.pair ag .unit) (.pair .bool .unit)) .unit))
abbrev jK : Ty := (.pair .bool .unit)
theorem pN : Try.prog.funcs[d7]? = some gp := Try.func101
abbrev kP : Nat := 102
noncomputable abbrev n8 : Func := Try.f102
abbrev r9 : Ty := (.pair ag (.pair (.ref ab) .unit))
abbrev rZ : Ty := (.pair .bool .unit)
theorem AE : Try.prog.funcs[kP]? = some n8 := Try.func102
abbrev pt : Nat := 103
noncomputable abbrev uh : Func := Try.f103
abbrev yv : Ty := (.pair ag (.pair tId .unit))
abbrev xX : Ty := (.pair .bool .unit)
theorem Fc : Try.prog.funcs[pt]? = some uh := Try.func103
abbrev pu : Nat := 104
noncomputable abbrev t8 : Func := Try.f104
abbrev yC : Ty := (.pair ag (.pair tId .unit))
abbrev r6 : Ty := (.pair ab (.pair .bool (.pair (.int .i64) .unit)))
theorem GF : Try.prog.funcs[pu]? = some t8 := Try.func104
abbrev kY : Nat := 107
noncomputable abbrev oc : Func := Try.f107
abbrev sq : Ty := (.pair ab (.pair (.ref (.int .i64)) .unit))
abbrev sP : Ty := (.pair .bool .unit)
theorem AF : Try.prog.funcs[kY]? = some oc := Try.func107
abbrev ed : Nat := 108
noncomputable abbrev bM : Func := Try.f108
abbrev fY : Ty := (.pair (.slc ab) .unit)
theorem pH : Try.prog.funcs[ed]? = some bM := Try.func108
abbrev jO : Nat := 113
noncomputable abbrev jZ : Func := Try.f113
abbrev qA : Ty := (.pair (.int .u8) .unit)
abbrev qB : Ty := (.pair .bool .unit)
theorem zr : Try.prog.funcs[jO]? = some jZ := Try.func113
abbrev pD : Nat := 114
noncomputable abbrev uw : Func := Try.f114
abbrev yz : Ty := (.pair ab (.pair (.ref (.int .i64)) .unit))
abbrev xL : Ty := (.pair .bool .unit)
theorem GC : Try.prog.funcs[pD]? = some uw := Try.func114
abbrev al : Nat := 115
noncomputable abbrev qz : Func := Try.f115
abbrev vH : Ty := (.pair ab (.pair (.ref ag) (.pair (.ref (.slc (.int .i64))) .unit)))
abbrev vj : Ty := (.pair .bool .unit)
theorem Dx : Try.prog.funcs[al]? = some qz := Try.func115
abbrev gc : Nat := 116
noncomputable abbrev jo : Func := Try.f116
abbrev mI : Ty := (.pair (.slc (.int .i64)) (.pair (.int .i64) .unit))
abbrev mM : Ty := (.pair .bool .unit)
theorem uo : Try.prog.funcs[gc]? = some jo := Try.func116
abbrev kf : Nat := 117
noncomputable abbrev ap : Func := Try.f117
theorem pV : Try.prog.funcs[kf]? = some ap := Try.func117
abbrev gb : Nat := 118
noncomputable abbrev jk : Func := Try.f118
theorem uu : Try.prog.funcs[gb]? = some jk := Try.func118
abbrev iC : Nat := 119
noncomputable abbrev nN : Func := Try.f119
abbrev Ag : Ty := (.pair tId (.pair tId (.pair tId .unit)))
abbrev uy : Ty := (.pair .bool .unit)
theorem G4 : Try.prog.funcs[iC]? = some nN := Try.func119
abbrev bW : Nat := 121
noncomputable abbrev aX : Func := Try.f121
theorem kN : Try.prog.funcs[bW]? = some aX := Try.func121
abbrev nU : Nat := 122
noncomputable abbrev od : Func := Try.f122
theorem vq : Try.prog.funcs[nU]? = some od := Try.func122
abbrev jR : Nat := 125
noncomputable abbrev aP : Func := Try.f125
abbrev qC : Ty := (.pair tId (.pair tId (.pair (.slc ab) .unit)))
abbrev mw : Ty := (.pair ab (.pair (.int .i64) .unit))
theorem zy : Try.prog.funcs[jR]? = some aP := Try.func125
abbrev fa : Nat := 127
noncomputable abbrev rS : Func := Try.f127
theorem qI : Try.prog.funcs[fa]? = some rS := Try.func127
abbrev iO : Nat := 128
noncomputable abbrev dC : Func := Try.f128
abbrev oJ : Ty := (.pair (.slc (.int .i64)) (.pair (.int .i64) .unit))
abbrev oK : Ty := (.pair (.int .i64) .unit)
theorem xj : Try.prog.funcs[iO]? = some dC := Try.func128
abbrev iE : Nat := 131
noncomputable abbrev lB : Func := Try.f131
abbrev oI : Ty := (.pair ab (.pair (.ref tId) (.pair (.ref tId) .unit)))
abbrev oM : Ty := (.pair .bool .unit)
theorem xi : Try.prog.funcs[iE]? = some lB := Try.func131
abbrev mE : Nat := 132
noncomputable abbrev mS : Func := Try.f132
theorem sX : Try.prog.funcs[mE]? = some mS := Try.func132
abbrev lj : Nat := 135
noncomputable abbrev bS : Func := Try.f135
theorem qV : Try.prog.funcs[lj]? = some bS := Try.func135
end
end Go.Proofs.Ytimdnodkabnbfaa
namespace Go.Proofs.Ytimdnodkabnbfaa
open Go Go.RowKit
theorem bG {σ : Type} (n : Nat) (Inv : Nat → σ → Prop) (Q : Nat → σ → Prop) (step : ∀ i s, i < n → Inv i s → (∀ s', Inv (i + 1) s' → Q (i + 1) s') → Q i s) (last : ∀ s, Inv n s → Q n s) : ∀ (i : Nat) (s : σ), i ≤ n → Inv i s → Q i s := by
 intro i s hi
 obtain ⟨k, hk⟩ : ∃ k, k + i = n := ⟨n - i, by omega⟩
 induction k generalizing i s with
 | zero =>
  have e : i = n := by omega
  subst e
  exact last s
 | succ k ih =>
  intro hI
  exact step i s (by omega) hI fun s' h' => ih (i + 1) s' (by omega) (by omega) h'
theorem cF {e : Ty} (t : List (den e)) {i : Nat} : (decide ((i : Int) < lnx e t)) = decide (i < t.length) := by
 rw [Bool.eq_iff_iff, decide_eq_true_eq, decide_eq_true_eq]
 exact ⟨fun h => by have h : (i : Int) < (t.length : Int) := h; omega, fun h => by show (i : Int) < (t.length : Int); omega⟩
theorem dr {n : Int} (h : -1000000000000000 ≤ n ∧ n ≤ 1000000000000000) : IntKind.wrap .i64 n = n := KS (by omega) (by omega)
theorem Dz {e : Ty} (xs : List (den e)) {n : Nat} (h : n = xs.length) : pz e xs 0 n = xs := by
 unfold pz; rw [h, List.drop_zero, List.take_length]
theorem I8 {e : Ty} (xs : List (den e)) {n : Nat} : pz e xs 0 n = xs.take n := by
 unfold pz; rw [List.drop_zero]
theorem AV {α : Type} {zs ys : List α} {i : Nat} (h : i + ys.length ≤ zs.length) : (over zs i ys).length = zs.length := by
 unfold over; simp only [List.length_append, List.length_take, List.length_drop]; omega
theorem JV {α : Type} {zs ys : List α} {i : Nat} (h : i ≤ zs.length) : (over zs i ys).take (i + ys.length) = zs.take i ++ ys := by
 unfold over
 rw [List.take_append_of_le_length (by rw [List.length_append, List.length_take, Nat.min_eq_left h]; exact Nat.le_refl _), List.take_of_length_le]
 rw [List.length_append, List.length_take, Nat.min_eq_left h]; exact Nat.le_refl _
theorem GW {α : Type} {zs ys : List α} {i n : Nat} (h : n ≤ i) (h' : i ≤ zs.length) : (over zs i ys).take n = zs.take n := by
 unfold over
 rw [List.append_assoc, List.take_append_of_le_length (by rw [List.length_take, Nat.min_eq_left h']; exact h), List.take_take, Nat.min_eq_left h]
theorem bD {P : af → Prop} {A : Type} {e : A} {f : A → af} (h : P (f e)) : ∀ q, q = e → P (f q) := fun q hq => by cases hq; exact h
theorem Fr {n : Int} (h : 0 ≤ n ∧ n ≤ 255) : IntKind.wrap .u8 n = n := by
 unfold IntKind.wrap
 simp only [IntKind.signed, IntKind.bits]
 simp
 omega
end Go.Proofs.Ytimdnodkabnbfaa
namespace Go.Proofs.Ytimdnodkabnbfaa
open Go Go.RowKit
def eX : (t : Ty) → den t → List Value
 | .int k, x => [.int k x]
 | .bool, x => [.bool x]
 | .str, x => [.string x]
 | .unit, _ => []
 | .pair a b, x => eX a x.1 ++ eX b x.2
 | .st b, x => eX b x
 | .arr _ e, x => x.flatMap (eX e)
 | .slc _, _ => []
 | .fn _ _, _ => []
 | .ref _, _ => []
 | .mp _ _, _ => []
 | .clo _ _, _ => []
theorem pv {α β : Type} {f : α → List β} {k : Nat} : ∀ {xs : List α}, (∀ x ∈ xs, (f x).length = k) → (xs.flatMap f).length = xs.length * k
 | [], _ => by simp
 | x :: xs, h => by
  rw [List.flatMap_cons, List.length_append, h x List.mem_cons_self, pv fun y hy => h y (List.mem_cons_of_mem _ hy), List.length_cons, Nat.add_mul, Nat.one_mul, Nat.add_comm]
theorem wz {P : Program} {O : Nat → Prop} {w : World} {e : Ty} {ok : den e → Prop} (h : ∀ cs x, Rep P e .cells O w cs x → cs = eX e x ∧ ok x) : ∀ {xs : List (den e)} {L : List Value}, RepAll (fun cs x => Rep P e .cells O w cs x) (siz e) L xs → L = xs.flatMap (eX e) ∧ ∀ x ∈ xs, ok x
 | [], L, hh => ⟨by rw [show L = [] from hh]; rfl, fun x hx => by cases hx⟩
 | x :: xs, L, hh => by
  obtain ⟨h1, h2⟩ := hh
  obtain ⟨e1, o1⟩ := h _ _ h1
  obtain ⟨e2, o2⟩ := wz h h2
  refine ⟨?_, fun y hy => ?_⟩
  ·rw [List.flatMap_cons, ← e1, ← e2, List.take_append_drop]
  ·rcases List.mem_cons.1 hy with rfl | hy
   ·exact o1
   ·exact o2 y hy
theorem wu {P : Program} {O : Nat → Prop} {w : World} {e : Ty} {ok : den e → Prop} (h : ∀ x, ok x → Rep P e .cells O w (eX e x) x) (hl : ∀ x, ok x → (eX e x).length = siz e) : ∀ {xs : List (den e)}, (∀ x ∈ xs, ok x) → RepAll (fun cs x => Rep P e .cells O w cs x) (siz e) (xs.flatMap (eX e)) xs
 | [], _ => rfl
 | x :: xs, hh => by
  have hx := hh x List.mem_cons_self
  refine ⟨?_, ?_⟩
  ·rw [List.flatMap_cons, List.take_append_of_le_length (by rw [hl x hx]; exact Nat.le_refl _), List.take_of_length_le (by rw [hl x hx]; exact Nat.le_refl _)]
   exact h x hx
  ·rw [List.flatMap_cons, List.drop_append_of_le_length (by rw [hl x hx]; exact Nat.le_refl _), List.drop_of_length_le (by rw [hl x hx]; exact Nat.le_refl _), List.nil_append]
   exact wu h hl fun y hy => hh y (List.mem_cons_of_mem _ hy)
theorem MD {P : Program} {O : Nat → Prop} {w : World} : ∀ {t : Ty}, eP t = true → ∀ cs x, Rep P t .cells O w cs x → cs = eX t x ∧ okT t x := by
 intro t
 induction t with
 | int k => intro _ cs x h; exact ⟨h.1, h.2⟩
 | bool => intro _ cs x h; exact ⟨h, trivial⟩
 | str => intro _ cs x h; exact ⟨h.1, h.2⟩
 | unit => intro _ cs x h; exact ⟨h, trivial⟩
 | pair a b iha ihb =>
  intro hf cs x h
  simp only [eP, Bool.and_eq_true] at hf
  obtain ⟨e1, o1⟩ := iha hf.1 _ _ h.1
  obtain ⟨e2, o2⟩ := ihb hf.2 _ _ h.2
  refine ⟨?_, o1, o2⟩
  show cs = eX a x.1 ++ eX b x.2
  rw [← e1, ← e2, List.take_append_drop]
 | st b ih => intro hf cs x h; exact ih hf cs x h
 | arr n e ih =>
  intro hf cs x h
  obtain ⟨e1, o1⟩ := wz (ok := okT e) (ih hf) h.2
  exact ⟨e1, h.1, o1⟩
 | _ => intro hf; cases hf
theorem rB : ∀ {t : Ty}, eP t = true → ∀ x, okT t x → (eX t x).length = siz t := by
 intro t
 induction t with
 | int k => intro _ x _; rfl
 | bool => intro _ x _; rfl
 | str => intro _ x _; rfl
 | unit => intro _ x _; rfl
 | pair a b iha ihb =>
  intro hf x h
  simp only [eP, Bool.and_eq_true] at hf
  show (eX a x.1 ++ eX b x.2).length = siz a + siz b
  rw [List.length_append, iha hf.1 _ h.1, ihb hf.2 _ h.2]
 | st b ih => intro hf x h; exact ih hf x h
 | arr n e ih =>
  intro hf x h
  show (List.flatMap (eX e) x).length = n * siz e
  rw [pv fun y hy => ih hf y (h.2 y hy), h.1]
 | _ => intro hf; cases hf
theorem CR {P : Program} {O : Nat → Prop} {w : World} : ∀ {t : Ty}, eP t = true → ∀ x, okT t x → Rep P t .cells O w (eX t x) x := by
 intro t
 induction t with
 | int k => intro _ x h; exact ⟨rfl, h⟩
 | bool => intro _ x _; rfl
 | str => intro _ x h; exact ⟨rfl, h⟩
 | unit => intro _ x _; rfl
 | pair a b iha ihb =>
  intro hf x h
  simp only [eP, Bool.and_eq_true] at hf
  have hl := rB hf.1 _ h.1
  refine ⟨?_, ?_⟩
  ·show Rep P a .cells O w ((eX a x.1 ++ eX b x.2).take (siz a)) x.1
   rw [List.take_append_of_le_length (by rw [hl]; exact Nat.le_refl _), List.take_of_length_le (by rw [hl]; exact Nat.le_refl _)]
   exact iha hf.1 _ h.1
  ·show Rep P b .cells O w ((eX a x.1 ++ eX b x.2).drop (siz a)) x.2
   rw [List.drop_append_of_le_length (by rw [hl]; exact Nat.le_refl _), List.drop_of_length_le (by rw [hl]; exact Nat.le_refl _), List.nil_append]
   exact ihb hf.2 _ h.2
 | st b ih => intro hf x h; exact ih hf x h
 | arr n e ih => intro hf x h; exact ⟨h.1, wu (ok := okT e) (ih hf) (rB hf) h.2⟩
 | _ => intro hf; cases hf
theorem Lp : ∀ {t : Ty}, eP t = true → ∀ x, ∀ v ∈ eX t x, v.oneCell' = true := by
 intro t
 induction t with
 | int k => intro _ x v hv; rw [List.mem_singleton.1 hv]; rfl
 | bool => intro _ x v hv; rw [List.mem_singleton.1 hv]; rfl
 | str => intro _ x v hv; rw [List.mem_singleton.1 hv]; rfl
 | unit => intro _ x v hv; cases hv
 | pair a b iha ihb =>
  intro hf x v hv
  simp only [eP, Bool.and_eq_true] at hf
  rcases List.mem_append.1 hv with hv | hv
  ·exact iha hf.1 _ v hv
  ·exact ihb hf.2 _ v hv
 | st b ih => intro hf x; exact ih hf x
 | arr n e ih =>
  intro hf x v hv
  obtain ⟨y, _, hy⟩ := List.mem_flatMap.1 hv
  exact ih hf y v hy
 | _ => intro hf; cases hf
theorem Bj {α : Type} [Inhabited α] {f : α → List Value} {k : Nat} (hk : ∀ x, (f x).length = k) : ∀ (xs : List α) (t : Nat), t < xs.length * k → (xs.flatMap f)[t]? = (f (xs[t / k]?.getD default))[t % k]?
  | [], t, h => by simp at h
  | x :: xs, t, h => by
    rw [List.flatMap_cons, List.getElem?_append, hk]
    have k0 : 0 < k := by rcases Nat.eq_zero_or_pos k with e | e
                          · subst e; simp at h
                          · exact e
    split
    · rename_i hlt
      rw [Nat.div_eq_of_lt hlt, Nat.mod_eq_of_lt hlt]
      rfl
    · rename_i hge
      have hge : k ≤ t := by omega
      rw [List.length_cons, Nat.add_mul, Nat.one_mul] at h
      rw [Bj hk xs (t - k) (by omega)]
      have e1 : t / k = (t - k) / k + 1 := by
        rw [Nat.div_eq_sub_div k0 hge]
      have e2 : t % k = (t - k) % k := Nat.mod_eq_sub_mod hge
      rw [e1, e2]
      rfl
theorem yQ {α : Type} [Inhabited α] (enc : α → List Value) (k : Nat) (hk : ∀ x, (enc x).length = k) (d : Array α) : (Sort.flatK enc k d).toList = d.toList.flatMap enc := by
 apply List.ext_getElem?
 intro t
 by_cases h : t < d.size * k
 ·have hl : t < (Sort.flatK enc k d).size := by rw [Sort.size_flatK]; exact h
  have h1 : (Sort.flatK enc k d)[t]? = some ((Sort.flatK enc k d)[t]!) := by rw [getElem!_pos (Sort.flatK enc k d) t hl, Array.getElem?_eq_getElem hl]
  rw [Array.getElem?_toList, h1, Sort.get_flatK enc k d t h, Bj hk d.toList t (by rw [Array.length_toList]; exact h)]
  have e : d.toList[t / k]?.getD default = d[t / k]! := by rw [Array.getElem?_toList, getElem!_def]; cases d[t / k]? <;> rfl
  rw [e]
  have hm : t % k < (enc d[t / k]!).length := by
   rw [hk]
   refine Nat.mod_lt _ ?_
   rcases Nat.eq_zero_or_pos k with e | e
   ·subst e; simp at h
   ·exact e
  rw [List.getElem?_eq_getElem hm, getElem!_pos (enc d[t / k]!) (t % k) hm]
 ·rw [List.getElem?_eq_none (by rw [Array.length_toList, Sort.size_flatK]; omega), List.getElem?_eq_none (by rw [pv (k := k) (fun x _ => hk x), Array.length_toList]; omega)]
theorem KT {α : Type} [Inhabited α] {enc : α → List Value} {k : Nat} (hk : ∀ x, (enc x).length = k) {w : World} {g off : Nat} {d : Array α} {arr : Array Value} {eid : TypeId} (hg : w.heap[g]? = some (.cells arr eid (0, 0))) (hL : (arr.toList.drop off).take (d.size * k) = d.toList.flatMap enc) (hb : off + d.size * k ≤ arr.size) :
    Sort.HoldsK enc k w g off d := by
  intro j hj
  have hj' : j < d.size * k := by rw [Sort.size_flatK] at hj; exact hj
  have e1 : (Sort.flatK enc k d).toList[j]? = some ((Sort.flatK enc k d)[j]!) := by rw [Array.getElem?_toList, getElem!_pos (Sort.flatK enc k d) j hj, Array.getElem?_eq_getElem hj]
  rw [yQ enc k hk, ← hL, List.getElem?_take, if_pos hj', List.getElem?_drop, Array.getElem?_toList] at e1
  refine ⟨?_, ?_⟩
  · show (match w.heap[g]? with | some (.cells c _ _) => if (none : Option _).isSome then none else c[off + j]? | _ => none) = _
    rw [hg]
    exact e1
  · show (match w.heap[g]? with | some (.cells _ _ (lo, hi)) => decide (lo ≤ off + j) && decide (off + j < hi) | _ => false) = false
    rw [hg]
    simp
theorem Bz {F arr : Array Value} {off : Nat} (h : off + F.size ≤ arr.size) : Sort.putCells id off F arr = (ar arr.toList off F.toList).toArray := by
 apply Array.ext_getElem?
 intro i
 unfold Sort.putCells ar
 simp only [List.append_assoc]
 refine Eq.trans ?_ (List.getElem?_toArray ..).symm
 rw [Array.getElem?_mapIdx, List.getElem?_append, List.length_take, Array.length_toList, Nat.min_eq_left (by omega), List.getElem?_append, Array.length_toList, List.getElem?_take, List.getElem?_drop, Array.getElem?_toList, Array.getElem?_toList, Array.getElem?_toList]
 by_cases h1 : i < off
 ·rw [if_pos h1, if_pos h1]
  have : arr[i]? = some arr[i] := Array.getElem?_eq_getElem (by omega)
  rw [this, Option.map_some, if_neg (by omega)]
 ·rw [if_neg h1]
  by_cases h2 : i - off < F.size
  ·have : arr[i]? = some arr[i] := Array.getElem?_eq_getElem (by omega)
   rw [if_pos h2, this, Option.map_some, if_pos ⟨by omega, by omega⟩, Array.getElem?_eq_getElem h2]
   congr 1
   exact getElem!_pos F (i - off) h2
  ·rw [if_neg h2, show off + F.size + (i - off - F.size) = i by omega]
   cases e : arr[i]? with
   | none => rfl
   | some z => rw [Option.map_some, if_neg (by omega)]
theorem J9 {α : Type} [Inhabited α] {enc : α → List Value} {k : Nat} (hk : ∀ x, (enc x).length = k) {w : World} {g off n : Nat} {d : Array α} {os : Array Obj} {arr : Array Value} {eid : TypeId} (hg : w.heap[g]? = some (.cells arr eid (0, 0))) (hb : off + d.size * k ≤ arr.size) :
    Kept (w.setRow g (ar arr.toList off (d.toList.flatMap enc)).toArray) (Go.Proofs.sortWorldK enc k w g off n d os) := by
  have hF : (Sort.flatK enc k d).size = d.size * k := Sort.size_flatK ..
  have e0 : Sort.putCells id off (Sort.flatK enc k d) arr = (ar arr.toList off (d.toList.flatMap enc)).toArray := by
    rw [Bz (by rw [hF]; exact hb), yQ enc k hk]
  have hlt : g < w.heap.size := (Array.getElem?_eq_some_iff.1 hg).1
  have hheap : (Sort.putRowK enc k (Sort.ahead w n) g off d).heap = (w.setRow g (ar arr.toList off (d.toList.flatMap enc)).toArray).heap := by
    apply Array.ext_getElem?
    intro b
    show (w.heap.modify g (Sort.onCells (Sort.putCells id off (Sort.flatK enc k d))))[b]? = _
    by_cases hbg : b = g
    · subst hbg
      rw [setRow_heap w b arr _ eid (0, 0) hg, Array.getElem?_modify, if_pos rfl, hg, Option.map_some]
      show some (Obj.cells (Sort.putCells id off (Sort.flatK enc k d) arr) eid (0, 0)) = _
      rw [e0]
    · rw [setRow_other w g b _ hbg, Array.getElem?_modify, if_neg (Ne.symm hbg)]
  refine ⟨rfl, ⟨rfl, fun _ => Nat.le_add_right _ _⟩, rfl, ?_, fun b hb' => ?_⟩
  · show _ ≤ ((Sort.putRowK enc k (Sort.ahead w n) g off d).heap ++ os).size
    rw [hheap, Array.size_append]
    exact Nat.le_add_right _ _
  · show ((Sort.putRowK enc k (Sort.ahead w n) g off d).heap ++ os)[b]? = _
    rw [hheap, Array.getElem?_append, if_pos hb']
theorem Gm {w w' : World} (h : Kept w w') : ∃ q os, w' = Sort.grow (w.drewN q) os := by
 obtain ⟨h1, h2, h3, h4, h5⟩ := h
 refine ⟨w'.drawn - w.drawn, w'.heap.extract w.heap.size w'.heap.size, ?_⟩
 have hd := h2.le trivial
 have hh : w'.heap = w.heap ++ w'.heap.extract w.heap.size w'.heap.size := by
  apply Array.ext_getElem?
  intro b
  rw [Array.getElem?_append]
  split
  ·rename_i hb; exact h5 b hb
  ·rename_i hb
   rw [Array.getElem?_extract, Nat.add_sub_cancel' (by omega)]
   split
   ·rfl
   ·rename_i hb'
    exact Array.getElem?_eq_none (by omega)
 have ht := h2.eq
 cases w
 cases w'
 simp only at h1 h3 hh hd ht
 unfold Sort.grow World.drewN
 simp only [World.mk.injEq]
 exact ⟨hh, ht, by omega, h1, h3⟩
abbrev InT (e : Ty) (xs : List (den e)) := {x : den e // okT e x ∧ x ∈ xs}
abbrev tN (e : Ty) : Ty := .fn (.pair e (.pair e .unit)) (.pair ae .unit)
def cfD (e : Ty) (f : den (tN e)) (x y : den e) : Int := (EU (a := .pair e (.pair e .unit)) (r := .pair ae .unit) f (x, y, ())).1
def ltD (e : Ty) (f : den (tN e)) (x y : den e) : Bool := decide (cfD e f x y < 0)
def qa (e : Ty) (xs : List (den e)) (x : InT e xs) : List Value := eX e x.1
theorem Ld {P : Program} {e : Ty} (hfl : eP e = true) (hag : isAgg e = true) {xs : List (den e)} [Inhabited (InT e xs)] {O : Nat → Prop} {w : World} {g : Nat} (hO : ∀ b, O b → b < w.heap.size) (hg : O g) {q : den (.pair e (.pair e .unit)) → den (.pair ae .unit)} {f : FuncId} {cb : Array Value}
    (hf : ∀ O' w', Lat O w O' w' → (∀ g, O' g → g < w'.heap.size) → ∀ vs x, Rep P (.pair e (.pair e .unit)) .chain O' w' vs x → Calls P f (vs.toArray ++ cb) w' fun e' w'' => ∃ v, e' = .returned v ∧ Kept w' w'' ∧ Rep P (.pair ae .unit) .result O' w'' [v] (q x))
    {off size : Nat} : Go.Proofs.CmpLays P f cb (qa e xs) (siz e) (fun x y => cfD e (some q) x.1 y.1) g off size w := by
  intro m os dk hs x y
  have hlat : Lat O w O (Go.Proofs.sortWorldK (qa e xs) (siz e) w g off m dk os) := by
    refine ⟨?_, fun b hb hnb => ⟨?_, hnb⟩⟩
    · show _ ≤ ((w.heap.modify g _) ++ os).size
      rw [Array.size_append, Array.size_modify]
      exact Nat.le_add_right _ _
    · have hbg : ¬ g = b := fun h => hnb (h ▸ hg)
      show ((w.heap.modify g _) ++ os)[b]? = _
      rw [Array.getElem?_append, if_pos (by rw [Array.size_modify]; exact hb), Array.getElem?_modify, if_neg hbg]
  have hx : Rep P (.pair e (.pair e .unit)) .chain O (Go.Proofs.sortWorldK (qa e xs) (siz e) w g off m dk os) [.agg (qa e xs x).toArray, .agg (qa e xs y).toArray] (x.1, y.1, ()) := by
    have e1 : ∀ z : InT e xs, Value.agg (qa e xs z).toArray = az e (eX e z.1) := fun z => by unfold az; rw [hag]; rfl
    rw [e1 x, e1 y]
    exact ⟨[az e (eX e y.1)], eX e x.1, rfl, CR hfl _ x.2.1, [], eX e y.1, rfl, CR hfl _ y.2.1, rfl⟩
  have := hf O _ hlat (fun b hb => Nat.lt_of_lt_of_le (hO b hb) hlat.size) _ _ hx
  refine Calls.mono this ?_
  rintro e' w'' ⟨v, rfl, hk, rest, cs, hv, hi, hr⟩
  refine ⟨?_, ?_⟩
  · have hi : cs = [.int .i64 (q (x.1, y.1, ())).1] := hi.1
    subst hi
    have hv : [v] = [Value.int .i64 (q (x.1, y.1, ())).1] := hv
    have : v = Value.int .i64 (q (x.1, y.1, ())).1 := by simpa using hv
    rw [this]
    rfl
  · exact Gm hk
def fT (e : Ty) (f : den (tN e)) (xs : List (den e)) : List (den e) := xs.mergeSort fun x y => !ltD e f y x
structure ji (e : Ty) (f : den (tN e)) (xs : List (den e)) : Prop where
 fn : Ju (a := .pair e (.pair e .unit)) (r := .pair ae .unit) f
 swo : Sort.SWO (ltD e f)
 tot : ∀ x ∈ xs, ∀ y ∈ xs, ltD e f x y = false → ltD e f y x = false → x = y
 len : xs.length ≤ 1000000
@[reducible] def Mf (e : Ty) : eN := ⟨e, true, .pair (tN e) .unit, false, fun xs y => ji e y.1 xs, fun xs y => fT e y.1 xs⟩
theorem Lt {P : Program} {Gl : gZ} {e : Ty} (hfl : eP e = true) (hag : isAgg e = true) {fid : FuncId} (can : gW P fid)
    (none : ∀ (p : Option Addr) (cap : Nat) (fv : Value) (w : World), Calls P fid #[.slice p 0 cap, fv] w fun e' w' => e' = .returned (.tuple #[]) ∧ w' = w)
    (tot : ∀ {α : Type} [Inhabited α] (enc : α → List Value) (_ : ∀ x, (enc x).length = siz e) (_ : ∀ x, ∀ v ∈ enc x, v.oneCell' = true) (cf : α → α → Int) (_ : Sort.SWO (Go.Proofs.ltOf cf)) (g : Nat) (cb : Array Value) (blk off cap : Nat) (d : Array α) (w : World)
      (_ : ∀ args w, (callFunc g args).run P w = .ok (.enter g args) w) (_ : Go.Proofs.CmpLays P g cb enc (siz e) cf blk off d.size w) (_ : Sort.HoldsK enc (siz e) w blk off d) (_ : blk < w.heap.size) (_ : d.size < 4611686018427387904) (_ : ∀ x y, (Go.Proofs.ltOf cf) x y = false → (Go.Proofs.ltOf cf) y x = false → x = y),
      Calls P fid #[.slice (some ⟨blk, off, Option.none⟩) d.size cap, .func (.func g) #[] cb] w fun e' w' => e' = .returned (.tuple #[]) ∧ ∃ n os, w' = Go.Proofs.sortWorldK enc (siz e) w blk off n (d.toList.mergeSort fun x y => !(Go.Proofs.ltOf cf) y x).toArray os) :
    qZ P Gl fid (Mf e) := by
  refine ⟨can, rfl, fun xs y _ => List.length_mergeSort .., fun O w a0 c vs y hO hgl hv hp => ?_, fun O w g off c arr eid xs vs y hO hg hgl hne hrow hb hc hm hrep hv hp => ?_⟩
  · obtain ⟨rest, cs, rfl, hf, hr⟩ := hv
    have hr : rest = [] := hr
    subst hr
    refine Calls.mono (none a0 c _ w) fun e' w' he => ⟨he.1, by rw [he.2]; exact Kept.refl w⟩
  · obtain ⟨f, ⟨⟩⟩ := y
    obtain ⟨rest, cs, rfl, hf, hr⟩ := hv
    have hr : rest = [] := hr
    subst hr
    obtain ⟨q, hq⟩ := hp.fn
    have hq : f = some q := hq
    subst hq
    obtain ⟨fi, captured, rfl, hcan, hdo⟩ := hf
    obtain ⟨hL, hok⟩ := wz (ok := okT e) (MD hfl) hrep
    have hlx : xs.length ≤ 1000000 := hp.len
    let ys : List (InT e xs) := xs.attach.map fun x => ⟨x.1, hok x.1 x.2, x.2⟩
    have hys : ys.map (·.1) = xs := by
      show (xs.attach.map _).map _ = xs
      rw [List.map_map]
      exact List.attach_map_subtype_val xs
    have hyl : ys.length = xs.length := by simpa using congrArg List.length hys
    obtain ⟨y0, hy0⟩ : ∃ y0, y0 ∈ ys := by
      cases hc0 : ys with
      | nil => rw [hc0] at hys; exact absurd hys.symm hne
      | cons z zs => exact ⟨z, List.mem_cons_self⟩
    haveI : Inhabited (InT e xs) := ⟨y0⟩
    have hflat : ∀ zs : List (InT e xs), zs.flatMap (qa e xs) = (zs.map (·.1)).flatMap (eX e) := fun zs => by
      rw [List.flatMap_map]
      rfl
    have hk : ∀ x, (qa e xs x).length = siz e := fun x => rB hfl _ x.2.1
    have hnb : ¬ e = .int .u8 := fun h => by rw [h] at hag; cases hag
    obtain ⟨fz, hgr, hfz⟩ := hrow
    have hfz : fz = (0, 0) := hfz.resolve_right fun h => hnb h.1
    subst hfz
    have hlt : g < w.heap.size := (Array.getElem?_eq_some_iff.1 hgr).1
    have hsz : ys.toArray.size = xs.length := by rw [List.size_toArray, hyl]
    have hH : Sort.HoldsK (qa e xs) (siz e) w g off ys.toArray := KT hk hgr (by rw [hsz, hL]; show _ = ys.flatMap (qa e xs); rw [hflat, hys]) (by rw [hsz]; exact hb)
    have := tot (qa e xs) hk (fun x => Lp hfl x.1) (fun x y => cfD e (some q) x.1 y.1) ⟨fun x => hp.swo.irrefl x.1, fun x y z => hp.swo.trans x.1 y.1 z.1, fun x y z => hp.swo.ntrans x.1 y.1 z.1⟩ fi captured g off c ys.toArray w hcan (Ld hfl hag hO hg hdo) hH hlt (by rw [hsz]; omega)
      (fun x y h1 h2 => Subtype.ext (hp.tot x.1 x.2.2 y.1 y.2.2 h1 h2))
    rw [hsz] at this
    refine Calls.mono this ?_
    rintro e' w' ⟨rfl, n, os, rfl⟩
    refine ⟨rfl, (fT e (some q) xs).flatMap (eX e), ?_, ?_, ?_⟩
    · have hmem : ∀ x ∈ fT e (some q) xs, x ∈ xs := fun x hx => (List.mem_mergeSort).1 hx
      have hlen : (fT e (some q) xs).length = xs.length := List.length_mergeSort ..
      rw [pv (k := siz e) fun x hx => rB hfl x (hok x (hmem x hx)), hlen]
    · have hmem : ∀ x ∈ fT e (some q) xs, x ∈ xs := fun x hx => (List.mem_mergeSort).1 hx
      exact wu (ok := okT e) (CR hfl) (rB hfl) fun x hx => hok x (hmem x hx)
    · have hs : ((ys.mergeSort fun x y => !(Go.Proofs.ltOf fun (x y : InT e xs) => cfD e (some q) x.1 y.1) y x).map (·.1)) = fT e (some q) xs := by
        have := List.map_mergeSort (r := fun x y => !(Go.Proofs.ltOf fun (x y : InT e xs) => cfD e (some q) x.1 y.1) y x) (s := fun x y => !ltD e (some q) y x) (f := fun x : InT e xs => x.1) (l := ys) (fun a _ b _ => rfl)
        rw [hys] at this
        exact this
      have hk2 := J9 (enc := qa e xs) hk (n := n) (os := os) (d := (ys.mergeSort fun x y => !(Go.Proofs.ltOf fun (x y : InT e xs) => cfD e (some q) x.1 y.1) y x).toArray) hgr (off := off) (by rw [List.size_toArray, List.length_mergeSort, hyl]; exact hb)
      rw [hflat, hs] at hk2
      exact hk2
end Go.Proofs.Ytimdnodkabnbfaa
namespace Go.Proofs.Ytimdnodkabnbfaa
open Go Go.RowKit
noncomputable abbrev ni : aJ := { T := br, F := [], n := (jZ).ntmps }
noncomputable abbrev rD : Ann := { }
theorem A2 : cQ prog ni := CW ((aU aY aM))
theorem zp : eR ni = true := by kernel_rfl
noncomputable def so (x : den (Ty.int IntKind.u8)) : bu := bu.ret (K.val (Ty.pair Ty.bool Ty.unit) (!decide (x = x), PUnit.unit))
theorem xh (x : den (Ty.int IntKind.u8)) : gA ni rD qB jZ 1000 (aF jZ) (Env.of (aK qA (x, ()) 0) []) = so x := by kernel_rfl
end Go.Proofs.Ytimdnodkabnbfaa
namespace Go.Proofs.Ytimdnodkabnbfaa
open Go Go.RowKit
noncomputable abbrev nl : bA := ⟨qA, qB, fun _ => (false, ()), fun _ => True, true⟩
theorem AX : ay prog [] jO nl :=
 Dy A2 zp zr (by kernel_rfl) (fun _ _ => trivial) (A := rD) (T := fun x => so x.1) (fun x => xh x.1) fun O w0 x _ _ => by
  refine ⟨_, rfl, ?_⟩
  simp
theorem zl (x y : den tId) : eqb tId x y = decide (x = y) := by
 have := nC (t := tId) rfl x y
 cases h : eqb tId x y
 ·have : ¬ x = y := fun e => by rw [this.2 e] at h; cases h
  simp [this]
 ·simp [this.1 h]
end Go.Proofs.Ytimdnodkabnbfaa
namespace Go.Proofs.Ytimdnodkabnbfaa
open Go Go.RowKit
noncomputable abbrev lx : aJ := { T := br, F := [(jO, nl)], n := (iI).ntmps }
noncomputable abbrev pW : Ann := { }
theorem xC (h_cmp_isNaN_byte : ay prog [] jO nl) : cQ prog lx := CW (ax (aU aY aM) h_cmp_isNaN_byte)
theorem xg : eR lx = true := by kernel_rfl
noncomputable def pM (x : den (Ty.int IntKind.u8)) (y : den (Ty.int IntKind.u8)) : bu := bu.req True (bu.req True (bu.ite false (bu.ite false (bu.ret (K.val (Ty.pair ae Ty.unit) (0, PUnit.unit))) (bu.ret (K.val (Ty.pair ae Ty.unit) (-1, PUnit.unit)))) (bu.ite false (bu.ret (K.val (Ty.pair ae Ty.unit) (1, PUnit.unit))) (bu.ite (decide (x < y)) (bu.ret (K.val (Ty.pair ae Ty.unit) (-1, PUnit.unit))) (bu.ite (decide (y < x)) (bu.ret (K.val (Ty.pair ae Ty.unit) (1, PUnit.unit))) (bu.ret (K.val (Ty.pair ae Ty.unit) (0, PUnit.unit))))))))
theorem uK (x : den (Ty.int IntKind.u8)) (y : den (Ty.int IntKind.u8)) : gA lx pW oF iI 1000 (aF iI) (Env.of (aK oG (x, y, ()) 0) []) = pM x y := by kernel_rfl
noncomputable abbrev kB : aJ := { T := br, F := [], n := (dm).ntmps }
noncomputable abbrev uj : Ann := { loops := [(4, { keep := [2, 3, 4, 5, 6, 7] })] }
theorem ub : cQ prog kB := CW ((aU aY aM))
theorem sr : eR kB = true := by kernel_rfl
noncomputable def Ad (a : den tId) (b : den tId) : bu := bu.loop (lp dm 4) [(2, K.ptr 2 tId []), (3, K.ptr 3 tId []), (4, K.ptr 4 tId []), (5, K.ptr 5 tId []), (6, K.val ae 0), (7, K.val ae 31)] [(2, Bx.cell tId a), (3, Bx.cell tId b), (4, Bx.cell tId (zero tId)), (5, Bx.cell tId (zero tId))]
theorem C3 (a : den tId) (b : den tId) : gA kB uj lD dm 1000 (aF dm) (Env.of (aK yJ (a, b, ()) 0) []) = Ad a b := by kernel_rfl
noncomputable def qw (v6 : den ae) (v7 : den ae) (b2 : den tId) (b3 : den tId) (b4 : den tId) (b5 : den tId) : Env := Env.of [(2, K.ptr 2 tId []), (3, K.ptr 3 tId []), (4, K.ptr 4 tId []), (5, K.ptr 5 tId []), (6, K.val ae v6), (7, K.val ae v7)] [(2, Bx.cell tId b2), (3, Bx.cell tId b3), (4, Bx.cell tId b4), (5, Bx.cell tId b5)]
noncomputable def CB (v6 : den ae) (v7 : den ae) (b2 : den tId) (b3 : den tId) (b4 : den tId) (b5 : den tId) : bu := bu.ite (decide (0 ≤ v7)) (bu.req (inB v7 ↑32) (bu.req (inB v7 ↑32) (bu.ite (decide (IntKind.wrap IntKind.i64 (IntKind.wrap IntKind.i64 (IntKind.wrap IntKind.i64 (el (Ty.int IntKind.u8) b3 v7) - IntKind.wrap IntKind.i64 (el (Ty.int IntKind.u8) b2 v7)) - v6) < 0)) (bu.req (inB v7 ↑32) (bu.loop (lp dm 4) [(2, K.ptr 2 tId []), (3, K.ptr 3 tId []), (4, K.ptr 4 tId []), (5, K.ptr 5 tId []), (6, K.val ae 1), (7, K.val ae (IntKind.wrap IntKind.i64 (v7 - 1)))] [(2, Bx.cell tId b2), (3, Bx.cell tId b3), (4, Bx.cell tId b4), (5, Bx.cell tId (yT (Ty.int IntKind.u8) b5 v7 (IntKind.wrap IntKind.u8 (IntKind.wrap IntKind.i64 (IntKind.wrap IntKind.i64 (IntKind.wrap IntKind.i64 (IntKind.wrap IntKind.i64 (el (Ty.int IntKind.u8) b3 v7) - IntKind.wrap IntKind.i64 (el (Ty.int IntKind.u8) b2 v7)) - v6) + 256)))))])) (bu.req (inB v7 ↑32) (bu.loop (lp dm 4) [(2, K.ptr 2 tId []), (3, K.ptr 3 tId []), (4, K.ptr 4 tId []), (5, K.ptr 5 tId []), (6, K.val ae 0), (7, K.val ae (IntKind.wrap IntKind.i64 (v7 - 1)))] [(2, Bx.cell tId b2), (3, Bx.cell tId b3), (4, Bx.cell tId b4), (5, Bx.cell tId (yT (Ty.int IntKind.u8) b5 v7 (IntKind.wrap IntKind.u8 (IntKind.wrap IntKind.i64 (IntKind.wrap IntKind.i64 (IntKind.wrap IntKind.i64 (el (Ty.int IntKind.u8) b3 v7) - IntKind.wrap IntKind.i64 (el (Ty.int IntKind.u8) b2 v7)) - v6)))))]))))) (bu.ret (K.val (Ty.pair tId Ty.unit) (b5, PUnit.unit)))
theorem qF (v6 : den ae) (v7 : den ae) (b2 : den tId) (b3 : den tId) (b4 : den tId) (b5 : den tId) : gA kB uj lD dm 1000 (lp dm 4) (qw v6 v7 b2 b3 b4 b5) = CB v6 v7 b2 b3 b4 b5 := by kernel_rfl
end Go.Proofs.Ytimdnodkabnbfaa
namespace Go.Proofs.Ytimdnodkabnbfaa
open Go Go.RowKit
def jw (x y : Int) : Int := if x < y then -1 else if y < x then 1 else 0
noncomputable abbrev lk : bA := ⟨oG, oF, fun x => (jw x.1 x.2.1, ()), fun _ => True, true⟩
theorem lE : ay prog [] iM lk :=
 Dy (xC AX) xg xl (by kernel_rfl) (fun _ _ => trivial) (A := pW) (T := fun x => pM x.1 x.2.1) (fun x => uK x.1 x.2.1) fun O w0 x _ _ => by
  refine ⟨trivial, trivial, fun h => (by cases h), fun _ => ⟨fun h => (by cases h), fun _ => ⟨fun h => ⟨_, rfl, ?_⟩, fun h => ⟨fun h' => ⟨_, rfl, ?_⟩, fun h' => ⟨_, rfl, ?_⟩⟩⟩⟩⟩
  ·simp [jw, of_decide_eq_true h]
  ·simp [jw, of_decide_eq_false h, of_decide_eq_true h']
  ·simp [jw, of_decide_eq_false h, of_decide_eq_false h']
end Go.Proofs.Ytimdnodkabnbfaa
namespace Go.Proofs.Ytimdnodkabnbfaa
open Go
def byt (l : List Int) : Prop := ∀ x ∈ l, 0 ≤ x ∧ x ≤ 255
theorem oQ {x : Int} {l : List Int} : byt (x :: l) ↔ (0 ≤ x ∧ x ≤ 255) ∧ byt l := by
 simp [byt]
theorem pY {x : den tId} (h : okT tId x) : x.length = 32 ∧ byt x :=
 ⟨h.1, fun y hy => by
  have : InK .u8 y := h.2 y hy
  have h1 : IntKind.min .u8 = 0 := by decide
  have h2 : IntKind.max .u8 = 255 := by decide
  unfold InK at this
  rw [h1, h2] at this
  exact this⟩
def vB : List Int → Int
 | [] => 0
 | x :: l => x * 256 ^ l.length + vB l
theorem vQ (n : Nat) : (0 : Int) < 256 ^ n := Int.pow_pos (by decide)
theorem nr : ∀ {l : List Int}, byt l → 0 ≤ vB l ∧ vB l < 256 ^ l.length
 | [], _ => by simp [vB]
 | x :: l, h => by
  obtain ⟨hx, hl⟩ := oQ.1 h
  obtain ⟨h1, h2⟩ := nr hl
  have hp := vQ l.length
  have h3 : 0 ≤ x * 256 ^ l.length := Int.mul_nonneg hx.1 (Int.le_of_lt hp)
  have h4 : x * 256 ^ l.length ≤ 255 * 256 ^ l.length := Int.mul_le_mul_of_nonneg_right hx.2 (Int.le_of_lt hp)
  rw [List.length_cons, Int.pow_succ]
  simp only [vB]
  omega
def toB : Nat → Int → List Int
 | 0, _ => []
 | n + 1, v => v / 256 ^ n :: toB n (v % 256 ^ n)
theorem qQ : ∀ (n : Nat) (v : Int), (toB n v).length = n
 | 0, _ => rfl
 | n + 1, v => by simp [toB, qQ n]
theorem Bu : ∀ {l : List Int}, byt l → toB l.length (vB l) = l
 | [], _ => rfl
 | x :: l, h => by
  obtain ⟨hx, hl⟩ := oQ.1 h
  obtain ⟨h1, h2⟩ := nr hl
  have hp := vQ l.length
  have e1 : (x * 256 ^ l.length + vB l) / 256 ^ l.length = x := by
   rw [Int.add_comm, Int.add_mul_ediv_right _ _ (by omega), Int.ediv_eq_zero_of_lt h1 h2]; omega
  have e2 : (x * 256 ^ l.length + vB l) % 256 ^ l.length = vB l := by
   rw [Int.add_comm, Int.add_mul_emod_self_right, Int.emod_eq_of_lt h1 h2]
  show (x * 256 ^ l.length + vB l) / 256 ^ l.length :: toB l.length ((x * 256 ^ l.length + vB l) % 256 ^ l.length) = x :: l
  rw [e1, e2, Bu hl]
theorem vX : ∀ (n : Nat) {v : Int}, 0 ≤ v → v < 256 ^ n → byt (toB n v) ∧ vB (toB n v) = v
 | 0, v, h0, h1 => ⟨by simp [toB, byt], by simp at h1; simp [toB, vB]; omega⟩
 | n + 1, v, h0, h1 => by
  have hp := vQ n
  obtain ⟨i1, i2⟩ := vX n (Int.emod_nonneg v (by omega)) (Int.emod_lt_of_pos v hp)
  rw [Int.pow_succ] at h1
  have hd : v / 256 ^ n ≤ 255 := by
   have : v / 256 ^ n < 256 := Int.ediv_lt_of_lt_mul hp (by rw [Int.mul_comm]; exact h1)
   omega
  refine ⟨oQ.2 ⟨⟨Int.ediv_nonneg h0 (Int.le_of_lt hp), hd⟩, i1⟩, ?_⟩
  show v / 256 ^ n * 256 ^ (toB n _).length + vB (toB n _) = v
  rw [i2, qQ]
  have := Int.mul_ediv_add_emod v (256 ^ n)
  rw [Int.mul_comm]
  exact this
theorem xo {a b : List Int} (hl : a.length = b.length) (ha : byt a) (hb : byt b) (h : vB a = vB b) : a = b := by
 rw [← Bu ha, ← Bu hb, h, hl]
def sw : List Int → List Int → Int
 | [], [] => 0
 | [], _ :: _ => -1
 | _ :: _, [] => 1
 | x :: xs, y :: ys => if jw x y = 0 then sw xs ys else jw x y
theorem DE {x y : Int} : jw x y = 0 ↔ x = y := by
 unfold jw; split
 ·omega
 ·split <;> omega
theorem Ih : ∀ {a b : List Int}, a.length = b.length → byt a → byt b → sw a b = jw (vB a) (vB b)
 | [], [], _, _, _ => by simp [sw, vB, jw]
 | [], _ :: _, h, _, _ => by simp at h
 | _ :: _, [], h, _, _ => by simp at h
 | x :: xs, y :: ys, h, ha, hb => by
  obtain ⟨hx, ha⟩ := oQ.1 ha
  obtain ⟨hy, hb⟩ := oQ.1 hb
  have hl : xs.length = ys.length := by simpa using h
  have ih := Ih hl ha hb
  obtain ⟨a1, a2⟩ := nr ha
  obtain ⟨b1, b2⟩ := nr hb
  rw [hl] at a2
  simp only [sw, vB]
  rw [hl]
  have hp := vQ ys.length
  generalize (256 : Int) ^ ys.length = p at *
  split
  ·rename_i e
   rw [ih, DE.1 e]
   unfold jw
   split
   ·rw [if_pos (by omega)]
   ·split
    ·rw [if_neg (by omega), if_pos (by omega)]
    ·rw [if_neg (by omega), if_neg (by omega)]
  ·rename_i e
   have e : ¬ x = y := fun h => e (DE.2 h)
   rcases Int.lt_or_gt_of_ne e with hlt | hgt
   ·have : (x + 1) * p ≤ y * p := Int.mul_le_mul_of_nonneg_right hlt (Int.le_of_lt hp)
    rw [Int.add_mul, Int.one_mul] at this
    unfold jw
    rw [if_pos hlt, if_pos (by omega)]
   ·have : (y + 1) * p ≤ x * p := Int.mul_le_mul_of_nonneg_right hgt (Int.le_of_lt hp)
    rw [Int.add_mul, Int.one_mul] at this
    unfold jw
    rw [if_neg (by omega), if_pos hgt, if_neg (by omega), if_pos (by omega)]
def aT : Int := 256 ^ 32
def aW (a b : List Int) : List Int := toB 32 ((vB b - vB a) % aT)
theorem H3 {l : List Int} {i : Nat} (h : i < l.length) : vB (l.drop i) = l[i] * 256 ^ (l.length - (i + 1)) + vB (l.drop (i + 1)) := by
 rw [List.drop_eq_getElem_cons h]
 simp [vB]
theorem zS {l : List Int} {i : Nat} (h : i < l.length) (y : Int) : (l.set i y).drop i = y :: l.drop (i + 1) := by
 rw [List.drop_eq_getElem_cons (by simpa using h), List.getElem_set_self, List.drop_set_of_lt (by omega)]
end Go.Proofs.Ytimdnodkabnbfaa
namespace Go.Proofs.Ytimdnodkabnbfaa
open Go Go.RowKit
noncomputable abbrev fS : bA := ⟨yJ, lD, fun x => (aW x.1 x.2.1, ()), fun _ => True, true⟩
theorem yH (O : Nat → Prop) (w0 : World) (a b z : List Int) (ha : a.length = 32) (hb : b.length = 32) (ba : byt a) (bb : byt b) : ∀ (i : Nat) (less : Int) (out : List Int), i ≤ 32 → out.length = 32 → (less = 0 ∨ less = 1) → byt (out.drop i) →
    vB (out.drop i) = vB (b.drop i) - vB (a.drop i) + less * 256 ^ (32 - i) →
    ic prog kB O w0 dm (cC prog O w0 lD fun y => y = (aW a b, ())) (lp dm 4) (qw less ((i : Int) - 1) a b z out)
  | 0, less, out, _, ho, hless, hby, hv => Cf ub sr (qF less _ a b z out) ⟨fun h => by
      have h : (0 : Int) ≤ ((0 : Nat) : Int) - 1 := of_decide_eq_true h
      omega, fun _ => ⟨_, rfl, by
        simp only [List.drop_zero] at hby hv
        have r := nr hby
        rw [ho] at r
        have e : (vB b - vB a) % aT = vB out := by
          have : vB b - vB a = vB out + (-less) * aT := by
            unfold aT
            rw [hv, Int.neg_mul]; omega
          rw [this, Int.add_mul_emod_self_right]
          exact Int.emod_eq_of_lt r.1 r.2
        have : aW a b = out := by
          unfold aW
          rw [e, ← ho, Bu hby]
        rw [this]⟩⟩
  | i + 1, less, out, hi, ho, hless, hby, hv => Cf ub sr (qF less _ a b z out) ⟨fun _ => by
      have ei : (((i + 1 : Nat) : Int) - 1) = ((i : Nat) : Int) := by omega
      rw [ei]
      have h1 : i < a.length := by omega
      have h2 : i < b.length := by omega
      have h3 : i < out.length := by omega
      rw [bX (e := .int .u8) h1, bX (e := .int .u8) h2]
      obtain ⟨a0, a1⟩ := ba _ (List.getElem_mem h1)
      obtain ⟨b0, b1⟩ := bb _ (List.getElem_mem h2)
      rw [dr (n := a[i]) (by omega), dr (n := b[i]) (by omega), dr (n := b[i] - a[i]) (by omega), dr (n := b[i] - a[i] - less) (by omega)]
      have hs : ∀ y : Int, yT (.int .u8) out (i : Nat) y = out.set i y := fun y => rfl
      have hp : (256 : Int) ^ (32 - i) = 256 * 256 ^ (31 - i) := by
        rw [show 32 - i = (31 - i) + 1 by omega, Int.pow_succ, Int.mul_comm]
      have hq : 32 - (i + 1) = 31 - i := by omega
      rw [hq] at hv
      have va := H3 h1
      have vb := H3 h2
      rw [ha, hq] at va
      rw [hb, hq] at vb
      have step : ∀ y less' : Int, 0 ≤ y ∧ y ≤ 255 → (less' = 0 ∨ less' = 1) → y = b[i] - a[i] - less + 256 * less' →
          ic prog kB O w0 dm (cC prog O w0 lD fun y => y = (aW a b, ())) (lp dm 4) (qw less' ((i : Int) - 1) a b z (out.set i y)) := by
        intro y less' hy hl' e
        refine yH O w0 a b z ha hb ba bb i less' (out.set i y) (by omega) (by simpa using ho) hl' ?_ ?_
        · rw [zS h3]; exact oQ.2 ⟨hy, hby⟩
        · rw [zS h3, va, vb, hp]
          simp only [vB, List.length_drop, ho, hq]
          rw [hv, e]
          generalize (256 : Int) ^ (31 - i) = p
          simp only [Int.sub_mul, Int.add_mul]
          have : 256 * less' * p = less' * (256 * p) := by rw [Int.mul_comm 256 less', Int.mul_assoc]
          omega
      refine ⟨a8 (n := 32) (by omega), a8 (n := 32) (by omega), fun h => ⟨a8 (n := 32) (by omega), ?_⟩, fun h => ⟨a8 (n := 32) (by omega), ?_⟩⟩
      · have h : b[i] - a[i] - less < 0 := of_decide_eq_true h
        rw [hs, dr (n := b[i] - a[i] - less + 256) (by omega), Fr (by omega), dr (by omega)]
        exact step _ 1 (by omega) (.inr rfl) (by omega)
      · have h : ¬ b[i] - a[i] - less < 0 := of_decide_eq_false h
        rw [hs, Fr (by omega), dr (by omega)]
        exact step _ 0 (by omega) (.inl rfl) (by omega), fun h => by
      have h : ¬ (0 : Int) ≤ ((i + 1 : Nat) : Int) - 1 := of_decide_eq_false h
      omega⟩
theorem pE : ay prog [] eV fS :=
 Dy ub sr EZ (by kernel_rfl) (fun _ _ => trivial) (A := uj) (T := fun x => Ad x.1 x.2.1) (fun x => C3 x.1 x.2.1) fun O w0 x hk _ => by
  obtain ⟨la, ba⟩ := pY hk.1
  obtain ⟨lb, bb⟩ := pY hk.2.1
  have hz : (zero tId : List Int).length = 32 := by simp [zero]
  exact yH O w0 x.1 x.2.1 (zero tId) la lb ba bb 32 0 (zero tId) (Nat.le_refl _) hz (.inl rfl) (by rw [List.drop_eq_nil_of_le (by omega)]; simp [byt])
   (by rw [List.drop_eq_nil_of_le (by omega), List.drop_eq_nil_of_le (by omega), List.drop_eq_nil_of_le (by omega)]; simp [vB])
end Go.Proofs.Ytimdnodkabnbfaa
namespace Go.Proofs.Ytimdnodkabnbfaa
open Go Go.RowKit
end Go.Proofs.Ytimdnodkabnbfaa
namespace Go.Proofs.Ytimdnodkabnbfaa
open Go Go.RowKit
noncomputable abbrev eK : aJ := { T := br, F := [(iM, lk)], n := (bO).ntmps }
noncomputable abbrev jv : Ann := { loops := [(2, { keep := [0, 1, 9, 10, 11] })] }
theorem jy (h_cmp_Compare_byte : ay prog [] iM lk) : cQ prog eK := CW (ax (aU aY aM) h_cmp_Compare_byte)
theorem iY : eR eK = true := by kernel_rfl
noncomputable def nH (s1 : den (Ty.slc (Ty.int IntKind.u8))) (s2 : den (Ty.slc (Ty.int IntKind.u8))) : bu := bu.loop (lp bO 2) [(0, K.val (Ty.slc (Ty.int IntKind.u8)) s1), (1, K.val (Ty.slc (Ty.int IntKind.u8)) s2), (9, K.val (Ty.slc (Ty.int IntKind.u8)) s1), (10, K.val ae (lnx (Ty.int IntKind.u8) s1)), (11, K.val ae 0)] []
theorem sJ (s1 : den (Ty.slc (Ty.int IntKind.u8))) (s2 : den (Ty.slc (Ty.int IntKind.u8))) : gA eK jv fR bO 1000 (aF bO) (Env.of (aK mQ (s1, s2, ()) 0) []) = nH s1 s2 := by kernel_rfl
noncomputable def mt (v0 : den (Ty.slc (Ty.int IntKind.u8))) (v1 : den (Ty.slc (Ty.int IntKind.u8))) (v9 : den (Ty.slc (Ty.int IntKind.u8))) (v10 : den ae) (v11 : den ae) : Env := Env.of [(0, K.val (Ty.slc (Ty.int IntKind.u8)) v0), (1, K.val (Ty.slc (Ty.int IntKind.u8)) v1), (9, K.val (Ty.slc (Ty.int IntKind.u8)) v9), (10, K.val ae v10), (11, K.val ae v11)] []
noncomputable def sE (v0 : den (Ty.slc (Ty.int IntKind.u8))) (v1 : den (Ty.slc (Ty.int IntKind.u8))) (v9 : den (Ty.slc (Ty.int IntKind.u8))) (v10 : den ae) (v11 : den ae) : bu := bu.ite (decide (v11 < v10)) (bu.req (inB v11 (lnx (Ty.int IntKind.u8) v9)) (bu.ite (decide (lnx (Ty.int IntKind.u8) v1 ≤ v11)) (bu.ret (K.val (Ty.pair ae Ty.unit) (1, PUnit.unit))) (bu.req (inB v11 (lnx (Ty.int IntKind.u8) v1)) (bu.req True (bu.ite (!decide (jw (el (Ty.int IntKind.u8) v9 v11) (el (Ty.int IntKind.u8) v1 v11) = 0)) (bu.ret (K.val (Ty.pair ae Ty.unit) (jw (el (Ty.int IntKind.u8) v9 v11) (el (Ty.int IntKind.u8) v1 v11), PUnit.unit))) (bu.loop (lp bO 2) [(0, K.val (Ty.slc (Ty.int IntKind.u8)) v0), (1, K.val (Ty.slc (Ty.int IntKind.u8)) v1), (9, K.val (Ty.slc (Ty.int IntKind.u8)) v9), (10, K.val ae v10), (11, K.val ae (IntKind.wrap IntKind.i64 (v11 + 1)))] [])))))) (bu.ite (decide (lnx (Ty.int IntKind.u8) v0 < lnx (Ty.int IntKind.u8) v1)) (bu.ret (K.val (Ty.pair ae Ty.unit) (-1, PUnit.unit))) (bu.ret (K.val (Ty.pair ae Ty.unit) (0, PUnit.unit))))
theorem jM (v0 : den (Ty.slc (Ty.int IntKind.u8))) (v1 : den (Ty.slc (Ty.int IntKind.u8))) (v9 : den (Ty.slc (Ty.int IntKind.u8))) (v10 : den ae) (v11 : den ae) : gA eK jv fR bO 1000 (lp bO 2) (mt v0 v1 v9 v10 v11) = sE v0 v1 v9 v10 v11 := by kernel_rfl
end Go.Proofs.Ytimdnodkabnbfaa
namespace Go.Proofs.Ytimdnodkabnbfaa
open Go Go.RowKit
noncomputable abbrev jt : bA := ⟨mQ, fR, fun x => (sw x.1 x.2.1, ()), fun _ => True, true⟩
theorem CP (a : List Int) : sw a [] = if a = [] then 0 else 1 := by
 cases a <;> rfl
def t7 (O : Nat → Prop) (w0 : World) (a b : List Int) (hm : a.length ≤ maxLen) :=
 PLift.up <| IB (P := prog) (D := eK) (fn := bO) (rs := fR) (O := O) (w0 := w0) (todo := lp bO 2) (σ := Unit) a.length
  (fun i _ => mt a b a (lnx (.int .u8) a) i) (fun i _ => i ≤ b.length) (fun i _ y => y = (sw (a.drop i) (b.drop i), ()))
  (fun i _ hi hb ih => Cf (jy lE) iY (jM a b a _ _) ⟨fun _ => by
   refine ⟨a8 hi, fun h => ⟨_, rfl, ?_⟩, fun h => ?_⟩
   ·have h : (b.length : Int) ≤ (i : Int) := of_decide_eq_true h
    rw [List.drop_eq_nil_of_le (show b.length ≤ i by omega), CP, if_neg (fun e => by have := congrArg List.length e; simp at this; omega)]
   ·have h : ¬ (b.length : Int) ≤ (i : Int) := of_decide_eq_false h
    have hi' : i < b.length := by omega
    rw [bX (e := .int .u8) hi, bX (e := .int .u8) hi', cz hi hm]
    refine ⟨a8 hi', trivial, fun h => ⟨_, rfl, ?_⟩, fun h => ic.mono (fun y hy => ?_) (ih () (by omega))⟩
    ·have h : ¬ jw a[i] b[i] = 0 := by simpa using h
     rw [List.drop_eq_getElem_cons hi, List.drop_eq_getElem_cons hi']
     simp only [sw, if_neg h]
    ·have h : jw a[i] b[i] = 0 := by simpa using h
     rw [hy, List.drop_eq_getElem_cons hi, List.drop_eq_getElem_cons hi']
     simp only [sw, if_pos h], fun h => by
   have h : ¬ (i : Int) < (a.length : Int) := of_decide_eq_false h
   omega⟩)
  (fun s hb => Cf (jy lE) iY (jM a b a _ _) ⟨fun h => by
   have h : (a.length : Int) < (a.length : Int) := of_decide_eq_true h
   omega, fun _ => ⟨fun h => ⟨_, rfl, by
    have h : (a.length : Int) < (b.length : Int) := of_decide_eq_true h
    rw [List.drop_eq_nil_of_le (Nat.le_refl _), List.drop_eq_getElem_cons (show a.length < b.length by omega)]
    rfl⟩, fun h => ⟨_, rfl, by
    have h : ¬ (a.length : Int) < (b.length : Int) := of_decide_eq_false h
    rw [List.drop_eq_nil_of_le (Nat.le_refl _), List.drop_eq_nil_of_le (show b.length ≤ a.length by omega)]
    rfl⟩⟩⟩)
theorem vG : ay prog [] f9 jt :=
 Dy (jy lE) iY ue (by kernel_rfl) (fun _ _ => trivial) (A := jv) (T := fun x => nH x.1 x.2.1) (fun x => sJ x.1 x.2.1) fun O w0 x hk _ =>
  (t7 O w0 x.1 x.2.1 hk.1.1).down 0 () (Nat.zero_le _) (Nat.zero_le _)
end Go.Proofs.Ytimdnodkabnbfaa
namespace Go.Proofs.Ytimdnodkabnbfaa
open Go Go.RowKit
def fQ (a b : List Int) : Int := jw (vB a) (vB b)
end Go.Proofs.Ytimdnodkabnbfaa
namespace Go.Proofs.Ytimdnodkabnbfaa
open Go Go.RowKit
noncomputable abbrev n7 : aJ := { T := br, F := [(f9, jt)], n := (kT).ntmps }
noncomputable abbrev ta : Ann := { frz := [(1, [2, 3])] }
theorem Ci (h_slices_Compare_byte : ay prog [] f9 jt) : cQ prog n7 := CW (ax (aU aY aM) h_slices_Compare_byte)
theorem AC : eR n7 = true := by kernel_rfl
noncomputable def tw (a : den tId) (b : den tId) : bu := bu.req (bP 0 ↑32 ↑32) (bu.req (bP 0 ↑32 ↑32) (bu.req True (bu.ret (K.val (Ty.pair ae Ty.unit) (sw (gd (Ty.int IntKind.u8) a 0 ↑32) (gd (Ty.int IntKind.u8) b 0 ↑32), PUnit.unit)))))
theorem yp (a : den tId) (b : den tId) : gA n7 ta r7 kT 1000 (aF kT) (Env.of (aK rQ (a, b, ()) 0) []) = tw a b := by kernel_rfl
end Go.Proofs.Ytimdnodkabnbfaa
namespace Go.Proofs.Ytimdnodkabnbfaa
open Go Go.RowKit
noncomputable abbrev dx : bA := ⟨rQ, r7, fun x => (fQ x.1 x.2.1, ()), fun _ => True, true⟩
theorem lf : ay prog [] cV dx :=
 Dy (Ci vG) AC AP (by kernel_rfl) (fun _ _ => trivial) (A := ta) (T := fun x => tw x.1 x.2.1) (fun x => yp x.1 x.2.1) fun O w0 x hk _ => by
  obtain ⟨la, ba⟩ := pY hk.1
  obtain ⟨lb, bb⟩ := pY hk.2.1
  have hc : ∀ l : List Int, l.length = 32 → gd (.int .u8) l 0 32 = l := fun l hl => by
   show (l.take 32).drop 0 = l
   rw [List.drop_zero, ← hl, List.take_length]
  refine ⟨⟨Int.le_refl _, by decide, Int.le_refl _⟩, ⟨Int.le_refl _, by decide, Int.le_refl _⟩, trivial, _, rfl, ?_⟩
  have e := Ih (a := x.1) (b := x.2.1) (by rw [la, lb]) ba bb
  show (sw (gd (.int .u8) x.1 0 32) (gd (.int .u8) x.2.1 0 32), PUnit.unit) = (fQ x.1 x.2.1, ())
  rw [hc x.1 la, hc x.2.1 lb, e]
  rfl
def gk (x a b : List Int) : Bool :=
 if a = b then true else if vB a < vB b then decide (vB a < vB x) && decide (vB x ≤ vB b) else decide (vB a < vB x) || decide (vB x ≤ vB b)
theorem yD {a b : List Int} : fQ a b < 0 ↔ vB a < vB b := by
 unfold fQ jw; split
 ·exact ⟨fun _ => by omega, fun _ => by omega⟩
 ·split <;> exact ⟨fun _ => by omega, fun _ => by omega⟩
theorem Ka {a b : List Int} : fQ a b ≤ 0 ↔ vB a ≤ vB b := by
 unfold fQ jw; split
 ·exact ⟨fun _ => by omega, fun _ => by omega⟩
 ·split <;> exact ⟨fun _ => by omega, fun _ => by omega⟩
end Go.Proofs.Ytimdnodkabnbfaa
namespace Go.Proofs.Ytimdnodkabnbfaa
open Go Go.RowKit
noncomputable abbrev rh : aJ := { T := br, F := [(eV, fS), (cV, dx)], n := (nN).ntmps }
noncomputable abbrev Bo : Ann := { }
theorem IG (h_ident_Far : ay prog [] eV fS) (h_ident_Compare : ay prog [] cV dx) : cQ prog rh := CW (ax (ax (aU aY aM) h_ident_Compare) h_ident_Far)
theorem HG : eR rh = true := by kernel_rfl
noncomputable def qN (x : den tId) (a : den tId) (b : den tId) : bu := bu.ite (eqb tId a b) (bu.ret (K.val (Ty.pair Ty.bool Ty.unit) (true, PUnit.unit))) (bu.req True (bu.req (dy [(!eqb tId (aW a x) (List.replicate 32 (zero (Ty.int IntKind.u8))), true)] True) (bu.req (dy [(!eqb tId (aW a x) (List.replicate 32 (zero (Ty.int IntKind.u8))), true)] True) (bu.ret (K.val (Ty.pair Ty.bool Ty.unit) (bif !eqb tId (aW a x) (List.replicate 32 (zero (Ty.int IntKind.u8))) then decide (fQ (aW a x) (aW a b) ≤ 0) else false, PUnit.unit))))))
theorem Ee (x : den tId) (a : den tId) (b : den tId) : gA rh Bo uy nN 1000 (aF nN) (Env.of (aK Ag (x, a, b, ()) 0) []) = qN x a b := by kernel_rfl
end Go.Proofs.Ytimdnodkabnbfaa
namespace Go.Proofs.Ytimdnodkabnbfaa
open Go Go.RowKit
theorem Mr {x y W : Int} (hx : 0 ≤ x ∧ x < W) (hy : 0 ≤ y ∧ y < W) : (y - x) % W = if x ≤ y then y - x else y - x + W := by
 split
 ·exact Int.emod_eq_of_lt (by omega) (by omega)
 ·rw [← Int.add_emod_right]
  exact Int.emod_eq_of_lt (by omega) (by omega)
theorem kW {a : List Int} (ha : a.length = 32 ∧ byt a) : 0 ≤ vB a ∧ vB a < aT := by
 have := nr ha.2; rw [ha.1] at this; exact this
theorem Cv {a b : List Int} (ha : a.length = 32 ∧ byt a) (hb : b.length = 32 ∧ byt b) : vB (aW a b) = if vB a ≤ vB b then vB b - vB a else vB b - vB a + aT := by
 have ra := kW ha
 have rb := kW hb
 rw [← Mr ra rb]
 exact (vX 32 (Int.emod_nonneg _ (by decide)) (Int.emod_lt_of_pos _ (by decide))).2
theorem Ig {a b : List Int} : (aW a b).length = 32 ∧ byt (aW a b) :=
 ⟨qQ _ _, (vX 32 (Int.emod_nonneg _ (by decide)) (Int.emod_lt_of_pos _ (by decide))).1⟩
theorem F0 : vB (List.replicate 32 (0 : Int)) = 0 := by decide
theorem KJ : byt (List.replicate 32 (0 : Int)) := fun x h => by
 have := List.eq_of_mem_replicate h
 omega
theorem Gj {a b : List Int} (ha : a.length = 32 ∧ byt a) (hb : b.length = 32 ∧ byt b) : aW a b = List.replicate 32 (0 : Int) ↔ vB a = vB b := by
 have ra := kW ha
 have rb := kW hb
 have h1 := Cv ha hb
 refine ⟨fun h => ?_, fun h => ?_⟩
 ·rw [h, F0] at h1
  split at h1 <;> omega
 ·refine xo (by rw [Ig.1, List.length_replicate]) Ig.2 KJ ?_
  rw [h1, F0, if_pos (by omega)]; omega
noncomputable abbrev jV : bA := ⟨Ag, uy, fun x => (gk x.1 x.2.1 x.2.2.1, ()), fun _ => True, true⟩
theorem Kn {x a b : List Int} (hx : x.length = 32 ∧ byt x) (ha : a.length = 32 ∧ byt a) (hb : b.length = 32 ∧ byt b) (h : ¬ a = b) :
    (bif !decide (aW a x = List.replicate 32 (0 : Int)) then decide (fQ (aW a x) (aW a b) ≤ 0) else false) = gk x a b := by
  have rx := kW hx
  have ra := kW ha
  have rb := kW hb
  have hne : ¬ vB a = vB b := fun e => h (xo (by rw [ha.1, hb.1]) ha.2 hb.2 e)
  simp only [Ka, Gj ha hx, Cv ha hx, Cv ha hb]
  rw [gk, if_neg h]
  by_cases e1 : vB a = vB x
  · simp only [e1, decide_true, Bool.not_true, cond_false]
    split
    · simp
    · symm; simp; omega
  · simp only [e1, decide_false, Bool.not_false, cond_true]
    rw [Bool.eq_iff_iff]
    split <;> split <;> split <;> simp only [Bool.and_eq_true, Bool.or_eq_true, decide_eq_true_eq] <;> omega
theorem HE (O : Nat → Prop) (w0 : World) (x a b : List Int) (hx : x.length = 32 ∧ byt x) (ha : a.length = 32 ∧ byt a) (hb : b.length = 32 ∧ byt b) : bV prog rh O w0 nN uy (fun y => y = (gk x a b, ())) (qN x a b) := by
 unfold qN
 rw [zl, zl]
 refine ⟨fun h => ⟨_, rfl, ?_⟩, fun h => ⟨trivial, fun _ => trivial, fun _ => trivial, _, rfl, ?_⟩⟩
 ·have h : a = b := of_decide_eq_true h
  simp [gk, h]
 ·have h : ¬ a = b := of_decide_eq_false h
  rw [← Kn hx ha hb h]; rfl
theorem wd : ay prog [] iC jV :=
 Dy (IG pE lf) HG G4 (by kernel_rfl) (fun _ _ => trivial) (A := Bo) (T := fun x => qN x.1 x.2.1 x.2.2.1) (fun x => Ee x.1 x.2.1 x.2.2.1) fun O w0 x hk _ =>
  HE O w0 x.1 x.2.1 x.2.2.1 (pY hk.1) (pY hk.2.1) (pY hk.2.2.1)
end Go.Proofs.Ytimdnodkabnbfaa
namespace Go.Proofs.Ytimdnodkabnbfaa
open Go Go.RowKit
noncomputable abbrev uD : Fx := { fn := qf, ann := { } }
noncomputable abbrev wS : bg := { D := { T := br, F := [(eV, fS), (cV, dx)], R := [], ovl := [] }, inl := [] }
noncomputable abbrev Ej : bF := .data uO
theorem ED (h_ident_Far : ay prog [] eV fS) (h_ident_Compare : ay prog [] cV dx) : XOk prog wS := xok (ax (ax (aU aY aM) h_ident_Compare) h_ident_Far) (by kernel_rfl) aS a6 aZ
noncomputable def wI (a : den ab) (b : den ab) (id : den (Ty.ref tId)) : af := af.req True (af.req True (af.req True (af.ret (K.val (Ty.pair ae Ty.unit) (fQ (aW id (Prod.fst (Prod.snd a))) (aW id (Prod.fst (Prod.snd b))), PUnit.unit)))))
theorem AJ (a : den ab) (b : den ab) (id : den (Ty.ref tId)) : ak wS Ej 5000 [] uD (aF qf) (Env.of (aK vc (a, b, id, ()) 0) []) = wI a b id := by kernel_rfl
noncomputable abbrev tG : Fx := { fn := o3, ann := { } }
noncomputable abbrev vu : bg := { D := { T := br, F := [], R := [], ovl := [] }, inl := [] }
noncomputable abbrev Da : bF := .data tz
theorem CA : XOk prog vu := xok ((aU aY aM)) (by kernel_rfl) aS a6 aZ
noncomputable def vh (x : den ab) (m : den (Ty.ref ab)) : af := af.ret (K.val (Ty.pair Ty.bool Ty.unit) (bif decide (Prod.fst x = Prod.fst m) then true else eqb tId (Prod.fst (Prod.snd x)) (Prod.fst (Prod.snd m)), PUnit.unit))
theorem zq (x : den ab) (m : den (Ty.ref ab)) : ak vu Da 5000 [] tG (aF o3) (Env.of (aK sZ (x, m, ()) 0) []) = vh x m := by kernel_rfl
noncomputable abbrev rT : Fx := { fn := oc, ann := { } }
noncomputable abbrev tP : bg := { D := { T := br, F := [], R := [], ovl := [] }, inl := [] }
noncomputable abbrev Bs : bF := .data sP
theorem Cp : XOk prog tP := xok ((aU aY aM)) (by kernel_rfl) aS a6 aZ
noncomputable def tv (m : den ab) (no : den (Ty.ref ae)) : af := af.ret (K.val (Ty.pair Ty.bool Ty.unit) (decide (Prod.fst m = no), PUnit.unit))
theorem xp (m : den ab) (no : den (Ty.ref ae)) : ak tP Bs 5000 [] rT (aF oc) (Env.of (aK sq (m, no, ()) 0) []) = tv m no := by kernel_rfl
noncomputable abbrev aC : Fx := { fn := aE, ann := { loops := [(2, { keep := [0, 1, 7, 8] })], frz := [(1000002, [0, 1]), (2000002, [2, 3, 4, 6])] }, own := [16] }
noncomputable abbrev eQ : bg := { D := { T := br, F := [], R := [], ovl := [] }, inl := [] }
noncomputable abbrev kQ : bF := .data gi
theorem gz : XOk prog eQ := xok ((aU aY aM)) (by kernel_rfl) aS a6 aZ
noncomputable def ld (s : den (Ty.slc ab)) (f : den (Ty.fn (Ty.pair ab Ty.unit) (Ty.pair Ty.bool Ty.unit))) : af := af.loop [] aC (lp aE 2) [(0, K.val (Ty.slc ab) s), (1, K.val (Ty.fn (Ty.pair ab Ty.unit) (Ty.pair Ty.bool Ty.unit)) f), (7, K.val ae (lnx ab s)), (8, K.val ae 0)] []
theorem oU (s : den (Ty.slc ab)) (f : den (Ty.fn (Ty.pair ab Ty.unit) (Ty.pair Ty.bool Ty.unit))) : ak eQ kQ 5000 [] aC (aF aE) (Env.of (aK kh (s, f, ()) 0) []) = ld s f := by kernel_rfl
noncomputable def jF (v0 : den (Ty.slc ab)) (v1 : den (Ty.fn (Ty.pair ab Ty.unit) (Ty.pair Ty.bool Ty.unit))) (v7 : den ae) (v8 : den ae) : Env := Env.of [(0, K.val (Ty.slc ab) v0), (1, K.val (Ty.fn (Ty.pair ab Ty.unit) (Ty.pair Ty.bool Ty.unit)) v1), (7, K.val ae v7), (8, K.val ae v8)] []
noncomputable def oR (v0 : den (Ty.slc ab)) (v1 : den (Ty.fn (Ty.pair ab Ty.unit) (Ty.pair Ty.bool Ty.unit))) (v7 : den ae) (v8 : den ae) : af := af.ite (decide (v8 < v7)) (af.req (inB v8 (lnx ab v0)) (af.req (m5 (Ty.pair ab Ty.unit) (Ty.pair Ty.bool Ty.unit) v1) (af.ite (Prod.fst (sA (Ty.pair ab Ty.unit) (Ty.pair Ty.bool Ty.unit) v1 (el ab v0 v8, PUnit.unit))) (af.ret (K.val (Ty.pair ae Ty.unit) (v8, PUnit.unit))) (af.loop [] aC (lp aE 2) [(0, K.val (Ty.slc ab) v0), (1, K.val (Ty.fn (Ty.pair ab Ty.unit) (Ty.pair Ty.bool Ty.unit)) v1), (7, K.val ae v7), (8, K.val ae (IntKind.wrap IntKind.i64 (v8 + 1)))] [])))) (af.ret (K.val (Ty.pair ae Ty.unit) (-1, PUnit.unit)))
theorem g9 (v0 : den (Ty.slc ab)) (v1 : den (Ty.fn (Ty.pair ab Ty.unit) (Ty.pair Ty.bool Ty.unit))) (v7 : den ae) (v8 : den ae) : ak eQ kQ 5000 [] aC (lp aE 2) (jF v0 v1 v7 v8) = oR v0 v1 v7 v8 := by kernel_rfl
noncomputable abbrev cw : Fx := { fn := ce, ann := { loops := [(5, { keep := [0, 1, 4, 5, 6] })] } }
noncomputable abbrev fq : bg := { D := { T := br, F := [], R := [], ovl := [] }, inl := [] }
noncomputable abbrev mg : bF := .data gL
theorem hY : XOk prog fq := xok ((aU aY aM)) (by kernel_rfl) aS a6 aZ
noncomputable def mr (x : den (Ty.slc ab)) (cmp : den (Ty.fn (Ty.pair ab (Ty.pair ab Ty.unit)) (Ty.pair ae Ty.unit))) : af := af.ite (decide (lnx ab x < 1)) (af.bad (100000 + 1000 * 0 + 0)) (af.req (inB 0 (lnx ab x)) (af.loop [] cw (lp ce 5) [(0, K.val (Ty.slc ab) x), (1, K.val (Ty.fn (Ty.pair ab (Ty.pair ab Ty.unit)) (Ty.pair ae Ty.unit)) cmp), (4, K.ptr 0 ab []), (5, K.ptr (0 + 1) ab []), (6, K.val ae 1)] [(0, Bx.cell ab (zero ab)), (0 + 1, Bx.cell ab (el ab x 0))]))
theorem qg (x : den (Ty.slc ab)) (cmp : den (Ty.fn (Ty.pair ab (Ty.pair ab Ty.unit)) (Ty.pair ae Ty.unit))) : ak fq mg 5000 [] cw (aF ce) (Env.of (aK lA (x, cmp, ()) 0) []) = mr x cmp := by kernel_rfl
noncomputable def k8 (v0 : den (Ty.slc ab)) (v1 : den (Ty.fn (Ty.pair ab (Ty.pair ab Ty.unit)) (Ty.pair ae Ty.unit))) (v6 : den ae) (b0 : den ab) (b1 : den ab) : Env := Env.of [(0, K.val (Ty.slc ab) v0), (1, K.val (Ty.fn (Ty.pair ab (Ty.pair ab Ty.unit)) (Ty.pair ae Ty.unit)) v1), (4, K.ptr 0 ab []), (5, K.ptr (0 + 1) ab []), (6, K.val ae v6)] [(0, Bx.cell ab b0), (1, Bx.cell ab b1)]
noncomputable def qn (v0 : den (Ty.slc ab)) (v1 : den (Ty.fn (Ty.pair ab (Ty.pair ab Ty.unit)) (Ty.pair ae Ty.unit))) (v6 : den ae) (b0 : den ab) (b1 : den ab) : af := af.ite (decide (v6 < lnx ab v0)) (af.req (inB v6 (lnx ab v0)) (af.req (m5 (Ty.pair ab (Ty.pair ab Ty.unit)) (Ty.pair ae Ty.unit) v1) (af.ite (decide (Prod.fst (sA (Ty.pair ab (Ty.pair ab Ty.unit)) (Ty.pair ae Ty.unit) v1 (el ab v0 v6, b1, PUnit.unit)) < 0)) (af.req (inB v6 (lnx ab v0)) (af.loop [] cw (lp ce 5) [(0, K.val (Ty.slc ab) v0), (1, K.val (Ty.fn (Ty.pair ab (Ty.pair ab Ty.unit)) (Ty.pair ae Ty.unit)) v1), (4, K.ptr 0 ab []), (5, K.ptr (0 + 1) ab []), (6, K.val ae (IntKind.wrap IntKind.i64 (v6 + 1)))] [(0, Bx.cell ab b0), (0 + 1, Bx.cell ab (el ab v0 v6))])) (af.loop [] cw (lp ce 5) [(0, K.val (Ty.slc ab) v0), (1, K.val (Ty.fn (Ty.pair ab (Ty.pair ab Ty.unit)) (Ty.pair ae Ty.unit)) v1), (4, K.ptr 0 ab []), (5, K.ptr (0 + 1) ab []), (6, K.val ae (IntKind.wrap IntKind.i64 (v6 + 1)))] [(0, Bx.cell ab b0), (0 + 1, Bx.cell ab b1)])))) (af.ret (K.val (Ty.pair ab Ty.unit) (b1, PUnit.unit)))
theorem i5 (v0 : den (Ty.slc ab)) (v1 : den (Ty.fn (Ty.pair ab (Ty.pair ab Ty.unit)) (Ty.pair ae Ty.unit))) (v6 : den ae) (b0 : den ab) (b1 : den ab) : ak fq mg 5000 [] cw (lp ce 5) (k8 v0 v1 v6 b0 b1) = qn v0 v1 v6 b0 b1 := by kernel_rfl
end Go.Proofs.Ytimdnodkabnbfaa
namespace Go.Proofs.Ytimdnodkabnbfaa
open Go Go.RowKit
abbrev Mem := den ab
abbrev gx (a : List Int) : Prop := a.length = 32 ∧ byt a
theorem Is {x : den tId} (h : okT tId x) : gx x := pY h
def ES (a b : List Int) : List Int := toB 32 ((vB a + vB b) % aT)
def pw0 : List Int := List.replicate 31 0 ++ [1]
theorem Nv : vB pw0 = 1 := by kernel_rfl
def kG (x m : Mem) : Bool := bif decide (x.1 = m.1) then true else eqb tId x.2.1 m.2.1
noncomputable abbrev lV : bA := ⟨sZ, tz, fun x => (kG x.1 x.2.1, ()), fun _ => True, true⟩
theorem CU : ay prog [] lU lV :=
 bR (S := lV) CA (fx := tG) Bv (by kernel_rfl) (fun _ _ => trivial) (T := fun x => vh x.1 x.2.1) (fun x => zq x.1 x.2.1) fun O w0 x _ _ => ⟨_, rfl, rfl⟩
noncomputable abbrev k6 : bA := ⟨sq, sP, fun x => (decide (x.1.1 = x.2.1), ()), fun _ => True, true⟩
theorem Bq : ay prog [] kY k6 :=
 bR (S := k6) Cp (fx := rT) AF (by kernel_rfl) (fun _ _ => trivial) (T := fun x => tv x.1 x.2.1) (fun x => xp x.1 x.2.1) fun O w0 x _ _ => ⟨_, rfl, rfl⟩
noncomputable abbrev mW : bA := ⟨vc, uO, fun x => (fQ (aW x.2.2.1 x.1.2.1) (aW x.2.2.1 x.2.1.2.1), ()), fun _ => True, true⟩
theorem Eb : ay prog [] m0 mW :=
 bR (S := mW) (ED pE lf) (fx := uD) Dk (by kernel_rfl) (fun _ _ => trivial) (T := fun x => wI x.1 x.2.1 x.2.2.1) (fun x => AJ x.1 x.2.1 x.2.2.1) fun O w0 x _ _ => ⟨trivial, trivial, trivial, _, rfl, rfl⟩
def prM (f : den (.fn (.pair ab .unit) (.pair .bool .unit))) (m : Mem) : Bool := (sA (.pair ab .unit) (.pair .bool .unit) f (m, ())).1
def ixP (p : Mem → Bool) : List Mem → Int → Int
 | [], _ => -1
 | x :: l, i => bif p x then i else ixP p l (i + 1)
theorem tI (p : Mem → Bool) : ∀ (l : List Mem) (i : Int), 0 ≤ i → (l.any p = true → i ≤ ixP p l i ∧ ixP p l i < i + l.length) ∧ (l.any p = false → ixP p l i = -1)
 | [], i, _ => ⟨fun h => (by cases h), fun _ => rfl⟩
 | x :: l, i, hi => by
  obtain ⟨h1, h2⟩ := tI p l (i + 1) (by omega)
  rw [List.any_cons, List.length_cons]
  show (_ → _ ≤ (bif p x then i else ixP p l (i + 1)) ∧ (bif p x then i else ixP p l (i + 1)) < _) ∧ (_ → (bif p x then i else ixP p l (i + 1)) = -1)
  cases p x with
  | true => exact ⟨fun _ => ⟨Int.le_refl _, by show i < _; omega⟩, fun h => (by cases h)⟩
  | false =>
   refine ⟨fun h => ?_, fun h => h2 h⟩
   have := h1 h
   exact ⟨by show i ≤ ixP p l (i + 1); omega, by show ixP p l (i + 1) < _; omega⟩
theorem MW (p : Mem → Bool) (l : List Mem) : decide (0 ≤ ixP p l 0) = l.any p := by
 obtain ⟨h1, h2⟩ := tI p l 0 (Int.le_refl _)
 cases h : l.any p with
 | true => exact decide_eq_true (h1 h).1
 | false => rw [h2 h]; rfl
theorem Kb (p : Mem → Bool) : ∀ (l : List Mem) (i : Int), l.any p = true → ∃ k : Nat, ∃ h : k < l.length, ixP p l i = i + (k : Int) ∧ p l[k] = true
 | [], _, h => by cases h
 | x :: l, i, h => by
  show ∃ k : Nat, ∃ h : k < l.length + 1, (bif p x then i else ixP p l (i + 1)) = i + (k : Int) ∧ p (x :: l)[k] = true
  cases hx : p x with
  | true => exact ⟨0, by omega, by simp, hx⟩
  | false =>
   rw [List.any_cons, hx, Bool.false_or] at h
   obtain ⟨k, hk, h1, h2⟩ := Kb p l (i + 1) h
   exact ⟨k + 1, by omega, by show ixP p l (i + 1) = _; rw [h1]; omega, h2⟩
noncomputable abbrev cK : bA := ⟨kh, gi, fun x => (ixP (prM x.2.1) x.1 0, ()), fun x => m5 (.pair ab .unit) (.pair .bool .unit) x.2.1, false⟩
abbrev GIx (O : Nat → Prop) (w0 : World) (y : Int) := bI prog eQ (Cx.base O w0) (cC prog O w0 gi fun z => z = (y, ()))
def FS (O : Nat → Prop) (w0 : World) (xs : List Mem) (f : den (.fn (.pair ab .unit) (.pair .bool .unit))) (hf : m5 (.pair ab .unit) (.pair .bool .unit) f) (hm : xs.length ≤ maxLen) (y : Int) (hy : y = ixP (prM f) xs 0) :=
 PLift.up <| bG (σ := Unit) xs.length (fun i _ => ixP (prM f) (xs.drop i) (i : Nat) = y)
  (fun i _ => GIx O w0 y [] aC (lp aE 2) (jF xs f (lnx ab xs) (i : Nat)))
  (fun i _ hi hs ih => aI gz (g9 xs f _ _) (by
   rw [List.drop_eq_getElem_cons hi] at hs
   have hs : (bif prM f xs[i] then ((i : Nat) : Int) else ixP (prM f) (xs.drop (i + 1)) (((i : Nat) : Int) + 1)) = y := hs
   refine ⟨fun _ => ⟨a8 hi, hf, ?_⟩, fun hc => absurd hi (by rw [cF] at hc; exact of_decide_eq_false hc)⟩
   rw [bX hi, cz hi hm]
   refine ⟨fun hc => ⟨_, rfl, ?_⟩, fun hc => ih () ?_⟩
   ·have hc : prM f xs[i] = true := hc
    rw [hc] at hs
    rw [← hs]
    rfl
   ·have hc : prM f xs[i] = false := hc
    rw [hc] at hs
    exact hs))
  (fun _ hs => aI gz (g9 xs f _ _) (by
   refine ⟨fun hc => absurd (of_decide_eq_true hc) (Int.lt_irrefl _), fun _ => ⟨_, rfl, ?_⟩⟩
   rw [List.drop_length] at hs
   rw [← hs]
   rfl))
theorem lh : ay prog [] co cK :=
 bR (S := cK) gz (fx := aC) kp (by kernel_rfl) (fun h => by cases h) (T := fun x => ld x.1 x.2.1) (fun x => oU x.1 x.2.1) fun O w0 x hk hp =>
  (FS O w0 x.1 x.2.1 hp hk.1.1 _ rfl).down 0 () (Nat.zero_le _) rfl
def vL (k : Mem → Mem → Int) : Mem → List Mem → Mem
 | b, [] => b
 | b, x :: l => vL k (if k x b < 0 then x else b) l
def cmM (f : den (.fn (.pair ab (.pair ab .unit)) (.pair ae .unit))) (x y : Mem) : Int := (sA (.pair ab (.pair ab .unit)) (.pair ae .unit) f (x, y, ())).1
def E5 (k : Mem → Mem → Int) : List Mem → Mem
 | [] => zero ab
 | b :: l => vL k b l
noncomputable abbrev fA : bA := ⟨lA, gL, fun x => (E5 (cmM x.2.1) x.1, ()), fun x => m5 (.pair ab (.pair ab .unit)) (.pair ae .unit) x.2.1 ∧ 0 < List.length x.1, false⟩
abbrev GMi (O : Nat → Prop) (w0 : World) (y : Mem) := bI prog fq (Cx.base O w0) (cC prog O w0 gL fun z => z = (y, ()))
def Jl (O : Nat → Prop) (w0 : World) (xs : List Mem) (f : den (.fn (.pair ab (.pair ab .unit)) (.pair ae .unit))) (hf : m5 (.pair ab (.pair ab .unit)) (.pair ae .unit) f) (hm : xs.length ≤ maxLen) (z y : Mem) :=
 PLift.up <| bG (σ := Mem) xs.length (fun i b => vL (cmM f) b (xs.drop i) = y)
  (fun i b => GMi O w0 y [] cw (lp ce 5) (k8 xs f (i : Nat) z b))
  (fun i b hi hs ih => aI hY (i5 xs f _ z b) (by
   rw [List.drop_eq_getElem_cons hi] at hs
   have hs : vL (cmM f) (if cmM f xs[i] b < 0 then xs[i] else b) (xs.drop (i + 1)) = y := hs
   refine ⟨fun _ => ⟨a8 hi, hf, ?_⟩, fun hc => absurd hi (by rw [cF] at hc; exact of_decide_eq_false hc)⟩
   rw [bX hi, cz hi hm]
   refine ⟨fun hc => ⟨a8 hi, ih _ ?_⟩, fun hc => ih _ ?_⟩
   ·have hc : cmM f xs[i] b < 0 := of_decide_eq_true hc
    rw [if_pos hc] at hs
    exact hs
   ·have hc : ¬ cmM f xs[i] b < 0 := of_decide_eq_false hc
    rw [if_neg hc] at hs
    exact hs))
  (fun b hs => aI hY (i5 xs f _ z b) (by
   refine ⟨fun hc => absurd (of_decide_eq_true hc) (Int.lt_irrefl _), fun _ => ⟨_, rfl, ?_⟩⟩
   rw [List.drop_length] at hs
   rw [← hs]
   rfl))
theorem sW : ay prog [] fw fA :=
 bR (S := fA) hY (fx := cw) rO (by kernel_rfl) (fun h => by cases h) (T := fun x => mr x.1 x.2.1) (fun x => qg x.1 x.2.1) fun O w0 x hk hp => by
  obtain ⟨xs, f, ⟨⟩⟩ := x
  have hm : List.length xs ≤ maxLen := hk.1.1
  have h0 : 0 < List.length xs := hp.2
  refine ⟨fun hc => ?_, fun _ => ⟨a8 (i := 0) h0, ?_⟩⟩
  ·exfalso
   have hc : ((xs.length : Nat) : Int) < 1 := of_decide_eq_true hc
   omega
  ·rw [show (0 : Int) = ((0 : Nat) : Int) from rfl, bX h0]
   refine (Jl O w0 xs f hp.1 hm (zero ab) (E5 (cmM f) xs)).down 1 _ h0 ?_
   cases xs with
   | nil => cases h0
   | cons b l => rfl
def BA (l : List Mem) (no : Int) : Mem := (l.find? fun m => decide (m.1 = no)).getD (-1, zero (Ty.pair tId Ty.unit))
theorem lS (x y : Mem) : eqb ab x y = decide (x = y) := by
 have := nC (t := ab) rfl x y
 cases h : eqb ab x y
 ·have : ¬ x = y := fun e => by rw [this.2 e] at h; cases h
  simp [this]
 ·simp [this.1 h]
end Go.Proofs.Ytimdnodkabnbfaa
namespace Go.Proofs.Ytimdnodkabnbfaa
def rky (W a p : Int) : Int := if a ≤ p then p - a else p - a + W
def rup (W a : Int) : Int := if a + 1 = W then 0 else a + 1
theorem iX {W a p : Int} (ha : 0 ≤ a ∧ a < W) (hp : 0 ≤ p ∧ p < W) : 0 ≤ rky W a p ∧ rky W a p < W := by unfold rky; split <;> omega
theorem Cl {W a p q : Int} (_ : 0 ≤ a ∧ a < W) (hp : 0 ≤ p ∧ p < W) (hq : 0 ≤ q ∧ q < W) (h : rky W a p = rky W a q) : p = q := by unfold rky at h; split at h <;> split at h <;> omega
theorem rq {W a : Int} : rky W a a = 0 := by unfold rky; rw [if_pos (Int.le_refl _)]; omega
theorem rr {W a p : Int} (ha : 0 ≤ a ∧ a < W) (hp : 0 ≤ p ∧ p < W) (h : rky W a p = 0) : p = a := by unfold rky at h; split at h <;> omega
theorem AW {W a m p : Int} (ha : 0 ≤ a ∧ a < W) (hm : 0 ≤ m ∧ m < W) (hp : 0 ≤ p ∧ p < W) : rky W m p = if rky W a m ≤ rky W a p then rky W a p - rky W a m else rky W a p - rky W a m + W := by
 unfold rky
 split <;> split <;> split <;> split <;> omega
theorem wx {W m p : Int} (hm : 0 ≤ m ∧ m < W) (hp : 0 ≤ p ∧ p < W) : rky W (rup W m) p = if p = m then W - 1 else rky W m p - 1 := by
 unfold rky rup
 split <;> split <;> split <;> (try split) <;> omega
theorem Km {W m : Int} (hm : 0 ≤ m ∧ m < W) : 0 ≤ rup W m ∧ rup W m < W := by unfold rup; split <;> omega
section
variable {M : Type} {pos : M → Int} {W : Int}
structure Ge (pos : M → Int) (W : Int) (l : List M) : Prop where
 in' : ∀ m ∈ l, 0 ≤ pos m ∧ pos m < W
 inj : ∀ x ∈ l, ∀ y ∈ l, pos x = pos y → x = y
def gr (pos : M → Int) (W a : Int) (l : List M) (m : M) : Prop := m ∈ l ∧ ∀ x ∈ l, rky W a (pos m) ≤ rky W a (pos x)
theorem gr.uniq {l : List M} (h : Ge pos W l) {a : Int} (ha : 0 ≤ a ∧ a < W) {m n : M} (hm : gr pos W a l m) (hn : gr pos W a l n) : m = n :=
 h.inj m hm.1 n hn.1 (Cl ha (h.in' m hm.1) (h.in' n hn.1) (Int.le_antisymm (hm.2 n hn.1) (hn.2 m hm.1)))
theorem gr.mem {l : List M} {a : Int} {m : M} (h : gr pos W a l m) : m ∈ l := h.1
theorem gr.sub {l l' : List M} {a : Int} {m : M} (h : gr pos W a l m) (hs : ∀ x ∈ l', x ∈ l) (hm : m ∈ l') : gr pos W a l' m := ⟨hm, fun x hx => h.2 x (hs x hx)⟩
def lW (k : M → Int) : M → List M → M
 | b, [] => b
 | b, x :: l => lW k (if k x < k b then x else b) l
theorem Jf (k : M → Int) (b x : M) (l : List M) : lW k b (x :: l) = lW k (if k x < k b then x else b) l := rfl
theorem wr (k : M → Int) : ∀ (l : List M) (b : M), lW k b l ∈ b :: l ∧ k (lW k b l) ≤ k b ∧ ∀ x ∈ l, k (lW k b l) ≤ k x
 | [], b => ⟨List.mem_cons_self, Int.le_refl _, fun x hx => by cases hx⟩
 | x :: l, b => by
  rw [Jf]
  by_cases h : k x < k b
  ·rw [if_pos h]
   obtain ⟨h1, h2, h3⟩ := wr k l x
   refine ⟨List.mem_cons_of_mem _ h1, by omega, fun y hy => ?_⟩
   rcases List.mem_cons.1 hy with rfl | hy
   ·exact h2
   ·exact h3 y hy
  ·rw [if_neg h]
   obtain ⟨h1, h2, h3⟩ := wr k l b
   refine ⟨?_, h2, fun y hy => ?_⟩
   ·rcases List.mem_cons.1 h1 with e | h'
    ·rw [e]; exact List.mem_cons_self
    ·exact List.mem_cons_of_mem _ (List.mem_cons_of_mem _ h')
   ·rcases List.mem_cons.1 hy with rfl | hy
    ·omega
    ·exact h3 y hy
structure nm (pos : M → Int) (W a : Int) (l s : List M) : Prop where
 mem : ∀ x, x ∈ s ↔ x ∈ l
 lt : s.Pairwise fun x y => rky W a (pos x) < rky W a (pos y)
theorem nm.get {a : Int} {l s : List M} (h : nm pos W a l s) {i j : Nat} (hi : i < j) (hj : j < s.length) : rky W a (pos s[i]) < rky W a (pos s[j]) := List.pairwise_iff_getElem.1 h.lt i j (by omega) hj hi
theorem nm.nodup {a : Int} {l s : List M} (h : nm pos W a l s) {i j : Nat} (hi : i < s.length) (hj : j < s.length) (e : s[i] = s[j]) : i = j := by
 rcases Nat.lt_trichotomy i j with h1 | h1 | h1
 ·have := h.get h1 hj; rw [e] at this; omega
 ·exact h1
 ·have := h.get h1 hi; rw [e] at this; omega
theorem nm.first {a : Int} {l s : List M} (h : nm pos W a l s) (h0 : 0 < s.length) : gr pos W a l s[0] :=
 ⟨(h.mem _).1 (List.getElem_mem h0), fun x hx => by
  obtain ⟨j, hj, rfl⟩ := List.getElem_of_mem ((h.mem x).2 hx)
  rcases Nat.eq_zero_or_pos j with e | e
  ·subst e; exact Int.le_refl _
  ·exact Int.le_of_lt (h.get e hj)⟩
theorem nm.next {a : Int} {l s : List M} (hl : Ge pos W l) (ha : 0 ≤ a ∧ a < W) (h : nm pos W a l s) {i : Nat} (hi : i < s.length) :
    gr pos W (rup W (pos s[i])) l (s[(i + 1) % s.length]'(Nat.mod_lt _ (by omega))) := by
  have hr : ∀ j (hj : j < s.length), 0 ≤ pos s[j] ∧ pos s[j] < W := fun j hj => hl.in' _ ((h.mem _).1 (List.getElem_mem hj))
  have hn : (i + 1) % s.length < s.length := Nat.mod_lt _ (by omega)
  refine ⟨(h.mem _).1 (List.getElem_mem hn), fun x hx => ?_⟩
  obtain ⟨j, hj, rfl⟩ := List.getElem_of_mem ((h.mem x).2 hx)
  have key : ∀ k (hk : k < s.length), rky W (rup W (pos s[i])) (pos s[k]) = if k = i then W - 1 else (if i < k then rky W a (pos s[k]) - rky W a (pos s[i]) - 1 else rky W a (pos s[k]) - rky W a (pos s[i]) + W - 1) := fun k hk => by
    rw [wx (hr i hi) (hr k hk)]
    by_cases e : k = i
    · subst e; rw [if_pos rfl, if_pos rfl]
    · have hne : ¬ pos s[k] = pos s[i] := fun hp => e (h.nodup hk hi (hl.inj _ ((h.mem _).1 (List.getElem_mem hk)) _ ((h.mem _).1 (List.getElem_mem hi)) hp))
      rw [if_neg hne, if_neg e, AW ha (hr i hi) (hr k hk)]
      by_cases h1 : i < k
      · have := h.get h1 hk
        rw [if_pos h1, if_pos (by omega)]
      · have := h.get (show k < i by omega) hi
        rw [if_neg h1, if_neg (by omega)]
  rw [key _ hn, key j hj]
  have rg : ∀ k (hk : k < s.length), 0 ≤ rky W a (pos s[k]) ∧ rky W a (pos s[k]) < W := fun k hk => iX ha (hr k hk)
  have ri := rg i hi
  have rj := rg j hj
  by_cases hlast : i + 1 < s.length
  · have e : (i + 1) % s.length = i + 1 := Nat.mod_eq_of_lt hlast
    simp only [e]
    rw [if_neg (by omega), if_pos (by omega)]
    have r1 := rg (i + 1) hlast
    have g1 := h.get (show i < i + 1 by omega) hlast
    by_cases e1 : j = i
    · rw [if_pos e1]; omega
    · rw [if_neg e1]
      by_cases e2 : i < j
      · rw [if_pos e2]
        rcases Nat.lt_or_ge (i + 1) j with e3 | e3
        · have := h.get e3 hj; omega
        · have : j = i + 1 := by omega
          subst this; omega
      · rw [if_neg e2]; omega
  · have e : (i + 1) % s.length = 0 := by rw [show i + 1 = s.length by omega, Nat.mod_self]
    simp only [e]
    by_cases e0 : 0 = i
    · subst e0
      have : j = 0 := by omega
      subst this
      exact Int.le_refl _
    · rw [if_neg e0, if_neg (by omega)]
      have r0 := rg 0 (by omega)
      have g0 := h.get (show 0 < i by omega) hi
      by_cases e1 : j = i
      · rw [if_pos e1]; omega
      · rw [if_neg e1, if_neg (by omega)]
        rcases Nat.eq_zero_or_pos j with e2 | e2
        · subst e2; omega
        · have := h.get e2 hj; omega
theorem nm.self {l s : List M} (hl : Ge pos W l) {m : M} (hm : m ∈ l) (h : nm pos W (pos m) l s) (h0 : 0 < s.length) : s[0] = m :=
 gr.uniq hl (hl.in' m hm) (h.first h0) ⟨hm, fun x hx => by rw [rq]; exact (iX (hl.in' m hm) (hl.in' x hx)).1⟩
theorem Lh {l : List M} (hl : Ge pos W l) {b m : M} {a : Int} (ha : 0 ≤ a ∧ a < W) (hb : b ∈ l) (hn : gr pos W (rup W (pos b)) l m) (hne : ¬ b = m) : (0 < rky W (pos b) a ∧ rky W (pos b) a ≤ rky W (pos b) (pos m)) ↔ gr pos W a l m := by
 have rb := hl.in' b hb
 have rm := hl.in' m hn.1
 have hpm : ¬ pos m = pos b := fun e => hne (hl.inj b hb m hn.1 e.symm)
 have am := wx rb rm
 rw [if_neg hpm] at am
 have hmin : ∀ x ∈ l, ¬ pos x = pos b → rky W (pos b) (pos m) ≤ rky W (pos b) (pos x) := fun x hx hxb => by
  have h1 := hn.2 x hx
  rw [am, wx rb (hl.in' x hx), if_neg hxb] at h1
  omega
 have sh : ∀ x ∈ l, rky W a (pos x) = if rky W (pos b) a ≤ rky W (pos b) (pos x) then rky W (pos b) (pos x) - rky W (pos b) a else rky W (pos b) (pos x) - rky W (pos b) a + W := fun x hx => AW rb ha (hl.in' x hx)
 have hbb : rky W (pos b) (pos b) = 0 := rq
 have ra := iX rb ha
 have rm2 := iX rb rm
 constructor
 ·rintro ⟨h1, h2⟩
  refine ⟨hn.1, fun x hx => ?_⟩
  rw [sh m hn.1, sh x hx, if_pos h2]
  by_cases hxb : pos x = pos b
  ·rw [hxb, hbb, if_neg (by omega)]; omega
  ·have := hmin x hx hxb
   rw [if_pos (by omega)]; omega
 ·intro h
  have h1 := h.2 b hb
  rw [sh m hn.1, sh b hb, hbb] at h1
  by_cases h0 : rky W (pos b) a = 0
  ·rw [h0, if_pos rm2.1, if_pos (Int.le_refl _)] at h1
   have : rky W (pos b) (pos m) = 0 := by omega
   exact absurd (rr rb rm this) hpm
  ·refine ⟨by omega, ?_⟩
   rcases Int.lt_or_le (rky W (pos b) (pos m)) (rky W (pos b) a) with h2 | h2
   ·rw [if_neg (by omega), if_neg (by omega)] at h1
    have : rky W (pos b) (pos m) = 0 := by omega
    exact absurd (rr rb rm this) hpm
   ·exact h2
end
end Go.Proofs.Ytimdnodkabnbfaa
namespace Go.Proofs
open Go.Shelf
def Try.sortMember_ren : Go.Shelf.Ren := ⟨fun | 6 => 127 | 15 => 134 | 14 => 133 | 28 => 144 | 29 => 145 | 20 => 136 | 21 => 137 | 22 => 138 | 23 => 139 | 24 => 140 | 25 => 141 | 26 => 142 | 27 => 143 | 46 => 146 | 47 => 147 | 48 => 148 | 49 => 149 | 50 => 150 | 57 => 151 | n => n, fun | 22 => 42 | 24 => 30 | 25 => 82 | 3 => 3 | 39 => 149 | 0 => 0 | 53 => 166 | 55 => 168 | 4 => 4 | 46 => 160 | 45 => 159 | 50 => 103 | 5 => 5 | 9 => 9 | 66 => 169 | 70 => 173 | 76 => 175 | 77 => 176 | n => n, fun | n => n⟩
theorem Try.sortMember : Go.Proofs.SlLaysF0.n6 Try.prog Try.sortMember_ren := {
 mixed := by kernel_rfl
 f6 := ⟨Try.f127.name, by decide, Try.func127.trans (congrArg some (by kernel_rfl))⟩
 f14 := ⟨Try.f133.name, by decide, Try.func133.trans (congrArg some (by kernel_rfl))⟩
 f15 := Try.func134.trans (congrArg some (by kernel_rfl))
 f20 := ⟨Try.f136.name, by decide, Try.func136.trans (congrArg some (by kernel_rfl))⟩
 f21 := ⟨Try.f137.name, by decide, Try.func137.trans (congrArg some (by kernel_rfl))⟩
 f22 := ⟨Try.f138.name, by decide, Try.func138.trans (congrArg some (by kernel_rfl))⟩
 f23 := ⟨Try.f139.name, by decide, Try.func139.trans (congrArg some (by kernel_rfl))⟩
 f24 := ⟨Try.f140.name, by decide, Try.func140.trans (congrArg some (by kernel_rfl))⟩
 f25 := ⟨Try.f141.name, by decide, Try.func141.trans (congrArg some (by kernel_rfl))⟩
 f26 := ⟨Try.f142.name, by decide, Try.func142.trans (congrArg some (by kernel_rfl))⟩
 f27 := ⟨Try.f143.name, by decide, Try.func143.trans (congrArg some (by kernel_rfl))⟩
 f28 := Try.func144.trans (congrArg some (by kernel_rfl))
 f29 := Try.func145.trans (congrArg some (by kernel_rfl))
 f46 := ⟨Try.f146.name, by decide, Try.func146.trans (congrArg some (by kernel_rfl))⟩
 f47 := Try.func147.trans (congrArg some (by kernel_rfl))
 f48 := Try.func148.trans (congrArg some (by kernel_rfl))
 f49 := ⟨Try.f149.name, by decide, Try.func149.trans (congrArg some (by kernel_rfl))⟩
 f50 := ⟨Try.f150.name, by decide, Try.func150.trans (congrArg some (by kernel_rfl))⟩
 f57 := ⟨Try.f151.name, by decide, Try.func151.trans (congrArg some (by kernel_rfl))⟩
 t0 := Try.underlying0
 a0 := Try.isAgg0
 z0 := Try.sizeOf0
 v0 := Try.zeroValue0
 t3 := Try.underlying3
 a3 := Try.isAgg3
 z3 := Try.sizeOf3
 v3 := Try.zeroValue3
 t4 := Try.underlying4
 a4 := Try.isAgg4
 z4 := Try.sizeOf4
 v4 := Try.zeroValue4
 t5 := Try.underlying5
 a5 := Try.isAgg5
 z5 := Try.sizeOf5
 v5 := Try.zeroValue5
 t9 := Try.underlying9
 a9 := Try.isAgg9
 z9 := Try.sizeOf9
 v9 := Try.zeroValue9
 t22 := Try.underlying42
 a22 := Try.isAgg42
 z22 := Try.sizeOf42
 v22 := Try.zeroValue42
 t25 := Try.underlying82
 a25 := Try.isAgg82
 z25 := Try.sizeOf82
 v25 := Try.zeroValue82
 t39 := Try.underlying149
 a39 := Try.isAgg149
 z39 := Try.sizeOf149
 v39 := Try.zeroValue149
 t45 := Try.underlying159
 a45 := Try.isAgg159
 z45 := Try.sizeOf159
 v45 := Try.zeroValue159
 t46 := Try.underlying160
 a46 := Try.isAgg160
 z46 := Try.sizeOf160
 v46 := Try.zeroValue160
 t50 := Try.underlying103
 a50 := Try.isAgg103
 z50 := Try.sizeOf103
 v50 := Try.zeroValue103
 t53 := Try.underlying166
 a53 := Try.isAgg166
 z53 := Try.sizeOf166
 v53 := Try.zeroValue166
 t55 := Try.underlying168
 a55 := Try.isAgg168
 z55 := Try.sizeOf168
 v55 := Try.zeroValue168
 t66 := Try.underlying169
 a66 := Try.isAgg169
 z66 := Try.sizeOf169
 v66 := Try.zeroValue169
 t70 := Try.underlying173
 a70 := Try.isAgg173
 z70 := Try.sizeOf173
 v70 := Try.zeroValue173
 t76 := Try.underlying175
 a76 := Try.isAgg175
 z76 := Try.sizeOf175
 v76 := Try.zeroValue175
 t77 := Try.underlying176
 a77 := Try.isAgg176
 z77 := Try.sizeOf176
 v77 := Try.zeroValue176 }
theorem Try.sortMember_none (p : Option Addr) (cap : Nat) (fv : Value) (w : World) :
    Calls Try.prog 127 #[.slice p 0 cap, fv] w fun e w' => e = .returned (.tuple #[]) ∧ w' = w := AnyF.slices_SortFunc_none Try.sortMember p cap fv w
end Go.Proofs
namespace Go.Proofs.Ytimdnodkabnbfaa
open Go Go.RowKit
@[reducible] def gR : eN := Mf ab
theorem p6 : qZ prog [] fa gR :=
 Lt (e := ab) rfl rfl (mT qI (by kernel_rfl) (by kernel_rfl)) (fun p cap fv w => Try.sortMember_none p cap fv w) fun enc hk h1 cf hO g cb blk off cap d w eg hcmp hH hblk hsz hT =>
  Go.Proofs.AnyQ.slices_SortFunc_total Try.sortMember 33 (fun w => (lT aY (show List.lookup (Try.sortMember_ren.t 24) br = some ab by kernel_rfl)).isAgg w) (fun w => (lT aY (show List.lookup (Try.sortMember_ren.t 24) br = some ab by kernel_rfl)).sizeOf w) enc hk h1 cf hO g cb blk off cap d w eg hcmp hH hblk hsz hT
abbrev Lw : Ty := .clo bW (.pair (.ref (.slc ab)) .unit)
abbrev lJ : Ty := .pair Lw .unit
noncomputable abbrev dh : bA := ⟨mv, lJ, fun x => ((x.1, ()), ()), fun _ => True, false⟩
abbrev jf : Ty := .pair Lw (.pair (tN ab) .unit)
noncomputable abbrev ef : bA := ⟨jf, fY, fun x => (fT ab x.2.1 x.1.1, ()), fun x => ji ab x.2.1 x.1.1, false⟩
def cT (id : List Int) : den (tN ab) := some fun y => (fQ (aW id y.1.2.1) (aW id y.2.1.2.1), ())
noncomputable abbrev kD : bA := ⟨yx, xV, fun x => (cT x.1, ()), fun _ => True, true⟩
noncomputable abbrev cu : bA := ⟨i6, i7, fun x => (x.1.any (prM x.2.1), ()), fun x => m5 (.pair ab .unit) (.pair .bool .unit) x.2.1, false⟩
def xu : List Mem → List Mem → Bool
 | _, [] => true
 | pre, m :: l => (!(pre.any fun x => kG x m)) && decide (0 ≤ m.1) && decide (m.1 < 16) && xu (pre ++ [m]) l
def bp (l : List Mem) : Bool := xu [] l && decide (l.length ≤ 16)
noncomputable abbrev fW : bA := ⟨xe, qi, fun x => (bp x.1, ()), fun _ => True, true⟩
def io (l : List Mem) (id : List Int) : Mem × Int := bif !bp l then (zero ab, 1) else bif decide (lnx ab l = 0) then (zero ab, 6) else (E5 (cmM (cT id)) l, 0)
noncomputable abbrev lH : bA := ⟨wN, qd, fun x => ((io x.1 x.2.1).1, (io x.1 x.2.1).2, ()), fun _ => True, true⟩
def mA (l : List Mem) (no : Int) : Int := ixP (fun m => decide (m.1 = no)) l 0
def bn (l : List Mem) (no : Int) : List Mem × Int := bif !bp l then ([], 1) else bif decide (mA l no < 0) then ([], 6) else (fT ab (cT (el ab l (mA l no)).2.1) l, 0)
noncomputable abbrev gg : bA := ⟨uU, oP, fun x => ((bn x.1 x.2.1).1, (bn x.1 x.2.1).2, ()), fun _ => True, true⟩
def ud (all : List Mem) : Nat → List Mem
 | 0 => []
 | i + 1 => ud all i ++ [el ab all (Int.tmod ((i : Int) + 1) all.length)]
def eJ (l : List Mem) (no many : Int) : List Mem × Int := bif (bif decide (many < 0) then true else decide (16 < many)) then ([], 1) else bif !decide ((bn l no).2 = 0) then ([], (bn l no).2) else (ud (bn l no).1 many.toNat, 0)
noncomputable abbrev lF : bA := ⟨wQ, ko, fun x => ((eJ x.1 x.2.1 x.2.2.1).1, (eJ x.1 x.2.1 x.2.2.1).2, ()), fun _ => True, true⟩
def fh (l : List Mem) (no : Int) : Mem × Int := bif !decide ((bn l no).2 = 0) then (zero ab, (bn l no).2) else (el ab (bn l no).1 ((bn l no).1.length - 1), 0)
noncomputable abbrev j6 : bA := ⟨uH, o4, fun x => ((fh x.1 x.2.1).1, (fh x.1 x.2.1).2, ()), fun _ => True, true⟩
def noM : Mem := (-1, zero (Ty.pair tId Ty.unit))
def ux (id : List Int) (b m : Mem) : Mem := bif (bif decide (b.1 < 0) then true else decide (fQ (aW id m.2.1) (aW id b.2.1) < 0)) then m else b
def Gp (l : List Mem) (id : List Int) : Mem := l.foldl (ux id) noM
def bN (l : List Mem) (m : Mem) : Mem := Gp l (ES m.2.1 pw0)
def kH (l : List Mem) : Mem → Nat → List Mem × Mem
 | m, 0 => ([], m)
 | m, i + 1 => ((kH l m i).1 ++ [bN l (kH l m i).2], bN l (kH l m i).2)
end Go.Proofs.Ytimdnodkabnbfaa
