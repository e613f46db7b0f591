/- Part 6 of 8 of what this claim's proof stands on: a theory of programs on data, and the contracts of the functions that the law reaches. It holds no condition of its own. -/
import Derived.Test.YtnccacngedeoeaaCS5
import Derived.Test.YtnccacngedeoeaaProg
namespace Go.Proofs.Ytnccacngedeoeaa
open Go
noncomputable section
noncomputable abbrev prog : Program := Try.prog
abbrev tId : Ty := (.arr 32 (.int .u8))
abbrev ar : Ty := (.arr 16 (.int .u8))
abbrev ak : Ty := (.st (.pair (.mp ar .bool) .unit))
abbrev ah : Ty := (.st (.pair tId (.pair tId .unit)))
abbrev ai : Ty := (.st (.pair (.int .i64) (.pair tId (.pair (.int .i64) .unit))))
abbrev aj : Ty := (.st (.pair (.slc (.int .i64)) (.pair (.int .i64) (.pair (.int .i64) (.pair (.int .i64) .unit)))))
abbrev ag : Ty := (.st (.pair (.slc ai) (.pair (.int .i64) (.pair .str .unit))))
abbrev ab : Ty := (.st (.pair tId (.pair ai (.pair (.int .i64) .unit))))
abbrev aC : Ty := (.st (.pair (.slc ag) .unit))
abbrev bn : Ty := (.st (.pair (.int .i64) (.pair (.int .i64) (.pair ag (.pair ab (.pair (.int .i64) .unit))))))
def bG : List (Nat × Ty) := [
 (1, (.fn .unit .unit)),
 (2, (.int .i64)),
 (3, (.int .i64)),
 (4, .bool),
 (5, (.int .u8)),
 (9, .str),
 (12, (.int .u64)),
 (21, (.int .i32)),
 (22, (.slc ab)),
 (23, (.slc ai)),
 (24, ag),
 (25, ag),
 (26, (.fn (.pair (.slc ab) .unit) (.pair (.slc ab) .unit))),
 (27, (.fn (.pair ag .unit) (.pair ag .unit))),
 (28, (.slc (.int .i64))),
 (29, aj),
 (30, aj),
 (31, (.int .i64)),
 (33, (.fn (.pair (.slc ab) (.pair ag .unit)) (.pair aj (.pair (.int .i64) .unit)))),
 (34, tId),
 (35, tId),
 (36, ai),
 (37, ai),
 (38, (.fn .unit (.pair .bool .unit))),
 (40, (.fn (.pair (.slc ab) (.pair tId .unit)) (.pair (.slc ab) (.pair (.int .i64) .unit)))),
 (41, (.fn (.pair aj (.pair aj .unit)) (.pair .bool .unit))),
 (42, (.fn (.pair (.slc ab) (.pair ag .unit)) (.pair .bool .unit))),
 (43, (.slc ah)),
 (45, (.fn (.pair (.slc ab) .unit) (.pair (.slc ah) (.pair (.int .i64) .unit)))),
 (46, (.fn (.pair (.slc ab) .unit) (.pair .bool .unit))),
 (47, (.fn (.pair (.slc ab) .unit) (.pair (.slc ah) .unit))),
 (48, ah),
 (49, ah),
 (50, (.fn (.pair ag .unit) (.pair .bool .unit))),
 (52, (.fn (.pair (.slc ab) (.pair ag .unit)) (.pair aj (.pair .bool .unit)))),
 (53, (.fn (.pair (.slc ab) (.pair ab .unit)) (.pair (.slc ab) (.pair (.int .i64) .unit)))),
 (54, ab),
 (55, ab),
 (56, (.fn (.pair tId (.pair tId .unit)) (.pair (.int .i64) .unit))),
 (57, (.fn (.pair (.slc ab) (.pair (.slc ab) .unit)) (.pair .bool .unit))),
 (58, (.fn (.pair (.slc ab) (.pair (.int .i64) (.pair tId .unit))) (.pair .bool .unit))),
 (59, (.fn (.pair (.slc ab) (.pair tId (.pair ai .unit))) (.pair (.slc ab) (.pair (.int .i64) .unit)))),
 (60, (.fn (.pair ab .unit) (.pair .bool .unit))),
 (62, (.fn (.pair (.slc ab) (.pair ab .unit)) (.pair (.slc ab) (.pair .bool .unit)))),
 (63, (.fn (.pair (.slc ab) (.pair tId (.pair ai .unit))) (.pair ab .unit))),
 (64, (.fn (.pair (.slc ab) (.pair tId (.pair ai .unit))) (.pair (.slc ab) .unit))),
 (65, (.fn (.pair (.slc ab) (.pair ab (.pair tId (.pair ai .unit)))) (.pair .bool .unit))),
 (67, (.fn (.pair (.slc ab) (.pair tId (.pair tId .unit))) (.pair (.slc ab) (.pair (.slc ab) (.pair (.int .i64) .unit))))),
 (68, (.fn (.pair tId (.pair tId (.pair tId .unit))) (.pair .bool .unit))),
 (69, (.fn (.pair (.slc ab) (.pair tId (.pair tId .unit))) (.pair .bool .unit))),
 (70, (.fn (.pair (.slc ab) (.pair (.int .i64) .unit)) (.pair (.slc ab) (.pair (.int .i64) .unit)))),
 (71, (.fn (.pair (.slc ab) (.pair ab .unit)) (.pair .bool .unit))),
 (72, (.fn (.pair (.slc ab) (.pair (.int .i64) .unit)) (.pair (.slc ab) .unit))),
 (73, (.fn (.pair (.slc ab) (.pair tId (.pair tId (.pair .bool .unit)))) (.pair (.slc ab) .unit))),
 (74, (.fn (.pair (.slc ab) (.pair tId .unit)) (.pair (.slc ab) .unit))),
 (75, (.fn (.pair (.slc ab) (.pair (.int .i64) (.pair tId (.pair tId (.pair tId .unit))))) (.pair .bool .unit))),
 (77, (.fn (.pair (.slc ah) .unit) (.pair .bool (.pair (.int .i64) .unit)))),
 (78, (.fn (.pair (.slc ab) (.pair ag (.pair (.int .i64) .unit))) (.pair .bool .unit))),
 (79, (.fn (.pair (.slc ab) (.pair tId (.pair (.int .i64) .unit))) (.pair .bool .unit))),
 (80, (.arr 16 (.int .i64))),
 (81, (.slc ag)),
 (82, aC),
 (83, aC),
 (84, (.fn (.pair (.slc ag) .unit) .unit)),
 (86, (.fn .unit (.pair ag (.pair .bool .unit)))),
 (87, (.slc bn)),
 (89, (.fn (.pair (.slc ab) (.pair ag .unit)) (.pair (.slc bn) (.pair (.int .i64) .unit)))),
 (90, bn),
 (91, bn),
 (93, (.fn (.pair (.slc ab) (.pair (.fn (.pair ab .unit) (.pair .bool .unit)) .unit)) (.pair (.slc ab) (.pair (.slc ab) .unit)))),
 (94, (.fn (.pair ab (.pair ab .unit)) (.pair .bool .unit))),
 (95, (.fn (.pair (.slc ai) .unit) (.pair .bool .unit))),
 (96, aj),
 (97, aj),
 (98, (.fn (.pair aj (.pair (.slc ab) (.pair ag .unit))) (.pair aj .unit))),
 (100, (.fn (.pair (.slc ab) (.pair ab (.pair (.fn (.pair ab (.pair ab .unit)) (.pair (.int .i64) .unit)) .unit))) (.pair (.int .i64) (.pair .bool .unit)))),
 (101, (.fn (.pair ab (.pair ab .unit)) (.pair (.int .i64) .unit))),
 (102, (.fn (.pair (.slc ab) (.pair (.int .i64) (.pair (.slc ab) .unit))) (.pair (.slc ab) .unit))),
 (103, (.fn (.pair (.int .u8) .unit) (.pair (.int .i64) .unit))),
 (104, (.fn (.pair (.slc ab) (.pair (.int .i64) (.pair (.int .i64) .unit))) (.pair (.slc ab) .unit))),
 (105, (.fn (.pair ai .unit) (.pair .bool .unit))),
 (106, (.fn (.pair ab (.pair tId (.pair ai .unit))) (.pair .bool .unit))),
 (107, (.fn (.pair tId (.pair tId .unit)) (.pair tId .unit))),
 (108, (.fn (.pair (.slc ah) .unit) (.pair (.slc ah) .unit))),
 (109, (.mp ar .bool)),
 (110, ak),
 (111, ak),
 (112, (.fn (.pair ar .unit) .unit)),
 (113, ar),
 (114, ar),
 (115, (.fn (.pair tId .unit) (.pair ar .unit))),
 (116, (.fn (.pair (.slc ah) (.pair (.fn (.pair ah .unit) (.pair .bool .unit)) .unit)) (.pair (.slc ah) .unit))),
 (117, (.fn (.pair ar .unit) (.pair .bool .unit))),
 (118, (.fn (.pair ah .unit) (.pair .bool .unit))),
 (120, (.fn (.pair (.int .i64) .unit) (.pair (.slc bn) .unit))),
 (121, (.fn (.pair ag (.pair ab (.pair (.slc ai) .unit))) (.pair bn .unit))),
 (122, (.fn (.pair (.slc ab) (.pair ag .unit)) (.pair (.slc bn) .unit))),
 (123, (.int .u64)),
 (124, (.fn (.pair ab (.pair ab .unit)) (.pair (.int .i64) .unit))),
 (125, (.fn (.pair ab .unit) (.pair (.int .i64) .unit))),
 (126, ab),
 (127, (.slc (.fn (.pair ab (.pair ab .unit)) (.pair (.int .i64) .unit)))),
 (128, (.fn (.pair (.slc ab) (.pair (.int .i64) .unit)) .unit)),
 (129, (.fn (.pair (.slc (.int .u8)) (.pair (.slc (.int .u8)) .unit)) (.pair (.int .i64) .unit))),
 (130, (.slc (.int .u8))),
 (131, (.fn (.pair tId (.pair (.int .i64) .unit)) (.pair (.int .i64) .unit))),
 (133, (.fn (.pair (.slc ah) (.pair (.fn (.pair ah .unit) (.pair .bool .unit)) .unit)) (.pair (.int .i64) .unit))),
 (135, (.fn (.pair (.slc ai) (.pair (.slc ai) .unit)) (.pair (.slc ai) (.pair (.int .i64) .unit)))),
 (136, (.fn (.pair ag (.pair ab (.pair (.slc ai) .unit))) (.pair bn .unit))),
 (137, (.fn (.pair (.int .i64) (.pair (.int .i64) .unit)) (.pair (.int .i64) .unit))),
 (138, (.fn (.pair (.int .u8) (.pair (.int .u8) .unit)) (.pair (.int .i64) .unit))),
 (139, (.fn (.pair (.slc ai) (.pair (.fn (.pair ai .unit) (.pair .bool .unit)) .unit)) (.pair .bool .unit))),
 (140, (.fn (.pair (.slc (.slc ai)) .unit) (.pair (.slc ai) .unit))),
 (141, (.fn (.pair (.int .i64) .unit) (.pair .bool .unit))),
 (142, (.fn (.pair (.slc ab) .unit) .unit)),
 (143, (.fn (.pair (.int .u8) .unit) (.pair .bool .unit))),
 (144, (.fn (.pair (.slc ai) (.pair (.fn (.pair ai .unit) (.pair .bool .unit)) .unit)) (.pair (.int .i64) .unit))),
 (145, (.slc (.slc ai))),
 (146, (.fn (.pair (.slc ai) (.pair (.int .i64) .unit)) (.pair (.slc ai) .unit))),
 (147, (.fn .unit (.pair .str .unit))),
 (153, (.fn .unit (.pair (.int .i64) .unit))),
 (154, (.int .u32))]
theorem bt : tc prog bG = true := by kernel_rfl
theorem aW : prog.follows .mixedOrders = true := by kernel_rfl
abbrev nf : Nat := 10
noncomputable abbrev jC : Func := Try.f10
abbrev dm : Ty := (.pair (.slc ab) (.pair ag (.pair (.int .i64) .unit)))
abbrev sT : Ty := (.pair .bool .unit)
theorem ta : Try.prog.funcs[nf]? = some jC := Try.func10
abbrev oZ : Nat := 12
noncomputable abbrev sH : Func := Try.f12
abbrev wM : Ty := (.pair (.slc ab) .unit)
abbrev ws : Ty := (.pair (.slc ab) .unit)
theorem CL : Try.prog.funcs[oZ]? = some sH := Try.func12
abbrev pe : Nat := 13
noncomputable abbrev sB : Func := Try.f13
abbrev wR : Ty := (.pair ag .unit)
abbrev vY : Ty := (.pair ag .unit)
theorem Cu : Try.prog.funcs[pe]? = some sB := Try.func13
abbrev dR : Nat := 14
noncomputable abbrev aB : Func := Try.f14
abbrev m8 : Ty := (.pair (.slc ab) (.pair ag .unit))
abbrev bJ : Ty := (.pair aj (.pair (.int .i64) .unit))
theorem uv : Try.prog.funcs[dR]? = some aB := Try.func14
abbrev mm : Nat := 15
noncomputable abbrev p5 : Func := Try.f15
abbrev sC : Ty := .unit
abbrev tE : Ty := (.pair .bool .unit)
theorem Al : Try.prog.funcs[mm]? = some p5 := Try.func15
abbrev jM : Nat := 16
noncomputable abbrev c8 : Func := Try.f16
abbrev qQ : Ty := (.pair (.slc ab) (.pair tId .unit))
abbrev jc : Ty := (.pair (.slc ab) (.pair (.int .i64) .unit))
theorem xI : Try.prog.funcs[jM]? = some c8 := Try.func16
abbrev ny : Nat := 17
noncomputable abbrev gv : Func := Try.f17
abbrev uR : Ty := (.pair aj (.pair aj .unit))
abbrev pF : Ty := (.pair .bool .unit)
theorem AX : Try.prog.funcs[ny]? = some gv := Try.func17
abbrev jf : Nat := 18
noncomputable abbrev dr : Func := Try.f18
abbrev pv : Ty := (.pair (.slc ab) .unit)
abbrev lB : Ty := (.pair (.slc ah) (.pair (.int .i64) .unit))
theorem wN : Try.prog.funcs[jf]? = some dr := Try.func18
abbrev je : Nat := 24
noncomputable abbrev cn : Func := Try.f24
abbrev pu : Ty := (.pair tId (.pair tId .unit))
abbrev iz : Ty := (.pair (.int .i64) .unit)
theorem wS : Try.prog.funcs[je]? = some cn := Try.func24
abbrev cG : Nat := 29
noncomputable abbrev cI : Func := Try.f29
abbrev p9 : Ty := (.pair (.slc ab) .unit)
abbrev jj : Ty := (.pair .bool .unit)
theorem xk : Try.prog.funcs[cG]? = some cI := Try.func29
abbrev iA : Nat := 40
noncomputable abbrev aq : Func := Try.f40
abbrev n8 : Ty := (.pair (.slc ah) .unit)
abbrev fe : Ty := (.pair .bool (.pair (.int .i64) .unit))
theorem u2 : Try.prog.funcs[iA]? = some aq := Try.func40
abbrev d6 : Nat := 41
noncomputable abbrev ly : Func := Try.f41
abbrev oG : Ty := (.pair ag .unit)
abbrev nT : Ty := (.pair .bool .unit)
theorem vD : Try.prog.funcs[d6]? = some ly := Try.func41
abbrev ip : Nat := 42
noncomputable abbrev iD : Func := Try.f42
theorem mQ : Try.prog.funcs[ip]? = some iD := Try.func42
abbrev g6 : Nat := 43
noncomputable abbrev g8 : Func := Try.f43
theorem mD : Try.prog.funcs[g6]? = some g8 := Try.func43
abbrev jq : Nat := 44
noncomputable abbrev dS : Func := Try.f44
abbrev o3 : Ty := (.pair (.slc ab) (.pair ag .unit))
abbrev kN : Ty := (.pair (.slc bn) (.pair (.int .i64) .unit))
theorem wq : Try.prog.funcs[jq]? = some dS := Try.func44
abbrev dT : Nat := 45
noncomputable abbrev bj : Func := Try.f45
abbrev js : Ty := (.pair (.slc ab) (.pair (.fn (.pair ab .unit) (.pair .bool .unit)) .unit))
abbrev dO : Ty := (.pair (.slc ab) (.pair (.slc ab) .unit))
theorem oP : Try.prog.funcs[dT]? = some bj := Try.func45
abbrev im : Nat := 46
noncomputable abbrev io : Func := Try.f46
abbrev nN : Ty := (.pair ab (.pair (.ref tId) .unit))
abbrev nL : Ty := (.pair .bool .unit)
theorem vQ : Try.prog.funcs[im]? = some io := Try.func46
abbrev mv : Nat := 50
noncomputable abbrev mj : Func := Try.f50
abbrev tk : Ty := (.pair ab .unit)
abbrev sI : Ty := (.pair .bool .unit)
theorem ze : Try.prog.funcs[mv]? = some mj := Try.func50
abbrev iF : Nat := 52
noncomputable abbrev bm : Func := Try.f52
abbrev nY : Ty := (.pair ab (.pair ab .unit))
abbrev db : Ty := (.pair (.int .i64) .unit)
theorem vq : Try.prog.funcs[iF]? = some bm := Try.func52
abbrev eO : Nat := 55
noncomputable abbrev eJ : Func := Try.f55
abbrev ka : Ty := (.pair (.int .u8) .unit)
abbrev kr : Ty := (.pair (.int .i64) .unit)
theorem qg : Try.prog.funcs[eO]? = some eJ := Try.func55
abbrev eB : Nat := 61
noncomputable abbrev iB : Func := Try.f61
abbrev nP : Ty := (.pair tId (.pair tId .unit))
abbrev oz : Ty := (.pair (.int .i64) .unit)
theorem uY : Try.prog.funcs[eB]? = some iB := Try.func61
abbrev fj : Nat := 65
noncomputable abbrev ii : Func := Try.f65
theorem rE : Try.prog.funcs[fj]? = some ii := Try.func65
abbrev lF : Nat := 66
noncomputable abbrev lN : Func := Try.f66
theorem rh : Try.prog.funcs[lF]? = some lN := Try.func66
abbrev jY : Nat := 67
noncomputable abbrev mU : Func := Try.f67
abbrev qE : Ty := (.pair tId .unit)
abbrev qF : Ty := (.pair ar .unit)
theorem xY : Try.prog.funcs[jY]? = some mU := Try.func67
abbrev iV : Nat := 68
noncomputable abbrev aH : Func := Try.f68
theorem nj : Try.prog.funcs[iV]? = some aH := Try.func68
abbrev m9 : Nat := 69
noncomputable abbrev nd : Func := Try.f69
theorem sR : Try.prog.funcs[m9]? = some nd := Try.func69
abbrev lL : Nat := 70
noncomputable abbrev lJ : Func := Try.f70
theorem rD : Try.prog.funcs[lL]? = some lJ := Try.func70
abbrev jW : Nat := 71
noncomputable abbrev mX : Func := Try.f71
abbrev qv : Ty := (.pair (.slc ai) .unit)
abbrev qP : Ty := (.pair .bool .unit)
theorem xr : Try.prog.funcs[jW]? = some mX := Try.func71
abbrev jb : Nat := 72
noncomputable abbrev mc : Func := Try.f72
abbrev pf : Ty := (.pair (.int .i64) .unit)
abbrev py : Ty := (.pair (.slc bn) .unit)
theorem wP : Try.prog.funcs[jb]? = some mc := Try.func72
abbrev kL : Nat := 73
noncomputable abbrev oK : Func := Try.f73
abbrev r9 : Ty := (.pair ag (.pair ab (.pair (.slc ai) .unit)))
abbrev sh : Ty := (.pair bn .unit)
theorem yA : Try.prog.funcs[kL]? = some oK := Try.func73
abbrev jp : Nat := 77
noncomputable abbrev nB : Func := Try.f77
abbrev uK : Ty := (.pair ai .unit)
abbrev uC : Ty := (.pair .bool .unit)
theorem A1 : Try.prog.funcs[jp]? = some nB := Try.func77
abbrev fB : Nat := 78
noncomputable abbrev fw : Func := Try.f78
abbrev lK : Ty := (.pair ab (.pair ab .unit))
abbrev lI : Ty := (.pair (.int .i64) .unit)
theorem sq : Try.prog.funcs[fB]? = some fw := Try.func78
abbrev eP : Nat := 79
noncomputable abbrev eI : Func := Try.f79
abbrev kw : Ty := (.pair ab (.pair ab .unit))
abbrev ke : Ty := (.pair (.int .i64) .unit)
theorem qm : Try.prog.funcs[eP]? = some eI := Try.func79
abbrev eT : Nat := 80
noncomputable abbrev eQ : Func := Try.f80
abbrev j8 : Ty := (.pair ab (.pair ab .unit))
abbrev j9 : Ty := (.pair (.int .i64) .unit)
theorem qc : Try.prog.funcs[eT]? = some eQ := Try.func80
abbrev eS : Nat := 81
noncomputable abbrev eN : Func := Try.f81
abbrev kd : Ty := (.pair ab (.pair ab .unit))
abbrev kp : Ty := (.pair (.int .i64) .unit)
theorem qM : Try.prog.funcs[eS]? = some eN := Try.func81
abbrev mt : Nat := 84
noncomputable abbrev mq : Func := Try.f84
abbrev tI : Ty := (.pair (.int .u8) .unit)
abbrev tB : Ty := (.pair (.int .i64) .unit)
theorem Af : Try.prog.funcs[mt]? = some mq := Try.func84
abbrev eC : Nat := 85
noncomputable abbrev bu : Func := Try.f85
abbrev jE : Ty := (.pair (.slc (.int .u8)) (.pair (.slc (.int .u8)) .unit))
abbrev dW : Ty := (.pair (.int .i64) .unit)
theorem pO : Try.prog.funcs[eC]? = some bu := Try.func85
abbrev jt : Nat := 87
noncomputable abbrev bw : Func := Try.f87
theorem oB : Try.prog.funcs[jt]? = some bw := Try.func87
abbrev ia : Nat := 88
noncomputable abbrev g9 : Func := Try.f88
abbrev tH : Ty := (.pair (.slc ai) .unit)
abbrev n7 : Ty := (.pair .bool .unit)
theorem Aj : Try.prog.funcs[ia]? = some g9 := Try.func88
abbrev ll : Nat := 89
noncomputable abbrev c5 : Func := Try.f89
abbrev rY : Ty := (.pair (.slc ai) (.pair (.slc ai) .unit))
abbrev gV : Ty := (.pair (.slc ai) (.pair (.int .i64) .unit))
theorem yF : Try.prog.funcs[ll]? = some c5 := Try.func89
abbrev dK : Nat := 91
noncomputable abbrev fX : Func := Try.f91
abbrev mK : Ty := (.pair (.int .i64) (.pair (.int .i64) .unit))
abbrev mO : Ty := (.pair (.int .i64) .unit)
theorem tT : Try.prog.funcs[dK]? = some fX := Try.func91
abbrev fG : Nat := 93
noncomputable abbrev fp : Func := Try.f93
abbrev lE : Ty := (.pair (.int .u8) (.pair (.int .u8) .unit))
abbrev lM : Ty := (.pair (.int .i64) .unit)
theorem sm : Try.prog.funcs[fG]? = some fp := Try.func93
abbrev gl : Nat := 94
noncomputable abbrev ce : Func := Try.f94
theorem l9 : Try.prog.funcs[gl]? = some ce := Try.func94
abbrev sa : Nat := 95
noncomputable abbrev sg : Func := Try.f95
theorem xn : Try.prog.funcs[sa]? = some sg := Try.func95
abbrev ku : Nat := 96
noncomputable abbrev a9 : Func := Try.f96
theorem pT : Try.prog.funcs[ku]? = some a9 := Try.func96
abbrev iC : Nat := 97
noncomputable abbrev iE : Func := Try.f97
abbrev oF : Ty := (.pair (.int .i64) .unit)
abbrev nX : Ty := (.pair .bool .unit)
theorem vR : Try.prog.funcs[iC]? = some iE := Try.func97
abbrev gH : Nat := 99
noncomputable abbrev gu : Func := Try.f99
abbrev ne : Ty := (.pair (.int .u8) .unit)
abbrev na : Ty := (.pair .bool .unit)
theorem uw : Try.prog.funcs[gH]? = some gu := Try.func99
abbrev iU : Nat := 100
noncomputable abbrev bV : Func := Try.f100
theorem nx : Try.prog.funcs[iU]? = some bV := Try.func100
abbrev lP : Nat := 101
noncomputable abbrev lG : Func := Try.f101
theorem qV : Try.prog.funcs[lP]? = some lG := Try.func101
end
end Go.Proofs.Ytnccacngedeoeaa
namespace Go.Proofs.Ytnccacngedeoeaa
open Go Go.RowKit
noncomputable abbrev j4 : aG := { T := bG, F := [], n := (gu).ntmps }
noncomputable abbrev oJ : Ann := { }
theorem vh : bH prog j4 := gS ((bg bt aW))
theorem un : bW j4 = true := by kernel_rfl
noncomputable def oc (x : den (Ty.int IntKind.u8)) : ao := ao.ret (K.val (Ty.pair Ty.bool Ty.unit) (!decide (x = x), PUnit.unit))
theorem sv (x : den (Ty.int IntKind.u8)) : bZ j4 oJ na gu 1000 (aN gu) (Env.of (aS ne (x, ()) 0) []) = oc x := by kernel_rfl
noncomputable abbrev lg : aG := { T := bG, F := [], n := (iE).ntmps }
noncomputable abbrev pw : Ann := { }
theorem wZ : bH prog lg := gS ((bg bt aW))
theorem vG : bW lg = true := by kernel_rfl
noncomputable def pD (x : den ae) : ao := ao.ret (K.val (Ty.pair Ty.bool Ty.unit) (!decide (x = x), PUnit.unit))
theorem tM (x : den ae) : bZ lg pw nX iE 1000 (aN iE) (Env.of (aS oF (x, ()) 0) []) = pD x := by kernel_rfl
noncomputable abbrev rQ : aG := { T := bG, F := [], n := (nB).ntmps }
noncomputable abbrev wa : Ann := { }
theorem Ct : bH prog rQ := gS ((bg bt aW))
theorem Bk : bW rQ = true := by kernel_rfl
noncomputable def xe (e : den ai) : ao := ao.ite (decide (Prod.fst e = 1)) (ao.ret (K.val (Ty.pair Ty.bool Ty.unit) (decide (Prod.fst (Prod.snd (Prod.snd e)) = 0), PUnit.unit))) (ao.ite (decide (Prod.fst e = 2)) (ao.ret (K.val (Ty.pair Ty.bool Ty.unit) (bif bif eqb tId (Prod.fst (Prod.snd e)) (List.replicate 32 (zero (Ty.int IntKind.u8))) then decide (0 ≤ Prod.fst (Prod.snd (Prod.snd e))) else false then decide (Prod.fst (Prod.snd (Prod.snd e)) < 16) else false, PUnit.unit))) (ao.ret (K.val (Ty.pair Ty.bool Ty.unit) (false, PUnit.unit))))
theorem yL (e : den ai) : bZ rQ wa uC nB 1000 (aN nB) (Env.of (aS uK (e, ()) 0) []) = xe e := by kernel_rfl
end Go.Proofs.Ytnccacngedeoeaa
namespace Go.Proofs.Ytnccacngedeoeaa
open Go Go.RowKit
noncomputable abbrev lv : bI := ⟨oF, nX, fun _ => (false, ()), fun _ => True, true⟩
theorem xd : aP prog [] iC lv :=
 gz wZ vG vR (by kernel_rfl) (fun _ _ => trivial) (A := pw) (T := fun x => pD x.1) (fun x => tM x.1) fun O w0 x _ _ => by
  refine ⟨_, rfl, ?_⟩
  simp
noncomputable abbrev j7 : bI := ⟨ne, na, fun _ => (false, ()), fun _ => True, true⟩
theorem u3 : aP prog [] gH j7 :=
 gz vh un uw (by kernel_rfl) (fun _ _ => trivial) (A := oJ) (T := fun x => oc x.1) (fun x => sv x.1) fun O w0 x _ _ => by
  refine ⟨_, rfl, ?_⟩
  simp
def j2 (e : den ai) : Bool :=
 if e.1 = 1 then decide (e.2.2.1 = 0)
 else if e.1 = 2 then decide (e.2.1 = List.replicate 32 0) && decide (0 ≤ e.2.2.1) && decide (e.2.2.1 < 16)
 else false
noncomputable abbrev kC : bI := ⟨uK, uC, fun x => (j2 x.1, ()), fun _ => True, true⟩
theorem BA (x y : den tId) : eqb tId x y = decide (x = y) := by
 have := qy (t := tId) rfl x y
 cases h : eqb tId x y
 ·have : ¬ x = y := fun e => by rw [this.2 e] at h; cases h
  simp [this]
 ·simp [this.1 h]
theorem nt : aP prog [] jp kC :=
 gz Ct Bk A1 (by kernel_rfl) (fun _ _ => trivial) (A := wa) (T := fun x => xe x.1) (fun x => yL x.1) fun O w0 x _ _ => by
  obtain ⟨e, ⟨⟩⟩ := x
  refine ⟨fun h => ⟨_, rfl, ?_⟩, fun h => ⟨fun h' => ⟨_, rfl, ?_⟩, fun h' => ⟨_, rfl, ?_⟩⟩⟩
  ·have h : e.1 = 1 := of_decide_eq_true h
   simp [j2, h]
  ·have h : ¬ e.1 = 1 := of_decide_eq_false h
   have h' : e.1 = 2 := of_decide_eq_true h'
   rw [BA]
   simp [j2, h', zero, cond_eq_ite]
   rfl
  ·have h : ¬ e.1 = 1 := of_decide_eq_false h
   have h' : ¬ e.1 = 2 := of_decide_eq_false h'
   simp [j2, h, h']
end Go.Proofs.Ytnccacngedeoeaa
namespace Go.Proofs.Ytnccacngedeoeaa
open Go Go.RowKit
noncomputable abbrev jD : aG := { T := bG, F := [(iC, lv)], n := (fX).ntmps }
noncomputable abbrev m6 : Ann := { }
theorem uj (h_cmp_isNaN_int : aP prog [] iC lv) : bH prog jD := gS (aV (bg bt aW) h_cmp_isNaN_int)
theorem tA : bW jD = true := by kernel_rfl
noncomputable def ni (x : den ae) (y : den ae) : ao := ao.req True (ao.req True (ao.ite false (ao.ite false (ao.ret (K.val (Ty.pair ae Ty.unit) (0, PUnit.unit))) (ao.ret (K.val (Ty.pair ae Ty.unit) (-1, PUnit.unit)))) (ao.ite false (ao.ret (K.val (Ty.pair ae Ty.unit) (1, PUnit.unit))) (ao.ite (decide (x < y)) (ao.ret (K.val (Ty.pair ae Ty.unit) (-1, PUnit.unit))) (ao.ite (decide (y < x)) (ao.ret (K.val (Ty.pair ae Ty.unit) (1, PUnit.unit))) (ao.ret (K.val (Ty.pair ae Ty.unit) (0, PUnit.unit))))))))
theorem rg (x : den ae) (y : den ae) : bZ jD m6 mO fX 1000 (aN fX) (Env.of (aS mK (x, y, ()) 0) []) = ni x y := by kernel_rfl
noncomputable abbrev iK : aG := { T := bG, F := [(gH, j7)], n := (fp).ntmps }
noncomputable abbrev mH : Ann := { }
theorem ti (h_cmp_isNaN_byte : aP prog [] gH j7) : bH prog iK := gS (aV (bg bt aW) h_cmp_isNaN_byte)
theorem su : bW iK = true := by kernel_rfl
noncomputable def my (x : den (Ty.int IntKind.u8)) (y : den (Ty.int IntKind.u8)) : ao := ao.req True (ao.req True (ao.ite false (ao.ite false (ao.ret (K.val (Ty.pair ae Ty.unit) (0, PUnit.unit))) (ao.ret (K.val (Ty.pair ae Ty.unit) (-1, PUnit.unit)))) (ao.ite false (ao.ret (K.val (Ty.pair ae Ty.unit) (1, PUnit.unit))) (ao.ite (decide (x < y)) (ao.ret (K.val (Ty.pair ae Ty.unit) (-1, PUnit.unit))) (ao.ite (decide (y < x)) (ao.ret (K.val (Ty.pair ae Ty.unit) (1, PUnit.unit))) (ao.ret (K.val (Ty.pair ae Ty.unit) (0, PUnit.unit))))))))
theorem qD (x : den (Ty.int IntKind.u8)) (y : den (Ty.int IntKind.u8)) : bZ iK mH lM fp 1000 (aN fp) (Env.of (aS lE (x, y, ()) 0) []) = my x y := by kernel_rfl
noncomputable abbrev k9 : aG := { T := bG, F := [], n := (io).ntmps }
noncomputable abbrev o5 : Ann := { }
theorem wv : bH prog k9 := gS ((bg bt aW))
theorem vc : bW k9 = true := by kernel_rfl
noncomputable def pc (x : den ab) (bE : den (Ty.ref tId)) : ao := ao.ret (K.val (Ty.pair Ty.bool Ty.unit) (eqb tId (Prod.fst x) bE, PUnit.unit))
theorem sU (x : den ab) (bE : den (Ty.ref tId)) : bZ k9 o5 nL io 1000 (aN io) (Env.of (aS nN (x, bE, ()) 0) []) = pc x bE := by kernel_rfl
noncomputable abbrev c6 : aG := { T := bG, F := [], n := (bj).ntmps }
noncomputable abbrev fL : Ann := { loops := [(2, { keep := [1, 4, 5, 8, 9, 10], own := [(4, ab), (5, ab)] })] }
theorem fI : bH prog c6 := gS ((bg bt aW))
theorem fk : bW c6 = true := by kernel_rfl
noncomputable def jG (l : den (Ty.slc ab)) (is : den (Ty.fn (Ty.pair ab Ty.unit) (Ty.pair Ty.bool Ty.unit))) : ao := ao.loop (lp bj 2) [(1, K.val (Ty.fn (Ty.pair ab Ty.unit) (Ty.pair Ty.bool Ty.unit)) is), (4, K.sl 4 ab), (5, K.sl 5 ab), (8, K.val (Ty.slc ab) l), (9, K.val ae (lnx ab l)), (10, K.val ae 0)] [(4, Bx.row ab []), (5, Bx.row ab [])]
theorem nl (l : den (Ty.slc ab)) (is : den (Ty.fn (Ty.pair ab Ty.unit) (Ty.pair Ty.bool Ty.unit))) : bZ c6 fL dO bj 1000 (aN bj) (Env.of (aS js (l, is, ()) 0) []) = jG l is := by kernel_rfl
noncomputable def i7 (v1 : den (Ty.fn (Ty.pair ab Ty.unit) (Ty.pair Ty.bool Ty.unit))) (v8 : den (Ty.slc ab)) (v9 : den ae) (v10 : den ae) (b4 : List (den ab)) (b5 : List (den ab)) : Env := Env.of [(1, K.val (Ty.fn (Ty.pair ab Ty.unit) (Ty.pair Ty.bool Ty.unit)) v1), (4, K.sl 4 ab), (5, K.sl 5 ab), (8, K.val (Ty.slc ab) v8), (9, K.val ae v9), (10, K.val ae v10)] [(4, Bx.row ab b4), (5, Bx.row ab b5)]
noncomputable def nA (v1 : den (Ty.fn (Ty.pair ab Ty.unit) (Ty.pair Ty.bool Ty.unit))) (v8 : den (Ty.slc ab)) (v9 : den ae) (v10 : den ae) (b4 : List (den ab)) (b5 : List (den ab)) : ao := ao.ite (decide (v10 < v9)) (ao.req (inB v10 (lnx ab v8)) (ao.req (yZ (Ty.pair ab Ty.unit) (Ty.pair Ty.bool Ty.unit) v1) (ao.ite (Prod.fst (qJ (Ty.pair ab Ty.unit) (Ty.pair Ty.bool Ty.unit) v1 (el ab v8 v10, PUnit.unit))) (ao.req (List.length (b4 ++ [el ab v8 v10]) ≤ bQ) (ao.loop (lp bj 2) [(1, K.val (Ty.fn (Ty.pair ab Ty.unit) (Ty.pair Ty.bool Ty.unit)) v1), (4, K.sl 4 ab), (5, K.sl 5 ab), (8, K.val (Ty.slc ab) v8), (9, K.val ae v9), (10, K.val ae (IntKind.wrap IntKind.i64 (v10 + 1)))] [(4, Bx.row ab (b4 ++ [el ab v8 v10])), (5, Bx.row ab b5)])) (ao.req (List.length (b5 ++ [el ab v8 v10]) ≤ bQ) (ao.loop (lp bj 2) [(1, K.val (Ty.fn (Ty.pair ab Ty.unit) (Ty.pair Ty.bool Ty.unit)) v1), (4, K.sl 4 ab), (5, K.sl 5 ab), (8, K.val (Ty.slc ab) v8), (9, K.val ae v9), (10, K.val ae (IntKind.wrap IntKind.i64 (v10 + 1)))] [(4, Bx.row ab b4), (5, Bx.row ab (b5 ++ [el ab v8 v10]))]))))) (ao.ret (K.val (Ty.pair (Ty.slc ab) (Ty.pair (Ty.slc ab) Ty.unit)) (b4, b5, PUnit.unit)))
theorem f8 (v1 : den (Ty.fn (Ty.pair ab Ty.unit) (Ty.pair Ty.bool Ty.unit))) (v8 : den (Ty.slc ab)) (v9 : den ae) (v10 : den ae) (b4 : List (den ab)) (b5 : List (den ab)) : bZ c6 fL dO bj 1000 (lp bj 2) (i7 v1 v8 v9 v10 b4 b5) = nA v1 v8 v9 v10 b4 b5 := by kernel_rfl
noncomputable abbrev pZ : aG := { T := bG, F := [], n := (mq).ntmps }
noncomputable abbrev uM : Ann := { }
theorem AR : bH prog pZ := gS ((bg bt aW))
theorem zX : bW pZ = true := by kernel_rfl
noncomputable def jJ (x : den (Ty.int IntKind.u8)) : ao := ao.req (inB x (fQ { data := { toList := List.append (List.append [0, 1, 2, 2, 3, 3, 3, 3, 4, 4, 4, 4, 4, 4, 4, 4, 5, 5, 5, 5, 5, 5, 5, 5, 5, 5, 5, 5, 5, 5, 5, 5, 6, 6, 6, 6, 6, 6, 6, 6, 6, 6, 6, 6, 6, 6, 6, 6, 6, 6, 6, 6, 6, 6, 6, 6, 6, 6, 6, 6, 6, 6, 6, 6] [7, 7, 7, 7, 7, 7, 7, 7, 7, 7, 7, 7, 7, 7, 7, 7, 7, 7, 7, 7, 7, 7, 7, 7, 7, 7, 7, 7, 7, 7, 7, 7, 7, 7, 7, 7, 7, 7, 7, 7, 7, 7, 7, 7, 7, 7, 7, 7, 7, 7, 7, 7, 7, 7, 7, 7, 7, 7, 7, 7, 7, 7, 7, 7]) (List.append [8, 8, 8, 8, 8, 8, 8, 8, 8, 8, 8, 8, 8, 8, 8, 8, 8, 8, 8, 8, 8, 8, 8, 8, 8, 8, 8, 8, 8, 8, 8, 8, 8, 8, 8, 8, 8, 8, 8, 8, 8, 8, 8, 8, 8, 8, 8, 8, 8, 8, 8, 8, 8, 8, 8, 8, 8, 8, 8, 8, 8, 8, 8, 8] [8, 8, 8, 8, 8, 8, 8, 8, 8, 8, 8, 8, 8, 8, 8, 8, 8, 8, 8, 8, 8, 8, 8, 8, 8, 8, 8, 8, 8, 8, 8, 8, 8, 8, 8, 8, 8, 8, 8, 8, 8, 8, 8, 8, 8, 8, 8, 8, 8, 8, 8, 8, 8, 8, 8, 8, 8, 8, 8, 8, 8, 8, 8, 8]) } })) (ao.ret (K.val (Ty.pair ae Ty.unit) (IntKind.wrap IntKind.i64 (sAt { data := { toList := List.append (List.append [0, 1, 2, 2, 3, 3, 3, 3, 4, 4, 4, 4, 4, 4, 4, 4, 5, 5, 5, 5, 5, 5, 5, 5, 5, 5, 5, 5, 5, 5, 5, 5, 6, 6, 6, 6, 6, 6, 6, 6, 6, 6, 6, 6, 6, 6, 6, 6, 6, 6, 6, 6, 6, 6, 6, 6, 6, 6, 6, 6, 6, 6, 6, 6] [7, 7, 7, 7, 7, 7, 7, 7, 7, 7, 7, 7, 7, 7, 7, 7, 7, 7, 7, 7, 7, 7, 7, 7, 7, 7, 7, 7, 7, 7, 7, 7, 7, 7, 7, 7, 7, 7, 7, 7, 7, 7, 7, 7, 7, 7, 7, 7, 7, 7, 7, 7, 7, 7, 7, 7, 7, 7, 7, 7, 7, 7, 7, 7]) (List.append [8, 8, 8, 8, 8, 8, 8, 8, 8, 8, 8, 8, 8, 8, 8, 8, 8, 8, 8, 8, 8, 8, 8, 8, 8, 8, 8, 8, 8, 8, 8, 8, 8, 8, 8, 8, 8, 8, 8, 8, 8, 8, 8, 8, 8, 8, 8, 8, 8, 8, 8, 8, 8, 8, 8, 8, 8, 8, 8, 8, 8, 8, 8, 8] [8, 8, 8, 8, 8, 8, 8, 8, 8, 8, 8, 8, 8, 8, 8, 8, 8, 8, 8, 8, 8, 8, 8, 8, 8, 8, 8, 8, 8, 8, 8, 8, 8, 8, 8, 8, 8, 8, 8, 8, 8, 8, 8, 8, 8, 8, 8, 8, 8, 8, 8, 8, 8, 8, 8, 8, 8, 8, 8, 8, 8, 8, 8, 8]) } } x), PUnit.unit)))
theorem xi (x : den (Ty.int IntKind.u8)) : bZ pZ uM tB mq 1000 (aN mq) (Env.of (aS tI (x, ()) 0) []) = jJ x := by kernel_rfl
noncomputable abbrev pW : aG := { T := bG, F := [(jp, kC)], n := (mj).ntmps }
noncomputable abbrev uT : Ann := { }
theorem Bl (h_stack_Is : aP prog [] jp kC) : bH prog pW := gS (aV (bg bt aW) h_stack_Is)
theorem y7 : bW pW = true := by kernel_rfl
noncomputable def uD (x : den ab) : ao := ao.req True (ao.ret (K.val (Ty.pair Ty.bool Ty.unit) (bif bif j2 (Prod.fst (Prod.snd x)) then decide (0 ≤ Prod.fst (Prod.snd (Prod.snd x))) else false then decide (Prod.fst (Prod.snd (Prod.snd x)) ≤ 1099511627776) else false, PUnit.unit)))
theorem xJ (x : den ab) : bZ pW uT sI mj 1000 (aN mj) (Env.of (aS tk (x, ()) 0) []) = uD x := by kernel_rfl
end Go.Proofs.Ytnccacngedeoeaa
namespace Go.Proofs.Ytnccacngedeoeaa
open Go Go.RowKit
def bX (x y : Int) : Int := if x < y then -1 else if y < x then 1 else 0
noncomputable abbrev eF : bI := ⟨mK, mO, fun x => (bX x.1 x.2.1, ()), fun _ => True, true⟩
theorem m7 : aP prog [] dK eF :=
 gz (uj xd) tA tT (by kernel_rfl) (fun _ _ => trivial) (A := m6) (T := fun x => ni x.1 x.2.1) (fun x => rg x.1 x.2.1) fun O w0 x _ _ => by
  refine ⟨trivial, trivial, fun h => (by cases h), fun _ => ⟨fun h => (by cases h), fun _ => ⟨fun h => ⟨_, rfl, ?_⟩, fun h => ⟨fun h' => ⟨_, rfl, ?_⟩, fun h' => ⟨_, rfl, ?_⟩⟩⟩⟩⟩
  ·simp [bX, of_decide_eq_true h]
  ·simp [bX, of_decide_eq_false h, of_decide_eq_true h']
  ·simp [bX, of_decide_eq_false h, of_decide_eq_false h']
noncomputable abbrev iR : bI := ⟨lE, lM, fun x => (bX x.1 x.2.1, ()), fun _ => True, true⟩
theorem iO : aP prog [] fG iR :=
 gz (ti u3) su sm (by kernel_rfl) (fun _ _ => trivial) (A := mH) (T := fun x => my x.1 x.2.1) (fun x => qD x.1 x.2.1) fun O w0 x _ _ => by
  refine ⟨trivial, trivial, fun h => (by cases h), fun _ => ⟨fun h => (by cases h), fun _ => ⟨fun h => ⟨_, rfl, ?_⟩, fun h => ⟨fun h' => ⟨_, rfl, ?_⟩, fun h' => ⟨_, rfl, ?_⟩⟩⟩⟩⟩
  ·simp [bX, of_decide_eq_true h]
  ·simp [bX, of_decide_eq_false h, of_decide_eq_true h']
  ·simp [bX, of_decide_eq_false h, of_decide_eq_false h']
def li (x : den ab) : Bool := j2 x.2.1 && decide (0 ≤ x.2.2.1) && decide (x.2.2.1 ≤ 1099511627776)
noncomputable abbrev pS : bI := ⟨tk, sI, fun x => (li x.1, ()), fun _ => True, true⟩
theorem pU : aP prog [] mv pS :=
 gz (Bl nt) y7 ze (by kernel_rfl) (fun _ _ => trivial) (A := uT) (T := fun x => uD x.1) (fun x => xJ x.1) fun O w0 x _ _ => by
  refine ⟨trivial, _, rfl, ?_⟩
  show _ = (li x.1, ())
  unfold li
  cases j2 x.1.2.1 <;> simp
noncomputable abbrev kE : bI := ⟨nN, nL, fun x => (decide (x.1.1 = x.2.1), ()), fun _ => True, true⟩
theorem kD : aP prog [] im kE :=
 gz wv vc vQ (by kernel_rfl) (fun _ _ => trivial) (A := o5) (T := fun x => pc x.1 x.2.1) (fun x => sU x.1 x.2.1) fun O w0 x _ _ =>
  ⟨_, rfl, by rw [BA]⟩
def isT (f : den (.fn (.pair ab .unit) (.pair .bool .unit))) (x : den ab) : Bool := (yV (a := .pair ab .unit) (r := .pair .bool .unit) f (x, ())).1
noncomputable abbrev fO : bI := ⟨js, dO, fun x => (x.1.filter (isT x.2.1), x.1.filter (fun y => !isT x.2.1 y), ()), fun x => x.1.length ≤ 1000000 ∧ zj (a := .pair ab .unit) (r := .pair .bool .unit) x.2.1, false⟩
def oM (O : Nat → Prop) (w0 : World) (l : List (den ab)) (f : den (.fn (.pair ab .unit) (.pair .bool .unit))) (hl : l.length ≤ 1000000) (hf : zj (a := .pair ab .unit) (r := .pair .bool .unit) f) :=
 PLift.up <| rG (P := prog) (D := c6) (fn := bj) (rs := dO) (O := O) (w0 := w0) (todo := lp bj 2) (σ := List (den ab) × List (den ab)) l.length
  (fun i s => i7 f l (lnx ab l) i s.1 s.2) (fun i s => s.1.length ≤ i ∧ s.2.length ≤ i)
  (fun i s y => y = (s.1 ++ (l.drop i).filter (isT f), s.2 ++ (l.drop i).filter (fun y => !isT f y), ()))
  (fun i s hi hs ih => jF fI fk (f8 f l _ _ s.1 s.2) ⟨fun _ => by
   refine ⟨cO hi, hf, ?_⟩
   rw [cV hi, dz hi (by omega)]
   refine ⟨fun h => ⟨by simp [bQ]; omega, ?_⟩, fun h => ⟨by simp [bQ]; omega, ?_⟩⟩
   ·have := ih (s.1 ++ [l[i]], s.2) ⟨by simp; omega, by show s.2.length ≤ i + 1; omega⟩
    refine dH.mono (fun y hy => ?_) this
    have h : isT f l[i] = true := h
    rw [hy, List.drop_eq_getElem_cons hi, List.filter_cons, List.filter_cons, h]
    simp
   ·have := ih (s.1, s.2 ++ [l[i]]) ⟨by show s.1.length ≤ i + 1; omega, by simp; omega⟩
    refine dH.mono (fun y hy => ?_) this
    have h : isT f l[i] = false := h
    rw [hy, List.drop_eq_getElem_cons hi, List.filter_cons, List.filter_cons, h]
    simp, fun h => by
   have h : ¬ (i : Int) < (l.length : Int) := of_decide_eq_false h
   omega⟩)
  (fun s _ => jF fI fk (f8 f l _ _ s.1 s.2) ⟨fun h => by
   have h : (l.length : Int) < (l.length : Int) := of_decide_eq_true h
   omega, fun _ => ⟨_, rfl, by simp⟩⟩)
theorem fT : aP prog [] dT fO :=
 gz fI fk oP (by kernel_rfl) (fun h => by cases h) (A := fL) (T := fun x => jG x.1 x.2.1) (fun x => nl x.1 x.2.1) fun O w0 x _ hp =>
  (oM O w0 x.1 x.2.1 hp.1 hp.2).down 0 ([], []) (Nat.zero_le _) ⟨Nat.zero_le _, Nat.zero_le _⟩
end Go.Proofs.Ytnccacngedeoeaa
namespace Go.Proofs.Ytnccacngedeoeaa
open Go
def byt (l : List Int) : Prop := ∀ x ∈ l, 0 ≤ x ∧ x ≤ 255
theorem vl {x : Int} {l : List Int} : byt (x :: l) ↔ (0 ≤ x ∧ x ≤ 255) ∧ byt l := by
 simp [byt]
theorem k8 {x : den tId} (h : okT tId x) : x.length = 32 ∧ byt x :=
 ⟨h.1, fun y hy => by
  have : InK .u8 y := h.2 y hy
  have h1 : IntKind.min .u8 = 0 := by decide
  have h2 : IntKind.max .u8 = 255 := by decide
  unfold InK at this
  rw [h1, h2] at this
  exact this⟩
def vB : List Int → Int
 | [] => 0
 | x :: l => x * 256 ^ l.length + vB l
theorem Ag (n : Nat) : (0 : Int) < 256 ^ n := Int.pow_pos (by decide)
theorem vp : ∀ {l : List Int}, byt l → 0 ≤ vB l ∧ vB l < 256 ^ l.length
 | [], _ => by simp [vB]
 | x :: l, h => by
  obtain ⟨hx, hl⟩ := vl.1 h
  obtain ⟨h1, h2⟩ := vp hl
  have hp := Ag l.length
  have h3 : 0 ≤ x * 256 ^ l.length := Int.mul_nonneg hx.1 (Int.le_of_lt hp)
  have h4 : x * 256 ^ l.length ≤ 255 * 256 ^ l.length := Int.mul_le_mul_of_nonneg_right hx.2 (Int.le_of_lt hp)
  rw [List.length_cons, Int.pow_succ]
  simp only [vB]
  omega
def oE : List Int → List Int → Int
 | [], [] => 0
 | [], _ :: _ => -1
 | _ :: _, [] => 1
 | x :: xs, y :: ys => if bX x y = 0 then oE xs ys else bX x y
theorem yn {x y : Int} : bX x y = 0 ↔ x = y := by
 unfold bX; split
 ·omega
 ·split <;> omega
theorem BG : ∀ {a b : List Int}, a.length = b.length → byt a → byt b → oE a b = bX (vB a) (vB b)
 | [], [], _, _, _ => by simp [oE, vB, bX]
 | [], _ :: _, h, _, _ => by simp at h
 | _ :: _, [], h, _, _ => by simp at h
 | x :: xs, y :: ys, h, ha, hb => by
  obtain ⟨hx, ha⟩ := vl.1 ha
  obtain ⟨hy, hb⟩ := vl.1 hb
  have hl : xs.length = ys.length := by simpa using h
  have ih := BG hl ha hb
  obtain ⟨a1, a2⟩ := vp ha
  obtain ⟨b1, b2⟩ := vp hb
  rw [hl] at a2
  simp only [oE, vB]
  rw [hl]
  have hp := Ag ys.length
  generalize (256 : Int) ^ ys.length = p at *
  split
  ·rename_i e
   rw [ih, yn.1 e]
   unfold bX
   split
   ·rw [if_pos (by omega)]
   ·split
    ·rw [if_neg (by omega), if_pos (by omega)]
    ·rw [if_neg (by omega), if_neg (by omega)]
  ·rename_i e
   have e : ¬ x = y := fun h => e (yn.2 h)
   rcases Int.lt_or_gt_of_ne e with hlt | hgt
   ·have : (x + 1) * p ≤ y * p := Int.mul_le_mul_of_nonneg_right hlt (Int.le_of_lt hp)
    rw [Int.add_mul, Int.one_mul] at this
    unfold bX
    rw [if_pos hlt, if_pos (by omega)]
   ·have : (y + 1) * p ≤ x * p := Int.mul_le_mul_of_nonneg_right hgt (Int.le_of_lt hp)
    rw [Int.add_mul, Int.one_mul] at this
    unfold bX
    rw [if_neg (by omega), if_pos hgt, if_neg (by omega), if_pos (by omega)]
end Go.Proofs.Ytnccacngedeoeaa
namespace Go.Proofs.Ytnccacngedeoeaa
open Go Go.RowKit
theorem cB {n : Int} (h : -1000000000000 ≤ n ∧ n ≤ 1000000000000) : IntKind.wrap .i64 n = n := DX (by omega) (by omega)
theorem Eq {n : Int} (h : 0 ≤ n ∧ n ≤ 255) : IntKind.wrap .u8 n = n := by
 unfold IntKind.wrap
 simp only [IntKind.signed, IntKind.bits]
 simp
 omega
def fN (n : Int) : Int :=
 if n < 1 then 0 else if n < 2 then 1 else if n < 4 then 2 else if n < 8 then 3 else if n < 16 then 4 else if n < 32 then 5 else if n < 64 then 6 else if n < 128 then 7 else 8
noncomputable abbrev pV : bI := ⟨tI, tB, fun x => (fN x.1, ()), fun _ => True, true⟩
def Gi (s : ByteArray) : Bool := (List.range 256).all fun k => decide (IntKind.wrap .i64 (sAt s (k : Int)) = fN k)
theorem DN (x : Int) : ∃ s : ByteArray, jJ x = ao.req (inB x (fQ s)) (.ret (.val (.pair ae .unit) (IntKind.wrap .i64 (sAt s x), ()))) ∧ fQ s = 256 ∧ Gi s = true := by
 refine ⟨_, by unfold jJ; exact rfl, by kernel_rfl, by kernel_rfl⟩
theorem AF : aP prog [] mt pV :=
 gz AR zX Af (by kernel_rfl) (fun _ _ => trivial) (A := uM) (T := fun x => jJ x.1) (fun x => xi x.1) fun O w0 x hk _ => by
  have hk : InK .u8 x.1 := hk.1
  have h1 : IntKind.min .u8 = 0 := by decide
  have h2 : IntKind.max .u8 = 255 := by decide
  unfold InK at hk
  rw [h1, h2] at hk
  obtain ⟨s, e, hs, hc⟩ := DN x.1
  show bC _ _ _ _ _ _ _ (jJ x.1)
  rw [e]
  refine ⟨⟨hk.1, ?_⟩, _, rfl, ?_⟩
  ·rw [hs]; omega
  ·have := List.all_eq_true.1 hc x.1.toNat (List.mem_range.2 (by omega))
   have e : ((x.1.toNat : Nat) : Int) = x.1 := by omega
   rw [e] at this
   exact Prod.ext (of_decide_eq_true this) rfl
end Go.Proofs.Ytnccacngedeoeaa
namespace Go.Proofs.Ytnccacngedeoeaa
open Go Go.RowKit
def kO (a : List Int) (i : Int) : Int := el (.int .u8) a (i / 8) / 2 ^ (7 - i % 8).toNat % 2
end Go.Proofs.Ytnccacngedeoeaa
namespace Go.Proofs.Ytnccacngedeoeaa
open Go Go.RowKit
noncomputable abbrev dl : aG := { T := bG, F := [(fG, iR)], n := (bu).ntmps }
noncomputable abbrev gg : Ann := { loops := [(2, { keep := [0, 1, 9, 10, 11] })] }
theorem f7 (h_cmp_Compare_byte : aP prog [] fG iR) : bH prog dl := gS (aV (bg bt aW) h_cmp_Compare_byte)
theorem fR : bW dl = true := by kernel_rfl
noncomputable def kA (s1 : den (Ty.slc (Ty.int IntKind.u8))) (s2 : den (Ty.slc (Ty.int IntKind.u8))) : ao := ao.loop (lp bu 2) [(0, K.val (Ty.slc (Ty.int IntKind.u8)) s1), (1, K.val (Ty.slc (Ty.int IntKind.u8)) s2), (9, K.val (Ty.slc (Ty.int IntKind.u8)) s1), (10, K.val ae (lnx (Ty.int IntKind.u8) s1)), (11, K.val ae 0)] []
theorem ox (s1 : den (Ty.slc (Ty.int IntKind.u8))) (s2 : den (Ty.slc (Ty.int IntKind.u8))) : bZ dl gg dW bu 1000 (aN bu) (Env.of (aS jE (s1, s2, ()) 0) []) = kA s1 s2 := by kernel_rfl
noncomputable def jy (v0 : den (Ty.slc (Ty.int IntKind.u8))) (v1 : den (Ty.slc (Ty.int IntKind.u8))) (v9 : den (Ty.slc (Ty.int IntKind.u8))) (v10 : den ae) (v11 : den ae) : Env := Env.of [(0, K.val (Ty.slc (Ty.int IntKind.u8)) v0), (1, K.val (Ty.slc (Ty.int IntKind.u8)) v1), (9, K.val (Ty.slc (Ty.int IntKind.u8)) v9), (10, K.val ae v10), (11, K.val ae v11)] []
noncomputable def ov (v0 : den (Ty.slc (Ty.int IntKind.u8))) (v1 : den (Ty.slc (Ty.int IntKind.u8))) (v9 : den (Ty.slc (Ty.int IntKind.u8))) (v10 : den ae) (v11 : den ae) : ao := ao.ite (decide (v11 < v10)) (ao.req (inB v11 (lnx (Ty.int IntKind.u8) v9)) (ao.ite (decide (lnx (Ty.int IntKind.u8) v1 ≤ v11)) (ao.ret (K.val (Ty.pair ae Ty.unit) (1, PUnit.unit))) (ao.req (inB v11 (lnx (Ty.int IntKind.u8) v1)) (ao.req True (ao.ite (!decide (bX (el (Ty.int IntKind.u8) v9 v11) (el (Ty.int IntKind.u8) v1 v11) = 0)) (ao.ret (K.val (Ty.pair ae Ty.unit) (bX (el (Ty.int IntKind.u8) v9 v11) (el (Ty.int IntKind.u8) v1 v11), PUnit.unit))) (ao.loop (lp bu 2) [(0, K.val (Ty.slc (Ty.int IntKind.u8)) v0), (1, K.val (Ty.slc (Ty.int IntKind.u8)) v1), (9, K.val (Ty.slc (Ty.int IntKind.u8)) v9), (10, K.val ae v10), (11, K.val ae (IntKind.wrap IntKind.i64 (v11 + 1)))] [])))))) (ao.ite (decide (lnx (Ty.int IntKind.u8) v0 < lnx (Ty.int IntKind.u8) v1)) (ao.ret (K.val (Ty.pair ae Ty.unit) (-1, PUnit.unit))) (ao.ret (K.val (Ty.pair ae Ty.unit) (0, PUnit.unit))))
theorem gk (v0 : den (Ty.slc (Ty.int IntKind.u8))) (v1 : den (Ty.slc (Ty.int IntKind.u8))) (v9 : den (Ty.slc (Ty.int IntKind.u8))) (v10 : den ae) (v11 : den ae) : bZ dl gg dW bu 1000 (lp bu 2) (jy v0 v1 v9 v10 v11) = ov v0 v1 v9 v10 v11 := by kernel_rfl
noncomputable abbrev gG : aG := { T := bG, F := [(mt, pV)], n := (eJ).ntmps }
noncomputable abbrev kV : Ann := { }
theorem rB (h_bits_Len8 : aP prog [] mt pV) : bH prog gG := gS (aV (bg bt aW) h_bits_Len8)
theorem qx : bW gG = true := by kernel_rfl
noncomputable def lz (x : den (Ty.int IntKind.u8)) : ao := ao.req True (ao.ret (K.val (Ty.pair ae Ty.unit) (IntKind.wrap IntKind.i64 (8 - fN x), PUnit.unit)))
theorem oN (x : den (Ty.int IntKind.u8)) : bZ gG kV kr eJ 1000 (aN eJ) (Env.of (aS ka (x, ()) 0) []) = lz x := by kernel_rfl
end Go.Proofs.Ytnccacngedeoeaa
namespace Go.Proofs.Ytnccacngedeoeaa
open Go Go.RowKit
noncomputable abbrev gc : bI := ⟨jE, dW, fun x => (oE x.1 x.2.1, ()), fun _ => True, true⟩
theorem xh (a : List Int) : oE a [] = if a = [] then 0 else 1 := by
 cases a <;> rfl
def pM (O : Nat → Prop) (w0 : World) (a b : List Int) (hm : a.length ≤ maxLen) :=
 PLift.up <| rG (P := prog) (D := dl) (fn := bu) (rs := dW) (O := O) (w0 := w0) (todo := lp bu 2) (σ := Unit) a.length
  (fun i _ => jy a b a (lnx (.int .u8) a) i) (fun i _ => i ≤ b.length) (fun i _ y => y = (oE (a.drop i) (b.drop i), ()))
  (fun i _ hi hb ih => jF (f7 iO) fR (gk a b a _ _) ⟨fun _ => by
   refine ⟨cO hi, fun h => ⟨_, rfl, ?_⟩, fun h => ?_⟩
   ·have h : (b.length : Int) ≤ (i : Int) := of_decide_eq_true h
    rw [List.drop_eq_nil_of_le (show b.length ≤ i by omega), xh, if_neg (fun e => by have := congrArg List.length e; simp at this; omega)]
   ·have h : ¬ (b.length : Int) ≤ (i : Int) := of_decide_eq_false h
    have hi' : i < b.length := by omega
    rw [cV (e := .int .u8) hi, cV (e := .int .u8) hi', dz hi hm]
    refine ⟨cO hi', trivial, fun h => ⟨_, rfl, ?_⟩, fun h => dH.mono (fun y hy => ?_) (ih () (by omega))⟩
    ·have h : ¬ bX a[i] b[i] = 0 := by simpa using h
     rw [List.drop_eq_getElem_cons hi, List.drop_eq_getElem_cons hi']
     simp only [oE, if_neg h]
    ·have h : bX a[i] b[i] = 0 := by simpa using h
     rw [hy, List.drop_eq_getElem_cons hi, List.drop_eq_getElem_cons hi']
     simp only [oE, if_pos h], fun h => by
   have h : ¬ (i : Int) < (a.length : Int) := of_decide_eq_false h
   omega⟩)
  (fun s hb => jF (f7 iO) fR (gk a b a _ _) ⟨fun h => by
   have h : (a.length : Int) < (a.length : Int) := of_decide_eq_true h
   omega, fun _ => ⟨fun h => ⟨_, rfl, by
    have h : (a.length : Int) < (b.length : Int) := of_decide_eq_true h
    rw [List.drop_eq_nil_of_le (Nat.le_refl _), List.drop_eq_getElem_cons (show a.length < b.length by omega)]
    rfl⟩, fun h => ⟨_, rfl, by
    have h : ¬ (a.length : Int) < (b.length : Int) := of_decide_eq_false h
    rw [List.drop_eq_nil_of_le (Nat.le_refl _), List.drop_eq_nil_of_le (show b.length ≤ a.length by omega)]
    rfl⟩⟩⟩)
theorem qH : aP prog [] eC gc :=
 gz (f7 iO) fR pO (by kernel_rfl) (fun _ _ => trivial) (A := gg) (T := fun x => kA x.1 x.2.1) (fun x => ox x.1 x.2.1) fun O w0 x hk _ =>
  (pM O w0 x.1 x.2.1 hk.1.1).down 0 () (Nat.zero_le _) (Nat.zero_le _)
theorem nq (x : Int) : 0 ≤ fN x ∧ fN x ≤ 8 := by unfold fN; (repeat' split) <;> omega
noncomputable abbrev gq : bI := ⟨ka, kr, fun x => (8 - fN x.1, ()), fun _ => True, true⟩
theorem gp : aP prog [] eO gq :=
 gz (rB AF) qx qg (by kernel_rfl) (fun _ _ => trivial) (A := kV) (T := fun x => lz x.1) (fun x => oN x.1) fun O w0 x _ _ => by
  refine ⟨trivial, _, rfl, ?_⟩
  have := nq x.1
  rw [cB (by omega)]
end Go.Proofs.Ytnccacngedeoeaa
namespace Go.Proofs.Ytnccacngedeoeaa
open Go Go.RowKit
def gO (a b : List Int) : Int := bX (vB a) (vB b)
def cmn (a b : List Int) : Nat → Nat → Nat
 | 0, i => i
 | k + 1, i => if kO a i = kO b i then cmn a b k (i + 1) else i
def da (a b : List Int) : Int := cmn a b 256 0
end Go.Proofs.Ytnccacngedeoeaa
namespace Go.Proofs.Ytnccacngedeoeaa
open Go Go.RowKit
noncomputable abbrev lf : aG := { T := bG, F := [(eC, gc)], n := (iB).ntmps }
noncomputable abbrev po : Ann := { frz := [(1, [2, 3])] }
theorem wJ (h_slices_Compare_byte : aP prog [] eC gc) : bH prog lf := gS (aV (bg bt aW) h_slices_Compare_byte)
theorem u7 : bW lf = true := by kernel_rfl
noncomputable def o4 (a : den tId) (b : den tId) : ao := ao.req (bK 0 ↑32 ↑32) (ao.req (bK 0 ↑32 ↑32) (ao.req True (ao.ret (K.val (Ty.pair ae Ty.unit) (oE (f5 (Ty.int IntKind.u8) a 0 ↑32) (f5 (Ty.int IntKind.u8) b 0 ↑32), PUnit.unit)))))
theorem sS (a : den tId) (b : den tId) : bZ lf po oz iB 1000 (aN iB) (Env.of (aS nP (a, b, ()) 0) []) = o4 a b := by kernel_rfl
noncomputable abbrev gh : aG := { T := bG, F := [(eO, gq)], n := (cn).ntmps }
noncomputable abbrev mf : Ann := { loops := [(3, { keep := [2, 3, 5, 8] })] }
theorem lV (h_bits_LeadingZeros8 : aP prog [] eO gq) : bH prog gh := gS (aV (bg bt aW) h_bits_LeadingZeros8)
theorem lA : bW gh = true := by kernel_rfl
noncomputable def qC (a : den tId) (b : den tId) : ao := ao.loop (lp cn 3) [(2, K.ptr 2 tId []), (3, K.ptr 3 tId []), (5, K.val ae 0), (8, K.val ae 0)] [(2, Bx.cell tId a), (3, Bx.cell tId b)]
theorem uo (a : den tId) (b : den tId) : bZ gh mf iz cn 1000 (aN cn) (Env.of (aS pu (a, b, ()) 0) []) = qC a b := by kernel_rfl
noncomputable def oD (v5 : den ae) (v8 : den ae) (b2 : den tId) (b3 : den tId) : Env := Env.of [(2, K.ptr 2 tId []), (3, K.ptr 3 tId []), (5, K.val ae v5), (8, K.val ae v8)] [(2, Bx.cell tId b2), (3, Bx.cell tId b3)]
noncomputable def uq (v5 : den ae) (v8 : den ae) (b2 : den tId) (b3 : den tId) : ao := ao.ite (decide (v8 < 32)) (ao.req (inB v8 ↑32) (ao.req (inB v8 ↑32) (ao.req True (ao.ite (decide (8 - fN (IntKind.wrap IntKind.u8 ↑(BitVec.toNat (BitVec.ofInt (IntKind.bits IntKind.u8) (el (Ty.int IntKind.u8) b2 v8) ^^^ BitVec.ofInt (IntKind.bits IntKind.u8) (el (Ty.int IntKind.u8) b3 v8)))) < 8)) (ao.ret (K.val (Ty.pair ae Ty.unit) (IntKind.wrap IntKind.i64 (v5 + (8 - fN (IntKind.wrap IntKind.u8 ↑(BitVec.toNat (BitVec.ofInt (IntKind.bits IntKind.u8) (el (Ty.int IntKind.u8) b2 v8) ^^^ BitVec.ofInt (IntKind.bits IntKind.u8) (el (Ty.int IntKind.u8) b3 v8)))))), PUnit.unit))) (ao.loop (lp cn 3) [(2, K.ptr 2 tId []), (3, K.ptr 3 tId []), (5, K.val ae (IntKind.wrap IntKind.i64 (v5 + (8 - fN (IntKind.wrap IntKind.u8 ↑(BitVec.toNat (BitVec.ofInt (IntKind.bits IntKind.u8) (el (Ty.int IntKind.u8) b2 v8) ^^^ BitVec.ofInt (IntKind.bits IntKind.u8) (el (Ty.int IntKind.u8) b3 v8)))))))), (8, K.val ae (IntKind.wrap IntKind.i64 (v8 + 1)))] [(2, Bx.cell tId b2), (3, Bx.cell tId b3)]))))) (ao.ret (K.val (Ty.pair ae Ty.unit) (v5, PUnit.unit)))
theorem kY (v5 : den ae) (v8 : den ae) (b2 : den tId) (b3 : den tId) : bZ gh mf iz cn 1000 (lp cn 3) (oD v5 v8 b2 b3) = uq v5 v8 b2 b3 := by kernel_rfl
end Go.Proofs.Ytnccacngedeoeaa
namespace Go.Proofs.Ytnccacngedeoeaa
open Go Go.RowKit
noncomputable abbrev ft : bI := ⟨nP, oz, fun x => (gO x.1 x.2.1, ()), fun _ => True, true⟩
theorem ph : aP prog [] eB ft :=
 gz (wJ qH) u7 uY (by kernel_rfl) (fun _ _ => trivial) (A := po) (T := fun x => o4 x.1 x.2.1) (fun x => sS x.1 x.2.1) fun O w0 x hk _ => by
  obtain ⟨la, ba⟩ := k8 hk.1
  obtain ⟨lb, bb⟩ := k8 hk.2.1
  have hc : ∀ l : List Int, l.length = 32 → f5 (.int .u8) l 0 32 = l := fun l hl => by
   show (l.take 32).drop 0 = l
   rw [List.drop_zero, ← hl, List.take_length]
  refine ⟨⟨Int.le_refl _, by decide, Int.le_refl _⟩, ⟨Int.le_refl _, by decide, Int.le_refl _⟩, trivial, _, rfl, ?_⟩
  have e := BG (a := x.1) (b := x.2.1) (by rw [la, lb]) ba bb
  show (oE (f5 (.int .u8) x.1 0 32) (f5 (.int .u8) x.2.1 0 32), PUnit.unit) = (gO x.1 x.2.1, ())
  rw [hc x.1 la, hc x.2.1 lb, e]
  rfl
def orC (x y : Int) : Int := if x = 0 then y else x
def mM (a b : den ab) : Int := orC (gO a.1 b.1) (orC (bX a.2.1.1 b.2.1.1) (orC (gO a.2.1.2.1 b.2.1.2.1) (bX a.2.1.2.2.1 b.2.1.2.2.1)))
def w8 (a b : den ab) : Bool := decide (mM a b < 0)
theorem E9 {x y : Int} : bX x y < 0 ↔ x < y := by
 unfold bX; split
 ·exact ⟨fun _ => by omega, fun _ => by omega⟩
 ·split <;> exact ⟨fun _ => by omega, fun _ => by omega⟩
end Go.Proofs.Ytnccacngedeoeaa
namespace Go.Proofs.Ytnccacngedeoeaa
open Go Go.RowKit
def xb (x y : Int) : Int := IntKind.wrap .u8 (BitVec.toNat (BitVec.ofInt (IntKind.bits .u8) x ^^^ BitVec.ofInt (IntKind.bits .u8) y))
theorem F4 {x y : Nat} (hx : x < 256) (hy : y < 256) : xb x y = ((x ^^^ y : Nat) : Int) := by
 have h : (BitVec.ofInt (IntKind.bits .u8) (x : Int) ^^^ BitVec.ofInt (IntKind.bits .u8) (y : Int)).toNat = x ^^^ y := by
  rw [BitVec.toNat_xor]
  have e : ∀ z : Nat, z < 256 → (BitVec.ofInt (IntKind.bits .u8) (z : Int)).toNat = z := fun z hz => by
   rw [BitVec.ofInt_natCast, BitVec.toNat_ofNat]
   exact Nat.mod_eq_of_lt hz
  rw [e x hx, e y hy]
 have hlt : x ^^^ y < 2 ^ 8 := Nat.xor_lt_two_pow hx hy
 unfold xb
 rw [h, Eq (by omega)]
def Gk : Bool := (List.range 256).all fun z =>
 let L := (fN (z : Int)).toNat
 (List.range 8).all fun k => (if k < 8 - L then !(z.testBit (7 - k)) else true) && (if k = 8 - L then z.testBit (7 - k) else true)
theorem Bq : Gk = true := by kernel_rfl
theorem EQ {z k : Nat} (hz : z < 256) (hk : k < 8) (h : (k : Int) < 8 - fN z) : z.testBit (7 - k) = false := by
 have h1 := List.all_eq_true.1 (List.all_eq_true.1 Bq z (List.mem_range.2 hz)) k (List.mem_range.2 hk)
 have r := nq (z : Int)
 rw [Bool.and_eq_true, if_pos (by omega)] at h1
 simpa using h1.1
theorem Gj {z k : Nat} (hz : z < 256) (hk : k < 8) (h : (k : Int) = 8 - fN z) : z.testBit (7 - k) = true := by
 have h1 := List.all_eq_true.1 (List.all_eq_true.1 Bq z (List.mem_range.2 hz)) k (List.mem_range.2 hk)
 have r := nq (z : Int)
 rw [Bool.and_eq_true, if_pos (show k = 8 - (fN (z : Int)).toNat by omega)] at h1
 exact h1.2
theorem Ai {a : List Int} (ba : byt a) {i k : Nat} (hi : i < a.length) (hk : k < 8) : kO a ((8 * i + k : Nat) : Int) = ((a[i].toNat.testBit (7 - k)).toNat : Int) := by
 have hx := ba _ (List.getElem_mem hi)
 unfold kO
 have e1 : (((8 * i + k : Nat) : Int) / 8) = ((i : Nat) : Int) := by omega
 have e2 : (7 - ((8 * i + k : Nat) : Int) % 8).toNat = 7 - k := by omega
 rw [e1, e2, cV (e := .int .u8) hi]
 have e3 : a[i] = ((a[i].toNat : Nat) : Int) := by omega
 rw [Nat.testBit_eq_decide_div_mod_eq]
 generalize hn : a[i].toNat = n at *
 rw [e3]
 have e4 : ((n : Int) / 2 ^ (7 - k) % 2) = ((n / 2 ^ (7 - k) % 2 : Nat) : Int) := by
  rw [Int.natCast_emod, Int.natCast_ediv, Int.natCast_pow]; rfl
 rw [e4]
 have h2 : n / 2 ^ (7 - k) % 2 < 2 := Nat.mod_lt _ (by decide)
 rcases Nat.lt_or_ge (n / 2 ^ (7 - k) % 2) 1 with h | h
 ·have h0 : n / 2 ^ (7 - k) % 2 = 0 := by omega
  rw [h0]; rfl
 ·have h1 : n / 2 ^ (7 - k) % 2 = 1 := by omega
  rw [h1]; rfl
theorem DA {x y : Bool} : ((x.toNat : Nat) : Int) = ((y.toNat : Nat) : Int) ↔ x = y := by cases x <;> cases y <;> simp
theorem vJ (a b : List Int) : ∀ (m k i : Nat), (∀ j, j < m → kO a ((i + j : Nat) : Int) = kO b ((i + j : Nat) : Int)) → cmn a b (m + k) i = cmn a b k (i + m)
 | 0, k, i, _ => by rw [Nat.zero_add, Nat.add_zero]
 | m + 1, k, i, h => by
  rw [show m + 1 + k = (m + k) + 1 by omega, cmn, if_pos (by have := h 0 (by omega); rwa [Nat.add_zero] at this)]
  rw [vJ a b m k (i + 1) (fun j hj => by have := h (j + 1) (by omega); rwa [show i + (j + 1) = i + 1 + j by omega] at this)]
  congr 1
  omega
noncomputable abbrev l8 : bI := ⟨pu, iz, fun x => (da x.1 x.2.1, ()), fun _ => True, true⟩
theorem pn (O : Nat → Prop) (w0 : World) (a b : List Int) (la : a.length = 32) (ba : byt a) (lb : b.length = 32) (bb : byt b) : ∀ (k i : Nat), k + i = 32 → cmn a b 256 0 = cmn a b (8 * k) (8 * i) →
    dH prog gh O w0 cn (bR prog O w0 iz fun y => y = (da a b, ())) (lp cn 3) (oD ((8 * i : Nat) : Int) (i : Nat) a b)
  | 0, i, h, hc => jF (lV gp) lA (kY _ _ a b) ⟨fun h' => by
      have h' : (i : Int) < 32 := of_decide_eq_true h'
      omega, fun _ => ⟨_, rfl, by rw [da, hc]; rfl⟩⟩
  | k + 1, i, h, hc => jF (lV gp) lA (kY _ _ a b) ⟨fun _ => by
      have h1 : i < a.length := by omega
      have h2 : i < b.length := by omega
      rw [cV (e := .int .u8) h1, cV (e := .int .u8) h2]
      have ax := ba _ (List.getElem_mem h1)
      have bx := bb _ (List.getElem_mem h2)
      have ez : xb a[i] b[i] = ((a[i].toNat ^^^ b[i].toNat : Nat) : Int) := by
        rw [← F4 (x := a[i].toNat) (y := b[i].toNat) (by omega) (by omega)]
        congr 1 <;> omega
      have hz : a[i].toNat ^^^ b[i].toNat < 256 := Nat.xor_lt_two_pow (n := 8) (by omega) (by omega)
      have hbit : ∀ j, j < 8 → (kO a ((8 * i + j : Nat) : Int) = kO b ((8 * i + j : Nat) : Int) ↔ (a[i].toNat ^^^ b[i].toNat).testBit (7 - j) = false) := by
        intro j hj
        rw [Ai ba h1 hj, Ai bb h2 hj, DA, Nat.testBit_xor]
        cases a[i].toNat.testBit (7 - j) <;> cases b[i].toNat.testBit (7 - j) <;> simp
      have fold : IntKind.wrap .u8 (BitVec.toNat (BitVec.ofInt (IntKind.bits .u8) a[i] ^^^ BitVec.ofInt (IntKind.bits .u8) b[i])) = ((a[i].toNat ^^^ b[i].toNat : Nat) : Int) := ez
      rw [fold]
      generalize hzz : a[i].toNat ^^^ b[i].toNat = z at *
      have r := nq (z : Int)
      refine ⟨cO (n := 32) (by omega), cO (n := 32) (by omega), trivial, fun h' => ⟨_, rfl, ?_⟩, fun h' => ?_⟩
      · have h' : 8 - fN (z : Int) < 8 := of_decide_eq_true h'
        rw [cB (by omega), da, hc]
        have e : 8 * (k + 1) = (8 - fN (z : Int)).toNat + ((8 * k + 7 - (8 - fN (z : Int)).toNat) + 1) := by omega
        rw [e, vJ a b _ _ _ (fun j hj => (hbit j (by omega)).2 (EQ hz (by omega) (by omega))), cmn, if_neg (fun hh => by
          have h3 := (hbit _ (by omega)).1 hh
          rw [Gj hz (by omega) (by omega)] at h3
          cases h3)]
        exact Prod.ext (show ((8 * i : Nat) : Int) + (8 - fN (z : Int)) = ((8 * i + (8 - fN (z : Int)).toNat : Nat) : Int) by omega) rfl
      · have h' : ¬ 8 - fN (z : Int) < 8 := of_decide_eq_false h'
        rw [cB (by omega), dz h1 (by omega), show ((8 * i : Nat) : Int) + (8 - fN (z : Int)) = ((8 * (i + 1) : Nat) : Int) by omega]
        refine pn O w0 a b la ba lb bb k (i + 1) (by omega) ?_
        rw [hc, show 8 * (k + 1) = 8 + 8 * k by omega, vJ a b 8 _ _ (fun j hj => (hbit j hj).2 (EQ hz hj (by omega)))]
        congr 1, fun h' => by
      have h' : ¬ (i : Int) < 32 := of_decide_eq_false h'
      omega⟩
theorem lT : aP prog [] je l8 :=
 gz (lV gp) lA wS (by kernel_rfl) (fun _ _ => trivial) (A := mf) (T := fun x => qC x.1 x.2.1) (fun x => uo x.1 x.2.1) fun O w0 x hk _ =>
  pn O w0 x.1 x.2.1 (k8 hk.1).1 (k8 hk.1).2 (k8 hk.2.1).1 (k8 hk.2.1).2 32 0 rfl rfl
end Go.Proofs.Ytnccacngedeoeaa
namespace Go.Proofs.Ytnccacngedeoeaa
open Go Go.RowKit
noncomputable abbrev i5 : aG := { T := bG, F := [(eB, ft)], n := (fw).ntmps }
noncomputable abbrev mL : Ann := { }
theorem tQ (h_ident_Compare : aP prog [] eB ft) : bH prog i5 := gS (aV (bg bt aW) h_ident_Compare)
theorem sk : bW i5 = true := by kernel_rfl
noncomputable def mP (t : den ab) (x : den ab) : ao := ao.req True (ao.ret (K.val (Ty.pair ae Ty.unit) (gO (Prod.fst t) (Prod.fst x), PUnit.unit)))
theorem qK (t : den ab) (x : den ab) : bZ i5 mL lI fw 1000 (aN fw) (Env.of (aS lK (t, x, ()) 0) []) = mP t x := by kernel_rfl
noncomputable abbrev gL : aG := { T := bG, F := [(dK, eF)], n := (eI).ntmps }
noncomputable abbrev lu : Ann := { }
theorem rP (h_cmp_Compare_int : aP prog [] dK eF) : bH prog gL := gS (aV (bg bt aW) h_cmp_Compare_int)
theorem qR : bW gL = true := by kernel_rfl
noncomputable def kT (t : den ab) (x : den ab) : ao := ao.req True (ao.ret (K.val (Ty.pair ae Ty.unit) (bX (Prod.fst (Prod.fst (Prod.snd t))) (Prod.fst (Prod.fst (Prod.snd x))), PUnit.unit)))
theorem oR (t : den ab) (x : den ab) : bZ gL lu ke eI 1000 (aN eI) (Env.of (aS kw (t, x, ()) 0) []) = kT t x := by kernel_rfl
noncomputable abbrev gr : aG := { T := bG, F := [(eB, ft)], n := (eQ).ntmps }
noncomputable abbrev kJ : Ann := { }
theorem rH (h_ident_Compare : aP prog [] eB ft) : bH prog gr := gS (aV (bg bt aW) h_ident_Compare)
theorem qq : bW gr = true := by kernel_rfl
noncomputable def lw (t : den ab) (x : den ab) : ao := ao.req True (ao.ret (K.val (Ty.pair ae Ty.unit) (gO (Prod.fst (Prod.snd (Prod.fst (Prod.snd t)))) (Prod.fst (Prod.snd (Prod.fst (Prod.snd x)))), PUnit.unit)))
theorem oO (t : den ab) (x : den ab) : bZ gr kJ j9 eQ 1000 (aN eQ) (Env.of (aS j8 (t, x, ()) 0) []) = lw t x := by kernel_rfl
noncomputable abbrev gF : aG := { T := bG, F := [(dK, eF)], n := (eN).ntmps }
noncomputable abbrev ld : Ann := { }
theorem ru (h_cmp_Compare_int : aP prog [] dK eF) : bH prog gF := gS (aV (bg bt aW) h_cmp_Compare_int)
theorem qI : bW gF = true := by kernel_rfl
noncomputable def lx (t : den ab) (x : den ab) : ao := ao.req True (ao.ret (K.val (Ty.pair ae Ty.unit) (bX (Prod.fst (Prod.snd (Prod.snd (Prod.fst (Prod.snd t))))) (Prod.fst (Prod.snd (Prod.snd (Prod.fst (Prod.snd x))))), PUnit.unit)))
theorem oQ (t : den ab) (x : den ab) : bZ gF ld kp eN 1000 (aN eN) (Env.of (aS kd (t, x, ()) 0) []) = lx t x := by kernel_rfl
end Go.Proofs.Ytnccacngedeoeaa
namespace Go.Proofs.Ytnccacngedeoeaa
open Go Go.RowKit
end Go.Proofs.Ytnccacngedeoeaa
namespace Go.Proofs.Ytnccacngedeoeaa
open Go Go.RowKit
theorem Dh {e : Ty} (xs : List (den e)) {n : Nat} (h : n = xs.length) : y3 e xs 0 n = xs := by
 unfold y3; rw [h, List.drop_zero, List.take_length]
end Go.Proofs.Ytnccacngedeoeaa
namespace Go.Proofs.Ytnccacngedeoeaa
open Go Go.RowKit
end Go.Proofs.Ytnccacngedeoeaa
namespace Go.Proofs.Ytnccacngedeoeaa
open Go Go.RowKit
end Go.Proofs.Ytnccacngedeoeaa
namespace Go.Proofs.Ytnccacngedeoeaa
open Go Go.RowKit
noncomputable abbrev iN : bI := ⟨lK, lI, fun x => (gO x.1.1 x.2.1.1, ()), fun _ => True, true⟩
theorem mC : aP prog [] fB iN :=
 gz (tQ ph) sk sq (by kernel_rfl) (fun _ _ => trivial) (A := mL) (T := fun x => mP x.1 x.2.1) (fun x => qK x.1 x.2.1) fun O w0 x _ _ => ⟨trivial, _, rfl, rfl⟩
noncomputable abbrev gx : bI := ⟨kw, ke, fun x => (bX x.1.2.1.1 x.2.1.2.1.1, ()), fun _ => True, true⟩
theorem kK : aP prog [] eP gx :=
 gz (rP m7) qR qm (by kernel_rfl) (fun _ _ => trivial) (A := lu) (T := fun x => kT x.1 x.2.1) (fun x => oR x.1 x.2.1) fun O w0 x _ _ => ⟨trivial, _, rfl, rfl⟩
noncomputable abbrev gJ : bI := ⟨j8, j9, fun x => (gO x.1.2.1.2.1 x.2.1.2.1.2.1, ()), fun _ => True, true⟩
theorem lC : aP prog [] eT gJ :=
 gz (rH ph) qq qc (by kernel_rfl) (fun _ _ => trivial) (A := kJ) (T := fun x => lw x.1 x.2.1) (fun x => oO x.1 x.2.1) fun O w0 x _ _ => ⟨trivial, _, rfl, rfl⟩
noncomputable abbrev gQ : bI := ⟨kd, kp, fun x => (bX x.1.2.1.2.2.1 x.2.1.2.1.2.2.1, ()), fun _ => True, true⟩
theorem kF : aP prog [] eS gQ :=
 gz (ru m7) qI qM (by kernel_rfl) (fun _ _ => trivial) (A := ld) (T := fun x => lx x.1 x.2.1) (fun x => oQ x.1 x.2.1) fun O w0 x _ _ => ⟨trivial, _, rfl, rfl⟩
def pY (t : List (den ab)) (i : Nat) : Bool := li (el ab t (i : Nat)) && (decide (i = 0) || w8 (el ab t ((i : Nat) - 1 : Int)) (el ab t (i : Nat)))
def kQ (t : List (den ab)) (i : Nat) : Bool := (List.range' i (t.length - i)).all (pY t)
def aT (t : List (den ab)) : Bool := kQ t 0 && decide (t.length ≤ 32)
theorem uL {t : List (den ab)} {i : Nat} (h : i < t.length) : kQ t i = (pY t i && kQ t (i + 1)) := by
 unfold kQ
 rw [show t.length - i = (t.length - (i + 1)) + 1 by omega, List.range'_succ, List.all_cons]
theorem Ck {t : List (den ab)} : kQ t t.length = true := by
 unfold kQ; rw [Nat.sub_self]; rfl
end Go.Proofs.Ytnccacngedeoeaa
namespace Go.Proofs.Ytnccacngedeoeaa
open Go Go.RowKit
noncomputable abbrev kU : bI := ⟨nY, db, fun x => (mM x.1 x.2.1, ()), fun _ => True, true⟩
noncomputable abbrev c7 : bI := ⟨p9, jj, fun x => (aT x.1, ()), fun x => x.1.length ≤ 1000000, false⟩
def bE (id : den tId) : List (den ab) → Int → den tId → Int × den tId
 | [], m, l => (m, l)
 | x :: t, m, l => if m < da x.1 id then bE id t (da x.1 id) x.1 else bE id t m l
def aY (t : List (den ab)) (id : den tId) : List (den ab) × Int :=
 if aT t then (if (bE id t 127 (zero tId)).1 < 128 then ([], 6) else (t.filter fun x => decide (x.1 = (bE id t 127 (zero tId)).2), 0)) else ([], 1)
noncomputable abbrev jV : bI := ⟨qQ, jc, fun x => ((aY x.1 x.2.1).1, (aY x.1 x.2.1).2, ()), fun x => x.1.length ≤ 1000000, false⟩
end Go.Proofs.Ytnccacngedeoeaa
namespace Go.Proofs.Ytnccacngedeoeaa
open Go Go.RowKit
abbrev Ent := den ai
abbrev Pk := den ag
abbrev Ou := den bn
abbrev Tg := den ab
def bM (l : List Ent) : Bool := l.all j2
def cE (l : List Ent) : Bool := decide (1 ≤ l.length) && decide (l.length ≤ 4) && bM l
def bO (l front : List Ent) : List Ent × Int :=
 if bM l = true ∧ bM front = true then (if l.length + front.length ≤ 4 then (front ++ l, 0) else ([], 12)) else ([], 1)
def am (p : Pk) : Bool := cE p.1 && decide ((0 : Int) ≤ p.2.1) && decide ((p.2.1 : Int) ≤ 64) && decide (ByteArray.size p.2.2.1 ≤ 64)
def cX (n : Int) : Int := IntKind.wrap .i64 (n - 1)
def eK (p : Pk) (x : Tg) (front : List Ent) : Ou := (2, 0, ((bO (List.drop 1 p.1) front).1, cX p.2.1, p.2.2.1, ()), x, 0, ())
def gT (why : Int) : List Ou := [(3, 0, zero ag, zero ab, why, ())]
def aK (p : Pk) : Ent := el ai p.1 0
def aO (t : List Tg) (p : Pk) : List Ou × Int :=
 if am p = true ∧ aT t = true then
  (if (aK p).1 = (2 : Int) then [(1, (aK p).2.2.1, p, zero ab, 0, ())]
  else if (p.2.1 : Int) = 0 then gT 9
  else if (aY t (aK p).2.1).2 = 0 then (aY t (aK p).2.1).1.map fun x => eK p x [x.2.1]
  else if 1 < p.1.length then [eK p (zero ab) []] else gT 6, 0)
 else ([], 1)
noncomputable abbrev hH : bI := ⟨tH, n7, fun x => (bM x.1, ()), fun x => x.1.length ≤ 1000000, false⟩
noncomputable abbrev jO : bI := ⟨qv, qP, fun x => (cE x.1, ()), fun x => x.1.length ≤ 1000000, false⟩
noncomputable abbrev iM : bI := ⟨rY, gV, fun x => ((bO x.1 x.2.1).1, (bO x.1 x.2.1).2, ()), fun x => x.1.length ≤ 1000000 ∧ x.2.1.length ≤ 1000000, false⟩
noncomputable abbrev d7 : bI := ⟨oG, nT, fun x => (am x.1, ()), fun x => x.1.1.length ≤ 1000000, false⟩
noncomputable abbrev jd : bI := ⟨pf, py, fun x => (gT x.1, ()), fun _ => True, true⟩
noncomputable abbrev kP : bI := ⟨r9, sh, fun x => (eK x.1 x.2.1 x.2.2.1, ()), fun x => 1 ≤ x.1.1.length ∧ x.1.1.length ≤ 1000000 ∧ x.2.2.1.length ≤ 1000000, false⟩
noncomputable abbrev gi : bI := ⟨o3, kN, fun x => ((aO x.1 x.2.1).1, (aO x.1 x.2.1).2, ()), fun x => x.1.length ≤ 1000000 ∧ x.2.1.1.length ≤ 1000000, false⟩
end Go.Proofs.Ytnccacngedeoeaa
