/- Part 7 of 10 of what this claim's proof stands on: a theory of programs on data, and the contracts of the functions that the law reaches. It holds no condition of its own. -/
import Derived.Test.YtnakjijahkaoaaaDoorCI6
import Derived.Test.YtnakjijahkaoaaaDoorProg
import Derived.Test.YtnakjijahkaoaaaDoorRows
import Derived.Shelf.Strings.Builder1
import Derived.Shelf.Strings.Builder2
import Derived.Shelf.Strings.OnBuilder
import Derived.Shelf.Strings.BuilderF
import Derived.Shelf.Strings.BuilderK
import Derived.Shelf.Strings.Builder2Cap
import Derived.Shelf.Strings.Prefix
import Derived.Shelf.Bits.Mul64
import Derived.Shelf.Strings.Repeat
import Derived.Shelf.Strings.BuilderCap
import Derived.LaidMore
import Derived.Lay
namespace Go.Proofs.YtnakjijahkaoaaaDoor
open Go
noncomputable section
noncomputable abbrev prog : Program := Tryd.prog
abbrev tId : Ty := (.arr 32 (.int .u8))
abbrev bT : Ty := (.arr 16 (.int .u8))
abbrev ae : Ty := (.arr 8 (.int .u32))
abbrev rL : Ty := (.st (.pair (.mp bT .bool) .unit))
abbrev eR : Ty := (.st (.pair tId (.pair tId .unit)))
abbrev ag : Ty := (.st (.pair (.int .i64) (.pair tId (.pair (.int .i64) .unit))))
abbrev cX : Ty := (.st (.pair .bool (.pair .bool (.pair .bool (.pair .bool (.pair .bool (.pair .bool .unit)))))))
abbrev bH : Ty := (.st (.pair tId (.pair ag (.pair (.int .i64) .unit))))
abbrev aD : Ty := (.st (.pair (.int .i64) (.pair tId (.pair ag (.pair (.slc ag) (.pair (.int .i64) (.pair .str (.pair .str .unit))))))))
abbrev ar : Ty := (.st (.pair (.int .i64) (.pair aD .unit)))
def bc : List (Nat × Ty) := [
 (1, (.fn .unit .unit)),
 (2, (.int .i64)),
 (3, (.int .i64)),
 (4, .bool),
 (5, (.int .u8)),
 (9, .str),
 (12, (.int .u64)),
 (21, (.int .i32)),
 (22, tId),
 (23, tId),
 (24, (.int .i64)),
 (26, (.fn (.pair .str (.pair tId (.pair (.int .i64) .unit))) (.pair .str (.pair (.int .i64) .unit)))),
 (27, (.fn (.pair tId .unit) (.pair tId .unit))),
 (28, (.fn (.pair .str (.pair tId .unit)) (.pair tId .unit))),
 (29, (.fn (.pair tId (.pair tId .unit)) (.pair .bool .unit))),
 (30, (.fn .unit (.pair .bool .unit))),
 (31, (.fn (.pair .str (.pair tId (.pair (.int .i64) .unit))) (.pair .str .unit))),
 (32, (.fn (.pair tId (.pair tId (.pair .str (.pair (.int .i64) .unit)))) (.pair .bool .unit))),
 (33, (.slc eR)),
 (35, (.fn (.pair (.slc eR) .unit) (.pair .bool (.pair (.int .i64) .unit)))),
 (36, (.fn (.pair (.slc eR) .unit) (.pair .bool .unit))),
 (37, eR),
 (38, eR),
 (39, (.fn (.pair tId (.pair tId (.pair tId (.pair (.slc eR) .unit)))) (.pair .bool .unit))),
 (40, (.fn (.pair (.slc eR) (.pair (.int .i64) .unit)) (.pair .bool .unit))),
 (41, ag),
 (42, ag),
 (43, (.slc ag)),
 (44, aD),
 (45, aD),
 (46, (.fn (.pair aD .unit) (.pair aD .unit))),
 (48, (.fn (.pair .str (.pair aD .unit)) (.pair (.int .i64) (.pair aD (.pair (.int .i64) .unit))))),
 (49, (.fn (.pair .str (.pair aD (.pair aD .unit))) (.pair .bool .unit))),
 (50, (.fn (.pair .str (.pair .str (.pair tId (.pair tId (.pair (.int .i64) .unit))))) (.pair .bool .unit))),
 (51, bH),
 (52, bH),
 (54, (.fn (.pair aD (.pair (.int .i64) .unit)) (.pair bH (.pair (.int .i64) .unit)))),
 (55, (.fn (.pair aD .unit) (.pair .bool .unit))),
 (56, (.fn (.pair aD (.pair (.int .i64) .unit)) (.pair bH .unit))),
 (57, (.fn (.pair aD (.pair aD .unit)) (.pair .bool .unit))),
 (58, ar),
 (59, ar),
 (60, (.fn (.pair .str (.pair aD .unit)) (.pair ar .unit))),
 (61, (.fn (.pair .str (.pair aD (.pair (.int .i64) .unit))) (.pair .bool .unit))),
 (62, (.fn (.pair .str (.pair .str (.pair tId (.pair (.int .i64) (.pair (.int .i64) (.pair (.int .i64) .unit)))))) (.pair .bool .unit))),
 (63, (.fn (.pair (.slc .str) .unit) (.pair tId .unit))),
 (64, (.slc (.int .u8))),
 (65, (.fn (.pair .str .unit) (.pair tId .unit))),
 (66, (.fn (.pair tId .unit) (.pair .str .unit))),
 (67, bT),
 (68, bT),
 (69, (.fn (.pair tId .unit) (.pair bT .unit))),
 (70, (.fn (.pair (.slc eR) .unit) (.pair (.slc eR) .unit))),
 (71, (.mp bT .bool)),
 (72, rL),
 (73, rL),
 (74, (.fn (.pair bT .unit) .unit)),
 (75, (.fn (.pair (.slc eR) (.pair (.fn (.pair eR .unit) (.pair .bool .unit)) .unit)) (.pair (.slc eR) .unit))),
 (76, (.fn (.pair bT .unit) (.pair .bool .unit))),
 (77, (.fn (.pair eR .unit) (.pair .bool .unit))),
 (78, (.fn (.pair (.slc .str) (.pair .str .unit)) (.pair .bool .unit))),
 (79, (.slc .str)),
 (80, (.fn (.pair (.slc eR) (.pair .str .unit)) (.pair (.slc .str) .unit))),
 (81, (.fn (.pair aD (.pair .str .unit)) (.pair (.int .i64) .unit))),
 (83, (.mp (.int .i64) (.fn (.pair aD (.pair .str .unit)) (.pair (.int .i64) .unit)))),
 (84, (.fn .unit (.pair (.mp (.int .i64) (.fn (.pair aD (.pair .str .unit)) (.pair (.int .i64) .unit))) .unit))),
 (85, (.fn (.pair (.slc ag) (.pair (.slc ag) .unit)) (.pair .bool .unit))),
 (86, (.int .u32)),
 (87, ae),
 (88, ae),
 (89, (.fn .unit (.pair ae .unit))),
 (90, (.fn (.pair (.fn (.pair .str .unit) (.pair .bool .unit)) .unit) .unit)),
 (91, (.fn (.pair (.fn (.pair .str .unit) (.pair .bool .unit)) .unit) .unit)),
 (92, (.fn (.pair .str .unit) (.pair (.fn (.pair (.fn (.pair .str .unit) (.pair .bool .unit)) .unit) .unit) .unit))),
 (93, (.fn (.pair (.slc .str) (.pair .str .unit)) (.pair .str .unit))),
 (94, (.fn (.pair .str .unit) (.pair ae .unit))),
 (95, (.slc (.int .u32))),
 (96, (.fn .unit (.pair (.slc (.int .u32)) .unit))),
 (97, (.fn (.pair .str .unit) (.pair .str .unit))),
 (98, (.fn (.pair (.slc (.int .u32)) (.pair .str .unit)) (.pair (.slc (.int .u32)) .unit))),
 (100, (.fn (.pair (.slc eR) (.pair (.fn (.pair eR .unit) (.pair .bool .unit)) .unit)) (.pair (.int .i64) .unit))),
 (101, (.fn (.pair (.int .i64) .unit) (.pair (.fn (.pair aD (.pair .str .unit)) (.pair (.int .i64) .unit)) .unit))),
 (102, cX),
 (103, cX),
 (105, (.mp (.int .i64) cX)),
 (106, (.fn .unit (.pair (.mp (.int .i64) cX) .unit))),
 (107, (.fn (.pair ag .unit) (.pair .bool .unit))),
 (108, (.fn (.pair (.slc ag) .unit) (.pair .bool .unit))),
 (109, (.fn (.pair (.int .i64) (.pair (.int .u8) .unit)) (.pair .bool .unit))),
 (110, (.int .u64)),
 (111, (.int .u64)),
 (112, (.fn (.pair .str (.pair (.int .i64) .unit)) (.pair .str .unit))),
 (113, (.fn (.pair .str .unit) (.pair .bool .unit))),
 (117, (.fn (.pair (.int .i64) .unit) .unit)),
 (122, (.fn .unit (.pair .str .unit))),
 (123, (.arr 64 (.int .u32))),
 (124, (.fn (.pair .str .unit) (.pair (.int .u32) .unit))),
 (125, (.fn (.pair (.int .u32) (.pair (.int .i64) (.pair (.int .i64) (.pair (.int .u32) .unit)))) (.pair (.int .u32) .unit))),
 (126, (.fn (.pair (.int .u32) (.pair (.int .i64) .unit)) (.pair (.int .u32) .unit))),
 (127, (.fn (.pair (.slc (.int .u32)) (.pair (.int .u32) (.pair (.int .u32) .unit))) (.pair (.slc (.int .u32)) .unit))),
 (129, (.fn (.pair (.int .u64) (.pair (.int .u64) .unit)) (.pair (.int .u64) (.pair (.int .u64) .unit)))),
 (130, (.fn (.pair .str (.pair .str .unit)) (.pair .bool .unit))),
 (131, (.fn .unit (.pair (.int .i64) .unit))),
 (133, (.fn (.pair (.slc ag) (.pair (.fn (.pair ag .unit) (.pair .bool .unit)) .unit)) (.pair .bool .unit))),
 (135, (.fn (.pair (.int .u32) (.pair (.int .u32) .unit)) (.pair (.int .u32) (.pair (.int .u32) .unit)))),
 (137, (.fn (.pair (.int .u64) (.pair (.int .u64) .unit)) (.pair (.int .u64) (.pair (.int .u64) .unit)))),
 (140, (.fn (.pair (.int .i64) .unit) (.pair (.slc (.int .u8)) .unit))),
 (141, (.fn (.pair (.slc ag) (.pair (.fn (.pair ag .unit) (.pair .bool .unit)) .unit)) (.pair (.int .i64) .unit)))]
theorem aT : wy prog bc = true := by kernel_rfl
theorem aE : prog.follows .mixedOrders = true := by kernel_rfl
abbrev lX : Nat := 9
noncomputable abbrev it : Func := Tryd.f9
abbrev db : Ty := (.pair .str (.pair aD (.pair (.int .i64) .unit)))
abbrev tE : Ty := (.pair .bool .unit)
theorem s9 : Tryd.prog.funcs[lX]? = some it := Tryd.func9
abbrev iM : Nat := 11
noncomputable abbrev lL : Func := Tryd.f11
abbrev qa : Ty := (.pair .str (.pair tId (.pair (.int .i64) .unit)))
abbrev pJ : Ty := (.pair .str (.pair (.int .i64) .unit))
theorem yK : Tryd.prog.funcs[iM]? = some lL := Tryd.func11
abbrev jO : Nat := 12
noncomputable abbrev nC : Func := Tryd.f12
abbrev rn : Ty := (.pair tId .unit)
abbrev rS : Ty := (.pair tId .unit)
theorem AZ : Tryd.prog.funcs[jO]? = some nC := Tryd.func12
abbrev mz : Nat := 13
noncomputable abbrev fT : Func := Tryd.f13
abbrev ve : Ty := (.pair .str (.pair tId .unit))
abbrev kR : Ty := (.pair tId .unit)
theorem DZ : Tryd.prog.funcs[mz]? = some fT := Tryd.func13
abbrev iS : Nat := 14
noncomputable abbrev lO : Func := Tryd.f14
abbrev pw : Ty := (.pair tId .unit)
abbrev pC : Ty := (.pair tId .unit)
theorem zc : Tryd.prog.funcs[iS]? = some lO := Tryd.func14
abbrev iI : Nat := 15
noncomputable abbrev lH : Func := Tryd.f15
abbrev px : Ty := (.pair tId (.pair tId .unit))
abbrev py : Ty := (.pair .bool .unit)
theorem y3 : Tryd.prog.funcs[iI]? = some lH := Tryd.func15
abbrev kC : Nat := 16
noncomputable abbrev pd : Func := Tryd.f16
abbrev sw : Ty := (.pair tId (.pair tId .unit))
abbrev sd : Ty := (.pair .bool .unit)
theorem Ci : Tryd.prog.funcs[kC]? = some pd := Tryd.func16
abbrev kP : Nat := 18
noncomputable abbrev pc : Func := Tryd.f18
abbrev r7 : Ty := (.pair .str (.pair tId (.pair (.int .i64) .unit)))
abbrev sE : Ty := (.pair .str .unit)
theorem CZ : Tryd.prog.funcs[kP]? = some pc := Tryd.func18
abbrev nX : Nat := 21
noncomputable abbrev tr : Func := Tryd.f21
abbrev yD : Ty := (.pair aD .unit)
abbrev yq : Ty := (.pair aD .unit)
theorem FC : Tryd.prog.funcs[nX]? = some tr := Tryd.func21
abbrev eK : Nat := 22
noncomputable abbrev lN : Func := Tryd.f22
abbrev qd : Ty := (.pair .str (.pair aD .unit))
abbrev j7 : Ty := (.pair (.int .i64) (.pair aD (.pair (.int .i64) .unit)))
theorem za : Tryd.prog.funcs[eK]? = some lN := Tryd.func22
abbrev kO : Nat := 23
noncomputable abbrev o8 : Func := Tryd.f23
abbrev tH : Ty := .unit
abbrev sa : Ty := (.pair .bool .unit)
theorem CE : Tryd.prog.funcs[kO]? = some o8 := Tryd.func23
abbrev gz : Nat := 24
noncomputable abbrev jA : Func := Tryd.f24
abbrev nk : Ty := (.pair aD (.pair (.int .i64) .unit))
abbrev mO : Ty := (.pair bH (.pair (.int .i64) .unit))
theorem wG : Tryd.prog.funcs[gz]? = some jA := Tryd.func24
abbrev kM : Nat := 25
noncomputable abbrev oS : Func := Tryd.f25
abbrev sW : Ty := (.pair aD .unit)
abbrev sI : Ty := (.pair .bool .unit)
theorem C6 : Tryd.prog.funcs[kM]? = some oS := Tryd.func25
abbrev iY : Nat := 26
noncomputable abbrev lF : Func := Tryd.f26
abbrev p6 : Ty := (.pair aD (.pair (.int .i64) .unit))
abbrev pr : Ty := (.pair bH .unit)
theorem zP : Tryd.prog.funcs[iY]? = some lF := Tryd.func26
abbrev mn : Nat := 27
noncomputable abbrev qB : Func := Tryd.f27
abbrev vD : Ty := (.pair aD (.pair aD .unit))
abbrev uU : Ty := (.pair .bool .unit)
theorem DN : Tryd.prog.funcs[mn]? = some qB := Tryd.func27
abbrev kW : Nat := 28
noncomputable abbrev o6 : Func := Tryd.f28
abbrev sG : Ty := (.pair .str (.pair aD .unit))
abbrev m4 : Ty := (.pair ar .unit)
theorem BG : Tryd.prog.funcs[kW]? = some o6 := Tryd.func28
abbrev fq : Nat := 29
noncomputable abbrev aU : Func := Tryd.f29
abbrev rt : Ty := (.pair (.slc .str) .unit)
abbrev f8 : Ty := (.pair tId .unit)
theorem A6 : Tryd.prog.funcs[fq]? = some aU := Tryd.func29
abbrev fA : Nat := 30
noncomputable abbrev nA : Func := Tryd.f30
abbrev rA : Ty := (.pair .str (.pair tId .unit))
abbrev rD : Ty := (.pair tId .unit)
theorem AM : Tryd.prog.funcs[fA]? = some nA := Tryd.func30
abbrev jm : Nat := 31
noncomputable abbrev dr : Func := Tryd.f31
abbrev xe : Ty := (.pair .str .unit)
abbrev qO : Ty := (.pair tId .unit)
theorem F9 : Tryd.prog.funcs[jm]? = some dr := Tryd.func31
abbrev jh : Nat := 32
noncomputable abbrev sD : Func := Tryd.f32
abbrev x9 : Ty := (.pair tId .unit)
abbrev yz : Ty := (.pair .str .unit)
theorem Fw : Tryd.prog.funcs[jh]? = some sD := Tryd.func32
abbrev iQ : Nat := 33
noncomputable abbrev lQ : Func := Tryd.f33
abbrev pY : Ty := (.pair tId .unit)
abbrev p5 : Ty := (.pair bT .unit)
theorem zA : Tryd.prog.funcs[iQ]? = some lQ := Tryd.func33
abbrev Gj : Ty := (.pair .bool .unit)
abbrev ii : Nat := 41
noncomputable abbrev kw : Func := Tryd.f41
abbrev oc : Ty := .unit
abbrev oD : Ty := (.pair (.mp (.int .i64) (.fn (.pair aD (.pair .str .unit)) (.pair (.int .i64) .unit))) .unit)
theorem yF : Tryd.prog.funcs[ii]? = some kw := Tryd.func41
abbrev fw : Nat := 42
noncomputable abbrev mM : Func := Tryd.f42
abbrev rk : Ty := (.pair aD .unit)
abbrev lK : Ty := (.pair .bool .unit)
theorem AP : Tryd.prog.funcs[fw]? = some mM := Tryd.func42
abbrev kF : Nat := 43
noncomputable abbrev oY : Func := Tryd.f43
abbrev s5 : Ty := (.pair aD .unit)
abbrev nF : Ty := (.pair .bool .unit)
theorem Dg : Tryd.prog.funcs[kF]? = some oY := Tryd.func43
abbrev ma : Nat := 44
noncomputable abbrev fL : Func := Tryd.f44
abbrev vr : Ty := (.pair (.slc ag) (.pair (.slc ag) .unit))
abbrev pp : Ty := (.pair .bool .unit)
theorem Eu : Tryd.prog.funcs[ma]? = some fL := Tryd.func44
abbrev gy : Nat := 45
noncomputable abbrev jw : Func := Tryd.f45
abbrev nt : Ty := .unit
abbrev ng : Ty := (.pair ae .unit)
theorem wx : Tryd.prog.funcs[gy]? = some jw := Tryd.func45
abbrev oE : Nat := 46
noncomputable abbrev dI : Func := Tryd.f46
theorem we : Tryd.prog.funcs[oE]? = some dI := Tryd.func46
abbrev ia : Nat := 47
noncomputable abbrev zJ : Func := Tryd.f47
abbrev yf : Ty := (.pair (.slc .str) (.pair .str .unit))
abbrev wW : Ty := (.pair .str .unit)
theorem wY : Tryd.prog.funcs[ia]? = some zJ := Tryd.func47
abbrev eI : Nat := 48
noncomputable abbrev bn : Func := Tryd.f48
abbrev jR : Ty := (.pair ae (.pair .str .unit))
abbrev dV : Ty := (.pair ae .unit)
theorem qF : Tryd.prog.funcs[eI]? = some bn := Tryd.func48
abbrev kX : Nat := 49
noncomputable abbrev po : Func := Tryd.f49
abbrev sb : Ty := .unit
abbrev sq : Ty := (.pair (.slc (.int .u32)) .unit)
theorem B3 : Tryd.prog.funcs[kX]? = some po := Tryd.func49
abbrev jB : Nat := 50
noncomputable abbrev cy : Func := Tryd.f50
abbrev rT : Ty := (.pair .str .unit)
abbrev iL : Ty := (.pair .str .unit)
theorem AC : Tryd.prog.funcs[jB]? = some cy := Tryd.func50
abbrev kN : Nat := 51
noncomputable abbrev aW : Func := Tryd.f51
abbrev r8 : Ty := (.pair (.slc (.int .u32)) (.pair .str .unit))
abbrev nq : Ty := (.pair (.slc (.int .u32)) .unit)
theorem CT : Tryd.prog.funcs[kN]? = some aW := Tryd.func51
abbrev mX : Nat := 53
noncomputable abbrev nl : Func := Tryd.f53
theorem uM : Tryd.prog.funcs[mX]? = some nl := Tryd.func53
abbrev eZ : Nat := 54
noncomputable abbrev gW : Func := Tryd.f54
abbrev jY : Ty := (.pair aD (.pair .str (.pair (.ref (.int .i64)) .unit)))
abbrev j3 : Ty := (.pair (.int .i64) .unit)
theorem rY : Tryd.prog.funcs[eZ]? = some gW := Tryd.func54
abbrev fS : Nat := 55
noncomputable abbrev jd : Func := Tryd.f55
abbrev iu : Ty := (.pair aD (.pair .str .unit))
abbrev fm : Ty := (.pair (.int .i64) .unit)
theorem uL : Tryd.prog.funcs[fS]? = some jd := Tryd.func55
abbrev jI : Nat := 56
noncomputable abbrev m5 : Func := Tryd.f56
abbrev rg : Ty := .unit
abbrev rq : Ty := (.pair (.mp (.int .i64) cX) .unit)
theorem AX : Tryd.prog.funcs[jI]? = some m5 := Tryd.func56
abbrev hH : Nat := 57
noncomputable abbrev l7 : Func := Tryd.f57
abbrev uS : Ty := (.pair ag .unit)
abbrev vL : Ty := (.pair .bool .unit)
theorem Eb : Tryd.prog.funcs[hH]? = some l7 := Tryd.func57
abbrev iR : Nat := 58
noncomputable abbrev lG : Func := Tryd.f58
abbrev p4 : Ty := (.pair (.slc ag) .unit)
abbrev pZ : Ty := (.pair .bool .unit)
theorem yS : Tryd.prog.funcs[iR]? = some lG := Tryd.func58
abbrev n8 : Nat := 59
noncomputable abbrev gS : Func := Tryd.f59
abbrev ym : Ty := (.pair (.int .i64) (.pair (.int .u8) .unit))
abbrev qR : Ty := (.pair .bool .unit)
theorem Fh : Tryd.prog.funcs[n8]? = some gS := Tryd.func59
abbrev ku : Nat := 60
noncomputable abbrev ff : Func := Tryd.f60
abbrev zY : Ty := (.pair ag .unit)
abbrev oq : Ty := (.pair .bool .unit)
theorem GE : Tryd.prog.funcs[ku]? = some ff := Tryd.func60
abbrev kA : Nat := 61
noncomputable abbrev pn : Func := Tryd.f61
abbrev tB : Ty := (.pair (.slc ag) .unit)
abbrev sK : Ty := (.pair .bool .unit)
theorem Bt : Tryd.prog.funcs[kA]? = some pn := Tryd.func61
abbrev fJ : Nat := 62
noncomputable abbrev vU : Func := Tryd.f62
abbrev uK : Ty := (.pair .str (.pair (.int .i64) .unit))
abbrev uE : Ty := (.pair .str .unit)
theorem uG : Tryd.prog.funcs[fJ]? = some vU := Tryd.func62
abbrev lU : Nat := 63
noncomputable abbrev dn : Func := Tryd.f63
theorem tC : Tryd.prog.funcs[lU]? = some dn := Tryd.func63
abbrev gu : Nat := 67
noncomputable abbrev dh : Func := Tryd.f67
abbrev nu : Ty := (.pair .str .unit)
abbrev jg : Ty := (.pair (.int .u32) .unit)
theorem wc : Tryd.prog.funcs[gu]? = some dh := Tryd.func67
abbrev jt : Nat := 68
noncomputable abbrev nR : Func := Tryd.f68
abbrev ry : Ty := (.pair (.int .u32) (.pair (.int .i64) (.pair (.int .i64) (.pair (.int .u32) .unit))))
abbrev rC : Ty := (.pair (.int .u32) .unit)
theorem A5 : Tryd.prog.funcs[jt]? = some nR := Tryd.func68
abbrev cT : Nat := 69
noncomputable abbrev gq : Func := Tryd.f69
abbrev jC : Ty := (.pair (.int .u32) (.pair (.int .i64) .unit))
abbrev ju : Ty := (.pair (.int .u32) .unit)
theorem qX : Tryd.prog.funcs[cT]? = some gq := Tryd.func69
abbrev im : Nat := 70
noncomputable abbrev fK : Func := Tryd.f70
abbrev va : Ty := (.pair (.int .u32) (.pair (.int .i64) .unit))
abbrev o9 : Ty := (.pair (.int .u32) .unit)
theorem D1 : Tryd.prog.funcs[im]? = some fK := Tryd.func70
abbrev mr : Nat := 71
noncomputable abbrev qM : Func := Tryd.f71
abbrev vc : Ty := .unit
abbrev vE : Ty := (.pair (.slc (.int .u32)) .unit)
theorem Di : Tryd.prog.funcs[mr]? = some qM := Tryd.func71
abbrev kL : Nat := 72
noncomputable abbrev o4 : Func := Tryd.f72
abbrev sL : Ty := (.pair (.slc (.int .u32)) (.pair (.int .u32) (.pair (.int .u32) .unit)))
abbrev ti : Ty := (.pair (.slc (.int .u32)) .unit)
theorem BZ : Tryd.prog.funcs[kL]? = some o4 := Tryd.func72
abbrev k5 : Nat := 73
noncomputable abbrev ge : Func := Tryd.f73
abbrev tp : Ty := (.pair (.slc ag) .unit)
abbrev mZ : Ty := (.pair .bool .unit)
theorem CV : Tryd.prog.funcs[k5]? = some ge := Tryd.func73
abbrev oR : Nat := 74
noncomputable abbrev gQ : Func := Tryd.f74
abbrev xT : Ty := (.pair (.slc ag) .unit)
abbrev qw : Ty := (.pair .bool .unit)
theorem E6 : Tryd.prog.funcs[oR]? = some gQ := Tryd.func74
abbrev fH : Nat := 80
noncomputable abbrev bX : Func := Tryd.f80
theorem kd : Tryd.prog.funcs[fH]? = some bX := Tryd.func80
abbrev f6 : Nat := 81
noncomputable abbrev rp : Func := Tryd.f81
theorem zj : Tryd.prog.funcs[f6]? = some rp := Tryd.func81
abbrev gO : Nat := 87
noncomputable abbrev bV : Func := Tryd.f87
theorem mh : Tryd.prog.funcs[gO]? = some bV := Tryd.func87
end
end Go.Proofs.YtnakjijahkaoaaaDoor
namespace Go.Proofs.YtnakjijahkaoaaaDoor
open Go Go.RowKit
theorem bP {σ : Type} (n : Nat) (Inv : Nat → σ → Prop) (Q : Nat → σ → Prop) (step : ∀ i s, i < n → Inv i s → (∀ s', Inv (i + 1) s' → Q (i + 1) s') → Q i s) (last : ∀ s, Inv n s → Q n s) : ∀ (i : Nat) (s : σ), i ≤ n → Inv i s → Q i s := by
 intro i s hi
 obtain ⟨k, hk⟩ : ∃ k, k + i = n := ⟨n - i, by omega⟩
 induction k generalizing i s with
 | zero =>
  have e : i = n := by omega
  subst e
  exact last s
 | succ k ih =>
  intro hI
  exact step i s (by omega) hI fun s' h' => ih (i + 1) s' (by omega) (by omega) h'
theorem pK {e : Ty} (t : List (den e)) {i : Nat} : (decide ((i : Int) < lnx e t)) = decide (i < t.length) := by
 rw [Bool.eq_iff_iff, decide_eq_true_eq, decide_eq_true_eq]
 exact ⟨fun h => by have h : (i : Int) < (t.length : Int) := h; omega, fun h => by show (i : Int) < (t.length : Int); omega⟩
theorem bp {n : Int} (h : -1000000000000000 ≤ n ∧ n ≤ 1000000000000000) : IntKind.wrap .i64 n = n := HA (by omega) (by omega)
theorem aM {P : ab → Prop} {A : Type} {e : A} {f : A → ab} (h : P (f e)) : ∀ q, q = e → P (f q) := fun q hq => by cases hq; exact h
theorem Kn {e : Ty} (l : List (den e)) (n : Nat) : bF e l 0 (bI (lnx e l) (n : Int)) = l.take n ∧ bv 0 (bI (lnx e l) (n : Int)) (lnx e l) := by
 have h : lnx e l = (l.length : Int) := rfl
 unfold bF eJ bI bv
 rw [h]
 have h0 : Int.toNat 0 = 0 := rfl
 rw [h0, List.drop_zero]
 split
 ·rw [Int.toNat_natCast]
  exact ⟨rfl, by omega, by omega, by omega⟩
 ·rw [Int.toNat_natCast, List.take_length, List.take_of_length_le (by omega)]
  exact ⟨rfl, by omega, by omega, by omega⟩
theorem BX (s : ByteArray) (n : Nat) : bv 0 (bI (ax s) (n : Int)) (ax s) := by
 unfold bI bv ax
 split <;> omega
end Go.Proofs.YtnakjijahkaoaaaDoor
namespace Go.Proofs.YtnakjijahkaoaaaDoor
open Go Go.RowKit
noncomputable abbrev jN : Fx := { fn := gq, ann := { } }
noncomputable abbrev jW : aZ := { D := { T := bc, F := [], R := [], ovl := [] }, inl := [] }
noncomputable abbrev rZ : bm := .data ju
theorem rW : XOk prog jW := xok ((aO aT aE)) (by kernel_rfl) aG aQ aR
noncomputable def jZ (x : den (Ty.int IntKind.u32)) (k : den af) : ab := ab.req (ge0 (IntKind.wrap IntKind.u64 (↑(BitVec.toNat (BitVec.ofInt (IntKind.bits IntKind.u64) (IntKind.wrap IntKind.u64 k) &&& BitVec.ofInt (IntKind.bits IntKind.u64) 31)) : Int))) (ab.req (ge0 (IntKind.wrap IntKind.u64 (32 - IntKind.wrap IntKind.u64 (↑(BitVec.toNat (BitVec.ofInt (IntKind.bits IntKind.u64) (IntKind.wrap IntKind.u64 k) &&& BitVec.ofInt (IntKind.bits IntKind.u64) 31)) : Int)))) (ab.ret (K.val (Ty.pair (Ty.int IntKind.u32) Ty.unit) (IntKind.wrap IntKind.u32 (↑(BitVec.toNat (BitVec.ofInt (IntKind.bits IntKind.u32) (IntKind.wrap IntKind.u32 (x * 2 ^ min (Int.toNat (IntKind.wrap IntKind.u64 (↑(BitVec.toNat (BitVec.ofInt (IntKind.bits IntKind.u64) (IntKind.wrap IntKind.u64 k) &&& BitVec.ofInt (IntKind.bits IntKind.u64) 31)) : Int))) (IntKind.bits IntKind.u32))) ||| BitVec.ofInt (IntKind.bits IntKind.u32) (Int.fdiv x (2 ^ min (Int.toNat (IntKind.wrap IntKind.u64 (32 - IntKind.wrap IntKind.u64 (↑(BitVec.toNat (BitVec.ofInt (IntKind.bits IntKind.u64) (IntKind.wrap IntKind.u64 k) &&& BitVec.ofInt (IntKind.bits IntKind.u64) 31)) : Int)))) (IntKind.bits IntKind.u32))))) : Int), PUnit.unit))))
theorem oX (x : den (Ty.int IntKind.u32)) (k : den af) : al jW rZ 5000 [] jN (aA gq) (Env.of (aN jC (x, k, ()) 0) []) = jZ x k := by kernel_rfl
noncomputable abbrev nK : Fx := { fn := jw, ann := { } }
noncomputable abbrev og : aZ := { D := { T := bc, F := [], R := [], ovl := [] }, inl := [] }
noncomputable abbrev wQ : bm := .data ng
theorem xv : XOk prog og := xok ((aO aT aE)) (by kernel_rfl) aG aQ aR
noncomputable def oQ : ab := ab.ret (K.val (Ty.pair ae Ty.unit) (List.set (List.set (List.set (List.set (List.set (List.set (List.set (List.set (List.replicate 8 (zero (Ty.int IntKind.u32))) 0 1779033703) 1 3144134277) 2 1013904242) 3 2773480762) 4 1359893119) 5 2600822924) 6 528734635) 7 1541459225, PUnit.unit))
theorem tl : al og wQ 5000 [] nK (aA jw) (Env.of (aN nt () 0) []) = oQ := by kernel_rfl
end Go.Proofs.YtnakjijahkaoaaaDoor
namespace Go.Proofs.YtnakjijahkaoaaaDoor
open Go Go.RowKit
theorem bJ {Gl : iP} {f : FuncId} {S : bh} (h : au prog [] f S) : au prog Gl f S := ⟨h.can, h.all, fun O w vs x hO _ hx hp => h.does O w vs x hO (fun _ _ _ h => by cases h) hx hp⟩
def Jh : DataW Unit → List Int
 | .agg l => l.map fun | .lit (.int _ n) => n | _ => 0
 | _ => []
def ie : List Int := Jh Rows.laid_posthouse_digest_keys
noncomputable abbrev gl : iP := [(0, ⟨.arr 64 (.int .u32), ie⟩)]
def pQ (k : Int) : Int := IntKind.wrap .u64 ((BitVec.toNat (BitVec.ofInt (IntKind.bits .u64) (IntKind.wrap .u64 k) &&& BitVec.ofInt (IntKind.bits .u64) 31) : Nat) : Int)
def bO (x k : Int) : Int :=
 IntKind.wrap .u32 ((BitVec.toNat (BitVec.ofInt (IntKind.bits .u32) (IntKind.wrap .u32 (x * 2 ^ min (Int.toNat (pQ k)) (IntKind.bits .u32))) |||
  BitVec.ofInt (IntKind.bits .u32) (Int.fdiv x (2 ^ min (Int.toNat (IntKind.wrap .u64 (32 - pQ k))) (IntKind.bits .u32)))) : Nat) : Int)
theorem BH (n : Int) : 0 ≤ IntKind.wrap .u64 n := by
 have : IntKind.wrap .u64 n = n % 18446744073709551616 := rfl
 rw [this]
 exact Int.emod_nonneg _ (by decide)
noncomputable abbrev cS : bh := ⟨jC, ju, fun x => (bO x.1 x.2.1, ()), fun _ => True, true⟩
theorem cV : au prog [] cT cS :=
 bw (S := cS) rW (fx := jN) qX (by kernel_rfl) (fun _ _ => trivial) (T := fun x => jZ x.1 x.2.1) (fun x => oX x.1 x.2.1) fun O w0 x _ _ =>
  ⟨BH _, BH _, _, rfl, rfl⟩
def dO : List Int := [1779033703, 3144134277, 1013904242, 2773480762, 1359893119, 2600822924, 528734635, 1541459225]
noncomputable abbrev gC : bh := ⟨nt, ng, fun _ => (dO, ()), fun _ => True, true⟩
theorem x8 : au prog [] gy gC :=
 bw (S := gC) xv (fx := nK) wx (by kernel_rfl) (fun _ _ => trivial) (T := fun _ => oQ) (fun _ => tl) fun O w0 x _ _ => ⟨_, rfl, rfl⟩
end Go.Proofs.YtnakjijahkaoaaaDoor
namespace Go.Proofs.YtnakjijahkaoaaaDoor
open Go Go.RowKit
noncomputable abbrev rl : Fx := { fn := nR, ann := { } }
noncomputable abbrev tY : aZ := { D := { T := bc, F := [(cT, cS)], R := [], ovl := [] }, inl := [] }
noncomputable abbrev BU : bm := .data rC
theorem C3 (h_bits_RotateLeft32 : au prog [] cT cS) : XOk prog tY := xok (aB (aO aT aE) h_bits_RotateLeft32) (by kernel_rfl) aG aQ aR
noncomputable def ua (x : den (Ty.int IntKind.u32)) (a : den af) (b : den af) (c : den (Ty.int IntKind.u32)) : ab := ab.req True (ab.req True (ab.ret (K.val (Ty.pair (Ty.int IntKind.u32) Ty.unit) (IntKind.wrap IntKind.u32 (↑(BitVec.toNat (BitVec.ofInt (IntKind.bits IntKind.u32) (IntKind.wrap IntKind.u32 (↑(BitVec.toNat (BitVec.ofInt (IntKind.bits IntKind.u32) (bO x (IntKind.wrap IntKind.i64 (sP a))) ^^^ BitVec.ofInt (IntKind.bits IntKind.u32) (bO x (IntKind.wrap IntKind.i64 (sP b))))) : Int)) ^^^ BitVec.ofInt (IntKind.bits IntKind.u32) c)) : Int), PUnit.unit))))
theorem ya (x : den (Ty.int IntKind.u32)) (a : den af) (b : den af) (c : den (Ty.int IntKind.u32)) : al tY BU 5000 [] rl (aA nR) (Env.of (aN ry (x, a, b, c, ()) 0) []) = ua x a b c := by kernel_rfl
noncomputable abbrev dx : Fx := { fn := dh, ann := { loops := [(3, { keep := [0, 3, 6, 7] })] } }
noncomputable abbrev gv : aZ := { D := { T := bc, F := [], R := [], ovl := [] }, inl := [] }
noncomputable abbrev oh : bm := .data jg
theorem jD : XOk prog gv := xok ((aO aT aE)) (by kernel_rfl) aG aQ aR
noncomputable def oo (s : den Ty.str) : ab := ab.loop [] dx (lp dh 3) [(0, K.val Ty.str s), (3, K.val (Ty.int IntKind.u32) 0), (6, K.val af (ax s)), (7, K.val af 0)] []
theorem sQ (s : den Ty.str) : al gv oh 5000 [] dx (aA dh) (Env.of (aN nu (s, ()) 0) []) = oo s := by kernel_rfl
noncomputable def lY (v0 : den Ty.str) (v3 : den (Ty.int IntKind.u32)) (v6 : den af) (v7 : den af) : Env := Env.of [(0, K.val Ty.str v0), (3, K.val (Ty.int IntKind.u32) v3), (6, K.val af v6), (7, K.val af v7)] []
noncomputable def sU (v0 : den Ty.str) (v3 : den (Ty.int IntKind.u32)) (v6 : den af) (v7 : den af) : ab := ab.ite (decide (v7 < v6)) (ab.req (ge0 8) (ab.req (inB v7 (ax v0)) (ab.loop [] dx (lp dh 3) [(0, K.val Ty.str v0), (3, K.val (Ty.int IntKind.u32) (IntKind.wrap IntKind.u32 (↑(BitVec.toNat (BitVec.ofInt (IntKind.bits IntKind.u32) (IntKind.wrap IntKind.u32 (v3 * 2 ^ min (Int.toNat 8) (IntKind.bits IntKind.u32))) ||| BitVec.ofInt (IntKind.bits IntKind.u32) (IntKind.wrap IntKind.u32 (sAt v0 v7)))) : Int))), (6, K.val af v6), (7, K.val af (IntKind.wrap IntKind.i64 (v7 + 1)))] []))) (ab.ret (K.val (Ty.pair (Ty.int IntKind.u32) Ty.unit) (v3, PUnit.unit)))
theorem ji (v0 : den Ty.str) (v3 : den (Ty.int IntKind.u32)) (v6 : den af) (v7 : den af) : al gv oh 5000 [] dx (lp dh 3) (lY v0 v3 v6 v7) = sU v0 v3 v6 v7 := by kernel_rfl
end Go.Proofs.YtnakjijahkaoaaaDoor
namespace Go.Proofs.YtnakjijahkaoaaaDoor
open Go Go.RowKit
def dW (a b : Int) : Int := IntKind.wrap .u32 ((BitVec.toNat (BitVec.ofInt (IntKind.bits .u32) a ^^^ BitVec.ofInt (IntKind.bits .u32) b) : Nat) : Int)
def gp (a b : Int) : Int := IntKind.wrap .u32 ((BitVec.toNat (BitVec.ofInt (IntKind.bits .u32) a &&& BitVec.ofInt (IntKind.bits .u32) b) : Nat) : Int)
def lor (a b : Int) : Int := IntKind.wrap .u32 ((BitVec.toNat (BitVec.ofInt (IntKind.bits .u32) a ||| BitVec.ofInt (IntKind.bits .u32) b) : Nat) : Int)
def cZ (a b : Int) : Int := IntKind.wrap .u32 (a + b)
def cP (x a b c : Int) : Int := dW (dW (bO x (IntKind.wrap .i64 (sP a))) (bO x (IntKind.wrap .i64 (sP b)))) c
noncomputable abbrev jG : bh := ⟨ry, rC, fun x => (cP x.1 x.2.1 x.2.2.1 x.2.2.2.1, ()), fun _ => True, true⟩
theorem gJ : au prog [] jt jG :=
 bw (S := jG) (C3 cV) (fx := rl) A5 (by kernel_rfl) (fun _ _ => trivial) (T := fun x => ua x.1 x.2.1 x.2.2.1 x.2.2.2.1) (fun x => ya x.1 x.2.1 x.2.2.1 x.2.2.2.1) fun O w0 x _ _ =>
  ⟨trivial, trivial, _, rfl, rfl⟩
def ga (n b : Int) : Int := lor (IntKind.wrap .u32 (n * 2 ^ min (Int.toNat 8) (IntKind.bits .u32))) (IntKind.wrap .u32 b)
def nD (s : ByteArray) : Int := (aK s).foldl ga 0
noncomputable abbrev gD : bh := ⟨nu, jg, fun x => (nD x.1, ()), fun x => ByteArray.size x.1 ≤ 1000000, false⟩
theorem eM (s : ByteArray) : (aK s).length = s.size := by
 unfold aK
 rw [List.length_map, Array.length_toList]
 rfl
theorem Cd (s : ByteArray) {i : Nat} (hi : i < s.size) : (aK s)[i]'(by rw [eM]; exact hi) = sAt s (i : Nat) := by
 have hd : i < s.data.size := hi
 unfold aK sAt
 rw [List.getElem_map, Int.toNat_natCast, Array.getElem?_eq_getElem hd]
 rfl
theorem Dd (s : ByteArray) {i : Nat} : decide ((i : Int) < ax s) = decide (i < s.size) := by
 rw [Bool.eq_iff_iff, decide_eq_true_eq, decide_eq_true_eq]
 exact ⟨fun h => by have h : (i : Int) < (s.size : Int) := h; omega, fun h => by show (i : Int) < (s.size : Int); omega⟩
def wI (O : Nat → Prop) (w0 : World) (s : ByteArray) (hs : s.size ≤ 1000000) :=
 PLift.up <| bP (σ := Int) s.size (fun i n => n = ((aK s).take i).foldl ga 0)
  (fun i n => bC prog gv (Cx.base O w0) (cN prog O w0 jg fun y => y = (nD s, ())) [] dx (lp dh 3) (lY s n (ax s) (i : Nat)))
  (fun i n hi hn ih => aI jD (ji s n _ _) (by
   refine ⟨fun _ => ⟨show (0 : Int) ≤ 8 by decide, ⟨Int.natCast_nonneg _, Int.ofNat_lt.2 hi⟩, ?_⟩, fun h => ?_⟩
   ·rw [da hi (by omega)]
    refine ih (ga n (sAt s (i : Nat))) ?_
    have hi' : i < (aK s).length := by rw [eM]; exact hi
    rw [List.take_succ_eq_append_getElem hi', List.foldl_append, ← hn, Cd s hi]
    rfl
   ·rw [Dd] at h
    exact absurd hi (of_decide_eq_false h)))
  (fun n hn => aI jD (ji s n _ _) (by
   refine ⟨fun h => ?_, fun _ => ⟨_, rfl, ?_⟩⟩
   ·rw [Dd] at h
    exact absurd (of_decide_eq_true h) (Nat.lt_irrefl _)
   ·have hn : n = ((aK s).take s.size).foldl ga 0 := hn
    rw [List.take_of_length_le (by rw [eM]; exact Nat.le_refl _)] at hn
    rw [hn]; rfl))
theorem eN : au prog [] gu gD :=
 bw (S := gD) jD (fx := dx) wc (by kernel_rfl) (fun h => by cases h) (T := fun x => oo x.1) (fun x => sQ x.1) fun O w0 x _ hp =>
  (wI O w0 x.1 hp).down 0 0 (Nat.zero_le _) rfl
end Go.Proofs.YtnakjijahkaoaaaDoor
namespace Go.Proofs.YtnakjijahkaoaaaDoor
open Go Go.RowKit
noncomputable abbrev br : Fx := { fn := bn, ann := { loops := [(4, { keep := [1, 2, 4, 5, 6, 16] }), (16, { keep := [2, 4, 6, 126] })] }, share := true, shareD := true }
noncomputable abbrev cW : aZ := { D := { T := bc, F := [(cT, cS), (jt, jG), (gu, gD)], R := [], ovl := [], G := gl }, inl := [] }
noncomputable abbrev gr : bm := .data dV
theorem dw (h_bits_RotateLeft32 : au prog gl cT cS) (h_digest_two : au prog gl jt jG) (h_digest_number : au prog gl gu gD) : XOk prog cW := xok (aB (aB (aB (aO aT aE) h_digest_number) h_digest_two) h_bits_RotateLeft32) (by kernel_rfl) aG aQ aR
noncomputable def jX (h : den ae) (s : den Ty.str) : ab := ab.loop [] br (lp bn 4) [(1, K.val Ty.str s), (2, K.ptr 0 ae []), (4, K.ptr (0 + 1) ae []), (5, K.ptr (0 + 1 + 1) (Ty.arr 64 (Ty.int IntKind.u32)) []), (6, K.ptr (0 + 1 + 1 + 1) ae []), (16, K.val af 0)] [(0, Bx.cell ae h), (0 + 1, Bx.cell ae (zero ae)), (0 + 1 + 1, Bx.cell (Ty.arr 64 (Ty.int IntKind.u32)) (zero (Ty.arr 64 (Ty.int IntKind.u32)))), (0 + 1 + 1 + 1, Bx.cell ae h)]
theorem oU (h : den ae) (s : den Ty.str) : al cW gr 5000 [] br (aA bn) (Env.of (aN jR (h, s, ()) 0) []) = jX h s := by kernel_rfl
noncomputable def dJ (v1 : den Ty.str) (v16 : den af) (b0 : den ae) (b1 : den ae) (b2 : den (Ty.arr 64 (Ty.int IntKind.u32))) (b3 : den ae) : Env := Env.of [(1, K.val Ty.str v1), (2, K.ptr 0 ae []), (4, K.ptr (0 + 1) ae []), (5, K.ptr (0 + 1 + 1) (Ty.arr 64 (Ty.int IntKind.u32)) []), (6, K.ptr (0 + 1 + 1 + 1) ae []), (16, K.val af v16)] [(0, Bx.cell ae b0), (1, Bx.cell ae b1), (2, Bx.cell (Ty.arr 64 (Ty.int IntKind.u32)) b2), (3, Bx.cell ae b3)]
noncomputable def ph (v1 : den Ty.str) (v16 : den af) (b0 : den ae) (b1 : den ae) (b2 : den (Ty.arr 64 (Ty.int IntKind.u32))) (b3 : den ae) : ab := ab.ite (decide (v16 < 64)) (ab.ite (decide (v16 < 16)) (ab.req (bv (IntKind.wrap IntKind.i64 (4 * v16)) (IntKind.wrap IntKind.i64 (IntKind.wrap IntKind.i64 (4 * v16) + 4)) (ax v1)) (ab.req (ByteArray.size (a6 v1 (IntKind.wrap IntKind.i64 (4 * v16)) (IntKind.wrap IntKind.i64 (IntKind.wrap IntKind.i64 (4 * v16) + 4))) ≤ 1000000) (ab.all (den (Ty.int IntKind.u32)) (fun (q6 : den (Ty.int IntKind.u32)) ↦ q6 = nD (a6 v1 (IntKind.wrap IntKind.i64 (4 * v16)) (IntKind.wrap IntKind.i64 (IntKind.wrap IntKind.i64 (4 * v16) + 4)))) fun (q6 : den (Ty.int IntKind.u32)) ↦ ab.req (inB v16 (↑64 : Int)) (ab.req (inB 0 (↑8 : Int)) (ab.req (inB 4 (↑8 : Int)) (ab.all (den (Ty.int IntKind.u32)) (fun (q7 : den (Ty.int IntKind.u32)) ↦ q7 = el (Ty.int IntKind.u32) b3 0) fun (q7 : den (Ty.int IntKind.u32)) ↦ ab.all (den (Ty.int IntKind.u32)) (fun (q8 : den (Ty.int IntKind.u32)) ↦ q8 = el (Ty.int IntKind.u32) b3 4) fun (q8 : den (Ty.int IntKind.u32)) ↦ ab.req (inB 7 (↑8 : Int)) (ab.req True (ab.req True (ab.req (inB 6 (↑8 : Int)) (ab.req (inB 5 (↑8 : Int)) (ab.req (inB 6 (↑8 : Int)) (ab.req (inB v16 (↑64 : Int)) (ab.req (inB v16 (↑64 : Int)) (ab.all (den (Ty.int IntKind.u32)) (fun (q9 : den (Ty.int IntKind.u32)) ↦ q9 = bO q8 (-25)) fun (q9 : den (Ty.int IntKind.u32)) ↦ ab.all (den (Ty.int IntKind.u32)) (fun (q10 : den (Ty.int IntKind.u32)) ↦ q10 = cP q8 6 11 (bO q8 (-25))) fun (q10 : den (Ty.int IntKind.u32)) ↦ ab.all (den (Ty.int IntKind.u32)) (fun (q11 : den (Ty.int IntKind.u32)) ↦ q11 = IntKind.wrap IntKind.u32 (IntKind.wrap IntKind.u32 (IntKind.wrap IntKind.u32 (IntKind.wrap IntKind.u32 (el (Ty.int IntKind.u32) b3 7 + cP q8 6 11 (bO q8 (-25))) + IntKind.wrap IntKind.u32 (↑(BitVec.toNat (BitVec.ofInt (IntKind.bits IntKind.u32) (el (Ty.int IntKind.u32) b3 6) ^^^ BitVec.ofInt (IntKind.bits IntKind.u32) (IntKind.wrap IntKind.u32 (↑(BitVec.toNat (BitVec.ofInt (IntKind.bits IntKind.u32) q8 &&& BitVec.ofInt (IntKind.bits IntKind.u32) (IntKind.wrap IntKind.u32 (↑(BitVec.toNat (BitVec.ofInt (IntKind.bits IntKind.u32) (el (Ty.int IntKind.u32) b3 5) ^^^ BitVec.ofInt (IntKind.bits IntKind.u32) (el (Ty.int IntKind.u32) b3 6))) : Int)))) : Int)))) : Int)) + el (Ty.int IntKind.u32) ie v16) + el (Ty.int IntKind.u32) (bR (Ty.int IntKind.u32) b2 v16 q6) v16)) fun (q11 : den (Ty.int IntKind.u32)) ↦ ab.req (inB 1 (↑8 : Int)) (ab.req (inB 2 (↑8 : Int)) (ab.req (inB 1 (↑8 : Int)) (ab.req True (ab.req True (ab.req (inB 1 (↑8 : Int)) (ab.req (inB 2 (↑8 : Int)) (ab.req (inB 3 (↑8 : Int)) (ab.req (inB 5 (↑8 : Int)) (ab.req (inB 6 (↑8 : Int)) (ab.all (den (Ty.int IntKind.u32)) (fun (q12 : den (Ty.int IntKind.u32)) ↦ q12 = bO q7 (-22)) fun (q12 : den (Ty.int IntKind.u32)) ↦ ab.all (den (Ty.int IntKind.u32)) (fun (q13 : den (Ty.int IntKind.u32)) ↦ q13 = cP q7 2 13 (bO q7 (-22))) fun (q13 : den (Ty.int IntKind.u32)) ↦ ab.loop [] br (lp bn 4) [(1, K.val Ty.str v1), (2, K.ptr 0 ae []), (4, K.ptr (0 + 1) ae []), (5, K.ptr (0 + 1 + 1) (Ty.arr 64 (Ty.int IntKind.u32)) []), (6, K.ptr (0 + 1 + 1 + 1) ae []), (16, K.val af (IntKind.wrap IntKind.i64 (v16 + 1)))] [(0, Bx.cell ae b0), (0 + 1, Bx.cell ae b1), (0 + 1 + 1, Bx.cell (Ty.arr 64 (Ty.int IntKind.u32)) (bR (Ty.int IntKind.u32) b2 v16 q6)), (0 + 1 + 1 + 1, Bx.cell ae (List.set (List.set (List.set (List.set (List.set (List.set (List.set (List.set (List.replicate 8 (zero (Ty.int IntKind.u32))) 0 (IntKind.wrap IntKind.u32 (IntKind.wrap IntKind.u32 (q11 + cP q7 2 13 (bO q7 (-22))) + IntKind.wrap IntKind.u32 (↑(BitVec.toNat (BitVec.ofInt (IntKind.bits IntKind.u32) (IntKind.wrap IntKind.u32 (↑(BitVec.toNat (BitVec.ofInt (IntKind.bits IntKind.u32) q7 &&& BitVec.ofInt (IntKind.bits IntKind.u32) (el (Ty.int IntKind.u32) b3 1))) : Int)) ||| BitVec.ofInt (IntKind.bits IntKind.u32) (IntKind.wrap IntKind.u32 (↑(BitVec.toNat (BitVec.ofInt (IntKind.bits IntKind.u32) (el (Ty.int IntKind.u32) b3 2) &&& BitVec.ofInt (IntKind.bits IntKind.u32) (IntKind.wrap IntKind.u32 (↑(BitVec.toNat (BitVec.ofInt (IntKind.bits IntKind.u32) q7 ||| BitVec.ofInt (IntKind.bits IntKind.u32) (el (Ty.int IntKind.u32) b3 1))) : Int)))) : Int)))) : Int)))) 1 q7) 2 (el (Ty.int IntKind.u32) b3 1)) 3 (el (Ty.int IntKind.u32) b3 2)) 4 (IntKind.wrap IntKind.u32 (el (Ty.int IntKind.u32) b3 3 + q11))) 5 q8) 6 (el (Ty.int IntKind.u32) b3 5)) 7 (el (Ty.int IntKind.u32) b3 6)))])))))))))))))))))))))))) (ab.req (inB (IntKind.wrap IntKind.i64 (v16 - 15)) (↑64 : Int)) (ab.req (inB (IntKind.wrap IntKind.i64 (v16 - 2)) (↑64 : Int)) (ab.all (den (Ty.int IntKind.u32)) (fun (q6 : den (Ty.int IntKind.u32)) ↦ q6 = el (Ty.int IntKind.u32) b2 (IntKind.wrap IntKind.i64 (v16 - 15))) fun (q6 : den (Ty.int IntKind.u32)) ↦ ab.all (den (Ty.int IntKind.u32)) (fun (q7 : den (Ty.int IntKind.u32)) ↦ q7 = el (Ty.int IntKind.u32) b2 (IntKind.wrap IntKind.i64 (v16 - 2))) fun (q7 : den (Ty.int IntKind.u32)) ↦ ab.req (ge0 10) (ab.req True (ab.req (inB (IntKind.wrap IntKind.i64 (v16 - 7)) (↑64 : Int)) (ab.req (ge0 3) (ab.req True (ab.req (inB (IntKind.wrap IntKind.i64 (v16 - 16)) (↑64 : Int)) (ab.req (inB v16 (↑64 : Int)) (ab.all (den (Ty.int IntKind.u32)) (fun (q8 : den (Ty.int IntKind.u32)) ↦ q8 = cP q7 17 19 (Int.fdiv q7 (2 ^ min (Int.toNat 10) (IntKind.bits IntKind.u32)))) fun (q8 : den (Ty.int IntKind.u32)) ↦ ab.all (den (Ty.int IntKind.u32)) (fun (q9 : den (Ty.int IntKind.u32)) ↦ q9 = cP q6 7 18 (Int.fdiv q6 (2 ^ min (Int.toNat 3) (IntKind.bits IntKind.u32)))) fun (q9 : den (Ty.int IntKind.u32)) ↦ ab.req (inB 0 (↑8 : Int)) (ab.req (inB 4 (↑8 : Int)) (ab.all (den (Ty.int IntKind.u32)) (fun (q10 : den (Ty.int IntKind.u32)) ↦ q10 = el (Ty.int IntKind.u32) b3 0) fun (q10 : den (Ty.int IntKind.u32)) ↦ ab.all (den (Ty.int IntKind.u32)) (fun (q11 : den (Ty.int IntKind.u32)) ↦ q11 = el (Ty.int IntKind.u32) b3 4) fun (q11 : den (Ty.int IntKind.u32)) ↦ ab.req (inB 7 (↑8 : Int)) (ab.req True (ab.req True (ab.req (inB 6 (↑8 : Int)) (ab.req (inB 5 (↑8 : Int)) (ab.req (inB 6 (↑8 : Int)) (ab.req (inB v16 (↑64 : Int)) (ab.req (inB v16 (↑64 : Int)) (ab.all (den (Ty.int IntKind.u32)) (fun (q12 : den (Ty.int IntKind.u32)) ↦ q12 = bO q11 (-25)) fun (q12 : den (Ty.int IntKind.u32)) ↦ ab.all (den (Ty.int IntKind.u32)) (fun (q13 : den (Ty.int IntKind.u32)) ↦ q13 = cP q11 6 11 (bO q11 (-25))) fun (q13 : den (Ty.int IntKind.u32)) ↦ ab.all (den (Ty.int IntKind.u32)) (fun (q14 : den (Ty.int IntKind.u32)) ↦ q14 = IntKind.wrap IntKind.u32 (IntKind.wrap IntKind.u32 (IntKind.wrap IntKind.u32 (IntKind.wrap IntKind.u32 (el (Ty.int IntKind.u32) b3 7 + cP q11 6 11 (bO q11 (-25))) + IntKind.wrap IntKind.u32 (↑(BitVec.toNat (BitVec.ofInt (IntKind.bits IntKind.u32) (el (Ty.int IntKind.u32) b3 6) ^^^ BitVec.ofInt (IntKind.bits IntKind.u32) (IntKind.wrap IntKind.u32 (↑(BitVec.toNat (BitVec.ofInt (IntKind.bits IntKind.u32) q11 &&& BitVec.ofInt (IntKind.bits IntKind.u32) (IntKind.wrap IntKind.u32 (↑(BitVec.toNat (BitVec.ofInt (IntKind.bits IntKind.u32) (el (Ty.int IntKind.u32) b3 5) ^^^ BitVec.ofInt (IntKind.bits IntKind.u32) (el (Ty.int IntKind.u32) b3 6))) : Int)))) : Int)))) : Int)) + el (Ty.int IntKind.u32) ie v16) + el (Ty.int IntKind.u32) (bR (Ty.int IntKind.u32) b2 v16 (IntKind.wrap IntKind.u32 (IntKind.wrap IntKind.u32 (IntKind.wrap IntKind.u32 (cP q7 17 19 (Int.fdiv q7 (2 ^ min (Int.toNat 10) (IntKind.bits IntKind.u32))) + el (Ty.int IntKind.u32) b2 (IntKind.wrap IntKind.i64 (v16 - 7))) + cP q6 7 18 (Int.fdiv q6 (2 ^ min (Int.toNat 3) (IntKind.bits IntKind.u32)))) + el (Ty.int IntKind.u32) b2 (IntKind.wrap IntKind.i64 (v16 - 16))))) v16)) fun (q14 : den (Ty.int IntKind.u32)) ↦ ab.req (inB 1 (↑8 : Int)) (ab.req (inB 2 (↑8 : Int)) (ab.req (inB 1 (↑8 : Int)) (ab.req True (ab.req True (ab.req (inB 1 (↑8 : Int)) (ab.req (inB 2 (↑8 : Int)) (ab.req (inB 3 (↑8 : Int)) (ab.req (inB 5 (↑8 : Int)) (ab.req (inB 6 (↑8 : Int)) (ab.all (den (Ty.int IntKind.u32)) (fun (q15 : den (Ty.int IntKind.u32)) ↦ q15 = bO q10 (-22)) fun (q15 : den (Ty.int IntKind.u32)) ↦ ab.all (den (Ty.int IntKind.u32)) (fun (q16 : den (Ty.int IntKind.u32)) ↦ q16 = cP q10 2 13 (bO q10 (-22))) fun (q16 : den (Ty.int IntKind.u32)) ↦ ab.loop [] br (lp bn 4) [(1, K.val Ty.str v1), (2, K.ptr 0 ae []), (4, K.ptr (0 + 1) ae []), (5, K.ptr (0 + 1 + 1) (Ty.arr 64 (Ty.int IntKind.u32)) []), (6, K.ptr (0 + 1 + 1 + 1) ae []), (16, K.val af (IntKind.wrap IntKind.i64 (v16 + 1)))] [(0, Bx.cell ae b0), (0 + 1, Bx.cell ae b1), (0 + 1 + 1, Bx.cell (Ty.arr 64 (Ty.int IntKind.u32)) (bR (Ty.int IntKind.u32) b2 v16 (IntKind.wrap IntKind.u32 (IntKind.wrap IntKind.u32 (IntKind.wrap IntKind.u32 (cP q7 17 19 (Int.fdiv q7 (2 ^ min (Int.toNat 10) (IntKind.bits IntKind.u32))) + el (Ty.int IntKind.u32) b2 (IntKind.wrap IntKind.i64 (v16 - 7))) + cP q6 7 18 (Int.fdiv q6 (2 ^ min (Int.toNat 3) (IntKind.bits IntKind.u32)))) + el (Ty.int IntKind.u32) b2 (IntKind.wrap IntKind.i64 (v16 - 16)))))), (0 + 1 + 1 + 1, Bx.cell ae (List.set (List.set (List.set (List.set (List.set (List.set (List.set (List.set (List.replicate 8 (zero (Ty.int IntKind.u32))) 0 (IntKind.wrap IntKind.u32 (IntKind.wrap IntKind.u32 (q14 + cP q10 2 13 (bO q10 (-22))) + IntKind.wrap IntKind.u32 (↑(BitVec.toNat (BitVec.ofInt (IntKind.bits IntKind.u32) (IntKind.wrap IntKind.u32 (↑(BitVec.toNat (BitVec.ofInt (IntKind.bits IntKind.u32) q10 &&& BitVec.ofInt (IntKind.bits IntKind.u32) (el (Ty.int IntKind.u32) b3 1))) : Int)) ||| BitVec.ofInt (IntKind.bits IntKind.u32) (IntKind.wrap IntKind.u32 (↑(BitVec.toNat (BitVec.ofInt (IntKind.bits IntKind.u32) (el (Ty.int IntKind.u32) b3 2) &&& BitVec.ofInt (IntKind.bits IntKind.u32) (IntKind.wrap IntKind.u32 (↑(BitVec.toNat (BitVec.ofInt (IntKind.bits IntKind.u32) q10 ||| BitVec.ofInt (IntKind.bits IntKind.u32) (el (Ty.int IntKind.u32) b3 1))) : Int)))) : Int)))) : Int)))) 1 q10) 2 (el (Ty.int IntKind.u32) b3 1)) 3 (el (Ty.int IntKind.u32) b3 2)) 4 (IntKind.wrap IntKind.u32 (el (Ty.int IntKind.u32) b3 3 + q14))) 5 q11) 6 (el (Ty.int IntKind.u32) b3 5)) 7 (el (Ty.int IntKind.u32) b3 6)))]))))))))))))))))))))))))))))))) (ab.loop [] br (lp bn 16) [(2, K.ptr 0 ae []), (4, K.ptr (0 + 1) ae []), (6, K.ptr (0 + 1 + 1) ae []), (126, K.val af 0)] [(0, Bx.cell ae b0), (0 + 1, Bx.cell ae b1), (0 + 1 + 1, Bx.cell ae b3)])
theorem gw (v1 : den Ty.str) (v16 : den af) (b0 : den ae) (b1 : den ae) (b2 : den (Ty.arr 64 (Ty.int IntKind.u32))) (b3 : den ae) : al cW gr 5000 [] br (lp bn 4) (dJ v1 v16 b0 b1 b2 b3) = ph v1 v16 b0 b1 b2 b3 := by kernel_rfl
noncomputable def iB (v126 : den af) (b0 : den ae) (b1 : den ae) (b2 : den ae) : Env := Env.of [(2, K.ptr 0 ae []), (4, K.ptr (0 + 1) ae []), (6, K.ptr (0 + 1 + 1) ae []), (126, K.val af v126)] [(0, Bx.cell ae b0), (1, Bx.cell ae b1), (2, Bx.cell ae b2)]
noncomputable def nS (v126 : den af) (b0 : den ae) (b1 : den ae) (b2 : den ae) : ab := ab.ite (decide (v126 < 8)) (ab.req (inB v126 (↑8 : Int)) (ab.req (inB v126 (↑8 : Int)) (ab.req (inB v126 (↑8 : Int)) (ab.loop [] br (lp bn 16) [(2, K.ptr 0 ae []), (4, K.ptr (0 + 1) ae []), (6, K.ptr (0 + 1 + 1) ae []), (126, K.val af (IntKind.wrap IntKind.i64 (v126 + 1)))] [(0, Bx.cell ae (bR (Ty.int IntKind.u32) b0 v126 (IntKind.wrap IntKind.u32 (el (Ty.int IntKind.u32) b0 v126 + el (Ty.int IntKind.u32) b2 v126)))), (0 + 1, Bx.cell ae b1), (0 + 1 + 1, Bx.cell ae b2)])))) (ab.ret (K.val (Ty.pair ae Ty.unit) (b0, PUnit.unit)))
theorem fY (v126 : den af) (b0 : den ae) (b1 : den ae) (b2 : den ae) : al cW gr 5000 [] br (lp bn 16) (iB v126 b0 b1 b2) = nS v126 b0 b1 b2 := by kernel_rfl
end Go.Proofs.YtnakjijahkaoaaaDoor
namespace Go.Proofs.YtnakjijahkaoaaaDoor
open Go Go.RowKit
abbrev ao (l : List Int) (n : Int) : Int := el (.int .u32) l n
def kH (x : Int) (k : Int) : Int := Int.fdiv x (2 ^ min (Int.toNat k) (IntKind.bits .u32))
def F2 (k : Int) (wt : Int) (v : List Int) : Int :=
 cZ (cZ (cZ (cZ (ao v 7) (cP (ao v 4) 6 11 (bO (ao v 4) (-25)))) (dW (ao v 6) (gp (ao v 4) (dW (ao v 5) (ao v 6))))) k) wt
def Cp (v : List Int) : Int := lor (gp (ao v 0) (ao v 1)) (gp (ao v 2) (lor (ao v 0) (ao v 1)))
def ovV (k : Int) (wt : Int) (v : List Int) : List Int :=
 List.set (List.set (List.set (List.set (List.set (List.set (List.set (List.set (List.replicate 8 (zero (.int .u32))) 0
  (cZ (cZ (F2 k wt v) (cP (ao v 0) 2 13 (bO (ao v 0) (-22)))) (Cp v))) 1 (ao v 0)) 2 (ao v 1)) 3 (ao v 2)) 4 (cZ (ao v 3) (F2 k wt v))) 5 (ao v 4)) 6 (ao v 5)) 7 (ao v 6)
def ovB (s : ByteArray) (t : Int) : Int := nD (a6 s (IntKind.wrap .i64 (4 * t)) (IntKind.wrap .i64 (IntKind.wrap .i64 (4 * t) + 4)))
def ovN (w : List Int) (t : Int) : Int :=
 cZ (cZ (cZ (cP (ao w (IntKind.wrap .i64 (t - 2))) 17 19 (kH (ao w (IntKind.wrap .i64 (t - 2))) 10)) (ao w (IntKind.wrap .i64 (t - 7))))
  (cP (ao w (IntKind.wrap .i64 (t - 15))) 7 18 (kH (ao w (IntKind.wrap .i64 (t - 15))) 3))) (ao w (IntKind.wrap .i64 (t - 16)))
def ovW (s : ByteArray) (w : List Int) (t : Int) : List Int := if t < 16 then bR (.int .u32) w t (ovB s t) else bR (.int .u32) w t (ovN w t)
def ovS (s : ByteArray) (v : List Int) : Nat → List Int × List Int
 | 0 => (zero (.arr 64 (.int .u32)), v)
 | i + 1 =>
  let p := ovS s v i
  let w := ovW s p.1 i
  (w, ovV (ao ie i) (ao w i) p.2)
def ovA (h v : List Int) : Nat → List Int
 | 0 => h
 | i + 1 => bR (.int .u32) (ovA h v i) i (cZ (ao (ovA h v i) i) (ao v i))
def nM (h : List Int) (s : ByteArray) : List Int := ovA h (ovS s h 64).2 8
noncomputable abbrev eE : bh := ⟨jR, dV, fun x => (nM x.1 x.2.1, ()), fun x => ByteArray.size x.2.1 = 64, false⟩
def nT (O : Nat → Prop) (w0 : World) (h v1 v : List Int) (out : List Int) (ho : out = ovA h v 8) :=
 PLift.up <| bP (σ := List Int) 8 (fun i b => b = ovA h v i)
  (fun i b => bC prog cW (Cx.base O w0) (cN prog O w0 dV fun y => y = (out, ())) [] br (lp bn 16) (iB (i : Nat) b v1 v))
  (fun i b hi hb ih => aI (dw (bJ cV) (bJ gJ) (bJ eN)) (fY _ b v1 v) (by
   refine ⟨fun _ => ⟨⟨Int.natCast_nonneg _, Int.ofNat_lt.2 hi⟩, ⟨Int.natCast_nonneg _, Int.ofNat_lt.2 hi⟩, ⟨Int.natCast_nonneg _, Int.ofNat_lt.2 hi⟩, ?_⟩, fun h => ?_⟩
   ·rw [da hi (by omega)]
    refine ih _ ?_
    rw [hb]
    rfl
   ·exact absurd (Int.ofNat_lt.2 hi) (of_decide_eq_false h)))
  (fun b hb => aI (dw (bJ cV) (bJ gJ) (bJ eN)) (fY _ b v1 v) (by
   refine ⟨fun h => ?_, fun _ => ⟨_, rfl, ?_⟩⟩
   ·exact absurd (of_decide_eq_true h) (by decide)
   ·show (b, ()) = (out, ())
    rw [hb, ho]))
theorem Hi (s : ByteArray) (a b : Int) : (a6 s a b).size ≤ s.size := by
 unfold a6; rw [ByteArray.size_extract]; omega
theorem wr4 {i : Nat} (h : i < 16) : IntKind.wrap .i64 (4 * (i : Int)) = 4 * (i : Int) ∧ IntKind.wrap .i64 (IntKind.wrap .i64 (4 * (i : Int)) + 4) = 4 * (i : Int) + 4 := by
 have h1 : IntKind.wrap .i64 (4 * (i : Int)) = 4 * (i : Int) := bp (by omega)
 refine ⟨h1, ?_⟩
 rw [h1]
 exact bp (by omega)
theorem wrm {i : Nat} (k : Int) (h : i < 64) (h0 : 0 ≤ k) (h1 : k ≤ i) : inB (IntKind.wrap .i64 ((i : Int) - k)) ((64 : Nat) : Int) := by
 rw [bp (by omega)]
 exact ⟨by omega, by omega⟩
theorem dB {a b : Int} (h : decide (0 ≤ a ∧ a < b) = true := by rfl) : inB a b := (of_decide_eq_true h : 0 ≤ a ∧ a < b)
theorem d0 {a : Int} (h : decide (0 ≤ a) = true := by rfl) : ge0 a := (of_decide_eq_true h : 0 ≤ a)
def o5 (O : Nat → Prop) (w0 : World) (h b1 : List Int) (s : ByteArray) (hs : s.size = 64) :=
 PLift.up <| bP (σ := List Int × List Int) 64 (fun i b => b = ovS s h i)
  (fun i b => bC prog cW (Cx.base O w0) (cN prog O w0 dV fun y => y = (nM h s, ())) [] br (lp bn 4) (dJ s (i : Nat) h b1 b.1 b.2))
  (fun i b hi hb ih => aI (dw (bJ cV) (bJ gJ) (bJ eN)) (gw s _ h b1 b.1 b.2) (by
   have hB : inB (i : Int) ((64 : Nat) : Int) := ⟨Int.natCast_nonneg _, Int.ofNat_lt.2 hi⟩
   refine ⟨fun _ => ⟨fun hl => ?_, fun hl => ?_⟩, fun h => ?_⟩
   ·have hl : i < 16 := Int.ofNat_lt.1 (of_decide_eq_true hl)
    refine ⟨?_, Nat.le_trans (Hi _ _ _) (by rw [hs]; decide), aM ⟨hB, dB, dB, aM <| aM ⟨dB, trivial, trivial, dB, dB, dB, hB, hB, aM <| aM <| aM ⟨dB, dB, dB, trivial, trivial, dB, dB, dB, dB, dB, aM <| aM ?_⟩⟩⟩⟩
    ·rw [(wr4 hl).2, (wr4 hl).1]
     refine ⟨by omega, by omega, ?_⟩
     show 4 * (i : Int) + 4 ≤ (s.size : Int)
     rw [hs]; omega
    ·have hw : IntKind.wrap .i64 ((i : Int) + 1) = ((i + 1 : Nat) : Int) := da hi (by omega)
     show bC _ _ _ _ _ _ _ (dJ s (IntKind.wrap .i64 ((i : Int) + 1)) h b1 _ _)
     rw [hw]
     refine ih (_, _) ?_
     rw [hb]
     have hlI : (i : Int) < 16 := Int.ofNat_lt.2 hl
     show _ = (ovW s (ovS s h i).1 i, ovV (ao ie i) (ao (ovW s (ovS s h i).1 i) i) (ovS s h i).2)
     unfold ovW
     rw [if_pos hlI]
     rfl
   ·have hl : ¬ i < 16 := fun h => of_decide_eq_false hl (Int.ofNat_lt.2 h)
    refine ⟨wrm 15 hi (by decide) (by omega), wrm 2 hi (by decide) (by omega), aM <| aM ⟨d0, trivial, wrm 7 hi (by decide) (by omega), d0, trivial, wrm 16 hi (by decide) (by omega), hB, aM <| aM ⟨dB, dB, aM <| aM ⟨dB, trivial, trivial, dB, dB, dB, hB, hB, aM <| aM <| aM ⟨dB, dB, dB, trivial, trivial, dB, dB, dB, dB, dB, aM <| aM ?_⟩⟩⟩⟩⟩
    have hw : IntKind.wrap .i64 ((i : Int) + 1) = ((i + 1 : Nat) : Int) := da hi (by omega)
    show bC _ _ _ _ _ _ _ (dJ s (IntKind.wrap .i64 ((i : Int) + 1)) h b1 _ _)
    rw [hw]
    refine ih (_, _) ?_
    rw [hb]
    have hlI : ¬ (i : Int) < 16 := fun h => hl (Int.ofNat_lt.1 h)
    show _ = (ovW s (ovS s h i).1 i, ovV (ao ie i) (ao (ovW s (ovS s h i).1 i) i) (ovS s h i).2)
    unfold ovW
    rw [if_neg hlI]
    rfl
   ·exact absurd (Int.ofNat_lt.2 hi) (of_decide_eq_false h)))
  (fun b hb => aI (dw (bJ cV) (bJ gJ) (bJ eN)) (gw s _ h b1 b.1 b.2) (by
   refine ⟨fun h => ?_, fun _ => ?_⟩
   ·exact absurd (of_decide_eq_true h) (by decide)
   ·exact (nT O w0 h b1 b.2 _ (by rw [hb]; rfl)).down 0 h (Nat.zero_le _) rfl))
theorem rV : au prog gl eI eE :=
 bw (S := eE) (dw (bJ cV) (bJ gJ) (bJ eN)) (fx := br) qF (by kernel_rfl) (fun h => by cases h) (T := fun x => jX x.1 x.2.1) (fun x => oU x.1 x.2.1) fun O w0 x _ hp =>
  (o5 O w0 x.1 _ x.2.1 hp).down 0 (_, _) (Nat.zero_le _) rfl
end Go.Proofs.YtnakjijahkaoaaaDoor
namespace Go.Proofs
open Go.Shelf
def Tryd.lays156_ren : Go.Shelf.Ren := ⟨fun | 156 => 47 | 165 => 64 | 166 => 65 | 169 => 66 | 240 => 78 | 241 => 79 | 276 => 85 | 277 => 86 | n => n, fun | 31 => 79 | 9 => 9 | 3 => 3 | 4 => 4 | 0 => 0 | 20 => 20 | 72 => 116 | 76 => 120 | 70 => 114 | 37 => 64 | 75 => 119 | 127 => 132 | 164 => 138 | 5 => 5 | 80 => 122 | n => n, fun | n => n⟩
theorem Tryd.lays156 : Go.Proofs.Lays.n156 Tryd.prog Tryd.lays156_ren := {
 mixed := by kernel_rfl
 f156 := Tryd.func47.trans (congrArg some (by kernel_rfl))
 f165 := Tryd.func64.trans (congrArg some (by kernel_rfl))
 f166 := Tryd.func65.trans (congrArg some (by kernel_rfl))
 f169 := Tryd.func66.trans (congrArg some (by kernel_rfl))
 f240 := Tryd.func78.trans (congrArg some (by kernel_rfl))
 f241 := Tryd.func79.trans (congrArg some (by kernel_rfl))
 f276 := Tryd.func85.trans (congrArg some (by kernel_rfl))
 f277 := Tryd.func86.trans (congrArg some (by kernel_rfl))
 t0 := Tryd.underlying0
 a0 := Tryd.isAgg0
 z0 := Tryd.sizeOf0
 v0 := Tryd.zeroValue0
 t3 := Tryd.underlying3
 a3 := Tryd.isAgg3
 z3 := Tryd.sizeOf3
 v3 := Tryd.zeroValue3
 t4 := Tryd.underlying4
 a4 := Tryd.isAgg4
 z4 := Tryd.sizeOf4
 v4 := Tryd.zeroValue4
 t9 := Tryd.underlying9
 a9 := Tryd.isAgg9
 z9 := Tryd.sizeOf9
 v9 := Tryd.zeroValue9
 t20 := Tryd.underlying20
 a20 := Tryd.isAgg20
 z20 := Tryd.sizeOf20
 v20 := Tryd.zeroValue20
 t31 := Tryd.underlying79
 a31 := Tryd.isAgg79
 z31 := Tryd.sizeOf79
 v31 := Tryd.zeroValue79
 t37 := Tryd.underlying64
 a37 := Tryd.isAgg64
 z37 := Tryd.sizeOf64
 v37 := Tryd.zeroValue64
 t70 := Tryd.underlying114
 a70 := Tryd.isAgg114
 z70 := Tryd.sizeOf114
 v70 := Tryd.zeroValue114
 t72 := Tryd.underlying116
 a72 := Tryd.isAgg116
 z72 := Tryd.sizeOf116
 v72 := Tryd.zeroValue116
 t75 := Tryd.underlying119
 a75 := Tryd.isAgg119
 z75 := Tryd.sizeOf119
 v75 := Tryd.zeroValue119
 t76 := Tryd.underlying120
 a76 := Tryd.isAgg120
 z76 := Tryd.sizeOf120
 v76 := Tryd.zeroValue120
 t127 := Tryd.underlying132
 a127 := Tryd.isAgg132
 z127 := Tryd.sizeOf132
 v127 := Tryd.zeroValue132
 t164 := Tryd.underlying138
 a164 := Tryd.isAgg138
 z164 := Tryd.sizeOf138
 v164 := Tryd.zeroValue138 }
theorem Tryd.Builder_Extra_156 : Builder.Extra Tryd.prog Tryd.lays156_ren := {
 sizeBuilder := by kernel_rfl
 liesBuilder := by kernel_rfl
 t5 := Tryd.underlying5
 a5 := Tryd.isAgg5
 z5 := Tryd.sizeOf5
 v5 := Tryd.zeroValue5
 infoByte := by kernel_rfl
 cellsByte := by kernel_rfl
 sizeByte := by kernel_rfl
 neB5 := by decide }
open Go.RowKit in
theorem Tryd.strings_Join_none (a : Option Addr) (c : Nat) (sep : ByteArray) (w : World) :
    Calls Tryd.prog 47 #[.slice a 0 c, .string sep] w fun e w' => e = .returned (.string ⟨#[]⟩) ∧ w' = w := Any.strings_Join_none Tryd.lays156 Tryd.Builder_Extra_156 a c sep w
open Go.RowKit in
theorem Tryd.strings_Join (bk o c : Nat) (xs : List ByteArray) (sep : ByteArray) (w : World) (hcells : ∀ (j : Nat) x, xs[j]? = some x → w.cell? ⟨bk, o + j, none⟩ = some (.string x)) (hbk : bk < w.heap.size) (hN : xs.length ≤ 140737488355328) (hcap : xs.length ≤ c) (hlen : (Lib.join (xs.map (·.data.toList)) sep.data.toList).length ≤ 140737488355328) :
    Calls Tryd.prog 47 #[.slice (some ⟨bk, o, none⟩) xs.length c, .string sep] w fun e w' => e = .returned (.string ⟨(Lib.join (xs.map (·.data.toList)) sep.data.toList).toArray⟩) ∧ Below w.heap.size w w' := Any.strings_Join Tryd.lays156 Tryd.Builder_Extra_156 bk o c xs sep w hcells hbk hN hcap hlen
def Tryd.lays105_ren : Go.Shelf.Ren := ⟨fun | 105 => 62 | 212 => 75 | 99 => 76 | 165 => 64 | 166 => 65 | 170 => 77 | 169 => 66 | 263 => 82 | 264 => 83 | 206 => 84 | 240 => 78 | 241 => 79 | 276 => 85 | 277 => 86 | n => n, fun | 9 => 9 | 3 => 3 | 4 => 4 | 20 => 20 | 0 => 0 | 46 => 111 | 109 => 128 | 5 => 5 | 72 => 116 | 76 => 120 | 51 => 86 | 146 => 134 | 53 => 110 | 148 => 136 | 70 => 114 | 37 => 64 | 75 => 119 | 127 => 132 | 164 => 138 | 80 => 122 | n => n, fun | n => n⟩
theorem Tryd.lays105 : Go.Proofs.Lays.n105 Tryd.prog Tryd.lays105_ren := {
 mixed := by kernel_rfl
 f99 := Tryd.func76.trans (congrArg some (by kernel_rfl))
 f105 := Tryd.func62.trans (congrArg some (by kernel_rfl))
 f165 := Tryd.func64.trans (congrArg some (by kernel_rfl))
 f166 := Tryd.func65.trans (congrArg some (by kernel_rfl))
 f169 := Tryd.func66.trans (congrArg some (by kernel_rfl))
 f170 := Tryd.func77.trans (congrArg some (by kernel_rfl))
 f206 := Tryd.func84.trans (congrArg some (by kernel_rfl))
 f212 := Tryd.func75.trans (congrArg some (by kernel_rfl))
 f240 := Tryd.func78.trans (congrArg some (by kernel_rfl))
 f241 := Tryd.func79.trans (congrArg some (by kernel_rfl))
 f263 := Tryd.func82.trans (congrArg some (by kernel_rfl))
 f264 := Tryd.func83.trans (congrArg some (by kernel_rfl))
 f276 := Tryd.func85.trans (congrArg some (by kernel_rfl))
 f277 := Tryd.func86.trans (congrArg some (by kernel_rfl))
 t0 := Tryd.underlying0
 a0 := Tryd.isAgg0
 z0 := Tryd.sizeOf0
 v0 := Tryd.zeroValue0
 t3 := Tryd.underlying3
 a3 := Tryd.isAgg3
 z3 := Tryd.sizeOf3
 v3 := Tryd.zeroValue3
 t4 := Tryd.underlying4
 a4 := Tryd.isAgg4
 z4 := Tryd.sizeOf4
 v4 := Tryd.zeroValue4
 t5 := Tryd.underlying5
 a5 := Tryd.isAgg5
 z5 := Tryd.sizeOf5
 v5 := Tryd.zeroValue5
 t9 := Tryd.underlying9
 a9 := Tryd.isAgg9
 z9 := Tryd.sizeOf9
 v9 := Tryd.zeroValue9
 t20 := Tryd.underlying20
 a20 := Tryd.isAgg20
 z20 := Tryd.sizeOf20
 v20 := Tryd.zeroValue20
 t37 := Tryd.underlying64
 a37 := Tryd.isAgg64
 z37 := Tryd.sizeOf64
 v37 := Tryd.zeroValue64
 t46 := Tryd.underlying111
 a46 := Tryd.isAgg111
 z46 := Tryd.sizeOf111
 v46 := Tryd.zeroValue111
 t51 := Tryd.underlying86
 a51 := Tryd.isAgg86
 z51 := Tryd.sizeOf86
 v51 := Tryd.zeroValue86
 t53 := Tryd.underlying110
 a53 := Tryd.isAgg110
 z53 := Tryd.sizeOf110
 v53 := Tryd.zeroValue110
 t70 := Tryd.underlying114
 a70 := Tryd.isAgg114
 z70 := Tryd.sizeOf114
 v70 := Tryd.zeroValue114
 t72 := Tryd.underlying116
 a72 := Tryd.isAgg116
 z72 := Tryd.sizeOf116
 v72 := Tryd.zeroValue116
 t75 := Tryd.underlying119
 a75 := Tryd.isAgg119
 z75 := Tryd.sizeOf119
 v75 := Tryd.zeroValue119
 t76 := Tryd.underlying120
 a76 := Tryd.isAgg120
 z76 := Tryd.sizeOf120
 v76 := Tryd.zeroValue120
 t109 := Tryd.underlying128
 a109 := Tryd.isAgg128
 z109 := Tryd.sizeOf128
 v109 := Tryd.zeroValue128
 t127 := Tryd.underlying132
 a127 := Tryd.isAgg132
 z127 := Tryd.sizeOf132
 v127 := Tryd.zeroValue132
 t146 := Tryd.underlying134
 a146 := Tryd.isAgg134
 z146 := Tryd.sizeOf134
 v146 := Tryd.zeroValue134
 t148 := Tryd.underlying136
 a148 := Tryd.isAgg136
 z148 := Tryd.sizeOf136
 v148 := Tryd.zeroValue136
 t164 := Tryd.underlying138
 a164 := Tryd.isAgg138
 z164 := Tryd.sizeOf138
 v164 := Tryd.zeroValue138 }
theorem Tryd.Builder_Extra_105 : Builder.Extra Tryd.prog Tryd.lays105_ren := {
 sizeBuilder := by kernel_rfl
 liesBuilder := by kernel_rfl
 t5 := Tryd.underlying5
 a5 := Tryd.isAgg5
 z5 := Tryd.sizeOf5
 v5 := Tryd.zeroValue5
 infoByte := by kernel_rfl
 cellsByte := by kernel_rfl
 sizeByte := by kernel_rfl
 neB5 := by decide }
open Go.RowKit Go.Lib in
theorem Tryd.strings_Repeat (s : ByteArray) (c : Nat) (w : World) (hc : c ≤ 9223372036854775807) (hlen : s.size * c ≤ 140737488355328) :
    Calls Tryd.prog 62 #[.string s, .int .i64 c] w fun e w' => e = .returned (.string ⟨(Lib.repeatL s.data.toList c).toArray⟩) ∧ Below w.heap.size w w' := Any.strings_Repeat Tryd.lays105 Tryd.Builder_Extra_105 s c w hc hlen
end Go.Proofs
namespace Go.Proofs.YtnakjijahkaoaaaDoor
open Go Go.RowKit
def bL (xs : List ByteArray) (sep : ByteArray) : ByteArray := ⟨(Lib.join (xs.map (·.data.toList)) sep.data.toList).toArray⟩
def jP (s : ByteArray) (c : Int) : ByteArray := ⟨(Lib.repeatL s.data.toList c.toNat).toArray⟩
theorem wS {w w' : World} (h : Below w.heap.size w w') : Kept w w' := ⟨h.os, h.tape, h.output, h.size, h.block⟩
theorem t8 (l : List UInt8) : ByteArray.size ⟨l.toArray⟩ = l.length := by
 show l.toArray.size = l.length
 exact List.size_toArray ..
theorem yl {P : Program} {O : Nat → Prop} {w : World} : ∀ {xs : List ByteArray} {L : List Value}, ah (fun cs x => Rep P .str .cells O w cs x) 1 L xs → ∀ (j : Nat) x, xs[j]? = some x → L[j]? = some (.string x)
 | [], _, _, j, x, hx => by simp at hx
 | y :: ys, L, h, j, x, hx => by
  cases L with
  | nil => obtain ⟨⟨h1, _⟩, _⟩ := h; simp at h1
  | cons u us =>
   obtain ⟨⟨h1, _⟩, h2⟩ := h
   cases j with
   | zero =>
    simp at hx h1
    simp [← hx, h1]
   | succ j =>
    simp at hx h2
    simpa using yl h2 j x hx
noncomputable abbrev fG : bh := ⟨yf, wW, fun x => (bL x.1 x.2.1, ()), fun x => List.length x.1 ≤ 1000000 ∧ ByteArray.size (bL x.1 x.2.1) ≤ 1000000, false⟩
theorem zy : au prog [] ia fG := by
 refine ⟨iE wY (by kernel_rfl) (by kernel_rfl), (fun h => by cases h), fun O w vs x hO _ hx hp => ?_⟩
 obtain ⟨xs, sep, ⟨⟩⟩ := x
 obtain ⟨rest, cs, rfl, ⟨a, c, L, rfl, h2, h3, h4, h5, h6, h7⟩, rest', cs', rfl, ⟨rfl, hs⟩, hn⟩ := hx
 have hn : rest' = [] := hn
 subst hn
 have hp1 : xs.length ≤ 1000000 := hp.1
 have hp2 : (Lib.join (xs.map (·.data.toList)) sep.data.toList).length ≤ 1000000 := by
  have := hp.2
  unfold bL at this
  rwa [t8] at this
 have fin : ∀ e w', e = .returned (.string (bL xs sep)) → Kept w w' → ∃ v, e = Ending.returned v ∧ Kept w w' ∧ Rep prog fG.rs .result O w' [v] (fG.g (xs, sep, ())) := by
  intro e w' he hk
  refine ⟨_, he, hk, ?_⟩
  refine ⟨[], [.string (bL xs sep)], rfl, ⟨rfl, ?_⟩, rfl⟩
  show (bL xs sep).size ≤ maxLen
  unfold bL
  rw [t8]
  exact Nat.le_trans hp2 (by decide)
 cases hx0 : xs with
 | nil =>
  subst hx0
  refine Calls.mono (Tryd.strings_Join_none a c sep w) fun e w' he => ?_
  exact fin e w' he.1 (by rw [he.2]; exact Kept.refl w)
 | cons x0 xr =>
  rw [← hx0]
  obtain ⟨ad, ha, hO', hb, hc⟩ := h6 (by rw [hx0]; exact List.cons_ne_nil _ _)
  subst ha
  obtain ⟨bk, o, sp⟩ := ad
  have hat : ∀ (j : Nat) x, xs[j]? = some x → w.cell? ((⟨bk, o, sp⟩ : Addr).add j) = some (.string x) := fun j x hx => hc j _ (yl h5 j x hx)
  have hsp : sp = none := by
   have h0 := hat 0 x0 (by rw [hx0]; rfl)
   have e : (⟨bk, o, sp⟩ : Addr).add 0 = ⟨bk, o, sp⟩ := rfl
   rw [e] at h0
   unfold World.cell? at h0
   cases sp with
   | none => rfl
   | some q =>
    exfalso
    simp only [Option.isSome_some, if_true] at h0
    split at h0 <;> cases h0
  subst hsp
  have hcells : ∀ (j : Nat) x, xs[j]? = some x → w.cell? ⟨bk, o + j, none⟩ = some (.string x) := fun j x hx => by
   have h := hat j x hx
   unfold Addr.add at h
   split at h
   ·next hj => subst hj; exact h
   ·exact h
  exact Calls.mono (Tryd.strings_Join bk o c xs sep w hcells hb (by omega) h2 (Nat.le_trans hp2 (by decide))) fun e w' he => fin e w' he.1 (wS he.2)
noncomputable abbrev i9 : bh := ⟨uK, uE, fun x => (jP x.1 x.2.1, ()), fun x => (0 : Int) ≤ x.2.1 ∧ (x.2.1 : Int) ≤ 1000000 ∧ ByteArray.size x.1 = 1, false⟩
theorem wu : au prog [] fJ i9 := by
 refine ⟨iE uG (by kernel_rfl) (by kernel_rfl), (fun h => by cases h), fun O w vs x hO _ hx hp => ?_⟩
 obtain ⟨s, c, ⟨⟩⟩ := x
 obtain ⟨rest, cs, rfl, ⟨rfl, hs⟩, rest', cs', rfl, ⟨rfl, hc⟩, hn⟩ := hx
 have hn : rest' = [] := hn
 subst hn
 have h0 : (0 : Int) ≤ c := hp.1
 have h1 : (c : Int) ≤ 1000000 := hp.2.1
 have hs1 : s.size = 1 := hp.2.2
 obtain ⟨n, hn⟩ : ∃ n : Nat, (n : Int) = c := ⟨Int.toNat c, Int.toNat_of_nonneg h0⟩
 subst hn
 have hlt : n ≤ 1000000 := Int.ofNat_le.1 h1
 refine Calls.mono (Tryd.strings_Repeat s n w (Nat.le_trans hlt (by decide)) (by rw [hs1, Nat.one_mul]; exact Nat.le_trans hlt (by decide))) fun e w' he => ?_
 refine ⟨_, he.1, wS he.2, ?_⟩
 have e : jP s (n : Int) = ⟨(Lib.repeatL s.data.toList n).toArray⟩ := rfl
 refine ⟨[], [.string (jP s n)], rfl, ⟨rfl, ?_⟩, rfl⟩
 show (jP s (n : Int)).size ≤ maxLen
 rw [e, t8, Lib.repeatL_length]
 have : s.data.toList.length = 1 := hs1
 rw [this, Nat.mul_one]
 exact Nat.le_trans hlt (by decide)
end Go.Proofs.YtnakjijahkaoaaaDoor
namespace Go.Proofs.YtnakjijahkaoaaaDoor
open Go Go.RowKit
noncomputable abbrev eB : Fx := { fn := dI, ann := { loops := [(5, { keep := [1, 3, 19] })], frz := [(1000005, [2, 3])] } }
noncomputable abbrev dD : Fx := { fn := dn, ann := { loops := [(0, { keep := [0, 1] })], frz := [(1000000, [2, 3])] } }
noncomputable abbrev bN : Fx := { fn := aU, ann := { loops := [(7, { keep := [2, 3, 5, 15] })] } }
noncomputable abbrev dk : aZ := { D := { T := bc, F := [(gy, gC), (eI, eE), (ia, fG), (fJ, i9)], R := [], ovl := [], G := gl }, inl := [(oE, eB), (lU, dD)] }
noncomputable abbrev jK : bm := .data f8
theorem B8 (h_digest_begins : au prog gl gy gC) (h_digest_words_over : au prog gl eI eE) (h_strings_Join : au prog gl ia fG) (h_strings_Repeat : au prog gl fJ i9) : XOk prog dk := xok (aB (aB (aB (aB (aO aT aE) h_strings_Repeat) h_strings_Join) h_digest_words_over) h_digest_begins) (by kernel_rfl) aG (mF we (by kernel_rfl) (mF tC (by kernel_rfl) aQ)) aR
noncomputable def tF (l : den (Ty.slc Ty.str)) : ab := ab.req True (ab.req (List.length l ≤ 1000000 ∧ ByteArray.size (bL l { data := { toList := [] } }) ≤ 1000000) (ab.req (ge0 3) (ab.req (ByteArray.size (bL l { data := { toList := [] } }) + ByteArray.size { data := { toList := [128] } } ≤ 1099511627776) (ab.req (nz 64) (ab.req (nz 64) (ab.req (0 ≤ Int.tmod (IntKind.wrap IntKind.i64 (120 - Int.tmod (ax (bL l { data := { toList := [] } } ++ { data := { toList := [128] } })) 64)) 64 ∧ Int.tmod (IntKind.wrap IntKind.i64 (120 - Int.tmod (ax (bL l { data := { toList := [] } } ++ { data := { toList := [128] } })) 64)) 64 ≤ 1000000 ∧ ByteArray.size { data := { toList := [0] } } = 1) (ab.req (ByteArray.size (bL l { data := { toList := [] } } ++ { data := { toList := [128] } }) + ByteArray.size (jP { data := { toList := [0] } } (Int.tmod (IntKind.wrap IntKind.i64 (120 - Int.tmod (ax (bL l { data := { toList := [] } } ++ { data := { toList := [128] } })) 64)) 64)) ≤ 1099511627776) (ab.loop [{ fx := bN, todo := io aU 2 2, dst := some 10, s := ofS [(2, K.ptr (0 + 1) tId []), (3, K.ptr (0 + 1 + 1) ae [])] }] eB (lp dI 5) [(1, K.ptr 0 Ty.str []), (3, K.val (Ty.int IntKind.u64) (IntKind.wrap IntKind.u64 (IntKind.wrap IntKind.u64 (ax (bL l { data := { toList := [] } })) * 2 ^ min (Int.toNat 3) (IntKind.bits IntKind.u64)))), (19, K.val af 0)] [(0, Bx.cell Ty.str (bL l { data := { toList := [] } } ++ { data := { toList := [128] } } ++ jP { data := { toList := [0] } } (Int.tmod (IntKind.wrap IntKind.i64 (120 - Int.tmod (ax (bL l { data := { toList := [] } } ++ { data := { toList := [128] } })) 64)) 64))), (0 + 1, Bx.cell tId (zero tId)), (0 + 1 + 1, Bx.cell ae dO)]))))))))
theorem xc (l : den (Ty.slc Ty.str)) : al dk jK 5000 [] bN (aA aU) (Env.of (aN rt (l, ()) 0) []) = tF l := by kernel_rfl
noncomputable def fD (v3 : den (Ty.int IntKind.u64)) (v19 : den af) (b0 : den Ty.str) (b1 : den tId) (b2 : den ae) : List bS := [{ fx := bN, todo := io aU 2 2, dst := some 10, s := ofS [(2, K.ptr (0 + 1) tId []), (3, K.ptr (0 + 1 + 1) ae [])] }]
noncomputable def fv (v3 : den (Ty.int IntKind.u64)) (v19 : den af) (b0 : den Ty.str) (b1 : den tId) (b2 : den ae) : Env := Env.of [(1, K.ptr 0 Ty.str []), (3, K.val (Ty.int IntKind.u64) v3), (19, K.val af v19)] [(0, Bx.cell Ty.str b0), (1, Bx.cell tId b1), (2, Bx.cell ae b2)]
noncomputable def jV (v3 : den (Ty.int IntKind.u64)) (v19 : den af) (b0 : den Ty.str) (b1 : den tId) (b2 : den ae) : ab := ab.ite (decide (v19 < 8)) (ab.req (ge0 (IntKind.wrap IntKind.i64 (8 * IntKind.wrap IntKind.i64 (7 - v19)))) (ab.req (ByteArray.size b0 + ByteArray.size (aj (List.set (List.replicate 1 (zero (Ty.int IntKind.u8))) 0 (IntKind.wrap IntKind.u8 (Int.fdiv v3 (2 ^ min (Int.toNat (IntKind.wrap IntKind.i64 (8 * IntKind.wrap IntKind.i64 (7 - v19)))) (IntKind.bits IntKind.u64)))))) ≤ 1099511627776) (ab.loop [{ fx := bN, todo := io aU 2 2, dst := some 10, s := ofS [(2, K.ptr (0 + 1) tId []), (3, K.ptr (0 + 1 + 1) ae [])] }] eB (lp dI 5) [(1, K.ptr 0 Ty.str []), (3, K.val (Ty.int IntKind.u64) v3), (19, K.val af (IntKind.wrap IntKind.i64 (v19 + 1)))] [(0, Bx.cell Ty.str (b0 ++ aj (List.set (List.replicate 1 (zero (Ty.int IntKind.u8))) 0 (IntKind.wrap IntKind.u8 (Int.fdiv v3 (2 ^ min (Int.toNat (IntKind.wrap IntKind.i64 (8 * IntKind.wrap IntKind.i64 (7 - v19)))) (IntKind.bits IntKind.u64))))))), (0 + 1, Bx.cell tId b1), (0 + 1 + 1, Bx.cell ae b2)]))) (ab.loop [{ fx := bN, todo := qA aU 4, dst := none, s := ofS [(2, K.ptr (0 + 1 + 1) tId []), (3, K.ptr (0 + 1 + 1 + 1) ae [])], rng := some 0 }] dD (lp dn 0) [(0, K.yld 0), (1, K.ptr (0 + 1) Ty.str [])] [(0, Bx.lop LoopState.ready none [(3, K.ptr (0 + 1 + 1 + 1) ae [])] 32 (Ij aU 4) (wL aU 4) (CS aU 4)), (0 + 1, Bx.cell Ty.str b0), (0 + 1 + 1, Bx.cell tId b1), (0 + 1 + 1 + 1, Bx.cell ae b2)])
theorem d6 (v3 : den (Ty.int IntKind.u64)) (v19 : den af) (b0 : den Ty.str) (b1 : den tId) (b2 : den ae) : al dk jK 5000 (fD v3 v19 b0 b1 b2) eB (lp dI 5) (fv v3 v19 b0 b1 b2) = jV v3 v19 b0 b1 b2 := by kernel_rfl
noncomputable def eP (b1 : den Ty.str) (b2 : den tId) (b3 : den ae) : List bS := [{ fx := bN, todo := qA aU 4, dst := none, s := ofS [(2, K.ptr (0 + 1 + 1) tId []), (3, K.ptr (0 + 1 + 1 + 1) ae [])], rng := some 0 }]
noncomputable def eQ (b1 : den Ty.str) (b2 : den tId) (b3 : den ae) : Env := Env.of [(0, K.yld 0), (1, K.ptr (0 + 1) Ty.str [])] [(0, Bx.lop LoopState.ready none [(3, K.ptr (0 + 1 + 1 + 1) ae [])] 32 (Ij aU 4) (wL aU 4) (CS aU 4)), (1, Bx.cell Ty.str b1), (2, Bx.cell tId b2), (3, Bx.cell ae b3)]
noncomputable def jr (b1 : den Ty.str) (b2 : den tId) (b3 : den ae) : ab := ab.ite (!eqb Ty.str b1 { data := { toList := [] } }) (ab.req (bv 0 64 (ax b1)) (ab.req (ByteArray.size (a6 b1 0 64) = 64) (ab.ite (!true) (ab.loop [] bN (lp aU 7) [(2, K.ptr 0 tId []), (3, K.ptr (0 + 1) ae []), (5, K.ptr (0 + 1 + 1) tId []), (15, K.val af 0)] [(0, Bx.cell tId b2), (0 + 1, Bx.cell ae (nM b3 (a6 b1 0 64))), (0 + 1 + 1, Bx.cell tId (zero tId))]) (ab.req (bv 64 (ax b1) (ax b1)) (ab.loop [{ fx := bN, todo := qA aU 4, dst := none, s := ofS [(2, K.ptr (0 + 1 + 1) tId []), (3, K.ptr (0 + 1 + 1 + 1) ae [])], rng := some 0 }] dD (lp dn 0) [(0, K.yld 0), (1, K.ptr (0 + 1) Ty.str [])] [(0, Bx.lop LoopState.ready none [(3, K.ptr (0 + 1 + 1 + 1) ae [])] 32 (Ij aU 4) (wL aU 4) (CS aU 4)), (0 + 1, Bx.cell Ty.str (a6 b1 64 (ax b1))), (0 + 1 + 1, Bx.cell tId b2), (0 + 1 + 1 + 1, Bx.cell ae (nM b3 (a6 b1 0 64)))]))))) (ab.loop [] bN (lp aU 7) [(2, K.ptr 0 tId []), (3, K.ptr (0 + 1) ae []), (5, K.ptr (0 + 1 + 1) tId []), (15, K.val af 0)] [(0, Bx.cell tId b2), (0 + 1, Bx.cell ae b3), (0 + 1 + 1, Bx.cell tId (zero tId))])
theorem dS (b1 : den Ty.str) (b2 : den tId) (b3 : den ae) : al dk jK 5000 (eP b1 b2 b3) dD (lp dn 0) (eQ b1 b2 b3) = jr b1 b2 b3 := by kernel_rfl
noncomputable def pu (v15 : den af) (b0 : den tId) (b1 : den ae) (b2 : den tId) : Env := Env.of [(2, K.ptr 0 tId []), (3, K.ptr (0 + 1) ae []), (5, K.ptr (0 + 1 + 1) tId []), (15, K.val af v15)] [(0, Bx.cell tId b0), (1, Bx.cell ae b1), (2, Bx.cell tId b2)]
noncomputable def yb (v15 : den af) (b0 : den tId) (b1 : den ae) (b2 : den tId) : ab := ab.ite (decide (v15 < 32)) (ab.req (nz 4) (ab.req (inB (IntKind.wrap IntKind.i64 (Int.tdiv v15 4)) (↑8 : Int)) (ab.req (nz 4) (ab.req (ge0 (IntKind.wrap IntKind.i64 (24 - IntKind.wrap IntKind.i64 (8 * Int.tmod v15 4)))) (ab.req (inB v15 (↑32 : Int)) (ab.loop [] bN (lp aU 7) [(2, K.ptr 0 tId []), (3, K.ptr (0 + 1) ae []), (5, K.ptr (0 + 1 + 1) tId []), (15, K.val af (IntKind.wrap IntKind.i64 (v15 + 1)))] [(0, Bx.cell tId b0), (0 + 1, Bx.cell ae b1), (0 + 1 + 1, Bx.cell tId (bR (Ty.int IntKind.u8) b2 v15 (IntKind.wrap IntKind.u8 (Int.fdiv (el (Ty.int IntKind.u32) b1 (IntKind.wrap IntKind.i64 (Int.tdiv v15 4))) (2 ^ min (Int.toNat (IntKind.wrap IntKind.i64 (24 - IntKind.wrap IntKind.i64 (8 * Int.tmod v15 4)))) (IntKind.bits IntKind.u32))))))])))))) (ab.ret (K.val (Ty.pair tId Ty.unit) (b2, PUnit.unit)))
theorem lm (v15 : den af) (b0 : den tId) (b1 : den ae) (b2 : den tId) : al dk jK 5000 [] bN (lp aU 7) (pu v15 b0 b1 b2) = yb v15 b0 b1 b2 := by kernel_rfl
end Go.Proofs.YtnakjijahkaoaaaDoor
namespace Go.Proofs.YtnakjijahkaoaaaDoor
open Go Go.RowKit
def e0 : ByteArray := { data := { toList := [] } }
def tg : ByteArray := { data := { toList := [128] } }
def bz : ByteArray := { data := { toList := [0] } }
def lI (s : ByteArray) : Int := Int.tmod (IntKind.wrap .i64 (120 - Int.tmod (ax (s ++ tg)) 64)) 64
def oL (s : ByteArray) : Int := IntKind.wrap .u64 (IntKind.wrap .u64 (ax s) * 2 ^ min (Int.toNat 3) (IntKind.bits .u64))
def uc (s : ByteArray) (i : Int) : ByteArray :=
 aj (List.set (List.replicate 1 (zero (Ty.int IntKind.u8))) 0
  (IntKind.wrap .u8 (Int.fdiv (oL s) (2 ^ min (Int.toNat (IntKind.wrap .i64 (8 * IntKind.wrap .i64 (7 - i)))) (IntKind.bits .u64)))))
def oZ (s : ByteArray) : Nat → ByteArray
 | 0 => s ++ tg ++ jP bz (lI s)
 | i + 1 => oZ s i ++ uc s i
def goR : Nat → ByteArray → List Int → List Int
 | 0, _, h => h
 | m + 1, s, h => goR m (a6 s 64 (ax s)) (nM h (a6 s 0 64))
def nE (h : List Int) (i : Int) : Int :=
 IntKind.wrap .u8 (Int.fdiv (el (Ty.int IntKind.u32) h (IntKind.wrap .i64 (Int.tdiv i 4))) (2 ^ min (Int.toNat (IntKind.wrap .i64 (24 - IntKind.wrap .i64 (8 * Int.tmod i 4)))) (IntKind.bits .u32)))
def qZ (h : List Int) : Nat → List Int
 | 0 => zero tId
 | i + 1 => bR (Ty.int IntKind.u8) (qZ h i) i (nE h i)
def g8 (s : ByteArray) : Nat := (s.size + 8) / 64 + 1
def xC (s : ByteArray) : List Int := qZ (goR (g8 s) (oZ s 8) dO) 32
def fl (l : List ByteArray) : List Int := xC (bL l e0)
theorem GT {n : Int} (h : 0 ≤ n) : ((jP bz n).size : Int) = n := by
 unfold jP
 rw [t8, Lib.repeatL_length]
 have : bz.data.toList.length = 1 := rfl
 rw [this, Nat.mul_one, Int.toNat_of_nonneg h]
theorem xd (s : ByteArray) (i : Int) : (uc s i).size = 1 := rfl
theorem pH {s : ByteArray} (hs : s.size ≤ 900000) : lI s = (120 - ((s.size : Int) + 1) % 64) % 64 := by
 have h1 : ax (s ++ tg) = (s.size : Int) + 1 := by
  unfold ax
  rw [ByteArray.size_append]
  rfl
 unfold lI
 have h2 : Int.tmod ((s.size : Int) + 1) 64 = ((s.size : Int) + 1) % 64 := Int.tmod_eq_emod_of_nonneg (by omega)
 rw [h1, h2, bp (by omega)]
 exact Int.tmod_eq_emod_of_nonneg (by omega)
theorem oP {s : ByteArray} (hs : s.size ≤ 900000) : ∀ i : Nat, ((oZ s i).size : Int) = (s.size : Int) + 1 + (120 - ((s.size : Int) + 1) % 64) % 64 + i
 | 0 => by
  have h0 : (0 : Int) ≤ lI s := by rw [pH hs]; exact Int.emod_nonneg _ (by decide)
  show ((s ++ tg ++ jP bz (lI s)).size : Int) = _
  rw [ByteArray.size_append, ByteArray.size_append]
  have h1 := GT h0
  rw [pH hs] at h1
  have h2 : tg.size = 1 := rfl
  rw [pH hs]
  omega
 | i + 1 => by
  show ((oZ s i ++ uc s i).size : Int) = _
  rw [ByteArray.size_append, xd]
  have := oP hs i
  omega
theorem CQ {s : ByteArray} (hs : s.size ≤ 900000) : (oZ s 8).size = 64 * g8 s := by
 have h := oP hs 8
 unfold g8
 omega
theorem dP : XOk prog dk := B8 (bJ x8) rV (bJ zy) (bJ wu)
theorem xq : ∀ i : Nat, i < 32 → (0 ≤ IntKind.wrap .i64 (Int.tdiv (i : Int) 4) ∧ IntKind.wrap .i64 (Int.tdiv (i : Int) 4) < ((8 : Nat) : Int)) ∧
    0 ≤ IntKind.wrap .i64 (24 - IntKind.wrap .i64 (8 * Int.tmod (i : Int) 4)) := by decide
def xA (O : Nat → Prop) (w0 : World) (b0 h : List Int) (out : List Int) (ho : out = qZ h 32) :=
 PLift.up <| bP (σ := List Int) 32 (fun i b => b = qZ h i)
  (fun i b => bC prog dk (Cx.base O w0) (cN prog O w0 f8 fun y => y = (out, ())) [] bN (lp aU 7) (pu (i : Nat) b0 h b))
  (fun i b hi hb ih => aI dP (lm _ b0 h b) (by
   refine ⟨fun _ => ⟨show (4 : Int) ≠ 0 by decide, (xq i hi).1, show (4 : Int) ≠ 0 by decide, (xq i hi).2, ⟨Int.natCast_nonneg _, Int.ofNat_lt.2 hi⟩, ?_⟩, fun h => ?_⟩
   ·rw [da hi (by omega)]
    refine ih _ ?_
    rw [hb]
    rfl
   ·exact absurd (Int.ofNat_lt.2 hi) (of_decide_eq_false h)))
  (fun b hb => aI dP (lm _ b0 h b) (by
   refine ⟨fun h => ?_, fun _ => ⟨_, rfl, ?_⟩⟩
   ·exact absurd (of_decide_eq_true h) (by decide)
   ·show (b, ()) = (out, ())
    rw [hb, ho]))
theorem Gw {s : ByteArray} {m : Nat} (h : s.size = 64 * (m + 1)) : (a6 s 64 (ax s)).size = 64 * m := by
 unfold a6 ax
 rw [ByteArray.size_extract, Int.toNat_natCast]
 have : Int.toNat 64 = 64 := rfl
 omega
theorem Hl {s : ByteArray} {m : Nat} (h : s.size = 64 * (m + 1)) : (a6 s 0 64).size = 64 := by
 unfold a6
 rw [ByteArray.size_extract]
 have h1 : Int.toNat 64 = 64 := rfl
 have h2 : Int.toNat 0 = 0 := rfl
 omega
theorem vS (O : Nat → Prop) (w0 : World) (b2 out : List Int) (m : Nat) : ∀ (s : ByteArray) (h : List Int), s.size = 64 * m → out = qZ (goR m s h) 32 →
    bC prog dk (Cx.base O w0) (cN prog O w0 f8 fun y => y = (out, ())) (eP s b2 h) dD (lp dn 0) (eQ s b2 h) := by
  induction m with
  | zero =>
    intro s h hs ho
    have e : s = e0 := ByteArray.ext (Array.eq_empty_of_size_eq_zero hs)
    have e1 : eqb Ty.str s e0 = true := (dL (t := .str) rfl s e0).2 e
    refine aI dP (dS s b2 h) ⟨fun hc => ?_, fun _ => ?_⟩
    · have hc : (!eqb Ty.str s e0) = true := hc
      rw [e1] at hc
      cases hc
    · exact (xA O w0 b2 h out ho).down 0 _ (Nat.zero_le _) rfl
  | succ m ih =>
    intro s h hs ho
    have hl : ax s = 64 * ((m : Int) + 1) := by unfold ax; rw [hs]; omega
    refine aI dP (dS s b2 h) ⟨fun _ => ⟨?_, Hl hs, fun hc => ?_, fun _ => ⟨?_, ?_⟩⟩, fun hc => ?_⟩
    · rw [hl]
      exact ⟨by decide, by decide, by omega⟩
    · cases hc
    · rw [hl]
      exact ⟨by decide, by omega, Int.le_refl _⟩
    · exact ih _ _ (Gw hs) ho
    · have hc : (!eqb Ty.str s e0) = false := hc
      have e : s = e0 := (dL (t := .str) rfl s e0).1 (by cases h1 : eqb Ty.str s e0 with | true => rfl | false => rw [h1] at hc; cases hc)
      rw [e] at hs
      have : e0.size = 0 := rfl
      omega
def yg (O : Nat → Prop) (w0 : World) (s : ByteArray) (hs : s.size ≤ 900000) :=
 PLift.up <| bP (σ := ByteArray) 8 (fun i b => b = oZ s i)
  (fun i b => bC prog dk (Cx.base O w0) (cN prog O w0 f8 fun y => y = (xC s, ())) (fD (oL s) (i : Nat) b (zero tId) dO) eB (lp dI 5) (fv (oL s) (i : Nat) b (zero tId) dO))
  (fun i b hi hb ih => aI dP (d6 (oL s) _ b _ _) (by
   have hz : b.size ≤ 1000000 := by have := oP hs i; rw [hb]; omega
   refine ⟨fun _ => ⟨?_, ?_, ?_⟩, fun h => ?_⟩
   ·show (0 : Int) ≤ IntKind.wrap .i64 (8 * IntKind.wrap .i64 (7 - (i : Int)))
    rw [bp (n := 7 - (i : Int)) (by omega), bp (by omega)]
    omega
   ·show b.size + (uc s i).size ≤ _
    rw [xd]
    omega
   ·rw [da hi (by omega)]
    refine ih _ ?_
    rw [hb]
    rfl
   ·exact absurd (Int.ofNat_lt.2 hi) (of_decide_eq_false h)))
  (fun b hb => aI dP (d6 (oL s) _ b _ _) (by
   refine ⟨fun h => ?_, fun _ => ?_⟩
   ·exact absurd (of_decide_eq_true h) (by decide)
   ·exact vS O w0 _ _ (g8 s) b dO (by rw [hb]; exact CQ hs) (by rw [hb]; rfl)))
noncomputable abbrev fy : bh := ⟨rt, f8, fun x => (fl x.1, ()), fun x => List.length x.1 ≤ 1000000 ∧ ByteArray.size (bL x.1 e0) ≤ 900000, false⟩
theorem si : au prog gl fq fy :=
 bw (S := fy) dP (fx := bN) A6 (by kernel_rfl) (fun h => by cases h) (T := fun x => tF x.1) (fun x => xc x.1) fun O w0 x _ hp => by
  obtain ⟨l, ⟨⟩⟩ := x
  have hp1 : List.length l ≤ 1000000 := hp.1
  have hp2 : (bL l e0).size ≤ 900000 := hp.2
  have hk : lI (bL l e0) = _ := pH hp2
  refine ⟨trivial, ⟨hp1, Nat.le_trans hp2 (by decide)⟩, by show (0 : Int) ≤ 3; decide, ?_, show (64 : Int) ≠ 0 by decide, show (64 : Int) ≠ 0 by decide, ⟨?_, ?_, rfl⟩, ?_, ?_⟩
  ·show (bL l e0).size + 1 ≤ _
   omega
  ·show (0 : Int) ≤ lI (bL l e0)
   rw [hk]; omega
  ·show lI (bL l e0) ≤ 1000000
   rw [hk]; omega
  ·show (bL l e0 ++ tg).size + (jP bz (lI (bL l e0))).size ≤ _
   have h := oP hp2 0
   have : (oZ (bL l e0) 0).size = (bL l e0 ++ tg).size + (jP bz (lI (bL l e0))).size := ByteArray.size_append
   omega
  ·exact (yg O w0 (bL l e0) hp2).down 0 _ (Nat.zero_le _) rfl
end Go.Proofs.YtnakjijahkaoaaaDoor
namespace Go.Proofs.YtnakjijahkaoaaaDoor
open Go Go.RowKit
def mw : Nat → List Int → List Int
 | 0, l => l
 | n + 1, l => mw n (l ++ [0])
def g6 (l : List Int) : Nat := (120 - l.length % 64) % 64
def C9 : Nat → Int
 | 0 => 72057594037927936
 | n + 1 => IntKind.wrap .u64 (Int.tdiv (C9 n) 256)
def ut (s : ByteArray) (n : Nat) : Int :=
 IntKind.wrap .u8 (Int.tmod (IntKind.wrap .u64 (Int.tdiv (IntKind.wrap .u64 (IntKind.wrap .u64 (ax s) * 8)) (C9 n))) 256)
def mb (s : ByteArray) : Nat → List Int → List Int
 | 0, l => l
 | n + 1, l => mb s n l ++ [ut s n]
def jf (s : ByteArray) : List Int := mb s 8 (mw (g6 (aK s ++ [128])) (aK s ++ [128]))
noncomputable abbrev jE : bh := ⟨rT, iL, fun x => (aj (jf x.1), ()), fun x => ByteArray.size x.1 ≤ 1000, false⟩
end Go.Proofs.YtnakjijahkaoaaaDoor
namespace Go.Proofs.YtnakjijahkaoaaaDoor
open Go Go.RowKit Go.ChangeShapes Go.WideShapes Go.ChangeAt
def qI : List (String × DataW Unit) := [("posthouse/digest.keys", Rows.laid_posthouse_digest_keys)]
noncomputable def Fl : Nat := ((prog.globals[0]?).map (·.type)).getD 0
theorem IE : (prog.globals[0]?).map (·.type) = some Fl := by kernel_rfl
theorem GK : bc.lookup Fl = some (.arr 64 (.int .u32)) := by kernel_rfl
theorem Kw : prog.globalNamed "posthouse/digest.keys" = some 0 := by kernel_rfl
def GY : DataW Unit → Int := fun | .lit (.int _ n) => n | _ => 0
theorem sX {P : Program} {O : Nat → Prop} {w : World} {k : IntKind} : ∀ (cs : List Value) (ds : List (DataW Unit)), cs.length = ds.length →
    (∀ (i : Nat) c d, cs[i]? = some c → ds[i]? = some d → ∃ z, c = .int k z ∧ d = .lit (.int k z) ∧ InK k z) → ah (fun cs x => Rep P (.int k) .cells O w cs x) 1 cs (ds.map GY)
  | [], [], _, _ => rfl
  | c :: cs, d :: ds, hl, h => by
    obtain ⟨z, e1, e2, e3⟩ := h 0 c d rfl rfl
    refine ⟨?_, sX cs ds (by simpa using hl) fun i c d hc hd => h (i + 1) c d hc hd⟩
    rw [e1, e2]
    exact ⟨rfl, e3⟩
  | [], _ :: _, hl, _ => by simp at hl
  | _ :: _, [], hl, _ => by simp at hl
theorem Hb : ie.length = 64 := by kernel_rfl
def FJ : DataW Unit → List (DataW Unit)
 | .agg l => l
 | _ => []
theorem I6 : (Rows.laid_posthouse_digest_keys : DataW Unit) = .agg (FJ Rows.laid_posthouse_digest_keys) := by kernel_rfl
theorem IF : ie = (FJ Rows.laid_posthouse_digest_keys).map GY := by kernel_rfl
theorem GD {W : World} (h : laidMetH prog qI W) : GlobOk prog gl (fun _ => False) W := by
  rw [MakeChecks.laidMetH_plain _ _ _ (by kernel_rfl)] at h
  obtain ⟨ps, ⟨g0, t0, cs0, f0, p0, q0, hg0, ht0, hv0, hd0, _, _⟩, _, _⟩ := h
  obtain rfl := Option.some.inj (Kw.symm.trans hg0)
  obtain rfl := Option.some.inj (IE.symm.trans ht0)
  have hf := hY aT GK
  obtain ⟨e, hu, he, _⟩ := dY hf.shape
  obtain ⟨xs, k, hm, hx, h3, h4, h5⟩ := DataW.trod_array hu hd0
  have hfe := hY aT he
  have hse : prog.cellsOf e = 1 := sO hfe
  have hst : prog.cellsOf Fl = 64 := sO hf
  rw [I6] at hx
  have hx1 : FJ Rows.laid_posthouse_digest_keys = xs.map (·.1) := DataW.agg.inj (Prod.mk.inj hx).1
  have hlen : cs0.toList.length = 64 := h3.trans hst
  have hrep : ah (fun cs x => Rep prog (.int .u32) .cells (fun _ => False) W cs x) 1 cs0.toList ie := by
    rw [IF]
    refine sX _ _ ?_ fun i c d hc hd => ?_
    · rw [hlen, hx1, List.length_map, h4]
    · have hi : i < 64 := by
        have := (List.getElem?_eq_some_iff.1 hc).1
        omega
      have h6 := h5 i hi
      rw [hse, Nat.mul_one] at h6
      have hc1 : (cs0.toList.drop i).take 1 = [c] := by
        have hlt : i < cs0.toList.length := by omega
        rw [List.drop_eq_getElem_cons hlt]
        have : cs0.toList[i] = c := by
          rw [List.getElem?_eq_getElem hlt] at hc
          exact Option.some.inj hc
        rw [this]
        rfl
      rw [hc1] at h6
      rw [hx1, List.getElem?_map] at hd
      cases hxi : xs[i]? with
      | none => rw [hxi] at hd; cases hd
      | some x =>
        rw [hxi] at hd h6
        obtain ⟨z, e1, e2, e3⟩ := DataW.trod_int (dc hfe.shape) h6
        have hd : x.1 = d := Option.some.inj hd
        refine ⟨z, ?_, ?_, zV e3⟩
        · exact (List.cons.inj e1).1
        · rw [← hd, e2]
  have hcell : ∀ j, W.cell? ⟨0, j, none⟩ = cs0[j]? := fun j => World.var?_cell hg0 hv0 j
  intro g t y hl
  have hg : g = 0 ∧ (⟨t, y⟩ : (t : Ty) × den t) = ⟨.arr 64 (.int .u32), ie⟩ := by
    have hl : List.lookup g [((0 : Nat), (⟨.arr 64 (.int .u32), ie⟩ : (t : Ty) × den t))] = some ⟨t, y⟩ := hl
    rw [List.lookup_cons] at hl
    by_cases hg : g = 0
    · subst hg
      exact ⟨rfl, (Option.some.inj hl).symm⟩
    · have : (g == 0) = false := by simpa using hg
      rw [this] at hl
      cases hl
  obtain ⟨rfl, e⟩ := hg
  cases e
  refine ⟨cs0.toList, fun h => h, ?_, fun j u hj => ?_, Hb, hrep⟩
  · have h0 := hcell 0
    have : cs0[0]? ≠ none := by
      intro hn
      have hlt : 0 < cs0.size := by
        have : cs0.toList.length = cs0.size := by simp
        omega
      rw [Array.getElem?_eq_getElem hlt] at hn
      cases hn
    show 0 < W.heap.size
    rcases Nat.eq_zero_or_pos W.heap.size with hz | hz
    · exfalso
      apply this
      rw [← h0]
      simp [World.cell?, hz]
    · exact hz
  · have e : (⟨0, 0, none⟩ : Addr).add j = ⟨0, j, none⟩ := by
      unfold Addr.add
      split
      · next h => subst h; rfl
      · show (⟨0, 0 + j, none⟩ : Addr) = _
        rw [Nat.zero_add]
    rw [e, hcell]
    simpa using hj
set_option maxRecDepth 100000 in
theorem F3 {H : Type} {enc : TypeId × Value → H} {w : World} {Gl : iP} (hg : GlobOk prog Gl (fun _ => False) w) {f : FuncId} {aty : Ty} (hk : au prog Gl f (IL aty)) {ts : List TypeId} (hc : iD prog bc ts aty = true) {r : Reach} {b0 : Nat} {spare : Nat → Bool} {held : Bool} {args : Array Value} {ds : List (DataW H)} {ps : List MemPlace}
    (h : DataW.TrodAll enc prog w 0 spare held ts args.toList ds ps) (hv : ∀ (j : Nat) t v, ts[j]? = some t → args[j]? = some v → Value.okWide prog w r b0 t v) : Calls prog f args w fun e w' => e = .returned (.bool true) ∧ Below w.heap.size w w' := by
  obtain ⟨x, hx⟩ := rx aT ts aty args.toList ds ps hc h (fun j t v hj hv' => hv j t v hj (by simpa using hv'))
  have := hk.does (fun _ => False) w args.toList x (fun _ h => h.elim) hg hx trivial
  rw [Array.toArray_toList] at this
  refine Calls.mono this fun e w' ⟨v, e1, e2, rest, cs, e3, e4, e5⟩ => ?_
  have e4 : cs = [.bool true] := e4
  subst e4
  have e3 : [v] = [Value.bool true] := e3
  have : v = .bool true := by simpa using e3
  subst this
  exact ⟨e1, ⟨e2.os, e2.tape, e2.output, e2.size, e2.block⟩⟩
theorem IA (os : Os) (args : Array Value) : laidMetH prog qI ((World.laidAll prog os qI).forCall (fun _ _ => 0) ⟨#[], args, []⟩).memory := by
 rw [MakeChecks.laidMetH_plain _ _ _ (by kernel_rfl)]
 exact laidMet_laidAll _ (by kernel_rfl) (by kernel_rfl)
end Go.Proofs.YtnakjijahkaoaaaDoor
namespace Go.Proofs.YtnakjijahkaoaaaDoor
open Go Go.RowKit
abbrev Lk := den eR
end Go.Proofs.YtnakjijahkaoaaaDoor
namespace Go.Proofs.YtnakjijahkaoaaaDoor
open Go Go.RowKit
noncomputable abbrev pv : Fx := { fn := lQ, ann := { frz := [(1, [1])] } }
noncomputable abbrev rM : aZ := { D := { T := bc, F := [], R := [], ovl := [] }, inl := [] }
noncomputable abbrev AQ : bm := .data p5
theorem AK : XOk prog rM := xok ((aO aT aE)) (by kernel_rfl) aG aQ aR
noncomputable def rN (id : den tId) : ab := ab.req (bv 0 16 (↑32 : Int)) (ab.req (16 ≤ List.length (bF (Ty.int IntKind.u8) id 0 16)) (ab.ret (K.val (Ty.pair bT Ty.unit) (List.take 16 (bF (Ty.int IntKind.u8) id 0 16), PUnit.unit))))
theorem wo (id : den tId) : al rM AQ 5000 [] pv (aA lQ) (Env.of (aN pY (id, ()) 0) []) = rN id := by kernel_rfl
end Go.Proofs.YtnakjijahkaoaaaDoor
namespace Go.Proofs.YtnakjijahkaoaaaDoor
open Go Go.RowKit
def cU (id : List Int) : List Int := List.take 16 id
noncomputable abbrev iK : bh := ⟨pY, p5, fun x => (cU x.1, ()), fun _ => True, true⟩
theorem Av : au prog [] iQ iK :=
 bw (S := iK) AK (fx := pv) zA (by kernel_rfl) (fun _ _ => trivial) (T := fun x => rN x.1) (fun x => wo x.1) fun O w0 x hk _ => by
  obtain ⟨id, ⟨⟩⟩ := x
  have hl : List.length id = 32 := hk.1.1
  have e : bF (Ty.int IntKind.u8) id 0 16 = List.take 16 id := rfl
  refine ⟨⟨by decide, by decide, by decide⟩, ?_, _, rfl, ?_⟩
  ·rw [e]
   show 16 ≤ (List.take 16 id).length
   rw [List.length_take]
   omega
  ·rw [e]
   show (List.take 16 (List.take 16 id), ()) = (List.take 16 id, ())
   rw [List.take_take]; rfl
end Go.Proofs.YtnakjijahkaoaaaDoor
namespace Go.Proofs.YtnakjijahkaoaaaDoor
open Go Go.RowKit
end Go.Proofs.YtnakjijahkaoaaaDoor
namespace Go.Proofs.YtnakjijahkaoaaaDoor
open Go Go.RowKit
end Go.Proofs.YtnakjijahkaoaaaDoor
namespace Go.Proofs.YtnakjijahkaoaaaDoor
open Go Go.RowKit
end Go.Proofs.YtnakjijahkaoaaaDoor
