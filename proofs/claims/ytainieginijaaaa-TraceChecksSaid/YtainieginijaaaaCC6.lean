/- Part 6 of 8 of what this claim's proof stands on: a theory of programs on data, and the contracts of the functions that the law reaches. It holds no condition of its own. -/
import Derived.Test.YtainieginijaaaaCC5
import Derived.Test.YtainieginijaaaaProg

/- This seat's types and functions: their numbers, and the shapes of their data. Written by mktab.py. -/
namespace Go.Proofs.Ytainieginijaaaa
open Go
noncomputable section

noncomputable abbrev prog : Program := Try.prog

abbrev tId : Ty := (.arr 32 (.int .u8))
abbrev tEntry : Ty := (.st (.pair (.int .i64) (.pair tId (.pair (.int .i64) .unit))))
abbrev tTrigger : Ty := (.st (.pair tId (.pair tEntry (.pair (.int .i64) .unit))))
abbrev tTraceLetter : Ty := (.st (.pair .str (.pair (.int .i64) (.pair tTrigger (.pair (.int .i64) .unit)))))
abbrev tNote : Ty := (.st (.pair (.int .i64) (.pair (.int .i64) (.pair (.int .i64) (.pair (.int .i64) (.pair (.int .i64) (.pair tTrigger (.pair .str (.pair (.int .i64) .unit)))))))))
abbrev tTraceBook : Ty := (.st (.pair (.mp (.int .i64) tTraceLetter) (.pair (.slc tTrigger) (.pair (.mp (.int .i64) (.int .i64)) (.pair (.int .i64) .unit)))))

def tyTab : List (Nat × Ty) := [
  (1, (.fn .unit .unit)),
  (2, (.int .i64)),
  (3, (.int .i64)),
  (4, .bool),
  (5, (.int .u8)),
  (9, .str),
  (12, (.int .u64)),
  (21, (.int .i32)),
  (22, (.slc tNote)),
  (23, (.fn (.pair (.slc tNote) .unit) (.pair (.slc tNote) .unit))),
  (24, (.int .i64)),
  (26, (.fn (.pair (.slc tNote) .unit) (.pair (.int .i64) (.pair (.int .i64) .unit)))),
  (27, (.fn .unit (.pair .bool .unit))),
  (28, (.slc tTrigger)),
  (30, (.fn (.pair (.slc tNote) (.pair (.int .i64) .unit)) (.pair (.slc tTrigger) (.pair (.int .i64) (.pair (.int .i64) .unit))))),
  (31, tId),
  (32, tId),
  (33, tEntry),
  (34, tEntry),
  (35, tTrigger),
  (36, tTrigger),
  (37, tNote),
  (38, tNote),
  (39, (.fn (.pair (.slc tNote) (.pair (.int .i64) .unit)) (.pair .bool .unit))),
  (40, (.fn (.pair (.slc tNote) (.pair (.int .i64) .unit)) (.pair (.int .i64) (.pair (.int .i64) .unit)))),
  (41, (.fn (.pair (.slc tNote) .unit) (.pair (.int .i64) .unit))),
  (42, (.fn (.pair (.slc tTrigger) (.pair (.slc tTrigger) .unit)) (.pair .bool .unit))),
  (43, (.fn (.pair (.slc tNote) (.pair (.int .i64) .unit)) (.pair (.slc tTrigger) .unit))),
  (44, (.fn (.pair (.slc tNote) (.pair (.int .i64) .unit)) (.pair (.int .i64) .unit))),
  (45, (.fn (.pair (.slc tNote) (.pair (.int .i64) (.pair (.int .i64) .unit))) (.pair .bool .unit))),
  (46, (.fn (.pair (.slc tNote) (.pair (.int .i64) (.pair .str .unit))) (.pair .bool .unit))),
  (50, tTraceLetter),
  (51, tTraceLetter),
  (52, (.mp (.int .i64) tTraceLetter)),
  (53, (.mp (.int .i64) (.int .i64))),
  (54, tTraceBook),
  (55, tTraceBook),
  (56, (.fn (.pair (.slc tTrigger) .unit) .unit)),
  (58, (.fn (.pair (.slc tNote) (.pair tNote .unit)) (.pair .bool .unit))),
  (59, (.fn (.pair tNote .unit) (.pair .bool .unit))),
  (60, (.fn (.pair (.slc tNote) (.pair tTrigger .unit)) (.pair .bool .unit))),
  (61, (.fn (.pair (.slc tNote) (.pair (.int .i64) .unit)) (.pair .str .unit))),
  (63, (.fn (.pair (.slc tTrigger) (.pair tTrigger .unit)) (.pair .bool .unit))),
  (64, (.fn (.pair (.slc tTrigger) (.pair tTrigger .unit)) (.pair (.int .i64) .unit))),
  (65, (.fn .unit (.pair .str .unit))),
  (71, (.fn .unit (.pair (.int .i64) .unit))),
  (72, (.int .u32))]

theorem tab_ok : tabB prog tyTab = true := by kernel_rfl
theorem mixed_ok : prog.follows .mixedOrders = true := by kernel_rfl

abbrev n_l20_TraceBeginnings : Nat := 3
noncomputable abbrev f_l20_TraceBeginnings : Func := Try.f3
abbrev as_l20_TraceBeginnings : Ty := (.pair (.slc tNote) (.pair (.int .i64) .unit))
abbrev rs_l20_TraceBeginnings : Ty := (.pair .bool .unit)
theorem at_l20_TraceBeginnings : Try.prog.funcs[n_l20_TraceBeginnings]? = some f_l20_TraceBeginnings := Try.func3
abbrev n_l20_TraceChecks : Nat := 4
noncomputable abbrev f_l20_TraceChecks : Func := Try.f4
abbrev as_l20_TraceChecks : Ty := (.pair (.slc tNote) (.pair (.int .i64) (.pair (.int .i64) .unit)))
abbrev rs_l20_TraceChecks : Ty := (.pair .bool .unit)
theorem at_l20_TraceChecks : Try.prog.funcs[n_l20_TraceChecks]? = some f_l20_TraceChecks := Try.func4
abbrev n_l20_TraceAdds : Nat := 5
noncomputable abbrev f_l20_TraceAdds : Func := Try.f5
abbrev as_l20_TraceAdds : Ty := (.pair (.slc tNote) (.pair (.int .i64) (.pair .str .unit)))
abbrev rs_l20_TraceAdds : Ty := (.pair .bool .unit)
theorem at_l20_TraceAdds : Try.prog.funcs[n_l20_TraceAdds]? = some f_l20_TraceAdds := Try.func5
abbrev n_l20_few : Nat := 6
noncomputable abbrev f_l20_few : Func := Try.f6
abbrev as_l20_few : Ty := (.pair (.slc tNote) .unit)
abbrev rs_l20_few : Ty := (.pair (.slc tNote) .unit)
theorem at_l20_few : Try.prog.funcs[n_l20_few]? = some f_l20_few := Try.func6
abbrev n_trace_Check : Nat := 7
noncomputable abbrev f_trace_Check : Func := Try.f7
abbrev as_trace_Check : Ty := (.pair (.slc tNote) .unit)
abbrev rs_trace_Check : Ty := (.pair (.int .i64) (.pair (.int .i64) .unit))
theorem at_trace_Check : Try.prog.funcs[n_trace_Check]? = some f_trace_Check := Try.func7
abbrev n_l20_alive : Nat := 8
noncomputable abbrev f_l20_alive : Func := Try.f8
abbrev as_l20_alive : Ty := .unit
abbrev rs_l20_alive : Ty := (.pair .bool .unit)
theorem at_l20_alive : Try.prog.funcs[n_l20_alive]? = some f_l20_alive := Try.func8
abbrev n_trace_Chain : Nat := 9
noncomputable abbrev f_trace_Chain : Func := Try.f9
abbrev as_trace_Chain : Ty := (.pair (.slc tNote) (.pair (.int .i64) .unit))
abbrev rs_trace_Chain : Ty := (.pair (.slc tTrigger) (.pair (.int .i64) (.pair (.int .i64) .unit)))
theorem at_trace_Chain : Try.prog.funcs[n_trace_Chain]? = some f_trace_Chain := Try.func9
abbrev n_trace_Cost : Nat := 10
noncomputable abbrev f_trace_Cost : Func := Try.f10
abbrev as_trace_Cost : Ty := (.pair (.slc tNote) (.pair (.int .i64) .unit))
abbrev rs_trace_Cost : Ty := (.pair (.int .i64) (.pair (.int .i64) .unit))
theorem at_trace_Cost : Try.prog.funcs[n_trace_Cost]? = some f_trace_Cost := Try.func10
abbrev n_r20_Check : Nat := 11
noncomputable abbrev f_r20_Check : Func := Try.f11
abbrev as_r20_Check : Ty := (.pair (.slc tNote) .unit)
abbrev rs_r20_Check : Ty := (.pair (.int .i64) .unit)
theorem at_r20_Check : Try.prog.funcs[n_r20_Check]? = some f_r20_Check := Try.func11
abbrev n_l20_same : Nat := 12
noncomputable abbrev f_l20_same : Func := Try.f12
abbrev as_l20_same : Ty := (.pair (.slc tTrigger) (.pair (.slc tTrigger) .unit))
abbrev rs_l20_same : Ty := (.pair .bool .unit)
theorem at_l20_same : Try.prog.funcs[n_l20_same]? = some f_l20_same := Try.func12
abbrev n_r20_Chain : Nat := 13
noncomputable abbrev f_r20_Chain : Func := Try.f13
abbrev as_r20_Chain : Ty := (.pair (.slc tNote) (.pair (.int .i64) .unit))
abbrev rs_r20_Chain : Ty := (.pair (.slc tTrigger) .unit)
theorem at_r20_Chain : Try.prog.funcs[n_r20_Chain]? = some f_r20_Chain := Try.func13
abbrev n_r20_Birth : Nat := 14
noncomputable abbrev f_r20_Birth : Func := Try.f14
abbrev as_r20_Birth : Ty := (.pair (.slc tNote) (.pair (.int .i64) .unit))
abbrev rs_r20_Birth : Ty := (.pair (.int .i64) .unit)
theorem at_r20_Birth : Try.prog.funcs[n_r20_Birth]? = some f_r20_Birth := Try.func14
abbrev n_r20_First : Nat := 15
noncomputable abbrev f_r20_First : Func := Try.f15
abbrev as_r20_First : Ty := (.pair (.slc tNote) (.pair (.int .i64) .unit))
abbrev rs_r20_First : Ty := (.pair (.int .i64) .unit)
theorem at_r20_First : Try.prog.funcs[n_r20_First]? = some f_r20_First := Try.func15
abbrev n_r20_Cost : Nat := 16
noncomputable abbrev f_r20_Cost : Func := Try.f16
abbrev as_r20_Cost : Ty := (.pair (.slc tNote) (.pair (.int .i64) .unit))
abbrev rs_r20_Cost : Ty := (.pair (.int .i64) .unit)
theorem at_r20_Cost : Try.prog.funcs[n_r20_Cost]? = some f_r20_Cost := Try.func16
abbrev n_trace_read : Nat := 17
noncomputable abbrev f_trace_read : Func := Try.f17
abbrev as_trace_read : Ty := (.pair (.slc tNote) .unit)
theorem at_trace_read : Try.prog.funcs[n_trace_read]? = some f_trace_read := Try.func17
abbrev n_slices_Reverse_Trigger : Nat := 18
noncomputable abbrev f_slices_Reverse_Trigger : Func := Try.f18
abbrev as_slices_Reverse_Trigger : Ty := (.pair (.slc tTrigger) .unit)
abbrev rs_slices_Reverse_Trigger : Ty := .unit
theorem at_slices_Reverse_Trigger : Try.prog.funcs[n_slices_Reverse_Trigger]? = some f_slices_Reverse_Trigger := Try.func18
abbrev n_r20_Is : Nat := 19
noncomputable abbrev f_r20_Is : Func := Try.f19
abbrev as_r20_Is : Ty := (.pair (.slc tNote) (.pair tNote .unit))
abbrev rs_r20_Is : Ty := (.pair .bool .unit)
theorem at_r20_Is : Try.prog.funcs[n_r20_Is]? = some f_r20_Is := Try.func19
abbrev n_trace_book_takes : Nat := 20
noncomputable abbrev f_trace_book_takes : Func := Try.f20
abbrev rs_trace_book_takes : Ty := (.pair .bool .unit)
theorem at_trace_book_takes : Try.prog.funcs[n_trace_book_takes]? = some f_trace_book_takes := Try.func20
abbrev n_r20_Admitted : Nat := 21
noncomputable abbrev f_r20_Admitted : Func := Try.f21
abbrev as_r20_Admitted : Ty := (.pair (.slc tNote) (.pair tTrigger .unit))
abbrev rs_r20_Admitted : Ty := (.pair .bool .unit)
theorem at_r20_Admitted : Try.prog.funcs[n_r20_Admitted]? = some f_r20_Admitted := Try.func21
abbrev n_r20_Data : Nat := 22
noncomputable abbrev f_r20_Data : Func := Try.f22
abbrev as_r20_Data : Ty := (.pair (.slc tNote) (.pair (.int .i64) .unit))
abbrev rs_r20_Data : Ty := (.pair .str .unit)
theorem at_r20_Data : Try.prog.funcs[n_r20_Data]? = some f_r20_Data := Try.func22
abbrev n_slices_Contains_Trigger : Nat := 23
noncomputable abbrev f_slices_Contains_Trigger : Func := Try.f23
abbrev as_slices_Contains_Trigger : Ty := (.pair (.slc tTrigger) (.pair tTrigger .unit))
abbrev rs_slices_Contains_Trigger : Ty := (.pair .bool .unit)
theorem at_slices_Contains_Trigger : Try.prog.funcs[n_slices_Contains_Trigger]? = some f_slices_Contains_Trigger := Try.func23
abbrev n_slices_Index_Trigger : Nat := 24
noncomputable abbrev f_slices_Index_Trigger : Func := Try.f24
abbrev as_slices_Index_Trigger : Ty := (.pair (.slc tTrigger) (.pair tTrigger .unit))
abbrev rs_slices_Index_Trigger : Ty := (.pair (.int .i64) .unit)
theorem at_slices_Index_Trigger : Try.prog.funcs[n_slices_Index_Trigger]? = some f_slices_Index_Trigger := Try.func24
abbrev n_abi_Type_Align : Nat := 37
noncomputable abbrev f_abi_Type_Align : Func := Try.f37
abbrev rs_abi_Type_Align : Ty := (.pair (.int .i64) .unit)
theorem at_abi_Type_Align : Try.prog.funcs[n_abi_Type_Align]? = some f_abi_Type_Align := Try.func37
abbrev n_maps_unhashableTypeError_Error : Nat := 38
noncomputable abbrev f_maps_unhashableTypeError_Error : Func := Try.f38
abbrev rs_maps_unhashableTypeError_Error : Ty := (.pair .str .unit)
theorem at_maps_unhashableTypeError_Error : Try.prog.funcs[n_maps_unhashableTypeError_Error]? = some f_maps_unhashableTypeError_Error := Try.func38
abbrev n_maps_unhashableTypeError_RuntimeError : Nat := 39
noncomputable abbrev f_maps_unhashableTypeError_RuntimeError : Func := Try.f39
abbrev rs_maps_unhashableTypeError_RuntimeError : Ty := .unit
theorem at_maps_unhashableTypeError_RuntimeError : Try.prog.funcs[n_maps_unhashableTypeError_RuntimeError]? = some f_maps_unhashableTypeError_RuntimeError := Try.func39
abbrev n_abi_Kind_String : Nat := 40
noncomputable abbrev f_abi_Kind_String : Func := Try.f40
abbrev as_abi_Kind_String : Ty := (.pair (.int .u8) .unit)
abbrev rs_abi_Kind_String : Ty := (.pair .str .unit)
theorem at_abi_Kind_String : Try.prog.funcs[n_abi_Kind_String]? = some f_abi_Kind_String := Try.func40

end
end Go.Proofs.Ytainieginijaaaa

/- The trees of functions' bodies, as the evaluator prints them. -/
namespace Go.Proofs.Ytainieginijaaaa
open Go Go.RowKit

noncomputable abbrev fx_slices_Index_Trigger : Fx := { fn := f_slices_Index_Trigger, ann := { loops := [(2, { keep := [0, 3, 7, 8] })] } }
noncomputable abbrev X_slices_Index_Trigger : TabX := { D := { T := tyTab, F := [], R := [], ovl := [] }, inl := [] }
noncomputable abbrev M_slices_Index_Trigger : RMode := .data rs_slices_Index_Trigger
theorem x_slices_Index_Trigger : XOk prog X_slices_Index_Trigger := xok ((dok_nil tab_ok mixed_ok)) (by kernel_rfl) rows_nil inl_nil ovl_nil
noncomputable def T_slices_Index_Trigger (s : den (Ty.slc tTrigger)) (x : den tTrigger) : TreeS :=
  TreeS.loop [] fx_slices_Index_Trigger (lp f_slices_Index_Trigger 2)
  [(0, K.val (Ty.slc tTrigger) s), (3, K.ptr 0 tTrigger []), (7, K.val tInt (lnx tTrigger s)), (8, K.val tInt 0)]
  [(0, Bx.cell tTrigger x)]
theorem T_slices_Index_Trigger_eq (s : den (Ty.slc tTrigger)) (x : den tTrigger) : treeS X_slices_Index_Trigger M_slices_Index_Trigger 5000 [] fx_slices_Index_Trigger (bodyOf f_slices_Index_Trigger) (Env.of
  (argEnv as_slices_Index_Trigger (s, x, ()) 0) []) = T_slices_Index_Trigger s x := by kernel_rfl

noncomputable def E_slices_Index_Trigger_2 (v0 : den (Ty.slc tTrigger)) (v7 : den tInt) (v8 : den tInt) (b0 : den tTrigger) : Env := Env.of
  [(0, K.val (Ty.slc tTrigger) v0), (3, K.ptr 0 tTrigger []), (7, K.val tInt v7), (8, K.val tInt v8)]
  [(0, Bx.cell tTrigger b0)]
noncomputable def TL_slices_Index_Trigger_2 (v0 : den (Ty.slc tTrigger)) (v7 : den tInt) (v8 : den tInt) (b0 : den tTrigger) : TreeS :=
  TreeS.ite (decide (v8 < v7))
  (TreeS.req (inB v8 (lnx tTrigger v0))
    (TreeS.ite (eqb tTrigger b0 (el tTrigger v0 v8)) (TreeS.ret (K.val (Ty.pair tInt Ty.unit) (v8, PUnit.unit)))
      (TreeS.loop [] fx_slices_Index_Trigger (lp f_slices_Index_Trigger 2)
        [(0, K.val (Ty.slc tTrigger) v0), (3, K.ptr 0 tTrigger []), (7, K.val tInt v7),
          (8, K.val tInt (IntKind.wrap IntKind.i64 (v8 + 1)))]
        [(0, Bx.cell tTrigger b0)])))
  (TreeS.ret (K.val (Ty.pair tInt Ty.unit) (-1, PUnit.unit)))
theorem TL_slices_Index_Trigger_2_eq (v0 : den (Ty.slc tTrigger)) (v7 : den tInt) (v8 : den tInt) (b0 : den tTrigger) : treeS X_slices_Index_Trigger M_slices_Index_Trigger 5000 [] fx_slices_Index_Trigger (lp f_slices_Index_Trigger 2) (E_slices_Index_Trigger_2 v0 v7 v8 b0) = TL_slices_Index_Trigger_2 v0 v7 v8 b0 := by kernel_rfl

noncomputable abbrev fx_l20_same : Fx := { fn := f_l20_same, ann := { loops := [(4, { keep := [0, 1, 12, 13] })] } }
noncomputable abbrev X_l20_same : TabX := { D := { T := tyTab, F := [], R := [], ovl := [] }, inl := [] }
noncomputable abbrev M_l20_same : RMode := .data rs_l20_same
theorem x_l20_same : XOk prog X_l20_same := xok ((dok_nil tab_ok mixed_ok)) (by kernel_rfl) rows_nil inl_nil ovl_nil
noncomputable def T_l20_same (a : den (Ty.slc tTrigger)) (b : den (Ty.slc tTrigger)) : TreeS :=
  TreeS.ite (!decide (lnx tTrigger a = lnx tTrigger b))
  (TreeS.ret (K.val (Ty.pair Ty.bool Ty.unit) (false, PUnit.unit)))
  (TreeS.loop [] fx_l20_same (lp f_l20_same 4)
    [(0, K.val (Ty.slc tTrigger) a), (1, K.val (Ty.slc tTrigger) b), (12, K.val tInt (lnx tTrigger a)),
      (13, K.val tInt 0)]
    [])
theorem T_l20_same_eq (a : den (Ty.slc tTrigger)) (b : den (Ty.slc tTrigger)) : treeS X_l20_same M_l20_same 5000 [] fx_l20_same (bodyOf f_l20_same) (Env.of
  (argEnv as_l20_same (a, b, ()) 0) []) = T_l20_same a b := by kernel_rfl

noncomputable def E_l20_same_4 (v0 : den (Ty.slc tTrigger)) (v1 : den (Ty.slc tTrigger)) (v12 : den tInt) (v13 : den tInt) : Env := Env.of
  [(0, K.val (Ty.slc tTrigger) v0), (1, K.val (Ty.slc tTrigger) v1), (12, K.val tInt v12), (13, K.val tInt v13)] []
noncomputable def TL_l20_same_4 (v0 : den (Ty.slc tTrigger)) (v1 : den (Ty.slc tTrigger)) (v12 : den tInt) (v13 : den tInt) : TreeS :=
  TreeS.ite (decide (v13 < v12))
  (TreeS.req (inB v13 (lnx tTrigger v0))
    (TreeS.req (inB v13 (lnx tTrigger v1))
      (TreeS.ite (!eqb tTrigger (el tTrigger v0 v13) (el tTrigger v1 v13))
        (TreeS.ret (K.val (Ty.pair Ty.bool Ty.unit) (false, PUnit.unit)))
        (TreeS.loop [] fx_l20_same (lp f_l20_same 4)
          [(0, K.val (Ty.slc tTrigger) v0), (1, K.val (Ty.slc tTrigger) v1), (12, K.val tInt v12),
            (13, K.val tInt (IntKind.wrap IntKind.i64 (v13 + 1)))]
          []))))
  (TreeS.ret (K.val (Ty.pair Ty.bool Ty.unit) (true, PUnit.unit)))
theorem TL_l20_same_4_eq (v0 : den (Ty.slc tTrigger)) (v1 : den (Ty.slc tTrigger)) (v12 : den tInt) (v13 : den tInt) : treeS X_l20_same M_l20_same 5000 [] fx_l20_same (lp f_l20_same 4) (E_l20_same_4 v0 v1 v12 v13) = TL_l20_same_4 v0 v1 v12 v13 := by kernel_rfl

noncomputable abbrev fx_r20_Birth : Fx := { fn := f_r20_Birth, ann := { loops := [(2, { keep := [1, 7, 8, 9] })] } }
noncomputable abbrev X_r20_Birth : TabX := { D := { T := tyTab, F := [], R := [], ovl := [] }, inl := [] }
noncomputable abbrev M_r20_Birth : RMode := .data rs_r20_Birth
theorem x_r20_Birth : XOk prog X_r20_Birth := xok ((dok_nil tab_ok mixed_ok)) (by kernel_rfl) rows_nil inl_nil ovl_nil
noncomputable def T_r20_Birth (l : den (Ty.slc tNote)) (n : den tInt) : TreeS :=
  TreeS.loop [] fx_r20_Birth (lp f_r20_Birth 2)
  [(1, K.val tInt n), (7, K.val (Ty.slc tNote) l), (8, K.val tInt (lnx tNote l)), (9, K.val tInt 0)] []
theorem T_r20_Birth_eq (l : den (Ty.slc tNote)) (n : den tInt) : treeS X_r20_Birth M_r20_Birth 5000 [] fx_r20_Birth (bodyOf f_r20_Birth) (Env.of
  (argEnv as_r20_Birth (l, n, ()) 0) []) = T_r20_Birth l n := by kernel_rfl

noncomputable def E_r20_Birth_2 (v1 : den tInt) (v7 : den (Ty.slc tNote)) (v8 : den tInt) (v9 : den tInt) : Env := Env.of
  [(1, K.val tInt v1), (7, K.val (Ty.slc tNote) v7), (8, K.val tInt v8), (9, K.val tInt v9)] []
noncomputable def TL_r20_Birth_2 (v1 : den tInt) (v7 : den (Ty.slc tNote)) (v8 : den tInt) (v9 : den tInt) : TreeS :=
  TreeS.ite (decide (v9 < v8))
  (TreeS.req (inB v9 (lnx tNote v7))
    (TreeS.ite
      (bif bif decide (Prod.fst (el tNote v7 v9) = 1) then true else decide (Prod.fst (el tNote v7 v9) = 3) then
        decide (Prod.fst (Prod.snd (Prod.snd (Prod.snd (Prod.snd (el tNote v7 v9))))) = v1)
      else false)
      (TreeS.ret (K.val (Ty.pair tInt Ty.unit) (v9, PUnit.unit)))
      (TreeS.loop [] fx_r20_Birth (lp f_r20_Birth 2)
        [(1, K.val tInt v1), (7, K.val (Ty.slc tNote) v7), (8, K.val tInt v8),
          (9, K.val tInt (IntKind.wrap IntKind.i64 (v9 + 1)))]
        [])))
  (TreeS.ret (K.val (Ty.pair tInt Ty.unit) (-1, PUnit.unit)))
theorem TL_r20_Birth_2_eq (v1 : den tInt) (v7 : den (Ty.slc tNote)) (v8 : den tInt) (v9 : den tInt) : treeS X_r20_Birth M_r20_Birth 5000 [] fx_r20_Birth (lp f_r20_Birth 2) (E_r20_Birth_2 v1 v7 v8 v9) = TL_r20_Birth_2 v1 v7 v8 v9 := by kernel_rfl

noncomputable abbrev fx_r20_Admitted : Fx := { fn := f_r20_Admitted, ann := { loops := [(2, { keep := [3, 7, 8, 9] })] } }
noncomputable abbrev X_r20_Admitted : TabX := { D := { T := tyTab, F := [], R := [], ovl := [] }, inl := [] }
noncomputable abbrev M_r20_Admitted : RMode := .data rs_r20_Admitted
theorem x_r20_Admitted : XOk prog X_r20_Admitted := xok ((dok_nil tab_ok mixed_ok)) (by kernel_rfl) rows_nil inl_nil ovl_nil
noncomputable def T_r20_Admitted (l : den (Ty.slc tNote)) (x : den tTrigger) : TreeS :=
  TreeS.loop [] fx_r20_Admitted (lp f_r20_Admitted 2)
  [(3, K.ptr 0 tTrigger []), (7, K.val (Ty.slc tNote) l), (8, K.val tInt (lnx tNote l)), (9, K.val tInt 0)]
  [(0, Bx.cell tTrigger x)]
theorem T_r20_Admitted_eq (l : den (Ty.slc tNote)) (x : den tTrigger) : treeS X_r20_Admitted M_r20_Admitted 5000 [] fx_r20_Admitted (bodyOf f_r20_Admitted) (Env.of
  (argEnv as_r20_Admitted (l, x, ()) 0) []) = T_r20_Admitted l x := by kernel_rfl

noncomputable def E_r20_Admitted_2 (v7 : den (Ty.slc tNote)) (v8 : den tInt) (v9 : den tInt) (b0 : den tTrigger) : Env := Env.of
  [(3, K.ptr 0 tTrigger []), (7, K.val (Ty.slc tNote) v7), (8, K.val tInt v8), (9, K.val tInt v9)]
  [(0, Bx.cell tTrigger b0)]
noncomputable def TL_r20_Admitted_2 (v7 : den (Ty.slc tNote)) (v8 : den tInt) (v9 : den tInt) (b0 : den tTrigger) : TreeS :=
  TreeS.ite (decide (v9 < v8))
  (TreeS.req (inB v9 (lnx tNote v7))
    (TreeS.ite
      (bif decide (Prod.fst (el tNote v7 v9) = 2) then
        eqb tTrigger (Prod.fst (Prod.snd (Prod.snd (Prod.snd (Prod.snd (Prod.snd (el tNote v7 v9))))))) b0
      else false)
      (TreeS.ret (K.val (Ty.pair Ty.bool Ty.unit) (true, PUnit.unit)))
      (TreeS.loop [] fx_r20_Admitted (lp f_r20_Admitted 2)
        [(3, K.ptr 0 tTrigger []), (7, K.val (Ty.slc tNote) v7), (8, K.val tInt v8),
          (9, K.val tInt (IntKind.wrap IntKind.i64 (v9 + 1)))]
        [(0, Bx.cell tTrigger b0)])))
  (TreeS.ret (K.val (Ty.pair Ty.bool Ty.unit) (false, PUnit.unit)))
theorem TL_r20_Admitted_2_eq (v7 : den (Ty.slc tNote)) (v8 : den tInt) (v9 : den tInt) (b0 : den tTrigger) : treeS X_r20_Admitted M_r20_Admitted 5000 [] fx_r20_Admitted (lp f_r20_Admitted 2) (E_r20_Admitted_2 v7 v8 v9 b0) = TL_r20_Admitted_2 v7 v8 v9 b0 := by kernel_rfl

noncomputable abbrev fx_l20_few : Fx := { fn := f_l20_few, ann := { loops := [(3, { keep := [3, 10, 11, 12], own := [(3, tNote)] })] } }
noncomputable abbrev X_l20_few : TabX := { D := { T := tyTab, F := [], R := [], ovl := [] }, inl := [] }
noncomputable abbrev M_l20_few : RMode := .data rs_l20_few
theorem x_l20_few : XOk prog X_l20_few := xok ((dok_nil tab_ok mixed_ok)) (by kernel_rfl) rows_nil inl_nil ovl_nil
noncomputable def T_l20_few (l : den (Ty.slc tNote)) : TreeS :=
  TreeS.req (cutOk 0 (minI (lnx tNote l) 40) (lnx tNote l))
  (TreeS.loop [] fx_l20_few (lp f_l20_few 3)
    [(3, K.sl 0 tNote), (10, K.val (Ty.slc tNote) (lCutx tNote l 0 (minI (lnx tNote l) 40))),
      (11, K.val tInt (lnx tNote (lCutx tNote l 0 (minI (lnx tNote l) 40)))), (12, K.val tInt 0)]
    [(0, Bx.row tNote [])])
theorem T_l20_few_eq (l : den (Ty.slc tNote)) : treeS X_l20_few M_l20_few 5000 [] fx_l20_few (bodyOf f_l20_few) (Env.of
  (argEnv as_l20_few (l, ()) 0) []) = T_l20_few l := by kernel_rfl

noncomputable def E_l20_few_3 (v10 : den (Ty.slc tNote)) (v11 : den tInt) (v12 : den tInt) (b0 : List (den tNote)) : Env := Env.of
  [(3, K.sl 0 tNote), (10, K.val (Ty.slc tNote) v10), (11, K.val tInt v11), (12, K.val tInt v12)] [(0, Bx.row tNote b0)]
noncomputable def TL_l20_few_3 (v10 : den (Ty.slc tNote)) (v11 : den tInt) (v12 : den tInt) (b0 : List (den tNote)) : TreeS :=
  TreeS.ite (decide (v12 < v11))
  (TreeS.req (inB v12 (lnx tNote v10))
    (TreeS.req
      (cutOk 0
        (minI (sLen (Prod.fst (Prod.snd (Prod.snd (Prod.snd (Prod.snd (Prod.snd (Prod.snd (el tNote v10 v12))))))))) 70)
        (sLen (Prod.fst (Prod.snd (Prod.snd (Prod.snd (Prod.snd (Prod.snd (Prod.snd (el tNote v10 v12))))))))))
      (TreeS.req
        (List.length
            (b0 ++
              List.set (List.replicate 1 (zero tNote)) 0
                (Prod.fst (el tNote v10 v12), Prod.fst (Prod.snd (el tNote v10 v12)),
                  Prod.fst (Prod.snd (Prod.snd (el tNote v10 v12))),
                  Prod.fst (Prod.snd (Prod.snd (Prod.snd (el tNote v10 v12)))),
                  Prod.fst (Prod.snd (Prod.snd (Prod.snd (Prod.snd (el tNote v10 v12))))),
                  Prod.fst (Prod.snd (Prod.snd (Prod.snd (Prod.snd (Prod.snd (el tNote v10 v12)))))),
                  sCut (Prod.fst (Prod.snd (Prod.snd (Prod.snd (Prod.snd (Prod.snd (Prod.snd (el tNote v10 v12)))))))) 0
                    (minI
                      (sLen
                        (Prod.fst (Prod.snd (Prod.snd (Prod.snd (Prod.snd (Prod.snd (Prod.snd (el tNote v10 v12)))))))))
                      70),
                  Prod.snd (Prod.snd (Prod.snd (Prod.snd (Prod.snd (Prod.snd (Prod.snd (el tNote v10 v12))))))))) ≤
          most)
        (TreeS.loop [] fx_l20_few (lp f_l20_few 3)
          [(3, K.sl 0 tNote), (10, K.val (Ty.slc tNote) v10), (11, K.val tInt v11),
            (12, K.val tInt (IntKind.wrap IntKind.i64 (v12 + 1)))]
          [(0,
              Bx.row tNote
                (b0 ++
                  List.set (List.replicate 1 (zero tNote)) 0
                    (Prod.fst (el tNote v10 v12), Prod.fst (Prod.snd (el tNote v10 v12)),
                      Prod.fst (Prod.snd (Prod.snd (el tNote v10 v12))),
                      Prod.fst (Prod.snd (Prod.snd (Prod.snd (el tNote v10 v12)))),
                      Prod.fst (Prod.snd (Prod.snd (Prod.snd (Prod.snd (el tNote v10 v12))))),
                      Prod.fst (Prod.snd (Prod.snd (Prod.snd (Prod.snd (Prod.snd (el tNote v10 v12)))))),
                      sCut
                        (Prod.fst (Prod.snd (Prod.snd (Prod.snd (Prod.snd (Prod.snd (Prod.snd (el tNote v10 v12))))))))
                        0
                        (minI
                          (sLen
                            (Prod.fst
                              (Prod.snd (Prod.snd (Prod.snd (Prod.snd (Prod.snd (Prod.snd (el tNote v10 v12)))))))))
                          70),
                      Prod.snd
                        (Prod.snd (Prod.snd (Prod.snd (Prod.snd (Prod.snd (Prod.snd (el tNote v10 v12))))))))))]))))
  (TreeS.ret (K.val (Ty.pair (Ty.slc tNote) Ty.unit) (b0, PUnit.unit)))
theorem TL_l20_few_3_eq (v10 : den (Ty.slc tNote)) (v11 : den tInt) (v12 : den tInt) (b0 : List (den tNote)) : treeS X_l20_few M_l20_few 5000 [] fx_l20_few (lp f_l20_few 3) (E_l20_few_3 v10 v11 v12 b0) = TL_l20_few_3 v10 v11 v12 b0 := by kernel_rfl

end Go.Proofs.Ytainieginijaaaa

/- Notes: who is born, what is admitted; rows of triggers. -/
namespace Go.Proofs.Ytainieginijaaaa
open Go Go.RowKit

theorem range_ind {σ : Type} (n : Nat) (Inv : Nat → σ → Prop) (Q : Nat → σ → Prop) (step : ∀ i s, i < n → Inv i s → (∀ s', Inv (i + 1) s' → Q (i + 1) s') → Q i s) (last : ∀ s, Inv n s → Q n s) : ∀ (i : Nat) (s : σ), i ≤ n → Inv i s → Q i s := by
  intro i s hi
  obtain ⟨k, hk⟩ : ∃ k, k + i = n := ⟨n - i, by omega⟩
  induction k generalizing i s with
  | zero =>
    have e : i = n := by omega
    subst e
    exact last s
  | succ k ih =>
    intro hI
    exact step i s (by omega) hI fun s' h' => ih (i + 1) s' (by omega) (by omega) h'

theorem lnx_nat {e : Ty} (t : List (den e)) {i : Nat} : (decide ((i : Int) < lnx e t)) = decide (i < t.length) := by
  rw [Bool.eq_iff_iff, decide_eq_true_eq, decide_eq_true_eq]
  exact ⟨fun h => by have h : (i : Int) < (t.length : Int) := h; omega, fun h => by show (i : Int) < (t.length : Int); omega⟩

theorem small_i64 {n : Int} (h : -1000000000000 ≤ n ∧ n ≤ 1000000000000) : IntKind.wrap .i64 n = n := wr_i64 (by omega) (by omega)

abbrev Tr := den tTrigger
abbrev Nt := den tNote

/-! ### Rows of triggers -/

def ixT (x : Tr) : List Tr → Nat → Int
  | [], _ => -1
  | y :: l, i => if x = y then (i : Int) else ixT x l (i + 1)
noncomputable abbrev S_slices_Index_Trigger : Spec := ⟨as_slices_Index_Trigger, rs_slices_Index_Trigger, fun x => (ixT x.2.1 x.1 0, ()), fun x => x.1.length ≤ 1000000, false⟩

theorem eqb_tr (a b : Tr) : eqb tTrigger a b = decide (a = b) := Bool.eq_iff_iff.2 ((eqb_iff (t := tTrigger) rfl _ _).trans decide_eq_true_iff.symm)

def gl_slices_Index_Trigger (O : Nat → Prop) (w0 : World) (s : List Tr) (x : Tr) (hl : s.length ≤ 1000000) :=
  PLift.up <| range_ind (σ := Unit) s.length (fun _ _ => True)
    (fun i _ => GoodS prog X_slices_Index_Trigger (Cx.base O w0) (Ends prog O w0 rs_slices_Index_Trigger fun y => y = (ixT x (s.drop i) i, ())) [] fx_slices_Index_Trigger (lp f_slices_Index_Trigger 2) (E_slices_Index_Trigger_2 s (lnx tTrigger s) (i : Nat) x))
    (fun i u hi _ ih => goodS_of x_slices_Index_Trigger (TL_slices_Index_Trigger_2_eq s _ _ x) (by
      refine ⟨fun _ => ⟨inB_of hi, ?_⟩, fun h => ?_⟩
      · rw [el_at hi, wr_idx hi (by omega), eqb_tr, List.drop_eq_getElem_cons hi, ixT]
        refine ⟨fun h => ⟨_, rfl, ?_⟩, fun h => ?_⟩
        · rw [if_pos (of_decide_eq_true h)]
        · rw [if_neg (of_decide_eq_false h)]; exact ih () trivial
      · rw [lnx_nat] at h
        exact absurd hi (of_decide_eq_false h)))
    (fun u _ => goodS_of x_slices_Index_Trigger (TL_slices_Index_Trigger_2_eq s _ _ x) (by
      refine ⟨fun h => ?_, fun _ => ⟨_, rfl, ?_⟩⟩
      · rw [lnx_nat] at h
        exact absurd (of_decide_eq_true h) (Nat.lt_irrefl _)
      · rw [List.drop_length]; rfl))
theorem k_slices_Index_Trigger : FnOk prog [] n_slices_Index_Trigger S_slices_Index_Trigger :=
  fnS_T (S := S_slices_Index_Trigger) x_slices_Index_Trigger (fx := fx_slices_Index_Trigger) at_slices_Index_Trigger (by kernel_rfl) (fun h => by cases h) (T := fun x => T_slices_Index_Trigger x.1 x.2.1) (fun x => T_slices_Index_Trigger_eq x.1 x.2.1) fun O w0 x _ hp =>
    (gl_slices_Index_Trigger O w0 x.1 x.2.1 hp).down 0 () (Nat.zero_le _) trivial

theorem ixT_mem (x : Tr) : ∀ (l : List Tr) (i : Nat), (0 ≤ ixT x l i) ↔ x ∈ l
  | [], i => by simp [ixT]
  | y :: l, i => by
    rw [ixT]
    split
    · rename_i e; subst e; simp
    · rename_i e
      rw [ixT_mem x l (i + 1), List.mem_cons]
      exact ⟨.inr, fun h => h.resolve_left e⟩

def g_has (l : List Tr) (x : Tr) : Bool := decide (x ∈ l)
noncomputable abbrev S_slices_Contains_Trigger : Spec := ⟨as_slices_Contains_Trigger, rs_slices_Contains_Trigger, fun x => (g_has x.1 x.2.1, ()), fun x => x.1.length ≤ 1000000, false⟩

noncomputable abbrev S_l20_same : Spec := ⟨as_l20_same, rs_l20_same, fun x => (decide (x.1 = x.2.1), ()), fun _ => True, true⟩
def gl_l20_same (O : Nat → Prop) (w0 : World) (a b : List Tr) (hl : a.length = b.length) (hm : a.length ≤ maxLen) :=
  PLift.up <| range_ind (σ := Unit) a.length (fun i _ => a.take i = b.take i)
    (fun i _ => GoodS prog X_l20_same (Cx.base O w0) (Ends prog O w0 rs_l20_same fun y => y = (decide (a = b), ())) [] fx_l20_same (lp f_l20_same 4) (E_l20_same_4 a b (lnx tTrigger a) (i : Nat)))
    (fun i u hi hs ih => goodS_of x_l20_same (TL_l20_same_4_eq a b _ _) (by
      have hj : i < b.length := by omega
      refine ⟨fun _ => ⟨inB_of hi, inB_of hj, ?_⟩, fun h => ?_⟩
      · have hm' : maxLen ≤ 9223372036854775807 := by decide
        rw [el_at hi, el_at hj, wr_idx hi (by omega), eqb_tr]
        refine ⟨fun h => ⟨_, rfl, ?_⟩, fun h => ih () ?_⟩
        · have h : ¬ a[i] = b[i] := by simpa using h
          have : ¬ a = b := fun e => h (by subst e; rfl)
          rw [decide_eq_false this]
        · have h : a[i] = b[i] := by simpa using h
          rw [List.take_succ_eq_append_getElem hi, List.take_succ_eq_append_getElem hj, hs, h]
      · rw [lnx_nat] at h
        exact absurd hi (of_decide_eq_false h)))
    (fun u hs => goodS_of x_l20_same (TL_l20_same_4_eq a b _ _) (by
      refine ⟨fun h => ?_, fun _ => ⟨_, rfl, ?_⟩⟩
      · rw [lnx_nat] at h
        exact absurd (of_decide_eq_true h) (Nat.lt_irrefl _)
      · have hs : a.take a.length = b.take a.length := hs
        rw [List.take_length, hl, List.take_length] at hs
        rw [decide_eq_true hs]))
theorem k_l20_same : FnOk prog [] n_l20_same S_l20_same :=
  fnS_T (S := S_l20_same) x_l20_same (fx := fx_l20_same) at_l20_same (by kernel_rfl) (fun _ _ => trivial) (T := fun x => T_l20_same x.1 x.2.1) (fun x => T_l20_same_eq x.1 x.2.1) fun O w0 x hk _ => by
    obtain ⟨a, b, ⟨⟩⟩ := x
    have hm : a.length ≤ maxLen := hk.1.1
    refine ⟨fun h => ⟨_, rfl, ?_⟩, fun h => ?_⟩
    · have h : (!decide ((a.length : Int) = b.length)) = true := h
      have h : ¬ (a.length : Int) = b.length := by simpa using h
      have : ¬ a = b := fun e => h (by rw [e])
      show (false, ()) = (decide (a = b), ())
      rw [decide_eq_false this]
    · have h : (!decide ((a.length : Int) = b.length)) = false := h
      have h : (a.length : Int) = b.length := by simpa using h
      exact (gl_l20_same O w0 a b (by omega) hm).down 0 () (Nat.zero_le _) rfl

/-! ### Births -/

def isBirth (n : Int) (x : Nt) : Bool := (decide (x.1 = (1 : Int)) || decide (x.1 = (3 : Int))) && decide ((x.2.2.2.2.1 : Int) = n)
def birthN (n : Int) : List Nt → Nat → Int
  | [], _ => -1
  | x :: l, i => if isBirth n x then (i : Int) else birthN n l (i + 1)
noncomputable abbrev S_r20_Birth : Spec := ⟨as_r20_Birth, rs_r20_Birth, fun x => (birthN x.2.1 x.1 0, ()), fun x => x.1.length ≤ 1000000, false⟩
def gl_r20_Birth (O : Nat → Prop) (w0 : World) (l : List Nt) (n : Int) (hl : l.length ≤ 1000000) :=
  PLift.up <| range_ind (σ := Unit) l.length (fun _ _ => True)
    (fun i _ => GoodS prog X_r20_Birth (Cx.base O w0) (Ends prog O w0 rs_r20_Birth fun y => y = (birthN n (l.drop i) i, ())) [] fx_r20_Birth (lp f_r20_Birth 2) (E_r20_Birth_2 n l (lnx tNote l) (i : Nat)))
    (fun i u hi _ ih => goodS_of x_r20_Birth (TL_r20_Birth_2_eq n l _ _) (by
      refine ⟨fun _ => ⟨inB_of hi, ?_⟩, fun h => ?_⟩
      · rw [el_at hi, wr_idx hi (by omega), List.drop_eq_getElem_cons hi, birthN]
        have hc : (bif bif decide (Prod.fst l[i] = (1 : Int)) then true else decide (Prod.fst l[i] = (3 : Int)) then decide (Prod.fst (Prod.snd (Prod.snd (Prod.snd (Prod.snd l[i])))) = n) else false) = isBirth n l[i] := by
          unfold isBirth
          cases decide (Prod.fst l[i] = (1 : Int)) <;> cases decide (Prod.fst l[i] = (3 : Int)) <;> rfl
        rw [hc]
        refine ⟨fun h => ⟨_, rfl, ?_⟩, fun h => ?_⟩
        · rw [if_pos h]
        · rw [if_neg (by rw [h]; simp)]; exact ih () trivial
      · rw [lnx_nat] at h
        exact absurd hi (of_decide_eq_false h)))
    (fun u _ => goodS_of x_r20_Birth (TL_r20_Birth_2_eq n l _ _) (by
      refine ⟨fun h => ?_, fun _ => ⟨_, rfl, ?_⟩⟩
      · rw [lnx_nat] at h
        exact absurd (of_decide_eq_true h) (Nat.lt_irrefl _)
      · rw [List.drop_length]; rfl))
theorem k_r20_Birth : FnOk prog [] n_r20_Birth S_r20_Birth :=
  fnS_T (S := S_r20_Birth) x_r20_Birth (fx := fx_r20_Birth) at_r20_Birth (by kernel_rfl) (fun h => by cases h) (T := fun x => T_r20_Birth x.1 x.2.1) (fun x => T_r20_Birth_eq x.1 x.2.1) fun O w0 x _ hp =>
    (gl_r20_Birth O w0 x.1 x.2.1 hp).down 0 () (Nat.zero_le _) trivial

def isAdm (x : Tr) (y : Nt) : Bool := decide (y.1 = (2 : Int)) && decide (y.2.2.2.2.2.1 = x)
noncomputable abbrev S_r20_Admitted : Spec := ⟨as_r20_Admitted, rs_r20_Admitted, fun x => (x.1.any (isAdm x.2.1), ()), fun x => x.1.length ≤ 1000000, false⟩
def gl_r20_Admitted (O : Nat → Prop) (w0 : World) (l : List Nt) (x : Tr) (hl : l.length ≤ 1000000) :=
  PLift.up <| range_ind (σ := Unit) l.length (fun i _ => (l.take i).any (isAdm x) = false)
    (fun i _ => GoodS prog X_r20_Admitted (Cx.base O w0) (Ends prog O w0 rs_r20_Admitted fun y => y = (l.any (isAdm x), ())) [] fx_r20_Admitted (lp f_r20_Admitted 2) (E_r20_Admitted_2 l (lnx tNote l) (i : Nat) x))
    (fun i u hi hs ih => goodS_of x_r20_Admitted (TL_r20_Admitted_2_eq l _ _ x) (by
      refine ⟨fun _ => ⟨inB_of hi, ?_⟩, fun h => ?_⟩
      · rw [el_at hi, wr_idx hi (by omega), eqb_tr]
        have hc : (bif decide (Prod.fst l[i] = (2 : Int)) then decide (Prod.fst (Prod.snd (Prod.snd (Prod.snd (Prod.snd (Prod.snd l[i]))))) = x) else false) = isAdm x l[i] := by
          unfold isAdm
          cases decide (Prod.fst l[i] = (2 : Int)) <;> rfl
        rw [hc]
        refine ⟨fun h => ⟨_, rfl, ?_⟩, fun h => ih () ?_⟩
        · rw [List.any_eq_true.2 ⟨_, List.getElem_mem hi, h⟩]
        · rw [List.take_succ_eq_append_getElem hi, List.any_append, hs, List.any_cons, h]; rfl
      · rw [lnx_nat] at h
        exact absurd hi (of_decide_eq_false h)))
    (fun u hs => goodS_of x_r20_Admitted (TL_r20_Admitted_2_eq l _ _ x) (by
      refine ⟨fun h => ?_, fun _ => ⟨_, rfl, ?_⟩⟩
      · rw [lnx_nat] at h
        exact absurd (of_decide_eq_true h) (Nat.lt_irrefl _)
      · have hs : (l.take l.length).any (isAdm x) = false := hs
        rw [List.take_length] at hs
        rw [hs]))
theorem k_r20_Admitted : FnOk prog [] n_r20_Admitted S_r20_Admitted :=
  fnS_T (S := S_r20_Admitted) x_r20_Admitted (fx := fx_r20_Admitted) at_r20_Admitted (by kernel_rfl) (fun h => by cases h) (T := fun x => T_r20_Admitted x.1 x.2.1) (fun x => T_r20_Admitted_eq x.1 x.2.1) fun O w0 x _ hp =>
    (gl_r20_Admitted O w0 x.1 x.2.1 hp).down 0 () (Nat.zero_le _) rfl

/-! ### A few notes -/

def cutS (s : ByteArray) (n : Int) : ByteArray := sCut s 0 (minI (sLen s) n)
def cutN (x : Nt) : Nt := (x.1, x.2.1, x.2.2.1, x.2.2.2.1, x.2.2.2.2.1, x.2.2.2.2.2.1, cutS x.2.2.2.2.2.2.1 70, x.2.2.2.2.2.2.2)
def g_few (l : List Nt) : List Nt := (l.take 40).map cutN
noncomputable abbrev S_l20_few : Spec := ⟨as_l20_few, rs_l20_few, fun x => (g_few x.1, ()), fun _ => True, true⟩

theorem cut_ok (s : ByteArray) {n : Int} (hn : 0 ≤ n) : cutOk 0 (minI (sLen s) n) (sLen s) := by
  have : 0 ≤ sLen s := Int.natCast_nonneg _
  unfold cutOk minI
  split <;> omega
theorem cut_row {e : Ty} (l : List (den e)) {n : Nat} : cutOk 0 (minI (lnx e l) n) (lnx e l) ∧ lCutx e l 0 (minI (lnx e l) n) = l.take n := by
  have h : lnx e l = (l.length : Int) := rfl
  rw [h]
  constructor
  · unfold cutOk minI; split <;> omega
  · show (l.take (minI (l.length : Int) n).toNat).drop 0 = l.take n
    rw [List.drop_zero]
    unfold minI
    split
    · rfl
    · rw [List.take_of_length_le (by omega), List.take_of_length_le (by omega)]

def gl_l20_few (O : Nat → Prop) (w0 : World) (l : List Nt) (hl : l.length ≤ 40) :=
  PLift.up <| range_ind (σ := List Nt) l.length (fun i s => s = (l.take i).map cutN)
    (fun i s => GoodS prog X_l20_few (Cx.base O w0) (Ends prog O w0 rs_l20_few fun y => y = (l.map cutN, ())) [] fx_l20_few (lp f_l20_few 3) (E_l20_few_3 l (lnx tNote l) (i : Nat) s))
    (fun i s hi hs ih => goodS_of x_l20_few (TL_l20_few_3_eq l _ _ s) (by
      refine ⟨fun _ => ⟨inB_of hi, ?_⟩, fun h => ?_⟩
      · rw [el_at hi, wr_idx hi (by omega)]
        refine ⟨cut_ok _ (by decide), ?_, ih (s ++ [cutN l[i]]) ?_⟩
        · simp only [List.length_append, List.length_set, List.length_replicate, most]
          rw [hs, List.length_map, List.length_take]
          omega
        · rw [List.take_succ_eq_append_getElem hi, List.map_append, hs]; rfl
      · rw [lnx_nat] at h
        exact absurd hi (of_decide_eq_false h)))
    (fun s hs => goodS_of x_l20_few (TL_l20_few_3_eq l _ _ s) (by
      refine ⟨fun h => ?_, fun _ => ⟨_, rfl, ?_⟩⟩
      · rw [lnx_nat] at h
        exact absurd (of_decide_eq_true h) (Nat.lt_irrefl _)
      · have hs : s = (l.take l.length).map cutN := hs
        rw [List.take_length] at hs
        rw [hs]))
theorem k_l20_few : FnOk prog [] n_l20_few S_l20_few :=
  fnS_T (S := S_l20_few) x_l20_few (fx := fx_l20_few) at_l20_few (by kernel_rfl) (fun _ _ => trivial) (T := fun x => T_l20_few x.1) (fun x => T_l20_few_eq x.1) fun O w0 x _ _ => by
    obtain ⟨l, ⟨⟩⟩ := x
    obtain ⟨h1, h2⟩ := cut_row (e := tNote) l (n := 40)
    refine ⟨h1, ?_⟩
    show GoodS prog X_l20_few (Cx.base O w0) (Ends prog O w0 rs_l20_few fun y => y = (g_few l, ())) [] fx_l20_few (lp f_l20_few 3) (E_l20_few_3 (lCutx tNote l 0 (minI (lnx tNote l) (40 : Nat))) (lnx tNote (lCutx tNote l 0 (minI (lnx tNote l) (40 : Nat)))) 0 [])
    rw [h2]
    exact (gl_l20_few O w0 (l.take 40) (by rw [List.length_take]; omega)).down 0 [] (Nat.zero_le _) rfl

end Go.Proofs.Ytainieginijaaaa

/- The trees of functions' bodies, as the evaluator prints them. -/
namespace Go.Proofs.Ytainieginijaaaa
open Go Go.RowKit

noncomputable abbrev fx_slices_Contains_Trigger : Fx := { fn := f_slices_Contains_Trigger, ann := { } }
noncomputable abbrev X_slices_Contains_Trigger : TabX := { D := { T := tyTab, F := [(n_slices_Index_Trigger, S_slices_Index_Trigger)], R := [], ovl := [] }, inl := [] }
noncomputable abbrev M_slices_Contains_Trigger : RMode := .data rs_slices_Contains_Trigger
theorem x_slices_Contains_Trigger (h_slices_Index_Trigger : FnOk prog [] n_slices_Index_Trigger S_slices_Index_Trigger) : XOk prog X_slices_Contains_Trigger := xok (dok_add (dok_nil tab_ok mixed_ok) h_slices_Index_Trigger) (by kernel_rfl) rows_nil inl_nil ovl_nil
noncomputable def T_slices_Contains_Trigger (s : den (Ty.slc tTrigger)) (x : den tTrigger) : TreeS :=
  TreeS.req (List.length s ≤ 1000000) (TreeS.ret (K.val (Ty.pair Ty.bool Ty.unit) (decide (0 ≤ ixT x s 0), PUnit.unit)))
theorem T_slices_Contains_Trigger_eq (s : den (Ty.slc tTrigger)) (x : den tTrigger) : treeS X_slices_Contains_Trigger M_slices_Contains_Trigger 5000 [] fx_slices_Contains_Trigger (bodyOf f_slices_Contains_Trigger) (Env.of
  (argEnv as_slices_Contains_Trigger (s, x, ()) 0) []) = T_slices_Contains_Trigger s x := by kernel_rfl

noncomputable abbrev fx_trace_read : Fx := { fn := f_trace_read, ann := { loops := [(5, { keep := [0, 5, 15, 16, 17], own := [(5, (.mp (.arr 1 .bool) tTrigger))] })], frz := [(1000005, [0, 1])] }, share := true }
noncomputable abbrev fx_trace_book_takes : Fx := { fn := f_trace_book_takes, ann := { }, share := true }
noncomputable abbrev fx_trace_Check : Fx := { fn := f_trace_Check, ann := { }, share := true }
noncomputable abbrev X_trace_Check : TabX := { D := { T := tyTab, F := [(n_slices_Contains_Trigger, S_slices_Contains_Trigger)], R := [], ovl := [] }, inl := [(n_trace_read, fx_trace_read), (n_trace_book_takes, fx_trace_book_takes)] }
noncomputable abbrev M_trace_Check : RMode := .data rs_trace_Check
theorem x_trace_Check (h_slices_Contains_Trigger : FnOk prog [] n_slices_Contains_Trigger S_slices_Contains_Trigger) : XOk prog X_trace_Check := xok (dok_add (dok_nil tab_ok mixed_ok) h_slices_Contains_Trigger) (by kernel_rfl) rows_nil (inl_add at_trace_read (by kernel_rfl) (inl_add at_trace_book_takes (by kernel_rfl) inl_nil)) ovl_nil
noncomputable def T_trace_Check (l : den (Ty.slc tNote)) : TreeS :=
  TreeS.ite (decide (1000 < lnx tNote l)) (TreeS.ret (K.val (Ty.pair tInt (Ty.pair tInt Ty.unit)) (0, 2, PUnit.unit)))
  (TreeS.loop
    [{ fx := fx_trace_Check, todo := afterOp f_trace_Check 1 1, dst := some 9, s := ofS [(0, K.val (Ty.slc tNote) l)] }]
    fx_trace_read (lp f_trace_read 5)
    [(0, K.val (Ty.slc tNote) l), (5, K.ptr 0 tTraceBook []), (15, K.val (Ty.slc tNote) l),
      (16, K.val tInt (lnx tNote l)), (17, K.val tInt 0)]
    [(0,
        Bx.obj tTraceBook
          (K.agg
            (Ty.pair (Ty.mp tInt tTraceLetter)
              (Ty.pair (Ty.slc tTrigger) (Ty.pair (Ty.mp tInt tInt) (Ty.pair tInt Ty.unit))))
            (K.kcons (K.pm (0 + 1))
              (K.kcons (K.sl (0 + 1 + 1) tTrigger)
                (K.kcons (K.pm (0 + 1 + 1 + 1)) (K.kcons (K.val tInt (zero tInt)) K.knil)))))),
      (0 + 1, Bx.mpd tInt tTraceLetter []), (0 + 1 + 1, Bx.row tTrigger []), (0 + 1 + 1 + 1, Bx.mpd tInt tInt [])])
theorem T_trace_Check_eq (l : den (Ty.slc tNote)) : treeS X_trace_Check M_trace_Check 5000 [] fx_trace_Check (bodyOf f_trace_Check) (Env.of
  (argEnv as_trace_Check (l, ()) 0) []) = T_trace_Check l := by kernel_rfl

noncomputable def Q_trace_Check_trace_read_5 (w0_0 : den (Ty.slc tNote)) (v0 : den (Ty.slc tNote)) (v15 : den (Ty.slc tNote)) (v16 : den tInt) (v17 : den tInt) (b0 : den tInt) (b1 : List (den tInt × den tTraceLetter)) (b2 : List (den tTrigger)) (b3 : List (den tInt × den tInt)) : List Cont := [{
    fx := fx_trace_Check, todo := afterOp f_trace_Check 1 1, dst := some 9, s := ofS [(0, K.val (Ty.slc tNote) w0_0)] }]
noncomputable def E_trace_Check_trace_read_5 (w0_0 : den (Ty.slc tNote)) (v0 : den (Ty.slc tNote)) (v15 : den (Ty.slc tNote)) (v16 : den tInt) (v17 : den tInt) (b0 : den tInt) (b1 : List (den tInt × den tTraceLetter)) (b2 : List (den tTrigger)) (b3 : List (den tInt × den tInt)) : Env := Env.of
  [(0, K.val (Ty.slc tNote) v0), (5, K.ptr 0 tTraceBook []), (15, K.val (Ty.slc tNote) v15), (16, K.val tInt v16),
    (17, K.val tInt v17)]
  [(0,
      Bx.obj tTraceBook
        (K.agg
          (Ty.pair (Ty.mp tInt tTraceLetter)
            (Ty.pair (Ty.slc tTrigger) (Ty.pair (Ty.mp tInt tInt) (Ty.pair tInt Ty.unit))))
          (K.kcons (K.pm (0 + 1))
            (K.kcons (K.sl (0 + 1 + 1) tTrigger) (K.kcons (K.pm (0 + 1 + 1 + 1)) (K.kcons (K.val tInt b0) K.knil)))))),
    (1, Bx.mpd tInt tTraceLetter b1), (2, Bx.row tTrigger b2), (3, Bx.mpd tInt tInt b3)]
noncomputable def TL_trace_Check_trace_read_5 (w0_0 : den (Ty.slc tNote)) (v0 : den (Ty.slc tNote)) (v15 : den (Ty.slc tNote)) (v16 : den tInt) (v17 : den tInt) (b0 : den tInt) (b1 : List (den tInt × den tTraceLetter)) (b2 : List (den tTrigger)) (b3 : List (den tInt × den tInt)) : TreeS :=
  TreeS.ite (decide (v17 < v16))
  (TreeS.req (inB v17 (lnx tNote v15))
    (TreeS.ite (decide (v17 = 0))
      (TreeS.ite (decide (Prod.fst (Prod.snd (el tNote v15 v17)) < Prod.fst (Prod.snd (el tNote v15 v17))))
        (TreeS.ite (!false) (TreeS.ret (K.val (Ty.pair tInt (Ty.pair tInt Ty.unit)) (v17, 11, PUnit.unit)))
          (TreeS.loop
            [{ fx := fx_trace_Check, todo := afterOp f_trace_Check 1 1, dst := some 9,
                s := ofS [(0, K.val (Ty.slc tNote) w0_0)] }]
            fx_trace_read (lp f_trace_read 5)
            [(0, K.val (Ty.slc tNote) v0), (5, K.ptr 0 tTraceBook []), (15, K.val (Ty.slc tNote) v15),
              (16, K.val tInt v16), (17, K.val tInt (IntKind.wrap IntKind.i64 (v17 + 1)))]
            [(0,
                Bx.obj tTraceBook
                  (K.agg
                    (Ty.pair (Ty.mp tInt tTraceLetter)
                      (Ty.pair (Ty.slc tTrigger) (Ty.pair (Ty.mp tInt tInt) (Ty.pair tInt Ty.unit))))
                    (K.kcons (K.pm (0 + 1))
                      (K.kcons (K.sl (0 + 1 + 1) tTrigger)
                        (K.kcons (K.pm (0 + 1 + 1 + 1))
                          (K.kcons (K.val tInt (Prod.fst (Prod.snd (el tNote v15 v17)))) K.knil)))))),
              (0 + 1, Bx.mpd tInt tTraceLetter b1), (0 + 1 + 1, Bx.row tTrigger b2),
              (0 + 1 + 1 + 1, Bx.mpd tInt tInt b3)]))
        (TreeS.ite (decide (Prod.fst (el tNote v15 v17) = 1))
          (TreeS.ite
            (!bif decide (0 < Prod.fst (Prod.snd (Prod.snd (Prod.snd (Prod.snd (el tNote v15 v17)))))) then
                !mpHas b1 (Prod.fst (Prod.snd (Prod.snd (Prod.snd (Prod.snd (el tNote v15 v17))))))
              else false)
            (TreeS.ret (K.val (Ty.pair tInt (Ty.pair tInt Ty.unit)) (v17, 11, PUnit.unit)))
            (TreeS.loop
              [{ fx := fx_trace_Check, todo := afterOp f_trace_Check 1 1, dst := some 9,
                  s := ofS [(0, K.val (Ty.slc tNote) w0_0)] }]
              fx_trace_read (lp f_trace_read 5)
              [(0, K.val (Ty.slc tNote) v0), (5, K.ptr 0 tTraceBook []), (15, K.val (Ty.slc tNote) v15),
                (16, K.val tInt v16), (17, K.val tInt (IntKind.wrap IntKind.i64 (v17 + 1)))]
              [(0,
                  Bx.obj tTraceBook
                    (K.agg
                      (Ty.pair (Ty.mp tInt tTraceLetter)
                        (Ty.pair (Ty.slc tTrigger) (Ty.pair (Ty.mp tInt tInt) (Ty.pair tInt Ty.unit))))
                      (K.kcons (K.pm (0 + 1))
                        (K.kcons (K.sl (0 + 1 + 1) tTrigger)
                          (K.kcons (K.pm (0 + 1 + 1 + 1))
                            (K.kcons (K.val tInt (Prod.fst (Prod.snd (el tNote v15 v17)))) K.knil)))))),
                (0 + 1,
                  Bx.mpd tInt tTraceLetter
                    (mpSet b1 (Prod.fst (Prod.snd (Prod.snd (Prod.snd (Prod.snd (el tNote v15 v17))))))
                      (Prod.fst (Prod.snd (Prod.snd (Prod.snd (Prod.snd (Prod.snd (Prod.snd (el tNote v15 v17))))))),
                        Prod.fst
                          (Prod.snd (zero (Ty.pair Ty.str (Ty.pair tInt (Ty.pair tTrigger (Ty.pair tInt Ty.unit)))))),
                        Prod.fst
                          (Prod.snd
                            (Prod.snd
                              (zero (Ty.pair Ty.str (Ty.pair tInt (Ty.pair tTrigger (Ty.pair tInt Ty.unit))))))),
                        Prod.fst (Prod.snd (Prod.snd (Prod.snd (Prod.snd (el tNote v15 v17))))),
                        Prod.snd
                          (Prod.snd
                            (Prod.snd
                              (Prod.snd
                                (zero (Ty.pair Ty.str (Ty.pair tInt (Ty.pair tTrigger (Ty.pair tInt Ty.unit))))))))))),
                (0 + 1 + 1, Bx.row tTrigger b2),
                (0 + 1 + 1 + 1,
                  Bx.mpd tInt tInt
                    (mpSet b3 (Prod.fst (Prod.snd (Prod.snd (Prod.snd (Prod.snd (el tNote v15 v17))))))
                      (Prod.fst (Prod.snd (Prod.snd (el tNote v15 v17))))))]))
          (TreeS.ite (decide (Prod.fst (el tNote v15 v17) = 2))
            (TreeS.req
              (List.length
                  (b2 ++
                    List.set (List.replicate 1 (zero tTrigger)) 0
                      (Prod.fst (Prod.snd (Prod.snd (Prod.snd (Prod.snd (Prod.snd (el tNote v15 v17)))))))) ≤
                most)
              (TreeS.ite (!true) (TreeS.ret (K.val (Ty.pair tInt (Ty.pair tInt Ty.unit)) (v17, 11, PUnit.unit)))
                (TreeS.loop
                  [{ fx := fx_trace_Check, todo := afterOp f_trace_Check 1 1, dst := some 9,
                      s := ofS [(0, K.val (Ty.slc tNote) w0_0)] }]
                  fx_trace_read (lp f_trace_read 5)
                  [(0, K.val (Ty.slc tNote) v0), (5, K.ptr 0 tTraceBook []), (15, K.val (Ty.slc tNote) v15),
                    (16, K.val tInt v16), (17, K.val tInt (IntKind.wrap IntKind.i64 (v17 + 1)))]
                  [(0,
                      Bx.obj tTraceBook
                        (K.agg
                          (Ty.pair (Ty.mp tInt tTraceLetter)
                            (Ty.pair (Ty.slc tTrigger) (Ty.pair (Ty.mp tInt tInt) (Ty.pair tInt Ty.unit))))
                          (K.kcons (K.pm (0 + 1))
                            (K.kcons (K.sl (0 + 1 + 1) tTrigger)
                              (K.kcons (K.pm (0 + 1 + 1 + 1))
                                (K.kcons (K.val tInt (Prod.fst (Prod.snd (el tNote v15 v17)))) K.knil)))))),
                    (0 + 1, Bx.mpd tInt tTraceLetter b1),
                    (0 + 1 + 1,
                      Bx.row tTrigger
                        (b2 ++
                          List.set (List.replicate 1 (zero tTrigger)) 0
                            (Prod.fst (Prod.snd (Prod.snd (Prod.snd (Prod.snd (Prod.snd (el tNote v15 v17))))))))),
                    (0 + 1 + 1 + 1, Bx.mpd tInt tInt b3)])))
            (TreeS.ite (decide (Prod.fst (el tNote v15 v17) = 3))
              (TreeS.req (List.length b2 ≤ 1000000)
                (TreeS.all (den Ty.bool)
                  (fun (q9 : den Ty.bool) ↦
                    q9 = g_has b2 (Prod.fst (Prod.snd (Prod.snd (Prod.snd (Prod.snd (Prod.snd (el tNote v15 v17))))))))
                  fun (q9 : den Ty.bool) ↦
                  TreeS.ite
                    (!bif
                          bif
                              bif mpHas b1 (Prod.fst (Prod.snd (Prod.snd (Prod.snd (el tNote v15 v17))))) then
                                decide (0 < Prod.fst (Prod.snd (Prod.snd (Prod.snd (Prod.snd (el tNote v15 v17))))))
                              else false then
                            !mpHas b1 (Prod.fst (Prod.snd (Prod.snd (Prod.snd (Prod.snd (el tNote v15 v17))))))
                          else false then
                        bif
                            bif
                                g_has b2
                                  (Prod.fst
                                    (Prod.snd (Prod.snd (Prod.snd (Prod.snd (Prod.snd (el tNote v15 v17))))))) then
                              decide
                                (Prod.fst (Prod.snd (el tNote v15 v17)) <
                                  Prod.fst
                                    (Prod.snd
                                      (Prod.snd
                                        (Prod.fst
                                          (Prod.snd (Prod.snd (Prod.snd (Prod.snd (Prod.snd (el tNote v15 v17))))))))))
                            else false then
                          true
                        else
                          eqb tTrigger
                            (Prod.fst (Prod.snd (Prod.snd (Prod.snd (Prod.snd (Prod.snd (el tNote v15 v17)))))))
                            (zero (Ty.pair tId (Ty.pair tEntry (Ty.pair tInt Ty.unit))))
                      else false)
                    (TreeS.ret (K.val (Ty.pair tInt (Ty.pair tInt Ty.unit)) (v17, 11, PUnit.unit)))
                    (TreeS.loop
                      [{ fx := fx_trace_Check, todo := afterOp f_trace_Check 1 1, dst := some 9,
                          s := ofS [(0, K.val (Ty.slc tNote) w0_0)] }]
                      fx_trace_read (lp f_trace_read 5)
                      [(0, K.val (Ty.slc tNote) v0), (5, K.ptr 0 tTraceBook []), (15, K.val (Ty.slc tNote) v15),
                        (16, K.val tInt v16), (17, K.val tInt (IntKind.wrap IntKind.i64 (v17 + 1)))]
                      [(0,
                          Bx.obj tTraceBook
                            (K.agg
                              (Ty.pair (Ty.mp tInt tTraceLetter)
                                (Ty.pair (Ty.slc tTrigger) (Ty.pair (Ty.mp tInt tInt) (Ty.pair tInt Ty.unit))))
                              (K.kcons (K.pm (0 + 1))
                                (K.kcons (K.sl (0 + 1 + 1) tTrigger)
                                  (K.kcons (K.pm (0 + 1 + 1 + 1))
                                    (K.kcons (K.val tInt (Prod.fst (Prod.snd (el tNote v15 v17)))) K.knil)))))),
                        (0 + 1,
                          Bx.mpd tInt tTraceLetter
                            (mpSet b1 (Prod.fst (Prod.snd (Prod.snd (Prod.snd (Prod.snd (el tNote v15 v17))))))
                              (Prod.fst (mpGet b1 (Prod.fst (Prod.snd (Prod.snd (Prod.snd (el tNote v15 v17)))))),
                                Prod.fst (Prod.snd (Prod.snd (Prod.snd (el tNote v15 v17)))),
                                Prod.fst (Prod.snd (Prod.snd (Prod.snd (Prod.snd (Prod.snd (el tNote v15 v17)))))),
                                Prod.fst
                                  (Prod.snd
                                    (Prod.snd
                                      (Prod.snd
                                        (mpGet b1 (Prod.fst (Prod.snd (Prod.snd (Prod.snd (el tNote v15 v17))))))))),
                                Prod.snd
                                  (Prod.snd
                                    (Prod.snd
                                      (Prod.snd
                                        (zero
                                          (Ty.pair Ty.str
                                            (Ty.pair tInt (Ty.pair tTrigger (Ty.pair tInt Ty.unit))))))))))),
                        (0 + 1 + 1, Bx.row tTrigger b2), (0 + 1 + 1 + 1, Bx.mpd tInt tInt b3)])))
              (TreeS.ite (decide (Prod.fst (el tNote v15 v17) = 4))
                (TreeS.ite
                  (!bif mpHas b1 (Prod.fst (Prod.snd (Prod.snd (Prod.snd (el tNote v15 v17))))) then
                      eqb Ty.str (Prod.fst (mpGet b1 (Prod.fst (Prod.snd (Prod.snd (Prod.snd (el tNote v15 v17)))))))
                        (Prod.fst (Prod.snd (Prod.snd (Prod.snd (Prod.snd (Prod.snd (Prod.snd (el tNote v15 v17))))))))
                    else false)
                  (TreeS.ret (K.val (Ty.pair tInt (Ty.pair tInt Ty.unit)) (v17, 11, PUnit.unit)))
                  (TreeS.loop
                    [{ fx := fx_trace_Check, todo := afterOp f_trace_Check 1 1, dst := some 9,
                        s := ofS [(0, K.val (Ty.slc tNote) w0_0)] }]
                    fx_trace_read (lp f_trace_read 5)
                    [(0, K.val (Ty.slc tNote) v0), (5, K.ptr 0 tTraceBook []), (15, K.val (Ty.slc tNote) v15),
                      (16, K.val tInt v16), (17, K.val tInt (IntKind.wrap IntKind.i64 (v17 + 1)))]
                    [(0,
                        Bx.obj tTraceBook
                          (K.agg
                            (Ty.pair (Ty.mp tInt tTraceLetter)
                              (Ty.pair (Ty.slc tTrigger) (Ty.pair (Ty.mp tInt tInt) (Ty.pair tInt Ty.unit))))
                            (K.kcons (K.pm (0 + 1))
                              (K.kcons (K.sl (0 + 1 + 1) tTrigger)
                                (K.kcons (K.pm (0 + 1 + 1 + 1))
                                  (K.kcons (K.val tInt (Prod.fst (Prod.snd (el tNote v15 v17)))) K.knil)))))),
                      (0 + 1, Bx.mpd tInt tTraceLetter b1), (0 + 1 + 1, Bx.row tTrigger b2),
                      (0 + 1 + 1 + 1, Bx.mpd tInt tInt b3)]))
                (TreeS.ite (!decide (Prod.fst (el tNote v15 v17) = 5))
                  (TreeS.ret (K.val (Ty.pair tInt (Ty.pair tInt Ty.unit)) (v17, 11, PUnit.unit)))
                  (TreeS.loop
                    [{ fx := fx_trace_Check, todo := afterOp f_trace_Check 1 1, dst := some 9,
                        s := ofS [(0, K.val (Ty.slc tNote) w0_0)] }]
                    fx_trace_read (lp f_trace_read 5)
                    [(0, K.val (Ty.slc tNote) v0), (5, K.ptr 0 tTraceBook []), (15, K.val (Ty.slc tNote) v15),
                      (16, K.val tInt v16), (17, K.val tInt (IntKind.wrap IntKind.i64 (v17 + 1)))]
                    [(0,
                        Bx.obj tTraceBook
                          (K.agg
                            (Ty.pair (Ty.mp tInt tTraceLetter)
                              (Ty.pair (Ty.slc tTrigger) (Ty.pair (Ty.mp tInt tInt) (Ty.pair tInt Ty.unit))))
                            (K.kcons (K.pm (0 + 1))
                              (K.kcons (K.sl (0 + 1 + 1) tTrigger)
                                (K.kcons (K.pm (0 + 1 + 1 + 1))
                                  (K.kcons (K.val tInt (Prod.fst (Prod.snd (el tNote v15 v17)))) K.knil)))))),
                      (0 + 1, Bx.mpd tInt tTraceLetter b1), (0 + 1 + 1, Bx.row tTrigger b2),
                      (0 + 1 + 1 + 1, Bx.mpd tInt tInt b3)])))))))
      (TreeS.ite (decide (Prod.fst (Prod.snd (el tNote v15 v17)) < b0))
        (TreeS.ite (!false) (TreeS.ret (K.val (Ty.pair tInt (Ty.pair tInt Ty.unit)) (v17, 11, PUnit.unit)))
          (TreeS.loop
            [{ fx := fx_trace_Check, todo := afterOp f_trace_Check 1 1, dst := some 9,
                s := ofS [(0, K.val (Ty.slc tNote) w0_0)] }]
            fx_trace_read (lp f_trace_read 5)
            [(0, K.val (Ty.slc tNote) v0), (5, K.ptr 0 tTraceBook []), (15, K.val (Ty.slc tNote) v15),
              (16, K.val tInt v16), (17, K.val tInt (IntKind.wrap IntKind.i64 (v17 + 1)))]
            [(0,
                Bx.obj tTraceBook
                  (K.agg
                    (Ty.pair (Ty.mp tInt tTraceLetter)
                      (Ty.pair (Ty.slc tTrigger) (Ty.pair (Ty.mp tInt tInt) (Ty.pair tInt Ty.unit))))
                    (K.kcons (K.pm (0 + 1))
                      (K.kcons (K.sl (0 + 1 + 1) tTrigger)
                        (K.kcons (K.pm (0 + 1 + 1 + 1)) (K.kcons (K.val tInt b0) K.knil)))))),
              (0 + 1, Bx.mpd tInt tTraceLetter b1), (0 + 1 + 1, Bx.row tTrigger b2),
              (0 + 1 + 1 + 1, Bx.mpd tInt tInt b3)]))
        (TreeS.ite (decide (Prod.fst (el tNote v15 v17) = 1))
          (TreeS.ite
            (!bif decide (0 < Prod.fst (Prod.snd (Prod.snd (Prod.snd (Prod.snd (el tNote v15 v17)))))) then
                !mpHas b1 (Prod.fst (Prod.snd (Prod.snd (Prod.snd (Prod.snd (el tNote v15 v17))))))
              else false)
            (TreeS.ret (K.val (Ty.pair tInt (Ty.pair tInt Ty.unit)) (v17, 11, PUnit.unit)))
            (TreeS.loop
              [{ fx := fx_trace_Check, todo := afterOp f_trace_Check 1 1, dst := some 9,
                  s := ofS [(0, K.val (Ty.slc tNote) w0_0)] }]
              fx_trace_read (lp f_trace_read 5)
              [(0, K.val (Ty.slc tNote) v0), (5, K.ptr 0 tTraceBook []), (15, K.val (Ty.slc tNote) v15),
                (16, K.val tInt v16), (17, K.val tInt (IntKind.wrap IntKind.i64 (v17 + 1)))]
              [(0,
                  Bx.obj tTraceBook
                    (K.agg
                      (Ty.pair (Ty.mp tInt tTraceLetter)
                        (Ty.pair (Ty.slc tTrigger) (Ty.pair (Ty.mp tInt tInt) (Ty.pair tInt Ty.unit))))
                      (K.kcons (K.pm (0 + 1))
                        (K.kcons (K.sl (0 + 1 + 1) tTrigger)
                          (K.kcons (K.pm (0 + 1 + 1 + 1))
                            (K.kcons (K.val tInt (Prod.fst (Prod.snd (el tNote v15 v17)))) K.knil)))))),
                (0 + 1,
                  Bx.mpd tInt tTraceLetter
                    (mpSet b1 (Prod.fst (Prod.snd (Prod.snd (Prod.snd (Prod.snd (el tNote v15 v17))))))
                      (Prod.fst (Prod.snd (Prod.snd (Prod.snd (Prod.snd (Prod.snd (Prod.snd (el tNote v15 v17))))))),
                        Prod.fst
                          (Prod.snd (zero (Ty.pair Ty.str (Ty.pair tInt (Ty.pair tTrigger (Ty.pair tInt Ty.unit)))))),
                        Prod.fst
                          (Prod.snd
                            (Prod.snd
                              (zero (Ty.pair Ty.str (Ty.pair tInt (Ty.pair tTrigger (Ty.pair tInt Ty.unit))))))),
                        Prod.fst (Prod.snd (Prod.snd (Prod.snd (Prod.snd (el tNote v15 v17))))),
                        Prod.snd
                          (Prod.snd
                            (Prod.snd
                              (Prod.snd
                                (zero (Ty.pair Ty.str (Ty.pair tInt (Ty.pair tTrigger (Ty.pair tInt Ty.unit))))))))))),
                (0 + 1 + 1, Bx.row tTrigger b2),
                (0 + 1 + 1 + 1,
                  Bx.mpd tInt tInt
                    (mpSet b3 (Prod.fst (Prod.snd (Prod.snd (Prod.snd (Prod.snd (el tNote v15 v17))))))
                      (Prod.fst (Prod.snd (Prod.snd (el tNote v15 v17))))))]))
          (TreeS.ite (decide (Prod.fst (el tNote v15 v17) = 2))
            (TreeS.req
              (List.length
                  (b2 ++
                    List.set (List.replicate 1 (zero tTrigger)) 0
                      (Prod.fst (Prod.snd (Prod.snd (Prod.snd (Prod.snd (Prod.snd (el tNote v15 v17)))))))) ≤
                most)
              (TreeS.ite (!true) (TreeS.ret (K.val (Ty.pair tInt (Ty.pair tInt Ty.unit)) (v17, 11, PUnit.unit)))
                (TreeS.loop
                  [{ fx := fx_trace_Check, todo := afterOp f_trace_Check 1 1, dst := some 9,
                      s := ofS [(0, K.val (Ty.slc tNote) w0_0)] }]
                  fx_trace_read (lp f_trace_read 5)
                  [(0, K.val (Ty.slc tNote) v0), (5, K.ptr 0 tTraceBook []), (15, K.val (Ty.slc tNote) v15),
                    (16, K.val tInt v16), (17, K.val tInt (IntKind.wrap IntKind.i64 (v17 + 1)))]
                  [(0,
                      Bx.obj tTraceBook
                        (K.agg
                          (Ty.pair (Ty.mp tInt tTraceLetter)
                            (Ty.pair (Ty.slc tTrigger) (Ty.pair (Ty.mp tInt tInt) (Ty.pair tInt Ty.unit))))
                          (K.kcons (K.pm (0 + 1))
                            (K.kcons (K.sl (0 + 1 + 1) tTrigger)
                              (K.kcons (K.pm (0 + 1 + 1 + 1))
                                (K.kcons (K.val tInt (Prod.fst (Prod.snd (el tNote v15 v17)))) K.knil)))))),
                    (0 + 1, Bx.mpd tInt tTraceLetter b1),
                    (0 + 1 + 1,
                      Bx.row tTrigger
                        (b2 ++
                          List.set (List.replicate 1 (zero tTrigger)) 0
                            (Prod.fst (Prod.snd (Prod.snd (Prod.snd (Prod.snd (Prod.snd (el tNote v15 v17))))))))),
                    (0 + 1 + 1 + 1, Bx.mpd tInt tInt b3)])))
            (TreeS.ite (decide (Prod.fst (el tNote v15 v17) = 3))
              (TreeS.req (List.length b2 ≤ 1000000)
                (TreeS.all (den Ty.bool)
                  (fun (q9 : den Ty.bool) ↦
                    q9 = g_has b2 (Prod.fst (Prod.snd (Prod.snd (Prod.snd (Prod.snd (Prod.snd (el tNote v15 v17))))))))
                  fun (q9 : den Ty.bool) ↦
                  TreeS.ite
                    (!bif
                          bif
                              bif mpHas b1 (Prod.fst (Prod.snd (Prod.snd (Prod.snd (el tNote v15 v17))))) then
                                decide (0 < Prod.fst (Prod.snd (Prod.snd (Prod.snd (Prod.snd (el tNote v15 v17))))))
                              else false then
                            !mpHas b1 (Prod.fst (Prod.snd (Prod.snd (Prod.snd (Prod.snd (el tNote v15 v17))))))
                          else false then
                        bif
                            bif
                                g_has b2
                                  (Prod.fst
                                    (Prod.snd (Prod.snd (Prod.snd (Prod.snd (Prod.snd (el tNote v15 v17))))))) then
                              decide
                                (Prod.fst (Prod.snd (el tNote v15 v17)) <
                                  Prod.fst
                                    (Prod.snd
                                      (Prod.snd
                                        (Prod.fst
                                          (Prod.snd (Prod.snd (Prod.snd (Prod.snd (Prod.snd (el tNote v15 v17))))))))))
                            else false then
                          true
                        else
                          eqb tTrigger
                            (Prod.fst (Prod.snd (Prod.snd (Prod.snd (Prod.snd (Prod.snd (el tNote v15 v17)))))))
                            (zero (Ty.pair tId (Ty.pair tEntry (Ty.pair tInt Ty.unit))))
                      else false)
                    (TreeS.ret (K.val (Ty.pair tInt (Ty.pair tInt Ty.unit)) (v17, 11, PUnit.unit)))
                    (TreeS.loop
                      [{ fx := fx_trace_Check, todo := afterOp f_trace_Check 1 1, dst := some 9,
                          s := ofS [(0, K.val (Ty.slc tNote) w0_0)] }]
                      fx_trace_read (lp f_trace_read 5)
                      [(0, K.val (Ty.slc tNote) v0), (5, K.ptr 0 tTraceBook []), (15, K.val (Ty.slc tNote) v15),
                        (16, K.val tInt v16), (17, K.val tInt (IntKind.wrap IntKind.i64 (v17 + 1)))]
                      [(0,
                          Bx.obj tTraceBook
                            (K.agg
                              (Ty.pair (Ty.mp tInt tTraceLetter)
                                (Ty.pair (Ty.slc tTrigger) (Ty.pair (Ty.mp tInt tInt) (Ty.pair tInt Ty.unit))))
                              (K.kcons (K.pm (0 + 1))
                                (K.kcons (K.sl (0 + 1 + 1) tTrigger)
                                  (K.kcons (K.pm (0 + 1 + 1 + 1))
                                    (K.kcons (K.val tInt (Prod.fst (Prod.snd (el tNote v15 v17)))) K.knil)))))),
                        (0 + 1,
                          Bx.mpd tInt tTraceLetter
                            (mpSet b1 (Prod.fst (Prod.snd (Prod.snd (Prod.snd (Prod.snd (el tNote v15 v17))))))
                              (Prod.fst (mpGet b1 (Prod.fst (Prod.snd (Prod.snd (Prod.snd (el tNote v15 v17)))))),
                                Prod.fst (Prod.snd (Prod.snd (Prod.snd (el tNote v15 v17)))),
                                Prod.fst (Prod.snd (Prod.snd (Prod.snd (Prod.snd (Prod.snd (el tNote v15 v17)))))),
                                Prod.fst
                                  (Prod.snd
                                    (Prod.snd
                                      (Prod.snd
                                        (mpGet b1 (Prod.fst (Prod.snd (Prod.snd (Prod.snd (el tNote v15 v17))))))))),
                                Prod.snd
                                  (Prod.snd
                                    (Prod.snd
                                      (Prod.snd
                                        (zero
                                          (Ty.pair Ty.str
                                            (Ty.pair tInt (Ty.pair tTrigger (Ty.pair tInt Ty.unit))))))))))),
                        (0 + 1 + 1, Bx.row tTrigger b2), (0 + 1 + 1 + 1, Bx.mpd tInt tInt b3)])))
              (TreeS.ite (decide (Prod.fst (el tNote v15 v17) = 4))
                (TreeS.ite
                  (!bif mpHas b1 (Prod.fst (Prod.snd (Prod.snd (Prod.snd (el tNote v15 v17))))) then
                      eqb Ty.str (Prod.fst (mpGet b1 (Prod.fst (Prod.snd (Prod.snd (Prod.snd (el tNote v15 v17)))))))
                        (Prod.fst (Prod.snd (Prod.snd (Prod.snd (Prod.snd (Prod.snd (Prod.snd (el tNote v15 v17))))))))
                    else false)
                  (TreeS.ret (K.val (Ty.pair tInt (Ty.pair tInt Ty.unit)) (v17, 11, PUnit.unit)))
                  (TreeS.loop
                    [{ fx := fx_trace_Check, todo := afterOp f_trace_Check 1 1, dst := some 9,
                        s := ofS [(0, K.val (Ty.slc tNote) w0_0)] }]
                    fx_trace_read (lp f_trace_read 5)
                    [(0, K.val (Ty.slc tNote) v0), (5, K.ptr 0 tTraceBook []), (15, K.val (Ty.slc tNote) v15),
                      (16, K.val tInt v16), (17, K.val tInt (IntKind.wrap IntKind.i64 (v17 + 1)))]
                    [(0,
                        Bx.obj tTraceBook
                          (K.agg
                            (Ty.pair (Ty.mp tInt tTraceLetter)
                              (Ty.pair (Ty.slc tTrigger) (Ty.pair (Ty.mp tInt tInt) (Ty.pair tInt Ty.unit))))
                            (K.kcons (K.pm (0 + 1))
                              (K.kcons (K.sl (0 + 1 + 1) tTrigger)
                                (K.kcons (K.pm (0 + 1 + 1 + 1))
                                  (K.kcons (K.val tInt (Prod.fst (Prod.snd (el tNote v15 v17)))) K.knil)))))),
                      (0 + 1, Bx.mpd tInt tTraceLetter b1), (0 + 1 + 1, Bx.row tTrigger b2),
                      (0 + 1 + 1 + 1, Bx.mpd tInt tInt b3)]))
                (TreeS.ite (!decide (Prod.fst (el tNote v15 v17) = 5))
                  (TreeS.ret (K.val (Ty.pair tInt (Ty.pair tInt Ty.unit)) (v17, 11, PUnit.unit)))
                  (TreeS.loop
                    [{ fx := fx_trace_Check, todo := afterOp f_trace_Check 1 1, dst := some 9,
                        s := ofS [(0, K.val (Ty.slc tNote) w0_0)] }]
                    fx_trace_read (lp f_trace_read 5)
                    [(0, K.val (Ty.slc tNote) v0), (5, K.ptr 0 tTraceBook []), (15, K.val (Ty.slc tNote) v15),
                      (16, K.val tInt v16), (17, K.val tInt (IntKind.wrap IntKind.i64 (v17 + 1)))]
                    [(0,
                        Bx.obj tTraceBook
                          (K.agg
                            (Ty.pair (Ty.mp tInt tTraceLetter)
                              (Ty.pair (Ty.slc tTrigger) (Ty.pair (Ty.mp tInt tInt) (Ty.pair tInt Ty.unit))))
                            (K.kcons (K.pm (0 + 1))
                              (K.kcons (K.sl (0 + 1 + 1) tTrigger)
                                (K.kcons (K.pm (0 + 1 + 1 + 1))
                                  (K.kcons (K.val tInt (Prod.fst (Prod.snd (el tNote v15 v17)))) K.knil)))))),
                      (0 + 1, Bx.mpd tInt tTraceLetter b1), (0 + 1 + 1, Bx.row tTrigger b2),
                      (0 + 1 + 1 + 1, Bx.mpd tInt tInt b3)])))))))))
  (TreeS.ret (K.val (Ty.pair tInt (Ty.pair tInt Ty.unit)) (lnx tNote v0, 0, PUnit.unit)))
theorem TL_trace_Check_trace_read_5_eq (w0_0 : den (Ty.slc tNote)) (v0 : den (Ty.slc tNote)) (v15 : den (Ty.slc tNote)) (v16 : den tInt) (v17 : den tInt) (b0 : den tInt) (b1 : List (den tInt × den tTraceLetter)) (b2 : List (den tTrigger)) (b3 : List (den tInt × den tInt)) : treeS X_trace_Check M_trace_Check 5000 (Q_trace_Check_trace_read_5 w0_0 v0 v15 v16 v17 b0 b1 b2 b3) fx_trace_read (lp f_trace_read 5) (E_trace_Check_trace_read_5 w0_0 v0 v15 v16 v17 b0 b1 b2 b3) = TL_trace_Check_trace_read_5 w0_0 v0 v15 v16 v17 b0 b1 b2 b3 := by kernel_rfl

noncomputable abbrev fx_slices_Reverse_Trigger : Fx := { fn := f_slices_Reverse_Trigger, ann := { loops := [(1, { keep := [0, 2, 3] })], frz := [(1000001, [7, 10, 11])] }, share := true }
noncomputable abbrev fx_trace_Chain : Fx := { fn := f_trace_Chain, ann := { loops := [(9, { keep := [7, 10, 11, 12], own := [(10, tTrigger)] })] }, share := true }
noncomputable abbrev X_trace_Chain : TabX := { D := { T := tyTab, F := [(n_slices_Contains_Trigger, S_slices_Contains_Trigger)], R := [], ovl := [] }, inl := [(n_trace_read, fx_trace_read), (n_trace_book_takes, fx_trace_book_takes), (n_slices_Reverse_Trigger, fx_slices_Reverse_Trigger)] }
noncomputable abbrev M_trace_Chain : RMode := .data rs_trace_Chain
theorem x_trace_Chain (h_slices_Contains_Trigger : FnOk prog [] n_slices_Contains_Trigger S_slices_Contains_Trigger) : XOk prog X_trace_Chain := xok (dok_add (dok_nil tab_ok mixed_ok) h_slices_Contains_Trigger) (by kernel_rfl) rows_nil (inl_add at_trace_read (by kernel_rfl) (inl_add at_trace_book_takes (by kernel_rfl) (inl_add at_slices_Reverse_Trigger (by kernel_rfl) inl_nil))) ovl_nil
noncomputable def T_trace_Chain (l : den (Ty.slc tNote)) (n : den tInt) : TreeS :=
  TreeS.ite (decide (1000 < lnx tNote l))
  (TreeS.ite (!decide (2 = 0))
    (TreeS.ret (K.val (Ty.pair (Ty.slc tTrigger) (Ty.pair tInt (Ty.pair tInt Ty.unit))) ([], 0, 2, PUnit.unit)))
    (TreeS.req (impl [(bif decide (n < 0) then true else decide (lnx tNote l ≤ n), false)] (inB n (lnx tNote l)))
      (TreeS.ite
        (bif bif decide (n < 0) then true else decide (lnx tNote l ≤ n) then true
        else !decide (Prod.fst (el tNote l n) = 4))
        (TreeS.ret (K.val (Ty.pair (Ty.slc tTrigger) (Ty.pair tInt (Ty.pair tInt Ty.unit))) ([], 0, 6, PUnit.unit)))
        (TreeS.req (inB n (lnx tNote l)) (TreeS.bad (100000 + 1000 * 0 + 1))))))
  (TreeS.loop
    [{ fx := fx_trace_Chain, todo := afterOp f_trace_Chain 1 1, dst := some 15,
        s := ofS [(0, K.val (Ty.slc tNote) l), (1, K.val tInt n)] }]
    fx_trace_read (lp f_trace_read 5)
    [(0, K.val (Ty.slc tNote) l), (5, K.ptr 0 tTraceBook []), (15, K.val (Ty.slc tNote) l),
      (16, K.val tInt (lnx tNote l)), (17, K.val tInt 0)]
    [(0,
        Bx.obj tTraceBook
          (K.agg
            (Ty.pair (Ty.mp tInt tTraceLetter)
              (Ty.pair (Ty.slc tTrigger) (Ty.pair (Ty.mp tInt tInt) (Ty.pair tInt Ty.unit))))
            (K.kcons (K.pm (0 + 1))
              (K.kcons (K.sl (0 + 1 + 1) tTrigger)
                (K.kcons (K.pm (0 + 1 + 1 + 1)) (K.kcons (K.val tInt (zero tInt)) K.knil)))))),
      (0 + 1, Bx.mpd tInt tTraceLetter []), (0 + 1 + 1, Bx.row tTrigger []), (0 + 1 + 1 + 1, Bx.mpd tInt tInt [])])
theorem T_trace_Chain_eq (l : den (Ty.slc tNote)) (n : den tInt) : treeS X_trace_Chain M_trace_Chain 5000 [] fx_trace_Chain (bodyOf f_trace_Chain) (Env.of
  (argEnv as_trace_Chain (l, n, ()) 0) []) = T_trace_Chain l n := by kernel_rfl

noncomputable def Q_trace_Chain_trace_read_5 (w0_0 : den (Ty.slc tNote)) (w0_1 : den tInt) (v0 : den (Ty.slc tNote)) (v15 : den (Ty.slc tNote)) (v16 : den tInt) (v17 : den tInt) (b0 : den tInt) (b1 : List (den tInt × den tTraceLetter)) (b2 : List (den tTrigger)) (b3 : List (den tInt × den tInt)) : List Cont := [{
    fx := fx_trace_Chain, todo := afterOp f_trace_Chain 1 1, dst := some 15,
    s := ofS [(0, K.val (Ty.slc tNote) w0_0), (1, K.val tInt w0_1)] }]
noncomputable def E_trace_Chain_trace_read_5 (w0_0 : den (Ty.slc tNote)) (w0_1 : den tInt) (v0 : den (Ty.slc tNote)) (v15 : den (Ty.slc tNote)) (v16 : den tInt) (v17 : den tInt) (b0 : den tInt) (b1 : List (den tInt × den tTraceLetter)) (b2 : List (den tTrigger)) (b3 : List (den tInt × den tInt)) : Env := Env.of
  [(0, K.val (Ty.slc tNote) v0), (5, K.ptr 0 tTraceBook []), (15, K.val (Ty.slc tNote) v15), (16, K.val tInt v16),
    (17, K.val tInt v17)]
  [(0,
      Bx.obj tTraceBook
        (K.agg
          (Ty.pair (Ty.mp tInt tTraceLetter)
            (Ty.pair (Ty.slc tTrigger) (Ty.pair (Ty.mp tInt tInt) (Ty.pair tInt Ty.unit))))
          (K.kcons (K.pm (0 + 1))
            (K.kcons (K.sl (0 + 1 + 1) tTrigger) (K.kcons (K.pm (0 + 1 + 1 + 1)) (K.kcons (K.val tInt b0) K.knil)))))),
    (1, Bx.mpd tInt tTraceLetter b1), (2, Bx.row tTrigger b2), (3, Bx.mpd tInt tInt b3)]
noncomputable def TL_trace_Chain_trace_read_5 (w0_0 : den (Ty.slc tNote)) (w0_1 : den tInt) (v0 : den (Ty.slc tNote)) (v15 : den (Ty.slc tNote)) (v16 : den tInt) (v17 : den tInt) (b0 : den tInt) (b1 : List (den tInt × den tTraceLetter)) (b2 : List (den tTrigger)) (b3 : List (den tInt × den tInt)) : TreeS :=
  TreeS.ite (decide (v17 < v16))
  (TreeS.req (inB v17 (lnx tNote v15))
    (TreeS.ite (decide (v17 = 0))
      (TreeS.ite (decide (Prod.fst (Prod.snd (el tNote v15 v17)) < Prod.fst (Prod.snd (el tNote v15 v17))))
        (TreeS.ite (!false)
          (TreeS.ite (!decide (11 = 0))
            (TreeS.ret
              (K.val (Ty.pair (Ty.slc tTrigger) (Ty.pair tInt (Ty.pair tInt Ty.unit))) ([], 0, 11, PUnit.unit)))
            (TreeS.req
              (impl [(bif decide (w0_1 < 0) then true else decide (lnx tNote w0_0 ≤ w0_1), false)]
                (inB w0_1 (lnx tNote w0_0)))
              (TreeS.ite
                (bif bif decide (w0_1 < 0) then true else decide (lnx tNote w0_0 ≤ w0_1) then true
                else !decide (Prod.fst (el tNote w0_0 w0_1) = 4))
                (TreeS.ret
                  (K.val (Ty.pair (Ty.slc tTrigger) (Ty.pair tInt (Ty.pair tInt Ty.unit))) ([], 0, 6, PUnit.unit)))
                (TreeS.req (inB w0_1 (lnx tNote w0_0)) (TreeS.bad (100000 + 1000 * 0 + 1))))))
          (TreeS.loop
            [{ fx := fx_trace_Chain, todo := afterOp f_trace_Chain 1 1, dst := some 15,
                s := ofS [(0, K.val (Ty.slc tNote) w0_0), (1, K.val tInt w0_1)] }]
            fx_trace_read (lp f_trace_read 5)
            [(0, K.val (Ty.slc tNote) v0), (5, K.ptr 0 tTraceBook []), (15, K.val (Ty.slc tNote) v15),
              (16, K.val tInt v16), (17, K.val tInt (IntKind.wrap IntKind.i64 (v17 + 1)))]
            [(0,
                Bx.obj tTraceBook
                  (K.agg
                    (Ty.pair (Ty.mp tInt tTraceLetter)
                      (Ty.pair (Ty.slc tTrigger) (Ty.pair (Ty.mp tInt tInt) (Ty.pair tInt Ty.unit))))
                    (K.kcons (K.pm (0 + 1))
                      (K.kcons (K.sl (0 + 1 + 1) tTrigger)
                        (K.kcons (K.pm (0 + 1 + 1 + 1))
                          (K.kcons (K.val tInt (Prod.fst (Prod.snd (el tNote v15 v17)))) K.knil)))))),
              (0 + 1, Bx.mpd tInt tTraceLetter b1), (0 + 1 + 1, Bx.row tTrigger b2),
              (0 + 1 + 1 + 1, Bx.mpd tInt tInt b3)]))
        (TreeS.ite (decide (Prod.fst (el tNote v15 v17) = 1))
          (TreeS.ite
            (!bif decide (0 < Prod.fst (Prod.snd (Prod.snd (Prod.snd (Prod.snd (el tNote v15 v17)))))) then
                !mpHas b1 (Prod.fst (Prod.snd (Prod.snd (Prod.snd (Prod.snd (el tNote v15 v17))))))
              else false)
            (TreeS.ite (!decide (11 = 0))
              (TreeS.ret
                (K.val (Ty.pair (Ty.slc tTrigger) (Ty.pair tInt (Ty.pair tInt Ty.unit))) ([], 0, 11, PUnit.unit)))
              (TreeS.req
                (impl [(bif decide (w0_1 < 0) then true else decide (lnx tNote w0_0 ≤ w0_1), false)]
                  (inB w0_1 (lnx tNote w0_0)))
                (TreeS.ite
                  (bif bif decide (w0_1 < 0) then true else decide (lnx tNote w0_0 ≤ w0_1) then true
                  else !decide (Prod.fst (el tNote w0_0 w0_1) = 4))
                  (TreeS.ret
                    (K.val (Ty.pair (Ty.slc tTrigger) (Ty.pair tInt (Ty.pair tInt Ty.unit))) ([], 0, 6, PUnit.unit)))
                  (TreeS.req (inB w0_1 (lnx tNote w0_0)) (TreeS.bad (100000 + 1000 * 0 + 1))))))
            (TreeS.loop
              [{ fx := fx_trace_Chain, todo := afterOp f_trace_Chain 1 1, dst := some 15,
                  s := ofS [(0, K.val (Ty.slc tNote) w0_0), (1, K.val tInt w0_1)] }]
              fx_trace_read (lp f_trace_read 5)
              [(0, K.val (Ty.slc tNote) v0), (5, K.ptr 0 tTraceBook []), (15, K.val (Ty.slc tNote) v15),
                (16, K.val tInt v16), (17, K.val tInt (IntKind.wrap IntKind.i64 (v17 + 1)))]
              [(0,
                  Bx.obj tTraceBook
                    (K.agg
                      (Ty.pair (Ty.mp tInt tTraceLetter)
                        (Ty.pair (Ty.slc tTrigger) (Ty.pair (Ty.mp tInt tInt) (Ty.pair tInt Ty.unit))))
                      (K.kcons (K.pm (0 + 1))
                        (K.kcons (K.sl (0 + 1 + 1) tTrigger)
                          (K.kcons (K.pm (0 + 1 + 1 + 1))
                            (K.kcons (K.val tInt (Prod.fst (Prod.snd (el tNote v15 v17)))) K.knil)))))),
                (0 + 1,
                  Bx.mpd tInt tTraceLetter
                    (mpSet b1 (Prod.fst (Prod.snd (Prod.snd (Prod.snd (Prod.snd (el tNote v15 v17))))))
                      (Prod.fst (Prod.snd (Prod.snd (Prod.snd (Prod.snd (Prod.snd (Prod.snd (el tNote v15 v17))))))),
                        Prod.fst
                          (Prod.snd (zero (Ty.pair Ty.str (Ty.pair tInt (Ty.pair tTrigger (Ty.pair tInt Ty.unit)))))),
                        Prod.fst
                          (Prod.snd
                            (Prod.snd
                              (zero (Ty.pair Ty.str (Ty.pair tInt (Ty.pair tTrigger (Ty.pair tInt Ty.unit))))))),
                        Prod.fst (Prod.snd (Prod.snd (Prod.snd (Prod.snd (el tNote v15 v17))))),
                        Prod.snd
                          (Prod.snd
                            (Prod.snd
                              (Prod.snd
                                (zero (Ty.pair Ty.str (Ty.pair tInt (Ty.pair tTrigger (Ty.pair tInt Ty.unit))))))))))),
                (0 + 1 + 1, Bx.row tTrigger b2),
                (0 + 1 + 1 + 1,
                  Bx.mpd tInt tInt
                    (mpSet b3 (Prod.fst (Prod.snd (Prod.snd (Prod.snd (Prod.snd (el tNote v15 v17))))))
                      (Prod.fst (Prod.snd (Prod.snd (el tNote v15 v17))))))]))
          (TreeS.ite (decide (Prod.fst (el tNote v15 v17) = 2))
            (TreeS.req
              (List.length
                  (b2 ++
                    List.set (List.replicate 1 (zero tTrigger)) 0
                      (Prod.fst (Prod.snd (Prod.snd (Prod.snd (Prod.snd (Prod.snd (el tNote v15 v17)))))))) ≤
                most)
              (TreeS.ite (!true)
                (TreeS.ite (!decide (11 = 0))
                  (TreeS.ret
                    (K.val (Ty.pair (Ty.slc tTrigger) (Ty.pair tInt (Ty.pair tInt Ty.unit))) ([], 0, 11, PUnit.unit)))
                  (TreeS.req
                    (impl [(bif decide (w0_1 < 0) then true else decide (lnx tNote w0_0 ≤ w0_1), false)]
                      (inB w0_1 (lnx tNote w0_0)))
                    (TreeS.ite
                      (bif bif decide (w0_1 < 0) then true else decide (lnx tNote w0_0 ≤ w0_1) then true
                      else !decide (Prod.fst (el tNote w0_0 w0_1) = 4))
                      (TreeS.ret
                        (K.val (Ty.pair (Ty.slc tTrigger) (Ty.pair tInt (Ty.pair tInt Ty.unit)))
                          ([], 0, 6, PUnit.unit)))
                      (TreeS.req (inB w0_1 (lnx tNote w0_0)) (TreeS.bad (100000 + 1000 * 0 + 1))))))
                (TreeS.loop
                  [{ fx := fx_trace_Chain, todo := afterOp f_trace_Chain 1 1, dst := some 15,
                      s := ofS [(0, K.val (Ty.slc tNote) w0_0), (1, K.val tInt w0_1)] }]
                  fx_trace_read (lp f_trace_read 5)
                  [(0, K.val (Ty.slc tNote) v0), (5, K.ptr 0 tTraceBook []), (15, K.val (Ty.slc tNote) v15),
                    (16, K.val tInt v16), (17, K.val tInt (IntKind.wrap IntKind.i64 (v17 + 1)))]
                  [(0,
                      Bx.obj tTraceBook
                        (K.agg
                          (Ty.pair (Ty.mp tInt tTraceLetter)
                            (Ty.pair (Ty.slc tTrigger) (Ty.pair (Ty.mp tInt tInt) (Ty.pair tInt Ty.unit))))
                          (K.kcons (K.pm (0 + 1))
                            (K.kcons (K.sl (0 + 1 + 1) tTrigger)
                              (K.kcons (K.pm (0 + 1 + 1 + 1))
                                (K.kcons (K.val tInt (Prod.fst (Prod.snd (el tNote v15 v17)))) K.knil)))))),
                    (0 + 1, Bx.mpd tInt tTraceLetter b1),
                    (0 + 1 + 1,
                      Bx.row tTrigger
                        (b2 ++
                          List.set (List.replicate 1 (zero tTrigger)) 0
                            (Prod.fst (Prod.snd (Prod.snd (Prod.snd (Prod.snd (Prod.snd (el tNote v15 v17))))))))),
                    (0 + 1 + 1 + 1, Bx.mpd tInt tInt b3)])))
            (TreeS.ite (decide (Prod.fst (el tNote v15 v17) = 3))
              (TreeS.req (List.length b2 ≤ 1000000)
                (TreeS.all (den Ty.bool)
                  (fun (q10 : den Ty.bool) ↦
                    q10 = g_has b2 (Prod.fst (Prod.snd (Prod.snd (Prod.snd (Prod.snd (Prod.snd (el tNote v15 v17))))))))
                  fun (q10 : den Ty.bool) ↦
                  TreeS.ite
                    (!bif
                          bif
                              bif mpHas b1 (Prod.fst (Prod.snd (Prod.snd (Prod.snd (el tNote v15 v17))))) then
                                decide (0 < Prod.fst (Prod.snd (Prod.snd (Prod.snd (Prod.snd (el tNote v15 v17))))))
                              else false then
                            !mpHas b1 (Prod.fst (Prod.snd (Prod.snd (Prod.snd (Prod.snd (el tNote v15 v17))))))
                          else false then
                        bif
                            bif
                                g_has b2
                                  (Prod.fst
                                    (Prod.snd (Prod.snd (Prod.snd (Prod.snd (Prod.snd (el tNote v15 v17))))))) then
                              decide
                                (Prod.fst (Prod.snd (el tNote v15 v17)) <
                                  Prod.fst
                                    (Prod.snd
                                      (Prod.snd
                                        (Prod.fst
                                          (Prod.snd (Prod.snd (Prod.snd (Prod.snd (Prod.snd (el tNote v15 v17))))))))))
                            else false then
                          true
                        else
                          eqb tTrigger
                            (Prod.fst (Prod.snd (Prod.snd (Prod.snd (Prod.snd (Prod.snd (el tNote v15 v17)))))))
                            (zero (Ty.pair tId (Ty.pair tEntry (Ty.pair tInt Ty.unit))))
                      else false)
                    (TreeS.ite (!decide (11 = 0))
                      (TreeS.ret
                        (K.val (Ty.pair (Ty.slc tTrigger) (Ty.pair tInt (Ty.pair tInt Ty.unit)))
                          ([], 0, 11, PUnit.unit)))
                      (TreeS.req
                        (impl [(bif decide (w0_1 < 0) then true else decide (lnx tNote w0_0 ≤ w0_1), false)]
                          (inB w0_1 (lnx tNote w0_0)))
                        (TreeS.ite
                          (bif bif decide (w0_1 < 0) then true else decide (lnx tNote w0_0 ≤ w0_1) then true
                          else !decide (Prod.fst (el tNote w0_0 w0_1) = 4))
                          (TreeS.ret
                            (K.val (Ty.pair (Ty.slc tTrigger) (Ty.pair tInt (Ty.pair tInt Ty.unit)))
                              ([], 0, 6, PUnit.unit)))
                          (TreeS.req (inB w0_1 (lnx tNote w0_0)) (TreeS.bad (100000 + 1000 * 0 + 1))))))
                    (TreeS.loop
                      [{ fx := fx_trace_Chain, todo := afterOp f_trace_Chain 1 1, dst := some 15,
                          s := ofS [(0, K.val (Ty.slc tNote) w0_0), (1, K.val tInt w0_1)] }]
                      fx_trace_read (lp f_trace_read 5)
                      [(0, K.val (Ty.slc tNote) v0), (5, K.ptr 0 tTraceBook []), (15, K.val (Ty.slc tNote) v15),
                        (16, K.val tInt v16), (17, K.val tInt (IntKind.wrap IntKind.i64 (v17 + 1)))]
                      [(0,
                          Bx.obj tTraceBook
                            (K.agg
                              (Ty.pair (Ty.mp tInt tTraceLetter)
                                (Ty.pair (Ty.slc tTrigger) (Ty.pair (Ty.mp tInt tInt) (Ty.pair tInt Ty.unit))))
                              (K.kcons (K.pm (0 + 1))
                                (K.kcons (K.sl (0 + 1 + 1) tTrigger)
                                  (K.kcons (K.pm (0 + 1 + 1 + 1))
                                    (K.kcons (K.val tInt (Prod.fst (Prod.snd (el tNote v15 v17)))) K.knil)))))),
                        (0 + 1,
                          Bx.mpd tInt tTraceLetter
                            (mpSet b1 (Prod.fst (Prod.snd (Prod.snd (Prod.snd (Prod.snd (el tNote v15 v17))))))
                              (Prod.fst (mpGet b1 (Prod.fst (Prod.snd (Prod.snd (Prod.snd (el tNote v15 v17)))))),
                                Prod.fst (Prod.snd (Prod.snd (Prod.snd (el tNote v15 v17)))),
                                Prod.fst (Prod.snd (Prod.snd (Prod.snd (Prod.snd (Prod.snd (el tNote v15 v17)))))),
                                Prod.fst
                                  (Prod.snd
                                    (Prod.snd
                                      (Prod.snd
                                        (mpGet b1 (Prod.fst (Prod.snd (Prod.snd (Prod.snd (el tNote v15 v17))))))))),
                                Prod.snd
                                  (Prod.snd
                                    (Prod.snd
                                      (Prod.snd
                                        (zero
                                          (Ty.pair Ty.str
                                            (Ty.pair tInt (Ty.pair tTrigger (Ty.pair tInt Ty.unit))))))))))),
                        (0 + 1 + 1, Bx.row tTrigger b2), (0 + 1 + 1 + 1, Bx.mpd tInt tInt b3)])))
              (TreeS.ite (decide (Prod.fst (el tNote v15 v17) = 4))
                (TreeS.ite
                  (!bif mpHas b1 (Prod.fst (Prod.snd (Prod.snd (Prod.snd (el tNote v15 v17))))) then
                      eqb Ty.str (Prod.fst (mpGet b1 (Prod.fst (Prod.snd (Prod.snd (Prod.snd (el tNote v15 v17)))))))
                        (Prod.fst (Prod.snd (Prod.snd (Prod.snd (Prod.snd (Prod.snd (Prod.snd (el tNote v15 v17))))))))
                    else false)
                  (TreeS.ite (!decide (11 = 0))
                    (TreeS.ret
                      (K.val (Ty.pair (Ty.slc tTrigger) (Ty.pair tInt (Ty.pair tInt Ty.unit))) ([], 0, 11, PUnit.unit)))
                    (TreeS.req
                      (impl [(bif decide (w0_1 < 0) then true else decide (lnx tNote w0_0 ≤ w0_1), false)]
                        (inB w0_1 (lnx tNote w0_0)))
                      (TreeS.ite
                        (bif bif decide (w0_1 < 0) then true else decide (lnx tNote w0_0 ≤ w0_1) then true
                        else !decide (Prod.fst (el tNote w0_0 w0_1) = 4))
                        (TreeS.ret
                          (K.val (Ty.pair (Ty.slc tTrigger) (Ty.pair tInt (Ty.pair tInt Ty.unit)))
                            ([], 0, 6, PUnit.unit)))
                        (TreeS.req (inB w0_1 (lnx tNote w0_0)) (TreeS.bad (100000 + 1000 * 0 + 1))))))
                  (TreeS.loop
                    [{ fx := fx_trace_Chain, todo := afterOp f_trace_Chain 1 1, dst := some 15,
                        s := ofS [(0, K.val (Ty.slc tNote) w0_0), (1, K.val tInt w0_1)] }]
                    fx_trace_read (lp f_trace_read 5)
                    [(0, K.val (Ty.slc tNote) v0), (5, K.ptr 0 tTraceBook []), (15, K.val (Ty.slc tNote) v15),
                      (16, K.val tInt v16), (17, K.val tInt (IntKind.wrap IntKind.i64 (v17 + 1)))]
                    [(0,
                        Bx.obj tTraceBook
                          (K.agg
                            (Ty.pair (Ty.mp tInt tTraceLetter)
                              (Ty.pair (Ty.slc tTrigger) (Ty.pair (Ty.mp tInt tInt) (Ty.pair tInt Ty.unit))))
                            (K.kcons (K.pm (0 + 1))
                              (K.kcons (K.sl (0 + 1 + 1) tTrigger)
                                (K.kcons (K.pm (0 + 1 + 1 + 1))
                                  (K.kcons (K.val tInt (Prod.fst (Prod.snd (el tNote v15 v17)))) K.knil)))))),
                      (0 + 1, Bx.mpd tInt tTraceLetter b1), (0 + 1 + 1, Bx.row tTrigger b2),
                      (0 + 1 + 1 + 1, Bx.mpd tInt tInt b3)]))
                (TreeS.ite (!decide (Prod.fst (el tNote v15 v17) = 5))
                  (TreeS.ite (!decide (11 = 0))
                    (TreeS.ret
                      (K.val (Ty.pair (Ty.slc tTrigger) (Ty.pair tInt (Ty.pair tInt Ty.unit))) ([], 0, 11, PUnit.unit)))
                    (TreeS.req
                      (impl [(bif decide (w0_1 < 0) then true else decide (lnx tNote w0_0 ≤ w0_1), false)]
                        (inB w0_1 (lnx tNote w0_0)))
                      (TreeS.ite
                        (bif bif decide (w0_1 < 0) then true else decide (lnx tNote w0_0 ≤ w0_1) then true
                        else !decide (Prod.fst (el tNote w0_0 w0_1) = 4))
                        (TreeS.ret
                          (K.val (Ty.pair (Ty.slc tTrigger) (Ty.pair tInt (Ty.pair tInt Ty.unit)))
                            ([], 0, 6, PUnit.unit)))
                        (TreeS.req (inB w0_1 (lnx tNote w0_0)) (TreeS.bad (100000 + 1000 * 0 + 1))))))
                  (TreeS.loop
                    [{ fx := fx_trace_Chain, todo := afterOp f_trace_Chain 1 1, dst := some 15,
                        s := ofS [(0, K.val (Ty.slc tNote) w0_0), (1, K.val tInt w0_1)] }]
                    fx_trace_read (lp f_trace_read 5)
                    [(0, K.val (Ty.slc tNote) v0), (5, K.ptr 0 tTraceBook []), (15, K.val (Ty.slc tNote) v15),
                      (16, K.val tInt v16), (17, K.val tInt (IntKind.wrap IntKind.i64 (v17 + 1)))]
                    [(0,
                        Bx.obj tTraceBook
                          (K.agg
                            (Ty.pair (Ty.mp tInt tTraceLetter)
                              (Ty.pair (Ty.slc tTrigger) (Ty.pair (Ty.mp tInt tInt) (Ty.pair tInt Ty.unit))))
                            (K.kcons (K.pm (0 + 1))
                              (K.kcons (K.sl (0 + 1 + 1) tTrigger)
                                (K.kcons (K.pm (0 + 1 + 1 + 1))
                                  (K.kcons (K.val tInt (Prod.fst (Prod.snd (el tNote v15 v17)))) K.knil)))))),
                      (0 + 1, Bx.mpd tInt tTraceLetter b1), (0 + 1 + 1, Bx.row tTrigger b2),
                      (0 + 1 + 1 + 1, Bx.mpd tInt tInt b3)])))))))
      (TreeS.ite (decide (Prod.fst (Prod.snd (el tNote v15 v17)) < b0))
        (TreeS.ite (!false)
          (TreeS.ite (!decide (11 = 0))
            (TreeS.ret
              (K.val (Ty.pair (Ty.slc tTrigger) (Ty.pair tInt (Ty.pair tInt Ty.unit))) ([], 0, 11, PUnit.unit)))
            (TreeS.req
              (impl [(bif decide (w0_1 < 0) then true else decide (lnx tNote w0_0 ≤ w0_1), false)]
                (inB w0_1 (lnx tNote w0_0)))
              (TreeS.ite
                (bif bif decide (w0_1 < 0) then true else decide (lnx tNote w0_0 ≤ w0_1) then true
                else !decide (Prod.fst (el tNote w0_0 w0_1) = 4))
                (TreeS.ret
                  (K.val (Ty.pair (Ty.slc tTrigger) (Ty.pair tInt (Ty.pair tInt Ty.unit))) ([], 0, 6, PUnit.unit)))
                (TreeS.req (inB w0_1 (lnx tNote w0_0)) (TreeS.bad (100000 + 1000 * 0 + 1))))))
          (TreeS.loop
            [{ fx := fx_trace_Chain, todo := afterOp f_trace_Chain 1 1, dst := some 15,
                s := ofS [(0, K.val (Ty.slc tNote) w0_0), (1, K.val tInt w0_1)] }]
            fx_trace_read (lp f_trace_read 5)
            [(0, K.val (Ty.slc tNote) v0), (5, K.ptr 0 tTraceBook []), (15, K.val (Ty.slc tNote) v15),
              (16, K.val tInt v16), (17, K.val tInt (IntKind.wrap IntKind.i64 (v17 + 1)))]
            [(0,
                Bx.obj tTraceBook
                  (K.agg
                    (Ty.pair (Ty.mp tInt tTraceLetter)
                      (Ty.pair (Ty.slc tTrigger) (Ty.pair (Ty.mp tInt tInt) (Ty.pair tInt Ty.unit))))
                    (K.kcons (K.pm (0 + 1))
                      (K.kcons (K.sl (0 + 1 + 1) tTrigger)
                        (K.kcons (K.pm (0 + 1 + 1 + 1)) (K.kcons (K.val tInt b0) K.knil)))))),
              (0 + 1, Bx.mpd tInt tTraceLetter b1), (0 + 1 + 1, Bx.row tTrigger b2),
              (0 + 1 + 1 + 1, Bx.mpd tInt tInt b3)]))
        (TreeS.ite (decide (Prod.fst (el tNote v15 v17) = 1))
          (TreeS.ite
            (!bif decide (0 < Prod.fst (Prod.snd (Prod.snd (Prod.snd (Prod.snd (el tNote v15 v17)))))) then
                !mpHas b1 (Prod.fst (Prod.snd (Prod.snd (Prod.snd (Prod.snd (el tNote v15 v17))))))
              else false)
            (TreeS.ite (!decide (11 = 0))
              (TreeS.ret
                (K.val (Ty.pair (Ty.slc tTrigger) (Ty.pair tInt (Ty.pair tInt Ty.unit))) ([], 0, 11, PUnit.unit)))
              (TreeS.req
                (impl [(bif decide (w0_1 < 0) then true else decide (lnx tNote w0_0 ≤ w0_1), false)]
                  (inB w0_1 (lnx tNote w0_0)))
                (TreeS.ite
                  (bif bif decide (w0_1 < 0) then true else decide (lnx tNote w0_0 ≤ w0_1) then true
                  else !decide (Prod.fst (el tNote w0_0 w0_1) = 4))
                  (TreeS.ret
                    (K.val (Ty.pair (Ty.slc tTrigger) (Ty.pair tInt (Ty.pair tInt Ty.unit))) ([], 0, 6, PUnit.unit)))
                  (TreeS.req (inB w0_1 (lnx tNote w0_0)) (TreeS.bad (100000 + 1000 * 0 + 1))))))
            (TreeS.loop
              [{ fx := fx_trace_Chain, todo := afterOp f_trace_Chain 1 1, dst := some 15,
                  s := ofS [(0, K.val (Ty.slc tNote) w0_0), (1, K.val tInt w0_1)] }]
              fx_trace_read (lp f_trace_read 5)
              [(0, K.val (Ty.slc tNote) v0), (5, K.ptr 0 tTraceBook []), (15, K.val (Ty.slc tNote) v15),
                (16, K.val tInt v16), (17, K.val tInt (IntKind.wrap IntKind.i64 (v17 + 1)))]
              [(0,
                  Bx.obj tTraceBook
                    (K.agg
                      (Ty.pair (Ty.mp tInt tTraceLetter)
                        (Ty.pair (Ty.slc tTrigger) (Ty.pair (Ty.mp tInt tInt) (Ty.pair tInt Ty.unit))))
                      (K.kcons (K.pm (0 + 1))
                        (K.kcons (K.sl (0 + 1 + 1) tTrigger)
                          (K.kcons (K.pm (0 + 1 + 1 + 1))
                            (K.kcons (K.val tInt (Prod.fst (Prod.snd (el tNote v15 v17)))) K.knil)))))),
                (0 + 1,
                  Bx.mpd tInt tTraceLetter
                    (mpSet b1 (Prod.fst (Prod.snd (Prod.snd (Prod.snd (Prod.snd (el tNote v15 v17))))))
                      (Prod.fst (Prod.snd (Prod.snd (Prod.snd (Prod.snd (Prod.snd (Prod.snd (el tNote v15 v17))))))),
                        Prod.fst
                          (Prod.snd (zero (Ty.pair Ty.str (Ty.pair tInt (Ty.pair tTrigger (Ty.pair tInt Ty.unit)))))),
                        Prod.fst
                          (Prod.snd
                            (Prod.snd
                              (zero (Ty.pair Ty.str (Ty.pair tInt (Ty.pair tTrigger (Ty.pair tInt Ty.unit))))))),
                        Prod.fst (Prod.snd (Prod.snd (Prod.snd (Prod.snd (el tNote v15 v17))))),
                        Prod.snd
                          (Prod.snd
                            (Prod.snd
                              (Prod.snd
                                (zero (Ty.pair Ty.str (Ty.pair tInt (Ty.pair tTrigger (Ty.pair tInt Ty.unit))))))))))),
                (0 + 1 + 1, Bx.row tTrigger b2),
                (0 + 1 + 1 + 1,
                  Bx.mpd tInt tInt
                    (mpSet b3 (Prod.fst (Prod.snd (Prod.snd (Prod.snd (Prod.snd (el tNote v15 v17))))))
                      (Prod.fst (Prod.snd (Prod.snd (el tNote v15 v17))))))]))
          (TreeS.ite (decide (Prod.fst (el tNote v15 v17) = 2))
            (TreeS.req
              (List.length
                  (b2 ++
                    List.set (List.replicate 1 (zero tTrigger)) 0
                      (Prod.fst (Prod.snd (Prod.snd (Prod.snd (Prod.snd (Prod.snd (el tNote v15 v17)))))))) ≤
                most)
              (TreeS.ite (!true)
                (TreeS.ite (!decide (11 = 0))
                  (TreeS.ret
                    (K.val (Ty.pair (Ty.slc tTrigger) (Ty.pair tInt (Ty.pair tInt Ty.unit))) ([], 0, 11, PUnit.unit)))
                  (TreeS.req
                    (impl [(bif decide (w0_1 < 0) then true else decide (lnx tNote w0_0 ≤ w0_1), false)]
                      (inB w0_1 (lnx tNote w0_0)))
                    (TreeS.ite
                      (bif bif decide (w0_1 < 0) then true else decide (lnx tNote w0_0 ≤ w0_1) then true
                      else !decide (Prod.fst (el tNote w0_0 w0_1) = 4))
                      (TreeS.ret
                        (K.val (Ty.pair (Ty.slc tTrigger) (Ty.pair tInt (Ty.pair tInt Ty.unit)))
                          ([], 0, 6, PUnit.unit)))
                      (TreeS.req (inB w0_1 (lnx tNote w0_0)) (TreeS.bad (100000 + 1000 * 0 + 1))))))
                (TreeS.loop
                  [{ fx := fx_trace_Chain, todo := afterOp f_trace_Chain 1 1, dst := some 15,
                      s := ofS [(0, K.val (Ty.slc tNote) w0_0), (1, K.val tInt w0_1)] }]
                  fx_trace_read (lp f_trace_read 5)
                  [(0, K.val (Ty.slc tNote) v0), (5, K.ptr 0 tTraceBook []), (15, K.val (Ty.slc tNote) v15),
                    (16, K.val tInt v16), (17, K.val tInt (IntKind.wrap IntKind.i64 (v17 + 1)))]
                  [(0,
                      Bx.obj tTraceBook
                        (K.agg
                          (Ty.pair (Ty.mp tInt tTraceLetter)
                            (Ty.pair (Ty.slc tTrigger) (Ty.pair (Ty.mp tInt tInt) (Ty.pair tInt Ty.unit))))
                          (K.kcons (K.pm (0 + 1))
                            (K.kcons (K.sl (0 + 1 + 1) tTrigger)
                              (K.kcons (K.pm (0 + 1 + 1 + 1))
                                (K.kcons (K.val tInt (Prod.fst (Prod.snd (el tNote v15 v17)))) K.knil)))))),
                    (0 + 1, Bx.mpd tInt tTraceLetter b1),
                    (0 + 1 + 1,
                      Bx.row tTrigger
                        (b2 ++
                          List.set (List.replicate 1 (zero tTrigger)) 0
                            (Prod.fst (Prod.snd (Prod.snd (Prod.snd (Prod.snd (Prod.snd (el tNote v15 v17))))))))),
                    (0 + 1 + 1 + 1, Bx.mpd tInt tInt b3)])))
            (TreeS.ite (decide (Prod.fst (el tNote v15 v17) = 3))
              (TreeS.req (List.length b2 ≤ 1000000)
                (TreeS.all (den Ty.bool)
                  (fun (q10 : den Ty.bool) ↦
                    q10 = g_has b2 (Prod.fst (Prod.snd (Prod.snd (Prod.snd (Prod.snd (Prod.snd (el tNote v15 v17))))))))
                  fun (q10 : den Ty.bool) ↦
                  TreeS.ite
                    (!bif
                          bif
                              bif mpHas b1 (Prod.fst (Prod.snd (Prod.snd (Prod.snd (el tNote v15 v17))))) then
                                decide (0 < Prod.fst (Prod.snd (Prod.snd (Prod.snd (Prod.snd (el tNote v15 v17))))))
                              else false then
                            !mpHas b1 (Prod.fst (Prod.snd (Prod.snd (Prod.snd (Prod.snd (el tNote v15 v17))))))
                          else false then
                        bif
                            bif
                                g_has b2
                                  (Prod.fst
                                    (Prod.snd (Prod.snd (Prod.snd (Prod.snd (Prod.snd (el tNote v15 v17))))))) then
                              decide
                                (Prod.fst (Prod.snd (el tNote v15 v17)) <
                                  Prod.fst
                                    (Prod.snd
                                      (Prod.snd
                                        (Prod.fst
                                          (Prod.snd (Prod.snd (Prod.snd (Prod.snd (Prod.snd (el tNote v15 v17))))))))))
                            else false then
                          true
                        else
                          eqb tTrigger
                            (Prod.fst (Prod.snd (Prod.snd (Prod.snd (Prod.snd (Prod.snd (el tNote v15 v17)))))))
                            (zero (Ty.pair tId (Ty.pair tEntry (Ty.pair tInt Ty.unit))))
                      else false)
                    (TreeS.ite (!decide (11 = 0))
                      (TreeS.ret
                        (K.val (Ty.pair (Ty.slc tTrigger) (Ty.pair tInt (Ty.pair tInt Ty.unit)))
                          ([], 0, 11, PUnit.unit)))
                      (TreeS.req
                        (impl [(bif decide (w0_1 < 0) then true else decide (lnx tNote w0_0 ≤ w0_1), false)]
                          (inB w0_1 (lnx tNote w0_0)))
                        (TreeS.ite
                          (bif bif decide (w0_1 < 0) then true else decide (lnx tNote w0_0 ≤ w0_1) then true
                          else !decide (Prod.fst (el tNote w0_0 w0_1) = 4))
                          (TreeS.ret
                            (K.val (Ty.pair (Ty.slc tTrigger) (Ty.pair tInt (Ty.pair tInt Ty.unit)))
                              ([], 0, 6, PUnit.unit)))
                          (TreeS.req (inB w0_1 (lnx tNote w0_0)) (TreeS.bad (100000 + 1000 * 0 + 1))))))
                    (TreeS.loop
                      [{ fx := fx_trace_Chain, todo := afterOp f_trace_Chain 1 1, dst := some 15,
                          s := ofS [(0, K.val (Ty.slc tNote) w0_0), (1, K.val tInt w0_1)] }]
                      fx_trace_read (lp f_trace_read 5)
                      [(0, K.val (Ty.slc tNote) v0), (5, K.ptr 0 tTraceBook []), (15, K.val (Ty.slc tNote) v15),
                        (16, K.val tInt v16), (17, K.val tInt (IntKind.wrap IntKind.i64 (v17 + 1)))]
                      [(0,
                          Bx.obj tTraceBook
                            (K.agg
                              (Ty.pair (Ty.mp tInt tTraceLetter)
                                (Ty.pair (Ty.slc tTrigger) (Ty.pair (Ty.mp tInt tInt) (Ty.pair tInt Ty.unit))))
                              (K.kcons (K.pm (0 + 1))
                                (K.kcons (K.sl (0 + 1 + 1) tTrigger)
                                  (K.kcons (K.pm (0 + 1 + 1 + 1))
                                    (K.kcons (K.val tInt (Prod.fst (Prod.snd (el tNote v15 v17)))) K.knil)))))),
                        (0 + 1,
                          Bx.mpd tInt tTraceLetter
                            (mpSet b1 (Prod.fst (Prod.snd (Prod.snd (Prod.snd (Prod.snd (el tNote v15 v17))))))
                              (Prod.fst (mpGet b1 (Prod.fst (Prod.snd (Prod.snd (Prod.snd (el tNote v15 v17)))))),
                                Prod.fst (Prod.snd (Prod.snd (Prod.snd (el tNote v15 v17)))),
                                Prod.fst (Prod.snd (Prod.snd (Prod.snd (Prod.snd (Prod.snd (el tNote v15 v17)))))),
                                Prod.fst
                                  (Prod.snd
                                    (Prod.snd
                                      (Prod.snd
                                        (mpGet b1 (Prod.fst (Prod.snd (Prod.snd (Prod.snd (el tNote v15 v17))))))))),
                                Prod.snd
                                  (Prod.snd
                                    (Prod.snd
                                      (Prod.snd
                                        (zero
                                          (Ty.pair Ty.str
                                            (Ty.pair tInt (Ty.pair tTrigger (Ty.pair tInt Ty.unit))))))))))),
                        (0 + 1 + 1, Bx.row tTrigger b2), (0 + 1 + 1 + 1, Bx.mpd tInt tInt b3)])))
              (TreeS.ite (decide (Prod.fst (el tNote v15 v17) = 4))
                (TreeS.ite
                  (!bif mpHas b1 (Prod.fst (Prod.snd (Prod.snd (Prod.snd (el tNote v15 v17))))) then
                      eqb Ty.str (Prod.fst (mpGet b1 (Prod.fst (Prod.snd (Prod.snd (Prod.snd (el tNote v15 v17)))))))
                        (Prod.fst (Prod.snd (Prod.snd (Prod.snd (Prod.snd (Prod.snd (Prod.snd (el tNote v15 v17))))))))
                    else false)
                  (TreeS.ite (!decide (11 = 0))
                    (TreeS.ret
                      (K.val (Ty.pair (Ty.slc tTrigger) (Ty.pair tInt (Ty.pair tInt Ty.unit))) ([], 0, 11, PUnit.unit)))
                    (TreeS.req
                      (impl [(bif decide (w0_1 < 0) then true else decide (lnx tNote w0_0 ≤ w0_1), false)]
                        (inB w0_1 (lnx tNote w0_0)))
                      (TreeS.ite
                        (bif bif decide (w0_1 < 0) then true else decide (lnx tNote w0_0 ≤ w0_1) then true
                        else !decide (Prod.fst (el tNote w0_0 w0_1) = 4))
                        (TreeS.ret
                          (K.val (Ty.pair (Ty.slc tTrigger) (Ty.pair tInt (Ty.pair tInt Ty.unit)))
                            ([], 0, 6, PUnit.unit)))
                        (TreeS.req (inB w0_1 (lnx tNote w0_0)) (TreeS.bad (100000 + 1000 * 0 + 1))))))
                  (TreeS.loop
                    [{ fx := fx_trace_Chain, todo := afterOp f_trace_Chain 1 1, dst := some 15,
                        s := ofS [(0, K.val (Ty.slc tNote) w0_0), (1, K.val tInt w0_1)] }]
                    fx_trace_read (lp f_trace_read 5)
                    [(0, K.val (Ty.slc tNote) v0), (5, K.ptr 0 tTraceBook []), (15, K.val (Ty.slc tNote) v15),
                      (16, K.val tInt v16), (17, K.val tInt (IntKind.wrap IntKind.i64 (v17 + 1)))]
                    [(0,
                        Bx.obj tTraceBook
                          (K.agg
                            (Ty.pair (Ty.mp tInt tTraceLetter)
                              (Ty.pair (Ty.slc tTrigger) (Ty.pair (Ty.mp tInt tInt) (Ty.pair tInt Ty.unit))))
                            (K.kcons (K.pm (0 + 1))
                              (K.kcons (K.sl (0 + 1 + 1) tTrigger)
                                (K.kcons (K.pm (0 + 1 + 1 + 1))
                                  (K.kcons (K.val tInt (Prod.fst (Prod.snd (el tNote v15 v17)))) K.knil)))))),
                      (0 + 1, Bx.mpd tInt tTraceLetter b1), (0 + 1 + 1, Bx.row tTrigger b2),
                      (0 + 1 + 1 + 1, Bx.mpd tInt tInt b3)]))
                (TreeS.ite (!decide (Prod.fst (el tNote v15 v17) = 5))
                  (TreeS.ite (!decide (11 = 0))
                    (TreeS.ret
                      (K.val (Ty.pair (Ty.slc tTrigger) (Ty.pair tInt (Ty.pair tInt Ty.unit))) ([], 0, 11, PUnit.unit)))
                    (TreeS.req
                      (impl [(bif decide (w0_1 < 0) then true else decide (lnx tNote w0_0 ≤ w0_1), false)]
                        (inB w0_1 (lnx tNote w0_0)))
                      (TreeS.ite
                        (bif bif decide (w0_1 < 0) then true else decide (lnx tNote w0_0 ≤ w0_1) then true
                        else !decide (Prod.fst (el tNote w0_0 w0_1) = 4))
                        (TreeS.ret
                          (K.val (Ty.pair (Ty.slc tTrigger) (Ty.pair tInt (Ty.pair tInt Ty.unit)))
                            ([], 0, 6, PUnit.unit)))
                        (TreeS.req (inB w0_1 (lnx tNote w0_0)) (TreeS.bad (100000 + 1000 * 0 + 1))))))
                  (TreeS.loop
                    [{ fx := fx_trace_Chain, todo := afterOp f_trace_Chain 1 1, dst := some 15,
                        s := ofS [(0, K.val (Ty.slc tNote) w0_0), (1, K.val tInt w0_1)] }]
                    fx_trace_read (lp f_trace_read 5)
                    [(0, K.val (Ty.slc tNote) v0), (5, K.ptr 0 tTraceBook []), (15, K.val (Ty.slc tNote) v15),
                      (16, K.val tInt v16), (17, K.val tInt (IntKind.wrap IntKind.i64 (v17 + 1)))]
                    [(0,
                        Bx.obj tTraceBook
                          (K.agg
                            (Ty.pair (Ty.mp tInt tTraceLetter)
                              (Ty.pair (Ty.slc tTrigger) (Ty.pair (Ty.mp tInt tInt) (Ty.pair tInt Ty.unit))))
                            (K.kcons (K.pm (0 + 1))
                              (K.kcons (K.sl (0 + 1 + 1) tTrigger)
                                (K.kcons (K.pm (0 + 1 + 1 + 1))
                                  (K.kcons (K.val tInt (Prod.fst (Prod.snd (el tNote v15 v17)))) K.knil)))))),
                      (0 + 1, Bx.mpd tInt tTraceLetter b1), (0 + 1 + 1, Bx.row tTrigger b2),
                      (0 + 1 + 1 + 1, Bx.mpd tInt tInt b3)])))))))))
  (TreeS.ite (!decide (0 = 0))
    (TreeS.ret (K.val (Ty.pair (Ty.slc tTrigger) (Ty.pair tInt (Ty.pair tInt Ty.unit))) ([], 0, 0, PUnit.unit)))
    (TreeS.req
      (impl [(bif decide (w0_1 < 0) then true else decide (lnx tNote w0_0 ≤ w0_1), false)] (inB w0_1 (lnx tNote w0_0)))
      (TreeS.ite
        (bif bif decide (w0_1 < 0) then true else decide (lnx tNote w0_0 ≤ w0_1) then true
        else !decide (Prod.fst (el tNote w0_0 w0_1) = 4))
        (TreeS.ret (K.val (Ty.pair (Ty.slc tTrigger) (Ty.pair tInt (Ty.pair tInt Ty.unit))) ([], 0, 6, PUnit.unit)))
        (TreeS.req (inB w0_1 (lnx tNote w0_0))
          (TreeS.loop [] fx_trace_Chain (lp f_trace_Chain 9)
            [(7, K.ptr 0 tTraceBook []), (10, K.sl (0 + 1) tTrigger),
              (11, K.val tInt (Prod.fst (Prod.snd (Prod.snd (Prod.snd (el tNote w0_0 w0_1)))))),
              (12, K.ptr (0 + 1 + 1) tTraceLetter [])]
            [(0,
                Bx.obj tTraceBook
                  (K.agg
                    (Ty.pair (Ty.mp tInt tTraceLetter)
                      (Ty.pair (Ty.slc tTrigger) (Ty.pair (Ty.mp tInt tInt) (Ty.pair tInt Ty.unit))))
                    (K.kcons (K.pm (0 + 1 + 1 + 1))
                      (K.kcons (K.sl (0 + 1 + 1 + 1 + 1) tTrigger)
                        (K.kcons (K.pm (0 + 1 + 1 + 1 + 1 + 1)) (K.kcons (K.val tInt b0) K.knil)))))),
              (0 + 1, Bx.row tTrigger []),
              (0 + 1 + 1,
                Bx.cell tTraceLetter (mpGet b1 (Prod.fst (Prod.snd (Prod.snd (Prod.snd (el tNote w0_0 w0_1))))))),
              (0 + 1 + 1 + 1, Bx.mpd tInt tTraceLetter b1), (0 + 1 + 1 + 1 + 1, Bx.row tTrigger b2),
              (0 + 1 + 1 + 1 + 1 + 1, Bx.mpd tInt tInt b3)])))))
theorem TL_trace_Chain_trace_read_5_eq (w0_0 : den (Ty.slc tNote)) (w0_1 : den tInt) (v0 : den (Ty.slc tNote)) (v15 : den (Ty.slc tNote)) (v16 : den tInt) (v17 : den tInt) (b0 : den tInt) (b1 : List (den tInt × den tTraceLetter)) (b2 : List (den tTrigger)) (b3 : List (den tInt × den tInt)) : treeS X_trace_Chain M_trace_Chain 5000 (Q_trace_Chain_trace_read_5 w0_0 w0_1 v0 v15 v16 v17 b0 b1 b2 b3) fx_trace_read (lp f_trace_read 5) (E_trace_Chain_trace_read_5 w0_0 w0_1 v0 v15 v16 v17 b0 b1 b2 b3) = TL_trace_Chain_trace_read_5 w0_0 w0_1 v0 v15 v16 v17 b0 b1 b2 b3 := by kernel_rfl

noncomputable def E_trace_Chain_9 (v11 : den tInt) (b0 : den tInt) (b1 : List (den tTrigger)) (b2 : den tTraceLetter) (b3 : List (den tInt × den tTraceLetter)) (b4 : List (den tTrigger)) (b5 : List (den tInt × den tInt)) : Env := Env.of
  [(7, K.ptr 0 tTraceBook []), (10, K.sl (0 + 1) tTrigger), (11, K.val tInt v11),
    (12, K.ptr (0 + 1 + 1) tTraceLetter [])]
  [(0,
      Bx.obj tTraceBook
        (K.agg
          (Ty.pair (Ty.mp tInt tTraceLetter)
            (Ty.pair (Ty.slc tTrigger) (Ty.pair (Ty.mp tInt tInt) (Ty.pair tInt Ty.unit))))
          (K.kcons (K.pm (0 + 1 + 1 + 1))
            (K.kcons (K.sl (0 + 1 + 1 + 1 + 1) tTrigger)
              (K.kcons (K.pm (0 + 1 + 1 + 1 + 1 + 1)) (K.kcons (K.val tInt b0) K.knil)))))),
    (1, Bx.row tTrigger b1), (2, Bx.cell tTraceLetter b2), (3, Bx.mpd tInt tTraceLetter b3), (4, Bx.row tTrigger b4),
    (5, Bx.mpd tInt tInt b5)]
noncomputable def TL_trace_Chain_9 (v11 : den tInt) (b0 : den tInt) (b1 : List (den tTrigger)) (b2 : den tTraceLetter) (b3 : List (den tInt × den tTraceLetter)) (b4 : List (den tTrigger)) (b5 : List (den tInt × den tInt)) : TreeS :=
  TreeS.ite (decide (0 < Prod.fst (Prod.snd b2)))
  (TreeS.ite
    (!eqb tTrigger (Prod.fst (Prod.snd (Prod.snd b2))) (zero (Ty.pair tId (Ty.pair tEntry (Ty.pair tInt Ty.unit)))))
    (TreeS.req
      (List.length (b1 ++ List.set (List.replicate 1 (zero tTrigger)) 0 (Prod.fst (Prod.snd (Prod.snd b2)))) ≤ most)
      (TreeS.loop [] fx_trace_Chain (lp f_trace_Chain 9)
        [(7, K.ptr 0 tTraceBook []), (10, K.sl (0 + 1) tTrigger), (11, K.val tInt (Prod.fst (Prod.snd b2))),
          (12, K.ptr (0 + 1 + 1) tTraceLetter [])]
        [(0,
            Bx.obj tTraceBook
              (K.agg
                (Ty.pair (Ty.mp tInt tTraceLetter)
                  (Ty.pair (Ty.slc tTrigger) (Ty.pair (Ty.mp tInt tInt) (Ty.pair tInt Ty.unit))))
                (K.kcons (K.pm (0 + 1 + 1 + 1))
                  (K.kcons (K.sl (0 + 1 + 1 + 1 + 1) tTrigger)
                    (K.kcons (K.pm (0 + 1 + 1 + 1 + 1 + 1)) (K.kcons (K.val tInt b0) K.knil)))))),
          (0 + 1,
            Bx.row tTrigger (b1 ++ List.set (List.replicate 1 (zero tTrigger)) 0 (Prod.fst (Prod.snd (Prod.snd b2))))),
          (0 + 1 + 1, Bx.cell tTraceLetter (mpGet b3 (Prod.fst (Prod.snd b2)))),
          (0 + 1 + 1 + 1, Bx.mpd tInt tTraceLetter b3), (0 + 1 + 1 + 1 + 1, Bx.row tTrigger b4),
          (0 + 1 + 1 + 1 + 1 + 1, Bx.mpd tInt tInt b5)]))
    (TreeS.loop [] fx_trace_Chain (lp f_trace_Chain 9)
      [(7, K.ptr 0 tTraceBook []), (10, K.sl (0 + 1) tTrigger), (11, K.val tInt (Prod.fst (Prod.snd b2))),
        (12, K.ptr (0 + 1 + 1) tTraceLetter [])]
      [(0,
          Bx.obj tTraceBook
            (K.agg
              (Ty.pair (Ty.mp tInt tTraceLetter)
                (Ty.pair (Ty.slc tTrigger) (Ty.pair (Ty.mp tInt tInt) (Ty.pair tInt Ty.unit))))
              (K.kcons (K.pm (0 + 1 + 1 + 1))
                (K.kcons (K.sl (0 + 1 + 1 + 1 + 1) tTrigger)
                  (K.kcons (K.pm (0 + 1 + 1 + 1 + 1 + 1)) (K.kcons (K.val tInt b0) K.knil)))))),
        (0 + 1, Bx.row tTrigger b1), (0 + 1 + 1, Bx.cell tTraceLetter (mpGet b3 (Prod.fst (Prod.snd b2)))),
        (0 + 1 + 1 + 1, Bx.mpd tInt tTraceLetter b3), (0 + 1 + 1 + 1 + 1, Bx.row tTrigger b4),
        (0 + 1 + 1 + 1 + 1 + 1, Bx.mpd tInt tInt b5)]))
  (TreeS.loop
    [{ fx := fx_trace_Chain, todo := afterOp f_trace_Chain 16 1, dst := some 73,
        s := ofS [(7, K.ptr (0 + 1) tTraceBook []), (10, K.sl 0 tTrigger), (11, K.val tInt v11)] }]
    fx_slices_Reverse_Trigger (lp f_slices_Reverse_Trigger 1)
    [(0, K.sl 0 tTrigger), (2, K.val tInt 0), (3, K.val tInt (IntKind.wrap IntKind.i64 (lnx tTrigger b1 - 1)))]
    [(0, Bx.row tTrigger b1),
      (0 + 1,
        Bx.obj tTraceBook
          (K.agg
            (Ty.pair (Ty.mp tInt tTraceLetter)
              (Ty.pair (Ty.slc tTrigger) (Ty.pair (Ty.mp tInt tInt) (Ty.pair tInt Ty.unit))))
            (K.kcons (K.pm (0 + 1 + 1))
              (K.kcons (K.sl (0 + 1 + 1 + 1) tTrigger)
                (K.kcons (K.pm (0 + 1 + 1 + 1 + 1)) (K.kcons (K.val tInt b0) K.knil)))))),
      (0 + 1 + 1, Bx.mpd tInt tTraceLetter b3), (0 + 1 + 1 + 1, Bx.row tTrigger b4),
      (0 + 1 + 1 + 1 + 1, Bx.mpd tInt tInt b5)])
theorem TL_trace_Chain_9_eq (v11 : den tInt) (b0 : den tInt) (b1 : List (den tTrigger)) (b2 : den tTraceLetter) (b3 : List (den tInt × den tTraceLetter)) (b4 : List (den tTrigger)) (b5 : List (den tInt × den tInt)) : treeS X_trace_Chain M_trace_Chain 5000 [] fx_trace_Chain (lp f_trace_Chain 9) (E_trace_Chain_9 v11 b0 b1 b2 b3 b4 b5) = TL_trace_Chain_9 v11 b0 b1 b2 b3 b4 b5 := by kernel_rfl

noncomputable def Q_trace_Chain_slices_Reverse_Trigger_1 (w0_11 : den tInt) (v2 : den tInt) (v3 : den tInt) (b0 : List (den tTrigger)) (b1 : den tInt) (b2 : List (den tInt × den tTraceLetter)) (b3 : List (den tTrigger)) (b4 : List (den tInt × den tInt)) : List Cont := [{
    fx := fx_trace_Chain, todo := afterOp f_trace_Chain 16 1, dst := some 73,
    s := ofS [(7, K.ptr (0 + 1) tTraceBook []), (10, K.sl 0 tTrigger), (11, K.val tInt w0_11)] }]
noncomputable def E_trace_Chain_slices_Reverse_Trigger_1 (w0_11 : den tInt) (v2 : den tInt) (v3 : den tInt) (b0 : List (den tTrigger)) (b1 : den tInt) (b2 : List (den tInt × den tTraceLetter)) (b3 : List (den tTrigger)) (b4 : List (den tInt × den tInt)) : Env := Env.of
  [(0, K.sl 0 tTrigger), (2, K.val tInt v2), (3, K.val tInt v3)]
  [(0, Bx.row tTrigger b0),
    (1,
      Bx.obj tTraceBook
        (K.agg
          (Ty.pair (Ty.mp tInt tTraceLetter)
            (Ty.pair (Ty.slc tTrigger) (Ty.pair (Ty.mp tInt tInt) (Ty.pair tInt Ty.unit))))
          (K.kcons (K.pm (0 + 1 + 1))
            (K.kcons (K.sl (0 + 1 + 1 + 1) tTrigger)
              (K.kcons (K.pm (0 + 1 + 1 + 1 + 1)) (K.kcons (K.val tInt b1) K.knil)))))),
    (2, Bx.mpd tInt tTraceLetter b2), (3, Bx.row tTrigger b3), (4, Bx.mpd tInt tInt b4)]
noncomputable def TL_trace_Chain_slices_Reverse_Trigger_1 (w0_11 : den tInt) (v2 : den tInt) (v3 : den tInt) (b0 : List (den tTrigger)) (b1 : den tInt) (b2 : List (den tInt × den tTraceLetter)) (b3 : List (den tTrigger)) (b4 : List (den tInt × den tInt)) : TreeS :=
  TreeS.ite (decide (v2 < v3))
  (TreeS.req (inB v3 (lnx tTrigger b0))
    (TreeS.req (inB v3 (lnx tTrigger b0))
      (TreeS.req (inB v2 (lnx tTrigger b0))
        (TreeS.req (inB v2 (lnx tTrigger b0))
          (TreeS.req (inB v2 (lnx tTrigger b0))
            (TreeS.req (inB v2 (lnx tTrigger b0))
              (TreeS.req (inB v3 (lnx tTrigger (setAtx tTrigger b0 v2 (el tTrigger b0 v3))))
                (TreeS.req (inB v3 (lnx tTrigger (setAtx tTrigger b0 v2 (el tTrigger b0 v3))))
                  (TreeS.loop
                    [{ fx := fx_trace_Chain, todo := afterOp f_trace_Chain 16 1, dst := some 73,
                        s := ofS [(7, K.ptr (0 + 1) tTraceBook []), (10, K.sl 0 tTrigger), (11, K.val tInt w0_11)] }]
                    fx_slices_Reverse_Trigger (lp f_slices_Reverse_Trigger 1)
                    [(0, K.sl 0 tTrigger), (2, K.val tInt (IntKind.wrap IntKind.i64 (v2 + 1))),
                      (3, K.val tInt (IntKind.wrap IntKind.i64 (v3 - 1)))]
                    [(0,
                        Bx.row tTrigger
                          (setAtx tTrigger (setAtx tTrigger b0 v2 (el tTrigger b0 v3)) v3 (el tTrigger b0 v2))),
                      (0 + 1,
                        Bx.obj tTraceBook
                          (K.agg
                            (Ty.pair (Ty.mp tInt tTraceLetter)
                              (Ty.pair (Ty.slc tTrigger) (Ty.pair (Ty.mp tInt tInt) (Ty.pair tInt Ty.unit))))
                            (K.kcons (K.pm (0 + 1 + 1))
                              (K.kcons (K.sl (0 + 1 + 1 + 1) tTrigger)
                                (K.kcons (K.pm (0 + 1 + 1 + 1 + 1)) (K.kcons (K.val tInt b1) K.knil)))))),
                      (0 + 1 + 1, Bx.mpd tInt tTraceLetter b2), (0 + 1 + 1 + 1, Bx.row tTrigger b3),
                      (0 + 1 + 1 + 1 + 1, Bx.mpd tInt tInt b4)])))))))))
  (TreeS.ret
    (K.val (Ty.pair (Ty.slc tTrigger) (Ty.pair tInt (Ty.pair tInt Ty.unit))) (b0, mpGet b4 w0_11, 0, PUnit.unit)))
theorem TL_trace_Chain_slices_Reverse_Trigger_1_eq (w0_11 : den tInt) (v2 : den tInt) (v3 : den tInt) (b0 : List (den tTrigger)) (b1 : den tInt) (b2 : List (den tInt × den tTraceLetter)) (b3 : List (den tTrigger)) (b4 : List (den tInt × den tInt)) : treeS X_trace_Chain M_trace_Chain 5000 (Q_trace_Chain_slices_Reverse_Trigger_1 w0_11 v2 v3 b0 b1 b2 b3 b4) fx_slices_Reverse_Trigger (lp f_slices_Reverse_Trigger 1) (E_trace_Chain_slices_Reverse_Trigger_1 w0_11 v2 v3 b0 b1 b2 b3 b4) = TL_trace_Chain_slices_Reverse_Trigger_1 w0_11 v2 v3 b0 b1 b2 b3 b4 := by kernel_rfl

noncomputable abbrev fx_trace_Cost : Fx := { fn := f_trace_Cost, ann := { loops := [(9, { keep := [1, 11, 38] })] }, share := true }
noncomputable abbrev X_trace_Cost : TabX := { D := { T := tyTab, F := [(n_slices_Contains_Trigger, S_slices_Contains_Trigger)], R := [], ovl := [] }, inl := [(n_trace_read, fx_trace_read), (n_trace_book_takes, fx_trace_book_takes)] }
noncomputable abbrev M_trace_Cost : RMode := .data rs_trace_Cost
theorem x_trace_Cost (h_slices_Contains_Trigger : FnOk prog [] n_slices_Contains_Trigger S_slices_Contains_Trigger) : XOk prog X_trace_Cost := xok (dok_add (dok_nil tab_ok mixed_ok) h_slices_Contains_Trigger) (by kernel_rfl) rows_nil (inl_add at_trace_read (by kernel_rfl) (inl_add at_trace_book_takes (by kernel_rfl) inl_nil)) ovl_nil
noncomputable def T_trace_Cost (l : den (Ty.slc tNote)) (n : den tInt) : TreeS :=
  TreeS.ite (decide (1000 < lnx tNote l))
  (TreeS.ite (!decide (2 = 0)) (TreeS.ret (K.val (Ty.pair tInt (Ty.pair tInt Ty.unit)) (0, 2, PUnit.unit)))
    (TreeS.bad (100000 + 1000 * 0 + 1)))
  (TreeS.loop
    [{ fx := fx_trace_Cost, todo := afterOp f_trace_Cost 1 1, dst := some 16,
        s := ofS [(0, K.val (Ty.slc tNote) l), (1, K.val tInt n)] }]
    fx_trace_read (lp f_trace_read 5)
    [(0, K.val (Ty.slc tNote) l), (5, K.ptr 0 tTraceBook []), (15, K.val (Ty.slc tNote) l),
      (16, K.val tInt (lnx tNote l)), (17, K.val tInt 0)]
    [(0,
        Bx.obj tTraceBook
          (K.agg
            (Ty.pair (Ty.mp tInt tTraceLetter)
              (Ty.pair (Ty.slc tTrigger) (Ty.pair (Ty.mp tInt tInt) (Ty.pair tInt Ty.unit))))
            (K.kcons (K.pm (0 + 1))
              (K.kcons (K.sl (0 + 1 + 1) tTrigger)
                (K.kcons (K.pm (0 + 1 + 1 + 1)) (K.kcons (K.val tInt (zero tInt)) K.knil)))))),
      (0 + 1, Bx.mpd tInt tTraceLetter []), (0 + 1 + 1, Bx.row tTrigger []), (0 + 1 + 1 + 1, Bx.mpd tInt tInt [])])
theorem T_trace_Cost_eq (l : den (Ty.slc tNote)) (n : den tInt) : treeS X_trace_Cost M_trace_Cost 5000 [] fx_trace_Cost (bodyOf f_trace_Cost) (Env.of
  (argEnv as_trace_Cost (l, n, ()) 0) []) = T_trace_Cost l n := by kernel_rfl

noncomputable def Q_trace_Cost_trace_read_5 (w0_0 : den (Ty.slc tNote)) (w0_1 : den tInt) (v0 : den (Ty.slc tNote)) (v15 : den (Ty.slc tNote)) (v16 : den tInt) (v17 : den tInt) (b0 : den tInt) (b1 : List (den tInt × den tTraceLetter)) (b2 : List (den tTrigger)) (b3 : List (den tInt × den tInt)) : List Cont := [{
    fx := fx_trace_Cost, todo := afterOp f_trace_Cost 1 1, dst := some 16,
    s := ofS [(0, K.val (Ty.slc tNote) w0_0), (1, K.val tInt w0_1)] }]
noncomputable def E_trace_Cost_trace_read_5 (w0_0 : den (Ty.slc tNote)) (w0_1 : den tInt) (v0 : den (Ty.slc tNote)) (v15 : den (Ty.slc tNote)) (v16 : den tInt) (v17 : den tInt) (b0 : den tInt) (b1 : List (den tInt × den tTraceLetter)) (b2 : List (den tTrigger)) (b3 : List (den tInt × den tInt)) : Env := Env.of
  [(0, K.val (Ty.slc tNote) v0), (5, K.ptr 0 tTraceBook []), (15, K.val (Ty.slc tNote) v15), (16, K.val tInt v16),
    (17, K.val tInt v17)]
  [(0,
      Bx.obj tTraceBook
        (K.agg
          (Ty.pair (Ty.mp tInt tTraceLetter)
            (Ty.pair (Ty.slc tTrigger) (Ty.pair (Ty.mp tInt tInt) (Ty.pair tInt Ty.unit))))
          (K.kcons (K.pm (0 + 1))
            (K.kcons (K.sl (0 + 1 + 1) tTrigger) (K.kcons (K.pm (0 + 1 + 1 + 1)) (K.kcons (K.val tInt b0) K.knil)))))),
    (1, Bx.mpd tInt tTraceLetter b1), (2, Bx.row tTrigger b2), (3, Bx.mpd tInt tInt b3)]
noncomputable def TL_trace_Cost_trace_read_5 (w0_0 : den (Ty.slc tNote)) (w0_1 : den tInt) (v0 : den (Ty.slc tNote)) (v15 : den (Ty.slc tNote)) (v16 : den tInt) (v17 : den tInt) (b0 : den tInt) (b1 : List (den tInt × den tTraceLetter)) (b2 : List (den tTrigger)) (b3 : List (den tInt × den tInt)) : TreeS :=
  TreeS.ite (decide (v17 < v16))
  (TreeS.req (inB v17 (lnx tNote v15))
    (TreeS.ite (decide (v17 = 0))
      (TreeS.ite (decide (Prod.fst (Prod.snd (el tNote v15 v17)) < Prod.fst (Prod.snd (el tNote v15 v17))))
        (TreeS.ite (!false)
          (TreeS.ite (!decide (11 = 0)) (TreeS.ret (K.val (Ty.pair tInt (Ty.pair tInt Ty.unit)) (0, 11, PUnit.unit)))
            (TreeS.bad (100000 + 1000 * 0 + 1)))
          (TreeS.loop
            [{ fx := fx_trace_Cost, todo := afterOp f_trace_Cost 1 1, dst := some 16,
                s := ofS [(0, K.val (Ty.slc tNote) w0_0), (1, K.val tInt w0_1)] }]
            fx_trace_read (lp f_trace_read 5)
            [(0, K.val (Ty.slc tNote) v0), (5, K.ptr 0 tTraceBook []), (15, K.val (Ty.slc tNote) v15),
              (16, K.val tInt v16), (17, K.val tInt (IntKind.wrap IntKind.i64 (v17 + 1)))]
            [(0,
                Bx.obj tTraceBook
                  (K.agg
                    (Ty.pair (Ty.mp tInt tTraceLetter)
                      (Ty.pair (Ty.slc tTrigger) (Ty.pair (Ty.mp tInt tInt) (Ty.pair tInt Ty.unit))))
                    (K.kcons (K.pm (0 + 1))
                      (K.kcons (K.sl (0 + 1 + 1) tTrigger)
                        (K.kcons (K.pm (0 + 1 + 1 + 1))
                          (K.kcons (K.val tInt (Prod.fst (Prod.snd (el tNote v15 v17)))) K.knil)))))),
              (0 + 1, Bx.mpd tInt tTraceLetter b1), (0 + 1 + 1, Bx.row tTrigger b2),
              (0 + 1 + 1 + 1, Bx.mpd tInt tInt b3)]))
        (TreeS.ite (decide (Prod.fst (el tNote v15 v17) = 1))
          (TreeS.ite
            (!bif decide (0 < Prod.fst (Prod.snd (Prod.snd (Prod.snd (Prod.snd (el tNote v15 v17)))))) then
                !mpHas b1 (Prod.fst (Prod.snd (Prod.snd (Prod.snd (Prod.snd (el tNote v15 v17))))))
              else false)
            (TreeS.ite (!decide (11 = 0)) (TreeS.ret (K.val (Ty.pair tInt (Ty.pair tInt Ty.unit)) (0, 11, PUnit.unit)))
              (TreeS.bad (100000 + 1000 * 0 + 1)))
            (TreeS.loop
              [{ fx := fx_trace_Cost, todo := afterOp f_trace_Cost 1 1, dst := some 16,
                  s := ofS [(0, K.val (Ty.slc tNote) w0_0), (1, K.val tInt w0_1)] }]
              fx_trace_read (lp f_trace_read 5)
              [(0, K.val (Ty.slc tNote) v0), (5, K.ptr 0 tTraceBook []), (15, K.val (Ty.slc tNote) v15),
                (16, K.val tInt v16), (17, K.val tInt (IntKind.wrap IntKind.i64 (v17 + 1)))]
              [(0,
                  Bx.obj tTraceBook
                    (K.agg
                      (Ty.pair (Ty.mp tInt tTraceLetter)
                        (Ty.pair (Ty.slc tTrigger) (Ty.pair (Ty.mp tInt tInt) (Ty.pair tInt Ty.unit))))
                      (K.kcons (K.pm (0 + 1))
                        (K.kcons (K.sl (0 + 1 + 1) tTrigger)
                          (K.kcons (K.pm (0 + 1 + 1 + 1))
                            (K.kcons (K.val tInt (Prod.fst (Prod.snd (el tNote v15 v17)))) K.knil)))))),
                (0 + 1,
                  Bx.mpd tInt tTraceLetter
                    (mpSet b1 (Prod.fst (Prod.snd (Prod.snd (Prod.snd (Prod.snd (el tNote v15 v17))))))
                      (Prod.fst (Prod.snd (Prod.snd (Prod.snd (Prod.snd (Prod.snd (Prod.snd (el tNote v15 v17))))))),
                        Prod.fst
                          (Prod.snd (zero (Ty.pair Ty.str (Ty.pair tInt (Ty.pair tTrigger (Ty.pair tInt Ty.unit)))))),
                        Prod.fst
                          (Prod.snd
                            (Prod.snd
                              (zero (Ty.pair Ty.str (Ty.pair tInt (Ty.pair tTrigger (Ty.pair tInt Ty.unit))))))),
                        Prod.fst (Prod.snd (Prod.snd (Prod.snd (Prod.snd (el tNote v15 v17))))),
                        Prod.snd
                          (Prod.snd
                            (Prod.snd
                              (Prod.snd
                                (zero (Ty.pair Ty.str (Ty.pair tInt (Ty.pair tTrigger (Ty.pair tInt Ty.unit))))))))))),
                (0 + 1 + 1, Bx.row tTrigger b2),
                (0 + 1 + 1 + 1,
                  Bx.mpd tInt tInt
                    (mpSet b3 (Prod.fst (Prod.snd (Prod.snd (Prod.snd (Prod.snd (el tNote v15 v17))))))
                      (Prod.fst (Prod.snd (Prod.snd (el tNote v15 v17))))))]))
          (TreeS.ite (decide (Prod.fst (el tNote v15 v17) = 2))
            (TreeS.req
              (List.length
                  (b2 ++
                    List.set (List.replicate 1 (zero tTrigger)) 0
                      (Prod.fst (Prod.snd (Prod.snd (Prod.snd (Prod.snd (Prod.snd (el tNote v15 v17)))))))) ≤
                most)
              (TreeS.ite (!true)
                (TreeS.ite (!decide (11 = 0))
                  (TreeS.ret (K.val (Ty.pair tInt (Ty.pair tInt Ty.unit)) (0, 11, PUnit.unit)))
                  (TreeS.bad (100000 + 1000 * 0 + 1)))
                (TreeS.loop
                  [{ fx := fx_trace_Cost, todo := afterOp f_trace_Cost 1 1, dst := some 16,
                      s := ofS [(0, K.val (Ty.slc tNote) w0_0), (1, K.val tInt w0_1)] }]
                  fx_trace_read (lp f_trace_read 5)
                  [(0, K.val (Ty.slc tNote) v0), (5, K.ptr 0 tTraceBook []), (15, K.val (Ty.slc tNote) v15),
                    (16, K.val tInt v16), (17, K.val tInt (IntKind.wrap IntKind.i64 (v17 + 1)))]
                  [(0,
                      Bx.obj tTraceBook
                        (K.agg
                          (Ty.pair (Ty.mp tInt tTraceLetter)
                            (Ty.pair (Ty.slc tTrigger) (Ty.pair (Ty.mp tInt tInt) (Ty.pair tInt Ty.unit))))
                          (K.kcons (K.pm (0 + 1))
                            (K.kcons (K.sl (0 + 1 + 1) tTrigger)
                              (K.kcons (K.pm (0 + 1 + 1 + 1))
                                (K.kcons (K.val tInt (Prod.fst (Prod.snd (el tNote v15 v17)))) K.knil)))))),
                    (0 + 1, Bx.mpd tInt tTraceLetter b1),
                    (0 + 1 + 1,
                      Bx.row tTrigger
                        (b2 ++
                          List.set (List.replicate 1 (zero tTrigger)) 0
                            (Prod.fst (Prod.snd (Prod.snd (Prod.snd (Prod.snd (Prod.snd (el tNote v15 v17))))))))),
                    (0 + 1 + 1 + 1, Bx.mpd tInt tInt b3)])))
            (TreeS.ite (decide (Prod.fst (el tNote v15 v17) = 3))
              (TreeS.req (List.length b2 ≤ 1000000)
                (TreeS.all (den Ty.bool)
                  (fun (q10 : den Ty.bool) ↦
                    q10 = g_has b2 (Prod.fst (Prod.snd (Prod.snd (Prod.snd (Prod.snd (Prod.snd (el tNote v15 v17))))))))
                  fun (q10 : den Ty.bool) ↦
                  TreeS.ite
                    (!bif
                          bif
                              bif mpHas b1 (Prod.fst (Prod.snd (Prod.snd (Prod.snd (el tNote v15 v17))))) then
                                decide (0 < Prod.fst (Prod.snd (Prod.snd (Prod.snd (Prod.snd (el tNote v15 v17))))))
                              else false then
                            !mpHas b1 (Prod.fst (Prod.snd (Prod.snd (Prod.snd (Prod.snd (el tNote v15 v17))))))
                          else false then
                        bif
                            bif
                                g_has b2
                                  (Prod.fst
                                    (Prod.snd (Prod.snd (Prod.snd (Prod.snd (Prod.snd (el tNote v15 v17))))))) then
                              decide
                                (Prod.fst (Prod.snd (el tNote v15 v17)) <
                                  Prod.fst
                                    (Prod.snd
                                      (Prod.snd
                                        (Prod.fst
                                          (Prod.snd (Prod.snd (Prod.snd (Prod.snd (Prod.snd (el tNote v15 v17))))))))))
                            else false then
                          true
                        else
                          eqb tTrigger
                            (Prod.fst (Prod.snd (Prod.snd (Prod.snd (Prod.snd (Prod.snd (el tNote v15 v17)))))))
                            (zero (Ty.pair tId (Ty.pair tEntry (Ty.pair tInt Ty.unit))))
                      else false)
                    (TreeS.ite (!decide (11 = 0))
                      (TreeS.ret (K.val (Ty.pair tInt (Ty.pair tInt Ty.unit)) (0, 11, PUnit.unit)))
                      (TreeS.bad (100000 + 1000 * 0 + 1)))
                    (TreeS.loop
                      [{ fx := fx_trace_Cost, todo := afterOp f_trace_Cost 1 1, dst := some 16,
                          s := ofS [(0, K.val (Ty.slc tNote) w0_0), (1, K.val tInt w0_1)] }]
                      fx_trace_read (lp f_trace_read 5)
                      [(0, K.val (Ty.slc tNote) v0), (5, K.ptr 0 tTraceBook []), (15, K.val (Ty.slc tNote) v15),
                        (16, K.val tInt v16), (17, K.val tInt (IntKind.wrap IntKind.i64 (v17 + 1)))]
                      [(0,
                          Bx.obj tTraceBook
                            (K.agg
                              (Ty.pair (Ty.mp tInt tTraceLetter)
                                (Ty.pair (Ty.slc tTrigger) (Ty.pair (Ty.mp tInt tInt) (Ty.pair tInt Ty.unit))))
                              (K.kcons (K.pm (0 + 1))
                                (K.kcons (K.sl (0 + 1 + 1) tTrigger)
                                  (K.kcons (K.pm (0 + 1 + 1 + 1))
                                    (K.kcons (K.val tInt (Prod.fst (Prod.snd (el tNote v15 v17)))) K.knil)))))),
                        (0 + 1,
                          Bx.mpd tInt tTraceLetter
                            (mpSet b1 (Prod.fst (Prod.snd (Prod.snd (Prod.snd (Prod.snd (el tNote v15 v17))))))
                              (Prod.fst (mpGet b1 (Prod.fst (Prod.snd (Prod.snd (Prod.snd (el tNote v15 v17)))))),
                                Prod.fst (Prod.snd (Prod.snd (Prod.snd (el tNote v15 v17)))),
                                Prod.fst (Prod.snd (Prod.snd (Prod.snd (Prod.snd (Prod.snd (el tNote v15 v17)))))),
                                Prod.fst
                                  (Prod.snd
                                    (Prod.snd
                                      (Prod.snd
                                        (mpGet b1 (Prod.fst (Prod.snd (Prod.snd (Prod.snd (el tNote v15 v17))))))))),
                                Prod.snd
                                  (Prod.snd
                                    (Prod.snd
                                      (Prod.snd
                                        (zero
                                          (Ty.pair Ty.str
                                            (Ty.pair tInt (Ty.pair tTrigger (Ty.pair tInt Ty.unit))))))))))),
                        (0 + 1 + 1, Bx.row tTrigger b2), (0 + 1 + 1 + 1, Bx.mpd tInt tInt b3)])))
              (TreeS.ite (decide (Prod.fst (el tNote v15 v17) = 4))
                (TreeS.ite
                  (!bif mpHas b1 (Prod.fst (Prod.snd (Prod.snd (Prod.snd (el tNote v15 v17))))) then
                      eqb Ty.str (Prod.fst (mpGet b1 (Prod.fst (Prod.snd (Prod.snd (Prod.snd (el tNote v15 v17)))))))
                        (Prod.fst (Prod.snd (Prod.snd (Prod.snd (Prod.snd (Prod.snd (Prod.snd (el tNote v15 v17))))))))
                    else false)
                  (TreeS.ite (!decide (11 = 0))
                    (TreeS.ret (K.val (Ty.pair tInt (Ty.pair tInt Ty.unit)) (0, 11, PUnit.unit)))
                    (TreeS.bad (100000 + 1000 * 0 + 1)))
                  (TreeS.loop
                    [{ fx := fx_trace_Cost, todo := afterOp f_trace_Cost 1 1, dst := some 16,
                        s := ofS [(0, K.val (Ty.slc tNote) w0_0), (1, K.val tInt w0_1)] }]
                    fx_trace_read (lp f_trace_read 5)
                    [(0, K.val (Ty.slc tNote) v0), (5, K.ptr 0 tTraceBook []), (15, K.val (Ty.slc tNote) v15),
                      (16, K.val tInt v16), (17, K.val tInt (IntKind.wrap IntKind.i64 (v17 + 1)))]
                    [(0,
                        Bx.obj tTraceBook
                          (K.agg
                            (Ty.pair (Ty.mp tInt tTraceLetter)
                              (Ty.pair (Ty.slc tTrigger) (Ty.pair (Ty.mp tInt tInt) (Ty.pair tInt Ty.unit))))
                            (K.kcons (K.pm (0 + 1))
                              (K.kcons (K.sl (0 + 1 + 1) tTrigger)
                                (K.kcons (K.pm (0 + 1 + 1 + 1))
                                  (K.kcons (K.val tInt (Prod.fst (Prod.snd (el tNote v15 v17)))) K.knil)))))),
                      (0 + 1, Bx.mpd tInt tTraceLetter b1), (0 + 1 + 1, Bx.row tTrigger b2),
                      (0 + 1 + 1 + 1, Bx.mpd tInt tInt b3)]))
                (TreeS.ite (!decide (Prod.fst (el tNote v15 v17) = 5))
                  (TreeS.ite (!decide (11 = 0))
                    (TreeS.ret (K.val (Ty.pair tInt (Ty.pair tInt Ty.unit)) (0, 11, PUnit.unit)))
                    (TreeS.bad (100000 + 1000 * 0 + 1)))
                  (TreeS.loop
                    [{ fx := fx_trace_Cost, todo := afterOp f_trace_Cost 1 1, dst := some 16,
                        s := ofS [(0, K.val (Ty.slc tNote) w0_0), (1, K.val tInt w0_1)] }]
                    fx_trace_read (lp f_trace_read 5)
                    [(0, K.val (Ty.slc tNote) v0), (5, K.ptr 0 tTraceBook []), (15, K.val (Ty.slc tNote) v15),
                      (16, K.val tInt v16), (17, K.val tInt (IntKind.wrap IntKind.i64 (v17 + 1)))]
                    [(0,
                        Bx.obj tTraceBook
                          (K.agg
                            (Ty.pair (Ty.mp tInt tTraceLetter)
                              (Ty.pair (Ty.slc tTrigger) (Ty.pair (Ty.mp tInt tInt) (Ty.pair tInt Ty.unit))))
                            (K.kcons (K.pm (0 + 1))
                              (K.kcons (K.sl (0 + 1 + 1) tTrigger)
                                (K.kcons (K.pm (0 + 1 + 1 + 1))
                                  (K.kcons (K.val tInt (Prod.fst (Prod.snd (el tNote v15 v17)))) K.knil)))))),
                      (0 + 1, Bx.mpd tInt tTraceLetter b1), (0 + 1 + 1, Bx.row tTrigger b2),
                      (0 + 1 + 1 + 1, Bx.mpd tInt tInt b3)])))))))
      (TreeS.ite (decide (Prod.fst (Prod.snd (el tNote v15 v17)) < b0))
        (TreeS.ite (!false)
          (TreeS.ite (!decide (11 = 0)) (TreeS.ret (K.val (Ty.pair tInt (Ty.pair tInt Ty.unit)) (0, 11, PUnit.unit)))
            (TreeS.bad (100000 + 1000 * 0 + 1)))
          (TreeS.loop
            [{ fx := fx_trace_Cost, todo := afterOp f_trace_Cost 1 1, dst := some 16,
                s := ofS [(0, K.val (Ty.slc tNote) w0_0), (1, K.val tInt w0_1)] }]
            fx_trace_read (lp f_trace_read 5)
            [(0, K.val (Ty.slc tNote) v0), (5, K.ptr 0 tTraceBook []), (15, K.val (Ty.slc tNote) v15),
              (16, K.val tInt v16), (17, K.val tInt (IntKind.wrap IntKind.i64 (v17 + 1)))]
            [(0,
                Bx.obj tTraceBook
                  (K.agg
                    (Ty.pair (Ty.mp tInt tTraceLetter)
                      (Ty.pair (Ty.slc tTrigger) (Ty.pair (Ty.mp tInt tInt) (Ty.pair tInt Ty.unit))))
                    (K.kcons (K.pm (0 + 1))
                      (K.kcons (K.sl (0 + 1 + 1) tTrigger)
                        (K.kcons (K.pm (0 + 1 + 1 + 1)) (K.kcons (K.val tInt b0) K.knil)))))),
              (0 + 1, Bx.mpd tInt tTraceLetter b1), (0 + 1 + 1, Bx.row tTrigger b2),
              (0 + 1 + 1 + 1, Bx.mpd tInt tInt b3)]))
        (TreeS.ite (decide (Prod.fst (el tNote v15 v17) = 1))
          (TreeS.ite
            (!bif decide (0 < Prod.fst (Prod.snd (Prod.snd (Prod.snd (Prod.snd (el tNote v15 v17)))))) then
                !mpHas b1 (Prod.fst (Prod.snd (Prod.snd (Prod.snd (Prod.snd (el tNote v15 v17))))))
              else false)
            (TreeS.ite (!decide (11 = 0)) (TreeS.ret (K.val (Ty.pair tInt (Ty.pair tInt Ty.unit)) (0, 11, PUnit.unit)))
              (TreeS.bad (100000 + 1000 * 0 + 1)))
            (TreeS.loop
              [{ fx := fx_trace_Cost, todo := afterOp f_trace_Cost 1 1, dst := some 16,
                  s := ofS [(0, K.val (Ty.slc tNote) w0_0), (1, K.val tInt w0_1)] }]
              fx_trace_read (lp f_trace_read 5)
              [(0, K.val (Ty.slc tNote) v0), (5, K.ptr 0 tTraceBook []), (15, K.val (Ty.slc tNote) v15),
                (16, K.val tInt v16), (17, K.val tInt (IntKind.wrap IntKind.i64 (v17 + 1)))]
              [(0,
                  Bx.obj tTraceBook
                    (K.agg
                      (Ty.pair (Ty.mp tInt tTraceLetter)
                        (Ty.pair (Ty.slc tTrigger) (Ty.pair (Ty.mp tInt tInt) (Ty.pair tInt Ty.unit))))
                      (K.kcons (K.pm (0 + 1))
                        (K.kcons (K.sl (0 + 1 + 1) tTrigger)
                          (K.kcons (K.pm (0 + 1 + 1 + 1))
                            (K.kcons (K.val tInt (Prod.fst (Prod.snd (el tNote v15 v17)))) K.knil)))))),
                (0 + 1,
                  Bx.mpd tInt tTraceLetter
                    (mpSet b1 (Prod.fst (Prod.snd (Prod.snd (Prod.snd (Prod.snd (el tNote v15 v17))))))
                      (Prod.fst (Prod.snd (Prod.snd (Prod.snd (Prod.snd (Prod.snd (Prod.snd (el tNote v15 v17))))))),
                        Prod.fst
                          (Prod.snd (zero (Ty.pair Ty.str (Ty.pair tInt (Ty.pair tTrigger (Ty.pair tInt Ty.unit)))))),
                        Prod.fst
                          (Prod.snd
                            (Prod.snd
                              (zero (Ty.pair Ty.str (Ty.pair tInt (Ty.pair tTrigger (Ty.pair tInt Ty.unit))))))),
                        Prod.fst (Prod.snd (Prod.snd (Prod.snd (Prod.snd (el tNote v15 v17))))),
                        Prod.snd
                          (Prod.snd
                            (Prod.snd
                              (Prod.snd
                                (zero (Ty.pair Ty.str (Ty.pair tInt (Ty.pair tTrigger (Ty.pair tInt Ty.unit))))))))))),
                (0 + 1 + 1, Bx.row tTrigger b2),
                (0 + 1 + 1 + 1,
                  Bx.mpd tInt tInt
                    (mpSet b3 (Prod.fst (Prod.snd (Prod.snd (Prod.snd (Prod.snd (el tNote v15 v17))))))
                      (Prod.fst (Prod.snd (Prod.snd (el tNote v15 v17))))))]))
          (TreeS.ite (decide (Prod.fst (el tNote v15 v17) = 2))
            (TreeS.req
              (List.length
                  (b2 ++
                    List.set (List.replicate 1 (zero tTrigger)) 0
                      (Prod.fst (Prod.snd (Prod.snd (Prod.snd (Prod.snd (Prod.snd (el tNote v15 v17)))))))) ≤
                most)
              (TreeS.ite (!true)
                (TreeS.ite (!decide (11 = 0))
                  (TreeS.ret (K.val (Ty.pair tInt (Ty.pair tInt Ty.unit)) (0, 11, PUnit.unit)))
                  (TreeS.bad (100000 + 1000 * 0 + 1)))
                (TreeS.loop
                  [{ fx := fx_trace_Cost, todo := afterOp f_trace_Cost 1 1, dst := some 16,
                      s := ofS [(0, K.val (Ty.slc tNote) w0_0), (1, K.val tInt w0_1)] }]
                  fx_trace_read (lp f_trace_read 5)
                  [(0, K.val (Ty.slc tNote) v0), (5, K.ptr 0 tTraceBook []), (15, K.val (Ty.slc tNote) v15),
                    (16, K.val tInt v16), (17, K.val tInt (IntKind.wrap IntKind.i64 (v17 + 1)))]
                  [(0,
                      Bx.obj tTraceBook
                        (K.agg
                          (Ty.pair (Ty.mp tInt tTraceLetter)
                            (Ty.pair (Ty.slc tTrigger) (Ty.pair (Ty.mp tInt tInt) (Ty.pair tInt Ty.unit))))
                          (K.kcons (K.pm (0 + 1))
                            (K.kcons (K.sl (0 + 1 + 1) tTrigger)
                              (K.kcons (K.pm (0 + 1 + 1 + 1))
                                (K.kcons (K.val tInt (Prod.fst (Prod.snd (el tNote v15 v17)))) K.knil)))))),
                    (0 + 1, Bx.mpd tInt tTraceLetter b1),
                    (0 + 1 + 1,
                      Bx.row tTrigger
                        (b2 ++
                          List.set (List.replicate 1 (zero tTrigger)) 0
                            (Prod.fst (Prod.snd (Prod.snd (Prod.snd (Prod.snd (Prod.snd (el tNote v15 v17))))))))),
                    (0 + 1 + 1 + 1, Bx.mpd tInt tInt b3)])))
            (TreeS.ite (decide (Prod.fst (el tNote v15 v17) = 3))
              (TreeS.req (List.length b2 ≤ 1000000)
                (TreeS.all (den Ty.bool)
                  (fun (q10 : den Ty.bool) ↦
                    q10 = g_has b2 (Prod.fst (Prod.snd (Prod.snd (Prod.snd (Prod.snd (Prod.snd (el tNote v15 v17))))))))
                  fun (q10 : den Ty.bool) ↦
                  TreeS.ite
                    (!bif
                          bif
                              bif mpHas b1 (Prod.fst (Prod.snd (Prod.snd (Prod.snd (el tNote v15 v17))))) then
                                decide (0 < Prod.fst (Prod.snd (Prod.snd (Prod.snd (Prod.snd (el tNote v15 v17))))))
                              else false then
                            !mpHas b1 (Prod.fst (Prod.snd (Prod.snd (Prod.snd (Prod.snd (el tNote v15 v17))))))
                          else false then
                        bif
                            bif
                                g_has b2
                                  (Prod.fst
                                    (Prod.snd (Prod.snd (Prod.snd (Prod.snd (Prod.snd (el tNote v15 v17))))))) then
                              decide
                                (Prod.fst (Prod.snd (el tNote v15 v17)) <
                                  Prod.fst
                                    (Prod.snd
                                      (Prod.snd
                                        (Prod.fst
                                          (Prod.snd (Prod.snd (Prod.snd (Prod.snd (Prod.snd (el tNote v15 v17))))))))))
                            else false then
                          true
                        else
                          eqb tTrigger
                            (Prod.fst (Prod.snd (Prod.snd (Prod.snd (Prod.snd (Prod.snd (el tNote v15 v17)))))))
                            (zero (Ty.pair tId (Ty.pair tEntry (Ty.pair tInt Ty.unit))))
                      else false)
                    (TreeS.ite (!decide (11 = 0))
                      (TreeS.ret (K.val (Ty.pair tInt (Ty.pair tInt Ty.unit)) (0, 11, PUnit.unit)))
                      (TreeS.bad (100000 + 1000 * 0 + 1)))
                    (TreeS.loop
                      [{ fx := fx_trace_Cost, todo := afterOp f_trace_Cost 1 1, dst := some 16,
                          s := ofS [(0, K.val (Ty.slc tNote) w0_0), (1, K.val tInt w0_1)] }]
                      fx_trace_read (lp f_trace_read 5)
                      [(0, K.val (Ty.slc tNote) v0), (5, K.ptr 0 tTraceBook []), (15, K.val (Ty.slc tNote) v15),
                        (16, K.val tInt v16), (17, K.val tInt (IntKind.wrap IntKind.i64 (v17 + 1)))]
                      [(0,
                          Bx.obj tTraceBook
                            (K.agg
                              (Ty.pair (Ty.mp tInt tTraceLetter)
                                (Ty.pair (Ty.slc tTrigger) (Ty.pair (Ty.mp tInt tInt) (Ty.pair tInt Ty.unit))))
                              (K.kcons (K.pm (0 + 1))
                                (K.kcons (K.sl (0 + 1 + 1) tTrigger)
                                  (K.kcons (K.pm (0 + 1 + 1 + 1))
                                    (K.kcons (K.val tInt (Prod.fst (Prod.snd (el tNote v15 v17)))) K.knil)))))),
                        (0 + 1,
                          Bx.mpd tInt tTraceLetter
                            (mpSet b1 (Prod.fst (Prod.snd (Prod.snd (Prod.snd (Prod.snd (el tNote v15 v17))))))
                              (Prod.fst (mpGet b1 (Prod.fst (Prod.snd (Prod.snd (Prod.snd (el tNote v15 v17)))))),
                                Prod.fst (Prod.snd (Prod.snd (Prod.snd (el tNote v15 v17)))),
                                Prod.fst (Prod.snd (Prod.snd (Prod.snd (Prod.snd (Prod.snd (el tNote v15 v17)))))),
                                Prod.fst
                                  (Prod.snd
                                    (Prod.snd
                                      (Prod.snd
                                        (mpGet b1 (Prod.fst (Prod.snd (Prod.snd (Prod.snd (el tNote v15 v17))))))))),
                                Prod.snd
                                  (Prod.snd
                                    (Prod.snd
                                      (Prod.snd
                                        (zero
                                          (Ty.pair Ty.str
                                            (Ty.pair tInt (Ty.pair tTrigger (Ty.pair tInt Ty.unit))))))))))),
                        (0 + 1 + 1, Bx.row tTrigger b2), (0 + 1 + 1 + 1, Bx.mpd tInt tInt b3)])))
              (TreeS.ite (decide (Prod.fst (el tNote v15 v17) = 4))
                (TreeS.ite
                  (!bif mpHas b1 (Prod.fst (Prod.snd (Prod.snd (Prod.snd (el tNote v15 v17))))) then
                      eqb Ty.str (Prod.fst (mpGet b1 (Prod.fst (Prod.snd (Prod.snd (Prod.snd (el tNote v15 v17)))))))
                        (Prod.fst (Prod.snd (Prod.snd (Prod.snd (Prod.snd (Prod.snd (Prod.snd (el tNote v15 v17))))))))
                    else false)
                  (TreeS.ite (!decide (11 = 0))
                    (TreeS.ret (K.val (Ty.pair tInt (Ty.pair tInt Ty.unit)) (0, 11, PUnit.unit)))
                    (TreeS.bad (100000 + 1000 * 0 + 1)))
                  (TreeS.loop
                    [{ fx := fx_trace_Cost, todo := afterOp f_trace_Cost 1 1, dst := some 16,
                        s := ofS [(0, K.val (Ty.slc tNote) w0_0), (1, K.val tInt w0_1)] }]
                    fx_trace_read (lp f_trace_read 5)
                    [(0, K.val (Ty.slc tNote) v0), (5, K.ptr 0 tTraceBook []), (15, K.val (Ty.slc tNote) v15),
                      (16, K.val tInt v16), (17, K.val tInt (IntKind.wrap IntKind.i64 (v17 + 1)))]
                    [(0,
                        Bx.obj tTraceBook
                          (K.agg
                            (Ty.pair (Ty.mp tInt tTraceLetter)
                              (Ty.pair (Ty.slc tTrigger) (Ty.pair (Ty.mp tInt tInt) (Ty.pair tInt Ty.unit))))
                            (K.kcons (K.pm (0 + 1))
                              (K.kcons (K.sl (0 + 1 + 1) tTrigger)
                                (K.kcons (K.pm (0 + 1 + 1 + 1))
                                  (K.kcons (K.val tInt (Prod.fst (Prod.snd (el tNote v15 v17)))) K.knil)))))),
                      (0 + 1, Bx.mpd tInt tTraceLetter b1), (0 + 1 + 1, Bx.row tTrigger b2),
                      (0 + 1 + 1 + 1, Bx.mpd tInt tInt b3)]))
                (TreeS.ite (!decide (Prod.fst (el tNote v15 v17) = 5))
                  (TreeS.ite (!decide (11 = 0))
                    (TreeS.ret (K.val (Ty.pair tInt (Ty.pair tInt Ty.unit)) (0, 11, PUnit.unit)))
                    (TreeS.bad (100000 + 1000 * 0 + 1)))
                  (TreeS.loop
                    [{ fx := fx_trace_Cost, todo := afterOp f_trace_Cost 1 1, dst := some 16,
                        s := ofS [(0, K.val (Ty.slc tNote) w0_0), (1, K.val tInt w0_1)] }]
                    fx_trace_read (lp f_trace_read 5)
                    [(0, K.val (Ty.slc tNote) v0), (5, K.ptr 0 tTraceBook []), (15, K.val (Ty.slc tNote) v15),
                      (16, K.val tInt v16), (17, K.val tInt (IntKind.wrap IntKind.i64 (v17 + 1)))]
                    [(0,
                        Bx.obj tTraceBook
                          (K.agg
                            (Ty.pair (Ty.mp tInt tTraceLetter)
                              (Ty.pair (Ty.slc tTrigger) (Ty.pair (Ty.mp tInt tInt) (Ty.pair tInt Ty.unit))))
                            (K.kcons (K.pm (0 + 1))
                              (K.kcons (K.sl (0 + 1 + 1) tTrigger)
                                (K.kcons (K.pm (0 + 1 + 1 + 1))
                                  (K.kcons (K.val tInt (Prod.fst (Prod.snd (el tNote v15 v17)))) K.knil)))))),
                      (0 + 1, Bx.mpd tInt tTraceLetter b1), (0 + 1 + 1, Bx.row tTrigger b2),
                      (0 + 1 + 1 + 1, Bx.mpd tInt tInt b3)])))))))))
  (TreeS.ite (!decide (0 = 0)) (TreeS.ret (K.val (Ty.pair tInt (Ty.pair tInt Ty.unit)) (0, 0, PUnit.unit)))
    (TreeS.ite (!mpHas b3 w0_1) (TreeS.ret (K.val (Ty.pair tInt (Ty.pair tInt Ty.unit)) (0, 6, PUnit.unit)))
      (TreeS.loop [] fx_trace_Cost (lp f_trace_Cost 9)
        [(1, K.val tInt w0_1), (11, K.val tInt 0), (38, K.ptr 0 Ty.unit [])] [(0, Bx.itr tInt tTraceLetter b1 none)])))
theorem TL_trace_Cost_trace_read_5_eq (w0_0 : den (Ty.slc tNote)) (w0_1 : den tInt) (v0 : den (Ty.slc tNote)) (v15 : den (Ty.slc tNote)) (v16 : den tInt) (v17 : den tInt) (b0 : den tInt) (b1 : List (den tInt × den tTraceLetter)) (b2 : List (den tTrigger)) (b3 : List (den tInt × den tInt)) : treeS X_trace_Cost M_trace_Cost 5000 (Q_trace_Cost_trace_read_5 w0_0 w0_1 v0 v15 v16 v17 b0 b1 b2 b3) fx_trace_read (lp f_trace_read 5) (E_trace_Cost_trace_read_5 w0_0 w0_1 v0 v15 v16 v17 b0 b1 b2 b3) = TL_trace_Cost_trace_read_5 w0_0 w0_1 v0 v15 v16 v17 b0 b1 b2 b3 := by kernel_rfl

noncomputable def E_trace_Cost_9 (v1 : den tInt) (v11 : den tInt) (b0 : List (den tInt × den tTraceLetter)) (b0_1 : Option (den tInt × den tTraceLetter)) : Env := Env.of
  [(1, K.val tInt v1), (11, K.val tInt v11), (38, K.ptr 0 Ty.unit [])] [(0, Bx.itr tInt tTraceLetter b0 b0_1)]
noncomputable def TL_trace_Cost_9 (v1 : den tInt) (v11 : den tInt) (b0 : List (den tInt × den tTraceLetter)) (b0_1 : Option (den tInt × den tTraceLetter)) : TreeS :=
  TreeS.all Nat (fun (i : Nat) ↦ b0 = [] ∨ i < List.length b0) fun (q4 : Nat) ↦
  TreeS.ite (decide (0 < List.length b0))
    (TreeS.req (Option.isSome b0[q4]? = true)
      (TreeS.ite (decide (Prod.fst (Prod.snd (Prod.snd (Prod.snd (Prod.snd (curOf b0[q4]?))))) = v1))
        (TreeS.loop [] fx_trace_Cost (lp f_trace_Cost 9)
          [(1, K.val tInt v1), (11, K.val tInt (IntKind.wrap IntKind.i64 (v11 + 1))), (38, K.ptr 0 Ty.unit [])]
          [(0, Bx.itr tInt tTraceLetter (List.eraseIdx b0 q4) b0[q4]?)])
        (TreeS.loop [] fx_trace_Cost (lp f_trace_Cost 9)
          [(1, K.val tInt v1), (11, K.val tInt v11), (38, K.ptr 0 Ty.unit [])]
          [(0, Bx.itr tInt tTraceLetter (List.eraseIdx b0 q4) b0[q4]?)])))
    (TreeS.ret (K.val (Ty.pair tInt (Ty.pair tInt Ty.unit)) (v11, 0, PUnit.unit)))
theorem TL_trace_Cost_9_eq (v1 : den tInt) (v11 : den tInt) (b0 : List (den tInt × den tTraceLetter)) (b0_1 : Option (den tInt × den tTraceLetter)) : treeS X_trace_Cost M_trace_Cost 5000 [] fx_trace_Cost (lp f_trace_Cost 9) (E_trace_Cost_9 v1 v11 b0 b0_1) = TL_trace_Cost_9 v1 v11 b0 b0_1 := by kernel_rfl

end Go.Proofs.Ytainieginijaaaa

/- The book that notes make; whether each is justified. -/
namespace Go.Proofs.Ytainieginijaaaa
open Go Go.RowKit

theorem k_slices_Contains_Trigger : FnOk prog [] n_slices_Contains_Trigger S_slices_Contains_Trigger :=
  fnS_T (S := S_slices_Contains_Trigger) (x_slices_Contains_Trigger k_slices_Index_Trigger) (fx := fx_slices_Contains_Trigger) at_slices_Contains_Trigger (by kernel_rfl) (fun h => by cases h) (T := fun x => T_slices_Contains_Trigger x.1 x.2.1) (fun x => T_slices_Contains_Trigger_eq x.1 x.2.1) fun O w0 x _ hp => by
    refine ⟨hp, _, rfl, ?_⟩
    show (decide (0 ≤ ixT x.2.1 x.1 0), ()) = (g_has x.1 x.2.1, ())
    unfold g_has
    rw [decide_eq_decide.2 (ixT_mem x.2.1 x.1 0)]

abbrev Lt := den tTraceLetter
/-- Letters, triggers that were admitted, who sent, the time. -/
abbrev Bk := List (Int × Lt) × List Tr × List (Int × Int) × Int
abbrev kdN (n : Nt) : Int := n.1
abbrev atN (n : Nt) : Int := n.2.1
abbrev noN (n : Nt) : Int := n.2.2.1
abbrev wasN (n : Nt) : Int := n.2.2.2.1
abbrev ltN (n : Nt) : Int := n.2.2.2.2.1
abbrev trN (n : Nt) : Tr := n.2.2.2.2.2.1
abbrev dtN (n : Nt) : ByteArray := n.2.2.2.2.2.2.1
abbrev hasL (b : Bk) (n : Int) : Bool := mpHas (k := tInt) (v := tTraceLetter) b.1 n
abbrev getL (b : Bk) (n : Int) : Lt := mpGet (k := tInt) (v := tTraceLetter) b.1 n

def okOn (b : Bk) (x : Nt) : Bool :=
  bif bif bif hasL b (wasN x) then decide (0 < ltN x) else false then !hasL b (ltN x) else false then
    bif bif g_has b.2.1 (trN x) then decide (atN x < (trN x).2.2.1) else false then true else eqb tTrigger (trN x) (zero tTrigger)
  else false

/-- A note that is taken; none: it is not justified. -/
def stepB (f : Bool) (b : Bk) (x : Nt) : Option Bk :=
  if decide (atN x < (if f then atN x else b.2.2.2)) = true then none
  else if decide (kdN x = 1) = true then
    (if (!bif decide (0 < ltN x) then !hasL b (ltN x) else false) = true then none
     else some (mpSet (k := tInt) (v := tTraceLetter) b.1 (ltN x) (dtN x, (0 : Int), zero tTrigger, ltN x, ()), b.2.1, mpSet (k := tInt) (v := tInt) b.2.2.1 (ltN x) (noN x), atN x))
  else if decide (kdN x = 2) = true then some (b.1, b.2.1 ++ [trN x], b.2.2.1, atN x)
  else if decide (kdN x = 3) = true then
    (if (!okOn b x) = true then none else some (mpSet (k := tInt) (v := tTraceLetter) b.1 (ltN x) ((getL b (wasN x)).1, wasN x, trN x, (getL b (wasN x)).2.2.2.1, ()), b.2.1, b.2.2.1, atN x))
  else if decide (kdN x = 4) = true then
    (if (!bif hasL b (wasN x) then eqb .str (getL b (wasN x)).1 (dtN x) else false) = true then none else some (b.1, b.2.1, b.2.2.1, atN x))
  else if (!decide (kdN x = 5)) = true then none else some (b.1, b.2.1, b.2.2.1, atN x)

def runB : List Nt → Nat → Bk → Nat ⊕ Bk
  | [], _, b => .inr b
  | x :: l, i, b => match stepB (decide (i = 0)) b x with
    | none => .inl i
    | some b' => runB l (i + 1) b'

def bk0 : Bk := ([], [], [], 0)

theorem runB_append : ∀ (l m : List Nt) (i : Nat) (b : Bk), runB (l ++ m) i b = match runB l i b with | .inl j => .inl j | .inr b' => runB m (i + l.length) b'
  | [], m, i, b => by simp [runB]
  | x :: l, m, i, b => by
    rw [List.cons_append, runB, runB]
    cases stepB (decide (i = 0)) b x with
    | none => rfl
    | some b' => simp only [runB_append l m (i + 1) b', List.length_cons]; congr 1; funext b''; congr 1; omega

theorem neT {c : Bool} (h : c = false) : ¬ c = true := by rw [h]; simp

def gl_read_Check (O : Nat → Prop) (w0 : World) (l : List Nt) (hl : l.length ≤ 1000) (R : Nat ⊕ Bk → den rs_trace_Check) (hbad : ∀ i : Nat, R (.inl i) = ((i : Int), (11 : Int), ())) (hend : ∀ b, R (.inr b) = ((l.length : Int), (0 : Int), ())) :=
  PLift.up <| range_ind (σ := Bk) l.length (fun i b => b.2.1.length ≤ i ∧ runB (l.take i) 0 bk0 = .inr b)
    (fun i b => GoodS prog X_trace_Check (Cx.base O w0) (Ends prog O w0 rs_trace_Check fun y => y = R (runB (l.drop i) i b)) (Q_trace_Check_trace_read_5 l l l (lnx tNote l) (i : Nat) b.2.2.2 b.1 b.2.1 b.2.2.1) fx_trace_read (lp f_trace_read 5) (E_trace_Check_trace_read_5 l l l (lnx tNote l) (i : Nat) b.2.2.2 b.1 b.2.1 b.2.2.1))
    (fun i b hi hb ih => goodS_of (x_trace_Check k_slices_Contains_Trigger) (TL_trace_Check_trace_read_5_eq l l l _ _ b.2.2.2 b.1 b.2.1 b.2.2.1) (by
      have e : runB (l.drop i) i b = match stepB (decide (i = 0)) b l[i] with | none => .inl i | some b' => runB (l.drop (i + 1)) (i + 1) b' := by
        rw [List.drop_eq_getElem_cons hi, runB]
      obtain ⟨hb1, hb2⟩ := hb
      have e2 : ∀ b', stepB (decide (i = 0)) b l[i] = some b' → runB (l.take (i + 1)) 0 bk0 = .inr b' := fun b' h => by
        rw [List.take_succ_eq_append_getElem hi, runB_append, hb2, List.length_take, Nat.min_eq_left (by omega), Nat.zero_add]
        show runB [l[i]] i b = _
        rw [runB, h]; rfl
      refine ⟨fun _ => ⟨inB_of hi, ?_⟩, fun h => ?_⟩
      · rw [el_at hi, wr_idx hi (by omega)]
        generalize l[i] = x at e e2 ⊢
        have bad : stepB (decide (i = 0)) b x = none → (((i : Nat) : Int), (11 : Int), ()) = R (runB (l.drop i) i b) := fun h => by rw [e, h]; exact (hbad i).symm
        have good : ∀ b', stepB (decide (i = 0)) b x = some b' → b'.2.1.length ≤ i + 1 → GoodS prog X_trace_Check (Cx.base O w0) (Ends prog O w0 rs_trace_Check fun y => y = R (runB (l.drop i) i b)) (Q_trace_Check_trace_read_5 l l l (lnx tNote l) ((i + 1 : Nat) : Int) b'.2.2.2 b'.1 b'.2.1 b'.2.2.1) fx_trace_read (lp f_trace_read 5)
            (E_trace_Check_trace_read_5 l l l (lnx tNote l) ((i + 1 : Nat) : Int) b'.2.2.2 b'.1 b'.2.1 b'.2.2.1) := fun b' h hI => by rw [e, h]; exact ih b' ⟨hI, e2 b' h⟩
        have hm : ∀ z : Tr, (b.2.1 ++ [z]).length ≤ most := fun z => by simp [most]; omega
        have hc : b.2.1.length ≤ 1000000 := by omega
        have h1' : ∀ z : Tr, (b.2.1 ++ [z]).length ≤ i + 1 := fun z => by rw [List.length_append]; exact Nat.add_le_add_right hb1 1
        have h0' : b.2.1.length ≤ i + 1 := by omega
        refine ⟨fun h0 => ?_, fun h0 => ?_⟩
        · have hf : decide (i = 0) = true := decide_eq_true (by have h0 : ((i : Nat) : Int) = 0 := of_decide_eq_true h0; omega)
          rw [hf] at bad good
          refine ⟨fun a1 => ⟨fun _ => ⟨_, rfl, (bad (if_pos a1))⟩, fun h => absurd h (by decide)⟩, fun a1 => ⟨fun a2 => ⟨fun a3 => ⟨_, rfl, (bad ((if_neg (neT a1)).trans ((if_pos a2).trans (if_pos a3))))⟩, fun a3 => good (mpSet (k := tInt) (v := tTraceLetter) b.1 (ltN x) (dtN x, (0 : Int), zero tTrigger, ltN x, ()), b.2.1, mpSet (k := tInt) (v := tInt) b.2.2.1 (ltN x) (noN x), atN x) ((if_neg (neT a1)).trans ((if_pos a2).trans (if_neg (neT a3)))) h0'⟩,
            fun a2 => ⟨fun a3 => ⟨hm _, fun h => absurd h (by decide), fun _ => good (b.1, b.2.1 ++ [trN x], b.2.2.1, atN x) ((if_neg (neT a1)).trans ((if_neg (neT a2)).trans (if_pos a3))) (h1' _)⟩,
              fun a3 => ⟨fun a4 => ⟨hc, fun q hq => by
                  have hq : q = g_has b.2.1 (trN x) := hq
                  subst hq
                  exact ⟨fun a5 => ⟨_, rfl, (bad ((if_neg (neT a1)).trans ((if_neg (neT a2)).trans ((if_neg (neT a3)).trans ((if_pos a4).trans (if_pos a5))))))⟩, fun a5 => good (mpSet (k := tInt) (v := tTraceLetter) b.1 (ltN x) ((mpGet (k := tInt) (v := tTraceLetter) b.1 (wasN x)).1, wasN x, trN x, (mpGet (k := tInt) (v := tTraceLetter) b.1 (wasN x)).2.2.2.1, ()), b.2.1, b.2.2.1, atN x) ((if_neg (neT a1)).trans ((if_neg (neT a2)).trans ((if_neg (neT a3)).trans ((if_pos a4).trans (if_neg (neT a5)))))) h0'⟩⟩,
                fun a4 => ⟨fun a5 => ⟨fun a6 => ⟨_, rfl, (bad ((if_neg (neT a1)).trans ((if_neg (neT a2)).trans ((if_neg (neT a3)).trans ((if_neg (neT a4)).trans ((if_pos a5).trans (if_pos a6)))))))⟩, fun a6 => good (b.1, b.2.1, b.2.2.1, atN x) ((if_neg (neT a1)).trans ((if_neg (neT a2)).trans ((if_neg (neT a3)).trans ((if_neg (neT a4)).trans ((if_pos a5).trans (if_neg (neT a6))))))) h0'⟩,
                  fun a5 => ⟨fun a6 => ⟨_, rfl, (bad ((if_neg (neT a1)).trans ((if_neg (neT a2)).trans ((if_neg (neT a3)).trans ((if_neg (neT a4)).trans ((if_neg (neT a5)).trans (if_pos a6)))))))⟩, fun a6 => good (b.1, b.2.1, b.2.2.1, atN x) ((if_neg (neT a1)).trans ((if_neg (neT a2)).trans ((if_neg (neT a3)).trans ((if_neg (neT a4)).trans ((if_neg (neT a5)).trans (if_neg (neT a6))))))) h0'⟩⟩⟩⟩⟩⟩
        · have hf : decide (i = 0) = false := decide_eq_false (by have h0 : ¬ ((i : Nat) : Int) = 0 := of_decide_eq_false h0; omega)
          rw [hf] at bad good
          refine ⟨fun a1 => ⟨fun _ => ⟨_, rfl, (bad (if_pos a1))⟩, fun h => absurd h (by decide)⟩, fun a1 => ⟨fun a2 => ⟨fun a3 => ⟨_, rfl, (bad ((if_neg (neT a1)).trans ((if_pos a2).trans (if_pos a3))))⟩, fun a3 => good (mpSet (k := tInt) (v := tTraceLetter) b.1 (ltN x) (dtN x, (0 : Int), zero tTrigger, ltN x, ()), b.2.1, mpSet (k := tInt) (v := tInt) b.2.2.1 (ltN x) (noN x), atN x) ((if_neg (neT a1)).trans ((if_pos a2).trans (if_neg (neT a3)))) h0'⟩,
            fun a2 => ⟨fun a3 => ⟨hm _, fun h => absurd h (by decide), fun _ => good (b.1, b.2.1 ++ [trN x], b.2.2.1, atN x) ((if_neg (neT a1)).trans ((if_neg (neT a2)).trans (if_pos a3))) (h1' _)⟩,
              fun a3 => ⟨fun a4 => ⟨hc, fun q hq => by
                  have hq : q = g_has b.2.1 (trN x) := hq
                  subst hq
                  exact ⟨fun a5 => ⟨_, rfl, (bad ((if_neg (neT a1)).trans ((if_neg (neT a2)).trans ((if_neg (neT a3)).trans ((if_pos a4).trans (if_pos a5))))))⟩, fun a5 => good (mpSet (k := tInt) (v := tTraceLetter) b.1 (ltN x) ((mpGet (k := tInt) (v := tTraceLetter) b.1 (wasN x)).1, wasN x, trN x, (mpGet (k := tInt) (v := tTraceLetter) b.1 (wasN x)).2.2.2.1, ()), b.2.1, b.2.2.1, atN x) ((if_neg (neT a1)).trans ((if_neg (neT a2)).trans ((if_neg (neT a3)).trans ((if_pos a4).trans (if_neg (neT a5)))))) h0'⟩⟩,
                fun a4 => ⟨fun a5 => ⟨fun a6 => ⟨_, rfl, (bad ((if_neg (neT a1)).trans ((if_neg (neT a2)).trans ((if_neg (neT a3)).trans ((if_neg (neT a4)).trans ((if_pos a5).trans (if_pos a6)))))))⟩, fun a6 => good (b.1, b.2.1, b.2.2.1, atN x) ((if_neg (neT a1)).trans ((if_neg (neT a2)).trans ((if_neg (neT a3)).trans ((if_neg (neT a4)).trans ((if_pos a5).trans (if_neg (neT a6))))))) h0'⟩,
                  fun a5 => ⟨fun a6 => ⟨_, rfl, (bad ((if_neg (neT a1)).trans ((if_neg (neT a2)).trans ((if_neg (neT a3)).trans ((if_neg (neT a4)).trans ((if_neg (neT a5)).trans (if_pos a6)))))))⟩, fun a6 => good (b.1, b.2.1, b.2.2.1, atN x) ((if_neg (neT a1)).trans ((if_neg (neT a2)).trans ((if_neg (neT a3)).trans ((if_neg (neT a4)).trans ((if_neg (neT a5)).trans (if_neg (neT a6))))))) h0'⟩⟩⟩⟩⟩⟩
      · rw [lnx_nat] at h
        exact absurd hi (of_decide_eq_false h)))
    (fun b hb => goodS_of (x_trace_Check k_slices_Contains_Trigger) (TL_trace_Check_trace_read_5_eq l l l _ _ b.2.2.2 b.1 b.2.1 b.2.2.1) (by
      refine ⟨fun h => ?_, fun _ => ?_⟩
      · rw [lnx_nat] at h
        exact absurd (of_decide_eq_true h) (Nat.lt_irrefl _)
      · have e : runB (l.drop l.length) l.length b = .inr b := by rw [List.drop_length, runB]
        rw [e]
        obtain ⟨_, hb2⟩ := hb
        rw [List.take_length] at hb2
        exact ⟨_, rfl, (hend b).symm⟩))

def resCheck (l : List Nt) : Nat ⊕ Bk → Int × Int × Unit
  | .inl i => ((i : Int), 11, ())
  | .inr _ => ((l.length : Int), 0, ())
def g_Check (l : List Nt) : Int × Int × Unit := if 1000 < l.length then (0, 2, ()) else resCheck l (runB l 0 bk0)
noncomputable abbrev S_trace_Check : Spec := ⟨as_trace_Check, rs_trace_Check, fun x => g_Check x.1, fun _ => True, true⟩
theorem k_trace_Check : FnOk prog [] n_trace_Check S_trace_Check :=
  fnS_T (S := S_trace_Check) (x_trace_Check k_slices_Contains_Trigger) (fx := fx_trace_Check) at_trace_Check (by kernel_rfl) (fun _ _ => trivial) (T := fun x => T_trace_Check x.1) (fun x => T_trace_Check_eq x.1) fun O w0 x _ _ => by
    obtain ⟨l, ⟨⟩⟩ := x
    refine ⟨fun h => ⟨_, rfl, ?_⟩, fun h => ?_⟩
    · have h : (1000 : Int) < l.length := of_decide_eq_true h
      show ((0 : Int), (2 : Int), ()) = g_Check l
      unfold g_Check
      rw [if_pos (by omega)]
    · have h : ¬ (1000 : Int) < l.length := of_decide_eq_false h
      have := (gl_read_Check O w0 l (by omega) (resCheck l) (fun _ => rfl) (fun _ => rfl)).down 0 bk0 (Nat.zero_le _) ⟨Nat.le_refl _, rfl⟩
      rw [List.drop_zero] at this
      have e : g_Check l = resCheck l (runB l 0 bk0) := by unfold g_Check; rw [if_neg (by omega)]
      show GoodS prog X_trace_Check (Cx.base O w0) (Ends prog O w0 rs_trace_Check fun y => y = g_Check l) _ _ _ _
      rw [e]
      exact this

end Go.Proofs.Ytainieginijaaaa

/- Families of letters: each came of one that was known. No program here. -/
namespace Go.Proofs.Ytainieginijaaaa
open Go Go.RowKit

abbrev hasM (m : List (Int × Lt)) (n : Int) : Bool := mpHas (k := tInt) (v := tTraceLetter) m n
abbrev getM (m : List (Int × Lt)) (n : Int) : Lt := mpGet (k := tInt) (v := tTraceLetter) m n
abbrev wasL (x : Lt) : Int := x.2.1
abbrev byL (x : Lt) : Tr := x.2.2.1
abbrev firstL (x : Lt) : Int := x.2.2.2.1

theorem eqI_dec (a b : Int) : eqb tInt a b = decide (a = b) := rfl

theorem find_app (m : List (Int × Lt)) (no : Int) (x : Lt) (a : Int) : mpFind (k := tInt) (v := tTraceLetter) (m ++ [(no, x)]) a = match mpFind (k := tInt) (v := tTraceLetter) m a with | some y => some y | none => if a = no then some x else none := by
  unfold mpFind
  rw [List.find?_append]
  cases h : m.find? (fun q : Int × Lt => eqb tInt a q.1) with
  | some q => simp
  | none =>
    rw [Option.none_or]
    by_cases e : a = no
    · rw [List.find?_cons_of_pos (by rw [eqI_dec]; exact decide_eq_true e), if_pos e]
    · rw [List.find?_cons_of_neg (by rw [eqI_dec]; simp [e]), if_neg e]; rfl

theorem set_new : ∀ {m : List (Int × Lt)} {no : Int} {x : Lt}, hasM m no = false → mpSet (k := tInt) (v := tTraceLetter) m no x = m ++ [(no, x)]
  | [], no, x, _ => rfl
  | q :: m, no, x, h => by
    have hq : eqb tInt no q.1 = false := by
      cases hc : eqb tInt no q.1 with
      | false => rfl
      | true =>
        unfold hasM mpHas mpFind at h
        rw [List.find?_cons_of_pos (p := fun q : Int × Lt => eqb tInt no q.1) hc] at h
        cases h
    have hm : hasM m no = false := by
      unfold hasM mpHas mpFind at h ⊢
      rw [List.find?_cons_of_neg (by simp [hq])] at h
      exact h
    rw [mpSet, if_neg (by simp [hq]), set_new hm]; rfl

theorem has_app (m : List (Int × Lt)) (no : Int) (x : Lt) (a : Int) : hasM (m ++ [(no, x)]) a = (hasM m a || decide (a = no)) := by
  unfold hasM mpHas
  rw [find_app]
  cases mpFind (k := tInt) (v := tTraceLetter) m a with
  | some y => rfl
  | none => by_cases e : a = no <;> simp [e]

theorem get_old {m : List (Int × Lt)} {no : Int} {x : Lt} {a : Int} (h : hasM m a = true) : getM (m ++ [(no, x)]) a = getM m a := by
  unfold getM mpGet
  rw [find_app]
  unfold hasM mpHas at h
  cases hf : mpFind (k := tInt) (v := tTraceLetter) m a with
  | some y => rfl
  | none => rw [hf] at h; cases h

theorem get_none {m : List (Int × Lt)} {a : Int} (h : hasM m a = false) : getM m a = zero tTraceLetter := by
  unfold getM mpGet
  unfold hasM mpHas at h
  cases hf : mpFind (k := tInt) (v := tTraceLetter) m a with
  | some y => rw [hf] at h; cases h
  | none => rfl

theorem get_new {m : List (Int × Lt)} {no : Int} {x : Lt} (h : hasM m no = false) : getM (m ++ [(no, x)]) no = x := by
  unfold getM mpGet
  rw [find_app]
  unfold hasM mpHas at h
  cases hf : mpFind (k := tInt) (v := tTraceLetter) m no with
  | some y => rw [hf] at h; cases h
  | none => simp

inductive Fam : List (Int × Lt) → Prop
  | nil : Fam []
  | snoc {m : List (Int × Lt)} {no : Int} {x : Lt} : Fam m → hasM m no = false → (wasL x ≤ 0 ∨ hasM m (wasL x) = true) → Fam (m ++ [(no, x)])

theorem Fam.rank {m : List (Int × Lt)} (h : Fam m) : ∃ rk : Int → Nat, (∀ a, rk a ≤ m.length) ∧ ∀ a, 0 < wasL (getM m a) → hasM m (wasL (getM m a)) = true ∧ rk (wasL (getM m a)) < rk a := by
  induction h with
  | nil => exact ⟨fun _ => 0, fun _ => Nat.zero_le _, fun a ha => absurd ha (by show ¬ (0 : Int) < 0; decide)⟩
  | @snoc m no x hm hno hx ih =>
    obtain ⟨rk, r1, r2⟩ := ih
    refine ⟨fun a => if hasM m a then rk a else if a = no then m.length + 1 else 0, fun a => ?_, fun a ha => ?_⟩
    · show (if hasM m a then rk a else if a = no then m.length + 1 else 0) ≤ (m ++ [(no, x)]).length
      rw [List.length_append, List.length_singleton]
      split
      · have := r1 a; omega
      · split <;> omega
    · cases hh : hasM m a with
      | true =>
        rw [get_old hh] at ha ⊢
        obtain ⟨s1, s2⟩ := r2 a ha
        refine ⟨by rw [has_app, s1]; rfl, ?_⟩
        show (if hasM m (wasL (getM m a)) then rk (wasL (getM m a)) else _) < (if hasM m a then rk a else _)
        rw [if_pos s1, if_pos hh]
        exact s2
      | false =>
        by_cases e : a = no
        · subst e
          rw [get_new hh] at ha ⊢
          rcases hx with hx | hx
          · omega
          · refine ⟨by rw [has_app, hx]; rfl, ?_⟩
            show (if hasM m (wasL x) then rk (wasL x) else _) < (if hasM m a then rk a else if a = a then m.length + 1 else 0)
            rw [if_pos hx, if_neg (by rw [hh]; simp), if_pos rfl]
            have := r1 (wasL x)
            omega
        · rw [get_none (by rw [has_app, hh, decide_eq_false e]; rfl)] at ha
          exact absurd ha (by show ¬ (0 : Int) < 0; decide)

/-- How a note is taken. -/
theorem step_cases {f : Bool} {b b' : Bk} {x : Nt} (h : stepB f b x = some b') : ¬ atN x < (if f then atN x else b.2.2.2) ∧
    ((kdN x = 1 ∧ 0 < ltN x ∧ hasM b.1 (ltN x) = false ∧ b' = (b.1 ++ [(ltN x, (dtN x, (0 : Int), zero tTrigger, ltN x, ()))], b.2.1, mpSet (k := tInt) (v := tInt) b.2.2.1 (ltN x) (noN x), atN x)) ∨
     (kdN x = 2 ∧ b' = (b.1, b.2.1 ++ [trN x], b.2.2.1, atN x)) ∨
     (kdN x = 3 ∧ hasM b.1 (wasN x) = true ∧ 0 < ltN x ∧ hasM b.1 (ltN x) = false ∧ ((trN x ∈ b.2.1 ∧ atN x < (trN x).2.2.1) ∨ trN x = zero tTrigger) ∧
        b' = (b.1 ++ [(ltN x, ((getM b.1 (wasN x)).1, wasN x, trN x, firstL (getM b.1 (wasN x)), ()))], b.2.1, b.2.2.1, atN x)) ∨
     (kdN x = 4 ∧ hasM b.1 (wasN x) = true ∧ (getM b.1 (wasN x)).1 = dtN x ∧ b' = (b.1, b.2.1, b.2.2.1, atN x)) ∨
     (kdN x = 5 ∧ b' = (b.1, b.2.1, b.2.2.1, atN x))) := by
  unfold stepB at h
  generalize (if f then atN x else b.2.2.2) = a at h ⊢
  by_cases c1 : decide (atN x < a) = true
  · rw [if_pos c1] at h; cases h
  rw [if_neg c1] at h
  refine ⟨fun h' => c1 (decide_eq_true h'), ?_⟩
  by_cases c2 : decide (kdN x = 1) = true
  · rw [if_pos c2] at h
    by_cases c3 : (!bif decide (0 < ltN x) then !hasL b (ltN x) else false) = true
    · rw [if_pos c3] at h; cases h
    rw [if_neg c3] at h
    have h := Option.some.inj h
    have hp : 0 < ltN x := by
      by_cases hp : 0 < ltN x
      · exact hp
      · rw [decide_eq_false hp] at c3; exact absurd rfl c3
    have hn : hasM b.1 (ltN x) = false := by
      cases hh : hasM b.1 (ltN x) with
      | false => rfl
      | true => rw [decide_eq_true hp, show hasL b (ltN x) = hasM b.1 (ltN x) from rfl, hh] at c3; exact absurd rfl c3
    rw [set_new hn] at h
    exact .inl ⟨of_decide_eq_true c2, hp, hn, h.symm⟩
  rw [if_neg c2] at h
  by_cases c3 : decide (kdN x = 2) = true
  · rw [if_pos c3] at h
    exact .inr (.inl ⟨of_decide_eq_true c3, (Option.some.inj h).symm⟩)
  rw [if_neg c3] at h
  by_cases c4 : decide (kdN x = 3) = true
  · rw [if_pos c4] at h
    by_cases c5 : (!okOn b x) = true
    · rw [if_pos c5] at h; cases h
    rw [if_neg c5] at h
    have h := Option.some.inj h
    have hc : okOn b x = true := by simpa using c5
    unfold okOn at hc
    have hw : hasM b.1 (wasN x) = true := by
      cases hh : hasM b.1 (wasN x) with
      | true => rfl
      | false => rw [show hasL b (wasN x) = hasM b.1 (wasN x) from rfl, hh] at hc; cases hc
    rw [show hasL b (wasN x) = hasM b.1 (wasN x) from rfl, hw] at hc
    have hp : 0 < ltN x := by
      by_cases hp : 0 < ltN x
      · exact hp
      · rw [decide_eq_false hp] at hc; cases hc
    rw [decide_eq_true hp] at hc
    have hn : hasM b.1 (ltN x) = false := by
      cases hh : hasM b.1 (ltN x) with
      | false => rfl
      | true => rw [show hasL b (ltN x) = hasM b.1 (ltN x) from rfl, hh] at hc; cases hc
    rw [show hasL b (ltN x) = hasM b.1 (ltN x) from rfl, hn] at hc
    have hl : (trN x ∈ b.2.1 ∧ atN x < (trN x).2.2.1) ∨ trN x = zero tTrigger := by
      have hc : (bif bif g_has b.2.1 (trN x) then decide (atN x < (trN x).2.2.1) else false then true else eqb tTrigger (trN x) (zero tTrigger)) = true := hc
      rw [eqb_tr] at hc
      unfold g_has at hc
      by_cases h1 : trN x ∈ b.2.1
      · by_cases h2 : atN x < (trN x).2.2.1
        · exact .inl ⟨h1, h2⟩
        · rw [decide_eq_true h1, decide_eq_false h2] at hc
          exact .inr (of_decide_eq_true hc)
      · rw [decide_eq_false h1] at hc
        exact .inr (of_decide_eq_true hc)
    have e : mpSet (k := tInt) (v := tTraceLetter) b.1 (ltN x) ((getL b (wasN x)).1, wasN x, trN x, (getL b (wasN x)).2.2.2.1, ()) = b.1 ++ [(ltN x, ((getM b.1 (wasN x)).1, wasN x, trN x, firstL (getM b.1 (wasN x)), ()))] := set_new hn
    rw [e] at h
    exact .inr (.inr (.inl ⟨of_decide_eq_true c4, hw, hp, hn, hl, h.symm⟩))
  rw [if_neg c4] at h
  by_cases c5 : decide (kdN x = 4) = true
  · rw [if_pos c5] at h
    by_cases c6 : (!bif hasL b (wasN x) then eqb .str (getL b (wasN x)).1 (dtN x) else false) = true
    · rw [if_pos c6] at h; cases h
    rw [if_neg c6] at h
    have hc : (bif hasM b.1 (wasN x) then eqb .str (getM b.1 (wasN x)).1 (dtN x) else false) = true := by simpa using c6
    cases hh : hasM b.1 (wasN x) with
    | false => rw [hh] at hc; cases hc
    | true =>
      rw [hh] at hc
      exact .inr (.inr (.inr (.inl ⟨of_decide_eq_true c5, rfl, (eqb_iff (t := .str) rfl _ _).1 hc, (Option.some.inj h).symm⟩)))
  rw [if_neg c5] at h
  by_cases c6 : (!decide (kdN x = 5)) = true
  · rw [if_pos c6] at h; cases h
  rw [if_neg c6] at h
  exact .inr (.inr (.inr (.inr ⟨by simpa using c6, (Option.some.inj h).symm⟩)))

theorem step_fam {f : Bool} {b b' : Bk} {x : Nt} (h : stepB f b x = some b') (hf : Fam b.1) : Fam b'.1 := by
  rcases (step_cases h).2 with ⟨_, _, h1, rfl⟩ | ⟨_, rfl⟩ | ⟨_, h1, _, h2, _, rfl⟩ | ⟨_, _, _, rfl⟩ | ⟨_, rfl⟩
  · exact .snoc hf h1 (.inl (Int.le_refl _))
  · exact hf
  · exact .snoc hf h2 (.inr h1)
  · exact hf
  · exact hf

theorem run_fam : ∀ {l : List Nt} {i : Nat} {b b' : Bk}, runB l i b = .inr b' → Fam b.1 → Fam b'.1
  | [], i, b, b', h, hf => by cases h; exact hf
  | x :: l, i, b, b', h, hf => by
    rw [runB] at h
    cases hs : stepB (decide (i = 0)) b x with
    | none => rw [hs] at h; cases h
    | some b1 => rw [hs] at h; exact run_fam h (step_fam hs hf)

/-! ### Walking back -/

def walk (m : List (Int × Lt)) : Nat → Int → List Tr → List Tr × Int
  | 0, no, out => (out, no)
  | k + 1, no, out => if 0 < wasL (getM m no) then walk m k (wasL (getM m no)) (if byL (getM m no) = zero tTrigger then out else out ++ [byL (getM m no)]) else (out, no)

/-! ### A row turned round -/

def rvT (s : List Tr) (i : Nat) : List Tr := (List.range s.length).map fun k => if k < i ∨ s.length ≤ k + i then el tTrigger s ((s.length - 1 - k : Nat) : Int) else el tTrigger s (k : Nat)

theorem rvT_length (s : List Tr) (i : Nat) : (rvT s i).length = s.length := by unfold rvT; rw [List.length_map, List.length_range]
theorem rvT_get (s : List Tr) (i k : Nat) (hk : k < s.length) : (rvT s i)[k]'(by rw [rvT_length]; exact hk) = if k < i ∨ s.length ≤ k + i then s[s.length - 1 - k]'(by omega) else s[k] := by
  unfold rvT
  rw [List.getElem_map, List.getElem_range]
  split
  · rw [el_at (show s.length - 1 - k < s.length by omega)]
  · rw [el_at hk]

theorem rvT_zero (s : List Tr) : rvT s 0 = s := by
  refine List.ext_getElem (rvT_length s 0) fun k h1 h2 => ?_
  rw [rvT_get s 0 k h2, if_neg (by omega)]

theorem rvT_step (s : List Tr) (i : Nat) (hi : i + 1 + i < s.length) : ((rvT s i).set i (el tTrigger (rvT s i) ((s.length - 1 - i : Nat) : Int))).set (s.length - 1 - i) (el tTrigger (rvT s i) (i : Nat)) = rvT s (i + 1) := by
  have hj : s.length - 1 - i < (rvT s i).length := by rw [rvT_length]; omega
  have hi' : i < (rvT s i).length := by rw [rvT_length]; omega
  rw [el_at hj, el_at hi']
  refine List.ext_getElem (by rw [List.length_set, List.length_set, rvT_length, rvT_length]) fun k h1 h2 => ?_
  have hk : k < s.length := by rw [rvT_length] at h2; exact h2
  rw [List.getElem_set, rvT_get s (i + 1) k hk]
  split
  · rename_i e
    subst e
    rw [rvT_get s i i (by omega), if_neg (by omega), if_pos (by omega)]
    congr 1; omega
  · rename_i e1
    rw [List.getElem_set]
    split
    · rename_i e
      subst e
      rw [rvT_get s i _ (by omega), if_neg (by omega), if_pos (by omega)]
    · rename_i e2
      rw [rvT_get s i k hk]
      by_cases hc : k < i ∨ s.length ≤ k + i
      · rw [if_pos hc, if_pos (by omega)]
      · rw [if_neg hc, if_neg (by omega)]

theorem rvT_end (s : List Tr) (i : Nat) (hi : s.length ≤ i + 1 + i) : rvT s i = s.reverse := by
  refine List.ext_getElem (by rw [rvT_length, List.length_reverse]) fun k h1 h2 => ?_
  have hk : k < s.length := by rw [rvT_length] at h1; exact h1
  rw [rvT_get s i k hk, List.getElem_reverse]
  split
  · rfl
  · congr 1; omega

end Go.Proofs.Ytainieginijaaaa

/- By which triggers data came to a host. -/
namespace Go.Proofs.Ytainieginijaaaa
open Go Go.RowKit

theorem run_len : ∀ {l : List Nt} {i : Nat} {b b' : Bk}, runB l i b = .inr b' → b'.1.length ≤ b.1.length + l.length
  | [], i, b, b', h => by cases h; exact Nat.le_refl _
  | x :: l, i, b, b', h => by
    rw [runB] at h
    cases hs : stepB (decide (i = 0)) b x with
    | none => rw [hs] at h; cases h
    | some b1 =>
      rw [hs] at h
      have h1 := run_len h
      have h2 : b1.1.length ≤ b.1.length + 1 := by
        rcases (step_cases hs).2 with ⟨_, _, _, rfl⟩ | ⟨_, rfl⟩ | ⟨_, _, _, _, _, rfl⟩ | ⟨_, _, _, rfl⟩ | ⟨_, rfl⟩ <;> simp
      rw [List.length_cons]; omega

def badAt (l : List Nt) (n : Int) : Bool := bif bif decide (n < 0) then true else decide (lnx tNote l ≤ n) then true else !decide (kdN (el tNote l n) = 4)
theorem badAt_in {l : List Nt} {n : Int} (h : (bif decide (n < 0) then true else decide (lnx tNote l ≤ n)) = false) : inB n (lnx tNote l) := by
  by_cases h1 : n < 0
  · rw [decide_eq_true h1] at h; cases h
  · rw [decide_eq_false h1] at h
    have : ¬ lnx tNote l ≤ n := of_decide_eq_false h
    exact ⟨by omega, by omega⟩
theorem badAt_in' {l : List Nt} {n : Int} (h : badAt l n = false) : inB n (lnx tNote l) := by
  unfold badAt at h
  cases hc : (bif decide (n < 0) then true else decide (lnx tNote l ≤ n)) with
  | true => rw [hc] at h; cases h
  | false => exact badAt_in hc

def resChain (l : List Nt) (n : Int) : Nat ⊕ Bk → List Tr × Int × Int × Unit
  | .inl _ => ([], 0, 11, ())
  | .inr b => if badAt l n = true then ([], 0, 6, ()) else ((walk b.1 b.1.length (wasN (el tNote l n)) []).1.reverse, mpGet (k := tInt) (v := tInt) b.2.2.1 (walk b.1 b.1.length (wasN (el tNote l n)) []).2, 0, ())

theorem gl_Chain_rev (O : Nat → Prop) (w0 : World) (s : List Tr) (no a : Int) (m : List (Int × Lt)) (adm : List Tr) (who : List (Int × Int)) (hs : s.length ≤ 1000000) : ∀ (k i : Nat), i + k = s.length →
    GoodS prog X_trace_Chain (Cx.base O w0) (Ends prog O w0 rs_trace_Chain fun y => y = (s.reverse, mpGet (k := tInt) (v := tInt) who no, (0 : Int), ())) (Q_trace_Chain_slices_Reverse_Trigger_1 no (i : Nat) ((s.length : Int) - 1 - (i : Nat)) (rvT s i) a m adm who) fx_slices_Reverse_Trigger (lp f_slices_Reverse_Trigger 1)
      (E_trace_Chain_slices_Reverse_Trigger_1 no (i : Nat) ((s.length : Int) - 1 - (i : Nat)) (rvT s i) a m adm who)
  | 0, i, hk => goodS_of (x_trace_Chain k_slices_Contains_Trigger) (TL_trace_Chain_slices_Reverse_Trigger_1_eq no _ _ (rvT s i) a m adm who) (by
      refine ⟨fun h => ?_, fun _ => ⟨_, rfl, ?_⟩⟩
      · have h : ((i : Nat) : Int) < (s.length : Int) - 1 - (i : Nat) := of_decide_eq_true h
        omega
      · rw [rvT_end s i (by omega)])
  | k + 1, i, hk => goodS_of (x_trace_Chain k_slices_Contains_Trigger) (TL_trace_Chain_slices_Reverse_Trigger_1_eq no _ _ (rvT s i) a m adm who) (by
      refine ⟨fun h => ?_, fun h => ⟨_, rfl, ?_⟩⟩
      · have h : ((i : Nat) : Int) < (s.length : Int) - 1 - (i : Nat) := of_decide_eq_true h
        have e : (s.length : Int) - 1 - (i : Nat) = ((s.length - 1 - i : Nat) : Int) := by omega
        have hl := rvT_length s i
        have b1 : inB ((i : Nat) : Int) (lnx tTrigger (rvT s i)) := inB_of (by omega)
        have b2 : inB ((s.length - 1 - i : Nat) : Int) (lnx tTrigger (rvT s i)) := inB_of (by omega)
        have b3 : inB ((s.length - 1 - i : Nat) : Int) (lnx tTrigger (setAtx tTrigger (rvT s i) ((i : Nat) : Int) (el tTrigger (rvT s i) ((s.length - 1 - i : Nat) : Int)))) := by
          have : (setAtx tTrigger (rvT s i) ((i : Nat) : Int) (el tTrigger (rvT s i) ((s.length - 1 - i : Nat) : Int))).length = s.length := by
            show ((rvT s i).set _ _).length = _
            rw [List.length_set, hl]
          exact inB_of (by rw [this]; omega)
        have ih := gl_Chain_rev O w0 s no a m adm who hs k (i + 1) (by omega)
        have e3 : (s.length : Int) - 1 - ((i + 1 : Nat) : Int) = IntKind.wrap .i64 (((s.length - 1 - i : Nat) : Int) - 1) := by rw [small_i64 (by omega)]; omega
        rw [← rvT_step s i (by omega), e3, ← wr_idx (show i < s.length by omega) (by omega)] at ih
        rw [e]
        exact ⟨b2, b2, b1, b1, b1, b1, b3, b3, ih⟩
      · have h : ¬ ((i : Nat) : Int) < (s.length : Int) - 1 - (i : Nat) := of_decide_eq_false h
        rw [rvT_end s i (by omega)])

theorem gl_Chain_9 (O : Nat → Prop) (w0 : World) (m : List (Int × Lt)) (adm : List Tr) (who : List (Int × Int)) (a : Int) (rk : Int → Nat) (hrk : ∀ a, 0 < wasL (getM m a) → hasM m (wasL (getM m a)) = true ∧ rk (wasL (getM m a)) < rk a) :
    ∀ (k : Nat) (no : Int) (out : List Tr), rk no ≤ k → out.length + k ≤ 1000000 →
    GoodS prog X_trace_Chain (Cx.base O w0) (Ends prog O w0 rs_trace_Chain fun y => y = ((walk m k no out).1.reverse, mpGet (k := tInt) (v := tInt) who (walk m k no out).2, (0 : Int), ())) [] fx_trace_Chain (lp f_trace_Chain 9)
      (E_trace_Chain_9 no a out (getM m no) m adm who) := by
  have fin : ∀ (no : Int) (out : List Tr), out.length ≤ 1000000 → GoodS prog X_trace_Chain (Cx.base O w0) (Ends prog O w0 rs_trace_Chain fun y => y = (out.reverse, mpGet (k := tInt) (v := tInt) who no, (0 : Int), ())) (Q_trace_Chain_slices_Reverse_Trigger_1 no 0 (IntKind.wrap .i64 (lnx tTrigger out - 1)) out a m adm who) fx_slices_Reverse_Trigger (lp f_slices_Reverse_Trigger 1)
      (E_trace_Chain_slices_Reverse_Trigger_1 no 0 (IntKind.wrap .i64 (lnx tTrigger out - 1)) out a m adm who) := by
    intro no out ho
    have := gl_Chain_rev O w0 out no a m adm who ho out.length 0 (by omega)
    rw [rvT_zero] at this
    have e : (out.length : Int) - 1 - ((0 : Nat) : Int) = IntKind.wrap .i64 (lnx tTrigger out - 1) := by rw [lnx_eq, small_i64 (by omega)]; omega
    rw [e] at this
    exact this
  intro k
  induction k with
  | zero =>
    intro no out h0 hlen
    exact goodS_of (x_trace_Chain k_slices_Contains_Trigger) (TL_trace_Chain_9_eq no a out (getM m no) m adm who) (by
      refine ⟨fun h => ?_, fun _ => fin no out (by omega)⟩
      have := (hrk no (of_decide_eq_true h)).2
      omega)
  | succ k ih =>
    intro no out h0 hlen
    exact goodS_of (x_trace_Chain k_slices_Contains_Trigger) (TL_trace_Chain_9_eq no a out (getM m no) m adm who) (by
      refine ⟨fun h => ?_, fun h => ?_⟩
      · have hw : 0 < wasL (getM m no) := of_decide_eq_true h
        have h1 := (hrk no hw).2
        rw [walk, if_pos hw]
        refine ⟨fun h2 => ⟨?_, ?_⟩, fun h2 => ?_⟩
        · simp [most]; omega
        · have h2 : (!eqb tTrigger (byL (getM m no)) (zero tTrigger)) = true := h2
          rw [eqb_tr] at h2
          have h2 : ¬ byL (getM m no) = zero tTrigger := by simpa using h2
          rw [if_neg h2]
          exact ih (wasL (getM m no)) (out ++ [byL (getM m no)]) (by omega) (by simp; omega)
        · have h2 : (!eqb tTrigger (byL (getM m no)) (zero tTrigger)) = false := h2
          rw [eqb_tr] at h2
          have h2 : byL (getM m no) = zero tTrigger := by simpa using h2
          rw [if_pos h2]
          exact ih (wasL (getM m no)) out (by omega) (by omega)
      · have hw : ¬ 0 < wasL (getM m no) := of_decide_eq_false h
        rw [walk, if_neg hw]
        exact fin no out (by omega))

def gl_read_Chain (O : Nat → Prop) (w0 : World) (l : List Nt) (n : Int) (hl : l.length ≤ 1000) (R : Nat ⊕ Bk → den rs_trace_Chain) (hbad : ∀ i : Nat, R (.inl i) = (([] : List Tr), (0 : Int), (11 : Int), ())) (hR : ∀ b, R (.inr b) = resChain l n (.inr b)) :=
  PLift.up <| range_ind (σ := Bk) l.length (fun i b => b.2.1.length ≤ i ∧ runB (l.take i) 0 bk0 = .inr b)
    (fun i b => GoodS prog X_trace_Chain (Cx.base O w0) (Ends prog O w0 rs_trace_Chain fun y => y = R (runB (l.drop i) i b)) (Q_trace_Chain_trace_read_5 l n l l (lnx tNote l) (i : Nat) b.2.2.2 b.1 b.2.1 b.2.2.1) fx_trace_read (lp f_trace_read 5) (E_trace_Chain_trace_read_5 l n l l (lnx tNote l) (i : Nat) b.2.2.2 b.1 b.2.1 b.2.2.1))
    (fun i b hi hb ih => goodS_of (x_trace_Chain k_slices_Contains_Trigger) (TL_trace_Chain_trace_read_5_eq l n l l _ _ b.2.2.2 b.1 b.2.1 b.2.2.1) (by
      have e : runB (l.drop i) i b = match stepB (decide (i = 0)) b l[i] with | none => .inl i | some b' => runB (l.drop (i + 1)) (i + 1) b' := by
        rw [List.drop_eq_getElem_cons hi]; rfl
      obtain ⟨hb1, hb2⟩ := hb
      have e2 : ∀ b', stepB (decide (i = 0)) b l[i] = some b' → runB (l.take (i + 1)) 0 bk0 = .inr b' := fun b' h => by
        rw [List.take_succ_eq_append_getElem hi, runB_append, hb2, List.length_take, Nat.min_eq_left (by omega), Nat.zero_add]
        show runB [l[i]] i b = _
        rw [runB, h]; rfl
      refine ⟨fun _ => ⟨inB_of hi, ?_⟩, fun h => ?_⟩
      · rw [el_at hi, wr_idx hi (by omega)]
        generalize l[i] = x at e e2 ⊢
        have bad : stepB (decide (i = 0)) b x = none → (([] : List Tr), (0 : Int), (11 : Int), ()) = R (runB (l.drop i) i b) := fun h => by rw [e, h]; exact (hbad i).symm
        have good : ∀ b', stepB (decide (i = 0)) b x = some b' → b'.2.1.length ≤ i + 1 → GoodS prog X_trace_Chain (Cx.base O w0) (Ends prog O w0 rs_trace_Chain fun y => y = R (runB (l.drop i) i b)) (Q_trace_Chain_trace_read_5 l n l l (lnx tNote l) ((i + 1 : Nat) : Int) b'.2.2.2 b'.1 b'.2.1 b'.2.2.1) fx_trace_read (lp f_trace_read 5)
            (E_trace_Chain_trace_read_5 l n l l (lnx tNote l) ((i + 1 : Nat) : Int) b'.2.2.2 b'.1 b'.2.1 b'.2.2.1) := fun b' h hI => by rw [e, h]; exact ih b' ⟨hI, e2 b' h⟩
        have hm : ∀ z : Tr, (b.2.1 ++ [z]).length ≤ most := fun z => by simp [most]; omega
        have hc : b.2.1.length ≤ 1000000 := by omega
        have h1' : ∀ z : Tr, (b.2.1 ++ [z]).length ≤ i + 1 := fun z => by rw [List.length_append]; exact Nat.add_le_add_right hb1 1
        have h0' : b.2.1.length ≤ i + 1 := by omega
        refine ⟨fun h0 => ?_, fun h0 => ?_⟩
        · have hf : decide (i = 0) = true := decide_eq_true (by have h0 : ((i : Nat) : Int) = 0 := of_decide_eq_true h0; omega)
          rw [hf] at bad good
          refine ⟨fun a1 => ⟨fun _ => ⟨fun _ => ⟨_, rfl, (bad (if_pos a1))⟩, fun h => absurd h (by decide)⟩, fun h => absurd h (by decide)⟩, fun a1 => ⟨fun a2 => ⟨fun a3 => ⟨fun _ => ⟨_, rfl, (bad ((if_neg (neT a1)).trans ((if_pos a2).trans (if_pos a3))))⟩, fun h => absurd h (by decide)⟩, fun a3 => good (mpSet (k := tInt) (v := tTraceLetter) b.1 (ltN x) (dtN x, (0 : Int), zero tTrigger, ltN x, ()), b.2.1, mpSet (k := tInt) (v := tInt) b.2.2.1 (ltN x) (noN x), atN x) ((if_neg (neT a1)).trans ((if_pos a2).trans (if_neg (neT a3)))) h0'⟩,
            fun a2 => ⟨fun a3 => ⟨hm _, fun h => absurd h (by decide), fun _ => good (b.1, b.2.1 ++ [trN x], b.2.2.1, atN x) ((if_neg (neT a1)).trans ((if_neg (neT a2)).trans (if_pos a3))) (h1' _)⟩,
              fun a3 => ⟨fun a4 => ⟨hc, fun q hq => by
                  have hq : q = g_has b.2.1 (trN x) := hq
                  subst hq
                  exact ⟨fun a5 => ⟨fun _ => ⟨_, rfl, (bad ((if_neg (neT a1)).trans ((if_neg (neT a2)).trans ((if_neg (neT a3)).trans ((if_pos a4).trans (if_pos a5))))))⟩, fun h => absurd h (by decide)⟩, fun a5 => good (mpSet (k := tInt) (v := tTraceLetter) b.1 (ltN x) ((mpGet (k := tInt) (v := tTraceLetter) b.1 (wasN x)).1, wasN x, trN x, (mpGet (k := tInt) (v := tTraceLetter) b.1 (wasN x)).2.2.2.1, ()), b.2.1, b.2.2.1, atN x) ((if_neg (neT a1)).trans ((if_neg (neT a2)).trans ((if_neg (neT a3)).trans ((if_pos a4).trans (if_neg (neT a5)))))) h0'⟩⟩,
                fun a4 => ⟨fun a5 => ⟨fun a6 => ⟨fun _ => ⟨_, rfl, (bad ((if_neg (neT a1)).trans ((if_neg (neT a2)).trans ((if_neg (neT a3)).trans ((if_neg (neT a4)).trans ((if_pos a5).trans (if_pos a6)))))))⟩, fun h => absurd h (by decide)⟩, fun a6 => good (b.1, b.2.1, b.2.2.1, atN x) ((if_neg (neT a1)).trans ((if_neg (neT a2)).trans ((if_neg (neT a3)).trans ((if_neg (neT a4)).trans ((if_pos a5).trans (if_neg (neT a6))))))) h0'⟩,
                  fun a5 => ⟨fun a6 => ⟨fun _ => ⟨_, rfl, (bad ((if_neg (neT a1)).trans ((if_neg (neT a2)).trans ((if_neg (neT a3)).trans ((if_neg (neT a4)).trans ((if_neg (neT a5)).trans (if_pos a6)))))))⟩, fun h => absurd h (by decide)⟩, fun a6 => good (b.1, b.2.1, b.2.2.1, atN x) ((if_neg (neT a1)).trans ((if_neg (neT a2)).trans ((if_neg (neT a3)).trans ((if_neg (neT a4)).trans ((if_neg (neT a5)).trans (if_neg (neT a6))))))) h0'⟩⟩⟩⟩⟩⟩
        · have hf : decide (i = 0) = false := decide_eq_false (by have h0 : ¬ ((i : Nat) : Int) = 0 := of_decide_eq_false h0; omega)
          rw [hf] at bad good
          refine ⟨fun a1 => ⟨fun _ => ⟨fun _ => ⟨_, rfl, (bad (if_pos a1))⟩, fun h => absurd h (by decide)⟩, fun h => absurd h (by decide)⟩, fun a1 => ⟨fun a2 => ⟨fun a3 => ⟨fun _ => ⟨_, rfl, (bad ((if_neg (neT a1)).trans ((if_pos a2).trans (if_pos a3))))⟩, fun h => absurd h (by decide)⟩, fun a3 => good (mpSet (k := tInt) (v := tTraceLetter) b.1 (ltN x) (dtN x, (0 : Int), zero tTrigger, ltN x, ()), b.2.1, mpSet (k := tInt) (v := tInt) b.2.2.1 (ltN x) (noN x), atN x) ((if_neg (neT a1)).trans ((if_pos a2).trans (if_neg (neT a3)))) h0'⟩,
            fun a2 => ⟨fun a3 => ⟨hm _, fun h => absurd h (by decide), fun _ => good (b.1, b.2.1 ++ [trN x], b.2.2.1, atN x) ((if_neg (neT a1)).trans ((if_neg (neT a2)).trans (if_pos a3))) (h1' _)⟩,
              fun a3 => ⟨fun a4 => ⟨hc, fun q hq => by
                  have hq : q = g_has b.2.1 (trN x) := hq
                  subst hq
                  exact ⟨fun a5 => ⟨fun _ => ⟨_, rfl, (bad ((if_neg (neT a1)).trans ((if_neg (neT a2)).trans ((if_neg (neT a3)).trans ((if_pos a4).trans (if_pos a5))))))⟩, fun h => absurd h (by decide)⟩, fun a5 => good (mpSet (k := tInt) (v := tTraceLetter) b.1 (ltN x) ((mpGet (k := tInt) (v := tTraceLetter) b.1 (wasN x)).1, wasN x, trN x, (mpGet (k := tInt) (v := tTraceLetter) b.1 (wasN x)).2.2.2.1, ()), b.2.1, b.2.2.1, atN x) ((if_neg (neT a1)).trans ((if_neg (neT a2)).trans ((if_neg (neT a3)).trans ((if_pos a4).trans (if_neg (neT a5)))))) h0'⟩⟩,
                fun a4 => ⟨fun a5 => ⟨fun a6 => ⟨fun _ => ⟨_, rfl, (bad ((if_neg (neT a1)).trans ((if_neg (neT a2)).trans ((if_neg (neT a3)).trans ((if_neg (neT a4)).trans ((if_pos a5).trans (if_pos a6)))))))⟩, fun h => absurd h (by decide)⟩, fun a6 => good (b.1, b.2.1, b.2.2.1, atN x) ((if_neg (neT a1)).trans ((if_neg (neT a2)).trans ((if_neg (neT a3)).trans ((if_neg (neT a4)).trans ((if_pos a5).trans (if_neg (neT a6))))))) h0'⟩,
                  fun a5 => ⟨fun a6 => ⟨fun _ => ⟨_, rfl, (bad ((if_neg (neT a1)).trans ((if_neg (neT a2)).trans ((if_neg (neT a3)).trans ((if_neg (neT a4)).trans ((if_neg (neT a5)).trans (if_pos a6)))))))⟩, fun h => absurd h (by decide)⟩, fun a6 => good (b.1, b.2.1, b.2.2.1, atN x) ((if_neg (neT a1)).trans ((if_neg (neT a2)).trans ((if_neg (neT a3)).trans ((if_neg (neT a4)).trans ((if_neg (neT a5)).trans (if_neg (neT a6))))))) h0'⟩⟩⟩⟩⟩⟩
      · rw [lnx_nat] at h
        exact absurd hi (of_decide_eq_false h)))
    (fun b hb => goodS_of (x_trace_Chain k_slices_Contains_Trigger) (TL_trace_Chain_trace_read_5_eq l n l l _ _ b.2.2.2 b.1 b.2.1 b.2.2.1) (by
      refine ⟨fun h => ?_, fun _ => ?_⟩
      · rw [lnx_nat] at h
        exact absurd (of_decide_eq_true h) (Nat.lt_irrefl _)
      · have e : runB (l.drop l.length) l.length b = .inr b := by rw [List.drop_length, runB]
        rw [e]
        obtain ⟨_, hb2⟩ := hb
        rw [List.take_length] at hb2
        have hb2 : runB l 0 bk0 = .inr b := hb2
        have hfam := run_fam hb2 Fam.nil
        have eR1 : badAt l n = true → R (.inr b) = (([] : List Tr), (0 : Int), (6 : Int), ()) := fun h => (hR b).trans (if_pos h)
        have eR2 : badAt l n = false → R (.inr b) = ((walk b.1 b.1.length (wasN (el tNote l n)) []).1.reverse, mpGet (k := tInt) (v := tInt) b.2.2.1 (walk b.1 b.1.length (wasN (el tNote l n)) []).2, (0 : Int), ()) := fun h => (hR b).trans (if_neg (neT h))
        refine ⟨fun h => absurd h (by decide), fun _ => ⟨fun h => badAt_in h, fun h => ⟨_, rfl, (eR1 h).symm⟩, fun h => ⟨badAt_in' h, ?_⟩⟩⟩
        rw [eR2 h]
        obtain ⟨rk, r1, r2⟩ := hfam.rank
        exact gl_Chain_9 O w0 b.1 b.2.1 b.2.2.1 b.2.2.2 rk r2 b.1.length (wasN (el tNote l n)) [] (r1 _) (by have := run_len hb2; simp [bk0] at this ⊢; omega)))

def g_Chain (l : List Nt) (n : Int) : List Tr × Int × Int × Unit := if 1000 < l.length then ([], 0, 2, ()) else resChain l n (runB l 0 bk0)
noncomputable abbrev S_trace_Chain : Spec := ⟨as_trace_Chain, rs_trace_Chain, fun x => g_Chain x.1 x.2.1, fun _ => True, true⟩
theorem k_trace_Chain : FnOk prog [] n_trace_Chain S_trace_Chain :=
  fnS_T (S := S_trace_Chain) (x_trace_Chain k_slices_Contains_Trigger) (fx := fx_trace_Chain) at_trace_Chain (by kernel_rfl) (fun _ _ => trivial) (T := fun x => T_trace_Chain x.1 x.2.1) (fun x => T_trace_Chain_eq x.1 x.2.1) fun O w0 x _ _ => by
    obtain ⟨l, n, ⟨⟩⟩ := x
    refine ⟨fun h => ⟨fun _ => ⟨_, rfl, ?_⟩, fun h => absurd h (by decide)⟩, fun h => ?_⟩
    · have h : (1000 : Int) < l.length := of_decide_eq_true h
      show (([] : List Tr), (0 : Int), (2 : Int), ()) = g_Chain l n
      unfold g_Chain
      rw [if_pos (by omega)]
    · have h : ¬ (1000 : Int) < l.length := of_decide_eq_false h
      have := (gl_read_Chain O w0 l n (by omega) (resChain l n) (fun _ => rfl) (fun _ => rfl)).down 0 bk0 (Nat.zero_le _) ⟨Nat.le_refl _, rfl⟩
      rw [List.drop_zero] at this
      have e : g_Chain l n = resChain l n (runB l 0 bk0) := by unfold g_Chain; rw [if_neg (by omega)]
      show GoodS prog X_trace_Chain (Cx.base O w0) (Ends prog O w0 rs_trace_Chain fun y => y = g_Chain l n) _ _ _ _
      rw [e]
      exact this

noncomputable abbrev S_l20_alive : Spec := ⟨as_l20_alive, rs_l20_alive, fun _ => (true, ()), fun _ => True, true⟩

end Go.Proofs.Ytainieginijaaaa

/- The trees of functions' bodies, as the evaluator prints them. -/
namespace Go.Proofs.Ytainieginijaaaa
open Go Go.RowKit

noncomputable abbrev fx_l20_alive : Fx := { fn := f_l20_alive, ann := { }, share := true }
noncomputable abbrev X_l20_alive : TabX := { D := { T := tyTab, F := [(n_trace_Check, S_trace_Check), (n_trace_Chain, S_trace_Chain)], R := [], ovl := [] }, inl := [] }
noncomputable abbrev M_l20_alive : RMode := .data rs_l20_alive
theorem x_l20_alive (h_trace_Check : FnOk prog [] n_trace_Check S_trace_Check) (h_trace_Chain : FnOk prog [] n_trace_Chain S_trace_Chain) : XOk prog X_l20_alive := xok (dok_add (dok_add (dok_nil tab_ok mixed_ok) h_trace_Chain) h_trace_Check) (by kernel_rfl) rows_nil inl_nil ovl_nil
noncomputable def T_l20_alive : TreeS :=
  TreeS.req True
  (TreeS.all (den (Ty.pair tInt (Ty.pair tInt Ty.unit)))
    (fun (q0 : den (Ty.pair tInt (Ty.pair tInt Ty.unit))) ↦
      q0 =
        g_Check
          (List.set
            (List.set (List.replicate 2 (zero tNote)) 0
              (1,
                Prod.fst
                  (Prod.snd
                    (zero
                      (Ty.pair tInt
                        (Ty.pair tInt
                          (Ty.pair tInt
                            (Ty.pair tInt
                              (Ty.pair tInt (Ty.pair tTrigger (Ty.pair Ty.str (Ty.pair tInt Ty.unit)))))))))),
                3,
                Prod.fst
                  (Prod.snd
                    (Prod.snd
                      (Prod.snd
                        (zero
                          (Ty.pair tInt
                            (Ty.pair tInt
                              (Ty.pair tInt
                                (Ty.pair tInt
                                  (Ty.pair tInt (Ty.pair tTrigger (Ty.pair Ty.str (Ty.pair tInt Ty.unit)))))))))))),
                1,
                Prod.fst
                  (Prod.snd
                    (Prod.snd
                      (Prod.snd
                        (Prod.snd
                          (Prod.snd
                            (zero
                              (Ty.pair tInt
                                (Ty.pair tInt
                                  (Ty.pair tInt
                                    (Ty.pair tInt
                                      (Ty.pair tInt
                                        (Ty.pair tTrigger (Ty.pair Ty.str (Ty.pair tInt Ty.unit)))))))))))))),
                { data := { toList := [120] } },
                Prod.snd
                  (Prod.snd
                    (Prod.snd
                      (Prod.snd
                        (Prod.snd
                          (Prod.snd
                            (Prod.snd
                              (zero
                                (Ty.pair tInt
                                  (Ty.pair tInt
                                    (Ty.pair tInt
                                      (Ty.pair tInt
                                        (Ty.pair tInt
                                          (Ty.pair tTrigger (Ty.pair Ty.str (Ty.pair tInt Ty.unit)))))))))))))))))
            1
            (4,
              Prod.fst
                (Prod.snd
                  (zero
                    (Ty.pair tInt
                      (Ty.pair tInt
                        (Ty.pair tInt
                          (Ty.pair tInt (Ty.pair tInt (Ty.pair tTrigger (Ty.pair Ty.str (Ty.pair tInt Ty.unit)))))))))),
              Prod.fst
                (Prod.snd
                  (Prod.snd
                    (zero
                      (Ty.pair tInt
                        (Ty.pair tInt
                          (Ty.pair tInt
                            (Ty.pair tInt
                              (Ty.pair tInt (Ty.pair tTrigger (Ty.pair Ty.str (Ty.pair tInt Ty.unit))))))))))),
              1,
              Prod.fst
                (Prod.snd
                  (Prod.snd
                    (Prod.snd
                      (Prod.snd
                        (zero
                          (Ty.pair tInt
                            (Ty.pair tInt
                              (Ty.pair tInt
                                (Ty.pair tInt
                                  (Ty.pair tInt (Ty.pair tTrigger (Ty.pair Ty.str (Ty.pair tInt Ty.unit))))))))))))),
              Prod.fst
                (Prod.snd
                  (Prod.snd
                    (Prod.snd
                      (Prod.snd
                        (Prod.snd
                          (zero
                            (Ty.pair tInt
                              (Ty.pair tInt
                                (Ty.pair tInt
                                  (Ty.pair tInt
                                    (Ty.pair tInt (Ty.pair tTrigger (Ty.pair Ty.str (Ty.pair tInt Ty.unit)))))))))))))),
              { data := { toList := [120] } },
              Prod.snd
                (Prod.snd
                  (Prod.snd
                    (Prod.snd
                      (Prod.snd
                        (Prod.snd
                          (Prod.snd
                            (zero
                              (Ty.pair tInt
                                (Ty.pair tInt
                                  (Ty.pair tInt
                                    (Ty.pair tInt
                                      (Ty.pair tInt
                                        (Ty.pair tTrigger (Ty.pair Ty.str (Ty.pair tInt Ty.unit))))))))))))))))))
    fun (q0 : den (Ty.pair tInt (Ty.pair tInt Ty.unit))) ↦
    TreeS.req True
      (TreeS.all (den (Ty.pair (Ty.slc tTrigger) (Ty.pair tInt (Ty.pair tInt Ty.unit))))
        (fun (q1 : den (Ty.pair (Ty.slc tTrigger) (Ty.pair tInt (Ty.pair tInt Ty.unit)))) ↦
          q1 =
            g_Chain
              (List.set
                (List.set (List.replicate 2 (zero tNote)) 0
                  (1,
                    Prod.fst
                      (Prod.snd
                        (zero
                          (Ty.pair tInt
                            (Ty.pair tInt
                              (Ty.pair tInt
                                (Ty.pair tInt
                                  (Ty.pair tInt (Ty.pair tTrigger (Ty.pair Ty.str (Ty.pair tInt Ty.unit)))))))))),
                    3,
                    Prod.fst
                      (Prod.snd
                        (Prod.snd
                          (Prod.snd
                            (zero
                              (Ty.pair tInt
                                (Ty.pair tInt
                                  (Ty.pair tInt
                                    (Ty.pair tInt
                                      (Ty.pair tInt (Ty.pair tTrigger (Ty.pair Ty.str (Ty.pair tInt Ty.unit)))))))))))),
                    1,
                    Prod.fst
                      (Prod.snd
                        (Prod.snd
                          (Prod.snd
                            (Prod.snd
                              (Prod.snd
                                (zero
                                  (Ty.pair tInt
                                    (Ty.pair tInt
                                      (Ty.pair tInt
                                        (Ty.pair tInt
                                          (Ty.pair tInt
                                            (Ty.pair tTrigger (Ty.pair Ty.str (Ty.pair tInt Ty.unit)))))))))))))),
                    { data := { toList := [120] } },
                    Prod.snd
                      (Prod.snd
                        (Prod.snd
                          (Prod.snd
                            (Prod.snd
                              (Prod.snd
                                (Prod.snd
                                  (zero
                                    (Ty.pair tInt
                                      (Ty.pair tInt
                                        (Ty.pair tInt
                                          (Ty.pair tInt
                                            (Ty.pair tInt
                                              (Ty.pair tTrigger (Ty.pair Ty.str (Ty.pair tInt Ty.unit)))))))))))))))))
                1
                (4,
                  Prod.fst
                    (Prod.snd
                      (zero
                        (Ty.pair tInt
                          (Ty.pair tInt
                            (Ty.pair tInt
                              (Ty.pair tInt
                                (Ty.pair tInt (Ty.pair tTrigger (Ty.pair Ty.str (Ty.pair tInt Ty.unit)))))))))),
                  Prod.fst
                    (Prod.snd
                      (Prod.snd
                        (zero
                          (Ty.pair tInt
                            (Ty.pair tInt
                              (Ty.pair tInt
                                (Ty.pair tInt
                                  (Ty.pair tInt (Ty.pair tTrigger (Ty.pair Ty.str (Ty.pair tInt Ty.unit))))))))))),
                  1,
                  Prod.fst
                    (Prod.snd
                      (Prod.snd
                        (Prod.snd
                          (Prod.snd
                            (zero
                              (Ty.pair tInt
                                (Ty.pair tInt
                                  (Ty.pair tInt
                                    (Ty.pair tInt
                                      (Ty.pair tInt
                                        (Ty.pair tTrigger (Ty.pair Ty.str (Ty.pair tInt Ty.unit))))))))))))),
                  Prod.fst
                    (Prod.snd
                      (Prod.snd
                        (Prod.snd
                          (Prod.snd
                            (Prod.snd
                              (zero
                                (Ty.pair tInt
                                  (Ty.pair tInt
                                    (Ty.pair tInt
                                      (Ty.pair tInt
                                        (Ty.pair tInt
                                          (Ty.pair tTrigger (Ty.pair Ty.str (Ty.pair tInt Ty.unit)))))))))))))),
                  { data := { toList := [120] } },
                  Prod.snd
                    (Prod.snd
                      (Prod.snd
                        (Prod.snd
                          (Prod.snd
                            (Prod.snd
                              (Prod.snd
                                (zero
                                  (Ty.pair tInt
                                    (Ty.pair tInt
                                      (Ty.pair tInt
                                        (Ty.pair tInt
                                          (Ty.pair tInt
                                            (Ty.pair tTrigger (Ty.pair Ty.str (Ty.pair tInt Ty.unit)))))))))))))))))
              1)
        fun (q1 : den (Ty.pair (Ty.slc tTrigger) (Ty.pair tInt (Ty.pair tInt Ty.unit)))) ↦
        TreeS.ret
          (K.val (Ty.pair Ty.bool Ty.unit)
            (bif
                  bif bif decide (Prod.fst (Prod.snd q0) = 0) then decide (Prod.fst q0 = 2) else false then
                    decide (Prod.fst (Prod.snd (Prod.snd q1)) = 0)
                  else false then
                decide (Prod.fst (Prod.snd q1) = 3)
              else false,
              PUnit.unit))))
theorem T_l20_alive_eq : treeS X_l20_alive M_l20_alive 5000 [] fx_l20_alive (bodyOf f_l20_alive) (Env.of
  (argEnv as_l20_alive () 0) []) = T_l20_alive := by kernel_rfl

noncomputable abbrev fx_l20_TraceBeginnings : Fx := { fn := f_l20_TraceBeginnings, ann := { loops := [(14, { keep := [0, 1, 95, 96, 97] }), (18, { keep := [0, 1, 15, 16, 95, 96, 97, 103, 104, 105] })] }, share := true }
noncomputable abbrev X_l20_TraceBeginnings : TabX := { D := { T := tyTab, F := [(n_l20_few, S_l20_few), (n_trace_Check, S_trace_Check), (n_trace_Chain, S_trace_Chain), (n_l20_alive, S_l20_alive)], R := [], ovl := [] }, inl := [] }
noncomputable abbrev M_l20_TraceBeginnings : RMode := .data rs_l20_TraceBeginnings
theorem x_l20_TraceBeginnings (h_l20_few : FnOk prog [] n_l20_few S_l20_few) (h_trace_Check : FnOk prog [] n_trace_Check S_trace_Check) (h_trace_Chain : FnOk prog [] n_trace_Chain S_trace_Chain) (h_l20_alive : FnOk prog [] n_l20_alive S_l20_alive) : XOk prog X_l20_TraceBeginnings := xok (dok_add (dok_add (dok_add (dok_add (dok_nil tab_ok mixed_ok) h_l20_alive) h_trace_Chain) h_trace_Check) h_l20_few) (by kernel_rfl) rows_nil inl_nil ovl_nil
noncomputable def T_l20_TraceBeginnings (l : den (Ty.slc tNote)) (n : den tInt) : TreeS :=
  TreeS.req True
  (TreeS.all (den (Ty.slc tNote)) (fun (q2 : den (Ty.slc tNote)) ↦ q2 = g_few l) fun (q2 : den (Ty.slc tNote)) ↦
    TreeS.req True
      (TreeS.all (den (Ty.pair tInt (Ty.pair tInt Ty.unit)))
        (fun (q3 : den (Ty.pair tInt (Ty.pair tInt Ty.unit))) ↦ q3 = g_Check q2)
        fun (q3 : den (Ty.pair tInt (Ty.pair tInt Ty.unit))) ↦
        TreeS.ite (!decide (Prod.fst (Prod.snd q3) = 0))
          (TreeS.req (cutOk 0 (minI (maxI (Prod.fst q3) 0) (lnx tNote q2)) (lnx tNote q2))
            (TreeS.req True
              (TreeS.all (den (Ty.pair tInt (Ty.pair tInt Ty.unit)))
                (fun (q4 : den (Ty.pair tInt (Ty.pair tInt Ty.unit))) ↦
                  q4 = g_Check (lCutx tNote q2 0 (minI (maxI (Prod.fst q3) 0) (lnx tNote q2))))
                fun (q4 : den (Ty.pair tInt (Ty.pair tInt Ty.unit))) ↦
                TreeS.req True
                  (TreeS.all (den Ty.bool) (fun (q5 : den Ty.bool) ↦ q5 = true) fun (q5 : den Ty.bool) ↦
                    TreeS.ret
                      (K.val (Ty.pair Ty.bool Ty.unit)
                        (bif
                              bif bif q5 then decide (Prod.fst (Prod.snd q3) = 11) else false then
                                decide (Prod.fst (Prod.snd q4) = 0)
                              else false then
                            decide (Prod.fst q4 = Prod.fst q3)
                          else false,
                          PUnit.unit))))))
          (TreeS.req (nz (IntKind.wrap IntKind.i64 (lnx tNote q2 + 1)))
            (TreeS.req (nz (IntKind.wrap IntKind.i64 (lnx tNote q2 + 1)))
              (TreeS.req
                (cutOk 0
                  (Int.tmod
                    (IntKind.wrap IntKind.i64
                      (IntKind.wrap IntKind.i64
                          (Int.tmod n (IntKind.wrap IntKind.i64 (lnx tNote q2 + 1)) + lnx tNote q2) +
                        1))
                    (IntKind.wrap IntKind.i64 (lnx tNote q2 + 1)))
                  (lnx tNote q2))
                (TreeS.req True
                  (TreeS.all (den (Ty.pair tInt (Ty.pair tInt Ty.unit)))
                    (fun (q4 : den (Ty.pair tInt (Ty.pair tInt Ty.unit))) ↦
                      q4 =
                        g_Check
                          (lCutx tNote q2 0
                            (Int.tmod
                              (IntKind.wrap IntKind.i64
                                (IntKind.wrap IntKind.i64
                                    (Int.tmod n (IntKind.wrap IntKind.i64 (lnx tNote q2 + 1)) + lnx tNote q2) +
                                  1))
                              (IntKind.wrap IntKind.i64 (lnx tNote q2 + 1)))))
                    fun (q4 : den (Ty.pair tInt (Ty.pair tInt Ty.unit))) ↦
                    TreeS.req
                      (impl
                        [(bif !decide (Prod.fst (Prod.snd q4) = 0) then true
                            else
                              !decide
                                  (Prod.fst q4 =
                                    Int.tmod
                                      (IntKind.wrap IntKind.i64
                                        (IntKind.wrap IntKind.i64
                                            (Int.tmod n (IntKind.wrap IntKind.i64 (lnx tNote q2 + 1)) + lnx tNote q2) +
                                          1))
                                      (IntKind.wrap IntKind.i64 (lnx tNote q2 + 1))),
                            false)]
                        True)
                      (TreeS.ite
                        (bif
                            bif !decide (Prod.fst (Prod.snd q4) = 0) then true
                            else
                              !decide
                                  (Prod.fst q4 =
                                    Int.tmod
                                      (IntKind.wrap IntKind.i64
                                        (IntKind.wrap IntKind.i64
                                            (Int.tmod n (IntKind.wrap IntKind.i64 (lnx tNote q2 + 1)) + lnx tNote q2) +
                                          1))
                                      (IntKind.wrap IntKind.i64 (lnx tNote q2 + 1))) then
                          true
                        else !true)
                        (TreeS.ret (K.val (Ty.pair Ty.bool Ty.unit) (false, PUnit.unit)))
                        (TreeS.req True
                          (TreeS.all (den (Ty.pair (Ty.slc tTrigger) (Ty.pair tInt (Ty.pair tInt Ty.unit))))
                            (fun (q5 : den (Ty.pair (Ty.slc tTrigger) (Ty.pair tInt (Ty.pair tInt Ty.unit)))) ↦
                              q5 =
                                g_Chain q2
                                  (Int.tmod
                                    (IntKind.wrap IntKind.i64
                                      (IntKind.wrap IntKind.i64
                                          (Int.tmod n (IntKind.wrap IntKind.i64 (lnx tNote q2 + 1)) + lnx tNote q2) +
                                        1))
                                    (IntKind.wrap IntKind.i64 (lnx tNote q2 + 1))))
                            fun (q5 : den (Ty.pair (Ty.slc tTrigger) (Ty.pair tInt (Ty.pair tInt Ty.unit)))) ↦
                            TreeS.ite (!decide (Prod.fst (Prod.snd (Prod.snd q5)) = 0))
                              (TreeS.ret
                                (K.val (Ty.pair Ty.bool Ty.unit)
                                  (decide (Prod.fst (Prod.snd (Prod.snd q5)) = 6), PUnit.unit)))
                              (TreeS.loop [] fx_l20_TraceBeginnings (lp f_l20_TraceBeginnings 14)
                                [(0, K.val (Ty.slc tNote) q2),
                                  (1,
                                    K.val tInt
                                      (Int.tmod
                                        (IntKind.wrap IntKind.i64
                                          (IntKind.wrap IntKind.i64
                                              (Int.tmod n (IntKind.wrap IntKind.i64 (lnx tNote q2 + 1)) +
                                                lnx tNote q2) +
                                            1))
                                        (IntKind.wrap IntKind.i64 (lnx tNote q2 + 1)))),
                                  (95, K.val (Ty.slc tTrigger) (Prod.fst q5)),
                                  (96, K.val tInt (lnx tTrigger (Prod.fst q5))), (97, K.val tInt 0)]
                                [])))))))))))
theorem T_l20_TraceBeginnings_eq (l : den (Ty.slc tNote)) (n : den tInt) : treeS X_l20_TraceBeginnings M_l20_TraceBeginnings 5000 [] fx_l20_TraceBeginnings (bodyOf f_l20_TraceBeginnings) (Env.of
  (argEnv as_l20_TraceBeginnings (l, n, ()) 0) []) = T_l20_TraceBeginnings l n := by kernel_rfl

noncomputable def E_l20_TraceBeginnings_14 (v0 : den (Ty.slc tNote)) (v1 : den tInt) (v95 : den (Ty.slc tTrigger)) (v96 : den tInt) (v97 : den tInt) : Env := Env.of
  [(0, K.val (Ty.slc tNote) v0), (1, K.val tInt v1), (95, K.val (Ty.slc tTrigger) v95), (96, K.val tInt v96),
    (97, K.val tInt v97)]
  []
noncomputable def TL_l20_TraceBeginnings_14 (v0 : den (Ty.slc tNote)) (v1 : den tInt) (v95 : den (Ty.slc tTrigger)) (v96 : den tInt) (v97 : den tInt) : TreeS :=
  TreeS.ite (decide (v97 < v96))
  (TreeS.req (inB v97 (lnx tTrigger v95))
    (TreeS.req (cutOk 0 v1 (lnx tNote v0))
      (TreeS.loop [] fx_l20_TraceBeginnings (lp f_l20_TraceBeginnings 18)
        [(0, K.val (Ty.slc tNote) v0), (1, K.val tInt v1), (15, K.ptr 0 tTrigger []), (16, K.val Ty.bool false),
          (95, K.val (Ty.slc tTrigger) v95), (96, K.val tInt v96), (97, K.val tInt v97),
          (103, K.val (Ty.slc tNote) (lCutx tNote v0 0 v1)), (104, K.val tInt (lnx tNote (lCutx tNote v0 0 v1))),
          (105, K.val tInt 0)]
        [(0, Bx.cell tTrigger (el tTrigger v95 v97))])))
  (TreeS.ret (K.val (Ty.pair Ty.bool Ty.unit) (true, PUnit.unit)))
theorem TL_l20_TraceBeginnings_14_eq (v0 : den (Ty.slc tNote)) (v1 : den tInt) (v95 : den (Ty.slc tTrigger)) (v96 : den tInt) (v97 : den tInt) : treeS X_l20_TraceBeginnings M_l20_TraceBeginnings 5000 [] fx_l20_TraceBeginnings (lp f_l20_TraceBeginnings 14) (E_l20_TraceBeginnings_14 v0 v1 v95 v96 v97) = TL_l20_TraceBeginnings_14 v0 v1 v95 v96 v97 := by kernel_rfl

noncomputable def E_l20_TraceBeginnings_18 (v0 : den (Ty.slc tNote)) (v1 : den tInt) (v16 : den Ty.bool) (v95 : den (Ty.slc tTrigger)) (v96 : den tInt) (v97 : den tInt) (v103 : den (Ty.slc tNote)) (v104 : den tInt) (v105 : den tInt) (b0 : den tTrigger) : Env := Env.of
  [(0, K.val (Ty.slc tNote) v0), (1, K.val tInt v1), (15, K.ptr 0 tTrigger []), (16, K.val Ty.bool v16),
    (95, K.val (Ty.slc tTrigger) v95), (96, K.val tInt v96), (97, K.val tInt v97), (103, K.val (Ty.slc tNote) v103),
    (104, K.val tInt v104), (105, K.val tInt v105)]
  [(0, Bx.cell tTrigger b0)]
noncomputable def TL_l20_TraceBeginnings_18 (v0 : den (Ty.slc tNote)) (v1 : den tInt) (v16 : den Ty.bool) (v95 : den (Ty.slc tTrigger)) (v96 : den tInt) (v97 : den tInt) (v103 : den (Ty.slc tNote)) (v104 : den tInt) (v105 : den tInt) (b0 : den tTrigger) : TreeS :=
  TreeS.ite (decide (v105 < v104))
  (TreeS.req (inB v105 (lnx tNote v103))
    (TreeS.loop [] fx_l20_TraceBeginnings (lp f_l20_TraceBeginnings 18)
      [(0, K.val (Ty.slc tNote) v0), (1, K.val tInt v1), (15, K.ptr 0 tTrigger []),
        (16,
          K.val Ty.bool
            (bif v16 then true
            else
              bif decide (Prod.fst (el tNote v103 v105) = 2) then
                eqb tTrigger (Prod.fst (Prod.snd (Prod.snd (Prod.snd (Prod.snd (Prod.snd (el tNote v103 v105))))))) b0
              else false)),
        (95, K.val (Ty.slc tTrigger) v95), (96, K.val tInt v96), (97, K.val tInt v97), (103, K.val (Ty.slc tNote) v103),
        (104, K.val tInt v104), (105, K.val tInt (IntKind.wrap IntKind.i64 (v105 + 1)))]
      [(0, Bx.cell tTrigger b0)]))
  (TreeS.ite (!v16) (TreeS.ret (K.val (Ty.pair Ty.bool Ty.unit) (false, PUnit.unit)))
    (TreeS.loop [] fx_l20_TraceBeginnings (lp f_l20_TraceBeginnings 14)
      [(0, K.val (Ty.slc tNote) v0), (1, K.val tInt v1), (95, K.val (Ty.slc tTrigger) v95), (96, K.val tInt v96),
        (97, K.val tInt (IntKind.wrap IntKind.i64 (v97 + 1)))]
      []))
theorem TL_l20_TraceBeginnings_18_eq (v0 : den (Ty.slc tNote)) (v1 : den tInt) (v16 : den Ty.bool) (v95 : den (Ty.slc tTrigger)) (v96 : den tInt) (v97 : den tInt) (v103 : den (Ty.slc tNote)) (v104 : den tInt) (v105 : den tInt) (b0 : den tTrigger) : treeS X_l20_TraceBeginnings M_l20_TraceBeginnings 5000 [] fx_l20_TraceBeginnings (lp f_l20_TraceBeginnings 18) (E_l20_TraceBeginnings_18 v0 v1 v16 v95 v96 v97 v103 v104 v105 b0) = TL_l20_TraceBeginnings_18 v0 v1 v16 v95 v96 v97 v103 v104 v105 b0 := by kernel_rfl

end Go.Proofs.Ytainieginijaaaa
