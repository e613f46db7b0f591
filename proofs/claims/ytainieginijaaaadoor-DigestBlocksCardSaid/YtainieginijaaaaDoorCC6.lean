/- Part 6 of 6 of what this claim's proof stands on: a theory of programs on data, and the contracts of the functions that the law reaches. It holds no condition of its own. -/
import Derived.Test.YtainieginijaaaaDoorCC5
import Derived.Test.YtainieginijaaaaDoorProg
import Derived.Test.YtainieginijaaaaDoorRows
import Derived.Shelf.Strings.Builder1
import Derived.Shelf.Strings.Builder2
import Derived.Shelf.Strings.OnBuilder
import Derived.Shelf.Strings.BuilderF
import Derived.Shelf.Strings.BuilderK
import Derived.Shelf.Strings.Builder2Cap
import Derived.Shelf.Strings.Prefix
import Derived.Shelf.Bits.Mul64
import Derived.Shelf.Strings.Repeat
import Derived.Shelf.Strings.BuilderCap
import Derived.LaidMore
import Derived.Lay

/- This seat's types and functions: their numbers, and the shapes of their data. Written by mktab.py. -/
namespace Go.Proofs.YtainieginijaaaaDoor
open Go
noncomputable section

noncomputable abbrev prog : Program := Tryd.prog

abbrev tId : Ty := (.arr 32 (.int .u8))
abbrev tDigestWords : Ty := (.arr 8 (.int .u32))

def tyTab : List (Nat × Ty) := [
  (1, (.fn .unit .unit)),
  (2, (.int .i64)),
  (3, (.int .i64)),
  (4, .bool),
  (5, (.int .u8)),
  (9, .str),
  (12, (.int .u64)),
  (21, (.int .i32)),
  (22, (.slc .str)),
  (23, (.fn (.pair (.slc .str) (.pair .str .unit)) (.pair .str .unit))),
  (24, (.fn .unit (.pair .bool .unit))),
  (25, tId),
  (26, tId),
  (27, (.fn (.pair (.slc .str) .unit) (.pair tId .unit))),
  (28, (.fn (.pair (.slc .str) .unit) (.pair .bool .unit))),
  (29, (.int .i64)),
  (31, (.fn (.pair (.int .i64) .unit) (.pair (.int .i64) (.pair (.int .i64) .unit)))),
  (32, (.fn (.pair .str .unit) (.pair .str .unit))),
  (33, (.fn (.pair (.int .i64) (.pair .str .unit)) (.pair .bool .unit))),
  (35, (.slc (.int .u8))),
  (38, (.fn (.pair (.int .i64) .unit) .unit)),
  (43, (.fn .unit (.pair .str .unit))),
  (44, (.int .u32)),
  (45, tDigestWords),
  (46, tDigestWords),
  (47, (.fn .unit (.pair tDigestWords .unit))),
  (48, (.fn (.pair (.fn (.pair .str .unit) (.pair .bool .unit)) .unit) .unit)),
  (49, (.fn (.pair (.fn (.pair .str .unit) (.pair .bool .unit)) .unit) .unit)),
  (50, (.fn (.pair .str .unit) (.pair (.fn (.pair (.fn (.pair .str .unit) (.pair .bool .unit)) .unit) .unit) .unit))),
  (51, (.fn (.pair .str .unit) (.pair tDigestWords .unit))),
  (52, (.int .u64)),
  (54, (.int .u64)),
  (55, (.fn (.pair .str (.pair (.int .i64) .unit)) (.pair .str .unit))),
  (56, (.fn (.pair .str .unit) (.pair .bool .unit))),
  (57, (.arr 64 (.int .u32))),
  (58, (.fn (.pair .str .unit) (.pair (.int .u32) .unit))),
  (59, (.fn (.pair (.int .u32) (.pair (.int .i64) (.pair (.int .i64) (.pair (.int .u32) .unit)))) (.pair (.int .u32) .unit))),
  (60, (.fn (.pair (.int .u32) (.pair (.int .i64) .unit)) (.pair (.int .u32) .unit))),
  (63, (.fn (.pair (.int .i64) .unit) (.pair (.slc (.int .u8)) .unit))),
  (65, (.fn (.pair (.int .u64) (.pair (.int .u64) .unit)) (.pair (.int .u64) (.pair (.int .u64) .unit)))),
  (66, (.fn (.pair .str (.pair .str .unit)) (.pair .bool .unit))),
  (67, (.fn .unit (.pair (.int .i64) .unit))),
  (69, (.fn (.pair (.int .u32) (.pair (.int .u32) .unit)) (.pair (.int .u32) (.pair (.int .u32) .unit)))),
  (71, (.fn (.pair (.int .u64) (.pair (.int .u64) .unit)) (.pair (.int .u64) (.pair (.int .u64) .unit))))]

theorem tab_ok : tabB prog tyTab = true := by kernel_rfl
theorem mixed_ok : prog.follows .mixedOrders = true := by kernel_rfl

abbrev n_l02_DigestCuts : Nat := 3
noncomputable abbrev f_l02_DigestCuts : Func := Tryd.f3
abbrev as_l02_DigestCuts : Ty := (.pair (.slc .str) .unit)
abbrev rs_l02_DigestCuts : Ty := (.pair .bool .unit)
theorem at_l02_DigestCuts : Tryd.prog.funcs[n_l02_DigestCuts]? = some f_l02_DigestCuts := Tryd.func3
abbrev n_l02_DigestBlocks : Nat := 4
noncomputable abbrev f_l02_DigestBlocks : Func := Tryd.f4
abbrev as_l02_DigestBlocks : Ty := (.pair (.int .i64) (.pair .str .unit))
abbrev rs_l02_DigestBlocks : Ty := (.pair .bool .unit)
theorem at_l02_DigestBlocks : Tryd.prog.funcs[n_l02_DigestBlocks]? = some f_l02_DigestBlocks := Tryd.func4
abbrev n_strings_Join : Nat := 5
noncomputable abbrev f_strings_Join : Func := Tryd.f5
abbrev as_strings_Join : Ty := (.pair (.slc .str) (.pair .str .unit))
abbrev rs_strings_Join : Ty := (.pair .str .unit)
theorem at_strings_Join : Tryd.prog.funcs[n_strings_Join]? = some f_strings_Join := Tryd.func5
abbrev n_l02_alive : Nat := 6
noncomputable abbrev f_l02_alive : Func := Tryd.f6
abbrev as_l02_alive : Ty := .unit
abbrev rs_l02_alive : Ty := (.pair .bool .unit)
theorem at_l02_alive : Tryd.prog.funcs[n_l02_alive]? = some f_l02_alive := Tryd.func6
abbrev n_digest_Sum : Nat := 7
noncomputable abbrev f_digest_Sum : Func := Tryd.f7
abbrev as_digest_Sum : Ty := (.pair (.slc .str) .unit)
abbrev rs_digest_Sum : Ty := (.pair tId .unit)
theorem at_digest_Sum : Tryd.prog.funcs[n_digest_Sum]? = some f_digest_Sum := Tryd.func7
abbrev n_digest_Blocks : Nat := 8
noncomputable abbrev f_digest_Blocks : Func := Tryd.f8
abbrev as_digest_Blocks : Ty := (.pair (.int .i64) .unit)
abbrev rs_digest_Blocks : Ty := (.pair (.int .i64) (.pair (.int .i64) .unit))
theorem at_digest_Blocks : Tryd.prog.funcs[n_digest_Blocks]? = some f_digest_Blocks := Tryd.func8
abbrev n_r02_Filled : Nat := 9
noncomputable abbrev f_r02_Filled : Func := Tryd.f9
abbrev as_r02_Filled : Ty := (.pair .str .unit)
abbrev rs_r02_Filled : Ty := (.pair .str .unit)
theorem at_r02_Filled : Tryd.prog.funcs[n_r02_Filled]? = some f_r02_Filled := Tryd.func9
abbrev n_strings_Builder_Grow : Nat := 10
noncomputable abbrev f_strings_Builder_Grow : Func := Tryd.f10
abbrev rs_strings_Builder_Grow : Ty := .unit
theorem at_strings_Builder_Grow : Tryd.prog.funcs[n_strings_Builder_Grow]? = some f_strings_Builder_Grow := Tryd.func10
abbrev n_strings_Builder_WriteString : Nat := 11
noncomputable abbrev f_strings_Builder_WriteString : Func := Tryd.f11
theorem at_strings_Builder_WriteString : Tryd.prog.funcs[n_strings_Builder_WriteString]? = some f_strings_Builder_WriteString := Tryd.func11
abbrev n_strings_Builder_String : Nat := 12
noncomputable abbrev f_strings_Builder_String : Func := Tryd.f12
abbrev rs_strings_Builder_String : Ty := (.pair .str .unit)
theorem at_strings_Builder_String : Tryd.prog.funcs[n_strings_Builder_String]? = some f_strings_Builder_String := Tryd.func12
abbrev n_digest_begins : Nat := 13
noncomputable abbrev f_digest_begins : Func := Tryd.f13
abbrev as_digest_begins : Ty := .unit
abbrev rs_digest_begins : Ty := (.pair tDigestWords .unit)
theorem at_digest_begins : Tryd.prog.funcs[n_digest_begins]? = some f_digest_begins := Tryd.func13
abbrev n_digest_blocks : Nat := 14
noncomputable abbrev f_digest_blocks : Func := Tryd.f14
abbrev as_digest_blocks : Ty := (.pair .str .unit)
abbrev rs_digest_blocks : Ty := (.pair (.fn (.pair (.fn (.pair .str .unit) (.pair .bool .unit)) .unit) .unit) .unit)
theorem at_digest_blocks : Tryd.prog.funcs[n_digest_blocks]? = some f_digest_blocks := Tryd.func14
abbrev n_digest_words_over : Nat := 15
noncomputable abbrev f_digest_words_over : Func := Tryd.f15
abbrev as_digest_words_over : Ty := (.pair tDigestWords (.pair .str .unit))
abbrev rs_digest_words_over : Ty := (.pair tDigestWords .unit)
theorem at_digest_words_over : Tryd.prog.funcs[n_digest_words_over]? = some f_digest_words_over := Tryd.func15
abbrev n_strings_Builder_copyCheck : Nat := 16
noncomputable abbrev f_strings_Builder_copyCheck : Func := Tryd.f16
abbrev rs_strings_Builder_copyCheck : Ty := .unit
theorem at_strings_Builder_copyCheck : Tryd.prog.funcs[n_strings_Builder_copyCheck]? = some f_strings_Builder_copyCheck := Tryd.func16
abbrev n_strings_Builder_grow : Nat := 17
noncomputable abbrev f_strings_Builder_grow : Func := Tryd.f17
abbrev rs_strings_Builder_grow : Ty := .unit
theorem at_strings_Builder_grow : Tryd.prog.funcs[n_strings_Builder_grow]? = some f_strings_Builder_grow := Tryd.func17
abbrev n_strings_Repeat : Nat := 18
noncomputable abbrev f_strings_Repeat : Func := Tryd.f18
abbrev as_strings_Repeat : Ty := (.pair .str (.pair (.int .i64) .unit))
abbrev rs_strings_Repeat : Ty := (.pair .str .unit)
theorem at_strings_Repeat : Tryd.prog.funcs[n_strings_Repeat]? = some f_strings_Repeat := Tryd.func18
abbrev n_digest_blocks_1 : Nat := 19
noncomputable abbrev f_digest_blocks_1 : Func := Tryd.f19
abbrev as_digest_blocks_1 : Ty := (.pair (.fn (.pair .str .unit) (.pair .bool .unit)) (.pair (.ref .str) .unit))
abbrev rs_digest_blocks_1 : Ty := .unit
theorem at_digest_blocks_1 : Tryd.prog.funcs[n_digest_blocks_1]? = some f_digest_blocks_1 := Tryd.func19
abbrev n_digest_number : Nat := 20
noncomputable abbrev f_digest_number : Func := Tryd.f20
abbrev as_digest_number : Ty := (.pair .str .unit)
abbrev rs_digest_number : Ty := (.pair (.int .u32) .unit)
theorem at_digest_number : Tryd.prog.funcs[n_digest_number]? = some f_digest_number := Tryd.func20
abbrev n_digest_two : Nat := 21
noncomputable abbrev f_digest_two : Func := Tryd.f21
abbrev as_digest_two : Ty := (.pair (.int .u32) (.pair (.int .i64) (.pair (.int .i64) (.pair (.int .u32) .unit))))
abbrev rs_digest_two : Ty := (.pair (.int .u32) .unit)
theorem at_digest_two : Tryd.prog.funcs[n_digest_two]? = some f_digest_two := Tryd.func21
abbrev n_bits_RotateLeft32 : Nat := 22
noncomputable abbrev f_bits_RotateLeft32 : Func := Tryd.f22
abbrev as_bits_RotateLeft32 : Ty := (.pair (.int .u32) (.pair (.int .i64) .unit))
abbrev rs_bits_RotateLeft32 : Ty := (.pair (.int .u32) .unit)
theorem at_bits_RotateLeft32 : Tryd.prog.funcs[n_bits_RotateLeft32]? = some f_bits_RotateLeft32 := Tryd.func22
abbrev n_abi_NoEscape : Nat := 23
noncomputable abbrev f_abi_NoEscape : Func := Tryd.f23
theorem at_abi_NoEscape : Tryd.prog.funcs[n_abi_NoEscape]? = some f_abi_NoEscape := Tryd.func23
abbrev n_bytealg_MakeNoZero : Nat := 24
noncomputable abbrev f_bytealg_MakeNoZero : Func := Tryd.f24
abbrev as_bytealg_MakeNoZero : Ty := (.pair (.int .i64) .unit)
abbrev rs_bytealg_MakeNoZero : Ty := (.pair (.slc (.int .u8)) .unit)
theorem at_bytealg_MakeNoZero : Tryd.prog.funcs[n_bytealg_MakeNoZero]? = some f_bytealg_MakeNoZero := Tryd.func24
abbrev n_bits_Mul : Nat := 25
noncomputable abbrev f_bits_Mul : Func := Tryd.f25
abbrev as_bits_Mul : Ty := (.pair (.int .u64) (.pair (.int .u64) .unit))
abbrev rs_bits_Mul : Ty := (.pair (.int .u64) (.pair (.int .u64) .unit))
theorem at_bits_Mul : Tryd.prog.funcs[n_bits_Mul]? = some f_bits_Mul := Tryd.func25
abbrev n_strings_HasPrefix : Nat := 26
noncomputable abbrev f_strings_HasPrefix : Func := Tryd.f26
abbrev as_strings_HasPrefix : Ty := (.pair .str (.pair .str .unit))
abbrev rs_strings_HasPrefix : Ty := (.pair .bool .unit)
theorem at_strings_HasPrefix : Tryd.prog.funcs[n_strings_HasPrefix]? = some f_strings_HasPrefix := Tryd.func26
abbrev n_strings_Builder_Len : Nat := 27
noncomputable abbrev f_strings_Builder_Len : Func := Tryd.f27
abbrev rs_strings_Builder_Len : Ty := (.pair (.int .i64) .unit)
theorem at_strings_Builder_Len : Tryd.prog.funcs[n_strings_Builder_Len]? = some f_strings_Builder_Len := Tryd.func27
abbrev n_bits_Mul32 : Nat := 28
noncomputable abbrev f_bits_Mul32 : Func := Tryd.f28
abbrev as_bits_Mul32 : Ty := (.pair (.int .u32) (.pair (.int .u32) .unit))
abbrev rs_bits_Mul32 : Ty := (.pair (.int .u32) (.pair (.int .u32) .unit))
theorem at_bits_Mul32 : Tryd.prog.funcs[n_bits_Mul32]? = some f_bits_Mul32 := Tryd.func28
abbrev n_bits_Mul64 : Nat := 29
noncomputable abbrev f_bits_Mul64 : Func := Tryd.f29
abbrev as_bits_Mul64 : Ty := (.pair (.int .u64) (.pair (.int .u64) .unit))
abbrev rs_bits_Mul64 : Ty := (.pair (.int .u64) (.pair (.int .u64) .unit))
theorem at_bits_Mul64 : Tryd.prog.funcs[n_bits_Mul64]? = some f_bits_Mul64 := Tryd.func29
abbrev n_stringslite_HasPrefix : Nat := 30
noncomputable abbrev f_stringslite_HasPrefix : Func := Tryd.f30
abbrev as_stringslite_HasPrefix : Ty := (.pair .str (.pair .str .unit))
abbrev rs_stringslite_HasPrefix : Ty := (.pair .bool .unit)
theorem at_stringslite_HasPrefix : Tryd.prog.funcs[n_stringslite_HasPrefix]? = some f_stringslite_HasPrefix := Tryd.func30
abbrev n_abi_Type_Align : Nat := 43
noncomputable abbrev f_abi_Type_Align : Func := Tryd.f43
abbrev rs_abi_Type_Align : Ty := (.pair (.int .i64) .unit)
theorem at_abi_Type_Align : Tryd.prog.funcs[n_abi_Type_Align]? = some f_abi_Type_Align := Tryd.func43
abbrev n_maps_unhashableTypeError_Error : Nat := 44
noncomputable abbrev f_maps_unhashableTypeError_Error : Func := Tryd.f44
abbrev rs_maps_unhashableTypeError_Error : Ty := (.pair .str .unit)
theorem at_maps_unhashableTypeError_Error : Tryd.prog.funcs[n_maps_unhashableTypeError_Error]? = some f_maps_unhashableTypeError_Error := Tryd.func44
abbrev n_maps_unhashableTypeError_RuntimeError : Nat := 45
noncomputable abbrev f_maps_unhashableTypeError_RuntimeError : Func := Tryd.f45
abbrev rs_maps_unhashableTypeError_RuntimeError : Ty := .unit
theorem at_maps_unhashableTypeError_RuntimeError : Tryd.prog.funcs[n_maps_unhashableTypeError_RuntimeError]? = some f_maps_unhashableTypeError_RuntimeError := Tryd.func45
abbrev n_strings_Builder_Reset : Nat := 46
noncomputable abbrev f_strings_Builder_Reset : Func := Tryd.f46
abbrev rs_strings_Builder_Reset : Ty := .unit
theorem at_strings_Builder_Reset : Tryd.prog.funcs[n_strings_Builder_Reset]? = some f_strings_Builder_Reset := Tryd.func46
abbrev n_abi_Kind_String : Nat := 47
noncomputable abbrev f_abi_Kind_String : Func := Tryd.f47
abbrev as_abi_Kind_String : Ty := (.pair (.int .u8) .unit)
abbrev rs_abi_Kind_String : Ty := (.pair .str .unit)
theorem at_abi_Kind_String : Tryd.prog.funcs[n_abi_Kind_String]? = some f_abi_Kind_String := Tryd.func47
abbrev n_digest_keys_is_laid_by_its_own_initialiser__plain_data_look_11 : Nat := 49
noncomputable abbrev f_digest_keys_is_laid_by_its_own_initialiser__plain_data_look_11 : Func := Tryd.f49
abbrev as_digest_keys_is_laid_by_its_own_initialiser__plain_data_look_11 : Ty := .unit
abbrev rs_digest_keys_is_laid_by_its_own_initialiser__plain_data_look_11 : Ty := .unit
theorem at_digest_keys_is_laid_by_its_own_initialiser__plain_data_look_11 : Tryd.prog.funcs[n_digest_keys_is_laid_by_its_own_initialiser__plain_data_look_11]? = some f_digest_keys_is_laid_by_its_own_initialiser__plain_data_look_11 := Tryd.func49

end
end Go.Proofs.YtainieginijaaaaDoor

/- The trees of functions' bodies, as the evaluator prints them. -/
namespace Go.Proofs.YtainieginijaaaaDoor
open Go Go.RowKit

noncomputable abbrev fx_bits_RotateLeft32 : Fx := { fn := f_bits_RotateLeft32, ann := { } }
noncomputable abbrev X_bits_RotateLeft32 : TabX := { D := { T := tyTab, F := [], R := [], ovl := [] }, inl := [] }
noncomputable abbrev M_bits_RotateLeft32 : RMode := .data rs_bits_RotateLeft32
theorem x_bits_RotateLeft32 : XOk prog X_bits_RotateLeft32 := xok ((dok_nil tab_ok mixed_ok)) (by kernel_rfl) rows_nil inl_nil ovl_nil
noncomputable def T_bits_RotateLeft32 (x : den (Ty.int IntKind.u32)) (k : den tInt) : TreeS :=
  TreeS.req
  (ge0
    (IntKind.wrap IntKind.u64
      (↑(BitVec.toNat
            (BitVec.ofInt (IntKind.bits IntKind.u64) (IntKind.wrap IntKind.u64 k) &&&
              BitVec.ofInt (IntKind.bits IntKind.u64) 31)) :
        Int)))
  (TreeS.req
    (ge0
      (IntKind.wrap IntKind.u64
        (32 -
          IntKind.wrap IntKind.u64
            (↑(BitVec.toNat
                  (BitVec.ofInt (IntKind.bits IntKind.u64) (IntKind.wrap IntKind.u64 k) &&&
                    BitVec.ofInt (IntKind.bits IntKind.u64) 31)) :
              Int))))
    (TreeS.ret
      (K.val (Ty.pair (Ty.int IntKind.u32) Ty.unit)
        (IntKind.wrap IntKind.u32
            (↑(BitVec.toNat
                  (BitVec.ofInt (IntKind.bits IntKind.u32)
                      (IntKind.wrap IntKind.u32
                        (x *
                          2 ^
                            min
                              (Int.toNat
                                (IntKind.wrap IntKind.u64
                                  (↑(BitVec.toNat
                                        (BitVec.ofInt (IntKind.bits IntKind.u64) (IntKind.wrap IntKind.u64 k) &&&
                                          BitVec.ofInt (IntKind.bits IntKind.u64) 31)) :
                                    Int)))
                              (IntKind.bits IntKind.u32))) |||
                    BitVec.ofInt (IntKind.bits IntKind.u32)
                      (Int.fdiv x
                        (2 ^
                          min
                            (Int.toNat
                              (IntKind.wrap IntKind.u64
                                (32 -
                                  IntKind.wrap IntKind.u64
                                    (↑(BitVec.toNat
                                          (BitVec.ofInt (IntKind.bits IntKind.u64) (IntKind.wrap IntKind.u64 k) &&&
                                            BitVec.ofInt (IntKind.bits IntKind.u64) 31)) :
                                      Int))))
                            (IntKind.bits IntKind.u32))))) :
              Int),
          PUnit.unit))))
theorem T_bits_RotateLeft32_eq (x : den (Ty.int IntKind.u32)) (k : den tInt) : treeS X_bits_RotateLeft32 M_bits_RotateLeft32 5000 [] fx_bits_RotateLeft32 (bodyOf f_bits_RotateLeft32) (Env.of
  (argEnv as_bits_RotateLeft32 (x, k, ()) 0) []) = T_bits_RotateLeft32 x k := by kernel_rfl

noncomputable abbrev fx_digest_begins : Fx := { fn := f_digest_begins, ann := { } }
noncomputable abbrev X_digest_begins : TabX := { D := { T := tyTab, F := [], R := [], ovl := [] }, inl := [] }
noncomputable abbrev M_digest_begins : RMode := .data rs_digest_begins
theorem x_digest_begins : XOk prog X_digest_begins := xok ((dok_nil tab_ok mixed_ok)) (by kernel_rfl) rows_nil inl_nil ovl_nil
noncomputable def T_digest_begins : TreeS :=
  TreeS.ret
  (K.val (Ty.pair tDigestWords Ty.unit)
    (List.set
        (List.set
          (List.set
            (List.set
              (List.set
                (List.set (List.set (List.set (List.replicate 8 (zero (Ty.int IntKind.u32))) 0 1779033703) 1 3144134277)
                  2 1013904242)
                3 2773480762)
              4 1359893119)
            5 2600822924)
          6 528734635)
        7 1541459225,
      PUnit.unit))
theorem T_digest_begins_eq : treeS X_digest_begins M_digest_begins 5000 [] fx_digest_begins (bodyOf f_digest_begins) (Env.of
  (argEnv as_digest_begins () 0) []) = T_digest_begins := by kernel_rfl

noncomputable abbrev fx_digest_Blocks : Fx := { fn := f_digest_Blocks, ann := { } }
noncomputable abbrev X_digest_Blocks : TabX := { D := { T := tyTab, F := [], R := [], ovl := [] }, inl := [] }
noncomputable abbrev M_digest_Blocks : RMode := .data rs_digest_Blocks
theorem x_digest_Blocks : XOk prog X_digest_Blocks := xok ((dok_nil tab_ok mixed_ok)) (by kernel_rfl) rows_nil inl_nil ovl_nil
noncomputable def T_digest_Blocks (n : den tInt) : TreeS :=
  TreeS.ite (bif decide (n < 0) then true else decide (1099511627776 < n))
  (TreeS.ret (K.val (Ty.pair tInt (Ty.pair tInt Ty.unit)) (0, 1, PUnit.unit)))
  (TreeS.req (nz 64)
    (TreeS.ret
      (K.val (Ty.pair tInt (Ty.pair tInt Ty.unit))
        (IntKind.wrap IntKind.i64 (IntKind.wrap IntKind.i64 (Int.tdiv (IntKind.wrap IntKind.i64 (n + 8)) 64) + 1), 0,
          PUnit.unit))))
theorem T_digest_Blocks_eq (n : den tInt) : treeS X_digest_Blocks M_digest_Blocks 5000 [] fx_digest_Blocks (bodyOf f_digest_Blocks) (Env.of
  (argEnv as_digest_Blocks (n, ()) 0) []) = T_digest_Blocks n := by kernel_rfl

end Go.Proofs.YtainieginijaaaaDoor

/- Words turned; the words to begin with; how many blocks. -/
namespace Go.Proofs.YtainieginijaaaaDoor
open Go Go.RowKit

theorem range_ind {σ : Type} (n : Nat) (Inv : Nat → σ → Prop) (Q : Nat → σ → Prop) (step : ∀ i s, i < n → Inv i s → (∀ s', Inv (i + 1) s' → Q (i + 1) s') → Q i s) (last : ∀ s, Inv n s → Q n s) : ∀ (i : Nat) (s : σ), i ≤ n → Inv i s → Q i s := by
  intro i s hi
  obtain ⟨k, hk⟩ : ∃ k, k + i = n := ⟨n - i, by omega⟩
  induction k generalizing i s with
  | zero =>
    have e : i = n := by omega
    subst e
    exact last s
  | succ k ih =>
    intro hI
    exact step i s (by omega) hI fun s' h' => ih (i + 1) s' (by omega) (by omega) h'

theorem lnx_nat {e : Ty} (t : List (den e)) {i : Nat} : (decide ((i : Int) < lnx e t)) = decide (i < t.length) := by
  rw [Bool.eq_iff_iff, decide_eq_true_eq, decide_eq_true_eq]
  exact ⟨fun h => by have h : (i : Int) < (t.length : Int) := h; omega, fun h => by show (i : Int) < (t.length : Int); omega⟩

theorem small_i64 {n : Int} (h : -1000000000000000 ≤ n ∧ n ≤ 1000000000000000) : IntKind.wrap .i64 n = n := wr_i64 (by omega) (by omega)

theorem fnOk_up {Gl : Globs} {f : FuncId} {S : Spec} (h : FnOk prog [] f S) : FnOk prog Gl f S := ⟨h.can, h.all, fun O w vs x hO _ hx hp => h.does O w vs x hO (fun _ _ _ h => by cases h) hx hp⟩

/-- What the variable that holds the round's words reads as. -/
def wordsOf : DataW Unit → List Int
  | .agg l => l.map fun | .lit (.int _ n) => n | _ => 0
  | _ => []
def keysL : List Int := wordsOf Rows.laid_posthouse_digest_keys
noncomputable abbrev gl : Globs := [(0, ⟨.arr 64 (.int .u32), keysL⟩)]

def turnBy (k : Int) : Int := IntKind.wrap .u64 ((BitVec.toNat (BitVec.ofInt (IntKind.bits .u64) (IntKind.wrap .u64 k) &&& BitVec.ofInt (IntKind.bits .u64) 31) : Nat) : Int)
def g_rotl (x k : Int) : Int :=
  IntKind.wrap .u32 ((BitVec.toNat (BitVec.ofInt (IntKind.bits .u32) (IntKind.wrap .u32 (x * 2 ^ min (Int.toNat (turnBy k)) (IntKind.bits .u32))) |||
    BitVec.ofInt (IntKind.bits .u32) (Int.fdiv x (2 ^ min (Int.toNat (IntKind.wrap .u64 (32 - turnBy k))) (IntKind.bits .u32)))) : Nat) : Int)

theorem wrap_u64 (n : Int) : 0 ≤ IntKind.wrap .u64 n := by
  have : IntKind.wrap .u64 n = n % 18446744073709551616 := rfl
  rw [this]
  exact Int.emod_nonneg _ (by decide)

noncomputable abbrev S_bits_RotateLeft32 : Spec := ⟨as_bits_RotateLeft32, rs_bits_RotateLeft32, fun x => (g_rotl x.1 x.2.1, ()), fun _ => True, true⟩
theorem k_bits_RotateLeft32 : FnOk prog [] n_bits_RotateLeft32 S_bits_RotateLeft32 :=
  fnS_T (S := S_bits_RotateLeft32) x_bits_RotateLeft32 (fx := fx_bits_RotateLeft32) at_bits_RotateLeft32 (by kernel_rfl) (fun _ _ => trivial) (T := fun x => T_bits_RotateLeft32 x.1 x.2.1) (fun x => T_bits_RotateLeft32_eq x.1 x.2.1) fun O w0 x _ _ =>
    ⟨wrap_u64 _, wrap_u64 _, _, rfl, rfl⟩

def g_begins : List Int := [1779033703, 3144134277, 1013904242, 2773480762, 1359893119, 2600822924, 528734635, 1541459225]
noncomputable abbrev S_digest_begins : Spec := ⟨as_digest_begins, rs_digest_begins, fun _ => (g_begins, ()), fun _ => True, true⟩
theorem k_digest_begins : FnOk prog [] n_digest_begins S_digest_begins :=
  fnS_T (S := S_digest_begins) x_digest_begins (fx := fx_digest_begins) at_digest_begins (by kernel_rfl) (fun _ _ => trivial) (T := fun _ => T_digest_begins) (fun _ => T_digest_begins_eq) fun O w0 x _ _ => ⟨_, rfl, rfl⟩

def g_Blocks (n : Int) : Int × Int × Unit := if n < 0 ∨ 1099511627776 < n then (0, 1, ()) else ((n + 8) / 64 + 1, 0, ())
noncomputable abbrev S_digest_Blocks : Spec := ⟨as_digest_Blocks, rs_digest_Blocks, fun x => g_Blocks x.1, fun _ => True, true⟩
theorem k_digest_Blocks : FnOk prog [] n_digest_Blocks S_digest_Blocks :=
  fnS_T (S := S_digest_Blocks) x_digest_Blocks (fx := fx_digest_Blocks) at_digest_Blocks (by kernel_rfl) (fun _ _ => trivial) (T := fun x => T_digest_Blocks x.1) (fun x => T_digest_Blocks_eq x.1) fun O w0 x _ _ => by
    obtain ⟨n, ⟨⟩⟩ := x
    have n' : Int := n
    refine ⟨fun h => ⟨_, rfl, ?_⟩, fun h => ⟨show (64 : Int) ≠ 0 by decide, _, rfl, ?_⟩⟩
    · show ((0 : Int), (1 : Int), ()) = g_Blocks n
      unfold g_Blocks
      rw [if_pos ?_]
      have h : (bif decide ((n : Int) < 0) then true else decide ((1099511627776 : Int) < n)) = true := h
      by_cases h1 : (n : Int) < 0
      · exact .inl h1
      · rw [decide_eq_false h1] at h
        exact .inr (of_decide_eq_true h)
    · have h : (bif decide ((n : Int) < 0) then true else decide ((1099511627776 : Int) < n)) = false := h
      have h1 : ¬ (n : Int) < 0 := fun h1 => by rw [decide_eq_true h1] at h; cases h
      rw [decide_eq_false h1] at h
      have h2 : ¬ (1099511627776 : Int) < n := of_decide_eq_false h
      show (IntKind.wrap .i64 (IntKind.wrap .i64 (Int.tdiv (IntKind.wrap .i64 ((n : Int) + 8)) 64) + 1), (0 : Int), ()) = g_Blocks n
      unfold g_Blocks
      rw [if_neg (fun h => h.elim h1 h2)]
      have key : ∀ m : Int, ¬ m < 0 → ¬ 1099511627776 < m → IntKind.wrap .i64 (IntKind.wrap .i64 (Int.tdiv (IntKind.wrap .i64 (m + 8)) 64) + 1) = (m + 8) / 64 + 1 := by
        intro m h1 h2
        rw [small_i64 (n := m + 8) (by omega), Int.tdiv_eq_ediv_of_nonneg (by omega), small_i64 (n := (m + 8) / 64) (by omega), small_i64 (by omega)]
      rw [key n h1 h2]

end Go.Proofs.YtainieginijaaaaDoor

/- The trees of functions' bodies, as the evaluator prints them. -/
namespace Go.Proofs.YtainieginijaaaaDoor
open Go Go.RowKit

noncomputable abbrev fx_digest_two : Fx := { fn := f_digest_two, ann := { } }
noncomputable abbrev X_digest_two : TabX := { D := { T := tyTab, F := [(n_bits_RotateLeft32, S_bits_RotateLeft32)], R := [], ovl := [] }, inl := [] }
noncomputable abbrev M_digest_two : RMode := .data rs_digest_two
theorem x_digest_two (h_bits_RotateLeft32 : FnOk prog [] n_bits_RotateLeft32 S_bits_RotateLeft32) : XOk prog X_digest_two := xok (dok_add (dok_nil tab_ok mixed_ok) h_bits_RotateLeft32) (by kernel_rfl) rows_nil inl_nil ovl_nil
noncomputable def T_digest_two (x : den (Ty.int IntKind.u32)) (a : den tInt) (b : den tInt) (c : den (Ty.int IntKind.u32)) : TreeS :=
  TreeS.req True
  (TreeS.req True
    (TreeS.ret
      (K.val (Ty.pair (Ty.int IntKind.u32) Ty.unit)
        (IntKind.wrap IntKind.u32
            (↑(BitVec.toNat
                  (BitVec.ofInt (IntKind.bits IntKind.u32)
                      (IntKind.wrap IntKind.u32
                        (↑(BitVec.toNat
                              (BitVec.ofInt (IntKind.bits IntKind.u32)
                                  (g_rotl x (IntKind.wrap IntKind.i64 (neg0 a))) ^^^
                                BitVec.ofInt (IntKind.bits IntKind.u32)
                                  (g_rotl x (IntKind.wrap IntKind.i64 (neg0 b))))) :
                          Int)) ^^^
                    BitVec.ofInt (IntKind.bits IntKind.u32) c)) :
              Int),
          PUnit.unit))))
theorem T_digest_two_eq (x : den (Ty.int IntKind.u32)) (a : den tInt) (b : den tInt) (c : den (Ty.int IntKind.u32)) : treeS X_digest_two M_digest_two 5000 [] fx_digest_two (bodyOf f_digest_two) (Env.of
  (argEnv as_digest_two (x, a, b, c, ()) 0) []) = T_digest_two x a b c := by kernel_rfl

noncomputable abbrev fx_digest_number : Fx := { fn := f_digest_number, ann := { loops := [(3, { keep := [0, 3, 6, 7] })] } }
noncomputable abbrev X_digest_number : TabX := { D := { T := tyTab, F := [], R := [], ovl := [] }, inl := [] }
noncomputable abbrev M_digest_number : RMode := .data rs_digest_number
theorem x_digest_number : XOk prog X_digest_number := xok ((dok_nil tab_ok mixed_ok)) (by kernel_rfl) rows_nil inl_nil ovl_nil
noncomputable def T_digest_number (s : den Ty.str) : TreeS :=
  TreeS.loop [] fx_digest_number (lp f_digest_number 3)
  [(0, K.val Ty.str s), (3, K.val (Ty.int IntKind.u32) 0), (6, K.val tInt (sLen s)), (7, K.val tInt 0)] []
theorem T_digest_number_eq (s : den Ty.str) : treeS X_digest_number M_digest_number 5000 [] fx_digest_number (bodyOf f_digest_number) (Env.of
  (argEnv as_digest_number (s, ()) 0) []) = T_digest_number s := by kernel_rfl

noncomputable def E_digest_number_3 (v0 : den Ty.str) (v3 : den (Ty.int IntKind.u32)) (v6 : den tInt) (v7 : den tInt) : Env := Env.of
  [(0, K.val Ty.str v0), (3, K.val (Ty.int IntKind.u32) v3), (6, K.val tInt v6), (7, K.val tInt v7)] []
noncomputable def TL_digest_number_3 (v0 : den Ty.str) (v3 : den (Ty.int IntKind.u32)) (v6 : den tInt) (v7 : den tInt) : TreeS :=
  TreeS.ite (decide (v7 < v6))
  (TreeS.req (ge0 8)
    (TreeS.req (inB v7 (sLen v0))
      (TreeS.loop [] fx_digest_number (lp f_digest_number 3)
        [(0, K.val Ty.str v0),
          (3,
            K.val (Ty.int IntKind.u32)
              (IntKind.wrap IntKind.u32
                (↑(BitVec.toNat
                      (BitVec.ofInt (IntKind.bits IntKind.u32)
                          (IntKind.wrap IntKind.u32 (v3 * 2 ^ min (Int.toNat 8) (IntKind.bits IntKind.u32))) |||
                        BitVec.ofInt (IntKind.bits IntKind.u32) (IntKind.wrap IntKind.u32 (sAt v0 v7)))) :
                  Int))),
          (6, K.val tInt v6), (7, K.val tInt (IntKind.wrap IntKind.i64 (v7 + 1)))]
        [])))
  (TreeS.ret (K.val (Ty.pair (Ty.int IntKind.u32) Ty.unit) (v3, PUnit.unit)))
theorem TL_digest_number_3_eq (v0 : den Ty.str) (v3 : den (Ty.int IntKind.u32)) (v6 : den tInt) (v7 : den tInt) : treeS X_digest_number M_digest_number 5000 [] fx_digest_number (lp f_digest_number 3) (E_digest_number_3 v0 v3 v6 v7) = TL_digest_number_3 v0 v3 v6 v7 := by kernel_rfl

end Go.Proofs.YtainieginijaaaaDoor

/- Words mixed; bytes as a word. -/
namespace Go.Proofs.YtainieginijaaaaDoor
open Go Go.RowKit

def lxor (a b : Int) : Int := IntKind.wrap .u32 ((BitVec.toNat (BitVec.ofInt (IntKind.bits .u32) a ^^^ BitVec.ofInt (IntKind.bits .u32) b) : Nat) : Int)
def land (a b : Int) : Int := IntKind.wrap .u32 ((BitVec.toNat (BitVec.ofInt (IntKind.bits .u32) a &&& BitVec.ofInt (IntKind.bits .u32) b) : Nat) : Int)
def lor (a b : Int) : Int := IntKind.wrap .u32 ((BitVec.toNat (BitVec.ofInt (IntKind.bits .u32) a ||| BitVec.ofInt (IntKind.bits .u32) b) : Nat) : Int)
def ladd (a b : Int) : Int := IntKind.wrap .u32 (a + b)

def g_two (x a b c : Int) : Int := lxor (lxor (g_rotl x (IntKind.wrap .i64 (neg0 a))) (g_rotl x (IntKind.wrap .i64 (neg0 b)))) c
noncomputable abbrev S_digest_two : Spec := ⟨as_digest_two, rs_digest_two, fun x => (g_two x.1 x.2.1 x.2.2.1 x.2.2.2.1, ()), fun _ => True, true⟩
theorem k_digest_two : FnOk prog [] n_digest_two S_digest_two :=
  fnS_T (S := S_digest_two) (x_digest_two k_bits_RotateLeft32) (fx := fx_digest_two) at_digest_two (by kernel_rfl) (fun _ _ => trivial) (T := fun x => T_digest_two x.1 x.2.1 x.2.2.1 x.2.2.2.1) (fun x => T_digest_two_eq x.1 x.2.1 x.2.2.1 x.2.2.2.1) fun O w0 x _ _ =>
    ⟨trivial, trivial, _, rfl, rfl⟩

def numStep (n b : Int) : Int := lor (IntKind.wrap .u32 (n * 2 ^ min (Int.toNat 8) (IntKind.bits .u32))) (IntKind.wrap .u32 b)
def g_number (s : ByteArray) : Int := (bytesL s).foldl numStep 0
noncomputable abbrev S_digest_number : Spec := ⟨as_digest_number, rs_digest_number, fun x => (g_number x.1, ()), fun x => ByteArray.size x.1 ≤ 1000000, false⟩

theorem bytes_len (s : ByteArray) : (bytesL s).length = s.size := by
  unfold bytesL
  rw [List.length_map, Array.length_toList]
  rfl
theorem bytes_at (s : ByteArray) {i : Nat} (hi : i < s.size) : (bytesL s)[i]'(by rw [bytes_len]; exact hi) = sAt s (i : Nat) := by
  have hd : i < s.data.size := hi
  unfold bytesL sAt
  rw [List.getElem_map, Int.toNat_natCast, Array.getElem?_eq_getElem hd]
  rfl
theorem sLen_nat (s : ByteArray) {i : Nat} : decide ((i : Int) < sLen s) = decide (i < s.size) := by
  rw [Bool.eq_iff_iff, decide_eq_true_eq, decide_eq_true_eq]
  exact ⟨fun h => by have h : (i : Int) < (s.size : Int) := h; omega, fun h => by show (i : Int) < (s.size : Int); omega⟩

def gl_digest_number (O : Nat → Prop) (w0 : World) (s : ByteArray) (hs : s.size ≤ 1000000) :=
  PLift.up <| range_ind (σ := Int) s.size (fun i n => n = ((bytesL s).take i).foldl numStep 0)
    (fun i n => GoodS prog X_digest_number (Cx.base O w0) (Ends prog O w0 rs_digest_number fun y => y = (g_number s, ())) [] fx_digest_number (lp f_digest_number 3) (E_digest_number_3 s n (sLen s) (i : Nat)))
    (fun i n hi hn ih => goodS_of x_digest_number (TL_digest_number_3_eq s n _ _) (by
      refine ⟨fun _ => ⟨show (0 : Int) ≤ 8 by decide, ⟨Int.natCast_nonneg _, Int.ofNat_lt.2 hi⟩, ?_⟩, fun h => ?_⟩
      · rw [wr_idx hi (by omega)]
        refine ih (numStep n (sAt s (i : Nat))) ?_
        have hi' : i < (bytesL s).length := by rw [bytes_len]; exact hi
        rw [List.take_succ_eq_append_getElem hi', List.foldl_append, ← hn, bytes_at s hi]
        rfl
      · rw [sLen_nat] at h
        exact absurd hi (of_decide_eq_false h)))
    (fun n hn => goodS_of x_digest_number (TL_digest_number_3_eq s n _ _) (by
      refine ⟨fun h => ?_, fun _ => ⟨_, rfl, ?_⟩⟩
      · rw [sLen_nat] at h
        exact absurd (of_decide_eq_true h) (Nat.lt_irrefl _)
      · have hn : n = ((bytesL s).take s.size).foldl numStep 0 := hn
        rw [List.take_of_length_le (by rw [bytes_len]; exact Nat.le_refl _)] at hn
        rw [hn]; rfl))
theorem k_digest_number : FnOk prog [] n_digest_number S_digest_number :=
  fnS_T (S := S_digest_number) x_digest_number (fx := fx_digest_number) at_digest_number (by kernel_rfl) (fun h => by cases h) (T := fun x => T_digest_number x.1) (fun x => T_digest_number_eq x.1) fun O w0 x _ hp =>
    (gl_digest_number O w0 x.1 hp).down 0 0 (Nat.zero_le _) rfl

end Go.Proofs.YtainieginijaaaaDoor

/- The trees of functions' bodies, as the evaluator prints them. -/
namespace Go.Proofs.YtainieginijaaaaDoor
open Go Go.RowKit

noncomputable abbrev fx_digest_words_over : Fx := { fn := f_digest_words_over, ann := { loops := [(4, { keep := [1, 2, 4, 5, 6, 16] }), (16, { keep := [2, 4, 6, 126] })] }, share := true, shareD := true }
noncomputable abbrev X_digest_words_over : TabX := { D := { T := tyTab, F := [(n_bits_RotateLeft32, S_bits_RotateLeft32), (n_digest_two, S_digest_two), (n_digest_number, S_digest_number)], R := [], ovl := [], G := gl }, inl := [] }
noncomputable abbrev M_digest_words_over : RMode := .data rs_digest_words_over
theorem x_digest_words_over (h_bits_RotateLeft32 : FnOk prog gl n_bits_RotateLeft32 S_bits_RotateLeft32) (h_digest_two : FnOk prog gl n_digest_two S_digest_two) (h_digest_number : FnOk prog gl n_digest_number S_digest_number) : XOk prog X_digest_words_over := xok (dok_add (dok_add (dok_add (dok_nil tab_ok mixed_ok) h_digest_number) h_digest_two) h_bits_RotateLeft32) (by kernel_rfl) rows_nil inl_nil ovl_nil
noncomputable def T_digest_words_over (h : den tDigestWords) (s : den Ty.str) : TreeS :=
  TreeS.loop [] fx_digest_words_over (lp f_digest_words_over 4)
  [(1, K.val Ty.str s), (2, K.ptr 0 tDigestWords []), (4, K.ptr (0 + 1) tDigestWords []),
    (5, K.ptr (0 + 1 + 1) (Ty.arr 64 (Ty.int IntKind.u32)) []), (6, K.ptr (0 + 1 + 1 + 1) tDigestWords []),
    (16, K.val tInt 0)]
  [(0, Bx.cell tDigestWords h), (0 + 1, Bx.cell tDigestWords (zero tDigestWords)),
    (0 + 1 + 1, Bx.cell (Ty.arr 64 (Ty.int IntKind.u32)) (zero (Ty.arr 64 (Ty.int IntKind.u32)))),
    (0 + 1 + 1 + 1, Bx.cell tDigestWords h)]
theorem T_digest_words_over_eq (h : den tDigestWords) (s : den Ty.str) : treeS X_digest_words_over M_digest_words_over 5000 [] fx_digest_words_over (bodyOf f_digest_words_over) (Env.of
  (argEnv as_digest_words_over (h, s, ()) 0) []) = T_digest_words_over h s := by kernel_rfl

noncomputable def E_digest_words_over_4 (v1 : den Ty.str) (v16 : den tInt) (b0 : den tDigestWords) (b1 : den tDigestWords) (b2 : den (Ty.arr 64 (Ty.int IntKind.u32))) (b3 : den tDigestWords) : Env := Env.of
  [(1, K.val Ty.str v1), (2, K.ptr 0 tDigestWords []), (4, K.ptr (0 + 1) tDigestWords []),
    (5, K.ptr (0 + 1 + 1) (Ty.arr 64 (Ty.int IntKind.u32)) []), (6, K.ptr (0 + 1 + 1 + 1) tDigestWords []),
    (16, K.val tInt v16)]
  [(0, Bx.cell tDigestWords b0), (1, Bx.cell tDigestWords b1), (2, Bx.cell (Ty.arr 64 (Ty.int IntKind.u32)) b2),
    (3, Bx.cell tDigestWords b3)]
noncomputable def TL_digest_words_over_4 (v1 : den Ty.str) (v16 : den tInt) (b0 : den tDigestWords) (b1 : den tDigestWords) (b2 : den (Ty.arr 64 (Ty.int IntKind.u32))) (b3 : den tDigestWords) : TreeS :=
  TreeS.ite (decide (v16 < 64))
  (TreeS.ite (decide (v16 < 16))
    (TreeS.req
      (cutOk (IntKind.wrap IntKind.i64 (4 * v16)) (IntKind.wrap IntKind.i64 (IntKind.wrap IntKind.i64 (4 * v16) + 4))
        (sLen v1))
      (TreeS.req
        (ByteArray.size
            (sCut v1 (IntKind.wrap IntKind.i64 (4 * v16))
              (IntKind.wrap IntKind.i64 (IntKind.wrap IntKind.i64 (4 * v16) + 4))) ≤
          1000000)
        (TreeS.all (den (Ty.int IntKind.u32))
          (fun (q6 : den (Ty.int IntKind.u32)) ↦
            q6 =
              g_number
                (sCut v1 (IntKind.wrap IntKind.i64 (4 * v16))
                  (IntKind.wrap IntKind.i64 (IntKind.wrap IntKind.i64 (4 * v16) + 4))))
          fun (q6 : den (Ty.int IntKind.u32)) ↦
          TreeS.req (inB v16 (↑64 : Int))
            (TreeS.req (inB 0 (↑8 : Int))
              (TreeS.req (inB 4 (↑8 : Int))
                (TreeS.all (den (Ty.int IntKind.u32))
                  (fun (q7 : den (Ty.int IntKind.u32)) ↦ q7 = el (Ty.int IntKind.u32) b3 0)
                  fun (q7 : den (Ty.int IntKind.u32)) ↦
                  TreeS.all (den (Ty.int IntKind.u32))
                    (fun (q8 : den (Ty.int IntKind.u32)) ↦ q8 = el (Ty.int IntKind.u32) b3 4)
                    fun (q8 : den (Ty.int IntKind.u32)) ↦
                    TreeS.req (inB 7 (↑8 : Int))
                      (TreeS.req True
                        (TreeS.req True
                          (TreeS.req (inB 6 (↑8 : Int))
                            (TreeS.req (inB 5 (↑8 : Int))
                              (TreeS.req (inB 6 (↑8 : Int))
                                (TreeS.req (inB v16 (↑64 : Int))
                                  (TreeS.req (inB v16 (↑64 : Int))
                                    (TreeS.all (den (Ty.int IntKind.u32))
                                      (fun (q9 : den (Ty.int IntKind.u32)) ↦ q9 = g_rotl q8 (-25))
                                      fun (q9 : den (Ty.int IntKind.u32)) ↦
                                      TreeS.all (den (Ty.int IntKind.u32))
                                        (fun (q10 : den (Ty.int IntKind.u32)) ↦ q10 = g_two q8 6 11 (g_rotl q8 (-25)))
                                        fun (q10 : den (Ty.int IntKind.u32)) ↦
                                        TreeS.all (den (Ty.int IntKind.u32))
                                          (fun (q11 : den (Ty.int IntKind.u32)) ↦
                                            q11 =
                                              IntKind.wrap IntKind.u32
                                                (IntKind.wrap IntKind.u32
                                                    (IntKind.wrap IntKind.u32
                                                        (IntKind.wrap IntKind.u32
                                                            (el (Ty.int IntKind.u32) b3 7 +
                                                              g_two q8 6 11 (g_rotl q8 (-25))) +
                                                          IntKind.wrap IntKind.u32
                                                            (↑(BitVec.toNat
                                                                  (BitVec.ofInt (IntKind.bits IntKind.u32)
                                                                      (el (Ty.int IntKind.u32) b3 6) ^^^
                                                                    BitVec.ofInt (IntKind.bits IntKind.u32)
                                                                      (IntKind.wrap IntKind.u32
                                                                        (↑(BitVec.toNat
                                                                              (BitVec.ofInt (IntKind.bits IntKind.u32)
                                                                                  q8 &&&
                                                                                BitVec.ofInt (IntKind.bits IntKind.u32)
                                                                                  (IntKind.wrap IntKind.u32
                                                                                    (↑(BitVec.toNat
                                                                                          (BitVec.ofInt
                                                                                              (IntKind.bits IntKind.u32)
                                                                                              (el (Ty.int IntKind.u32)
                                                                                                b3 5) ^^^
                                                                                            BitVec.ofInt
                                                                                              (IntKind.bits IntKind.u32)
                                                                                              (el (Ty.int IntKind.u32)
                                                                                                b3 6))) :
                                                                                      Int)))) :
                                                                          Int)))) :
                                                              Int)) +
                                                      el (Ty.int IntKind.u32) keysL v16) +
                                                  el (Ty.int IntKind.u32) (setAtx (Ty.int IntKind.u32) b2 v16 q6) v16))
                                          fun (q11 : den (Ty.int IntKind.u32)) ↦
                                          TreeS.req (inB 1 (↑8 : Int))
                                            (TreeS.req (inB 2 (↑8 : Int))
                                              (TreeS.req (inB 1 (↑8 : Int))
                                                (TreeS.req True
                                                  (TreeS.req True
                                                    (TreeS.req (inB 1 (↑8 : Int))
                                                      (TreeS.req (inB 2 (↑8 : Int))
                                                        (TreeS.req (inB 3 (↑8 : Int))
                                                          (TreeS.req (inB 5 (↑8 : Int))
                                                            (TreeS.req (inB 6 (↑8 : Int))
                                                              (TreeS.all (den (Ty.int IntKind.u32))
                                                                (fun (q12 : den (Ty.int IntKind.u32)) ↦
                                                                  q12 = g_rotl q7 (-22))
                                                                fun (q12 : den (Ty.int IntKind.u32)) ↦
                                                                TreeS.all (den (Ty.int IntKind.u32))
                                                                  (fun (q13 : den (Ty.int IntKind.u32)) ↦
                                                                    q13 = g_two q7 2 13 (g_rotl q7 (-22)))
                                                                  fun (q13 : den (Ty.int IntKind.u32)) ↦
                                                                  TreeS.loop [] fx_digest_words_over
                                                                    (lp f_digest_words_over 4)
                                                                    [(1, K.val Ty.str v1), (2, K.ptr 0 tDigestWords []),
                                                                      (4, K.ptr (0 + 1) tDigestWords []),
                                                                      (5,
                                                                        K.ptr (0 + 1 + 1)
                                                                          (Ty.arr 64 (Ty.int IntKind.u32)) []),
                                                                      (6, K.ptr (0 + 1 + 1 + 1) tDigestWords []),
                                                                      (16,
                                                                        K.val tInt
                                                                          (IntKind.wrap IntKind.i64 (v16 + 1)))]
                                                                    [(0, Bx.cell tDigestWords b0),
                                                                      (0 + 1, Bx.cell tDigestWords b1),
                                                                      (0 + 1 + 1,
                                                                        Bx.cell (Ty.arr 64 (Ty.int IntKind.u32))
                                                                          (setAtx (Ty.int IntKind.u32) b2 v16 q6)),
                                                                      (0 + 1 + 1 + 1,
                                                                        Bx.cell tDigestWords
                                                                          (List.set
                                                                            (List.set
                                                                              (List.set
                                                                                (List.set
                                                                                  (List.set
                                                                                    (List.set
                                                                                      (List.set
                                                                                        (List.set
                                                                                          (List.replicate 8
                                                                                            (zero (Ty.int IntKind.u32)))
                                                                                          0
                                                                                          (IntKind.wrap IntKind.u32
                                                                                            (IntKind.wrap IntKind.u32
                                                                                                (q11 +
                                                                                                  g_two q7 2 13
                                                                                                    (g_rotl q7 (-22))) +
                                                                                              IntKind.wrap IntKind.u32
                                                                                                (↑(BitVec.toNat
                                                                                                      (BitVec.ofInt
                                                                                                          (IntKind.bits
                                                                                                            IntKind.u32)
                                                                                                          (IntKind.wrap
                                                                                                            IntKind.u32
                                                                                                            (↑(BitVec.toNat
                                                                                                                  (BitVec.ofInt
                                                                                                                      (IntKind.bits
                                                                                                                        IntKind.u32)
                                                                                                                      q7 &&&
                                                                                                                    BitVec.ofInt
                                                                                                                      (IntKind.bits
                                                                                                                        IntKind.u32)
                                                                                                                      (el
                                                                                                                        (Ty.int
                                                                                                                          IntKind.u32)
                                                                                                                        b3
                                                                                                                        1))) :
                                                                                                              Int)) |||
                                                                                                        BitVec.ofInt
                                                                                                          (IntKind.bits
                                                                                                            IntKind.u32)
                                                                                                          (IntKind.wrap
                                                                                                            IntKind.u32
                                                                                                            (↑(BitVec.toNat
                                                                                                                  (BitVec.ofInt
                                                                                                                      (IntKind.bits
                                                                                                                        IntKind.u32)
                                                                                                                      (el
                                                                                                                        (Ty.int
                                                                                                                          IntKind.u32)
                                                                                                                        b3
                                                                                                                        2) &&&
                                                                                                                    BitVec.ofInt
                                                                                                                      (IntKind.bits
                                                                                                                        IntKind.u32)
                                                                                                                      (IntKind.wrap
                                                                                                                        IntKind.u32
                                                                                                                        (↑(BitVec.toNat
                                                                                                                              (BitVec.ofInt
                                                                                                                                  (IntKind.bits
                                                                                                                                    IntKind.u32)
                                                                                                                                  q7 |||
                                                                                                                                BitVec.ofInt
                                                                                                                                  (IntKind.bits
                                                                                                                                    IntKind.u32)
                                                                                                                                  (el
                                                                                                                                    (Ty.int
                                                                                                                                      IntKind.u32)
                                                                                                                                    b3
                                                                                                                                    1))) :
                                                                                                                          Int)))) :
                                                                                                              Int)))) :
                                                                                                  Int))))
                                                                                        1 q7)
                                                                                      2 (el (Ty.int IntKind.u32) b3 1))
                                                                                    3 (el (Ty.int IntKind.u32) b3 2))
                                                                                  4
                                                                                  (IntKind.wrap IntKind.u32
                                                                                    (el (Ty.int IntKind.u32) b3 3 +
                                                                                      q11)))
                                                                                5 q8)
                                                                              6 (el (Ty.int IntKind.u32) b3 5))
                                                                            7
                                                                            (el (Ty.int IntKind.u32) b3
                                                                              6)))]))))))))))))))))))))))))
    (TreeS.req (inB (IntKind.wrap IntKind.i64 (v16 - 15)) (↑64 : Int))
      (TreeS.req (inB (IntKind.wrap IntKind.i64 (v16 - 2)) (↑64 : Int))
        (TreeS.all (den (Ty.int IntKind.u32))
          (fun (q6 : den (Ty.int IntKind.u32)) ↦ q6 = el (Ty.int IntKind.u32) b2 (IntKind.wrap IntKind.i64 (v16 - 15)))
          fun (q6 : den (Ty.int IntKind.u32)) ↦
          TreeS.all (den (Ty.int IntKind.u32))
            (fun (q7 : den (Ty.int IntKind.u32)) ↦ q7 = el (Ty.int IntKind.u32) b2 (IntKind.wrap IntKind.i64 (v16 - 2)))
            fun (q7 : den (Ty.int IntKind.u32)) ↦
            TreeS.req (ge0 10)
              (TreeS.req True
                (TreeS.req (inB (IntKind.wrap IntKind.i64 (v16 - 7)) (↑64 : Int))
                  (TreeS.req (ge0 3)
                    (TreeS.req True
                      (TreeS.req (inB (IntKind.wrap IntKind.i64 (v16 - 16)) (↑64 : Int))
                        (TreeS.req (inB v16 (↑64 : Int))
                          (TreeS.all (den (Ty.int IntKind.u32))
                            (fun (q8 : den (Ty.int IntKind.u32)) ↦
                              q8 = g_two q7 17 19 (Int.fdiv q7 (2 ^ min (Int.toNat 10) (IntKind.bits IntKind.u32))))
                            fun (q8 : den (Ty.int IntKind.u32)) ↦
                            TreeS.all (den (Ty.int IntKind.u32))
                              (fun (q9 : den (Ty.int IntKind.u32)) ↦
                                q9 = g_two q6 7 18 (Int.fdiv q6 (2 ^ min (Int.toNat 3) (IntKind.bits IntKind.u32))))
                              fun (q9 : den (Ty.int IntKind.u32)) ↦
                              TreeS.req (inB 0 (↑8 : Int))
                                (TreeS.req (inB 4 (↑8 : Int))
                                  (TreeS.all (den (Ty.int IntKind.u32))
                                    (fun (q10 : den (Ty.int IntKind.u32)) ↦ q10 = el (Ty.int IntKind.u32) b3 0)
                                    fun (q10 : den (Ty.int IntKind.u32)) ↦
                                    TreeS.all (den (Ty.int IntKind.u32))
                                      (fun (q11 : den (Ty.int IntKind.u32)) ↦ q11 = el (Ty.int IntKind.u32) b3 4)
                                      fun (q11 : den (Ty.int IntKind.u32)) ↦
                                      TreeS.req (inB 7 (↑8 : Int))
                                        (TreeS.req True
                                          (TreeS.req True
                                            (TreeS.req (inB 6 (↑8 : Int))
                                              (TreeS.req (inB 5 (↑8 : Int))
                                                (TreeS.req (inB 6 (↑8 : Int))
                                                  (TreeS.req (inB v16 (↑64 : Int))
                                                    (TreeS.req (inB v16 (↑64 : Int))
                                                      (TreeS.all (den (Ty.int IntKind.u32))
                                                        (fun (q12 : den (Ty.int IntKind.u32)) ↦ q12 = g_rotl q11 (-25))
                                                        fun (q12 : den (Ty.int IntKind.u32)) ↦
                                                        TreeS.all (den (Ty.int IntKind.u32))
                                                          (fun (q13 : den (Ty.int IntKind.u32)) ↦
                                                            q13 = g_two q11 6 11 (g_rotl q11 (-25)))
                                                          fun (q13 : den (Ty.int IntKind.u32)) ↦
                                                          TreeS.all (den (Ty.int IntKind.u32))
                                                            (fun (q14 : den (Ty.int IntKind.u32)) ↦
                                                              q14 =
                                                                IntKind.wrap IntKind.u32
                                                                  (IntKind.wrap IntKind.u32
                                                                      (IntKind.wrap IntKind.u32
                                                                          (IntKind.wrap IntKind.u32
                                                                              (el (Ty.int IntKind.u32) b3 7 +
                                                                                g_two q11 6 11 (g_rotl q11 (-25))) +
                                                                            IntKind.wrap IntKind.u32
                                                                              (↑(BitVec.toNat
                                                                                    (BitVec.ofInt
                                                                                        (IntKind.bits IntKind.u32)
                                                                                        (el (Ty.int IntKind.u32) b3
                                                                                          6) ^^^
                                                                                      BitVec.ofInt
                                                                                        (IntKind.bits IntKind.u32)
                                                                                        (IntKind.wrap IntKind.u32
                                                                                          (↑(BitVec.toNat
                                                                                                (BitVec.ofInt
                                                                                                    (IntKind.bits
                                                                                                      IntKind.u32)
                                                                                                    q11 &&&
                                                                                                  BitVec.ofInt
                                                                                                    (IntKind.bits
                                                                                                      IntKind.u32)
                                                                                                    (IntKind.wrap
                                                                                                      IntKind.u32
                                                                                                      (↑(BitVec.toNat
                                                                                                            (BitVec.ofInt
                                                                                                                (IntKind.bits
                                                                                                                  IntKind.u32)
                                                                                                                (el
                                                                                                                  (Ty.int
                                                                                                                    IntKind.u32)
                                                                                                                  b3
                                                                                                                  5) ^^^
                                                                                                              BitVec.ofInt
                                                                                                                (IntKind.bits
                                                                                                                  IntKind.u32)
                                                                                                                (el
                                                                                                                  (Ty.int
                                                                                                                    IntKind.u32)
                                                                                                                  b3
                                                                                                                  6))) :
                                                                                                        Int)))) :
                                                                                            Int)))) :
                                                                                Int)) +
                                                                        el (Ty.int IntKind.u32) keysL v16) +
                                                                    el (Ty.int IntKind.u32)
                                                                      (setAtx (Ty.int IntKind.u32) b2 v16
                                                                        (IntKind.wrap IntKind.u32
                                                                          (IntKind.wrap IntKind.u32
                                                                              (IntKind.wrap IntKind.u32
                                                                                  (g_two q7 17 19
                                                                                      (Int.fdiv q7
                                                                                        (2 ^
                                                                                          min (Int.toNat 10)
                                                                                            (IntKind.bits
                                                                                              IntKind.u32))) +
                                                                                    el (Ty.int IntKind.u32) b2
                                                                                      (IntKind.wrap IntKind.i64
                                                                                        (v16 - 7))) +
                                                                                g_two q6 7 18
                                                                                  (Int.fdiv q6
                                                                                    (2 ^
                                                                                      min (Int.toNat 3)
                                                                                        (IntKind.bits IntKind.u32)))) +
                                                                            el (Ty.int IntKind.u32) b2
                                                                              (IntKind.wrap IntKind.i64 (v16 - 16)))))
                                                                      v16))
                                                            fun (q14 : den (Ty.int IntKind.u32)) ↦
                                                            TreeS.req (inB 1 (↑8 : Int))
                                                              (TreeS.req (inB 2 (↑8 : Int))
                                                                (TreeS.req (inB 1 (↑8 : Int))
                                                                  (TreeS.req True
                                                                    (TreeS.req True
                                                                      (TreeS.req (inB 1 (↑8 : Int))
                                                                        (TreeS.req (inB 2 (↑8 : Int))
                                                                          (TreeS.req (inB 3 (↑8 : Int))
                                                                            (TreeS.req (inB 5 (↑8 : Int))
                                                                              (TreeS.req (inB 6 (↑8 : Int))
                                                                                (TreeS.all (den (Ty.int IntKind.u32))
                                                                                  (fun
                                                                                      (q15 : den (Ty.int IntKind.u32)) ↦
                                                                                    q15 = g_rotl q10 (-22))
                                                                                  fun (q15 : den (Ty.int IntKind.u32)) ↦
                                                                                  TreeS.all (den (Ty.int IntKind.u32))
                                                                                    (fun
                                                                                        (q16 :
                                                                                          den (Ty.int IntKind.u32)) ↦
                                                                                      q16 =
                                                                                        g_two q10 2 13
                                                                                          (g_rotl q10 (-22)))
                                                                                    fun
                                                                                      (q16 : den (Ty.int IntKind.u32)) ↦
                                                                                    TreeS.loop [] fx_digest_words_over
                                                                                      (lp f_digest_words_over 4)
                                                                                      [(1, K.val Ty.str v1),
                                                                                        (2, K.ptr 0 tDigestWords []),
                                                                                        (4,
                                                                                          K.ptr (0 + 1) tDigestWords
                                                                                            []),
                                                                                        (5,
                                                                                          K.ptr (0 + 1 + 1)
                                                                                            (Ty.arr 64
                                                                                              (Ty.int IntKind.u32))
                                                                                            []),
                                                                                        (6,
                                                                                          K.ptr (0 + 1 + 1 + 1)
                                                                                            tDigestWords []),
                                                                                        (16,
                                                                                          K.val tInt
                                                                                            (IntKind.wrap IntKind.i64
                                                                                              (v16 + 1)))]
                                                                                      [(0, Bx.cell tDigestWords b0),
                                                                                        (0 + 1,
                                                                                          Bx.cell tDigestWords b1),
                                                                                        (0 + 1 + 1,
                                                                                          Bx.cell
                                                                                            (Ty.arr 64
                                                                                              (Ty.int IntKind.u32))
                                                                                            (setAtx (Ty.int IntKind.u32)
                                                                                              b2 v16
                                                                                              (IntKind.wrap IntKind.u32
                                                                                                (IntKind.wrap
                                                                                                    IntKind.u32
                                                                                                    (IntKind.wrap
                                                                                                        IntKind.u32
                                                                                                        (g_two q7 17 19
                                                                                                            (Int.fdiv q7
                                                                                                              (2 ^
                                                                                                                min
                                                                                                                  (Int.toNat
                                                                                                                    10)
                                                                                                                  (IntKind.bits
                                                                                                                    IntKind.u32))) +
                                                                                                          el
                                                                                                            (Ty.int
                                                                                                              IntKind.u32)
                                                                                                            b2
                                                                                                            (IntKind.wrap
                                                                                                              IntKind.i64
                                                                                                              (v16 -
                                                                                                                7))) +
                                                                                                      g_two q6 7 18
                                                                                                        (Int.fdiv q6
                                                                                                          (2 ^
                                                                                                            min
                                                                                                              (Int.toNat
                                                                                                                3)
                                                                                                              (IntKind.bits
                                                                                                                IntKind.u32)))) +
                                                                                                  el
                                                                                                    (Ty.int IntKind.u32)
                                                                                                    b2
                                                                                                    (IntKind.wrap
                                                                                                      IntKind.i64
                                                                                                      (v16 - 16)))))),
                                                                                        (0 + 1 + 1 + 1,
                                                                                          Bx.cell tDigestWords
                                                                                            (List.set
                                                                                              (List.set
                                                                                                (List.set
                                                                                                  (List.set
                                                                                                    (List.set
                                                                                                      (List.set
                                                                                                        (List.set
                                                                                                          (List.set
                                                                                                            (List.replicate
                                                                                                              8
                                                                                                              (zero
                                                                                                                (Ty.int
                                                                                                                  IntKind.u32)))
                                                                                                            0
                                                                                                            (IntKind.wrap
                                                                                                              IntKind.u32
                                                                                                              (IntKind.wrap
                                                                                                                  IntKind.u32
                                                                                                                  (q14 +
                                                                                                                    g_two
                                                                                                                      q10
                                                                                                                      2
                                                                                                                      13
                                                                                                                      (g_rotl
                                                                                                                        q10
                                                                                                                        (-22))) +
                                                                                                                IntKind.wrap
                                                                                                                  IntKind.u32
                                                                                                                  (↑(BitVec.toNat
                                                                                                                        (BitVec.ofInt
                                                                                                                            (IntKind.bits
                                                                                                                              IntKind.u32)
                                                                                                                            (IntKind.wrap
                                                                                                                              IntKind.u32
                                                                                                                              (↑(BitVec.toNat
                                                                                                                                    (BitVec.ofInt
                                                                                                                                        (IntKind.bits
                                                                                                                                          IntKind.u32)
                                                                                                                                        q10 &&&
                                                                                                                                      BitVec.ofInt
                                                                                                                                        (IntKind.bits
                                                                                                                                          IntKind.u32)
                                                                                                                                        (el
                                                                                                                                          (Ty.int
                                                                                                                                            IntKind.u32)
                                                                                                                                          b3
                                                                                                                                          1))) :
                                                                                                                                Int)) |||
                                                                                                                          BitVec.ofInt
                                                                                                                            (IntKind.bits
                                                                                                                              IntKind.u32)
                                                                                                                            (IntKind.wrap
                                                                                                                              IntKind.u32
                                                                                                                              (↑(BitVec.toNat
                                                                                                                                    (BitVec.ofInt
                                                                                                                                        (IntKind.bits
                                                                                                                                          IntKind.u32)
                                                                                                                                        (el
                                                                                                                                          (Ty.int
                                                                                                                                            IntKind.u32)
                                                                                                                                          b3
                                                                                                                                          2) &&&
                                                                                                                                      BitVec.ofInt
                                                                                                                                        (IntKind.bits
                                                                                                                                          IntKind.u32)
                                                                                                                                        (IntKind.wrap
                                                                                                                                          IntKind.u32
                                                                                                                                          (↑(BitVec.toNat
                                                                                                                                                (BitVec.ofInt
                                                                                                                                                    (IntKind.bits
                                                                                                                                                      IntKind.u32)
                                                                                                                                                    q10 |||
                                                                                                                                                  BitVec.ofInt
                                                                                                                                                    (IntKind.bits
                                                                                                                                                      IntKind.u32)
                                                                                                                                                    (el
                                                                                                                                                      (Ty.int
                                                                                                                                                        IntKind.u32)
                                                                                                                                                      b3
                                                                                                                                                      1))) :
                                                                                                                                            Int)))) :
                                                                                                                                Int)))) :
                                                                                                                    Int))))
                                                                                                          1 q10)
                                                                                                        2
                                                                                                        (el
                                                                                                          (Ty.int
                                                                                                            IntKind.u32)
                                                                                                          b3 1))
                                                                                                      3
                                                                                                      (el
                                                                                                        (Ty.int
                                                                                                          IntKind.u32)
                                                                                                        b3 2))
                                                                                                    4
                                                                                                    (IntKind.wrap
                                                                                                      IntKind.u32
                                                                                                      (el
                                                                                                          (Ty.int
                                                                                                            IntKind.u32)
                                                                                                          b3 3 +
                                                                                                        q14)))
                                                                                                  5 q11)
                                                                                                6
                                                                                                (el (Ty.int IntKind.u32)
                                                                                                  b3 5))
                                                                                              7
                                                                                              (el (Ty.int IntKind.u32)
                                                                                                b3
                                                                                                6)))])))))))))))))))))))))))))))))))
  (TreeS.loop [] fx_digest_words_over (lp f_digest_words_over 16)
    [(2, K.ptr 0 tDigestWords []), (4, K.ptr (0 + 1) tDigestWords []), (6, K.ptr (0 + 1 + 1) tDigestWords []),
      (126, K.val tInt 0)]
    [(0, Bx.cell tDigestWords b0), (0 + 1, Bx.cell tDigestWords b1), (0 + 1 + 1, Bx.cell tDigestWords b3)])
theorem TL_digest_words_over_4_eq (v1 : den Ty.str) (v16 : den tInt) (b0 : den tDigestWords) (b1 : den tDigestWords) (b2 : den (Ty.arr 64 (Ty.int IntKind.u32))) (b3 : den tDigestWords) : treeS X_digest_words_over M_digest_words_over 5000 [] fx_digest_words_over (lp f_digest_words_over 4) (E_digest_words_over_4 v1 v16 b0 b1 b2 b3) = TL_digest_words_over_4 v1 v16 b0 b1 b2 b3 := by kernel_rfl

noncomputable def E_digest_words_over_16 (v126 : den tInt) (b0 : den tDigestWords) (b1 : den tDigestWords) (b2 : den tDigestWords) : Env := Env.of
  [(2, K.ptr 0 tDigestWords []), (4, K.ptr (0 + 1) tDigestWords []), (6, K.ptr (0 + 1 + 1) tDigestWords []),
    (126, K.val tInt v126)]
  [(0, Bx.cell tDigestWords b0), (1, Bx.cell tDigestWords b1), (2, Bx.cell tDigestWords b2)]
noncomputable def TL_digest_words_over_16 (v126 : den tInt) (b0 : den tDigestWords) (b1 : den tDigestWords) (b2 : den tDigestWords) : TreeS :=
  TreeS.ite (decide (v126 < 8))
  (TreeS.req (inB v126 (↑8 : Int))
    (TreeS.req (inB v126 (↑8 : Int))
      (TreeS.req (inB v126 (↑8 : Int))
        (TreeS.loop [] fx_digest_words_over (lp f_digest_words_over 16)
          [(2, K.ptr 0 tDigestWords []), (4, K.ptr (0 + 1) tDigestWords []), (6, K.ptr (0 + 1 + 1) tDigestWords []),
            (126, K.val tInt (IntKind.wrap IntKind.i64 (v126 + 1)))]
          [(0,
              Bx.cell tDigestWords
                (setAtx (Ty.int IntKind.u32) b0 v126
                  (IntKind.wrap IntKind.u32 (el (Ty.int IntKind.u32) b0 v126 + el (Ty.int IntKind.u32) b2 v126)))),
            (0 + 1, Bx.cell tDigestWords b1), (0 + 1 + 1, Bx.cell tDigestWords b2)]))))
  (TreeS.ret (K.val (Ty.pair tDigestWords Ty.unit) (b0, PUnit.unit)))
theorem TL_digest_words_over_16_eq (v126 : den tInt) (b0 : den tDigestWords) (b1 : den tDigestWords) (b2 : den tDigestWords) : treeS X_digest_words_over M_digest_words_over 5000 [] fx_digest_words_over (lp f_digest_words_over 16) (E_digest_words_over_16 v126 b0 b1 b2) = TL_digest_words_over_16 v126 b0 b1 b2 := by kernel_rfl

end Go.Proofs.YtainieginijaaaaDoor

/- A block goes over words. -/
namespace Go.Proofs.YtainieginijaaaaDoor
open Go Go.RowKit

abbrev u32e (l : List Int) (n : Int) : Int := el (.int .u32) l n
def shr32 (x : Int) (k : Int) : Int := Int.fdiv x (2 ^ min (Int.toNat k) (IntKind.bits .u32))

def ovUp (k : Int) (wt : Int) (v : List Int) : Int :=
  ladd (ladd (ladd (ladd (u32e v 7) (g_two (u32e v 4) 6 11 (g_rotl (u32e v 4) (-25)))) (lxor (u32e v 6) (land (u32e v 4) (lxor (u32e v 5) (u32e v 6))))) k) wt
def ovMost (v : List Int) : Int := lor (land (u32e v 0) (u32e v 1)) (land (u32e v 2) (lor (u32e v 0) (u32e v 1)))
def ovV (k : Int) (wt : Int) (v : List Int) : List Int :=
  List.set (List.set (List.set (List.set (List.set (List.set (List.set (List.set (List.replicate 8 (zero (.int .u32))) 0
    (ladd (ladd (ovUp k wt v) (g_two (u32e v 0) 2 13 (g_rotl (u32e v 0) (-22)))) (ovMost v))) 1 (u32e v 0)) 2 (u32e v 1)) 3 (u32e v 2)) 4 (ladd (u32e v 3) (ovUp k wt v))) 5 (u32e v 4)) 6 (u32e v 5)) 7 (u32e v 6)
def ovB (s : ByteArray) (t : Int) : Int := g_number (sCut s (IntKind.wrap .i64 (4 * t)) (IntKind.wrap .i64 (IntKind.wrap .i64 (4 * t) + 4)))
def ovN (w : List Int) (t : Int) : Int :=
  ladd (ladd (ladd (g_two (u32e w (IntKind.wrap .i64 (t - 2))) 17 19 (shr32 (u32e w (IntKind.wrap .i64 (t - 2))) 10)) (u32e w (IntKind.wrap .i64 (t - 7))))
    (g_two (u32e w (IntKind.wrap .i64 (t - 15))) 7 18 (shr32 (u32e w (IntKind.wrap .i64 (t - 15))) 3))) (u32e w (IntKind.wrap .i64 (t - 16)))
def ovW (s : ByteArray) (w : List Int) (t : Int) : List Int := if t < 16 then setAtx (.int .u32) w t (ovB s t) else setAtx (.int .u32) w t (ovN w t)
def ovS (s : ByteArray) (v : List Int) : Nat → List Int × List Int
  | 0 => (zero (.arr 64 (.int .u32)), v)
  | i + 1 =>
    let p := ovS s v i
    let w := ovW s p.1 i
    (w, ovV (u32e keysL i) (u32e w i) p.2)
def ovA (h v : List Int) : Nat → List Int
  | 0 => h
  | i + 1 => setAtx (.int .u32) (ovA h v i) i (ladd (u32e (ovA h v i) i) (u32e v i))
def g_over (h : List Int) (s : ByteArray) : List Int := ovA h (ovS s h 64).2 8
noncomputable abbrev S_digest_words_over : Spec := ⟨as_digest_words_over, rs_digest_words_over, fun x => (g_over x.1 x.2.1, ()), fun x => ByteArray.size x.2.1 = 64, false⟩

theorem all_eq {P : TreeS → Prop} {A : Type} {e : A} {f : A → TreeS} (h : P (f e)) : ∀ q, q = e → P (f q) := fun q hq => by cases hq; exact h

def gl_digest_words_over_16 (O : Nat → Prop) (w0 : World) (h v1 v : List Int) (out : List Int) (ho : out = ovA h v 8) :=
  PLift.up <| range_ind (σ := List Int) 8 (fun i b => b = ovA h v i)
    (fun i b => GoodS prog X_digest_words_over (Cx.base O w0) (Ends prog O w0 rs_digest_words_over fun y => y = (out, ())) [] fx_digest_words_over (lp f_digest_words_over 16) (E_digest_words_over_16 (i : Nat) b v1 v))
    (fun i b hi hb ih => goodS_of (x_digest_words_over (fnOk_up k_bits_RotateLeft32) (fnOk_up k_digest_two) (fnOk_up k_digest_number)) (TL_digest_words_over_16_eq _ b v1 v) (by
      refine ⟨fun _ => ⟨⟨Int.natCast_nonneg _, Int.ofNat_lt.2 hi⟩, ⟨Int.natCast_nonneg _, Int.ofNat_lt.2 hi⟩, ⟨Int.natCast_nonneg _, Int.ofNat_lt.2 hi⟩, ?_⟩, fun h => ?_⟩
      · rw [wr_idx hi (by omega)]
        refine ih _ ?_
        rw [hb]
        rfl
      · exact absurd (Int.ofNat_lt.2 hi) (of_decide_eq_false h)))
    (fun b hb => goodS_of (x_digest_words_over (fnOk_up k_bits_RotateLeft32) (fnOk_up k_digest_two) (fnOk_up k_digest_number)) (TL_digest_words_over_16_eq _ b v1 v) (by
      refine ⟨fun h => ?_, fun _ => ⟨_, rfl, ?_⟩⟩
      · exact absurd (of_decide_eq_true h) (by decide)
      · show (b, ()) = (out, ())
        rw [hb, ho]))

theorem sCut_size (s : ByteArray) (a b : Int) : (sCut s a b).size ≤ s.size := by
  unfold sCut; rw [ByteArray.size_extract]; omega

theorem wr4 {i : Nat} (h : i < 16) : IntKind.wrap .i64 (4 * (i : Int)) = 4 * (i : Int) ∧ IntKind.wrap .i64 (IntKind.wrap .i64 (4 * (i : Int)) + 4) = 4 * (i : Int) + 4 := by
  have h1 : IntKind.wrap .i64 (4 * (i : Int)) = 4 * (i : Int) := small_i64 (by omega)
  refine ⟨h1, ?_⟩
  rw [h1]
  exact small_i64 (by omega)
theorem wrm {i : Nat} (k : Int) (h : i < 64) (h0 : 0 ≤ k) (h1 : k ≤ i) : inB (IntKind.wrap .i64 ((i : Int) - k)) ((64 : Nat) : Int) := by
  rw [small_i64 (by omega)]
  exact ⟨by omega, by omega⟩

theorem dB {a b : Int} (h : decide (0 ≤ a ∧ a < b) = true := by rfl) : inB a b := (of_decide_eq_true h : 0 ≤ a ∧ a < b)
theorem d0 {a : Int} (h : decide (0 ≤ a) = true := by rfl) : ge0 a := (of_decide_eq_true h : 0 ≤ a)

def gl_digest_words_over_4 (O : Nat → Prop) (w0 : World) (h b1 : List Int) (s : ByteArray) (hs : s.size = 64) :=
  PLift.up <| range_ind (σ := List Int × List Int) 64 (fun i b => b = ovS s h i)
    (fun i b => GoodS prog X_digest_words_over (Cx.base O w0) (Ends prog O w0 rs_digest_words_over fun y => y = (g_over h s, ())) [] fx_digest_words_over (lp f_digest_words_over 4) (E_digest_words_over_4 s (i : Nat) h b1 b.1 b.2))
    (fun i b hi hb ih => goodS_of (x_digest_words_over (fnOk_up k_bits_RotateLeft32) (fnOk_up k_digest_two) (fnOk_up k_digest_number)) (TL_digest_words_over_4_eq s _ h b1 b.1 b.2) (by
      have hB : inB (i : Int) ((64 : Nat) : Int) := ⟨Int.natCast_nonneg _, Int.ofNat_lt.2 hi⟩
      refine ⟨fun _ => ⟨fun hl => ?_, fun hl => ?_⟩, fun h => ?_⟩
      · have hl : i < 16 := Int.ofNat_lt.1 (of_decide_eq_true hl)
        refine ⟨?_, Nat.le_trans (sCut_size _ _ _) (by rw [hs]; decide), all_eq ⟨hB, dB, dB, all_eq <| all_eq ⟨dB, trivial, trivial, dB, dB, dB, hB, hB, all_eq <| all_eq <| all_eq ⟨dB, dB, dB, trivial, trivial, dB, dB, dB, dB, dB, all_eq <| all_eq ?_⟩⟩⟩⟩
        · rw [(wr4 hl).2, (wr4 hl).1]
          refine ⟨by omega, by omega, ?_⟩
          show 4 * (i : Int) + 4 ≤ (s.size : Int)
          rw [hs]; omega
        · have hw : IntKind.wrap .i64 ((i : Int) + 1) = ((i + 1 : Nat) : Int) := wr_idx hi (by omega)
          show GoodS _ _ _ _ _ _ _ (E_digest_words_over_4 s (IntKind.wrap .i64 ((i : Int) + 1)) h b1 _ _)
          rw [hw]
          refine ih (_, _) ?_
          rw [hb]
          have hlI : (i : Int) < 16 := Int.ofNat_lt.2 hl
          show _ = (ovW s (ovS s h i).1 i, ovV (u32e keysL i) (u32e (ovW s (ovS s h i).1 i) i) (ovS s h i).2)
          unfold ovW
          rw [if_pos hlI]
          rfl
      · have hl : ¬ i < 16 := fun h => of_decide_eq_false hl (Int.ofNat_lt.2 h)
        refine ⟨wrm 15 hi (by decide) (by omega), wrm 2 hi (by decide) (by omega), all_eq <| all_eq ⟨d0, trivial, wrm 7 hi (by decide) (by omega), d0, trivial, wrm 16 hi (by decide) (by omega), hB, all_eq <| all_eq ⟨dB, dB, all_eq <| all_eq ⟨dB, trivial, trivial, dB, dB, dB, hB, hB, all_eq <| all_eq <| all_eq ⟨dB, dB, dB, trivial, trivial, dB, dB, dB, dB, dB, all_eq <| all_eq ?_⟩⟩⟩⟩⟩
        have hw : IntKind.wrap .i64 ((i : Int) + 1) = ((i + 1 : Nat) : Int) := wr_idx hi (by omega)
        show GoodS _ _ _ _ _ _ _ (E_digest_words_over_4 s (IntKind.wrap .i64 ((i : Int) + 1)) h b1 _ _)
        rw [hw]
        refine ih (_, _) ?_
        rw [hb]
        have hlI : ¬ (i : Int) < 16 := fun h => hl (Int.ofNat_lt.1 h)
        show _ = (ovW s (ovS s h i).1 i, ovV (u32e keysL i) (u32e (ovW s (ovS s h i).1 i) i) (ovS s h i).2)
        unfold ovW
        rw [if_neg hlI]
        rfl
      · exact absurd (Int.ofNat_lt.2 hi) (of_decide_eq_false h)))
    (fun b hb => goodS_of (x_digest_words_over (fnOk_up k_bits_RotateLeft32) (fnOk_up k_digest_two) (fnOk_up k_digest_number)) (TL_digest_words_over_4_eq s _ h b1 b.1 b.2) (by
      refine ⟨fun h => ?_, fun _ => ?_⟩
      · exact absurd (of_decide_eq_true h) (by decide)
      · exact (gl_digest_words_over_16 O w0 h b1 b.2 _ (by rw [hb]; rfl)).down 0 h (Nat.zero_le _) rfl))
theorem k_digest_words_over : FnOk prog gl n_digest_words_over S_digest_words_over :=
  fnS_T (S := S_digest_words_over) (x_digest_words_over (fnOk_up k_bits_RotateLeft32) (fnOk_up k_digest_two) (fnOk_up k_digest_number)) (fx := fx_digest_words_over) at_digest_words_over (by kernel_rfl) (fun h => by cases h) (T := fun x => T_digest_words_over x.1 x.2.1) (fun x => T_digest_words_over_eq x.1 x.2.1) fun O w0 x _ hp =>
    (gl_digest_words_over_4 O w0 x.1 _ x.2.1 hp).down 0 (_, _) (Nat.zero_le _) rfl

end Go.Proofs.YtainieginijaaaaDoor

/-
  DERIVED: THE SHELF's CONTRACTS AT THIS DUMP, IN PLAIN WORDS (tools/lay-plain.mjs out of 'TrydShelf.lean', which tools/lay-shelf.mjs wrote): THE SAME DECLARATIONS UNDER THE SAME NAMES: 'import', 'namespace', 'open', 'def', 'theorem' AND NOTHING ELSE: no command of the shelf's: FOR A HAND-IN. Each laying: the table of numbers ('.._ren') and one theorem, a field a fact of the dump's own or the kernel's comparison; each contract: ONE APPLICATION.
-/
namespace Go.Proofs
open Go.Shelf
def Tryd.lays170_ren : Go.Shelf.Ren := ⟨fun | 170 => 27 | n => n, fun | 70 => 34 | 3 => 3 | 0 => 0 | 72 => 37 | 37 => 35 | 5 => 5 | n => n, fun | n => n⟩
theorem Tryd.lays170 : Go.Proofs.Lays.n170 Tryd.prog Tryd.lays170_ren := {
  mixed := by kernel_rfl
  f170 := Tryd.func27.trans (congrArg some (by kernel_rfl))
  t0 := Tryd.underlying0
  a0 := Tryd.isAgg0
  z0 := Tryd.sizeOf0
  v0 := Tryd.zeroValue0
  t3 := Tryd.underlying3
  a3 := Tryd.isAgg3
  z3 := Tryd.sizeOf3
  v3 := Tryd.zeroValue3
  t37 := Tryd.underlying35
  a37 := Tryd.isAgg35
  z37 := Tryd.sizeOf35
  v37 := Tryd.zeroValue35
  t70 := Tryd.underlying34
  a70 := Tryd.isAgg34
  z70 := Tryd.sizeOf34
  v70 := Tryd.zeroValue34
  t72 := Tryd.underlying37
  a72 := Tryd.isAgg37
  z72 := Tryd.sizeOf37
  v72 := Tryd.zeroValue37 }
open Go.RowKit in
/-- (*strings.Builder).Len: "Len returns the number of accumulated bytes; b.Len() == len(b.String()).": the world is as it was. (LAID: no walk: one application.) -/
theorem Tryd.Builder_Len (B b : Nat) (bs : List Value) (w : World) (h : Lib.IsBuilder 37 5 B b bs w) :
    Calls Tryd.prog 27 #[.pointer (some ⟨b, 0, none⟩)] w fun e w' => e = .returned (.int .i64 bs.length) ∧ w' = w := Any.Builder_Len Tryd.lays170 B b bs w h
def Tryd.lays169_ren : Go.Shelf.Ren := ⟨fun | 169 => 12 | n => n, fun | 70 => 34 | 9 => 9 | 0 => 0 | 72 => 37 | 37 => 35 | 127 => 53 | 3 => 3 | 5 => 5 | n => n, fun | n => n⟩
theorem Tryd.lays169 : Go.Proofs.Lays.n169 Tryd.prog Tryd.lays169_ren := {
  mixed := by kernel_rfl
  f169 := Tryd.func12.trans (congrArg some (by kernel_rfl))
  t0 := Tryd.underlying0
  a0 := Tryd.isAgg0
  z0 := Tryd.sizeOf0
  v0 := Tryd.zeroValue0
  t3 := Tryd.underlying3
  a3 := Tryd.isAgg3
  z3 := Tryd.sizeOf3
  v3 := Tryd.zeroValue3
  t9 := Tryd.underlying9
  a9 := Tryd.isAgg9
  z9 := Tryd.sizeOf9
  v9 := Tryd.zeroValue9
  t37 := Tryd.underlying35
  a37 := Tryd.isAgg35
  z37 := Tryd.sizeOf35
  v37 := Tryd.zeroValue35
  t70 := Tryd.underlying34
  a70 := Tryd.isAgg34
  z70 := Tryd.sizeOf34
  v70 := Tryd.zeroValue34
  t72 := Tryd.underlying37
  a72 := Tryd.isAgg37
  z72 := Tryd.sizeOf37
  v72 := Tryd.zeroValue37
  t127 := Tryd.underlying53
  a127 := Tryd.isAgg53
  z127 := Tryd.sizeOf53
  v127 := Tryd.zeroValue53 }
theorem Tryd.Builder_Extra_169 : Builder.Extra Tryd.prog Tryd.lays169_ren := {
  sizeBuilder := by kernel_rfl
  liesBuilder := by kernel_rfl
  t5 := Tryd.underlying5
  a5 := Tryd.isAgg5
  z5 := Tryd.sizeOf5
  v5 := Tryd.zeroValue5
  infoByte := by kernel_rfl
  cellsByte := by kernel_rfl
  sizeByte := by kernel_rfl
  neB5 := by decide }
open Go.RowKit in
/-- (*strings.Builder).String: "String returns the accumulated string.": OF A BUILDER THAT HOLDS AT LEAST ONE BYTE. ✋ THE MODEL FREEZES THOSE BYTES IN THE BUFFER (unsafe.String): a later write INTO them ends the model's run without an answer; a later append BEHIND them goes on. The statement's order of evaluation is drawn: one draw. (LAID: no walk: one application.) -/
theorem Tryd.Builder_String (B b : Nat) (l : List UInt8) (w : World) (h : Lib.IsBuilder 37 5 B b (Lib.byteCells l) w) (h0 : l ≠ []) :
    Calls Tryd.prog 12 #[.pointer (some ⟨b, 0, none⟩)] w fun e w' => e = .returned (.string ⟨l.toArray⟩) ∧ Below B w w' := Any.Builder_String Tryd.lays169 Tryd.Builder_Extra_169 B b l w h h0
open Go.RowKit in
/-- (*strings.Builder).String OF A BUILDER THAT HOLDS NO BYTE: the empty string. (Its buffer is nil, or a row of which it has taken nothing yet; where that row has NO capacity the model lays one new block for unsafe.SliceData's 'some address'.) One draw. (LAID: no walk: one application.) -/
theorem Tryd.Builder_String_empty (B b : Nat) (w : World) (h : Lib.IsBuilder 37 5 B b [] w) (hBw : B ≤ w.heap.size) :
    Calls Tryd.prog 12 #[.pointer (some ⟨b, 0, none⟩)] w fun e w' => e = .returned (.string ⟨#[]⟩) ∧ Below B w w' := Any.Builder_String_empty Tryd.lays169 Tryd.Builder_Extra_169 B b w h hBw
open Go.RowKit in
/-- (*strings.Builder).String: "String returns the accumulated string.": WHATEVER THE BUILDER HOLDS. (LAID: no walk: one application.) -/
theorem Tryd.Builder_String_any (B b : Nat) (l : List UInt8) (w : World) (h : Lib.IsBuilder 37 5 B b (Lib.byteCells l) w) (hBw : B ≤ w.heap.size) :
    Calls Tryd.prog 12 #[.pointer (some ⟨b, 0, none⟩)] w fun e w' => e = .returned (.string ⟨l.toArray⟩) ∧ Below B w w' := Any.Builder_String_any Tryd.lays169 Tryd.Builder_Extra_169 B b l w h hBw
def Tryd.lays241_ren : Go.Shelf.Ren := ⟨fun | 241 => 17 | 277 => 24 | n => n, fun | 70 => 34 | 3 => 3 | 0 => 0 | 72 => 37 | 37 => 35 | 5 => 5 | n => n, fun | n => n⟩
theorem Tryd.lays241 : Go.Proofs.Lays.n241 Tryd.prog Tryd.lays241_ren := {
  mixed := by kernel_rfl
  f241 := Tryd.func17.trans (congrArg some (by kernel_rfl))
  f277 := Tryd.func24.trans (congrArg some (by kernel_rfl))
  t0 := Tryd.underlying0
  a0 := Tryd.isAgg0
  z0 := Tryd.sizeOf0
  v0 := Tryd.zeroValue0
  t3 := Tryd.underlying3
  a3 := Tryd.isAgg3
  z3 := Tryd.sizeOf3
  v3 := Tryd.zeroValue3
  t37 := Tryd.underlying35
  a37 := Tryd.isAgg35
  z37 := Tryd.sizeOf35
  v37 := Tryd.zeroValue35
  t70 := Tryd.underlying34
  a70 := Tryd.isAgg34
  z70 := Tryd.sizeOf34
  v70 := Tryd.zeroValue34
  t72 := Tryd.underlying37
  a72 := Tryd.isAgg37
  z72 := Tryd.sizeOf37
  v72 := Tryd.zeroValue37 }
theorem Tryd.Builder_Extra_241 : Builder.Extra Tryd.prog Tryd.lays241_ren := {
  sizeBuilder := by kernel_rfl
  liesBuilder := by kernel_rfl
  t5 := Tryd.underlying5
  a5 := Tryd.isAgg5
  z5 := Tryd.sizeOf5
  v5 := Tryd.zeroValue5
  infoByte := by kernel_rfl
  cellsByte := by kernel_rfl
  sizeByte := by kernel_rfl
  neB5 := by decide }
open Go.RowKit in
/-- (*strings.Builder).grow (no doc but "grow copies the buffer to a new, larger buffer so that there are at least n bytes of capacity beyond len(b.buf)."): AT A BUILDER WITHOUT A BUFFER: a new row of whatever bytes for its buffer, none of them its own yet. Three draws. (LAID: no walk: one application.) -/
theorem Tryd.Builder_grow_fresh (B b n : Nat) (w : World) (hB : B ≤ b) (hbk : w.heap[b]? = some (.cells #[.pointer (some ⟨b, 0, none⟩), .slice none 0 0] 37 (0, 0))) (hBw : B ≤ w.heap.size) (hn : n ≤ 281474976710656) :
    Calls Tryd.prog 17 #[.pointer (some ⟨b, 0, none⟩), .int .i64 n] w fun e w' => e = .returned (.tuple #[]) ∧ (Lib.BuilderAt 37 5 B b (.pointer (some ⟨b, 0, none⟩)) [] w' ∧ Below B w w') := Any.Builder_grow_fresh Tryd.lays241 Tryd.Builder_Extra_241 B b n w hB hbk hBw hn
def Tryd.lays165_ren : Go.Shelf.Ren := ⟨fun | 165 => 10 | 240 => 16 | 241 => 17 | 276 => 23 | 277 => 24 | n => n, fun | 70 => 34 | 3 => 3 | 0 => 0 | 4 => 4 | 9 => 9 | 20 => 20 | 72 => 37 | 37 => 35 | 164 => 61 | 5 => 5 | n => n, fun | n => n⟩
theorem Tryd.lays165 : Go.Proofs.Lays.n165 Tryd.prog Tryd.lays165_ren := {
  mixed := by kernel_rfl
  f165 := Tryd.func10.trans (congrArg some (by kernel_rfl))
  f240 := Tryd.func16.trans (congrArg some (by kernel_rfl))
  f241 := Tryd.func17.trans (congrArg some (by kernel_rfl))
  f276 := Tryd.func23.trans (congrArg some (by kernel_rfl))
  f277 := Tryd.func24.trans (congrArg some (by kernel_rfl))
  t0 := Tryd.underlying0
  a0 := Tryd.isAgg0
  z0 := Tryd.sizeOf0
  v0 := Tryd.zeroValue0
  t3 := Tryd.underlying3
  a3 := Tryd.isAgg3
  z3 := Tryd.sizeOf3
  v3 := Tryd.zeroValue3
  t4 := Tryd.underlying4
  a4 := Tryd.isAgg4
  z4 := Tryd.sizeOf4
  v4 := Tryd.zeroValue4
  t9 := Tryd.underlying9
  a9 := Tryd.isAgg9
  z9 := Tryd.sizeOf9
  v9 := Tryd.zeroValue9
  t20 := Tryd.underlying20
  a20 := Tryd.isAgg20
  z20 := Tryd.sizeOf20
  v20 := Tryd.zeroValue20
  t37 := Tryd.underlying35
  a37 := Tryd.isAgg35
  z37 := Tryd.sizeOf35
  v37 := Tryd.zeroValue35
  t70 := Tryd.underlying34
  a70 := Tryd.isAgg34
  z70 := Tryd.sizeOf34
  v70 := Tryd.zeroValue34
  t72 := Tryd.underlying37
  a72 := Tryd.isAgg37
  z72 := Tryd.sizeOf37
  v72 := Tryd.zeroValue37
  t164 := Tryd.underlying61
  a164 := Tryd.isAgg61
  z164 := Tryd.sizeOf61
  v164 := Tryd.zeroValue61 }
theorem Tryd.Builder_Extra_165 : Builder.Extra Tryd.prog Tryd.lays165_ren := {
  sizeBuilder := by kernel_rfl
  liesBuilder := by kernel_rfl
  t5 := Tryd.underlying5
  a5 := Tryd.isAgg5
  z5 := Tryd.sizeOf5
  v5 := Tryd.zeroValue5
  infoByte := by kernel_rfl
  cellsByte := by kernel_rfl
  sizeByte := by kernel_rfl
  neB5 := by decide }
open Go.RowKit in
/-- (*strings.Builder).Grow AT A BUILDER THAT HAS NOT BEEN WRITTEN ('var b strings.Builder; b.Grow(n)'): "Grow grows b's capacity, if necessary, to guarantee space for another n bytes.": it holds no byte behind it as before it. (LAID: no walk: one application.) -/
theorem Tryd.Builder_Grow_fresh (B b n : Nat) (w : World) (hB : B ≤ b) (hbk : w.heap[b]? = some (.cells #[.pointer none, .slice none 0 0] 37 (0, 0))) (hBw : B ≤ w.heap.size) (hn : n ≤ 281474976710656) :
    Calls Tryd.prog 10 #[.pointer (some ⟨b, 0, none⟩), .int .i64 n] w fun e w' => e = .returned (.tuple #[]) ∧ (Lib.BuilderAt 37 5 B b (.pointer (some ⟨b, 0, none⟩)) [] w' ∧ Below B w w') := Any.Builder_Grow_fresh Tryd.lays165 Tryd.Builder_Extra_165 B b n w hB hbk hBw hn
def Tryd.lays156_ren : Go.Shelf.Ren := ⟨fun | 156 => 5 | 165 => 10 | 166 => 11 | 169 => 12 | 240 => 16 | 241 => 17 | 276 => 23 | 277 => 24 | n => n, fun | 31 => 22 | 9 => 9 | 3 => 3 | 4 => 4 | 0 => 0 | 20 => 20 | 72 => 37 | 76 => 41 | 70 => 34 | 37 => 35 | 75 => 40 | 127 => 53 | 164 => 61 | 5 => 5 | 80 => 43 | n => n, fun | n => n⟩
theorem Tryd.lays156 : Go.Proofs.Lays.n156 Tryd.prog Tryd.lays156_ren := {
  mixed := by kernel_rfl
  f156 := Tryd.func5.trans (congrArg some (by kernel_rfl))
  f165 := Tryd.func10.trans (congrArg some (by kernel_rfl))
  f166 := Tryd.func11.trans (congrArg some (by kernel_rfl))
  f169 := Tryd.func12.trans (congrArg some (by kernel_rfl))
  f240 := Tryd.func16.trans (congrArg some (by kernel_rfl))
  f241 := Tryd.func17.trans (congrArg some (by kernel_rfl))
  f276 := Tryd.func23.trans (congrArg some (by kernel_rfl))
  f277 := Tryd.func24.trans (congrArg some (by kernel_rfl))
  t0 := Tryd.underlying0
  a0 := Tryd.isAgg0
  z0 := Tryd.sizeOf0
  v0 := Tryd.zeroValue0
  t3 := Tryd.underlying3
  a3 := Tryd.isAgg3
  z3 := Tryd.sizeOf3
  v3 := Tryd.zeroValue3
  t4 := Tryd.underlying4
  a4 := Tryd.isAgg4
  z4 := Tryd.sizeOf4
  v4 := Tryd.zeroValue4
  t9 := Tryd.underlying9
  a9 := Tryd.isAgg9
  z9 := Tryd.sizeOf9
  v9 := Tryd.zeroValue9
  t20 := Tryd.underlying20
  a20 := Tryd.isAgg20
  z20 := Tryd.sizeOf20
  v20 := Tryd.zeroValue20
  t31 := Tryd.underlying22
  a31 := Tryd.isAgg22
  z31 := Tryd.sizeOf22
  v31 := Tryd.zeroValue22
  t37 := Tryd.underlying35
  a37 := Tryd.isAgg35
  z37 := Tryd.sizeOf35
  v37 := Tryd.zeroValue35
  t70 := Tryd.underlying34
  a70 := Tryd.isAgg34
  z70 := Tryd.sizeOf34
  v70 := Tryd.zeroValue34
  t72 := Tryd.underlying37
  a72 := Tryd.isAgg37
  z72 := Tryd.sizeOf37
  v72 := Tryd.zeroValue37
  t75 := Tryd.underlying40
  a75 := Tryd.isAgg40
  z75 := Tryd.sizeOf40
  v75 := Tryd.zeroValue40
  t76 := Tryd.underlying41
  a76 := Tryd.isAgg41
  z76 := Tryd.sizeOf41
  v76 := Tryd.zeroValue41
  t127 := Tryd.underlying53
  a127 := Tryd.isAgg53
  z127 := Tryd.sizeOf53
  v127 := Tryd.zeroValue53
  t164 := Tryd.underlying61
  a164 := Tryd.isAgg61
  z164 := Tryd.sizeOf61
  v164 := Tryd.zeroValue61 }
theorem Tryd.Builder_Extra_156 : Builder.Extra Tryd.prog Tryd.lays156_ren := {
  sizeBuilder := by kernel_rfl
  liesBuilder := by kernel_rfl
  t5 := Tryd.underlying5
  a5 := Tryd.isAgg5
  z5 := Tryd.sizeOf5
  v5 := Tryd.zeroValue5
  infoByte := by kernel_rfl
  cellsByte := by kernel_rfl
  sizeByte := by kernel_rfl
  neB5 := by decide }
open Go.RowKit in
/-- No element: the empty string; the world is as it was. (Whatever the slice's address and capacity: a nil slice too.) (LAID: no walk: one application.) -/
theorem Tryd.strings_Join_none (a : Option Addr) (c : Nat) (sep : ByteArray) (w : World) :
    Calls Tryd.prog 5 #[.slice a 0 c, .string sep] w fun e w' => e = .returned (.string ⟨#[]⟩) ∧ w' = w := Any.strings_Join_none Tryd.lays156 Tryd.Builder_Extra_156 a c sep w
open Go.RowKit in
/-- strings.Join: "Join concatenates the elements of its first argument to create a single string. The separator string sep is placed between elements in the resulting string.": HOWEVER MANY ELEMENTS. Below the heap's end the world is as it was. (LAID: no walk: one application.) -/
theorem Tryd.strings_Join (bk o c : Nat) (xs : List ByteArray) (sep : ByteArray) (w : World) (hcells : ∀ (j : Nat) x, xs[j]? = some x → w.cell? ⟨bk, o + j, none⟩ = some (.string x)) (hbk : bk < w.heap.size) (hN : xs.length ≤ 140737488355328) (hcap : xs.length ≤ c) (hlen : (Lib.join (xs.map (·.data.toList)) sep.data.toList).length ≤ 140737488355328) :
    Calls Tryd.prog 5 #[.slice (some ⟨bk, o, none⟩) xs.length c, .string sep] w fun e w' => e = .returned (.string ⟨(Lib.join (xs.map (·.data.toList)) sep.data.toList).toArray⟩) ∧ Below w.heap.size w w' := Any.strings_Join Tryd.lays156 Tryd.Builder_Extra_156 bk o c xs sep w hcells hbk hN hcap hlen
open Go.RowKit in
/-- (*strings.Builder).Len: "Len returns the number of accumulated bytes; b.Len() == len(b.String()).": the world is as it was. (THE FORM '_f': 'Lib.IsBuilderF'.) (LAID: no walk: one application.) -/
theorem Tryd.Builder_Len_f (B b : Nat) (bs : List Value) (w : World) (h : Lib.IsBuilderF 37 5 B b bs w) :
    Calls Tryd.prog 27 #[.pointer (some ⟨b, 0, none⟩)] w fun e w' => e = .returned (.int .i64 bs.length) ∧ w' = w := Any.Builder_Len_f Tryd.lays170 B b bs w h
open Go.RowKit in
/-- (*strings.Builder).String: "String returns the accumulated string.": OF A BUILDER THAT HOLDS AT LEAST ONE BYTE. ✋ THE MODEL FREEZES THOSE BYTES IN THE BUFFER (unsafe.String): a later write INTO them ends the model's run without an answer; a later append BEHIND them goes on. The statement's order of evaluation is drawn: one draw. THE FORM '_f': IT SAYS BESIDES THAT THE BUILDER IS A BUILDER STILL ('Lib.IsBuilderF', the same bytes): SO IT CAN BE WRITTEN ON: 'b.WriteString(b.String()[:k])'. (LAID: no walk: one application.) -/
theorem Tryd.Builder_String_f (B b : Nat) (l : List UInt8) (w : World) (h : Lib.IsBuilderF 37 5 B b (Lib.byteCells l) w) (h0 : l ≠ []) :
    Calls Tryd.prog 12 #[.pointer (some ⟨b, 0, none⟩)] w fun e w' => e = .returned (.string ⟨l.toArray⟩) ∧ (Lib.IsBuilderF 37 5 B b (Lib.byteCells l) w' ∧ Below B w w') := Any.Builder_String_f Tryd.lays169 Tryd.Builder_Extra_169 B b l w h h0
open Go.RowKit in
/-- (*strings.Builder).String OF A BUILDER THAT HOLDS NO BYTE: the empty string; THE FORM '_f': a builder still. (LAID: no walk: one application.) -/
theorem Tryd.Builder_String_empty_f (B b : Nat) (w : World) (h : Lib.IsBuilderF 37 5 B b [] w) (hBw : B ≤ w.heap.size) :
    Calls Tryd.prog 12 #[.pointer (some ⟨b, 0, none⟩)] w fun e w' => e = .returned (.string ⟨#[]⟩) ∧ (Lib.IsBuilderF 37 5 B b [] w' ∧ Below B w w') := Any.Builder_String_empty_f Tryd.lays169 Tryd.Builder_Extra_169 B b w h hBw
open Go.RowKit in
/-- (*strings.Builder).String: "String returns the accumulated string.": WHATEVER THE BUILDER HOLDS; THE FORM '_f': OF A BUILDER THAT MAY HAVE BEEN READ BEFORE; AND IT IS A BUILDER STILL, holding the same bytes: it can be written on. (LAID: no walk: one application.) -/
theorem Tryd.Builder_String_any_f (B b : Nat) (l : List UInt8) (w : World) (h : Lib.IsBuilderF 37 5 B b (Lib.byteCells l) w) (hBw : B ≤ w.heap.size) :
    Calls Tryd.prog 12 #[.pointer (some ⟨b, 0, none⟩)] w fun e w' => e = .returned (.string ⟨l.toArray⟩) ∧ (Lib.IsBuilderF 37 5 B b (Lib.byteCells l) w' ∧ Below B w w') := Any.Builder_String_any_f Tryd.lays169 Tryd.Builder_Extra_169 B b l w h hBw
open Go.RowKit in
/-- (*strings.Builder).String: "String returns the accumulated string.": OF A BUILDER THAT HOLDS AT LEAST ONE BYTE. ✋ THE MODEL FREEZES THOSE BYTES IN THE BUFFER (unsafe.String): a later write INTO them ends the model's run without an answer; a later append BEHIND them goes on. The statement's order of evaluation is drawn: one draw. THE FORM '_k': OVER 'Lib.IsBuilderF' (a builder that 'String()' may have read), AND WITH THE FRAME THAT REACHES ABOVE THE BUILDER: 'Lib.OthersKept': every block that is not b and is no row of uint8's stands as it stood: the iterator of a range among them. (LAID: no walk: one application.) -/
theorem Tryd.Builder_String_k (B b : Nat) (l : List UInt8) (w : World) (h : Lib.IsBuilderF 37 5 B b (Lib.byteCells l) w) (h0 : l ≠ []) :
    Calls Tryd.prog 12 #[.pointer (some ⟨b, 0, none⟩)] w fun e w' => e = .returned (.string ⟨l.toArray⟩) ∧ (Lib.IsBuilderF 37 5 B b (Lib.byteCells l) w' ∧ Below B w w' ∧ Lib.OthersKept 5 (some b) w w') := Any.Builder_String_k Tryd.lays169 Tryd.Builder_Extra_169 B b l w h h0
open Go.RowKit in
/-- (*strings.Builder).String OF A BUILDER THAT HOLDS NO BYTE: the empty string; THE FORM '_k': OVER 'Lib.IsBuilderF' (a builder that 'String()' may have read), AND WITH THE FRAME THAT REACHES ABOVE THE BUILDER: 'Lib.OthersKept': every block that is not b and is no row of uint8's stands as it stood: the iterator of a range among them. (LAID: no walk: one application.) -/
theorem Tryd.Builder_String_empty_k (B b : Nat) (w : World) (h : Lib.IsBuilderF 37 5 B b [] w) (hBw : B ≤ w.heap.size) :
    Calls Tryd.prog 12 #[.pointer (some ⟨b, 0, none⟩)] w fun e w' => e = .returned (.string ⟨#[]⟩) ∧ (Lib.IsBuilderF 37 5 B b [] w' ∧ Below B w w' ∧ Lib.OthersKept 5 (some b) w w') := Any.Builder_String_empty_k Tryd.lays169 Tryd.Builder_Extra_169 B b w h hBw
open Go.RowKit in
/-- (*strings.Builder).String: "String returns the accumulated string.": WHATEVER THE BUILDER HOLDS; THE FORM '_k': OVER 'Lib.IsBuilderF' (a builder that 'String()' may have read), AND WITH THE FRAME THAT REACHES ABOVE THE BUILDER: 'Lib.OthersKept': every block that is not b and is no row of uint8's stands as it stood: the iterator of a range among them. (LAID: no walk: one application.) -/
theorem Tryd.Builder_String_any_k (B b : Nat) (l : List UInt8) (w : World) (h : Lib.IsBuilderF 37 5 B b (Lib.byteCells l) w) (hBw : B ≤ w.heap.size) :
    Calls Tryd.prog 12 #[.pointer (some ⟨b, 0, none⟩)] w fun e w' => e = .returned (.string ⟨l.toArray⟩) ∧ (Lib.IsBuilderF 37 5 B b (Lib.byteCells l) w' ∧ Below B w w' ∧ Lib.OthersKept 5 (some b) w w') := Any.Builder_String_any_k Tryd.lays169 Tryd.Builder_Extra_169 B b l w h hBw
open Go.RowKit in
/-- (*strings.Builder).grow (no doc but "grow copies the buffer to a new, larger buffer so that there are at least n bytes of capacity beyond len(b.buf)."): AT A BUILDER WITHOUT A BUFFER: a new row of whatever bytes for its buffer, none of them its own yet. Three draws. (LAID: no walk: one application.) -/
theorem Tryd.Builder_grow_fresh_cap (B b n : Nat) (w : World) (hB : B ≤ b) (hbk : w.heap[b]? = some (.cells #[.pointer (some ⟨b, 0, none⟩), .slice none 0 0] 37 (0, 0))) (hBw : B ≤ w.heap.size) (hn : n ≤ 281474976710656) :
    Calls Tryd.prog 17 #[.pointer (some ⟨b, 0, none⟩), .int .i64 n] w fun e w' => e = .returned (.tuple #[]) ∧ (Lib.BuilderAt 37 5 B b (.pointer (some ⟨b, 0, none⟩)) [] w' ∧ Below B w w') ∧ ∃ p cap, w'.cell? ⟨b, 1, none⟩ = some (.slice p 0 cap) ∧ n ≤ cap := Any.Builder_grow_fresh_cap Tryd.lays241 Tryd.Builder_Extra_241 B b n w hB hbk hBw hn
open Go.RowKit in
/-- (*strings.Builder).Grow AT A BUILDER THAT HAS NOT BEEN WRITTEN ('var b strings.Builder; b.Grow(n)'): "Grow grows b's capacity, if necessary, to guarantee space for another n bytes.": it holds no byte behind it as before it. (LAID: no walk: one application.) -/
theorem Tryd.Builder_Grow_fresh_cap (B b n : Nat) (w : World) (hB : B ≤ b) (hbk : w.heap[b]? = some (.cells #[.pointer none, .slice none 0 0] 37 (0, 0))) (hBw : B ≤ w.heap.size) (hn : n ≤ 281474976710656) :
    Calls Tryd.prog 10 #[.pointer (some ⟨b, 0, none⟩), .int .i64 n] w fun e w' => e = .returned (.tuple #[]) ∧ (Lib.BuilderAt 37 5 B b (.pointer (some ⟨b, 0, none⟩)) [] w' ∧ Below B w w') ∧ ∃ p cap, w'.cell? ⟨b, 1, none⟩ = some (.slice p 0 cap) ∧ n ≤ cap := Any.Builder_Grow_fresh_cap Tryd.lays165 Tryd.Builder_Extra_165 B b n w hB hbk hBw hn
def Tryd.lays206_ren : Go.Shelf.Ren := ⟨fun | 206 => 30 | n => n, fun | 9 => 9 | 4 => 4 | 3 => 3 | n => n, fun | n => n⟩
theorem Tryd.lays206 : Go.Proofs.Lays.n206 Tryd.prog Tryd.lays206_ren := {
  mixed := by kernel_rfl
  f206 := Tryd.func30.trans (congrArg some (by kernel_rfl))
  t3 := Tryd.underlying3
  a3 := Tryd.isAgg3
  z3 := Tryd.sizeOf3
  v3 := Tryd.zeroValue3
  t4 := Tryd.underlying4
  a4 := Tryd.isAgg4
  z4 := Tryd.sizeOf4
  v4 := Tryd.zeroValue4
  t9 := Tryd.underlying9
  a9 := Tryd.isAgg9
  z9 := Tryd.sizeOf9
  v9 := Tryd.zeroValue9 }
open Go.RowKit Go.Lib in
/-- internal/stringslite.HasPrefix (what strings.HasPrefix calls). (LAID: no walk: one application.) -/
theorem Tryd.stringslite_HasPrefix (s p : ByteArray) (w : World) :
    Calls Tryd.prog 30 #[.string s, .string p] w fun e w' => e = .returned (.bool (Lib.hasPrefix s.data.toList p.data.toList)) ∧ w' = w := Any.stringslite_HasPrefix Tryd.lays206 s p w
def Tryd.lays99_ren : Go.Shelf.Ren := ⟨fun | 99 => 26 | 206 => 30 | n => n, fun | 9 => 9 | 4 => 4 | 3 => 3 | n => n, fun | n => n⟩
theorem Tryd.lays99 : Go.Proofs.Lays.n99 Tryd.prog Tryd.lays99_ren := {
  mixed := by kernel_rfl
  f99 := Tryd.func26.trans (congrArg some (by kernel_rfl))
  f206 := Tryd.func30.trans (congrArg some (by kernel_rfl))
  t3 := Tryd.underlying3
  a3 := Tryd.isAgg3
  z3 := Tryd.sizeOf3
  v3 := Tryd.zeroValue3
  t4 := Tryd.underlying4
  a4 := Tryd.isAgg4
  z4 := Tryd.sizeOf4
  v4 := Tryd.zeroValue4
  t9 := Tryd.underlying9
  a9 := Tryd.isAgg9
  z9 := Tryd.sizeOf9
  v9 := Tryd.zeroValue9 }
open Go.RowKit Go.Lib in
/-- strings.HasPrefix: "HasPrefix reports whether the string s begins with prefix.": IT RETURNS 'Lib.hasPrefix s prefix'; the world is as it was. (LAID: no walk: one application.) -/
theorem Tryd.strings_HasPrefix (s p : ByteArray) (w : World) :
    Calls Tryd.prog 26 #[.string s, .string p] w fun e w' => e = .returned (.bool (Lib.hasPrefix s.data.toList p.data.toList)) ∧ w' = w := Any.strings_HasPrefix Tryd.lays99 s p w
def Tryd.lays264_ren : Go.Shelf.Ren := ⟨fun | 264 => 29 | n => n, fun | 53 => 52 | 46 => 54 | n => n, fun | n => n⟩
theorem Tryd.lays264 : Go.Proofs.Lays.n264 Tryd.prog Tryd.lays264_ren := {
  mixed := by kernel_rfl
  f264 := Tryd.func29.trans (congrArg some (by kernel_rfl))
  t46 := Tryd.underlying54
  a46 := Tryd.isAgg54
  z46 := Tryd.sizeOf54
  v46 := Tryd.zeroValue54
  t53 := Tryd.underlying52
  a53 := Tryd.isAgg52
  z53 := Tryd.sizeOf52
  v53 := Tryd.zeroValue52 }
open Go.RowKit Go.Lib in
theorem Tryd.bits_Mul64 (x y : Nat) (hx : x < 18446744073709551616) (hy : y < 18446744073709551616) (w : World) :
    Calls Tryd.prog 29 #[.int .u64 x, .int .u64 y] w fun e w' => e = .returned (.tuple #[.int .u64 ((x * y / 18446744073709551616 : Nat) : Int), .int .u64 ((x * y % 18446744073709551616 : Nat) : Int)]) ∧ w' = w := Any.bits_Mul64 Tryd.lays264 x y hx hy w
def Tryd.lays212_ren : Go.Shelf.Ren := ⟨fun | 212 => 25 | 263 => 28 | 264 => 29 | n => n, fun | 46 => 54 | 51 => 44 | 146 => 68 | 53 => 52 | 148 => 70 | n => n, fun | n => n⟩
theorem Tryd.lays212 : Go.Proofs.Lays.n212 Tryd.prog Tryd.lays212_ren := {
  mixed := by kernel_rfl
  f212 := Tryd.func25.trans (congrArg some (by kernel_rfl))
  f263 := Tryd.func28.trans (congrArg some (by kernel_rfl))
  f264 := Tryd.func29.trans (congrArg some (by kernel_rfl))
  t46 := Tryd.underlying54
  a46 := Tryd.isAgg54
  z46 := Tryd.sizeOf54
  v46 := Tryd.zeroValue54
  t51 := Tryd.underlying44
  a51 := Tryd.isAgg44
  z51 := Tryd.sizeOf44
  v51 := Tryd.zeroValue44
  t53 := Tryd.underlying52
  a53 := Tryd.isAgg52
  z53 := Tryd.sizeOf52
  v53 := Tryd.zeroValue52
  t146 := Tryd.underlying68
  a146 := Tryd.isAgg68
  z146 := Tryd.sizeOf68
  v146 := Tryd.zeroValue68
  t148 := Tryd.underlying70
  a148 := Tryd.isAgg70
  z148 := Tryd.sizeOf70
  v148 := Tryd.zeroValue70 }
open Go.RowKit Go.Lib in
/-- math/bits.Mul: "Mul returns the full-width product of x and y": on a machine of 64 bits: Mul64's. (LAID: no walk: one application.) -/
theorem Tryd.bits_Mul (x y : Nat) (hx : x < 18446744073709551616) (hy : y < 18446744073709551616) (w : World) :
    Calls Tryd.prog 25 #[.int .u64 x, .int .u64 y] w fun e w' => e = .returned (.tuple #[.int .u64 ((x * y / 18446744073709551616 : Nat) : Int), .int .u64 ((x * y % 18446744073709551616 : Nat) : Int)]) ∧ w' = w := Any.bits_Mul Tryd.lays212 x y hx hy w
def Tryd.lays105_ren : Go.Shelf.Ren := ⟨fun | 105 => 18 | 212 => 25 | 99 => 26 | 165 => 10 | 166 => 11 | 170 => 27 | 169 => 12 | 263 => 28 | 264 => 29 | 206 => 30 | 240 => 16 | 241 => 17 | 276 => 23 | 277 => 24 | n => n, fun | 9 => 9 | 3 => 3 | 4 => 4 | 20 => 20 | 0 => 0 | 46 => 54 | 109 => 64 | 5 => 5 | 72 => 37 | 76 => 41 | 51 => 44 | 146 => 68 | 53 => 52 | 148 => 70 | 70 => 34 | 37 => 35 | 75 => 40 | 127 => 53 | 164 => 61 | 80 => 43 | n => n, fun | n => n⟩
theorem Tryd.lays105 : Go.Proofs.Lays.n105 Tryd.prog Tryd.lays105_ren := {
  mixed := by kernel_rfl
  f99 := Tryd.func26.trans (congrArg some (by kernel_rfl))
  f105 := Tryd.func18.trans (congrArg some (by kernel_rfl))
  f165 := Tryd.func10.trans (congrArg some (by kernel_rfl))
  f166 := Tryd.func11.trans (congrArg some (by kernel_rfl))
  f169 := Tryd.func12.trans (congrArg some (by kernel_rfl))
  f170 := Tryd.func27.trans (congrArg some (by kernel_rfl))
  f206 := Tryd.func30.trans (congrArg some (by kernel_rfl))
  f212 := Tryd.func25.trans (congrArg some (by kernel_rfl))
  f240 := Tryd.func16.trans (congrArg some (by kernel_rfl))
  f241 := Tryd.func17.trans (congrArg some (by kernel_rfl))
  f263 := Tryd.func28.trans (congrArg some (by kernel_rfl))
  f264 := Tryd.func29.trans (congrArg some (by kernel_rfl))
  f276 := Tryd.func23.trans (congrArg some (by kernel_rfl))
  f277 := Tryd.func24.trans (congrArg some (by kernel_rfl))
  t0 := Tryd.underlying0
  a0 := Tryd.isAgg0
  z0 := Tryd.sizeOf0
  v0 := Tryd.zeroValue0
  t3 := Tryd.underlying3
  a3 := Tryd.isAgg3
  z3 := Tryd.sizeOf3
  v3 := Tryd.zeroValue3
  t4 := Tryd.underlying4
  a4 := Tryd.isAgg4
  z4 := Tryd.sizeOf4
  v4 := Tryd.zeroValue4
  t5 := Tryd.underlying5
  a5 := Tryd.isAgg5
  z5 := Tryd.sizeOf5
  v5 := Tryd.zeroValue5
  t9 := Tryd.underlying9
  a9 := Tryd.isAgg9
  z9 := Tryd.sizeOf9
  v9 := Tryd.zeroValue9
  t20 := Tryd.underlying20
  a20 := Tryd.isAgg20
  z20 := Tryd.sizeOf20
  v20 := Tryd.zeroValue20
  t37 := Tryd.underlying35
  a37 := Tryd.isAgg35
  z37 := Tryd.sizeOf35
  v37 := Tryd.zeroValue35
  t46 := Tryd.underlying54
  a46 := Tryd.isAgg54
  z46 := Tryd.sizeOf54
  v46 := Tryd.zeroValue54
  t51 := Tryd.underlying44
  a51 := Tryd.isAgg44
  z51 := Tryd.sizeOf44
  v51 := Tryd.zeroValue44
  t53 := Tryd.underlying52
  a53 := Tryd.isAgg52
  z53 := Tryd.sizeOf52
  v53 := Tryd.zeroValue52
  t70 := Tryd.underlying34
  a70 := Tryd.isAgg34
  z70 := Tryd.sizeOf34
  v70 := Tryd.zeroValue34
  t72 := Tryd.underlying37
  a72 := Tryd.isAgg37
  z72 := Tryd.sizeOf37
  v72 := Tryd.zeroValue37
  t75 := Tryd.underlying40
  a75 := Tryd.isAgg40
  z75 := Tryd.sizeOf40
  v75 := Tryd.zeroValue40
  t76 := Tryd.underlying41
  a76 := Tryd.isAgg41
  z76 := Tryd.sizeOf41
  v76 := Tryd.zeroValue41
  t109 := Tryd.underlying64
  a109 := Tryd.isAgg64
  z109 := Tryd.sizeOf64
  v109 := Tryd.zeroValue64
  t127 := Tryd.underlying53
  a127 := Tryd.isAgg53
  z127 := Tryd.sizeOf53
  v127 := Tryd.zeroValue53
  t146 := Tryd.underlying68
  a146 := Tryd.isAgg68
  z146 := Tryd.sizeOf68
  v146 := Tryd.zeroValue68
  t148 := Tryd.underlying70
  a148 := Tryd.isAgg70
  z148 := Tryd.sizeOf70
  v148 := Tryd.zeroValue70
  t164 := Tryd.underlying61
  a164 := Tryd.isAgg61
  z164 := Tryd.sizeOf61
  v164 := Tryd.zeroValue61 }
theorem Tryd.Builder_Extra_105 : Builder.Extra Tryd.prog Tryd.lays105_ren := {
  sizeBuilder := by kernel_rfl
  liesBuilder := by kernel_rfl
  t5 := Tryd.underlying5
  a5 := Tryd.isAgg5
  z5 := Tryd.sizeOf5
  v5 := Tryd.zeroValue5
  infoByte := by kernel_rfl
  cellsByte := by kernel_rfl
  sizeByte := by kernel_rfl
  neB5 := by decide }
open Go.RowKit Go.Lib in
/-- THE MAIN CASE: at least two copies of a string that is not empty. (LAID: no walk: one application.) -/
theorem Tryd.strings_Repeat_main (s : ByteArray) (c : Nat) (w : World) (hc2 : 2 ≤ c) (hc : c ≤ 9223372036854775807) (hlen : s.size * c ≤ 140737488355328) (h0 : 0 < s.size) :
    Calls Tryd.prog 18 #[.string s, .int .i64 c] w fun e w' => e = .returned (.string ⟨(Lib.repeatL s.data.toList c).toArray⟩) ∧ Below w.heap.size w w' := Any.strings_Repeat_main Tryd.lays105 Tryd.Builder_Extra_105 s c w hc2 hc hlen h0
open Go.RowKit Go.Lib in
theorem Tryd.strings_Repeat_zero (s : ByteArray) (w : World) :
    Calls Tryd.prog 18 #[.string s, .int .i64 0] w fun e w' => e = .returned (.string ⟨#[]⟩) ∧ w' = w := Any.strings_Repeat_zero Tryd.lays105 s w
open Go.RowKit Go.Lib in
theorem Tryd.strings_Repeat_one (s : ByteArray) (w : World) :
    Calls Tryd.prog 18 #[.string s, .int .i64 1] w fun e w' => e = .returned (.string s) ∧ w' = w := Any.strings_Repeat_one Tryd.lays105 s w
open Go.RowKit Go.Lib in
/-- Copies of the empty string. (LAID: no walk: one application.) -/
theorem Tryd.strings_Repeat_empty (s : ByteArray) (c : Nat) (w : World) (hc2 : 2 ≤ c) (hc : c ≤ 9223372036854775807) (h0 : s.size = 0) :
    Calls Tryd.prog 18 #[.string s, .int .i64 c] w fun e w' => e = .returned (.string ⟨#[]⟩) ∧ w' = w := Any.strings_Repeat_empty Tryd.lays105 s c w hc2 hc h0
open Go.RowKit Go.Lib in
/-- count < 0: "It panics if count is negative". (LAID: no walk: one application.) -/
theorem Tryd.strings_Repeat_negative (s : ByteArray) (c : Int) (w : World) (hc : c < 0) :
    Calls Tryd.prog 18 #[.string s, .int .i64 c] w fun e w' => e = .panicked [{ v := repeatPanic Tryd.lays105_ren "strings: negative Repeat count", recovered := false }] ∧ w' = w := Any.strings_Repeat_negative Tryd.lays105 s c w hc
open Go.RowKit Go.Lib in
/-- len(s) * count is no int: ".. or if the result of (len(s) * count) overflows". (LAID: no walk: one application.) -/
theorem Tryd.strings_Repeat_overflow (s : ByteArray) (c : Nat) (w : World) (hc : c ≤ 9223372036854775807) (hs : s.size ≤ 9223372036854775807) (hbig : 9223372036854775807 < s.size * c) :
    Calls Tryd.prog 18 #[.string s, .int .i64 c] w fun e w' => e = .panicked [{ v := repeatPanic Tryd.lays105_ren "strings: Repeat output length overflow", recovered := false }] ∧ w' = w := Any.strings_Repeat_overflow Tryd.lays105 s c w hc hs hbig
open Go.RowKit Go.Lib in
/-- **strings.Repeat: count ≥ 0, the result within one allocation: count copies of s.** (LAID: no walk: one application.) -/
theorem Tryd.strings_Repeat (s : ByteArray) (c : Nat) (w : World) (hc : c ≤ 9223372036854775807) (hlen : s.size * c ≤ 140737488355328) :
    Calls Tryd.prog 18 #[.string s, .int .i64 c] w fun e w' => e = .returned (.string ⟨(Lib.repeatL s.data.toList c).toArray⟩) ∧ Below w.heap.size w w' := Any.strings_Repeat Tryd.lays105 Tryd.Builder_Extra_105 s c w hc hlen
end Go.Proofs

/- The library's joining and repeating of texts, as contracts. -/
namespace Go.Proofs.YtainieginijaaaaDoor
open Go Go.RowKit

def joinS (xs : List ByteArray) (sep : ByteArray) : ByteArray := ⟨(Lib.join (xs.map (·.data.toList)) sep.data.toList).toArray⟩
def repS (s : ByteArray) (c : Int) : ByteArray := ⟨(Lib.repeatL s.data.toList c.toNat).toArray⟩

theorem kept_below {w w' : World} (h : Below w.heap.size w w') : Kept w w' := ⟨h.os, h.tape, h.output, h.size, h.block⟩

theorem toSize (l : List UInt8) : ByteArray.size ⟨l.toArray⟩ = l.length := by
  show l.toArray.size = l.length
  exact List.size_toArray ..

theorem strs_cells {P : Program} {O : Nat → Prop} {w : World} : ∀ {xs : List ByteArray} {L : List Value}, RepAll (fun cs x => Rep P .str .cells O w cs x) 1 L xs → ∀ (j : Nat) x, xs[j]? = some x → L[j]? = some (.string x)
  | [], _, _, j, x, hx => by simp at hx
  | y :: ys, L, h, j, x, hx => by
    cases L with
    | nil => obtain ⟨⟨h1, _⟩, _⟩ := h; simp at h1
    | cons u us =>
      obtain ⟨⟨h1, _⟩, h2⟩ := h
      cases j with
      | zero =>
        simp at hx h1
        simp [← hx, h1]
      | succ j =>
        simp at hx h2
        simpa using strs_cells h2 j x hx

noncomputable abbrev S_strings_Join : Spec := ⟨as_strings_Join, rs_strings_Join, fun x => (joinS x.1 x.2.1, ()), fun x => List.length x.1 ≤ 1000000 ∧ ByteArray.size (joinS x.1 x.2.1) ≤ 1000000, false⟩
theorem k_strings_Join : FnOk prog [] n_strings_Join S_strings_Join := by
  refine ⟨callable_of at_strings_Join (by kernel_rfl) (by kernel_rfl), (fun h => by cases h), fun O w vs x hO _ hx hp => ?_⟩
  obtain ⟨xs, sep, ⟨⟩⟩ := x
  obtain ⟨rest, cs, rfl, ⟨a, c, L, rfl, h2, h3, h4, h5, h6, h7⟩, rest', cs', rfl, ⟨rfl, hs⟩, hn⟩ := hx
  have hn : rest' = [] := hn
  subst hn
  have hp1 : xs.length ≤ 1000000 := hp.1
  have hp2 : (Lib.join (xs.map (·.data.toList)) sep.data.toList).length ≤ 1000000 := by
    have := hp.2
    unfold joinS at this
    rwa [toSize] at this
  have fin : ∀ e w', e = .returned (.string (joinS xs sep)) → Kept w w' → ∃ v, e = Ending.returned v ∧ Kept w w' ∧ Rep prog S_strings_Join.rs .result O w' [v] (S_strings_Join.g (xs, sep, ())) := by
    intro e w' he hk
    refine ⟨_, he, hk, ?_⟩
    refine ⟨[], [.string (joinS xs sep)], rfl, ⟨rfl, ?_⟩, rfl⟩
    show (joinS xs sep).size ≤ maxLen
    unfold joinS
    rw [toSize]
    exact Nat.le_trans hp2 (by decide)
  cases hx0 : xs with
  | nil =>
    subst hx0
    refine Calls.mono (Tryd.strings_Join_none a c sep w) fun e w' he => ?_
    exact fin e w' he.1 (by rw [he.2]; exact Kept.refl w)
  | cons x0 xr =>
    rw [← hx0]
    obtain ⟨ad, ha, hO', hb, hc⟩ := h6 (by rw [hx0]; exact List.cons_ne_nil _ _)
    subst ha
    obtain ⟨bk, o, sp⟩ := ad
    have hat : ∀ (j : Nat) x, xs[j]? = some x → w.cell? ((⟨bk, o, sp⟩ : Addr).add j) = some (.string x) := fun j x hx => hc j _ (strs_cells h5 j x hx)
    have hsp : sp = none := by
      have h0 := hat 0 x0 (by rw [hx0]; rfl)
      have e : (⟨bk, o, sp⟩ : Addr).add 0 = ⟨bk, o, sp⟩ := rfl
      rw [e] at h0
      unfold World.cell? at h0
      cases sp with
      | none => rfl
      | some q =>
        exfalso
        simp only [Option.isSome_some, if_true] at h0
        split at h0 <;> cases h0
    subst hsp
    have hcells : ∀ (j : Nat) x, xs[j]? = some x → w.cell? ⟨bk, o + j, none⟩ = some (.string x) := fun j x hx => by
      have h := hat j x hx
      unfold Addr.add at h
      split at h
      · next hj => subst hj; exact h
      · exact h
    exact Calls.mono (Tryd.strings_Join bk o c xs sep w hcells hb (by omega) h2 (Nat.le_trans hp2 (by decide))) fun e w' he => fin e w' he.1 (kept_below he.2)

noncomputable abbrev S_strings_Repeat : Spec := ⟨as_strings_Repeat, rs_strings_Repeat, fun x => (repS x.1 x.2.1, ()), fun x => (0 : Int) ≤ x.2.1 ∧ (x.2.1 : Int) ≤ 1000000 ∧ ByteArray.size x.1 = 1, false⟩
theorem k_strings_Repeat : FnOk prog [] n_strings_Repeat S_strings_Repeat := by
  refine ⟨callable_of at_strings_Repeat (by kernel_rfl) (by kernel_rfl), (fun h => by cases h), fun O w vs x hO _ hx hp => ?_⟩
  obtain ⟨s, c, ⟨⟩⟩ := x
  obtain ⟨rest, cs, rfl, ⟨rfl, hs⟩, rest', cs', rfl, ⟨rfl, hc⟩, hn⟩ := hx
  have hn : rest' = [] := hn
  subst hn
  have h0 : (0 : Int) ≤ c := hp.1
  have h1 : (c : Int) ≤ 1000000 := hp.2.1
  have hs1 : s.size = 1 := hp.2.2
  obtain ⟨n, hn⟩ : ∃ n : Nat, (n : Int) = c := ⟨Int.toNat c, Int.toNat_of_nonneg h0⟩
  subst hn
  have hlt : n ≤ 1000000 := Int.ofNat_le.1 h1
  refine Calls.mono (Tryd.strings_Repeat s n w (Nat.le_trans hlt (by decide)) (by rw [hs1, Nat.one_mul]; exact Nat.le_trans hlt (by decide))) fun e w' he => ?_
  refine ⟨_, he.1, kept_below he.2, ?_⟩
  have e : repS s (n : Int) = ⟨(Lib.repeatL s.data.toList n).toArray⟩ := rfl
  refine ⟨[], [.string (repS s n)], rfl, ⟨rfl, ?_⟩, rfl⟩
  show (repS s (n : Int)).size ≤ maxLen
  rw [e, toSize, Lib.repeatL_length]
  have : s.data.toList.length = 1 := hs1
  rw [this, Nat.mul_one]
  exact Nat.le_trans hlt (by decide)

end Go.Proofs.YtainieginijaaaaDoor

/- The trees of functions' bodies, as the evaluator prints them. -/
namespace Go.Proofs.YtainieginijaaaaDoor
open Go Go.RowKit

noncomputable abbrev fx_digest_blocks : Fx := { fn := f_digest_blocks, ann := { loops := [(5, { keep := [1, 3, 19] })], frz := [(1000005, [2, 3])] } }
noncomputable abbrev fx_digest_blocks_1 : Fx := { fn := f_digest_blocks_1, ann := { loops := [(0, { keep := [0, 1] })], frz := [(1000000, [2, 3])] } }
noncomputable abbrev fx_digest_Sum : Fx := { fn := f_digest_Sum, ann := { loops := [(7, { keep := [2, 3, 5, 15] })] } }
noncomputable abbrev X_digest_Sum : TabX := { D := { T := tyTab, F := [(n_digest_begins, S_digest_begins), (n_digest_words_over, S_digest_words_over), (n_strings_Join, S_strings_Join), (n_strings_Repeat, S_strings_Repeat)], R := [], ovl := [], G := gl }, inl := [(n_digest_blocks, fx_digest_blocks), (n_digest_blocks_1, fx_digest_blocks_1)] }
noncomputable abbrev M_digest_Sum : RMode := .data rs_digest_Sum
theorem x_digest_Sum (h_digest_begins : FnOk prog gl n_digest_begins S_digest_begins) (h_digest_words_over : FnOk prog gl n_digest_words_over S_digest_words_over) (h_strings_Join : FnOk prog gl n_strings_Join S_strings_Join) (h_strings_Repeat : FnOk prog gl n_strings_Repeat S_strings_Repeat) : XOk prog X_digest_Sum := xok (dok_add (dok_add (dok_add (dok_add (dok_nil tab_ok mixed_ok) h_strings_Repeat) h_strings_Join) h_digest_words_over) h_digest_begins) (by kernel_rfl) rows_nil (inl_add at_digest_blocks (by kernel_rfl) (inl_add at_digest_blocks_1 (by kernel_rfl) inl_nil)) ovl_nil
noncomputable def T_digest_Sum (l : den (Ty.slc Ty.str)) : TreeS :=
  TreeS.req True
  (TreeS.req (List.length l ≤ 1000000 ∧ ByteArray.size (joinS l { data := { toList := [] } }) ≤ 1000000)
    (TreeS.req (ge0 3)
      (TreeS.req
        (ByteArray.size (joinS l { data := { toList := [] } }) + ByteArray.size { data := { toList := [128] } } ≤
          1099511627776)
        (TreeS.req (nz 64)
          (TreeS.req (nz 64)
            (TreeS.req
              (0 ≤
                  Int.tmod
                    (IntKind.wrap IntKind.i64
                      (120 -
                        Int.tmod (sLen (joinS l { data := { toList := [] } } ++ { data := { toList := [128] } })) 64))
                    64 ∧
                Int.tmod
                      (IntKind.wrap IntKind.i64
                        (120 -
                          Int.tmod (sLen (joinS l { data := { toList := [] } } ++ { data := { toList := [128] } })) 64))
                      64 ≤
                    1000000 ∧
                  ByteArray.size { data := { toList := [0] } } = 1)
              (TreeS.req
                (ByteArray.size (joinS l { data := { toList := [] } } ++ { data := { toList := [128] } }) +
                    ByteArray.size
                      (repS { data := { toList := [0] } }
                        (Int.tmod
                          (IntKind.wrap IntKind.i64
                            (120 -
                              Int.tmod (sLen (joinS l { data := { toList := [] } } ++ { data := { toList := [128] } }))
                                64))
                          64)) ≤
                  1099511627776)
                (TreeS.loop
                  [{ fx := fx_digest_Sum, todo := afterOp f_digest_Sum 2 2, dst := some 10,
                      s := ofS [(2, K.ptr (0 + 1) tId []), (3, K.ptr (0 + 1 + 1) tDigestWords [])] }]
                  fx_digest_blocks (lp f_digest_blocks 5)
                  [(1, K.ptr 0 Ty.str []),
                    (3,
                      K.val (Ty.int IntKind.u64)
                        (IntKind.wrap IntKind.u64
                          (IntKind.wrap IntKind.u64 (sLen (joinS l { data := { toList := [] } })) *
                            2 ^ min (Int.toNat 3) (IntKind.bits IntKind.u64)))),
                    (19, K.val tInt 0)]
                  [(0,
                      Bx.cell Ty.str
                        (joinS l { data := { toList := [] } } ++ { data := { toList := [128] } } ++
                          repS { data := { toList := [0] } }
                            (Int.tmod
                              (IntKind.wrap IntKind.i64
                                (120 -
                                  Int.tmod
                                    (sLen (joinS l { data := { toList := [] } } ++ { data := { toList := [128] } }))
                                    64))
                              64))),
                    (0 + 1, Bx.cell tId (zero tId)), (0 + 1 + 1, Bx.cell tDigestWords g_begins)]))))))))
theorem T_digest_Sum_eq (l : den (Ty.slc Ty.str)) : treeS X_digest_Sum M_digest_Sum 5000 [] fx_digest_Sum (bodyOf f_digest_Sum) (Env.of
  (argEnv as_digest_Sum (l, ()) 0) []) = T_digest_Sum l := by kernel_rfl

noncomputable def Q_digest_Sum_digest_blocks_5 (v3 : den (Ty.int IntKind.u64)) (v19 : den tInt) (b0 : den Ty.str) (b1 : den tId) (b2 : den tDigestWords) : List Cont := [{
    fx := fx_digest_Sum, todo := afterOp f_digest_Sum 2 2, dst := some 10,
    s := ofS [(2, K.ptr (0 + 1) tId []), (3, K.ptr (0 + 1 + 1) tDigestWords [])] }]
noncomputable def E_digest_Sum_digest_blocks_5 (v3 : den (Ty.int IntKind.u64)) (v19 : den tInt) (b0 : den Ty.str) (b1 : den tId) (b2 : den tDigestWords) : Env := Env.of
  [(1, K.ptr 0 Ty.str []), (3, K.val (Ty.int IntKind.u64) v3), (19, K.val tInt v19)]
  [(0, Bx.cell Ty.str b0), (1, Bx.cell tId b1), (2, Bx.cell tDigestWords b2)]
noncomputable def TL_digest_Sum_digest_blocks_5 (v3 : den (Ty.int IntKind.u64)) (v19 : den tInt) (b0 : den Ty.str) (b1 : den tId) (b2 : den tDigestWords) : TreeS :=
  TreeS.ite (decide (v19 < 8))
  (TreeS.req (ge0 (IntKind.wrap IntKind.i64 (8 * IntKind.wrap IntKind.i64 (7 - v19))))
    (TreeS.req
      (ByteArray.size b0 +
          ByteArray.size
            (ofBytes
              (List.set (List.replicate 1 (zero (Ty.int IntKind.u8))) 0
                (IntKind.wrap IntKind.u8
                  (Int.fdiv v3
                    (2 ^
                      min (Int.toNat (IntKind.wrap IntKind.i64 (8 * IntKind.wrap IntKind.i64 (7 - v19))))
                        (IntKind.bits IntKind.u64)))))) ≤
        1099511627776)
      (TreeS.loop
        [{ fx := fx_digest_Sum, todo := afterOp f_digest_Sum 2 2, dst := some 10,
            s := ofS [(2, K.ptr (0 + 1) tId []), (3, K.ptr (0 + 1 + 1) tDigestWords [])] }]
        fx_digest_blocks (lp f_digest_blocks 5)
        [(1, K.ptr 0 Ty.str []), (3, K.val (Ty.int IntKind.u64) v3),
          (19, K.val tInt (IntKind.wrap IntKind.i64 (v19 + 1)))]
        [(0,
            Bx.cell Ty.str
              (b0 ++
                ofBytes
                  (List.set (List.replicate 1 (zero (Ty.int IntKind.u8))) 0
                    (IntKind.wrap IntKind.u8
                      (Int.fdiv v3
                        (2 ^
                          min (Int.toNat (IntKind.wrap IntKind.i64 (8 * IntKind.wrap IntKind.i64 (7 - v19))))
                            (IntKind.bits IntKind.u64))))))),
          (0 + 1, Bx.cell tId b1), (0 + 1 + 1, Bx.cell tDigestWords b2)])))
  (TreeS.loop
    [{ fx := fx_digest_Sum, todo := afterRange f_digest_Sum 4, dst := none,
        s := ofS [(2, K.ptr (0 + 1 + 1) tId []), (3, K.ptr (0 + 1 + 1 + 1) tDigestWords [])], rng := some 0 }]
    fx_digest_blocks_1 (lp f_digest_blocks_1 0) [(0, K.yld 0), (1, K.ptr (0 + 1) Ty.str [])]
    [(0,
        Bx.lop LoopState.ready none [(3, K.ptr (0 + 1 + 1 + 1) tDigestWords [])] 32 (rfPs f_digest_Sum 4)
          (rfAssign f_digest_Sum 4) (rfBody f_digest_Sum 4)),
      (0 + 1, Bx.cell Ty.str b0), (0 + 1 + 1, Bx.cell tId b1), (0 + 1 + 1 + 1, Bx.cell tDigestWords b2)])
theorem TL_digest_Sum_digest_blocks_5_eq (v3 : den (Ty.int IntKind.u64)) (v19 : den tInt) (b0 : den Ty.str) (b1 : den tId) (b2 : den tDigestWords) : treeS X_digest_Sum M_digest_Sum 5000 (Q_digest_Sum_digest_blocks_5 v3 v19 b0 b1 b2) fx_digest_blocks (lp f_digest_blocks 5) (E_digest_Sum_digest_blocks_5 v3 v19 b0 b1 b2) = TL_digest_Sum_digest_blocks_5 v3 v19 b0 b1 b2 := by kernel_rfl

noncomputable def Q_digest_Sum_digest_blocks_1_0 (b1 : den Ty.str) (b2 : den tId) (b3 : den tDigestWords) : List Cont := [{
    fx := fx_digest_Sum, todo := afterRange f_digest_Sum 4, dst := none,
    s := ofS [(2, K.ptr (0 + 1 + 1) tId []), (3, K.ptr (0 + 1 + 1 + 1) tDigestWords [])], rng := some 0 }]
noncomputable def E_digest_Sum_digest_blocks_1_0 (b1 : den Ty.str) (b2 : den tId) (b3 : den tDigestWords) : Env := Env.of
  [(0, K.yld 0), (1, K.ptr (0 + 1) Ty.str [])]
  [(0,
      Bx.lop LoopState.ready none [(3, K.ptr (0 + 1 + 1 + 1) tDigestWords [])] 32 (rfPs f_digest_Sum 4)
        (rfAssign f_digest_Sum 4) (rfBody f_digest_Sum 4)),
    (1, Bx.cell Ty.str b1), (2, Bx.cell tId b2), (3, Bx.cell tDigestWords b3)]
noncomputable def TL_digest_Sum_digest_blocks_1_0 (b1 : den Ty.str) (b2 : den tId) (b3 : den tDigestWords) : TreeS :=
  TreeS.ite (!eqb Ty.str b1 { data := { toList := [] } })
  (TreeS.req (cutOk 0 64 (sLen b1))
    (TreeS.req (ByteArray.size (sCut b1 0 64) = 64)
      (TreeS.ite (!true)
        (TreeS.loop [] fx_digest_Sum (lp f_digest_Sum 7)
          [(2, K.ptr 0 tId []), (3, K.ptr (0 + 1) tDigestWords []), (5, K.ptr (0 + 1 + 1) tId []), (15, K.val tInt 0)]
          [(0, Bx.cell tId b2), (0 + 1, Bx.cell tDigestWords (g_over b3 (sCut b1 0 64))),
            (0 + 1 + 1, Bx.cell tId (zero tId))])
        (TreeS.req (cutOk 64 (sLen b1) (sLen b1))
          (TreeS.loop
            [{ fx := fx_digest_Sum, todo := afterRange f_digest_Sum 4, dst := none,
                s := ofS [(2, K.ptr (0 + 1 + 1) tId []), (3, K.ptr (0 + 1 + 1 + 1) tDigestWords [])], rng := some 0 }]
            fx_digest_blocks_1 (lp f_digest_blocks_1 0) [(0, K.yld 0), (1, K.ptr (0 + 1) Ty.str [])]
            [(0,
                Bx.lop LoopState.ready none [(3, K.ptr (0 + 1 + 1 + 1) tDigestWords [])] 32 (rfPs f_digest_Sum 4)
                  (rfAssign f_digest_Sum 4) (rfBody f_digest_Sum 4)),
              (0 + 1, Bx.cell Ty.str (sCut b1 64 (sLen b1))), (0 + 1 + 1, Bx.cell tId b2),
              (0 + 1 + 1 + 1, Bx.cell tDigestWords (g_over b3 (sCut b1 0 64)))])))))
  (TreeS.loop [] fx_digest_Sum (lp f_digest_Sum 7)
    [(2, K.ptr 0 tId []), (3, K.ptr (0 + 1) tDigestWords []), (5, K.ptr (0 + 1 + 1) tId []), (15, K.val tInt 0)]
    [(0, Bx.cell tId b2), (0 + 1, Bx.cell tDigestWords b3), (0 + 1 + 1, Bx.cell tId (zero tId))])
theorem TL_digest_Sum_digest_blocks_1_0_eq (b1 : den Ty.str) (b2 : den tId) (b3 : den tDigestWords) : treeS X_digest_Sum M_digest_Sum 5000 (Q_digest_Sum_digest_blocks_1_0 b1 b2 b3) fx_digest_blocks_1 (lp f_digest_blocks_1 0) (E_digest_Sum_digest_blocks_1_0 b1 b2 b3) = TL_digest_Sum_digest_blocks_1_0 b1 b2 b3 := by kernel_rfl

noncomputable def E_digest_Sum_7 (v15 : den tInt) (b0 : den tId) (b1 : den tDigestWords) (b2 : den tId) : Env := Env.of
  [(2, K.ptr 0 tId []), (3, K.ptr (0 + 1) tDigestWords []), (5, K.ptr (0 + 1 + 1) tId []), (15, K.val tInt v15)]
  [(0, Bx.cell tId b0), (1, Bx.cell tDigestWords b1), (2, Bx.cell tId b2)]
noncomputable def TL_digest_Sum_7 (v15 : den tInt) (b0 : den tId) (b1 : den tDigestWords) (b2 : den tId) : TreeS :=
  TreeS.ite (decide (v15 < 32))
  (TreeS.req (nz 4)
    (TreeS.req (inB (IntKind.wrap IntKind.i64 (Int.tdiv v15 4)) (↑8 : Int))
      (TreeS.req (nz 4)
        (TreeS.req (ge0 (IntKind.wrap IntKind.i64 (24 - IntKind.wrap IntKind.i64 (8 * Int.tmod v15 4))))
          (TreeS.req (inB v15 (↑32 : Int))
            (TreeS.loop [] fx_digest_Sum (lp f_digest_Sum 7)
              [(2, K.ptr 0 tId []), (3, K.ptr (0 + 1) tDigestWords []), (5, K.ptr (0 + 1 + 1) tId []),
                (15, K.val tInt (IntKind.wrap IntKind.i64 (v15 + 1)))]
              [(0, Bx.cell tId b0), (0 + 1, Bx.cell tDigestWords b1),
                (0 + 1 + 1,
                  Bx.cell tId
                    (setAtx (Ty.int IntKind.u8) b2 v15
                      (IntKind.wrap IntKind.u8
                        (Int.fdiv (el (Ty.int IntKind.u32) b1 (IntKind.wrap IntKind.i64 (Int.tdiv v15 4)))
                          (2 ^
                            min
                              (Int.toNat
                                (IntKind.wrap IntKind.i64 (24 - IntKind.wrap IntKind.i64 (8 * Int.tmod v15 4))))
                              (IntKind.bits IntKind.u32))))))]))))))
  (TreeS.ret (K.val (Ty.pair tId Ty.unit) (b2, PUnit.unit)))
theorem TL_digest_Sum_7_eq (v15 : den tInt) (b0 : den tId) (b1 : den tDigestWords) (b2 : den tId) : treeS X_digest_Sum M_digest_Sum 5000 [] fx_digest_Sum (lp f_digest_Sum 7) (E_digest_Sum_7 v15 b0 b1 b2) = TL_digest_Sum_7 v15 b0 b1 b2 := by kernel_rfl

end Go.Proofs.YtainieginijaaaaDoor

/- The sum of texts. -/
namespace Go.Proofs.YtainieginijaaaaDoor
open Go Go.RowKit

def e0 : ByteArray := { data := { toList := [] } }
def b128 : ByteArray := { data := { toList := [128] } }
def bz : ByteArray := { data := { toList := [0] } }
def padK (s : ByteArray) : Int := Int.tmod (IntKind.wrap .i64 (120 - Int.tmod (sLen (s ++ b128)) 64)) 64
def many8 (s : ByteArray) : Int := IntKind.wrap .u64 (IntKind.wrap .u64 (sLen s) * 2 ^ min (Int.toNat 3) (IntKind.bits .u64))
def byteI (s : ByteArray) (i : Int) : ByteArray :=
  ofBytes (List.set (List.replicate 1 (zero (Ty.int IntKind.u8))) 0
    (IntKind.wrap .u8 (Int.fdiv (many8 s) (2 ^ min (Int.toNat (IntKind.wrap .i64 (8 * IntKind.wrap .i64 (7 - i)))) (IntKind.bits .u64)))))
def padN (s : ByteArray) : Nat → ByteArray
  | 0 => s ++ b128 ++ repS bz (padK s)
  | i + 1 => padN s i ++ byteI s i
def goR : Nat → ByteArray → List Int → List Int
  | 0, _, h => h
  | m + 1, s, h => goR m (sCut s 64 (sLen s)) (g_over h (sCut s 0 64))
def outI (h : List Int) (i : Int) : Int :=
  IntKind.wrap .u8 (Int.fdiv (el (Ty.int IntKind.u32) h (IntKind.wrap .i64 (Int.tdiv i 4))) (2 ^ min (Int.toNat (IntKind.wrap .i64 (24 - IntKind.wrap .i64 (8 * Int.tmod i 4)))) (IntKind.bits .u32)))
def outN (h : List Int) : Nat → List Int
  | 0 => zero tId
  | i + 1 => setAtx (Ty.int IntKind.u8) (outN h i) i (outI h i)
def blocksN (s : ByteArray) : Nat := (s.size + 8) / 64 + 1
def sumOf (s : ByteArray) : List Int := outN (goR (blocksN s) (padN s 8) g_begins) 32
def g_Sum (l : List ByteArray) : List Int := sumOf (joinS l e0)

theorem repS_size {n : Int} (h : 0 ≤ n) : ((repS bz n).size : Int) = n := by
  unfold repS
  rw [toSize, Lib.repeatL_length]
  have : bz.data.toList.length = 1 := rfl
  rw [this, Nat.mul_one, Int.toNat_of_nonneg h]
theorem byteI_size (s : ByteArray) (i : Int) : (byteI s i).size = 1 := rfl
theorem padK_eq {s : ByteArray} (hs : s.size ≤ 900000) : padK s = (120 - ((s.size : Int) + 1) % 64) % 64 := by
  have h1 : sLen (s ++ b128) = (s.size : Int) + 1 := by
    unfold sLen
    rw [ByteArray.size_append]
    rfl
  unfold padK
  have h2 : Int.tmod ((s.size : Int) + 1) 64 = ((s.size : Int) + 1) % 64 := Int.tmod_eq_emod_of_nonneg (by omega)
  rw [h1, h2, small_i64 (by omega)]
  exact Int.tmod_eq_emod_of_nonneg (by omega)
theorem padN_size {s : ByteArray} (hs : s.size ≤ 900000) : ∀ i : Nat, ((padN s i).size : Int) = (s.size : Int) + 1 + (120 - ((s.size : Int) + 1) % 64) % 64 + i
  | 0 => by
    have h0 : (0 : Int) ≤ padK s := by rw [padK_eq hs]; exact Int.emod_nonneg _ (by decide)
    show ((s ++ b128 ++ repS bz (padK s)).size : Int) = _
    rw [ByteArray.size_append, ByteArray.size_append]
    have h1 := repS_size h0
    rw [padK_eq hs] at h1
    have h2 : b128.size = 1 := rfl
    rw [padK_eq hs]
    omega
  | i + 1 => by
    show ((padN s i ++ byteI s i).size : Int) = _
    rw [ByteArray.size_append, byteI_size]
    have := padN_size hs i
    omega
theorem pad_size {s : ByteArray} (hs : s.size ≤ 900000) : (padN s 8).size = 64 * blocksN s := by
  have h := padN_size hs 8
  unfold blocksN
  omega

theorem xs_digest_Sum : XOk prog X_digest_Sum := x_digest_Sum (fnOk_up k_digest_begins) k_digest_words_over (fnOk_up k_strings_Join) (fnOk_up k_strings_Repeat)

theorem loop7_side : ∀ i : Nat, i < 32 → (0 ≤ IntKind.wrap .i64 (Int.tdiv (i : Int) 4) ∧ IntKind.wrap .i64 (Int.tdiv (i : Int) 4) < ((8 : Nat) : Int)) ∧
    0 ≤ IntKind.wrap .i64 (24 - IntKind.wrap .i64 (8 * Int.tmod (i : Int) 4)) := by decide

def gl_digest_Sum_7 (O : Nat → Prop) (w0 : World) (b0 h : List Int) (out : List Int) (ho : out = outN h 32) :=
  PLift.up <| range_ind (σ := List Int) 32 (fun i b => b = outN h i)
    (fun i b => GoodS prog X_digest_Sum (Cx.base O w0) (Ends prog O w0 rs_digest_Sum fun y => y = (out, ())) [] fx_digest_Sum (lp f_digest_Sum 7) (E_digest_Sum_7 (i : Nat) b0 h b))
    (fun i b hi hb ih => goodS_of xs_digest_Sum (TL_digest_Sum_7_eq _ b0 h b) (by
      refine ⟨fun _ => ⟨show (4 : Int) ≠ 0 by decide, (loop7_side i hi).1, show (4 : Int) ≠ 0 by decide, (loop7_side i hi).2, ⟨Int.natCast_nonneg _, Int.ofNat_lt.2 hi⟩, ?_⟩, fun h => ?_⟩
      · rw [wr_idx hi (by omega)]
        refine ih _ ?_
        rw [hb]
        rfl
      · exact absurd (Int.ofNat_lt.2 hi) (of_decide_eq_false h)))
    (fun b hb => goodS_of xs_digest_Sum (TL_digest_Sum_7_eq _ b0 h b) (by
      refine ⟨fun h => ?_, fun _ => ⟨_, rfl, ?_⟩⟩
      · exact absurd (of_decide_eq_true h) (by decide)
      · show (b, ()) = (out, ())
        rw [hb, ho]))

theorem sCut_tail {s : ByteArray} {m : Nat} (h : s.size = 64 * (m + 1)) : (sCut s 64 (sLen s)).size = 64 * m := by
  unfold sCut sLen
  rw [ByteArray.size_extract, Int.toNat_natCast]
  have : Int.toNat 64 = 64 := rfl
  omega
theorem sCut_head {s : ByteArray} {m : Nat} (h : s.size = 64 * (m + 1)) : (sCut s 0 64).size = 64 := by
  unfold sCut
  rw [ByteArray.size_extract]
  have h1 : Int.toNat 64 = 64 := rfl
  have h2 : Int.toNat 0 = 0 := rfl
  omega

theorem gl_digest_Sum_go (O : Nat → Prop) (w0 : World) (b2 out : List Int) (m : Nat) : ∀ (s : ByteArray) (h : List Int), s.size = 64 * m → out = outN (goR m s h) 32 →
    GoodS prog X_digest_Sum (Cx.base O w0) (Ends prog O w0 rs_digest_Sum fun y => y = (out, ())) (Q_digest_Sum_digest_blocks_1_0 s b2 h) fx_digest_blocks_1 (lp f_digest_blocks_1 0) (E_digest_Sum_digest_blocks_1_0 s b2 h) := by
  induction m with
  | zero =>
    intro s h hs ho
    have e : s = e0 := ByteArray.ext (Array.eq_empty_of_size_eq_zero hs)
    have e1 : eqb Ty.str s e0 = true := (eqb_iff (t := .str) rfl s e0).2 e
    refine goodS_of xs_digest_Sum (TL_digest_Sum_digest_blocks_1_0_eq s b2 h) ⟨fun hc => ?_, fun _ => ?_⟩
    · have hc : (!eqb Ty.str s e0) = true := hc
      rw [e1] at hc
      cases hc
    · exact (gl_digest_Sum_7 O w0 b2 h out ho).down 0 _ (Nat.zero_le _) rfl
  | succ m ih =>
    intro s h hs ho
    have hl : sLen s = 64 * ((m : Int) + 1) := by unfold sLen; rw [hs]; omega
    refine goodS_of xs_digest_Sum (TL_digest_Sum_digest_blocks_1_0_eq s b2 h) ⟨fun _ => ⟨?_, sCut_head hs, fun hc => ?_, fun _ => ⟨?_, ?_⟩⟩, fun hc => ?_⟩
    · rw [hl]
      exact ⟨by decide, by decide, by omega⟩
    · cases hc
    · rw [hl]
      exact ⟨by decide, by omega, Int.le_refl _⟩
    · exact ih _ _ (sCut_tail hs) ho
    · have hc : (!eqb Ty.str s e0) = false := hc
      have e : s = e0 := (eqb_iff (t := .str) rfl s e0).1 (by cases h1 : eqb Ty.str s e0 with | true => rfl | false => rw [h1] at hc; cases hc)
      rw [e] at hs
      have : e0.size = 0 := rfl
      omega

def gl_digest_Sum_5 (O : Nat → Prop) (w0 : World) (s : ByteArray) (hs : s.size ≤ 900000) :=
  PLift.up <| range_ind (σ := ByteArray) 8 (fun i b => b = padN s i)
    (fun i b => GoodS prog X_digest_Sum (Cx.base O w0) (Ends prog O w0 rs_digest_Sum fun y => y = (sumOf s, ())) (Q_digest_Sum_digest_blocks_5 (many8 s) (i : Nat) b (zero tId) g_begins) fx_digest_blocks (lp f_digest_blocks 5) (E_digest_Sum_digest_blocks_5 (many8 s) (i : Nat) b (zero tId) g_begins))
    (fun i b hi hb ih => goodS_of xs_digest_Sum (TL_digest_Sum_digest_blocks_5_eq (many8 s) _ b _ _) (by
      have hz : b.size ≤ 1000000 := by have := padN_size hs i; rw [hb]; omega
      refine ⟨fun _ => ⟨?_, ?_, ?_⟩, fun h => ?_⟩
      · show (0 : Int) ≤ IntKind.wrap .i64 (8 * IntKind.wrap .i64 (7 - (i : Int)))
        rw [small_i64 (n := 7 - (i : Int)) (by omega), small_i64 (by omega)]
        omega
      · show b.size + (byteI s i).size ≤ _
        rw [byteI_size]
        omega
      · rw [wr_idx hi (by omega)]
        refine ih _ ?_
        rw [hb]
        rfl
      · exact absurd (Int.ofNat_lt.2 hi) (of_decide_eq_false h)))
    (fun b hb => goodS_of xs_digest_Sum (TL_digest_Sum_digest_blocks_5_eq (many8 s) _ b _ _) (by
      refine ⟨fun h => ?_, fun _ => ?_⟩
      · exact absurd (of_decide_eq_true h) (by decide)
      · exact gl_digest_Sum_go O w0 _ _ (blocksN s) b g_begins (by rw [hb]; exact pad_size hs) (by rw [hb]; rfl)))

noncomputable abbrev S_digest_Sum : Spec := ⟨as_digest_Sum, rs_digest_Sum, fun x => (g_Sum x.1, ()), fun x => List.length x.1 ≤ 1000000 ∧ ByteArray.size (joinS x.1 e0) ≤ 900000, false⟩
theorem k_digest_Sum : FnOk prog gl n_digest_Sum S_digest_Sum :=
  fnS_T (S := S_digest_Sum) xs_digest_Sum (fx := fx_digest_Sum) at_digest_Sum (by kernel_rfl) (fun h => by cases h) (T := fun x => T_digest_Sum x.1) (fun x => T_digest_Sum_eq x.1) fun O w0 x _ hp => by
    obtain ⟨l, ⟨⟩⟩ := x
    have hp1 : List.length l ≤ 1000000 := hp.1
    have hp2 : (joinS l e0).size ≤ 900000 := hp.2
    have hk : padK (joinS l e0) = _ := padK_eq hp2
    refine ⟨trivial, ⟨hp1, Nat.le_trans hp2 (by decide)⟩, by show (0 : Int) ≤ 3; decide, ?_, show (64 : Int) ≠ 0 by decide, show (64 : Int) ≠ 0 by decide, ⟨?_, ?_, rfl⟩, ?_, ?_⟩
    · show (joinS l e0).size + 1 ≤ _
      omega
    · show (0 : Int) ≤ padK (joinS l e0)
      rw [hk]; omega
    · show padK (joinS l e0) ≤ 1000000
      rw [hk]; omega
    · show (joinS l e0 ++ b128).size + (repS bz (padK (joinS l e0))).size ≤ _
      have h := padN_size hp2 0
      have : (padN (joinS l e0) 0).size = (joinS l e0 ++ b128).size + (repS bz (padK (joinS l e0))).size := ByteArray.size_append
      omega
    · exact (gl_digest_Sum_5 O w0 (joinS l e0) hp2).down 0 _ (Nat.zero_le _) rfl

end Go.Proofs.YtainieginijaaaaDoor

/- What the sum of a known text is. -/
namespace Go.Proofs.YtainieginijaaaaDoor
open Go Go.RowKit

def abc : ByteArray := { data := { toList := [97, 98, 99] } }
theorem sum_abc : sumOf abc = [186, 120, 22, 191, 143, 1, 207, 234, 65, 65, 64, 222, 93, 174, 34, 35, 176, 3, 97, 163, 150, 23, 122, 156, 180, 16, 255, 97, 242, 0, 21, 173] := by kernel_rfl

theorem joinS_one (x : ByteArray) : joinS [x] e0 = x := by
  unfold joinS
  rw [List.map_cons, List.map_nil, Lib.join_one]

noncomputable abbrev S_l02_alive : Spec := ⟨as_l02_alive, rs_l02_alive, fun _ => (true, ()), fun _ => True, true⟩

/-- A text's blocks filled. -/
def fillN : Nat → List Int → List Int
  | 0, l => l
  | n + 1, l => fillN n (l ++ [0])
def fillK (l : List Int) : Nat := (120 - l.length % 64) % 64
def divN : Nat → Int
  | 0 => 72057594037927936
  | n + 1 => IntKind.wrap .u64 (Int.tdiv (divN n) 256)
def tailI (s : ByteArray) (n : Nat) : Int :=
  IntKind.wrap .u8 (Int.tmod (IntKind.wrap .u64 (Int.tdiv (IntKind.wrap .u64 (IntKind.wrap .u64 (sLen s) * 8)) (divN n))) 256)
def tailN (s : ByteArray) : Nat → List Int → List Int
  | 0, l => l
  | n + 1, l => tailN s n l ++ [tailI s n]
def g_Filled (s : ByteArray) : List Int := tailN s 8 (fillN (fillK (bytesL s ++ [128])) (bytesL s ++ [128]))
noncomputable abbrev S_r02_Filled : Spec := ⟨as_r02_Filled, rs_r02_Filled, fun x => (ofBytes (g_Filled x.1), ()), fun x => ByteArray.size x.1 ≤ 1000, false⟩

end Go.Proofs.YtainieginijaaaaDoor

/- The trees of functions' bodies, as the evaluator prints them. -/
namespace Go.Proofs.YtainieginijaaaaDoor
open Go Go.RowKit

noncomputable abbrev fx_l02_alive : Fx := { fn := f_l02_alive, ann := { } }
noncomputable abbrev X_l02_alive : TabX := { D := { T := tyTab, F := [(n_digest_Sum, S_digest_Sum)], R := [], ovl := [], G := gl }, inl := [] }
noncomputable abbrev M_l02_alive : RMode := .data rs_l02_alive
theorem x_l02_alive (h_digest_Sum : FnOk prog gl n_digest_Sum S_digest_Sum) : XOk prog X_l02_alive := xok (dok_add (dok_nil tab_ok mixed_ok) h_digest_Sum) (by kernel_rfl) rows_nil inl_nil ovl_nil
noncomputable def T_l02_alive : TreeS :=
  TreeS.req
  (List.length (List.set (List.replicate 1 (zero Ty.str)) 0 { data := { toList := [97, 98, 99] } }) ≤ 1000000 ∧
    ByteArray.size
        (joinS (List.set (List.replicate 1 (zero Ty.str)) 0 { data := { toList := [97, 98, 99] } })
          { data := { toList := [] } }) ≤
      900000)
  (TreeS.req (inB 0 (↑32 : Int))
    (TreeS.req
      (impl
        [(decide
              (el (Ty.int IntKind.u8)
                  (g_Sum (List.set (List.replicate 1 (zero Ty.str)) 0 { data := { toList := [97, 98, 99] } })) 0 =
                186),
            true)]
        (inB 1 (↑32 : Int)))
      (TreeS.req
        (impl
          [(bif
                  decide
                    (el (Ty.int IntKind.u8)
                        (g_Sum (List.set (List.replicate 1 (zero Ty.str)) 0 { data := { toList := [97, 98, 99] } })) 0 =
                      186) then
                decide
                  (el (Ty.int IntKind.u8)
                      (g_Sum (List.set (List.replicate 1 (zero Ty.str)) 0 { data := { toList := [97, 98, 99] } })) 1 =
                    120)
              else false,
              true)]
          (inB 31 (↑32 : Int)))
        (TreeS.ret
          (K.val (Ty.pair Ty.bool Ty.unit)
            (bif
                  bif
                      decide
                        (el (Ty.int IntKind.u8)
                            (g_Sum (List.set (List.replicate 1 (zero Ty.str)) 0 { data := { toList := [97, 98, 99] } }))
                            0 =
                          186) then
                    decide
                      (el (Ty.int IntKind.u8)
                          (g_Sum (List.set (List.replicate 1 (zero Ty.str)) 0 { data := { toList := [97, 98, 99] } }))
                          1 =
                        120)
                  else false then
                decide
                  (el (Ty.int IntKind.u8)
                      (g_Sum (List.set (List.replicate 1 (zero Ty.str)) 0 { data := { toList := [97, 98, 99] } })) 31 =
                    173)
              else false,
              PUnit.unit))))))
theorem T_l02_alive_eq : treeS X_l02_alive M_l02_alive 5000 [] fx_l02_alive (bodyOf f_l02_alive) (Env.of
  (argEnv as_l02_alive () 0) []) = T_l02_alive := by kernel_rfl

noncomputable abbrev fx_r02_Filled : Fx := { fn := f_r02_Filled, ann := { loops := [(3, { keep := [0, 3], own := [(3, (.int .u8))] }), (8, { keep := [3, 4, 5, 6], own := [(3, (.int .u8))] })] }, own := [8, 11, 18, 34] }
noncomputable abbrev X_r02_Filled : TabX := { D := { T := tyTab, F := [], R := [], ovl := [] }, inl := [] }
noncomputable abbrev M_r02_Filled : RMode := .data rs_r02_Filled
theorem x_r02_Filled : XOk prog X_r02_Filled := xok ((dok_nil tab_ok mixed_ok)) (by kernel_rfl) rows_nil inl_nil ovl_nil
noncomputable def T_r02_Filled (s : den Ty.str) : TreeS :=
  TreeS.req (ByteArray.size s ≤ most)
  (TreeS.req (List.length (bytesL s ++ List.set (List.replicate 1 (zero (Ty.int IntKind.u8))) 0 128) ≤ most)
    (TreeS.loop [] fx_r02_Filled (lp f_r02_Filled 3) [(0, K.val Ty.str s), (3, K.sl 0 (Ty.int IntKind.u8))]
      [(0, Bx.row (Ty.int IntKind.u8) (bytesL s ++ List.set (List.replicate 1 (zero (Ty.int IntKind.u8))) 0 128))]))
theorem T_r02_Filled_eq (s : den Ty.str) : treeS X_r02_Filled M_r02_Filled 5000 [] fx_r02_Filled (bodyOf f_r02_Filled) (Env.of
  (argEnv as_r02_Filled (s, ()) 0) []) = T_r02_Filled s := by kernel_rfl

noncomputable def E_r02_Filled_3 (v0 : den Ty.str) (b0 : List (den (Ty.int IntKind.u8))) : Env := Env.of
  [(0, K.val Ty.str v0), (3, K.sl 0 (Ty.int IntKind.u8))] [(0, Bx.row (Ty.int IntKind.u8) b0)]
noncomputable def TL_r02_Filled_3 (v0 : den Ty.str) (b0 : List (den (Ty.int IntKind.u8))) : TreeS :=
  TreeS.req (nz 64)
  (TreeS.ite (!decide (Int.tmod (lnx (Ty.int IntKind.u8) b0) 64 = 56))
    (TreeS.req (List.length (b0 ++ List.set (List.replicate 1 (zero (Ty.int IntKind.u8))) 0 0) ≤ most)
      (TreeS.loop [] fx_r02_Filled (lp f_r02_Filled 3) [(0, K.val Ty.str v0), (3, K.sl 0 (Ty.int IntKind.u8))]
        [(0, Bx.row (Ty.int IntKind.u8) (b0 ++ List.set (List.replicate 1 (zero (Ty.int IntKind.u8))) 0 0))]))
    (TreeS.loop [] fx_r02_Filled (lp f_r02_Filled 8)
      [(3, K.sl 0 (Ty.int IntKind.u8)),
        (4, K.val (Ty.int IntKind.u64) (IntKind.wrap IntKind.u64 (IntKind.wrap IntKind.u64 (sLen v0) * 8))),
        (5, K.val (Ty.int IntKind.u64) 72057594037927936), (6, K.val tInt 0)]
      [(0, Bx.row (Ty.int IntKind.u8) b0)]))
theorem TL_r02_Filled_3_eq (v0 : den Ty.str) (b0 : List (den (Ty.int IntKind.u8))) : treeS X_r02_Filled M_r02_Filled 5000 [] fx_r02_Filled (lp f_r02_Filled 3) (E_r02_Filled_3 v0 b0) = TL_r02_Filled_3 v0 b0 := by kernel_rfl

noncomputable def E_r02_Filled_8 (v4 : den (Ty.int IntKind.u64)) (v5 : den (Ty.int IntKind.u64)) (v6 : den tInt) (b0 : List (den (Ty.int IntKind.u8))) : Env := Env.of
  [(3, K.sl 0 (Ty.int IntKind.u8)), (4, K.val (Ty.int IntKind.u64) v4), (5, K.val (Ty.int IntKind.u64) v5),
    (6, K.val tInt v6)]
  [(0, Bx.row (Ty.int IntKind.u8) b0)]
noncomputable def TL_r02_Filled_8 (v4 : den (Ty.int IntKind.u64)) (v5 : den (Ty.int IntKind.u64)) (v6 : den tInt) (b0 : List (den (Ty.int IntKind.u8))) : TreeS :=
  TreeS.ite (decide (v6 < 8))
  (TreeS.req (nz v5)
    (TreeS.req (nz 256)
      (TreeS.req
        (List.length
            (b0 ++
              List.set (List.replicate 1 (zero (Ty.int IntKind.u8))) 0
                (IntKind.wrap IntKind.u8 (Int.tmod (IntKind.wrap IntKind.u64 (Int.tdiv v4 v5)) 256))) ≤
          most)
        (TreeS.req (nz 256)
          (TreeS.loop [] fx_r02_Filled (lp f_r02_Filled 8)
            [(3, K.sl 0 (Ty.int IntKind.u8)), (4, K.val (Ty.int IntKind.u64) v4),
              (5, K.val (Ty.int IntKind.u64) (IntKind.wrap IntKind.u64 (Int.tdiv v5 256))),
              (6, K.val tInt (IntKind.wrap IntKind.i64 (v6 + 1)))]
            [(0,
                Bx.row (Ty.int IntKind.u8)
                  (b0 ++
                    List.set (List.replicate 1 (zero (Ty.int IntKind.u8))) 0
                      (IntKind.wrap IntKind.u8 (Int.tmod (IntKind.wrap IntKind.u64 (Int.tdiv v4 v5)) 256))))])))))
  (TreeS.ret (K.val (Ty.pair Ty.str Ty.unit) (ofBytes b0, PUnit.unit)))
theorem TL_r02_Filled_8_eq (v4 : den (Ty.int IntKind.u64)) (v5 : den (Ty.int IntKind.u64)) (v6 : den tInt) (b0 : List (den (Ty.int IntKind.u8))) : treeS X_r02_Filled M_r02_Filled 5000 [] fx_r02_Filled (lp f_r02_Filled 8) (E_r02_Filled_8 v4 v5 v6 b0) = TL_r02_Filled_8 v4 v5 v6 b0 := by kernel_rfl

noncomputable abbrev fx_l02_DigestBlocks : Fx := { fn := f_l02_DigestBlocks, ann := { } }
noncomputable abbrev X_l02_DigestBlocks : TabX := { D := { T := tyTab, F := [(n_digest_Blocks, S_digest_Blocks), (n_r02_Filled, S_r02_Filled), (n_l02_alive, S_l02_alive)], R := [], ovl := [], G := gl }, inl := [] }
noncomputable abbrev M_l02_DigestBlocks : RMode := .data rs_l02_DigestBlocks
theorem x_l02_DigestBlocks (h_digest_Blocks : FnOk prog gl n_digest_Blocks S_digest_Blocks) (h_r02_Filled : FnOk prog gl n_r02_Filled S_r02_Filled) (h_l02_alive : FnOk prog gl n_l02_alive S_l02_alive) : XOk prog X_l02_DigestBlocks := xok (dok_add (dok_add (dok_add (dok_nil tab_ok mixed_ok) h_l02_alive) h_r02_Filled) h_digest_Blocks) (by kernel_rfl) rows_nil inl_nil ovl_nil
noncomputable def T_l02_DigestBlocks (n : den tInt) (s : den Ty.str) : TreeS :=
  TreeS.req (cutOk 0 (minI (sLen s) 300) (sLen s))
  (TreeS.req True
    (TreeS.req True
      (TreeS.req
        (impl [(!decide (Prod.fst (Prod.snd (g_Blocks (sLen (sCut s 0 (minI (sLen s) 300))))) = 0), false)]
          (ByteArray.size (sCut s 0 (minI (sLen s) 300)) ≤ 1000))
        (TreeS.req
          (impl
            [(bif !decide (Prod.fst (Prod.snd (g_Blocks (sLen (sCut s 0 (minI (sLen s) 300))))) = 0) then true
                else
                  !decide
                      (IntKind.wrap IntKind.i64 (64 * Prod.fst (g_Blocks (sLen (sCut s 0 (minI (sLen s) 300))))) =
                        sLen (ofBytes (g_Filled (sCut s 0 (minI (sLen s) 300))))),
                false)]
            True)
          (TreeS.ite
            (bif
                bif !decide (Prod.fst (Prod.snd (g_Blocks (sLen (sCut s 0 (minI (sLen s) 300))))) = 0) then true
                else
                  !decide
                      (IntKind.wrap IntKind.i64 (64 * Prod.fst (g_Blocks (sLen (sCut s 0 (minI (sLen s) 300))))) =
                        sLen (ofBytes (g_Filled (sCut s 0 (minI (sLen s) 300))))) then
              true
            else !true)
            (TreeS.ret (K.val (Ty.pair Ty.bool Ty.unit) (false, PUnit.unit)))
            (TreeS.ite (bif decide (n < 0) then true else decide (1099511627776 < n))
              (TreeS.ret
                (K.val (Ty.pair Ty.bool Ty.unit)
                  (bif decide (Prod.fst (Prod.snd (g_Blocks n)) = 1) then decide (Prod.fst (g_Blocks n) = 0) else false,
                    PUnit.unit)))
              (TreeS.ret
                (K.val (Ty.pair Ty.bool Ty.unit)
                  (bif
                        bif decide (Prod.fst (Prod.snd (g_Blocks n)) = 0) then
                          decide
                            (IntKind.wrap IntKind.i64 (n + 9) ≤ IntKind.wrap IntKind.i64 (64 * Prod.fst (g_Blocks n)))
                        else false then
                      decide
                        (IntKind.wrap IntKind.i64 (64 * Prod.fst (g_Blocks n)) <
                          IntKind.wrap IntKind.i64 (IntKind.wrap IntKind.i64 (n + 9) + 64))
                    else false,
                    PUnit.unit)))))))))
theorem T_l02_DigestBlocks_eq (n : den tInt) (s : den Ty.str) : treeS X_l02_DigestBlocks M_l02_DigestBlocks 5000 [] fx_l02_DigestBlocks (bodyOf f_l02_DigestBlocks) (Env.of
  (argEnv as_l02_DigestBlocks (n, s, ()) 0) []) = T_l02_DigestBlocks n s := by kernel_rfl

noncomputable abbrev fx_l02_DigestCuts : Fx := { fn := f_l02_DigestCuts, ann := { loops := [(3, { keep := [3, 12, 13, 14], own := [(3, .str)] })], frz := [(7, [3])] }, share := true }
noncomputable abbrev X_l02_DigestCuts : TabX := { D := { T := tyTab, F := [(n_strings_Join, S_strings_Join), (n_digest_Sum, S_digest_Sum), (n_l02_alive, S_l02_alive)], R := [], ovl := [], G := gl }, inl := [] }
noncomputable abbrev M_l02_DigestCuts : RMode := .data rs_l02_DigestCuts
theorem x_l02_DigestCuts (h_strings_Join : FnOk prog gl n_strings_Join S_strings_Join) (h_digest_Sum : FnOk prog gl n_digest_Sum S_digest_Sum) (h_l02_alive : FnOk prog gl n_l02_alive S_l02_alive) : XOk prog X_l02_DigestCuts := xok (dok_add (dok_add (dok_add (dok_nil tab_ok mixed_ok) h_l02_alive) h_digest_Sum) h_strings_Join) (by kernel_rfl) rows_nil inl_nil ovl_nil
noncomputable def T_l02_DigestCuts (l : den (Ty.slc Ty.str)) : TreeS :=
  TreeS.req (cutOk 0 (minI (lnx Ty.str l) 8) (lnx Ty.str l))
  (TreeS.loop [] fx_l02_DigestCuts (lp f_l02_DigestCuts 3)
    [(3, K.sl 0 Ty.str), (12, K.val (Ty.slc Ty.str) (lCutx Ty.str l 0 (minI (lnx Ty.str l) 8))),
      (13, K.val tInt (lnx Ty.str (lCutx Ty.str l 0 (minI (lnx Ty.str l) 8)))), (14, K.val tInt 0)]
    [(0, Bx.row Ty.str [])])
theorem T_l02_DigestCuts_eq (l : den (Ty.slc Ty.str)) : treeS X_l02_DigestCuts M_l02_DigestCuts 5000 [] fx_l02_DigestCuts (bodyOf f_l02_DigestCuts) (Env.of
  (argEnv as_l02_DigestCuts (l, ()) 0) []) = T_l02_DigestCuts l := by kernel_rfl

noncomputable def E_l02_DigestCuts_3 (v12 : den (Ty.slc Ty.str)) (v13 : den tInt) (v14 : den tInt) (b0 : List (den Ty.str)) : Env := Env.of
  [(3, K.sl 0 Ty.str), (12, K.val (Ty.slc Ty.str) v12), (13, K.val tInt v13), (14, K.val tInt v14)]
  [(0, Bx.row Ty.str b0)]
noncomputable def TL_l02_DigestCuts_3 (v12 : den (Ty.slc Ty.str)) (v13 : den tInt) (v14 : den tInt) (b0 : List (den Ty.str)) : TreeS :=
  TreeS.ite (decide (v14 < v13))
  (TreeS.req (inB v14 (lnx Ty.str v12))
    (TreeS.req (cutOk 0 (minI (sLen (el Ty.str v12 v14)) 90) (sLen (el Ty.str v12 v14)))
      (TreeS.req
        (List.length
            (b0 ++
              List.set (List.replicate 1 (zero Ty.str)) 0
                (sCut (el Ty.str v12 v14) 0 (minI (sLen (el Ty.str v12 v14)) 90))) ≤
          most)
        (TreeS.loop [] fx_l02_DigestCuts (lp f_l02_DigestCuts 3)
          [(3, K.sl 0 Ty.str), (12, K.val (Ty.slc Ty.str) v12), (13, K.val tInt v13),
            (14, K.val tInt (IntKind.wrap IntKind.i64 (v14 + 1)))]
          [(0,
              Bx.row Ty.str
                (b0 ++
                  List.set (List.replicate 1 (zero Ty.str)) 0
                    (sCut (el Ty.str v12 v14) 0 (minI (sLen (el Ty.str v12 v14)) 90))))]))))
  (TreeS.req (List.length b0 ≤ 1000000 ∧ ByteArray.size (joinS b0 { data := { toList := [] } }) ≤ 1000000)
    (TreeS.all (den Ty.str) (fun (q4 : den Ty.str) ↦ q4 = joinS b0 { data := { toList := [] } }) fun (q4 : den Ty.str) ↦
      TreeS.req (nz 2)
        (TreeS.req True
          (TreeS.req
            (impl [(true, true)]
              (List.length b0 ≤ 1000000 ∧ ByteArray.size (joinS b0 { data := { toList := [] } }) ≤ 900000))
            (TreeS.req
              (impl [(true, true)]
                (List.length (List.set (List.replicate 1 (zero Ty.str)) 0 q4) ≤ 1000000 ∧
                  ByteArray.size (joinS (List.set (List.replicate 1 (zero Ty.str)) 0 q4) { data := { toList := [] } }) ≤
                    900000))
              (TreeS.req
                (impl
                  [(bif true then eqb tId (g_Sum b0) (g_Sum (List.set (List.replicate 1 (zero Ty.str)) 0 q4))
                      else false,
                      true)]
                  (cutOk 0 (IntKind.wrap IntKind.i64 (Int.tdiv (sLen q4) 2)) (sLen q4)))
                (TreeS.req
                  (impl
                    [(bif true then eqb tId (g_Sum b0) (g_Sum (List.set (List.replicate 1 (zero Ty.str)) 0 q4))
                        else false,
                        true)]
                    (cutOk (IntKind.wrap IntKind.i64 (Int.tdiv (sLen q4) 2)) (sLen q4) (sLen q4)))
                  (TreeS.req
                    (impl
                      [(bif true then eqb tId (g_Sum b0) (g_Sum (List.set (List.replicate 1 (zero Ty.str)) 0 q4))
                          else false,
                          true)]
                      (List.length
                            (List.set
                              (List.set
                                (List.set (List.replicate 3 (zero Ty.str)) 0
                                  (sCut q4 0 (IntKind.wrap IntKind.i64 (Int.tdiv (sLen q4) 2))))
                                1 { data := { toList := [] } })
                              2 (sCut q4 (IntKind.wrap IntKind.i64 (Int.tdiv (sLen q4) 2)) (sLen q4))) ≤
                          1000000 ∧
                        ByteArray.size
                            (joinS
                              (List.set
                                (List.set
                                  (List.set (List.replicate 3 (zero Ty.str)) 0
                                    (sCut q4 0 (IntKind.wrap IntKind.i64 (Int.tdiv (sLen q4) 2))))
                                  1 { data := { toList := [] } })
                                2 (sCut q4 (IntKind.wrap IntKind.i64 (Int.tdiv (sLen q4) 2)) (sLen q4)))
                              { data := { toList := [] } }) ≤
                          900000))
                    (TreeS.req
                      (impl
                        [(bif true then eqb tId (g_Sum b0) (g_Sum (List.set (List.replicate 1 (zero Ty.str)) 0 q4))
                            else false,
                            true)]
                        (List.length (List.set (List.replicate 1 (zero Ty.str)) 0 q4) ≤ 1000000 ∧
                          ByteArray.size
                              (joinS (List.set (List.replicate 1 (zero Ty.str)) 0 q4) { data := { toList := [] } }) ≤
                            900000))
                      (TreeS.all (den Ty.bool) (fun (q5 : den Ty.bool) ↦ q5 = true) fun (q5 : den Ty.bool) ↦
                        TreeS.ret
                          (K.val (Ty.pair Ty.bool Ty.unit)
                            (bif
                                  bif true then
                                    eqb tId (g_Sum b0) (g_Sum (List.set (List.replicate 1 (zero Ty.str)) 0 q4))
                                  else false then
                                eqb tId
                                  (g_Sum
                                    (List.set
                                      (List.set
                                        (List.set (List.replicate 3 (zero Ty.str)) 0
                                          (sCut q4 0 (IntKind.wrap IntKind.i64 (Int.tdiv (sLen q4) 2))))
                                        1 { data := { toList := [] } })
                                      2 (sCut q4 (IntKind.wrap IntKind.i64 (Int.tdiv (sLen q4) 2)) (sLen q4))))
                                  (g_Sum (List.set (List.replicate 1 (zero Ty.str)) 0 q4))
                              else false,
                              PUnit.unit))))))))))))
theorem TL_l02_DigestCuts_3_eq (v12 : den (Ty.slc Ty.str)) (v13 : den tInt) (v14 : den tInt) (b0 : List (den Ty.str)) : treeS X_l02_DigestCuts M_l02_DigestCuts 5000 [] fx_l02_DigestCuts (lp f_l02_DigestCuts 3) (E_l02_DigestCuts_3 v12 v13 v14 b0) = TL_l02_DigestCuts_3 v12 v13 v14 b0 := by kernel_rfl

end Go.Proofs.YtainieginijaaaaDoor

/- A text's blocks by the document; how many blocks: the law. -/
namespace Go.Proofs.YtainieginijaaaaDoor
open Go Go.RowKit

theorem k_l02_alive : FnOk prog gl n_l02_alive S_l02_alive :=
  fnS_T (S := S_l02_alive) (x_l02_alive k_digest_Sum) (fx := fx_l02_alive) at_l02_alive (by kernel_rfl) (fun _ _ => trivial) (T := fun _ => T_l02_alive) (fun _ => T_l02_alive_eq) fun O w0 x _ _ => by
    have e : g_Sum [abc] = [186, 120, 22, 191, 143, 1, 207, 234, 65, 65, 64, 222, 93, 174, 34, 35, 176, 3, 97, 163, 150, 23, 122, 156, 180, 16, 255, 97, 242, 0, 21, 173] := by
      unfold g_Sum
      rw [joinS_one, sum_abc]
    have e' : g_Sum (List.set (List.replicate 1 (zero Ty.str)) 0 { data := { toList := [97, 98, 99] } }) = _ := e
    have h1 : joinS [abc] e0 = abc := joinS_one abc
    have h3 : (joinS [abc] e0).size ≤ 900000 := by rw [h1]; decide
    unfold T_l02_alive
    rw [e']
    refine ⟨⟨by decide, h3⟩, ⟨by decide, by decide⟩, fun _ => ⟨by decide, by decide⟩, fun _ => ⟨by decide, by decide⟩, _, rfl, rfl⟩

theorem fillN_length : ∀ (n : Nat) (l : List Int), (fillN n l).length = l.length + n
  | 0, l => rfl
  | n + 1, l => by
    show (fillN n (l ++ [0])).length = _
    rw [fillN_length, List.length_append, List.length_singleton]
    omega
theorem tailN_length (s : ByteArray) : ∀ (n : Nat) (l : List Int), (tailN s n l).length = l.length + n
  | 0, l => rfl
  | n + 1, l => by
    show (tailN s n l ++ [tailI s n]).length = _
    rw [List.length_append, tailN_length, List.length_singleton]
    omega
theorem filled_length (s : ByteArray) : (g_Filled s).length = 64 * blocksN s := by
  unfold g_Filled
  rw [tailN_length, fillN_length]
  unfold fillK blocksN
  rw [List.length_append, List.length_singleton, bytes_len]
  omega

theorem most_le {n : Nat} (h : n ≤ 2000) : n ≤ most := Nat.le_trans h (by decide)
theorem divN_pos : ∀ n : Nat, n < 8 → divN n ≠ 0 := by decide

def gl_r02_Filled_8 (O : Nat → Prop) (w0 : World) (s : ByteArray) (l : List Int) (hl : l.length ≤ 1200) (out : ByteArray) (ho : out = ofBytes (tailN s 8 l)) :=
  PLift.up <| range_ind (σ := List Int) 8 (fun i b => b = tailN s i l)
    (fun i b => GoodS prog X_r02_Filled (Cx.base O w0) (Ends prog O w0 rs_r02_Filled fun y => y = (out, ())) [] fx_r02_Filled (lp f_r02_Filled 8) (E_r02_Filled_8 (IntKind.wrap IntKind.u64 (IntKind.wrap IntKind.u64 (sLen s) * 8)) (divN i) (i : Nat) b))
    (fun i b hi hb ih => goodS_of x_r02_Filled (TL_r02_Filled_8_eq _ _ _ b) (by
      refine ⟨fun _ => ⟨divN_pos i hi, show (256 : Int) ≠ 0 by decide, ?_, show (256 : Int) ≠ 0 by decide, ?_⟩, fun h => ?_⟩
      · rw [hb, List.length_append, tailN_length]
        exact most_le (show _ + 1 ≤ _ by omega)
      · rw [wr_idx hi (by omega)]
        refine ih _ ?_
        rw [hb]
        rfl
      · exact absurd (Int.ofNat_lt.2 hi) (of_decide_eq_false h)))
    (fun b hb => goodS_of x_r02_Filled (TL_r02_Filled_8_eq _ _ _ b) (by
      refine ⟨fun h => ?_, fun _ => ⟨_, rfl, ?_⟩⟩
      · exact absurd (of_decide_eq_true h) (by decide)
      · show (ofBytes b, ()) = (out, ())
        rw [hb, ho]))

theorem gl_r02_Filled_3 (O : Nat → Prop) (w0 : World) (s : ByteArray) (k : Nat) : ∀ (b : List Int) (out : ByteArray), fillK b = k → b.length + k ≤ 1200 → out = ofBytes (tailN s 8 (fillN k b)) →
    GoodS prog X_r02_Filled (Cx.base O w0) (Ends prog O w0 rs_r02_Filled fun y => y = (out, ())) [] fx_r02_Filled (lp f_r02_Filled 3) (E_r02_Filled_3 s b) := by
  have key : ∀ b : List Int, (!decide (Int.tmod (lnx (.int .u8) b) 64 = 56)) = !decide (fillK b = 0) := fun b => by
    have h : Int.tmod (lnx (.int .u8) b) 64 = 56 ↔ fillK b = 0 := by
      have h1 : lnx (.int .u8) b = (b.length : Int) := rfl
      rw [h1, Int.tmod_eq_emod_of_nonneg (by omega)]
      unfold fillK
      omega
    rw [decide_eq_decide.2 h]
  induction k with
  | zero =>
    intro b out hk hl ho
    refine goodS_of x_r02_Filled (TL_r02_Filled_3_eq s b) ⟨show (64 : Int) ≠ 0 by decide, fun h => ?_, fun _ => ?_⟩
    · have h : (!decide (Int.tmod (lnx (.int .u8) b) 64 = 56)) = true := h
      rw [key b, hk] at h
      cases h
    · exact (gl_r02_Filled_8 O w0 s b hl out ho).down 0 _ (Nat.zero_le _) rfl
  | succ k ih =>
    intro b out hk hl ho
    have hk' : fillK (b ++ [0]) = k := by
      unfold fillK at hk ⊢
      rw [List.length_append, List.length_singleton]
      omega
    refine goodS_of x_r02_Filled (TL_r02_Filled_3_eq s b) ⟨show (64 : Int) ≠ 0 by decide, fun _ => ⟨?_, ?_⟩, fun h => ?_⟩
    · rw [List.length_append]
      exact most_le (show _ + 1 ≤ _ by omega)
    · exact ih (b ++ [0]) out hk' (by rw [List.length_append, List.length_singleton]; omega) ho
    · have h : (!decide (Int.tmod (lnx (.int .u8) b) 64 = 56)) = false := h
      rw [key b, hk] at h
      cases h

theorem k_r02_Filled : FnOk prog [] n_r02_Filled S_r02_Filled :=
  fnS_T (S := S_r02_Filled) x_r02_Filled (fx := fx_r02_Filled) at_r02_Filled (by kernel_rfl) (fun h => by cases h) (T := fun x => T_r02_Filled x.1) (fun x => T_r02_Filled_eq x.1) fun O w0 x _ hp => by
    obtain ⟨s, ⟨⟩⟩ := x
    have hp : s.size ≤ 1000 := hp
    refine ⟨most_le (by omega), ?_, ?_⟩
    · rw [List.length_append, bytes_len]
      exact most_le (show _ + 1 ≤ _ by omega)
    · refine gl_r02_Filled_3 O w0 s _ (bytesL s ++ [128]) _ rfl ?_ rfl
      rw [List.length_append, List.length_singleton, bytes_len]
      unfold fillK
      omega

theorem wr8 {n : Int} (h0 : 0 ≤ n) (h1 : n ≤ 1099511627776) : IntKind.wrap .i64 (64 * ((n + 8) / 64 + 1)) = 64 * ((n + 8) / 64 + 1) ∧ IntKind.wrap .i64 (n + 9) = n + 9 ∧ IntKind.wrap .i64 (IntKind.wrap .i64 (n + 9) + 64) = n + 9 + 64 := by
  have h : IntKind.wrap .i64 (n + 9) = n + 9 := small_i64 (by omega)
  refine ⟨small_i64 (by omega), h, ?_⟩
  rw [h]
  exact small_i64 (by omega)

theorem blocks_in {n : Int} (h0 : 0 ≤ n) (h1 : n ≤ 1099511627776) : g_Blocks n = ((n + 8) / 64 + 1, 0, ()) := by
  unfold g_Blocks
  rw [if_neg (by omega)]
theorem blocks_out {n : Int} (h : n < 0 ∨ 1099511627776 < n) : g_Blocks n = (0, 1, ()) := by
  unfold g_Blocks
  rw [if_pos h]

theorem blocks_s (c : ByteArray) (hz : c.size ≤ 300) : g_Blocks (sLen c) = ((sLen c + 8) / 64 + 1, 0, ()) := blocks_in (by unfold sLen; omega) (by unfold sLen; omega)
theorem filled_s (c : ByteArray) (hz : c.size ≤ 300) : IntKind.wrap .i64 (64 * ((sLen c + 8) / 64 + 1)) = sLen (ofBytes (g_Filled c)) := by
  rw [(wr8 (n := sLen c) (by unfold sLen; omega) (by unfold sLen; omega)).1]
  unfold sLen
  rw [ofBytes_size, filled_length]
  unfold blocksN
  omega

theorem k_l02_DigestBlocks : FnOk prog gl n_l02_DigestBlocks (lawS as_l02_DigestBlocks) :=
  fnS_T (S := lawS as_l02_DigestBlocks) (x_l02_DigestBlocks (fnOk_up k_digest_Blocks) (fnOk_up k_r02_Filled) k_l02_alive) (fx := fx_l02_DigestBlocks) at_l02_DigestBlocks (by kernel_rfl) (fun _ _ => trivial) (T := fun x => T_l02_DigestBlocks x.1 x.2.1) (fun x => T_l02_DigestBlocks_eq x.1 x.2.1) fun O w0 x _ _ => by
    obtain ⟨n, s, ⟨⟩⟩ := x
    have hm0 : 0 ≤ minI (sLen s) 300 := by unfold minI sLen; split <;> omega
    have hm1 : minI (sLen s) 300 ≤ sLen s := by unfold minI; split <;> omega
    have hm2 : minI (sLen s) 300 ≤ 300 := by unfold minI; split <;> omega
    have hz : (sCut s 0 (minI (sLen s) 300)).size ≤ 300 := by
      unfold sCut
      rw [ByteArray.size_extract]
      omega
    have he := blocks_s (sCut s 0 (minI (sLen s) 300)) hz
    have hf := filled_s (sCut s 0 (minI (sLen s) 300)) hz
    refine ⟨⟨Int.le_refl _, hm0, hm1⟩, trivial, trivial, fun _ => Nat.le_trans hz (by decide), fun _ => trivial, fun h => ?_, fun _ => ⟨fun h => ?_, fun h => ?_⟩⟩
    · exfalso
      rw [he] at h
      have h : (bif bif !decide ((0 : Int) = 0) then true else !decide (IntKind.wrap IntKind.i64 (64 * ((sLen (sCut s 0 (minI (sLen s) 300)) + 8) / 64 + 1)) = sLen (ofBytes (g_Filled (sCut s 0 (minI (sLen s) 300))))) then true else !true) = true := h
      rw [decide_eq_true hf] at h
      cases h
    · refine ⟨_, rfl, ?_⟩
      have hn : n < 0 ∨ 1099511627776 < n := by
        have h : (bif decide ((n : Int) < 0) then true else decide ((1099511627776 : Int) < n)) = true := h
        by_cases h1 : (n : Int) < 0
        · exact .inl h1
        · rw [decide_eq_false h1] at h
          exact .inr (of_decide_eq_true h)
      rw [blocks_out hn]
      rfl
    · refine ⟨_, rfl, ?_⟩
      have h : (bif decide ((n : Int) < 0) then true else decide ((1099511627776 : Int) < n)) = false := h
      have h1 : ¬ (n : Int) < 0 := fun h1 => by rw [decide_eq_true h1] at h; cases h
      rw [decide_eq_false h1] at h
      have h2 : ¬ (1099511627776 : Int) < n := of_decide_eq_false h
      have key : ∀ m : Int, ¬ m < 0 → ¬ 1099511627776 < m → (bif bif decide ((0 : Int) = 0) then decide (IntKind.wrap .i64 (m + 9) ≤ IntKind.wrap .i64 (64 * ((m + 8) / 64 + 1))) else false then
          decide (IntKind.wrap .i64 (64 * ((m + 8) / 64 + 1)) < IntKind.wrap .i64 (IntKind.wrap .i64 (m + 9) + 64)) else false) = true := by
        intro m h1 h2
        obtain ⟨e1, e2, e3⟩ := wr8 (n := m) (by omega) (by omega)
        rw [e3, e1, e2, decide_eq_true (show m + 9 ≤ 64 * ((m + 8) / 64 + 1) by omega), decide_eq_true (show 64 * ((m + 8) / 64 + 1) < m + 9 + 64 by omega)]
        rfl
      rw [blocks_in (Int.not_lt.1 h1) (Int.not_lt.1 h2)]
      exact Prod.ext (key n h1 h2) rfl

end Go.Proofs.YtainieginijaaaaDoor

/- What the listed variable holds; a law's call where it is laid. -/
namespace Go.Proofs.YtainieginijaaaaDoor
open Go Go.RowKit Go.ChangeShapes Go.WideShapes Go.ChangeAt

def laidL : List (String × DataW Unit) := [("posthouse/digest.keys", Rows.laid_posthouse_digest_keys)]
noncomputable def keyTy : Nat := ((prog.globals[0]?).map (·.type)).getD 0
theorem keyTy_ok : (prog.globals[0]?).map (·.type) = some keyTy := by kernel_rfl
theorem keyTy_tab : tyTab.lookup keyTy = some (.arr 64 (.int .u32)) := by kernel_rfl
theorem keyG : prog.globalNamed "posthouse/digest.keys" = some 0 := by kernel_rfl

def wordOf : DataW Unit → Int := fun | .lit (.int _ n) => n | _ => 0
theorem repAll_words {P : Program} {O : Nat → Prop} {w : World} {k : IntKind} : ∀ (cs : List Value) (ds : List (DataW Unit)), cs.length = ds.length →
    (∀ (i : Nat) c d, cs[i]? = some c → ds[i]? = some d → ∃ z, c = .int k z ∧ d = .lit (.int k z) ∧ InK k z) → RepAll (fun cs x => Rep P (.int k) .cells O w cs x) 1 cs (ds.map wordOf)
  | [], [], _, _ => rfl
  | c :: cs, d :: ds, hl, h => by
    obtain ⟨z, e1, e2, e3⟩ := h 0 c d rfl rfl
    refine ⟨?_, repAll_words cs ds (by simpa using hl) fun i c d hc hd => h (i + 1) c d hc hd⟩
    rw [e1, e2]
    exact ⟨rfl, e3⟩
  | [], _ :: _, hl, _ => by simp at hl
  | _ :: _, [], hl, _ => by simp at hl

theorem keysL_len : keysL.length = 64 := by kernel_rfl
def keyDs : DataW Unit → List (DataW Unit)
  | .agg l => l
  | _ => []
theorem keys_is : (Rows.laid_posthouse_digest_keys : DataW Unit) = .agg (keyDs Rows.laid_posthouse_digest_keys) := by kernel_rfl
theorem keysL_is : keysL = (keyDs Rows.laid_posthouse_digest_keys).map wordOf := by kernel_rfl

theorem keys_glob {W : World} (h : laidMetH prog laidL W) : GlobOk prog gl (fun _ => False) W := by
  rw [MakeChecks.laidMetH_plain _ _ _ (by kernel_rfl)] at h
  obtain ⟨ps, ⟨g0, t0, cs0, f0, p0, q0, hg0, ht0, hv0, hd0, _, _⟩, _, _⟩ := h
  obtain rfl := Option.some.inj (keyG.symm.trans hg0)
  obtain rfl := Option.some.inj (keyTy_ok.symm.trans ht0)
  have hf := fit_of_tab tab_ok keyTy_tab
  obtain ⟨e, hu, he, _⟩ := shape_arr hf.shape
  obtain ⟨xs, k, hm, hx, h3, h4, h5⟩ := DataW.trod_array hu hd0
  have hfe := fit_of_tab tab_ok he
  have hse : prog.cellsOf e = 1 := fit_cells hfe
  have hst : prog.cellsOf keyTy = 64 := fit_cells hf
  rw [keys_is] at hx
  have hx1 : keyDs Rows.laid_posthouse_digest_keys = xs.map (·.1) := DataW.agg.inj (Prod.mk.inj hx).1
  have hlen : cs0.toList.length = 64 := h3.trans hst
  have hrep : RepAll (fun cs x => Rep prog (.int .u32) .cells (fun _ => False) W cs x) 1 cs0.toList keysL := by
    rw [keysL_is]
    refine repAll_words _ _ ?_ fun i c d hc hd => ?_
    · rw [hlen, hx1, List.length_map, h4]
    · have hi : i < 64 := by
        have := (List.getElem?_eq_some_iff.1 hc).1
        omega
      have h6 := h5 i hi
      rw [hse, Nat.mul_one] at h6
      have hc1 : (cs0.toList.drop i).take 1 = [c] := by
        have hlt : i < cs0.toList.length := by omega
        rw [List.drop_eq_getElem_cons hlt]
        have : cs0.toList[i] = c := by
          rw [List.getElem?_eq_getElem hlt] at hc
          exact Option.some.inj hc
        rw [this]
        rfl
      rw [hc1] at h6
      rw [hx1, List.getElem?_map] at hd
      cases hxi : xs[i]? with
      | none => rw [hxi] at hd; cases hd
      | some x =>
        rw [hxi] at hd h6
        obtain ⟨z, e1, e2, e3⟩ := DataW.trod_int (shape_int hfe.shape) h6
        have hd : x.1 = d := Option.some.inj hd
        refine ⟨z, ?_, ?_, int_of_wf e3⟩
        · exact (List.cons.inj e1).1
        · rw [← hd, e2]
  have hcell : ∀ j, W.cell? ⟨0, j, none⟩ = cs0[j]? := fun j => World.var?_cell hg0 hv0 j
  intro g t y hl
  have hg : g = 0 ∧ (⟨t, y⟩ : (t : Ty) × den t) = ⟨.arr 64 (.int .u32), keysL⟩ := by
    have hl : List.lookup g [((0 : Nat), (⟨.arr 64 (.int .u32), keysL⟩ : (t : Ty) × den t))] = some ⟨t, y⟩ := hl
    rw [List.lookup_cons] at hl
    by_cases hg : g = 0
    · subst hg
      exact ⟨rfl, (Option.some.inj hl).symm⟩
    · have : (g == 0) = false := by simpa using hg
      rw [this] at hl
      cases hl
  obtain ⟨rfl, e⟩ := hg
  cases e
  refine ⟨cs0.toList, fun h => h, ?_, fun j u hj => ?_, keysL_len, hrep⟩
  · have h0 := hcell 0
    have : cs0[0]? ≠ none := by
      intro hn
      have hlt : 0 < cs0.size := by
        have : cs0.toList.length = cs0.size := by simp
        omega
      rw [Array.getElem?_eq_getElem hlt] at hn
      cases hn
    show 0 < W.heap.size
    rcases Nat.eq_zero_or_pos W.heap.size with hz | hz
    · exfalso
      apply this
      rw [← h0]
      simp [World.cell?, hz]
    · exact hz
  · have e : (⟨0, 0, none⟩ : Addr).add j = ⟨0, j, none⟩ := by
      unfold Addr.add
      split
      · next h => subst h; rfl
      · show (⟨0, 0 + j, none⟩ : Addr) = _
        rw [Nat.zero_add]
    rw [e, hcell]
    simpa using hj

/-- A law that is proved answers true, and leaves all as it was; what its variables hold is laid. -/
theorem law_callsG {H : Type} {enc : TypeId × Value → H} {w : World} {Gl : Globs} (hg : GlobOk prog Gl (fun _ => False) w) {f : FuncId} {aty : Ty} (hk : FnOk prog Gl f (lawS aty)) {ts : List TypeId} (hc : chainB prog tyTab ts aty = true) {r : Reach} {b0 : Nat} {spare : Nat → Bool} {held : Bool} {args : Array Value} {ds : List (DataW H)} {ps : List MemPlace}
    (h : DataW.TrodAll enc prog w 0 spare held ts args.toList ds ps) (hv : ∀ (j : Nat) t v, ts[j]? = some t → args[j]? = some v → Value.okWide prog w r b0 t v) : Calls prog f args w fun e w' => e = .returned (.bool true) ∧ Below w.heap.size w w' := by
  obtain ⟨x, hx⟩ := chain_of_trod tab_ok ts aty args.toList ds ps hc h (fun j t v hj hv' => hv j t v hj (by simpa using hv'))
  have := hk.does (fun _ => False) w args.toList x (fun _ h => h.elim) hg hx trivial
  rw [Array.toArray_toList] at this
  refine Calls.mono this fun e w' ⟨v, e1, e2, rest, cs, e3, e4, e5⟩ => ?_
  have e4 : cs = [.bool true] := e4
  subst e4
  have e3 : [v] = [Value.bool true] := e3
  have : v = .bool true := by simpa using e3
  subst this
  exact ⟨e1, ⟨e2.os, e2.tape, e2.output, e2.size, e2.block⟩⟩

theorem laid_met (os : Os) (args : Array Value) : laidMetH prog laidL ((World.laidAll prog os laidL).forCall (fun _ _ => 0) ⟨#[], args, []⟩).memory := by
  rw [MakeChecks.laidMetH_plain _ _ _ (by kernel_rfl)]
  exact laidMet_laidAll _ (by kernel_rfl) (by kernel_rfl)

end Go.Proofs.YtainieginijaaaaDoor
