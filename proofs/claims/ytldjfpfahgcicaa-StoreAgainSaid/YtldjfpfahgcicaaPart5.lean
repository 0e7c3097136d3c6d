/- Part of the lift: an abstract walk of the program's code, proved sound, and what it shows of this program. -/
import Derived.Test.YtldjfpfahgcicaaPart0
import Derived.Test.YtldjfpfahgcicaaChecked
import Derived.Test.YtldjfpfahgcicaaPart3
import Derived.Test.YtldjfpfahgcicaaPart4
namespace Go.Bv
open Go Go.Proofs
set_option maxRecDepth 100000 in
def tab.tbl : List (Option TI) := [
  (some ⟨.leaf, 0, .other, .undef⟩),
  (some ⟨.leaf, 8, .other, .nilfn⟩),
  (some ⟨.leaf, 8, (.int .i64), (.int .i64 0)⟩),
  (some ⟨.leaf, 8, (.int .i64), (.int .i64 0)⟩),
  (some ⟨.leaf, 1, .bool, (.bool false)⟩),
  (some ⟨.leaf, 1, (.int .u8), (.int .u8 0)⟩),
  (some ⟨.leaf, 1, (.int .u8), (.int .u8 0)⟩),
  (some ⟨(.agg 4), 24, (.struct ((0, .leaf) :: ((1, .leaf) :: ((2, .leaf) :: ((3, .leaf) :: [])))) (some (0 :: (0 :: (2 :: (0 :: [])))))), (.agg ((.int .i64 0) :: ((.int .i64 0) :: ((.bool false) :: ((.int .u8 0) :: [])))))⟩),
  (some ⟨(.agg 4), 24, (.struct ((0, .leaf) :: ((1, .leaf) :: ((2, .leaf) :: ((3, .leaf) :: [])))) (some (0 :: (0 :: (2 :: (0 :: [])))))), (.agg ((.int .i64 0) :: ((.int .i64 0) :: ((.bool false) :: ((.int .u8 0) :: [])))))⟩),
  (some ⟨.leaf, 16, .str, (.str [])⟩),
  (some ⟨.leaf, 16, .str, (.str [])⟩),
  (some ⟨.leaf, 16, .str, (.str [])⟩),
  (some ⟨.leaf, 8, (.int .u64), (.int .u64 0)⟩),
  (some ⟨(.agg 2), 24, (.struct ((0, .leaf) :: ((1, .leaf) :: [])) none), (.agg ((.str []) :: ((.int .u64 0) :: [])))⟩),
  (some ⟨(.agg 2), 24, (.struct ((0, .leaf) :: ((1, .leaf) :: [])) none), (.agg ((.str []) :: ((.int .u64 0) :: [])))⟩),
  (some ⟨.leaf, 8, .other, .undef⟩),
  (some ⟨.leaf, 8, .other, .undef⟩),
  (some ⟨.leaf, 8, .other, .undef⟩),
  (some ⟨(.agg 1), 8, (.struct ((0, .leaf) :: []) none), (.agg (.undef :: []))⟩),
  (some ⟨(.agg 1), 8, (.struct ((0, .leaf) :: []) none), (.agg (.undef :: []))⟩),
  (some ⟨.leaf, 16, .other, .undef⟩),
  (some ⟨.leaf, 4, (.int .i32), (.int .i32 0)⟩),
  (some ⟨.leaf, 24, (.slice 29), .nils⟩),
  (some ⟨.leaf, 8, .other, .nilfn⟩),
  (some ⟨.leaf, 8, .other, .nilfn⟩),
  (some ⟨.leaf, 24, (.slice 3), .nils⟩),
  (some ⟨.leaf, 24, (.slice 3), .nils⟩),
  (some ⟨.leaf, 24, (.slice 43), .nils⟩),
  (some ⟨(.agg 4), 64, (.struct ((0, .leaf) :: ((1, .leaf) :: ((2, .leaf) :: ((3, .leaf) :: [])))) none), (.agg ((.int .i64 0) :: ((.int .i64 0) :: (.nils :: (.nils :: [])))))⟩),
  (some ⟨(.agg 4), 64, (.struct ((0, .leaf) :: ((1, .leaf) :: ((2, .leaf) :: ((3, .leaf) :: [])))) none), (.agg ((.int .i64 0) :: ((.int .i64 0) :: (.nils :: (.nils :: [])))))⟩),
  (some ⟨.leaf, 8, (.int .u64), (.int .u64 0)⟩),
  (some ⟨.leaf, 8, .other, .nilfn⟩),
  (some ⟨.leaf, 24, (.slice 58), .nils⟩),
  (some ⟨.leaf, 8, .other, .nilfn⟩),
  (some ⟨.leaf, 8, .other, .nilfn⟩),
  (some ⟨.leaf, 8, .other, .nilfn⟩),
  (some ⟨.leaf, 8, .other, .nilfn⟩),
  (some ⟨.leaf, 8, .other, .nilfn⟩),
  (some ⟨.leaf, 8, .other, .nilfn⟩),
  (some ⟨.leaf, 8, .other, .nilfn⟩),
  (some ⟨.leaf, 8, .other, .nilfn⟩),
  (some ⟨.leaf, 24, (.slice 46), .nils⟩),
  (some ⟨(.agg 7), 96, (.struct ((0, .leaf) :: ((1, .leaf) :: ((2, .leaf) :: ((3, .leaf) :: ((4, .leaf) :: ((5, .leaf) :: ((6, .leaf) :: []))))))) none), (.agg ((.int .i64 0) :: ((.str []) :: ((.str []) :: ((.int .i64 0) :: ((.str []) :: ((.int .i64 0) :: (.nils :: []))))))))⟩),
  (some ⟨(.agg 7), 96, (.struct ((0, .leaf) :: ((1, .leaf) :: ((2, .leaf) :: ((3, .leaf) :: ((4, .leaf) :: ((5, .leaf) :: ((6, .leaf) :: []))))))) none), (.agg ((.int .i64 0) :: ((.str []) :: ((.str []) :: ((.int .i64 0) :: ((.str []) :: ((.int .i64 0) :: (.nils :: []))))))))⟩),
  (some ⟨.leaf, 8, .other, .nilfn⟩),
  (some ⟨(.agg 3), 24, (.struct ((0, .leaf) :: ((1, .leaf) :: ((2, .leaf) :: []))) (some (0 :: (0 :: (0 :: []))))), (.agg ((.int .i64 0) :: ((.int .i64 0) :: ((.int .i64 0) :: []))))⟩),
  (some ⟨(.agg 3), 24, (.struct ((0, .leaf) :: ((1, .leaf) :: ((2, .leaf) :: []))) (some (0 :: (0 :: (0 :: []))))), (.agg ((.int .i64 0) :: ((.int .i64 0) :: ((.int .i64 0) :: []))))⟩),
  (some ⟨.leaf, 8, .other, .nilfn⟩),
  (some ⟨.leaf, 8, .other, .nilfn⟩),
  (some ⟨(.agg 2), 48, (.struct ((0, .leaf) :: ((1, .leaf) :: [])) none), (.agg (.nils :: (.nils :: [])))⟩),
  (some ⟨(.agg 2), 48, (.struct ((0, .leaf) :: ((1, .leaf) :: [])) none), (.agg (.nils :: (.nils :: [])))⟩),
  (some ⟨.leaf, 0, .other, .undef⟩),
  (some ⟨.leaf, 8, .other, .nilfn⟩),
  (some ⟨.leaf, 8, .other, .nilfn⟩),
  (some ⟨.leaf, 8, .other, .nilfn⟩),
  (some ⟨.leaf, 8, .other, .nilfn⟩),
  (some ⟨.leaf, 8, .other, .nilfn⟩),
  (some ⟨(.agg 8), 88, (.struct ((0, .leaf) :: ((1, .leaf) :: ((2, .leaf) :: ((3, .leaf) :: ((4, .leaf) :: ((5, (.agg 3)) :: [])))))) (some (1 :: (1 :: (0 :: (1 :: (0 :: (0 :: (0 :: (0 :: [])))))))))), (.agg ((.str []) :: ((.str []) :: ((.int .i64 0) :: ((.str []) :: ((.int .i64 0) :: ((.int .i64 0) :: ((.int .i64 0) :: ((.int .i64 0) :: [])))))))))⟩),
  (some ⟨(.agg 8), 88, (.struct ((0, .leaf) :: ((1, .leaf) :: ((2, .leaf) :: ((3, .leaf) :: ((4, .leaf) :: ((5, (.agg 3)) :: [])))))) (some (1 :: (1 :: (0 :: (1 :: (0 :: (0 :: (0 :: (0 :: [])))))))))), (.agg ((.str []) :: ((.str []) :: ((.int .i64 0) :: ((.str []) :: ((.int .i64 0) :: ((.int .i64 0) :: ((.int .i64 0) :: ((.int .i64 0) :: [])))))))))⟩),
  (some ⟨.leaf, 8, .other, .nilfn⟩),
  (some ⟨.leaf, 8, (.map 46 4), (.tup [])⟩),
  (some ⟨.leaf, 8, .other, .nilfn⟩),
  (some ⟨.leaf, 8, .other, .nilfn⟩),
  (some ⟨.leaf, 8, .other, .nilfn⟩),
  (some ⟨.leaf, 8, .other, .nilfn⟩),
  (some ⟨.leaf, 8, .other, .nilfn⟩),
  (some ⟨.leaf, 8, .other, .nilfn⟩),
  (some ⟨.leaf, 8, .other, .nilfn⟩),
  (some ⟨.leaf, 8, .other, .nilfn⟩),
  (some ⟨.leaf, 0, .other, .undef⟩),
  (some ⟨.leaf, 8, .other, .nilfn⟩),
  (some ⟨.leaf, 8, .other, .nilfn⟩),
  (some ⟨.leaf, 8, .other, .nilfn⟩),
  (some ⟨.leaf, 24, (.slice 9), .nils⟩),
  (some ⟨.leaf, 8, .other, .nilfn⟩),
  (some ⟨.leaf, 8, .other, .nilfn⟩),
  (some ⟨.leaf, 8, (.int .i64), (.int .i64 0)⟩),
  (some ⟨.leaf, 0, .other, .undef⟩),
  (some ⟨.leaf, 8, .other, .nilfn⟩),
  (some ⟨.leaf, 8, .other, .nilfn⟩),
  (some ⟨.leaf, 8, .other, .nilfn⟩),
  (some ⟨.leaf, 8, .other, .nilfn⟩),
  (some ⟨.leaf, 8, .other, .nilfn⟩),
  (some ⟨.leaf, 8, .other, .nilfn⟩),
  (some ⟨.leaf, 8, .other, .nilfn⟩),
  (some ⟨.leaf, 8, .other, .nilfn⟩),
  (some ⟨.leaf, 8, .other, .nilfn⟩),
  (some ⟨.leaf, 8, .other, .nilfn⟩),
  (some ⟨.leaf, 8, .other, .nilfn⟩),
  (some ⟨.leaf, 8, .other, .nilfn⟩),
  (some ⟨.leaf, 8, .other, .nilfn⟩),
  (some ⟨.leaf, 8, .other, .nilfn⟩),
  (some ⟨.leaf, 8, .other, .nilfn⟩),
  (some ⟨.leaf, 8, .other, .nilfn⟩),
  (some ⟨.leaf, 8, .other, .nilfn⟩),
  (some ⟨.leaf, 8, .other, .nilfn⟩),
  (some ⟨.leaf, 8, .other, .nilfn⟩),
  (some ⟨.leaf, 8, .other, .nilfn⟩),
  (some ⟨.leaf, 8, .other, .nilfn⟩),
  (some ⟨.leaf, 8, .other, .nilfn⟩),
  (some ⟨.leaf, 8, .other, .nilfn⟩),
  (some ⟨.leaf, 8, .other, .nilfn⟩),
  (some ⟨.leaf, 8, .other, .nilfn⟩),
  (some ⟨.leaf, 8, .other, .nilfn⟩),
  (some ⟨.leaf, 8, .other, .nilfn⟩),
  (some ⟨.leaf, 8, .other, .nilfn⟩),
  (some ⟨.leaf, 0, .other, .undef⟩),
  (some ⟨.leaf, 8, .other, .nilfn⟩),
  (some ⟨.leaf, 8, .other, .nilfn⟩),
  (some ⟨.leaf, 8, .other, .nilfn⟩),
  (some ⟨.leaf, 8, .other, .nilfn⟩),
  (some ⟨.leaf, 8, (.int .i64), (.int .i64 0)⟩),
  (some ⟨.leaf, 0, .other, .undef⟩),
  (some ⟨.leaf, 8, .other, .nilfn⟩),
  (some ⟨.leaf, 8, .other, .nilfn⟩),
  (some ⟨.leaf, 8, .other, .nilfn⟩),
  (some ⟨.leaf, 0, .other, .undef⟩),
  (some ⟨.leaf, 8, .other, .nilfn⟩),
  (some ⟨.leaf, 8, .other, .nilfn⟩),
  (some ⟨.leaf, 4, (.int .u32), (.int .u32 0)⟩),
  (some ⟨.leaf, 8, .other, .nilfn⟩),
  (some ⟨.leaf, 8, (.int .u64), (.int .u64 0)⟩),
  (some ⟨.leaf, 8, .other, .nilfn⟩),
  (some ⟨.leaf, 8, .other, .nilfn⟩),
  (some ⟨.leaf, 8, .other, .nilfn⟩),
  (some ⟨.leaf, 8, .other, .nilfn⟩),
  (some ⟨.leaf, 8, .other, .nilfn⟩),
  (some ⟨.leaf, 8, (.int .u64), (.int .u64 0)⟩),
  (some ⟨.leaf, 8, .other, .nilfn⟩),
  (some ⟨.leaf, 8, .other, .nilfn⟩),
  (some ⟨.leaf, 8, .other, .nilfn⟩),
  (some ⟨.leaf, 8, .other, .undef⟩),
  (some ⟨.leaf, 8, .other, .nilfn⟩),
  (some ⟨.leaf, 8, .other, .nilfn⟩),
  (some ⟨.leaf, 8, .other, .undef⟩),
  (some ⟨.leaf, 0, .other, .undef⟩),
  (some ⟨.leaf, 8, .other, .nilfn⟩),
  (some ⟨.leaf, 8, .other, .nilfn⟩),
  (some ⟨(.agg 4), 40, (.struct ((0, .leaf) :: ((1, .leaf) :: ((2, .leaf) :: ((3, .leaf) :: [])))) none), (.agg (.undef :: (.undef :: (.undef :: ((.str []) :: [])))))⟩),
  (some ⟨(.agg 4), 40, (.struct ((0, .leaf) :: ((1, .leaf) :: ((2, .leaf) :: ((3, .leaf) :: [])))) none), (.agg (.undef :: (.undef :: (.undef :: ((.str []) :: [])))))⟩),
  (some ⟨(.agg 0), 0, (.array 0 16), (.agg [])⟩),
  (some ⟨(.agg 0), 0, (.struct ((0, (.agg 0)) :: []) none), (.agg [])⟩),
  (some ⟨(.agg 0), 0, (.struct ((0, (.agg 0)) :: []) none), (.agg [])⟩),
  (some ⟨.leaf, 8, .other, .nilfn⟩),
  (some ⟨.leaf, 1, (.int .u8), (.int .u8 0)⟩),
  (some ⟨.leaf, 1, (.int .u8), (.int .u8 0)⟩),
  (some ⟨.leaf, 8, .other, .nilfn⟩),
  (some ⟨.leaf, 8, .other, .undef⟩),
  (some ⟨.leaf, 4, (.int .i32), (.int .i32 0)⟩),
  (some ⟨.leaf, 4, (.int .i32), (.int .i32 0)⟩),
  (some ⟨(.agg 11), 48, (.struct ((0, .leaf) :: ((1, .leaf) :: ((2, .leaf) :: ((3, .leaf) :: ((4, .leaf) :: ((5, .leaf) :: ((6, .leaf) :: ((7, .leaf) :: ((8, .leaf) :: ((9, .leaf) :: ((10, .leaf) :: []))))))))))) none), (.agg ((.int .u64 0) :: ((.int .u64 0) :: ((.int .u32 0) :: ((.int .u8 0) :: ((.int .u8 0) :: ((.int .u8 0) :: ((.int .u8 0) :: (.nilfn :: (.undef :: ((.int .i32 0) :: ((.int .i32 0) :: []))))))))))))⟩),
  (some ⟨(.agg 11), 48, (.struct ((0, .leaf) :: ((1, .leaf) :: ((2, .leaf) :: ((3, .leaf) :: ((4, .leaf) :: ((5, .leaf) :: ((6, .leaf) :: ((7, .leaf) :: ((8, .leaf) :: ((9, .leaf) :: ((10, .leaf) :: []))))))))))) none), (.agg ((.int .u64 0) :: ((.int .u64 0) :: ((.int .u32 0) :: ((.int .u8 0) :: ((.int .u8 0) :: ((.int .u8 0) :: ((.int .u8 0) :: (.nilfn :: (.undef :: ((.int .i32 0) :: ((.int .i32 0) :: []))))))))))))⟩),
  (some ⟨.leaf, 8, .other, .undef⟩)]
theorem tab.eq : tab.tbl = (List.range 153).map fun t => tiOf Try.prog t := by kernel_rfl
def tab : Tab Try.prog := ⟨tab.tbl, fun t ti h => by
  rw [tab.eq, List.getElem?_map] at h
  rcases Nat.lt_or_ge t 153 with hlt | hge
  · rw [List.getElem?_range hlt] at h; simpa using h
  · rw [List.getElem?_eq_none (by simpa using hge)] at h; simp at h⟩
end Go.Bv
namespace Go.Bv.Nm
open Go Go.Proofs
abbrev law15_StoreSound : Nat := 7
noncomputable abbrev law15_StoreSound_f : Func := Try.f7
theorem law15_StoreSound_h : Try.prog.funcs[law15_StoreSound]? = some law15_StoreSound_f := Try.func7
abbrev law15_StoreAny : Nat := 8
noncomputable abbrev law15_StoreAny_f : Func := Try.f8
theorem law15_StoreAny_h : Try.prog.funcs[law15_StoreAny]? = some law15_StoreAny_f := Try.func8
abbrev law15_StoreAgain : Nat := 9
noncomputable abbrev law15_StoreAgain_f : Func := Try.f9
theorem law15_StoreAgain_h : Try.prog.funcs[law15_StoreAgain]? = some law15_StoreAgain_f := Try.func9
abbrev ref13_Short : Nat := 11
noncomputable abbrev ref13_Short_f : Func := Try.f11
theorem ref13_Short_h : Try.prog.funcs[ref13_Short]? = some ref13_Short_f := Try.func11
abbrev ref09_Same : Nat := 12
noncomputable abbrev ref09_Same_f : Func := Try.f12
theorem ref09_Same_h : Try.prog.funcs[ref09_Same]? = some ref09_Same_f := Try.func12
abbrev ref07_Equal : Nat := 14
noncomputable abbrev ref07_Equal_f : Func := Try.f14
theorem ref07_Equal_h : Try.prog.funcs[ref07_Equal]? = some ref07_Equal_f := Try.func14
abbrev eff_Do : Nat := 17
noncomputable abbrev eff_Do_f : Func := Try.f17
theorem eff_Do_h : Try.prog.funcs[eff_Do]? = some eff_Do_f := Try.func17
abbrev vec_Within : Nat := 20
noncomputable abbrev vec_Within_f : Func := Try.f20
theorem vec_Within_h : Try.prog.funcs[vec_Within]? = some vec_Within_f := Try.func20
abbrev vec_Trim : Nat := 21
noncomputable abbrev vec_Trim_f : Func := Try.f21
theorem vec_Trim_h : Try.prog.funcs[vec_Trim]? = some vec_Trim_f := Try.func21
abbrev ref14_Twice : Nat := 22
noncomputable abbrev ref14_Twice_f : Func := Try.f22
theorem ref14_Twice_h : Try.prog.funcs[ref14_Twice]? = some ref14_Twice_f := Try.func22
abbrev store_All : Nat := 25
noncomputable abbrev store_All_f : Func := Try.f25
theorem store_All_h : Try.prog.funcs[store_All]? = some store_All_f := Try.func25
abbrev law15_awake : Nat := 26
noncomputable abbrev law15_awake_f : Func := Try.f26
theorem law15_awake_h : Try.prog.funcs[law15_awake]? = some law15_awake_f := Try.func26
abbrev ref15_Short : Nat := 27
noncomputable abbrev ref15_Short_f : Func := Try.f27
theorem ref15_Short_h : Try.prog.funcs[ref15_Short]? = some ref15_Short_f := Try.func27
abbrev store_Sound : Nat := 28
noncomputable abbrev store_Sound_f : Func := Try.f28
theorem store_Sound_h : Try.prog.funcs[store_Sound]? = some store_Sound_f := Try.func28
abbrev ref15_Same : Nat := 29
noncomputable abbrev ref15_Same_f : Func := Try.f29
theorem ref15_Same_h : Try.prog.funcs[ref15_Same]? = some ref15_Same_f := Try.func29
abbrev ref10_Short : Nat := 30
noncomputable abbrev ref10_Short_f : Func := Try.f30
theorem ref10_Short_h : Try.prog.funcs[ref10_Short]? = some ref10_Short_f := Try.func30
abbrev item_Norm : Nat := 31
noncomputable abbrev item_Norm_f : Func := Try.f31
theorem item_Norm_h : Try.prog.funcs[item_Norm]? = some item_Norm_f := Try.func31
abbrev txn_Dot : Nat := 32
noncomputable abbrev txn_Dot_f : Func := Try.f32
theorem txn_Dot_h : Try.prog.funcs[txn_Dot]? = some txn_Dot_f := Try.func32
abbrev slices_Clone_api_Item_api_Item : Nat := 37
noncomputable abbrev slices_Clone_api_Item_api_Item_f : Func := Try.f37
theorem slices_Clone_api_Item_api_Item_h : Try.prog.funcs[slices_Clone_api_Item_api_Item]? = some slices_Clone_api_Item_api_Item_f := Try.func37
abbrev item_Without : Nat := 38
noncomputable abbrev item_Without_f : Func := Try.f38
theorem item_Without_h : Try.prog.funcs[item_Without]? = some item_Without_f := Try.func38
abbrev eff_made : Nat := 39
noncomputable abbrev eff_made_f : Func := Try.f39
theorem eff_made_h : Try.prog.funcs[eff_made]? = some eff_made_f := Try.func39
abbrev txn_Formed : Nat := 42
noncomputable abbrev txn_Formed_f : Func := Try.f42
theorem txn_Formed_h : Try.prog.funcs[txn_Formed]? = some txn_Formed_f := Try.func42
abbrev order_Take : Nat := 43
noncomputable abbrev order_Take_f : Func := Try.f43
theorem order_Take_h : Try.prog.funcs[order_Take]? = some order_Take_f := Try.func43
abbrev vec_Has : Nat := 44
noncomputable abbrev vec_Has_f : Func := Try.f44
theorem vec_Has_h : Try.prog.funcs[vec_Has]? = some vec_Has_f := Try.func44
abbrev slices_Clone_api_Vec_int : Nat := 45
noncomputable abbrev slices_Clone_api_Vec_int_f : Func := Try.f45
theorem slices_Clone_api_Vec_int_h : Try.prog.funcs[slices_Clone_api_Vec_int]? = some slices_Clone_api_Vec_int_f := Try.func45
abbrev txn_Only : Nat := 46
noncomputable abbrev txn_Only_f : Func := Try.f46
theorem txn_Only_h : Try.prog.funcs[txn_Only]? = some txn_Only_f := Try.func46
abbrev vec_At : Nat := 47
noncomputable abbrev vec_At_f : Func := Try.f47
theorem vec_At_h : Try.prog.funcs[vec_At]? = some vec_At_f := Try.func47
abbrev slices_DeleteFunc_api_Item_api_Item : Nat := 48
noncomputable abbrev slices_DeleteFunc_api_Item_api_Item_f : Func := Try.f48
theorem slices_DeleteFunc_api_Item_api_Item_h : Try.prog.funcs[slices_DeleteFunc_api_Item_api_Item]? = some slices_DeleteFunc_api_Item_api_Item_f := Try.func48
abbrev store_Do : Nat := 50
noncomputable abbrev store_Do_f : Func := Try.f50
theorem store_Do_h : Try.prog.funcs[store_Do]? = some store_Do_f := Try.func50
abbrev law15_awake_1 : Nat := 51
noncomputable abbrev law15_awake_1_f : Func := Try.f51
theorem law15_awake_1_h : Try.prog.funcs[law15_awake_1]? = some law15_awake_1_f := Try.func51
abbrev ref09_Short : Nat := 52
noncomputable abbrev ref09_Short_f : Func := Try.f52
theorem ref09_Short_h : Try.prog.funcs[ref09_Short]? = some ref09_Short_f := Try.func52
abbrev slices_Equal_api_Vec_int : Nat := 53
noncomputable abbrev slices_Equal_api_Vec_int_f : Func := Try.f53
theorem slices_Equal_api_Vec_int_h : Try.prog.funcs[slices_Equal_api_Vec_int]? = some slices_Equal_api_Vec_int_f := Try.func53
abbrev slices_ContainsFunc_api_Vec_int : Nat := 54
noncomputable abbrev slices_ContainsFunc_api_Vec_int_f : Func := Try.f54
theorem slices_ContainsFunc_api_Vec_int_h : Try.prog.funcs[slices_ContainsFunc_api_Vec_int]? = some slices_ContainsFunc_api_Vec_int_f := Try.func54
abbrev store_Sound_1 : Nat := 55
noncomputable abbrev store_Sound_1_f : Func := Try.f55
theorem store_Sound_1_h : Try.prog.funcs[store_Sound_1]? = some store_Sound_1_f := Try.func55
abbrev slices_Equal_api_Item_api_Item : Nat := 56
noncomputable abbrev slices_Equal_api_Item_api_Item_f : Func := Try.f56
theorem slices_Equal_api_Item_api_Item_h : Try.prog.funcs[slices_Equal_api_Item_api_Item]? = some slices_Equal_api_Item_api_Item_f := Try.func56
abbrev slices_ContainsFunc_api_Item_api_Item : Nat := 57
noncomputable abbrev slices_ContainsFunc_api_Item_api_Item_f : Func := Try.f57
theorem slices_ContainsFunc_api_Item_api_Item_h : Try.prog.funcs[slices_ContainsFunc_api_Item_api_Item]? = some slices_ContainsFunc_api_Item_api_Item_f := Try.func57
abbrev store_Sound_2 : Nat := 58
noncomputable abbrev store_Sound_2_f : Func := Try.f58
theorem store_Sound_2_h : Try.prog.funcs[store_Sound_2]? = some store_Sound_2_f := Try.func58
abbrev item_Formed : Nat := 59
noncomputable abbrev item_Formed_f : Func := Try.f59
theorem item_Formed_h : Try.prog.funcs[item_Formed]? = some item_Formed_f := Try.func59
abbrev slices_SortFunc_api_Item_api_Item : Nat := 60
noncomputable abbrev slices_SortFunc_api_Item_api_Item_f : Func := Try.f60
theorem slices_SortFunc_api_Item_api_Item_h : Try.prog.funcs[slices_SortFunc_api_Item_api_Item]? = some slices_SortFunc_api_Item_api_Item_f := Try.func60
abbrev item_compare : Nat := 61
noncomputable abbrev item_compare_f : Func := Try.f61
theorem item_compare_h : Try.prog.funcs[item_compare]? = some item_compare_f := Try.func61
abbrev item_Norm_1 : Nat := 62
noncomputable abbrev item_Norm_1_f : Func := Try.f62
theorem item_Norm_1_h : Try.prog.funcs[item_Norm_1]? = some item_Norm_1_f := Try.func62
abbrev item_Without_1 : Nat := 64
noncomputable abbrev item_Without_1_f : Func := Try.f64
theorem item_Without_1_h : Try.prog.funcs[item_Without_1]? = some item_Without_1_f := Try.func64
abbrev slices_Contains_api_Dot_api_Dot : Nat := 65
noncomputable abbrev slices_Contains_api_Dot_api_Dot_f : Func := Try.f65
theorem slices_Contains_api_Dot_api_Dot_h : Try.prog.funcs[slices_Contains_api_Dot_api_Dot]? = some slices_Contains_api_Dot_api_Dot_f := Try.func65
abbrev slices_IndexFunc_api_Txn_api_Txn : Nat := 66
noncomputable abbrev slices_IndexFunc_api_Txn_api_Txn_f : Func := Try.f66
theorem slices_IndexFunc_api_Txn_api_Txn_h : Try.prog.funcs[slices_IndexFunc_api_Txn_api_Txn]? = some slices_IndexFunc_api_Txn_api_Txn_f := Try.func66
abbrev txn_Formed_1 : Nat := 67
noncomputable abbrev txn_Formed_1_f : Func := Try.f67
theorem txn_Formed_1_h : Try.prog.funcs[txn_Formed_1]? = some txn_Formed_1_f := Try.func67
abbrev eff_Right : Nat := 68
noncomputable abbrev eff_Right_f : Func := Try.f68
theorem eff_Right_h : Try.prog.funcs[eff_Right]? = some eff_Right_f := Try.func68
abbrev eff_Heard : Nat := 69
noncomputable abbrev eff_Heard_f : Func := Try.f69
theorem eff_Heard_h : Try.prog.funcs[eff_Heard]? = some eff_Heard_f := Try.func69
abbrev slices_Clone_api_Txn_api_Txn : Nat := 70
noncomputable abbrev slices_Clone_api_Txn_api_Txn_f : Func := Try.f70
theorem slices_Clone_api_Txn_api_Txn_h : Try.prog.funcs[slices_Clone_api_Txn_api_Txn]? = some slices_Clone_api_Txn_api_Txn_f := Try.func70
abbrev order_Take_1 : Nat := 71
noncomputable abbrev order_Take_1_f : Func := Try.f71
theorem order_Take_1_h : Try.prog.funcs[order_Take_1]? = some order_Take_1_f := Try.func71
abbrev order_Ready : Nat := 72
noncomputable abbrev order_Ready_f : Func := Try.f72
theorem order_Ready_h : Try.prog.funcs[order_Ready]? = some order_Ready_f := Try.func72
abbrev slices_Delete_api_Txn_api_Txn : Nat := 73
noncomputable abbrev slices_Delete_api_Txn_api_Txn_f : Func := Try.f73
theorem slices_Delete_api_Txn_api_Txn_h : Try.prog.funcs[slices_Delete_api_Txn_api_Txn]? = some slices_Delete_api_Txn_api_Txn_f := Try.func73
abbrev order_Next : Nat := 74
noncomputable abbrev order_Next_f : Func := Try.f74
theorem order_Next_h : Try.prog.funcs[order_Next]? = some order_Next_f := Try.func74
abbrev eff_Only : Nat := 75
noncomputable abbrev eff_Only_f : Func := Try.f75
theorem eff_Only_h : Try.prog.funcs[eff_Only]? = some eff_Only_f := Try.func75
abbrev slices_IndexFunc_api_Item_api_Item : Nat := 76
noncomputable abbrev slices_IndexFunc_api_Item_api_Item_f : Func := Try.f76
theorem slices_IndexFunc_api_Item_api_Item_h : Try.prog.funcs[slices_IndexFunc_api_Item_api_Item]? = some slices_IndexFunc_api_Item_api_Item_f := Try.func76
abbrev slices_IndexFunc_api_Vec_int : Nat := 77
noncomputable abbrev slices_IndexFunc_api_Vec_int_f : Func := Try.f77
theorem slices_IndexFunc_api_Vec_int_h : Try.prog.funcs[slices_IndexFunc_api_Vec_int]? = some slices_IndexFunc_api_Vec_int_f := Try.func77
abbrev zone_Key : Nat := 78
noncomputable abbrev zone_Key_f : Func := Try.f78
theorem zone_Key_h : Try.prog.funcs[zone_Key]? = some zone_Key_f := Try.func78
abbrev slices_pdqsortCmpFunc_api_Item : Nat := 79
noncomputable abbrev slices_pdqsortCmpFunc_api_Item_f : Func := Try.f79
theorem slices_pdqsortCmpFunc_api_Item_h : Try.prog.funcs[slices_pdqsortCmpFunc_api_Item]? = some slices_pdqsortCmpFunc_api_Item_f := Try.func79
abbrev math_bits_Len : Nat := 80
noncomputable abbrev math_bits_Len_f : Func := Try.f80
theorem math_bits_Len_h : Try.prog.funcs[math_bits_Len]? = some math_bits_Len_f := Try.func80
abbrev cmp_Or_int : Nat := 81
noncomputable abbrev cmp_Or_int_f : Func := Try.f81
theorem cmp_Or_int_h : Try.prog.funcs[cmp_Or_int]? = some cmp_Or_int_f := Try.func81
abbrev cmp_Compare_string : Nat := 82
noncomputable abbrev cmp_Compare_string_f : Func := Try.f82
theorem cmp_Compare_string_h : Try.prog.funcs[cmp_Compare_string]? = some cmp_Compare_string_f := Try.func82
abbrev cmp_Compare_int : Nat := 83
noncomputable abbrev cmp_Compare_int_f : Func := Try.f83
theorem cmp_Compare_int_h : Try.prog.funcs[cmp_Compare_int]? = some cmp_Compare_int_f := Try.func83
abbrev cmp_Compare_int64 : Nat := 84
noncomputable abbrev cmp_Compare_int64_f : Func := Try.f84
theorem cmp_Compare_int64_h : Try.prog.funcs[cmp_Compare_int64]? = some cmp_Compare_int64_f := Try.func84
abbrev slices_Index_api_Dot_api_Dot : Nat := 91
noncomputable abbrev slices_Index_api_Dot_api_Dot_f : Func := Try.f91
theorem slices_Index_api_Dot_api_Dot_h : Try.prog.funcs[slices_Index_api_Dot_api_Dot]? = some slices_Index_api_Dot_api_Dot_f := Try.func91
abbrev eff_Formed : Nat := 92
noncomputable abbrev eff_Formed_f : Func := Try.f92
theorem eff_Formed_h : Try.prog.funcs[eff_Formed]? = some eff_Formed_f := Try.func92
abbrev slices_ContainsFunc_api_Dot_api_Dot : Nat := 93
noncomputable abbrev slices_ContainsFunc_api_Dot_api_Dot_f : Func := Try.f93
theorem slices_ContainsFunc_api_Dot_api_Dot_h : Try.prog.funcs[slices_ContainsFunc_api_Dot_api_Dot]? = some slices_ContainsFunc_api_Dot_api_Dot_f := Try.func93
abbrev eff_Right_1 : Nat := 94
noncomputable abbrev eff_Right_1_f : Func := Try.f94
theorem eff_Right_1_h : Try.prog.funcs[eff_Right_1]? = some eff_Right_1_f := Try.func94
abbrev vec_With : Nat := 95
noncomputable abbrev vec_With_f : Func := Try.f95
theorem vec_With_h : Try.prog.funcs[vec_With]? = some vec_With_f := Try.func95
abbrev zone_Covers : Nat := 96
noncomputable abbrev zone_Covers_f : Func := Try.f96
theorem zone_Covers_h : Try.prog.funcs[zone_Covers]? = some zone_Covers_f := Try.func96
abbrev slices_Clone_api_Dot_api_Dot : Nat := 97
noncomputable abbrev slices_Clone_api_Dot_api_Dot_f : Func := Try.f97
theorem slices_Clone_api_Dot_api_Dot_h : Try.prog.funcs[slices_Clone_api_Dot_api_Dot]? = some slices_Clone_api_Dot_api_Dot_f := Try.func97
abbrev zone_prefix : Nat := 98
noncomputable abbrev zone_prefix_f : Func := Try.f98
theorem zone_prefix_h : Try.prog.funcs[zone_prefix]? = some zone_prefix_f := Try.func98
abbrev slices_insertionSortCmpFunc_api_Item : Nat := 99
noncomputable abbrev slices_insertionSortCmpFunc_api_Item_f : Func := Try.f99
theorem slices_insertionSortCmpFunc_api_Item_h : Try.prog.funcs[slices_insertionSortCmpFunc_api_Item]? = some slices_insertionSortCmpFunc_api_Item_f := Try.func99
abbrev slices_heapSortCmpFunc_api_Item : Nat := 100
noncomputable abbrev slices_heapSortCmpFunc_api_Item_f : Func := Try.f100
theorem slices_heapSortCmpFunc_api_Item_h : Try.prog.funcs[slices_heapSortCmpFunc_api_Item]? = some slices_heapSortCmpFunc_api_Item_f := Try.func100
abbrev slices_breakPatternsCmpFunc_api_Item : Nat := 101
noncomputable abbrev slices_breakPatternsCmpFunc_api_Item_f : Func := Try.f101
theorem slices_breakPatternsCmpFunc_api_Item_h : Try.prog.funcs[slices_breakPatternsCmpFunc_api_Item]? = some slices_breakPatternsCmpFunc_api_Item_f := Try.func101
abbrev slices_choosePivotCmpFunc_api_Item : Nat := 102
noncomputable abbrev slices_choosePivotCmpFunc_api_Item_f : Func := Try.f102
theorem slices_choosePivotCmpFunc_api_Item_h : Try.prog.funcs[slices_choosePivotCmpFunc_api_Item]? = some slices_choosePivotCmpFunc_api_Item_f := Try.func102
abbrev slices_reverseRangeCmpFunc_api_Item : Nat := 103
noncomputable abbrev slices_reverseRangeCmpFunc_api_Item_f : Func := Try.f103
theorem slices_reverseRangeCmpFunc_api_Item_h : Try.prog.funcs[slices_reverseRangeCmpFunc_api_Item]? = some slices_reverseRangeCmpFunc_api_Item_f := Try.func103
abbrev slices_partialInsertionSortCmpFunc_api_Item : Nat := 104
noncomputable abbrev slices_partialInsertionSortCmpFunc_api_Item_f : Func := Try.f104
theorem slices_partialInsertionSortCmpFunc_api_Item_h : Try.prog.funcs[slices_partialInsertionSortCmpFunc_api_Item]? = some slices_partialInsertionSortCmpFunc_api_Item_f := Try.func104
abbrev slices_partitionEqualCmpFunc_api_Item : Nat := 105
noncomputable abbrev slices_partitionEqualCmpFunc_api_Item_f : Func := Try.f105
theorem slices_partitionEqualCmpFunc_api_Item_h : Try.prog.funcs[slices_partitionEqualCmpFunc_api_Item]? = some slices_partitionEqualCmpFunc_api_Item_f := Try.func105
abbrev slices_partitionCmpFunc_api_Item : Nat := 106
noncomputable abbrev slices_partitionCmpFunc_api_Item_f : Func := Try.f106
theorem slices_partitionCmpFunc_api_Item_h : Try.prog.funcs[slices_partitionCmpFunc_api_Item]? = some slices_partitionCmpFunc_api_Item_f := Try.func106
abbrev math_bits_Len64 : Nat := 108
noncomputable abbrev math_bits_Len64_f : Func := Try.f108
theorem math_bits_Len64_h : Try.prog.funcs[math_bits_Len64]? = some math_bits_Len64_f := Try.func108
abbrev cmp_isNaN_string : Nat := 109
noncomputable abbrev cmp_isNaN_string_f : Func := Try.f109
theorem cmp_isNaN_string_h : Try.prog.funcs[cmp_isNaN_string]? = some cmp_isNaN_string_f := Try.func109
abbrev cmp_isNaN_int : Nat := 110
noncomputable abbrev cmp_isNaN_int_f : Func := Try.f110
theorem cmp_isNaN_int_h : Try.prog.funcs[cmp_isNaN_int]? = some cmp_isNaN_int_f := Try.func110
abbrev cmp_isNaN_int64 : Nat := 111
noncomputable abbrev cmp_isNaN_int64_f : Func := Try.f111
theorem cmp_isNaN_int64_h : Try.prog.funcs[cmp_isNaN_int64]? = some cmp_isNaN_int64_f := Try.func111
abbrev eff_dot : Nat := 112
noncomputable abbrev eff_dot_f : Func := Try.f112
theorem eff_dot_h : Try.prog.funcs[eff_dot]? = some eff_dot_f := Try.func112
abbrev eff_order : Nat := 113
noncomputable abbrev eff_order_f : Func := Try.f113
theorem eff_order_h : Try.prog.funcs[eff_order]? = some eff_order_f := Try.func113
abbrev slices_IndexFunc_api_Dot_api_Dot : Nat := 114
noncomputable abbrev slices_IndexFunc_api_Dot_api_Dot_f : Func := Try.f114
theorem slices_IndexFunc_api_Dot_api_Dot_h : Try.prog.funcs[slices_IndexFunc_api_Dot_api_Dot]? = some slices_IndexFunc_api_Dot_api_Dot_f := Try.func114
abbrev slices_ContainsFunc_string_string : Nat := 115
noncomputable abbrev slices_ContainsFunc_string_string_f : Func := Try.f115
theorem slices_ContainsFunc_string_string_h : Try.prog.funcs[slices_ContainsFunc_string_string]? = some slices_ContainsFunc_string_string_f := Try.func115
abbrev zone_Covers_1 : Nat := 116
noncomputable abbrev zone_Covers_1_f : Func := Try.f116
theorem zone_Covers_1_h : Try.prog.funcs[zone_Covers_1]? = some zone_Covers_1_f := Try.func116
abbrev strings_HasPrefix : Nat := 117
noncomputable abbrev strings_HasPrefix_f : Func := Try.f117
theorem strings_HasPrefix_h : Try.prog.funcs[strings_HasPrefix]? = some strings_HasPrefix_f := Try.func117
abbrev slices_siftDownCmpFunc_api_Item : Nat := 118
noncomputable abbrev slices_siftDownCmpFunc_api_Item_f : Func := Try.f118
theorem slices_siftDownCmpFunc_api_Item_h : Try.prog.funcs[slices_siftDownCmpFunc_api_Item]? = some slices_siftDownCmpFunc_api_Item_f := Try.func118
abbrev slices_nextPowerOfTwo : Nat := 119
noncomputable abbrev slices_nextPowerOfTwo_f : Func := Try.f119
theorem slices_nextPowerOfTwo_h : Try.prog.funcs[slices_nextPowerOfTwo]? = some slices_nextPowerOfTwo_f := Try.func119
abbrev slices_medianAdjacentCmpFunc_api_Item : Nat := 121
noncomputable abbrev slices_medianAdjacentCmpFunc_api_Item_f : Func := Try.f121
theorem slices_medianAdjacentCmpFunc_api_Item_h : Try.prog.funcs[slices_medianAdjacentCmpFunc_api_Item]? = some slices_medianAdjacentCmpFunc_api_Item_f := Try.func121
abbrev slices_medianCmpFunc_api_Item : Nat := 122
noncomputable abbrev slices_medianCmpFunc_api_Item_f : Func := Try.f122
theorem slices_medianCmpFunc_api_Item_h : Try.prog.funcs[slices_medianCmpFunc_api_Item]? = some slices_medianCmpFunc_api_Item_f := Try.func122
abbrev slices_IndexFunc_string_string : Nat := 123
noncomputable abbrev slices_IndexFunc_string_string_f : Func := Try.f123
theorem slices_IndexFunc_string_string_h : Try.prog.funcs[slices_IndexFunc_string_string]? = some slices_IndexFunc_string_string_f := Try.func123
abbrev internal_stringslite_HasPrefix : Nat := 124
noncomputable abbrev internal_stringslite_HasPrefix_f : Func := Try.f124
theorem internal_stringslite_HasPrefix_h : Try.prog.funcs[internal_stringslite_HasPrefix]? = some internal_stringslite_HasPrefix_f := Try.func124
abbrev slices_order2CmpFunc_api_Item : Nat := 125
noncomputable abbrev slices_order2CmpFunc_api_Item_f : Func := Try.f125
theorem slices_order2CmpFunc_api_Item_h : Try.prog.funcs[slices_order2CmpFunc_api_Item]? = some slices_order2CmpFunc_api_Item_f := Try.func125
end Go.Bv.Nm
namespace Go.Bv
open Go Go.Proofs
theorem mixed : Try.prog.follows .mixedOrders = true := by kernel_rfl
end Go.Bv
