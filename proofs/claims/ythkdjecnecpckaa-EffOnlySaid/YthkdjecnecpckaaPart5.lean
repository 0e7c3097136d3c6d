/- Part of the lift: an abstract walk of the program's code, proved sound, and what it shows of this program. -/
import Derived.Test.YthkdjecnecpckaaPart0
import Derived.Test.YthkdjecnecpckaaChecked
import Derived.Test.YthkdjecnecpckaaPart3
import Derived.Test.YthkdjecnecpckaaPart4
namespace Go.Bv
open Go Go.Proofs
set_option maxRecDepth 100000 in
def tab.tbl : List (Option TI) := [
  (some ⟨.leaf, 0, .other, .undef⟩),
  (some ⟨.leaf, 8, .other, .nilfn⟩),
  (some ⟨.leaf, 8, (.int .i64), (.int .i64 0)⟩),
  (some ⟨.leaf, 8, (.int .i64), (.int .i64 0)⟩),
  (some ⟨.leaf, 1, .bool, (.bool false)⟩),
  (some ⟨.leaf, 1, (.int .u8), (.int .u8 0)⟩),
  (some ⟨.leaf, 1, (.int .u8), (.int .u8 0)⟩),
  (some ⟨(.agg 4), 24, (.struct ((0, .leaf) :: ((1, .leaf) :: ((2, .leaf) :: ((3, .leaf) :: [])))) (some (0 :: (0 :: (2 :: (0 :: [])))))), (.agg ((.int .i64 0) :: ((.int .i64 0) :: ((.bool false) :: ((.int .u8 0) :: [])))))⟩),
  (some ⟨(.agg 4), 24, (.struct ((0, .leaf) :: ((1, .leaf) :: ((2, .leaf) :: ((3, .leaf) :: [])))) (some (0 :: (0 :: (2 :: (0 :: [])))))), (.agg ((.int .i64 0) :: ((.int .i64 0) :: ((.bool false) :: ((.int .u8 0) :: [])))))⟩),
  (some ⟨.leaf, 16, .str, (.str [])⟩),
  (some ⟨.leaf, 16, .str, (.str [])⟩),
  (some ⟨.leaf, 16, .str, (.str [])⟩),
  (some ⟨.leaf, 8, (.int .u64), (.int .u64 0)⟩),
  (some ⟨(.agg 2), 24, (.struct ((0, .leaf) :: ((1, .leaf) :: [])) none), (.agg ((.str []) :: ((.int .u64 0) :: [])))⟩),
  (some ⟨(.agg 2), 24, (.struct ((0, .leaf) :: ((1, .leaf) :: [])) none), (.agg ((.str []) :: ((.int .u64 0) :: [])))⟩),
  (some ⟨.leaf, 8, .other, .undef⟩),
  (some ⟨.leaf, 8, .other, .undef⟩),
  (some ⟨.leaf, 8, .other, .undef⟩),
  (some ⟨(.agg 1), 8, (.struct ((0, .leaf) :: []) none), (.agg (.undef :: []))⟩),
  (some ⟨(.agg 1), 8, (.struct ((0, .leaf) :: []) none), (.agg (.undef :: []))⟩),
  (some ⟨.leaf, 16, .other, .undef⟩),
  (some ⟨.leaf, 4, (.int .i32), (.int .i32 0)⟩),
  (some ⟨.leaf, 24, (.slice 3), .nils⟩),
  (some ⟨.leaf, 24, (.slice 3), .nils⟩),
  (some ⟨.leaf, 24, (.slice 66), .nils⟩),
  (some ⟨(.agg 4), 64, (.struct ((0, .leaf) :: ((1, .leaf) :: ((2, .leaf) :: ((3, .leaf) :: [])))) none), (.agg ((.int .i64 0) :: ((.int .i64 0) :: (.nils :: (.nils :: [])))))⟩),
  (some ⟨(.agg 4), 64, (.struct ((0, .leaf) :: ((1, .leaf) :: ((2, .leaf) :: ((3, .leaf) :: [])))) none), (.agg ((.int .i64 0) :: ((.int .i64 0) :: (.nils :: (.nils :: [])))))⟩),
  (some ⟨.leaf, 24, (.slice 5), .nils⟩),
  (some ⟨.leaf, 8, .other, .nilfn⟩),
  (some ⟨.leaf, 8, .other, .nilfn⟩),
  (some ⟨.leaf, 24, (.slice 26), .nils⟩),
  (some ⟨.leaf, 8, (.int .i64), (.int .i64 0)⟩),
  (some ⟨.leaf, 0, .other, .undef⟩),
  (some ⟨.leaf, 8, .other, .nilfn⟩),
  (some ⟨.leaf, 0, .other, .undef⟩),
  (some ⟨.leaf, 8, .other, .nilfn⟩),
  (some ⟨.leaf, 8, .other, .nilfn⟩),
  (some ⟨.leaf, 8, .other, .nilfn⟩),
  (some ⟨.leaf, 8, .other, .nilfn⟩),
  (some ⟨.leaf, 8, .other, .nilfn⟩),
  (some ⟨.leaf, 8, .other, .nilfn⟩),
  (some ⟨.leaf, 24, (.slice 9), .nils⟩),
  (some ⟨.leaf, 8, .other, .nilfn⟩),
  (some ⟨.leaf, 8, .other, .nilfn⟩),
  (some ⟨.leaf, 8, .other, .nilfn⟩),
  (some ⟨.leaf, 8, .other, .nilfn⟩),
  (some ⟨(.agg 3), 24, (.struct ((0, .leaf) :: ((1, .leaf) :: ((2, .leaf) :: []))) (some (0 :: (0 :: (0 :: []))))), (.agg ((.int .i64 0) :: ((.int .i64 0) :: ((.int .i64 0) :: []))))⟩),
  (some ⟨(.agg 3), 24, (.struct ((0, .leaf) :: ((1, .leaf) :: ((2, .leaf) :: []))) (some (0 :: (0 :: (0 :: []))))), (.agg ((.int .i64 0) :: ((.int .i64 0) :: ((.int .i64 0) :: []))))⟩),
  (some ⟨.leaf, 8, .other, .nilfn⟩),
  (some ⟨.leaf, 8, .other, .nilfn⟩),
  (some ⟨.leaf, 8, .other, .nilfn⟩),
  (some ⟨.leaf, 8, .other, .nilfn⟩),
  (some ⟨.leaf, 24, (.slice 68), .nils⟩),
  (some ⟨.leaf, 8, .other, .nilfn⟩),
  (some ⟨.leaf, 8, .other, .nilfn⟩),
  (some ⟨.leaf, 8, .other, .nilfn⟩),
  (some ⟨.leaf, 8, .other, .nilfn⟩),
  (some ⟨.leaf, 8, .other, .nilfn⟩),
  (some ⟨.leaf, 8, .other, .nilfn⟩),
  (some ⟨.leaf, 8, .other, .nilfn⟩),
  (some ⟨.leaf, 8, .other, .nilfn⟩),
  (some ⟨.leaf, 8, .other, .nilfn⟩),
  (some ⟨.leaf, 8, .other, .nilfn⟩),
  (some ⟨.leaf, 8, .other, .nilfn⟩),
  (some ⟨.leaf, 24, (.slice 47), .nils⟩),
  (some ⟨(.agg 7), 96, (.struct ((0, .leaf) :: ((1, .leaf) :: ((2, .leaf) :: ((3, .leaf) :: ((4, .leaf) :: ((5, .leaf) :: ((6, .leaf) :: []))))))) none), (.agg ((.int .i64 0) :: ((.str []) :: ((.str []) :: ((.int .i64 0) :: ((.str []) :: ((.int .i64 0) :: (.nils :: []))))))))⟩),
  (some ⟨(.agg 7), 96, (.struct ((0, .leaf) :: ((1, .leaf) :: ((2, .leaf) :: ((3, .leaf) :: ((4, .leaf) :: ((5, .leaf) :: ((6, .leaf) :: []))))))) none), (.agg ((.int .i64 0) :: ((.str []) :: ((.str []) :: ((.int .i64 0) :: ((.str []) :: ((.int .i64 0) :: (.nils :: []))))))))⟩),
  (some ⟨(.agg 8), 88, (.struct ((0, .leaf) :: ((1, .leaf) :: ((2, .leaf) :: ((3, .leaf) :: ((4, .leaf) :: ((5, (.agg 3)) :: [])))))) (some (1 :: (1 :: (0 :: (1 :: (0 :: (0 :: (0 :: (0 :: [])))))))))), (.agg ((.str []) :: ((.str []) :: ((.int .i64 0) :: ((.str []) :: ((.int .i64 0) :: ((.int .i64 0) :: ((.int .i64 0) :: ((.int .i64 0) :: [])))))))))⟩),
  (some ⟨(.agg 8), 88, (.struct ((0, .leaf) :: ((1, .leaf) :: ((2, .leaf) :: ((3, .leaf) :: ((4, .leaf) :: ((5, (.agg 3)) :: [])))))) (some (1 :: (1 :: (0 :: (1 :: (0 :: (0 :: (0 :: (0 :: [])))))))))), (.agg ((.str []) :: ((.str []) :: ((.int .i64 0) :: ((.str []) :: ((.int .i64 0) :: ((.int .i64 0) :: ((.int .i64 0) :: ((.int .i64 0) :: [])))))))))⟩),
  (some ⟨.leaf, 8, .other, .nilfn⟩),
  (some ⟨.leaf, 8, .other, .nilfn⟩),
  (some ⟨.leaf, 8, .other, .nilfn⟩),
  (some ⟨.leaf, 8, .other, .nilfn⟩),
  (some ⟨.leaf, 8, .other, .nilfn⟩),
  (some ⟨.leaf, 8, .other, .nilfn⟩),
  (some ⟨.leaf, 8, .other, .nilfn⟩),
  (some ⟨.leaf, 8, .other, .nilfn⟩),
  (some ⟨.leaf, 8, .other, .undef⟩),
  (some ⟨(.agg 2), 32, (.struct ((0, .leaf) :: ((1, .leaf) :: [])) none), (.agg (.nils :: ((.int .i64 0) :: [])))⟩),
  (some ⟨(.agg 2), 32, (.struct ((0, .leaf) :: ((1, .leaf) :: [])) none), (.agg (.nils :: ((.int .i64 0) :: [])))⟩),
  (some ⟨.leaf, 8, .other, .nilfn⟩),
  (some ⟨.leaf, 8, .other, .nilfn⟩),
  (some ⟨.leaf, 8, .other, .nilfn⟩),
  (some ⟨.leaf, 8, .other, .nilfn⟩),
  (some ⟨.leaf, 8, .other, .nilfn⟩),
  (some ⟨.leaf, 8, .other, .nilfn⟩),
  (some ⟨.leaf, 8, .other, .nilfn⟩),
  (some ⟨.leaf, 8, .other, .nilfn⟩),
  (some ⟨.leaf, 8, .other, .nilfn⟩),
  (some ⟨.leaf, 8, .other, .nilfn⟩),
  (some ⟨.leaf, 8, .other, .nilfn⟩),
  (some ⟨.leaf, 8, .other, .nilfn⟩),
  (some ⟨.leaf, 8, .other, .nilfn⟩),
  (some ⟨.leaf, 8, .other, .nilfn⟩),
  (some ⟨.leaf, 8, .other, .nilfn⟩),
  (some ⟨.leaf, 8, .other, .nilfn⟩),
  (some ⟨.leaf, 8, .other, .nilfn⟩),
  (some ⟨.leaf, 8, .other, .nilfn⟩),
  (some ⟨.leaf, 8, .other, .nilfn⟩),
  (some ⟨.leaf, 8, .other, .nilfn⟩),
  (some ⟨.leaf, 8, .other, .nilfn⟩),
  (some ⟨.leaf, 8, .other, .nilfn⟩),
  (some ⟨.leaf, 8, .other, .nilfn⟩),
  (some ⟨.leaf, 8, (.int .u64), (.int .u64 0)⟩),
  (some ⟨.leaf, 8, (.int .u64), (.int .u64 0)⟩),
  (some ⟨.leaf, 0, .other, .undef⟩),
  (some ⟨.leaf, 8, .other, .nilfn⟩),
  (some ⟨.leaf, 8, .other, .nilfn⟩),
  (some ⟨.leaf, 8, .other, .nilfn⟩),
  (some ⟨.leaf, 8, .other, .nilfn⟩),
  (some ⟨.leaf, 8, .other, .nilfn⟩),
  (some ⟨.leaf, 8, .other, .nilfn⟩),
  (some ⟨.leaf, 0, .other, .undef⟩),
  (some ⟨.leaf, 8, .other, .nilfn⟩),
  (some ⟨.leaf, 8, .other, .nilfn⟩),
  (some ⟨.leaf, 8, .other, .nilfn⟩),
  (some ⟨.leaf, 8, .other, .nilfn⟩),
  (some ⟨.leaf, 8, .other, .nilfn⟩),
  (some ⟨.leaf, 8, .other, .nilfn⟩),
  (some ⟨.leaf, 8, .other, .nilfn⟩),
  (some ⟨.leaf, 8, .other, .nilfn⟩),
  (some ⟨.leaf, 8, (.map 47 4), (.tup [])⟩),
  (some ⟨(.agg 2), 16, (.array 2 3), (.agg ((.int .i64 0) :: ((.int .i64 0) :: [])))⟩),
  (some ⟨.leaf, 24, (.slice 122), .nils⟩),
  (some ⟨.leaf, 8, .other, .nilfn⟩),
  (some ⟨.leaf, 8, .other, .nilfn⟩),
  (some ⟨.leaf, 8, .other, .nilfn⟩),
  (some ⟨.leaf, 0, .other, .undef⟩),
  (some ⟨.leaf, 8, .other, .nilfn⟩),
  (some ⟨.leaf, 0, .other, .undef⟩),
  (some ⟨.leaf, 8, .other, .nilfn⟩),
  (some ⟨.leaf, 8, .other, .nilfn⟩),
  (some ⟨.leaf, 8, .other, .nilfn⟩),
  (some ⟨.leaf, 8, .other, .nilfn⟩),
  (some ⟨.leaf, 8, .other, .nilfn⟩),
  (some ⟨.leaf, 8, .other, .nilfn⟩),
  (some ⟨.leaf, 8, .other, .nilfn⟩),
  (some ⟨.leaf, 8, .other, .nilfn⟩),
  (some ⟨.leaf, 8, .other, .nilfn⟩),
  (some ⟨.leaf, 8, .other, .nilfn⟩),
  (some ⟨.leaf, 8, .other, .nilfn⟩),
  (some ⟨.leaf, 8, .other, .nilfn⟩),
  (some ⟨.leaf, 8, (.int .i64), (.int .i64 0)⟩),
  (some ⟨.leaf, 0, .other, .undef⟩),
  (some ⟨.leaf, 8, .other, .nilfn⟩),
  (some ⟨.leaf, 8, .other, .nilfn⟩),
  (some ⟨.leaf, 8, .other, .nilfn⟩),
  (some ⟨.leaf, 0, .other, .undef⟩),
  (some ⟨.leaf, 8, .other, .nilfn⟩),
  (some ⟨.leaf, 8, .other, .nilfn⟩),
  (some ⟨.leaf, 4, (.int .u32), (.int .u32 0)⟩),
  (some ⟨.leaf, 8, .other, .nilfn⟩),
  (some ⟨.leaf, 8, .other, .nilfn⟩),
  (some ⟨.leaf, 8, (.int .u64), (.int .u64 0)⟩),
  (some ⟨.leaf, 8, .other, .nilfn⟩),
  (some ⟨.leaf, 8, .other, .nilfn⟩),
  (some ⟨.leaf, 8, .other, .nilfn⟩),
  (some ⟨.leaf, 8, .other, .undef⟩),
  (some ⟨.leaf, 8, .other, .nilfn⟩),
  (some ⟨.leaf, 8, .other, .undef⟩),
  (some ⟨.leaf, 0, .other, .undef⟩),
  (some ⟨.leaf, 8, .other, .nilfn⟩),
  (some ⟨(.agg 4), 40, (.struct ((0, .leaf) :: ((1, .leaf) :: ((2, .leaf) :: ((3, .leaf) :: [])))) none), (.agg (.undef :: (.undef :: (.undef :: ((.str []) :: [])))))⟩),
  (some ⟨(.agg 4), 40, (.struct ((0, .leaf) :: ((1, .leaf) :: ((2, .leaf) :: ((3, .leaf) :: [])))) none), (.agg (.undef :: (.undef :: (.undef :: ((.str []) :: [])))))⟩),
  (some ⟨(.agg 0), 0, (.array 0 16), (.agg [])⟩),
  (some ⟨(.agg 0), 0, (.struct ((0, (.agg 0)) :: []) none), (.agg [])⟩),
  (some ⟨(.agg 0), 0, (.struct ((0, (.agg 0)) :: []) none), (.agg [])⟩),
  (some ⟨.leaf, 1, (.int .u8), (.int .u8 0)⟩),
  (some ⟨.leaf, 1, (.int .u8), (.int .u8 0)⟩),
  (some ⟨.leaf, 8, .other, .nilfn⟩),
  (some ⟨.leaf, 8, .other, .undef⟩),
  (some ⟨.leaf, 4, (.int .i32), (.int .i32 0)⟩),
  (some ⟨.leaf, 4, (.int .i32), (.int .i32 0)⟩),
  (some ⟨(.agg 11), 48, (.struct ((0, .leaf) :: ((1, .leaf) :: ((2, .leaf) :: ((3, .leaf) :: ((4, .leaf) :: ((5, .leaf) :: ((6, .leaf) :: ((7, .leaf) :: ((8, .leaf) :: ((9, .leaf) :: ((10, .leaf) :: []))))))))))) none), (.agg ((.int .u64 0) :: ((.int .u64 0) :: ((.int .u32 0) :: ((.int .u8 0) :: ((.int .u8 0) :: ((.int .u8 0) :: ((.int .u8 0) :: (.nilfn :: (.undef :: ((.int .i32 0) :: ((.int .i32 0) :: []))))))))))))⟩),
  (some ⟨(.agg 11), 48, (.struct ((0, .leaf) :: ((1, .leaf) :: ((2, .leaf) :: ((3, .leaf) :: ((4, .leaf) :: ((5, .leaf) :: ((6, .leaf) :: ((7, .leaf) :: ((8, .leaf) :: ((9, .leaf) :: ((10, .leaf) :: []))))))))))) none), (.agg ((.int .u64 0) :: ((.int .u64 0) :: ((.int .u32 0) :: ((.int .u8 0) :: ((.int .u8 0) :: ((.int .u8 0) :: ((.int .u8 0) :: (.nilfn :: (.undef :: ((.int .i32 0) :: ((.int .i32 0) :: []))))))))))))⟩),
  (some ⟨.leaf, 8, .other, .undef⟩)]
theorem tab.eq : tab.tbl = (List.range 176).map fun t => tiOf Try.prog t := by kernel_rfl
def tab : Tab Try.prog := ⟨tab.tbl, fun t ti h => by
  rw [tab.eq, List.getElem?_map] at h
  rcases Nat.lt_or_ge t 176 with hlt | hge
  · rw [List.getElem?_range hlt] at h; simpa using h
  · rw [List.getElem?_eq_none (by simpa using hge)] at h; simp at h⟩
end Go.Bv
namespace Go.Bv.Nm
open Go Go.Proofs
abbrev law10_EffOnly : Nat := 9
noncomputable abbrev law10_EffOnly_f : Func := Try.f9
theorem law10_EffOnly_h : Try.prog.funcs[law10_EffOnly]? = some law10_EffOnly_f := Try.func9
abbrev ref08_Short : Nat := 17
noncomputable abbrev ref08_Short_f : Func := Try.f17
theorem ref08_Short_h : Try.prog.funcs[ref08_Short]? = some ref08_Short_f := Try.func17
abbrev law10_awake : Nat := 25
noncomputable abbrev law10_awake_f : Func := Try.f25
theorem law10_awake_h : Try.prog.funcs[law10_awake]? = some law10_awake_f := Try.func25
abbrev ref10_Short : Nat := 26
noncomputable abbrev ref10_Short_f : Func := Try.f26
theorem ref10_Short_h : Try.prog.funcs[ref10_Short]? = some ref10_Short_f := Try.func26
abbrev ref09_Short : Nat := 27
noncomputable abbrev ref09_Short_f : Func := Try.f27
theorem ref09_Short_h : Try.prog.funcs[ref09_Short]? = some ref09_Short_f := Try.func27
abbrev eff_Right : Nat := 28
noncomputable abbrev eff_Right_f : Func := Try.f28
theorem eff_Right_h : Try.prog.funcs[eff_Right]? = some eff_Right_f := Try.func28
abbrev law10_has : Nat := 30
noncomputable abbrev law10_has_f : Func := Try.f30
theorem law10_has_h : Try.prog.funcs[law10_has]? = some law10_has_f := Try.func30
abbrev ref09_Same : Nat := 31
noncomputable abbrev ref09_Same_f : Func := Try.f31
theorem ref09_Same_h : Try.prog.funcs[ref09_Same]? = some ref09_Same_f := Try.func31
abbrev eff_Do : Nat := 32
noncomputable abbrev eff_Do_f : Func := Try.f32
theorem eff_Do_h : Try.prog.funcs[eff_Do]? = some eff_Do_f := Try.func32
abbrev ref09_Norm : Nat := 33
noncomputable abbrev ref09_Norm_f : Func := Try.f33
theorem ref09_Norm_h : Try.prog.funcs[ref09_Norm]? = some ref09_Norm_f := Try.func33
abbrev ref09_Is : Nat := 34
noncomputable abbrev ref09_Is_f : Func := Try.f34
theorem ref09_Is_h : Try.prog.funcs[ref09_Is]? = some ref09_Is_f := Try.func34
abbrev ref09_Under : Nat := 35
noncomputable abbrev ref09_Under_f : Func := Try.f35
theorem ref09_Under_h : Try.prog.funcs[ref09_Under]? = some ref09_Under_f := Try.func35
abbrev eff_Only : Nat := 36
noncomputable abbrev eff_Only_f : Func := Try.f36
theorem eff_Only_h : Try.prog.funcs[eff_Only]? = some eff_Only_f := Try.func36
abbrev eff_Formed : Nat := 65
noncomputable abbrev eff_Formed_f : Func := Try.f65
theorem eff_Formed_h : Try.prog.funcs[eff_Formed]? = some eff_Formed_f := Try.func65
abbrev slices_ContainsFunc_api_Dot_api_Dot : Nat := 66
noncomputable abbrev slices_ContainsFunc_api_Dot_api_Dot_f : Func := Try.f66
theorem slices_ContainsFunc_api_Dot_api_Dot_h : Try.prog.funcs[slices_ContainsFunc_api_Dot_api_Dot]? = some slices_ContainsFunc_api_Dot_api_Dot_f := Try.func66
abbrev eff_Right_1 : Nat := 67
noncomputable abbrev eff_Right_1_f : Func := Try.f67
theorem eff_Right_1_h : Try.prog.funcs[eff_Right_1]? = some eff_Right_1_f := Try.func67
abbrev slices_Clone_api_Item_api_Item : Nat := 68
noncomputable abbrev slices_Clone_api_Item_api_Item_f : Func := Try.f68
theorem slices_Clone_api_Item_api_Item_h : Try.prog.funcs[slices_Clone_api_Item_api_Item]? = some slices_Clone_api_Item_api_Item_f := Try.func68
abbrev item_Without : Nat := 69
noncomputable abbrev item_Without_f : Func := Try.f69
theorem item_Without_h : Try.prog.funcs[item_Without]? = some item_Without_f := Try.func69
abbrev eff_made : Nat := 70
noncomputable abbrev eff_made_f : Func := Try.f70
theorem eff_made_h : Try.prog.funcs[eff_made]? = some eff_made_f := Try.func70
abbrev item_Norm : Nat := 71
noncomputable abbrev item_Norm_f : Func := Try.f71
theorem item_Norm_h : Try.prog.funcs[item_Norm]? = some item_Norm_f := Try.func71
abbrev ref09_Less : Nat := 72
noncomputable abbrev ref09_Less_f : Func := Try.f72
theorem ref09_Less_h : Try.prog.funcs[ref09_Less]? = some ref09_Less_f := Try.func72
abbrev ref09_Put : Nat := 73
noncomputable abbrev ref09_Put_f : Func := Try.f73
theorem ref09_Put_h : Try.prog.funcs[ref09_Put]? = some ref09_Put_f := Try.func73
abbrev ref08_Covers : Nat := 74
noncomputable abbrev ref08_Covers_f : Func := Try.f74
theorem ref08_Covers_h : Try.prog.funcs[ref08_Covers]? = some ref08_Covers_f := Try.func74
abbrev zone_Covers : Nat := 75
noncomputable abbrev zone_Covers_f : Func := Try.f75
theorem zone_Covers_h : Try.prog.funcs[zone_Covers]? = some zone_Covers_f := Try.func75
abbrev slices_Clone_api_Dot_api_Dot : Nat := 76
noncomputable abbrev slices_Clone_api_Dot_api_Dot_f : Func := Try.f76
theorem slices_Clone_api_Dot_api_Dot_h : Try.prog.funcs[slices_Clone_api_Dot_api_Dot]? = some slices_Clone_api_Dot_api_Dot_f := Try.func76
abbrev eff_dot : Nat := 86
noncomputable abbrev eff_dot_f : Func := Try.f86
theorem eff_dot_h : Try.prog.funcs[eff_dot]? = some eff_dot_f := Try.func86
abbrev eff_order : Nat := 87
noncomputable abbrev eff_order_f : Func := Try.f87
theorem eff_order_h : Try.prog.funcs[eff_order]? = some eff_order_f := Try.func87
abbrev item_Formed : Nat := 88
noncomputable abbrev item_Formed_f : Func := Try.f88
theorem item_Formed_h : Try.prog.funcs[item_Formed]? = some item_Formed_f := Try.func88
abbrev slices_IndexFunc_api_Dot_api_Dot : Nat := 89
noncomputable abbrev slices_IndexFunc_api_Dot_api_Dot_f : Func := Try.f89
theorem slices_IndexFunc_api_Dot_api_Dot_h : Try.prog.funcs[slices_IndexFunc_api_Dot_api_Dot]? = some slices_IndexFunc_api_Dot_api_Dot_f := Try.func89
abbrev slices_DeleteFunc_api_Item_api_Item : Nat := 90
noncomputable abbrev slices_DeleteFunc_api_Item_api_Item_f : Func := Try.f90
theorem slices_DeleteFunc_api_Item_api_Item_h : Try.prog.funcs[slices_DeleteFunc_api_Item_api_Item]? = some slices_DeleteFunc_api_Item_api_Item_f := Try.func90
abbrev item_Without_1 : Nat := 91
noncomputable abbrev item_Without_1_f : Func := Try.f91
theorem item_Without_1_h : Try.prog.funcs[item_Without_1]? = some item_Without_1_f := Try.func91
abbrev slices_Contains_api_Dot_api_Dot : Nat := 92
noncomputable abbrev slices_Contains_api_Dot_api_Dot_f : Func := Try.f92
theorem slices_Contains_api_Dot_api_Dot_h : Try.prog.funcs[slices_Contains_api_Dot_api_Dot]? = some slices_Contains_api_Dot_api_Dot_f := Try.func92
abbrev slices_SortFunc_api_Item_api_Item : Nat := 93
noncomputable abbrev slices_SortFunc_api_Item_api_Item_f : Func := Try.f93
theorem slices_SortFunc_api_Item_api_Item_h : Try.prog.funcs[slices_SortFunc_api_Item_api_Item]? = some slices_SortFunc_api_Item_api_Item_f := Try.func93
abbrev item_compare : Nat := 94
noncomputable abbrev item_compare_f : Func := Try.f94
theorem item_compare_h : Try.prog.funcs[item_compare]? = some item_compare_f := Try.func94
abbrev item_Norm_1 : Nat := 95
noncomputable abbrev item_Norm_1_f : Func := Try.f95
theorem item_Norm_1_h : Try.prog.funcs[item_Norm_1]? = some item_Norm_1_f := Try.func95
abbrev ref08_Begins : Nat := 96
noncomputable abbrev ref08_Begins_f : Func := Try.f96
theorem ref08_Begins_h : Try.prog.funcs[ref08_Begins]? = some ref08_Begins_f := Try.func96
abbrev slices_ContainsFunc_string_string : Nat := 97
noncomputable abbrev slices_ContainsFunc_string_string_f : Func := Try.f97
theorem slices_ContainsFunc_string_string_h : Try.prog.funcs[slices_ContainsFunc_string_string]? = some slices_ContainsFunc_string_string_f := Try.func97
abbrev zone_Covers_1 : Nat := 98
noncomputable abbrev zone_Covers_1_f : Func := Try.f98
theorem zone_Covers_1_h : Try.prog.funcs[zone_Covers_1]? = some zone_Covers_1_f := Try.func98
abbrev strings_HasPrefix : Nat := 99
noncomputable abbrev strings_HasPrefix_f : Func := Try.f99
theorem strings_HasPrefix_h : Try.prog.funcs[strings_HasPrefix]? = some strings_HasPrefix_f := Try.func99
abbrev cmp_Or_int : Nat := 108
noncomputable abbrev cmp_Or_int_f : Func := Try.f108
theorem cmp_Or_int_h : Try.prog.funcs[cmp_Or_int]? = some cmp_Or_int_f := Try.func108
abbrev cmp_Compare_int : Nat := 109
noncomputable abbrev cmp_Compare_int_f : Func := Try.f109
theorem cmp_Compare_int_h : Try.prog.funcs[cmp_Compare_int]? = some cmp_Compare_int_f := Try.func109
abbrev zone_Key : Nat := 110
noncomputable abbrev zone_Key_f : Func := Try.f110
theorem zone_Key_h : Try.prog.funcs[zone_Key]? = some zone_Key_f := Try.func110
abbrev slices_IndexFunc_api_Item_api_Item : Nat := 111
noncomputable abbrev slices_IndexFunc_api_Item_api_Item_f : Func := Try.f111
theorem slices_IndexFunc_api_Item_api_Item_h : Try.prog.funcs[slices_IndexFunc_api_Item_api_Item]? = some slices_IndexFunc_api_Item_api_Item_f := Try.func111
abbrev slices_Index_api_Dot_api_Dot : Nat := 112
noncomputable abbrev slices_Index_api_Dot_api_Dot_f : Func := Try.f112
theorem slices_Index_api_Dot_api_Dot_h : Try.prog.funcs[slices_Index_api_Dot_api_Dot]? = some slices_Index_api_Dot_api_Dot_f := Try.func112
abbrev slices_pdqsortCmpFunc_api_Item : Nat := 113
noncomputable abbrev slices_pdqsortCmpFunc_api_Item_f : Func := Try.f113
theorem slices_pdqsortCmpFunc_api_Item_h : Try.prog.funcs[slices_pdqsortCmpFunc_api_Item]? = some slices_pdqsortCmpFunc_api_Item_f := Try.func113
abbrev math_bits_Len : Nat := 114
noncomputable abbrev math_bits_Len_f : Func := Try.f114
theorem math_bits_Len_h : Try.prog.funcs[math_bits_Len]? = some math_bits_Len_f := Try.func114
abbrev cmp_Compare_string : Nat := 115
noncomputable abbrev cmp_Compare_string_f : Func := Try.f115
theorem cmp_Compare_string_h : Try.prog.funcs[cmp_Compare_string]? = some cmp_Compare_string_f := Try.func115
abbrev cmp_Compare_int64 : Nat := 116
noncomputable abbrev cmp_Compare_int64_f : Func := Try.f116
theorem cmp_Compare_int64_h : Try.prog.funcs[cmp_Compare_int64]? = some cmp_Compare_int64_f := Try.func116
abbrev slices_IndexFunc_string_string : Nat := 117
noncomputable abbrev slices_IndexFunc_string_string_f : Func := Try.f117
theorem slices_IndexFunc_string_string_h : Try.prog.funcs[slices_IndexFunc_string_string]? = some slices_IndexFunc_string_string_f := Try.func117
abbrev internal_stringslite_HasPrefix : Nat := 118
noncomputable abbrev internal_stringslite_HasPrefix_f : Func := Try.f118
theorem internal_stringslite_HasPrefix_h : Try.prog.funcs[internal_stringslite_HasPrefix]? = some internal_stringslite_HasPrefix_f := Try.func118
abbrev cmp_isNaN_int : Nat := 119
noncomputable abbrev cmp_isNaN_int_f : Func := Try.f119
theorem cmp_isNaN_int_h : Try.prog.funcs[cmp_isNaN_int]? = some cmp_isNaN_int_f := Try.func119
abbrev zone_prefix : Nat := 120
noncomputable abbrev zone_prefix_f : Func := Try.f120
theorem zone_prefix_h : Try.prog.funcs[zone_prefix]? = some zone_prefix_f := Try.func120
abbrev slices_insertionSortCmpFunc_api_Item : Nat := 121
noncomputable abbrev slices_insertionSortCmpFunc_api_Item_f : Func := Try.f121
theorem slices_insertionSortCmpFunc_api_Item_h : Try.prog.funcs[slices_insertionSortCmpFunc_api_Item]? = some slices_insertionSortCmpFunc_api_Item_f := Try.func121
abbrev slices_heapSortCmpFunc_api_Item : Nat := 122
noncomputable abbrev slices_heapSortCmpFunc_api_Item_f : Func := Try.f122
theorem slices_heapSortCmpFunc_api_Item_h : Try.prog.funcs[slices_heapSortCmpFunc_api_Item]? = some slices_heapSortCmpFunc_api_Item_f := Try.func122
abbrev slices_breakPatternsCmpFunc_api_Item : Nat := 123
noncomputable abbrev slices_breakPatternsCmpFunc_api_Item_f : Func := Try.f123
theorem slices_breakPatternsCmpFunc_api_Item_h : Try.prog.funcs[slices_breakPatternsCmpFunc_api_Item]? = some slices_breakPatternsCmpFunc_api_Item_f := Try.func123
abbrev slices_choosePivotCmpFunc_api_Item : Nat := 124
noncomputable abbrev slices_choosePivotCmpFunc_api_Item_f : Func := Try.f124
theorem slices_choosePivotCmpFunc_api_Item_h : Try.prog.funcs[slices_choosePivotCmpFunc_api_Item]? = some slices_choosePivotCmpFunc_api_Item_f := Try.func124
abbrev slices_reverseRangeCmpFunc_api_Item : Nat := 125
noncomputable abbrev slices_reverseRangeCmpFunc_api_Item_f : Func := Try.f125
theorem slices_reverseRangeCmpFunc_api_Item_h : Try.prog.funcs[slices_reverseRangeCmpFunc_api_Item]? = some slices_reverseRangeCmpFunc_api_Item_f := Try.func125
abbrev slices_partialInsertionSortCmpFunc_api_Item : Nat := 126
noncomputable abbrev slices_partialInsertionSortCmpFunc_api_Item_f : Func := Try.f126
theorem slices_partialInsertionSortCmpFunc_api_Item_h : Try.prog.funcs[slices_partialInsertionSortCmpFunc_api_Item]? = some slices_partialInsertionSortCmpFunc_api_Item_f := Try.func126
abbrev slices_partitionEqualCmpFunc_api_Item : Nat := 127
noncomputable abbrev slices_partitionEqualCmpFunc_api_Item_f : Func := Try.f127
theorem slices_partitionEqualCmpFunc_api_Item_h : Try.prog.funcs[slices_partitionEqualCmpFunc_api_Item]? = some slices_partitionEqualCmpFunc_api_Item_f := Try.func127
abbrev slices_partitionCmpFunc_api_Item : Nat := 128
noncomputable abbrev slices_partitionCmpFunc_api_Item_f : Func := Try.f128
theorem slices_partitionCmpFunc_api_Item_h : Try.prog.funcs[slices_partitionCmpFunc_api_Item]? = some slices_partitionCmpFunc_api_Item_f := Try.func128
abbrev math_bits_Len64 : Nat := 130
noncomputable abbrev math_bits_Len64_f : Func := Try.f130
theorem math_bits_Len64_h : Try.prog.funcs[math_bits_Len64]? = some math_bits_Len64_f := Try.func130
abbrev cmp_isNaN_string : Nat := 131
noncomputable abbrev cmp_isNaN_string_f : Func := Try.f131
theorem cmp_isNaN_string_h : Try.prog.funcs[cmp_isNaN_string]? = some cmp_isNaN_string_f := Try.func131
abbrev cmp_isNaN_int64 : Nat := 132
noncomputable abbrev cmp_isNaN_int64_f : Func := Try.f132
theorem cmp_isNaN_int64_h : Try.prog.funcs[cmp_isNaN_int64]? = some cmp_isNaN_int64_f := Try.func132
abbrev slices_siftDownCmpFunc_api_Item : Nat := 133
noncomputable abbrev slices_siftDownCmpFunc_api_Item_f : Func := Try.f133
theorem slices_siftDownCmpFunc_api_Item_h : Try.prog.funcs[slices_siftDownCmpFunc_api_Item]? = some slices_siftDownCmpFunc_api_Item_f := Try.func133
abbrev slices_nextPowerOfTwo : Nat := 134
noncomputable abbrev slices_nextPowerOfTwo_f : Func := Try.f134
theorem slices_nextPowerOfTwo_h : Try.prog.funcs[slices_nextPowerOfTwo]? = some slices_nextPowerOfTwo_f := Try.func134
abbrev slices_medianAdjacentCmpFunc_api_Item : Nat := 136
noncomputable abbrev slices_medianAdjacentCmpFunc_api_Item_f : Func := Try.f136
theorem slices_medianAdjacentCmpFunc_api_Item_h : Try.prog.funcs[slices_medianAdjacentCmpFunc_api_Item]? = some slices_medianAdjacentCmpFunc_api_Item_f := Try.func136
abbrev slices_medianCmpFunc_api_Item : Nat := 137
noncomputable abbrev slices_medianCmpFunc_api_Item_f : Func := Try.f137
theorem slices_medianCmpFunc_api_Item_h : Try.prog.funcs[slices_medianCmpFunc_api_Item]? = some slices_medianCmpFunc_api_Item_f := Try.func137
abbrev slices_order2CmpFunc_api_Item : Nat := 138
noncomputable abbrev slices_order2CmpFunc_api_Item_f : Func := Try.f138
theorem slices_order2CmpFunc_api_Item_h : Try.prog.funcs[slices_order2CmpFunc_api_Item]? = some slices_order2CmpFunc_api_Item_f := Try.func138
end Go.Bv.Nm
namespace Go.Bv
open Go Go.Proofs
theorem mixed : Try.prog.follows .mixedOrders = true := by kernel_rfl
end Go.Bv
