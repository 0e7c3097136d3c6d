/- Part of the lift: an abstract walk of the program's code, proved sound, and what it shows of this program. -/
import Derived.Test.YtjgmoglhbdgmpaaGreatPart0
import Derived.Test.YtjgmoglhbdgmpaaGreatChecked
import Derived.Test.YtjgmoglhbdgmpaaGreatPart3
import Derived.Test.YtjgmoglhbdgmpaaGreatPart4
import Derived.Test.YtjgmoglhbdgmpaaGreatPart5
namespace Go.Bv
open Go Go.Proofs
set_option maxRecDepth 100000 in
def tab.tbl : List (Option TI) := [
 (some ⟨.leaf, 0, .other, .undef⟩),
 (some ⟨.leaf, 8, .other, .nilfn⟩),
 (some ⟨.leaf, 8, (.int .i64), (.int .i64 0)⟩),
 (some ⟨.leaf, 8, (.int .i64), (.int .i64 0)⟩),
 (some ⟨.leaf, 1, .bool, (.bool false)⟩),
 (some ⟨.leaf, 1, (.int .u8), (.int .u8 0)⟩),
 (some ⟨.leaf, 1, (.int .u8), (.int .u8 0)⟩),
 (some ⟨(.agg 4), 24, (.struct ((0, .leaf) :: ((1, .leaf) :: ((2, .leaf) :: ((3, .leaf) :: [])))) (some (0 :: (0 :: (2 :: (0 :: [])))))), (.agg ((.int .i64 0) :: ((.int .i64 0) :: ((.bool false) :: ((.int .u8 0) :: [])))))⟩),
 (some ⟨(.agg 4), 24, (.struct ((0, .leaf) :: ((1, .leaf) :: ((2, .leaf) :: ((3, .leaf) :: [])))) (some (0 :: (0 :: (2 :: (0 :: [])))))), (.agg ((.int .i64 0) :: ((.int .i64 0) :: ((.bool false) :: ((.int .u8 0) :: [])))))⟩),
 (some ⟨.leaf, 16, .str, (.str [])⟩),
 (some ⟨.leaf, 16, .str, (.str [])⟩),
 (some ⟨.leaf, 16, .str, (.str [])⟩),
 (some ⟨.leaf, 8, (.int .u64), (.int .u64 0)⟩),
 (some ⟨(.agg 2), 24, (.struct ((0, .leaf) :: ((1, .leaf) :: [])) none), (.agg ((.str []) :: ((.int .u64 0) :: [])))⟩),
 (some ⟨(.agg 2), 24, (.struct ((0, .leaf) :: ((1, .leaf) :: [])) none), (.agg ((.str []) :: ((.int .u64 0) :: [])))⟩),
 (some ⟨.leaf, 8, .other, .undef⟩),
 (some ⟨.leaf, 8, .other, .undef⟩),
 (some ⟨.leaf, 8, .other, .undef⟩),
 (some ⟨(.agg 1), 8, (.struct ((0, .leaf) :: []) none), (.agg (.undef :: []))⟩),
 (some ⟨(.agg 1), 8, (.struct ((0, .leaf) :: []) none), (.agg (.undef :: []))⟩),
 (some ⟨.leaf, 16, .other, .undef⟩),
 (some ⟨.leaf, 4, (.int .i32), (.int .i32 0)⟩),
 (some ⟨.leaf, 24, (.slice 40), .nils⟩),
 (some ⟨.leaf, 24, (.slice 3), .nils⟩),
 (some ⟨.leaf, 24, (.slice 3), .nils⟩),
 (some ⟨.leaf, 8, .other, .nilfn⟩),
 (some ⟨.leaf, 8, .other, .nilfn⟩),
 (some ⟨.leaf, 8, .other, .nilfn⟩),
 (some ⟨.leaf, 8, .other, .nilfn⟩),
 (some ⟨.leaf, 24, (.slice 66), .nils⟩),
 (some ⟨.leaf, 8, .other, .nilfn⟩),
 (some ⟨.leaf, 8, .other, .nilfn⟩),
 (some ⟨.leaf, 8, .other, .nilfn⟩),
 (some ⟨.leaf, 8, .other, .nilfn⟩),
 (some ⟨.leaf, 8, .other, .nilfn⟩),
 (some ⟨.leaf, 8, .other, .nilfn⟩),
 (some ⟨(.agg 2), 48, (.struct ((0, .leaf) :: ((1, .leaf) :: [])) none), (.agg (.nils :: (.nils :: [])))⟩),
 (some ⟨(.agg 2), 48, (.struct ((0, .leaf) :: ((1, .leaf) :: [])) none), (.agg (.nils :: (.nils :: [])))⟩),
 (some ⟨.leaf, 24, (.slice 62), .nils⟩),
 (some ⟨(.agg 4), 64, (.struct ((0, .leaf) :: ((1, .leaf) :: ((2, .leaf) :: ((3, .leaf) :: [])))) none), (.agg ((.int .i64 0) :: ((.int .i64 0) :: (.nils :: (.nils :: [])))))⟩),
 (some ⟨(.agg 4), 64, (.struct ((0, .leaf) :: ((1, .leaf) :: ((2, .leaf) :: ((3, .leaf) :: [])))) none), (.agg ((.int .i64 0) :: ((.int .i64 0) :: (.nils :: (.nils :: [])))))⟩),
 (some ⟨.leaf, 24, (.slice 9), .nils⟩),
 (some ⟨.leaf, 8, .other, .nilfn⟩),
 (some ⟨.leaf, 8, .other, .nilfn⟩),
 (some ⟨.leaf, 8, .other, .nilfn⟩),
 (some ⟨.leaf, 8, (.int .i64), (.int .i64 0)⟩),
 (some ⟨.leaf, 0, .other, .undef⟩),
 (some ⟨.leaf, 8, .other, .nilfn⟩),
 (some ⟨.leaf, 0, .other, .undef⟩),
 (some ⟨.leaf, 8, .other, .nilfn⟩),
 (some ⟨.leaf, 8, .other, .nilfn⟩),
 (some ⟨.leaf, 0, .other, .undef⟩),
 (some ⟨.leaf, 8, .other, .nilfn⟩),
 (some ⟨.leaf, 8, .other, .nilfn⟩),
 (some ⟨.leaf, 8, .other, .nilfn⟩),
 (some ⟨.leaf, 8, .other, .nilfn⟩),
 (some ⟨.leaf, 8, .other, .nilfn⟩),
 (some ⟨.leaf, 8, .other, .nilfn⟩),
 (some ⟨.leaf, 8, .other, .nilfn⟩),
 (some ⟨.leaf, 8, .other, .nilfn⟩),
 (some ⟨.leaf, 24, (.slice 64), .nils⟩),
 (some ⟨(.agg 7), 96, (.struct ((0, .leaf) :: ((1, .leaf) :: ((2, .leaf) :: ((3, .leaf) :: ((4, .leaf) :: ((5, .leaf) :: ((6, .leaf) :: []))))))) none), (.agg ((.int .i64 0) :: ((.str []) :: ((.str []) :: ((.int .i64 0) :: ((.str []) :: ((.int .i64 0) :: (.nils :: []))))))))⟩),
 (some ⟨(.agg 7), 96, (.struct ((0, .leaf) :: ((1, .leaf) :: ((2, .leaf) :: ((3, .leaf) :: ((4, .leaf) :: ((5, .leaf) :: ((6, .leaf) :: []))))))) none), (.agg ((.int .i64 0) :: ((.str []) :: ((.str []) :: ((.int .i64 0) :: ((.str []) :: ((.int .i64 0) :: (.nils :: []))))))))⟩),
 (some ⟨(.agg 3), 24, (.struct ((0, .leaf) :: ((1, .leaf) :: ((2, .leaf) :: []))) (some (0 :: (0 :: (0 :: []))))), (.agg ((.int .i64 0) :: ((.int .i64 0) :: ((.int .i64 0) :: []))))⟩),
 (some ⟨(.agg 3), 24, (.struct ((0, .leaf) :: ((1, .leaf) :: ((2, .leaf) :: []))) (some (0 :: (0 :: (0 :: []))))), (.agg ((.int .i64 0) :: ((.int .i64 0) :: ((.int .i64 0) :: []))))⟩),
 (some ⟨(.agg 8), 88, (.struct ((0, .leaf) :: ((1, .leaf) :: ((2, .leaf) :: ((3, .leaf) :: ((4, .leaf) :: ((5, (.agg 3)) :: [])))))) (some (1 :: (1 :: (0 :: (1 :: (0 :: (0 :: (0 :: (0 :: [])))))))))), (.agg ((.str []) :: ((.str []) :: ((.int .i64 0) :: ((.str []) :: ((.int .i64 0) :: ((.int .i64 0) :: ((.int .i64 0) :: ((.int .i64 0) :: [])))))))))⟩),
 (some ⟨(.agg 8), 88, (.struct ((0, .leaf) :: ((1, .leaf) :: ((2, .leaf) :: ((3, .leaf) :: ((4, .leaf) :: ((5, (.agg 3)) :: [])))))) (some (1 :: (1 :: (0 :: (1 :: (0 :: (0 :: (0 :: (0 :: [])))))))))), (.agg ((.str []) :: ((.str []) :: ((.int .i64 0) :: ((.str []) :: ((.int .i64 0) :: ((.int .i64 0) :: ((.int .i64 0) :: ((.int .i64 0) :: [])))))))))⟩),
 (some ⟨.leaf, 8, .other, .nilfn⟩),
 (some ⟨.leaf, 8, .other, .nilfn⟩),
 (some ⟨.leaf, 8, .other, .nilfn⟩),
 (some ⟨.leaf, 8, (.map 64 4), (.tup [])⟩),
 (some ⟨.leaf, 8, .other, .nilfn⟩),
 (some ⟨.leaf, 8, .other, .nilfn⟩),
 (some ⟨.leaf, 8, .other, .nilfn⟩),
 (some ⟨.leaf, 0, .other, .undef⟩),
 (some ⟨.leaf, 8, .other, .nilfn⟩),
 (some ⟨.leaf, 24, (.slice 4), .nils⟩),
 (some ⟨.leaf, 8, .other, .nilfn⟩),
 (some ⟨.leaf, 8, .other, .nilfn⟩),
 (some ⟨.leaf, 8, .other, .nilfn⟩),
 (some ⟨.leaf, 8, .other, .nilfn⟩),
 (some ⟨.leaf, 8, .other, .nilfn⟩),
 (some ⟨.leaf, 8, .other, .nilfn⟩),
 (some ⟨.leaf, 8, .other, .nilfn⟩),
 (some ⟨.leaf, 8, .other, .nilfn⟩),
 (some ⟨.leaf, 8, .other, .nilfn⟩),
 (some ⟨.leaf, 8, .other, .nilfn⟩),
 (some ⟨.leaf, 8, .other, .nilfn⟩),
 (some ⟨.leaf, 8, .other, .nilfn⟩),
 (some ⟨.leaf, 8, .other, .nilfn⟩),
 (some ⟨.leaf, 8, .other, .nilfn⟩),
 (some ⟨.leaf, 8, .other, .nilfn⟩),
 (some ⟨.leaf, 8, .other, .nilfn⟩),
 (some ⟨.leaf, 8, .other, .nilfn⟩),
 (some ⟨.leaf, 8, .other, .nilfn⟩),
 (some ⟨.leaf, 8, .other, .nilfn⟩),
 (some ⟨.leaf, 8, .other, .nilfn⟩),
 (some ⟨.leaf, 8, .other, .nilfn⟩),
 (some ⟨.leaf, 8, .other, .nilfn⟩),
 (some ⟨.leaf, 8, .other, .nilfn⟩),
 (some ⟨.leaf, 8, .other, .nilfn⟩),
 (some ⟨.leaf, 8, .other, .nilfn⟩),
 (some ⟨.leaf, 8, .other, .nilfn⟩),
 (some ⟨.leaf, 0, .other, .undef⟩),
 (some ⟨.leaf, 8, .other, .nilfn⟩),
 (some ⟨.leaf, 8, .other, .nilfn⟩),
 (some ⟨.leaf, 0, .other, .undef⟩),
 (some ⟨.leaf, 8, .other, .nilfn⟩),
 (some ⟨.leaf, 8, .other, .nilfn⟩),
 (some ⟨.leaf, 8, .other, .nilfn⟩),
 (some ⟨.leaf, 8, .other, .nilfn⟩),
 (some ⟨.leaf, 8, .other, .nilfn⟩),
 (some ⟨.leaf, 8, .other, .nilfn⟩),
 (some ⟨.leaf, 8, .other, .nilfn⟩),
 (some ⟨.leaf, 8, .other, .nilfn⟩),
 (some ⟨.leaf, 8, .other, .nilfn⟩),
 (some ⟨.leaf, 8, (.int .u64), (.int .u64 0)⟩),
 (some ⟨.leaf, 8, .other, .nilfn⟩),
 (some ⟨.leaf, 8, .other, .nilfn⟩),
 (some ⟨.leaf, 8, .other, .nilfn⟩),
 (some ⟨.leaf, 8, .other, .nilfn⟩),
 (some ⟨(.agg 2), 16, (.array 2 3), (.agg ((.int .i64 0) :: ((.int .i64 0) :: [])))⟩),
 (some ⟨.leaf, 24, (.slice 121), .nils⟩),
 (some ⟨.leaf, 8, .other, .nilfn⟩),
 (some ⟨.leaf, 8, .other, .nilfn⟩),
 (some ⟨.leaf, 8, .other, .nilfn⟩),
 (some ⟨.leaf, 8, .other, .nilfn⟩),
 (some ⟨.leaf, 8, .other, .nilfn⟩),
 (some ⟨.leaf, 8, .other, .nilfn⟩),
 (some ⟨.leaf, 8, .other, .nilfn⟩),
 (some ⟨.leaf, 8, .other, .nilfn⟩),
 (some ⟨.leaf, 8, (.int .i64), (.int .i64 0)⟩),
 (some ⟨.leaf, 0, .other, .undef⟩),
 (some ⟨.leaf, 8, .other, .nilfn⟩),
 (some ⟨.leaf, 8, .other, .nilfn⟩),
 (some ⟨.leaf, 8, .other, .nilfn⟩),
 (some ⟨.leaf, 0, .other, .undef⟩),
 (some ⟨.leaf, 8, .other, .nilfn⟩),
 (some ⟨.leaf, 8, .other, .nilfn⟩),
 (some ⟨.leaf, 4, (.int .u32), (.int .u32 0)⟩),
 (some ⟨.leaf, 8, .other, .nilfn⟩),
 (some ⟨.leaf, 8, (.int .u64), (.int .u64 0)⟩),
 (some ⟨.leaf, 8, .other, .nilfn⟩),
 (some ⟨.leaf, 8, .other, .nilfn⟩),
 (some ⟨.leaf, 8, .other, .nilfn⟩),
 (some ⟨.leaf, 8, .other, .nilfn⟩),
 (some ⟨.leaf, 8, .other, .nilfn⟩),
 (some ⟨.leaf, 8, (.int .u64), (.int .u64 0)⟩),
 (some ⟨.leaf, 8, .other, .nilfn⟩),
 (some ⟨.leaf, 8, .other, .nilfn⟩),
 (some ⟨.leaf, 8, .other, .nilfn⟩),
 (some ⟨.leaf, 8, .other, .undef⟩),
 (some ⟨.leaf, 8, .other, .nilfn⟩),
 (some ⟨.leaf, 8, .other, .undef⟩),
 (some ⟨.leaf, 0, .other, .undef⟩),
 (some ⟨.leaf, 8, .other, .nilfn⟩),
 (some ⟨.leaf, 8, .other, .nilfn⟩),
 (some ⟨(.agg 4), 40, (.struct ((0, .leaf) :: ((1, .leaf) :: ((2, .leaf) :: ((3, .leaf) :: [])))) none), (.agg (.undef :: (.undef :: (.undef :: ((.str []) :: [])))))⟩),
 (some ⟨(.agg 4), 40, (.struct ((0, .leaf) :: ((1, .leaf) :: ((2, .leaf) :: ((3, .leaf) :: [])))) none), (.agg (.undef :: (.undef :: (.undef :: ((.str []) :: [])))))⟩),
 (some ⟨(.agg 0), 0, (.array 0 16), (.agg [])⟩),
 (some ⟨(.agg 0), 0, (.struct ((0, (.agg 0)) :: []) none), (.agg [])⟩),
 (some ⟨(.agg 0), 0, (.struct ((0, (.agg 0)) :: []) none), (.agg [])⟩),
 (some ⟨.leaf, 8, .other, .nilfn⟩),
 (some ⟨.leaf, 1, (.int .u8), (.int .u8 0)⟩),
 (some ⟨.leaf, 1, (.int .u8), (.int .u8 0)⟩),
 (some ⟨.leaf, 8, .other, .nilfn⟩),
 (some ⟨.leaf, 8, .other, .undef⟩),
 (some ⟨.leaf, 4, (.int .i32), (.int .i32 0)⟩),
 (some ⟨.leaf, 4, (.int .i32), (.int .i32 0)⟩),
 (some ⟨(.agg 11), 48, (.struct ((0, .leaf) :: ((1, .leaf) :: ((2, .leaf) :: ((3, .leaf) :: ((4, .leaf) :: ((5, .leaf) :: ((6, .leaf) :: ((7, .leaf) :: ((8, .leaf) :: ((9, .leaf) :: ((10, .leaf) :: []))))))))))) none), (.agg ((.int .u64 0) :: ((.int .u64 0) :: ((.int .u32 0) :: ((.int .u8 0) :: ((.int .u8 0) :: ((.int .u8 0) :: ((.int .u8 0) :: (.nilfn :: (.undef :: ((.int .i32 0) :: ((.int .i32 0) :: []))))))))))))⟩),
 (some ⟨(.agg 11), 48, (.struct ((0, .leaf) :: ((1, .leaf) :: ((2, .leaf) :: ((3, .leaf) :: ((4, .leaf) :: ((5, .leaf) :: ((6, .leaf) :: ((7, .leaf) :: ((8, .leaf) :: ((9, .leaf) :: ((10, .leaf) :: []))))))))))) none), (.agg ((.int .u64 0) :: ((.int .u64 0) :: ((.int .u32 0) :: ((.int .u8 0) :: ((.int .u8 0) :: ((.int .u8 0) :: ((.int .u8 0) :: (.nilfn :: (.undef :: ((.int .i32 0) :: ((.int .i32 0) :: []))))))))))))⟩),
 (some ⟨.leaf, 8, .other, .undef⟩)]
theorem tab.eq : tab.tbl = (List.range 172).map fun t => tiOf Tryz.prog t := by kernel_rfl
def tab : Tab Tryz.prog := ⟨tab.tbl, fun t ti h => by
 rw [tab.eq, List.getElem?_map] at h
 rcases Nat.lt_or_ge t 172 with hlt | hge
 ·rw [List.getElem?_range hlt] at h; simpa using h
 ·rw [List.getElem?_eq_none (by simpa using hge)] at h; simp at h⟩
end Go.Bv
namespace Go.Bv.Nm
open Go Go.Proofs
abbrev law15_StoreAll : Nat := 4
noncomputable abbrev law15_StoreAll_f : Func := Tryz.f4
theorem law15_StoreAll_h : Tryz.prog.funcs[law15_StoreAll]? = some law15_StoreAll_f := Tryz.func4
abbrev ref13_Short : Nat := 7
noncomputable abbrev ref13_Short_f : Func := Tryz.f7
theorem ref13_Short_h : Tryz.prog.funcs[ref13_Short]? = some ref13_Short_f := Tryz.func7
abbrev ref13_Copy : Nat := 8
noncomputable abbrev ref13_Copy_f : Func := Tryz.f8
theorem ref13_Copy_h : Tryz.prog.funcs[ref13_Copy]? = some ref13_Copy_f := Tryz.func8
abbrev ref09_Same : Nat := 9
noncomputable abbrev ref09_Same_f : Func := Tryz.f9
theorem ref09_Same_h : Tryz.prog.funcs[ref09_Same]? = some ref09_Same_f := Tryz.func9
abbrev ref07_Equal : Nat := 14
noncomputable abbrev ref07_Equal_f : Func := Tryz.f14
theorem ref07_Equal_h : Tryz.prog.funcs[ref07_Equal]? = some ref07_Equal_f := Tryz.func14
abbrev ref13_SameAll : Nat := 17
noncomputable abbrev ref13_SameAll_f : Func := Tryz.f17
theorem ref13_SameAll_h : Tryz.prog.funcs[ref13_SameAll]? = some ref13_SameAll_f := Tryz.func17
abbrev law15_awake : Nat := 20
noncomputable abbrev law15_awake_f : Func := Tryz.f20
theorem law15_awake_h : Tryz.prog.funcs[law15_awake]? = some law15_awake_f := Tryz.func20
abbrev ref15_Short : Nat := 21
noncomputable abbrev ref15_Short_f : Func := Tryz.f21
theorem ref15_Short_h : Tryz.prog.funcs[ref15_Short]? = some ref15_Short_f := Tryz.func21
abbrev ref08_Short : Nat := 22
noncomputable abbrev ref08_Short_f : Func := Tryz.f22
theorem ref08_Short_h : Tryz.prog.funcs[ref08_Short]? = some ref08_Short_f := Tryz.func22
abbrev ref09_Copy : Nat := 23
noncomputable abbrev ref09_Copy_f : Func := Tryz.f23
theorem ref09_Copy_h : Tryz.prog.funcs[ref09_Copy]? = some ref09_Copy_f := Tryz.func23
abbrev store_Do : Nat := 24
noncomputable abbrev store_Do_f : Func := Tryz.f24
theorem store_Do_h : Tryz.prog.funcs[store_Do]? = some store_Do_f := Tryz.func24
abbrev ref15_Do : Nat := 25
noncomputable abbrev ref15_Do_f : Func := Tryz.f25
theorem ref15_Do_h : Tryz.prog.funcs[ref15_Do]? = some ref15_Do_f := Tryz.func25
abbrev ref15_Same : Nat := 26
noncomputable abbrev ref15_Same_f : Func := Tryz.f26
theorem ref15_Same_h : Tryz.prog.funcs[ref15_Same]? = some ref15_Same_f := Tryz.func26
abbrev store_Sound : Nat := 27
noncomputable abbrev store_Sound_f : Func := Tryz.f27
theorem store_Sound_h : Tryz.prog.funcs[store_Sound]? = some store_Sound_f := Tryz.func27
abbrev ref15_Sound : Nat := 28
noncomputable abbrev ref15_Sound_f : Func := Tryz.f28
theorem ref15_Sound_h : Tryz.prog.funcs[ref15_Sound]? = some ref15_Sound_f := Tryz.func28
abbrev store_All : Nat := 29
noncomputable abbrev store_All_f : Func := Tryz.f29
theorem store_All_h : Tryz.prog.funcs[store_All]? = some store_All_f := Tryz.func29
abbrev ref15_All : Nat := 30
noncomputable abbrev ref15_All_f : Func := Tryz.f30
theorem ref15_All_h : Tryz.prog.funcs[ref15_All]? = some ref15_All_f := Tryz.func30
abbrev store_Under : Nat := 31
noncomputable abbrev store_Under_f : Func := Tryz.f31
theorem store_Under_h : Tryz.prog.funcs[store_Under]? = some store_Under_f := Tryz.func31
abbrev ref09_Under : Nat := 32
noncomputable abbrev ref09_Under_f : Func := Tryz.f32
theorem ref09_Under_h : Tryz.prog.funcs[ref09_Under]? = some ref09_Under_f := Tryz.func32
abbrev ref13_Formed : Nat := 35
noncomputable abbrev ref13_Formed_f : Func := Tryz.f35
theorem ref13_Formed_h : Tryz.prog.funcs[ref13_Formed]? = some ref13_Formed_f := Tryz.func35
abbrev ref10_Short : Nat := 37
noncomputable abbrev ref10_Short_f : Func := Tryz.f37
theorem ref10_Short_h : Tryz.prog.funcs[ref10_Short]? = some ref10_Short_f := Tryz.func37
abbrev ref07_Copy : Nat := 38
noncomputable abbrev ref07_Copy_f : Func := Tryz.f38
theorem ref07_Copy_h : Tryz.prog.funcs[ref07_Copy]? = some ref07_Copy_f := Tryz.func38
abbrev ref10_Copy : Nat := 39
noncomputable abbrev ref10_Copy_f : Func := Tryz.f39
theorem ref10_Copy_h : Tryz.prog.funcs[ref10_Copy]? = some ref10_Copy_f := Tryz.func39
abbrev item_Norm : Nat := 40
noncomputable abbrev item_Norm_f : Func := Tryz.f40
theorem item_Norm_h : Tryz.prog.funcs[item_Norm]? = some item_Norm_f := Tryz.func40
abbrev ref10_Made : Nat := 41
noncomputable abbrev ref10_Made_f : Func := Tryz.f41
theorem ref10_Made_h : Tryz.prog.funcs[ref10_Made]? = some ref10_Made_f := Tryz.func41
abbrev ref09_Norm : Nat := 43
noncomputable abbrev ref09_Norm_f : Func := Tryz.f43
theorem ref09_Norm_h : Tryz.prog.funcs[ref09_Norm]? = some ref09_Norm_f := Tryz.func43
abbrev txn_Formed : Nat := 46
noncomputable abbrev txn_Formed_f : Func := Tryz.f46
theorem txn_Formed_h : Tryz.prog.funcs[txn_Formed]? = some txn_Formed_f := Tryz.func46
abbrev order_Take : Nat := 47
noncomputable abbrev order_Take_f : Func := Tryz.f47
theorem order_Take_h : Tryz.prog.funcs[order_Take]? = some order_Take_f := Tryz.func47
abbrev ref14_Ready : Nat := 48
noncomputable abbrev ref14_Ready_f : Func := Tryz.f48
theorem ref14_Ready_h : Tryz.prog.funcs[ref14_Ready]? = some ref14_Ready_f := Tryz.func48
abbrev ref14_Next : Nat := 49
noncomputable abbrev ref14_Next_f : Func := Tryz.f49
theorem ref14_Next_h : Tryz.prog.funcs[ref14_Next]? = some ref14_Next_f := Tryz.func49
abbrev txn_Dot : Nat := 50
noncomputable abbrev txn_Dot_f : Func := Tryz.f50
theorem txn_Dot_h : Tryz.prog.funcs[txn_Dot]? = some txn_Dot_f := Tryz.func50
abbrev vec_Trim : Nat := 51
noncomputable abbrev vec_Trim_f : Func := Tryz.f51
theorem vec_Trim_h : Tryz.prog.funcs[vec_Trim]? = some vec_Trim_f := Tryz.func51
abbrev ref07_Trim : Nat := 53
noncomputable abbrev ref07_Trim_f : Func := Tryz.f53
theorem ref07_Trim_h : Tryz.prog.funcs[ref07_Trim]? = some ref07_Trim_f := Tryz.func53
abbrev ref13_Same : Nat := 54
noncomputable abbrev ref13_Same_f : Func := Tryz.f54
theorem ref13_Same_h : Tryz.prog.funcs[ref13_Same]? = some ref13_Same_f := Tryz.func54
abbrev vec_Has : Nat := 55
noncomputable abbrev vec_Has_f : Func := Tryz.f55
theorem vec_Has_h : Tryz.prog.funcs[vec_Has]? = some vec_Has_f := Tryz.func55
abbrev slices_Clone_api_Vec_int : Nat := 56
noncomputable abbrev slices_Clone_api_Vec_int_f : Func := Tryz.f56
theorem slices_Clone_api_Vec_int_h : Tryz.prog.funcs[slices_Clone_api_Vec_int]? = some slices_Clone_api_Vec_int_f := Tryz.func56
abbrev txn_Only : Nat := 57
noncomputable abbrev txn_Only_f : Func := Tryz.f57
theorem txn_Only_h : Tryz.prog.funcs[txn_Only]? = some txn_Only_f := Tryz.func57
abbrev ref07_At : Nat := 58
noncomputable abbrev ref07_At_f : Func := Tryz.f58
theorem ref07_At_h : Tryz.prog.funcs[ref07_At]? = some ref07_At_f := Tryz.func58
abbrev law15_awake_1 : Nat := 59
noncomputable abbrev law15_awake_1_f : Func := Tryz.f59
theorem law15_awake_1_h : Tryz.prog.funcs[law15_awake_1]? = some law15_awake_1_f := Tryz.func59
abbrev ref09_Short : Nat := 60
noncomputable abbrev ref09_Short_f : Func := Tryz.f60
theorem ref09_Short_h : Tryz.prog.funcs[ref09_Short]? = some ref09_Short_f := Tryz.func60
abbrev order_Ready : Nat := 61
noncomputable abbrev order_Ready_f : Func := Tryz.f61
theorem order_Ready_h : Tryz.prog.funcs[order_Ready]? = some order_Ready_f := Tryz.func61
abbrev order_Next : Nat := 62
noncomputable abbrev order_Next_f : Func := Tryz.f62
theorem order_Next_h : Tryz.prog.funcs[order_Next]? = some order_Next_f := Tryz.func62
abbrev eff_Do : Nat := 63
noncomputable abbrev eff_Do_f : Func := Tryz.f63
theorem eff_Do_h : Tryz.prog.funcs[eff_Do]? = some eff_Do_f := Tryz.func63
abbrev ref10_Do : Nat := 64
noncomputable abbrev ref10_Do_f : Func := Tryz.f64
theorem ref10_Do_h : Tryz.prog.funcs[ref10_Do]? = some ref10_Do_f := Tryz.func64
abbrev slices_Equal_api_Vec_int : Nat := 65
noncomputable abbrev slices_Equal_api_Vec_int_f : Func := Tryz.f65
theorem slices_Equal_api_Vec_int_h : Tryz.prog.funcs[slices_Equal_api_Vec_int]? = some slices_Equal_api_Vec_int_f := Tryz.func65
abbrev slices_ContainsFunc_api_Vec_int : Nat := 66
noncomputable abbrev slices_ContainsFunc_api_Vec_int_f : Func := Tryz.f66
theorem slices_ContainsFunc_api_Vec_int_h : Tryz.prog.funcs[slices_ContainsFunc_api_Vec_int]? = some slices_ContainsFunc_api_Vec_int_f := Tryz.func66
abbrev store_Sound_1 : Nat := 67
noncomputable abbrev store_Sound_1_f : Func := Tryz.f67
theorem store_Sound_1_h : Tryz.prog.funcs[store_Sound_1]? = some store_Sound_1_f := Tryz.func67
abbrev slices_Equal_api_Item_api_Item : Nat := 68
noncomputable abbrev slices_Equal_api_Item_api_Item_f : Func := Tryz.f68
theorem slices_Equal_api_Item_api_Item_h : Tryz.prog.funcs[slices_Equal_api_Item_api_Item]? = some slices_Equal_api_Item_api_Item_f := Tryz.func68
abbrev slices_ContainsFunc_api_Item_api_Item : Nat := 69
noncomputable abbrev slices_ContainsFunc_api_Item_api_Item_f : Func := Tryz.f69
theorem slices_ContainsFunc_api_Item_api_Item_h : Tryz.prog.funcs[slices_ContainsFunc_api_Item_api_Item]? = some slices_ContainsFunc_api_Item_api_Item_f := Tryz.func69
abbrev store_Sound_2 : Nat := 70
noncomputable abbrev store_Sound_2_f : Func := Tryz.f70
theorem store_Sound_2_h : Tryz.prog.funcs[store_Sound_2]? = some store_Sound_2_f := Tryz.func70
abbrev item_Formed : Nat := 71
noncomputable abbrev item_Formed_f : Func := Tryz.f71
theorem item_Formed_h : Tryz.prog.funcs[item_Formed]? = some item_Formed_f := Tryz.func71
abbrev ref09_Formed : Nat := 72
noncomputable abbrev ref09_Formed_f : Func := Tryz.f72
theorem ref09_Formed_h : Tryz.prog.funcs[ref09_Formed]? = some ref09_Formed_f := Tryz.func72
abbrev slices_Clone_api_Item_api_Item : Nat := 73
noncomputable abbrev slices_Clone_api_Item_api_Item_f : Func := Tryz.f73
theorem slices_Clone_api_Item_api_Item_h : Tryz.prog.funcs[slices_Clone_api_Item_api_Item]? = some slices_Clone_api_Item_api_Item_f := Tryz.func73
abbrev item_Under : Nat := 74
noncomputable abbrev item_Under_f : Func := Tryz.f74
theorem item_Under_h : Tryz.prog.funcs[item_Under]? = some item_Under_f := Tryz.func74
abbrev ref08_Covers : Nat := 75
noncomputable abbrev ref08_Covers_f : Func := Tryz.f75
theorem ref08_Covers_h : Tryz.prog.funcs[ref08_Covers]? = some ref08_Covers_f := Tryz.func75
abbrev ref09_Is : Nat := 76
noncomputable abbrev ref09_Is_f : Func := Tryz.f76
theorem ref09_Is_h : Tryz.prog.funcs[ref09_Is]? = some ref09_Is_f := Tryz.func76
abbrev ref10_Right : Nat := 77
noncomputable abbrev ref10_Right_f : Func := Tryz.f77
theorem ref10_Right_h : Tryz.prog.funcs[ref10_Right]? = some ref10_Right_f := Tryz.func77
abbrev ref10_Heard : Nat := 78
noncomputable abbrev ref10_Heard_f : Func := Tryz.f78
theorem ref10_Heard_h : Tryz.prog.funcs[ref10_Heard]? = some ref10_Heard_f := Tryz.func78
abbrev slices_SortFunc_api_Item_api_Item : Nat := 80
noncomputable abbrev slices_SortFunc_api_Item_api_Item_f : Func := Tryz.f80
theorem slices_SortFunc_api_Item_api_Item_h : Tryz.prog.funcs[slices_SortFunc_api_Item_api_Item]? = some slices_SortFunc_api_Item_api_Item_f := Tryz.func80
abbrev item_compare : Nat := 81
noncomputable abbrev item_compare_f : Func := Tryz.f81
theorem item_compare_h : Tryz.prog.funcs[item_compare]? = some item_compare_f := Tryz.func81
abbrev slices_DeleteFunc_api_Item_api_Item : Nat := 82
noncomputable abbrev slices_DeleteFunc_api_Item_api_Item_f : Func := Tryz.f82
theorem slices_DeleteFunc_api_Item_api_Item_h : Tryz.prog.funcs[slices_DeleteFunc_api_Item_api_Item]? = some slices_DeleteFunc_api_Item_api_Item_f := Tryz.func82
abbrev item_Norm_1 : Nat := 83
noncomputable abbrev item_Norm_1_f : Func := Tryz.f83
theorem item_Norm_1_h : Tryz.prog.funcs[item_Norm_1]? = some item_Norm_1_f := Tryz.func83
abbrev ref09_Less : Nat := 84
noncomputable abbrev ref09_Less_f : Func := Tryz.f84
theorem ref09_Less_h : Tryz.prog.funcs[ref09_Less]? = some ref09_Less_f := Tryz.func84
abbrev ref09_Put : Nat := 85
noncomputable abbrev ref09_Put_f : Func := Tryz.f85
theorem ref09_Put_h : Tryz.prog.funcs[ref09_Put]? = some ref09_Put_f := Tryz.func85
abbrev slices_IndexFunc_api_Txn_api_Txn : Nat := 86
noncomputable abbrev slices_IndexFunc_api_Txn_api_Txn_f : Func := Tryz.f86
theorem slices_IndexFunc_api_Txn_api_Txn_h : Tryz.prog.funcs[slices_IndexFunc_api_Txn_api_Txn]? = some slices_IndexFunc_api_Txn_api_Txn_f := Tryz.func86
abbrev vec_At : Nat := 87
noncomputable abbrev vec_At_f : Func := Tryz.f87
theorem vec_At_h : Tryz.prog.funcs[vec_At]? = some vec_At_f := Tryz.func87
abbrev txn_Formed_1 : Nat := 88
noncomputable abbrev txn_Formed_1_f : Func := Tryz.f88
theorem txn_Formed_1_h : Tryz.prog.funcs[txn_Formed_1]? = some txn_Formed_1_f := Tryz.func88
abbrev eff_Right : Nat := 89
noncomputable abbrev eff_Right_f : Func := Tryz.f89
theorem eff_Right_h : Tryz.prog.funcs[eff_Right]? = some eff_Right_f := Tryz.func89
abbrev eff_Heard : Nat := 90
noncomputable abbrev eff_Heard_f : Func := Tryz.f90
theorem eff_Heard_h : Tryz.prog.funcs[eff_Heard]? = some eff_Heard_f := Tryz.func90
abbrev slices_Clone_api_Txn_api_Txn : Nat := 91
noncomputable abbrev slices_Clone_api_Txn_api_Txn_f : Func := Tryz.f91
theorem slices_Clone_api_Txn_api_Txn_h : Tryz.prog.funcs[slices_Clone_api_Txn_api_Txn]? = some slices_Clone_api_Txn_api_Txn_f := Tryz.func91
abbrev order_Take_1 : Nat := 92
noncomputable abbrev order_Take_1_f : Func := Tryz.f92
theorem order_Take_1_h : Tryz.prog.funcs[order_Take_1]? = some order_Take_1_f := Tryz.func92
abbrev slices_Delete_api_Txn_api_Txn : Nat := 93
noncomputable abbrev slices_Delete_api_Txn_api_Txn_f : Func := Tryz.f93
theorem slices_Delete_api_Txn_api_Txn_h : Tryz.prog.funcs[slices_Delete_api_Txn_api_Txn]? = some slices_Delete_api_Txn_api_Txn_f := Tryz.func93
abbrev ref07_Within : Nat := 94
noncomputable abbrev ref07_Within_f : Func := Tryz.f94
theorem ref07_Within_h : Tryz.prog.funcs[ref07_Within]? = some ref07_Within_f := Tryz.func94
abbrev ref07_With : Nat := 95
noncomputable abbrev ref07_With_f : Func := Tryz.f95
theorem ref07_With_h : Tryz.prog.funcs[ref07_With]? = some ref07_With_f := Tryz.func95
abbrev ref10_Same : Nat := 96
noncomputable abbrev ref10_Same_f : Func := Tryz.f96
theorem ref10_Same_h : Tryz.prog.funcs[ref10_Same]? = some ref10_Same_f := Tryz.func96
abbrev eff_Only : Nat := 97
noncomputable abbrev eff_Only_f : Func := Tryz.f97
theorem eff_Only_h : Tryz.prog.funcs[eff_Only]? = some eff_Only_f := Tryz.func97
abbrev vec_Within : Nat := 98
noncomputable abbrev vec_Within_f : Func := Tryz.f98
theorem vec_Within_h : Tryz.prog.funcs[vec_Within]? = some vec_Within_f := Tryz.func98
abbrev vec_With : Nat := 99
noncomputable abbrev vec_With_f : Func := Tryz.f99
theorem vec_With_h : Tryz.prog.funcs[vec_With]? = some vec_With_f := Tryz.func99
abbrev item_Without : Nat := 100
noncomputable abbrev item_Without_f : Func := Tryz.f100
theorem item_Without_h : Tryz.prog.funcs[item_Without]? = some item_Without_f := Tryz.func100
abbrev eff_made : Nat := 101
noncomputable abbrev eff_made_f : Func := Tryz.f101
theorem eff_made_h : Tryz.prog.funcs[eff_made]? = some eff_made_f := Tryz.func101
abbrev ref09_Without : Nat := 102
noncomputable abbrev ref09_Without_f : Func := Tryz.f102
theorem ref09_Without_h : Tryz.prog.funcs[ref09_Without]? = some ref09_Without_f := Tryz.func102
abbrev slices_IndexFunc_api_Vec_int : Nat := 103
noncomputable abbrev slices_IndexFunc_api_Vec_int_f : Func := Tryz.f103
theorem slices_IndexFunc_api_Vec_int_h : Tryz.prog.funcs[slices_IndexFunc_api_Vec_int]? = some slices_IndexFunc_api_Vec_int_f := Tryz.func103
abbrev slices_IndexFunc_api_Item_api_Item : Nat := 104
noncomputable abbrev slices_IndexFunc_api_Item_api_Item_f : Func := Tryz.f104
theorem slices_IndexFunc_api_Item_api_Item_h : Tryz.prog.funcs[slices_IndexFunc_api_Item_api_Item]? = some slices_IndexFunc_api_Item_api_Item_f := Tryz.func104
abbrev zone_Key : Nat := 105
noncomputable abbrev zone_Key_f : Func := Tryz.f105
theorem zone_Key_h : Tryz.prog.funcs[zone_Key]? = some zone_Key_f := Tryz.func105
abbrev ref08_Key : Nat := 106
noncomputable abbrev ref08_Key_f : Func := Tryz.f106
theorem ref08_Key_h : Tryz.prog.funcs[ref08_Key]? = some ref08_Key_f := Tryz.func106
abbrev ref08_Prefix : Nat := 107
noncomputable abbrev ref08_Prefix_f : Func := Tryz.f107
theorem ref08_Prefix_h : Tryz.prog.funcs[ref08_Prefix]? = some ref08_Prefix_f := Tryz.func107
abbrev item_Under_1 : Nat := 108
noncomputable abbrev item_Under_1_f : Func := Tryz.f108
theorem item_Under_1_h : Tryz.prog.funcs[item_Under_1]? = some item_Under_1_f := Tryz.func108
abbrev zone_Covers : Nat := 109
noncomputable abbrev zone_Covers_f : Func := Tryz.f109
theorem zone_Covers_h : Tryz.prog.funcs[zone_Covers]? = some zone_Covers_f := Tryz.func109
abbrev ref08_Begins : Nat := 110
noncomputable abbrev ref08_Begins_f : Func := Tryz.f110
theorem ref08_Begins_h : Tryz.prog.funcs[ref08_Begins]? = some ref08_Begins_f := Tryz.func110
abbrev ref10_Formed : Nat := 111
noncomputable abbrev ref10_Formed_f : Func := Tryz.f111
theorem ref10_Formed_h : Tryz.prog.funcs[ref10_Formed]? = some ref10_Formed_f := Tryz.func111
abbrev slices_pdqsortCmpFunc_api_Item : Nat := 112
noncomputable abbrev slices_pdqsortCmpFunc_api_Item_f : Func := Tryz.f112
theorem slices_pdqsortCmpFunc_api_Item_h : Tryz.prog.funcs[slices_pdqsortCmpFunc_api_Item]? = some slices_pdqsortCmpFunc_api_Item_f := Tryz.func112
abbrev math_bits_Len : Nat := 113
noncomputable abbrev math_bits_Len_f : Func := Tryz.f113
theorem math_bits_Len_h : Tryz.prog.funcs[math_bits_Len]? = some math_bits_Len_f := Tryz.func113
abbrev cmp_Or_int : Nat := 114
noncomputable abbrev cmp_Or_int_f : Func := Tryz.f114
theorem cmp_Or_int_h : Tryz.prog.funcs[cmp_Or_int]? = some cmp_Or_int_f := Tryz.func114
abbrev cmp_Compare_string : Nat := 115
noncomputable abbrev cmp_Compare_string_f : Func := Tryz.f115
theorem cmp_Compare_string_h : Tryz.prog.funcs[cmp_Compare_string]? = some cmp_Compare_string_f := Tryz.func115
abbrev cmp_Compare_int : Nat := 116
noncomputable abbrev cmp_Compare_int_f : Func := Tryz.f116
theorem cmp_Compare_int_h : Tryz.prog.funcs[cmp_Compare_int]? = some cmp_Compare_int_f := Tryz.func116
abbrev cmp_Compare_int64 : Nat := 117
noncomputable abbrev cmp_Compare_int64_f : Func := Tryz.f117
theorem cmp_Compare_int64_h : Tryz.prog.funcs[cmp_Compare_int64]? = some cmp_Compare_int64_f := Tryz.func117
abbrev eff_Formed : Nat := 118
noncomputable abbrev eff_Formed_f : Func := Tryz.f118
theorem eff_Formed_h : Tryz.prog.funcs[eff_Formed]? = some eff_Formed_f := Tryz.func118
abbrev slices_ContainsFunc_api_Dot_api_Dot : Nat := 119
noncomputable abbrev slices_ContainsFunc_api_Dot_api_Dot_f : Func := Tryz.f119
theorem slices_ContainsFunc_api_Dot_api_Dot_h : Tryz.prog.funcs[slices_ContainsFunc_api_Dot_api_Dot]? = some slices_ContainsFunc_api_Dot_api_Dot_f := Tryz.func119
abbrev eff_Right_1 : Nat := 120
noncomputable abbrev eff_Right_1_f : Func := Tryz.f120
theorem eff_Right_1_h : Tryz.prog.funcs[eff_Right_1]? = some eff_Right_1_f := Tryz.func120
abbrev ref07_Same : Nat := 121
noncomputable abbrev ref07_Same_f : Func := Tryz.f121
theorem ref07_Same_h : Tryz.prog.funcs[ref07_Same]? = some ref07_Same_f := Tryz.func121
abbrev ref07_Lay : Nat := 122
noncomputable abbrev ref07_Lay_f : Func := Tryz.f122
theorem ref07_Lay_h : Tryz.prog.funcs[ref07_Lay]? = some ref07_Lay_f := Tryz.func122
abbrev ref10_SameDots : Nat := 123
noncomputable abbrev ref10_SameDots_f : Func := Tryz.f123
theorem ref10_SameDots_h : Tryz.prog.funcs[ref10_SameDots]? = some ref10_SameDots_f := Tryz.func123
abbrev slices_Clone_api_Dot_api_Dot : Nat := 124
noncomputable abbrev slices_Clone_api_Dot_api_Dot_f : Func := Tryz.f124
theorem slices_Clone_api_Dot_api_Dot_h : Tryz.prog.funcs[slices_Clone_api_Dot_api_Dot]? = some slices_Clone_api_Dot_api_Dot_f := Tryz.func124
abbrev item_Without_1 : Nat := 125
noncomputable abbrev item_Without_1_f : Func := Tryz.f125
theorem item_Without_1_h : Tryz.prog.funcs[item_Without_1]? = some item_Without_1_f := Tryz.func125
abbrev slices_Contains_api_Dot_api_Dot : Nat := 126
noncomputable abbrev slices_Contains_api_Dot_api_Dot_f : Func := Tryz.f126
theorem slices_Contains_api_Dot_api_Dot_h : Tryz.prog.funcs[slices_Contains_api_Dot_api_Dot]? = some slices_Contains_api_Dot_api_Dot_f := Tryz.func126
abbrev zone_prefix : Nat := 127
noncomputable abbrev zone_prefix_f : Func := Tryz.f127
theorem zone_prefix_h : Tryz.prog.funcs[zone_prefix]? = some zone_prefix_f := Tryz.func127
abbrev slices_ContainsFunc_string_string : Nat := 128
noncomputable abbrev slices_ContainsFunc_string_string_f : Func := Tryz.f128
theorem slices_ContainsFunc_string_string_h : Tryz.prog.funcs[slices_ContainsFunc_string_string]? = some slices_ContainsFunc_string_string_f := Tryz.func128
abbrev zone_Covers_1 : Nat := 129
noncomputable abbrev zone_Covers_1_f : Func := Tryz.f129
theorem zone_Covers_1_h : Tryz.prog.funcs[zone_Covers_1]? = some zone_Covers_1_f := Tryz.func129
abbrev strings_HasPrefix : Nat := 130
noncomputable abbrev strings_HasPrefix_f : Func := Tryz.f130
theorem strings_HasPrefix_h : Tryz.prog.funcs[strings_HasPrefix]? = some strings_HasPrefix_f := Tryz.func130
abbrev ref10_may : Nat := 131
noncomputable abbrev ref10_may_f : Func := Tryz.f131
theorem ref10_may_h : Tryz.prog.funcs[ref10_may]? = some ref10_may_f := Tryz.func131
abbrev ref10_Ahead : Nat := 132
noncomputable abbrev ref10_Ahead_f : Func := Tryz.f132
theorem ref10_Ahead_h : Tryz.prog.funcs[ref10_Ahead]? = some ref10_Ahead_f := Tryz.func132
abbrev slices_insertionSortCmpFunc_api_Item : Nat := 133
noncomputable abbrev slices_insertionSortCmpFunc_api_Item_f : Func := Tryz.f133
theorem slices_insertionSortCmpFunc_api_Item_h : Tryz.prog.funcs[slices_insertionSortCmpFunc_api_Item]? = some slices_insertionSortCmpFunc_api_Item_f := Tryz.func133
abbrev slices_heapSortCmpFunc_api_Item : Nat := 134
noncomputable abbrev slices_heapSortCmpFunc_api_Item_f : Func := Tryz.f134
theorem slices_heapSortCmpFunc_api_Item_h : Tryz.prog.funcs[slices_heapSortCmpFunc_api_Item]? = some slices_heapSortCmpFunc_api_Item_f := Tryz.func134
abbrev slices_breakPatternsCmpFunc_api_Item : Nat := 135
noncomputable abbrev slices_breakPatternsCmpFunc_api_Item_f : Func := Tryz.f135
theorem slices_breakPatternsCmpFunc_api_Item_h : Tryz.prog.funcs[slices_breakPatternsCmpFunc_api_Item]? = some slices_breakPatternsCmpFunc_api_Item_f := Tryz.func135
abbrev slices_choosePivotCmpFunc_api_Item : Nat := 136
noncomputable abbrev slices_choosePivotCmpFunc_api_Item_f : Func := Tryz.f136
theorem slices_choosePivotCmpFunc_api_Item_h : Tryz.prog.funcs[slices_choosePivotCmpFunc_api_Item]? = some slices_choosePivotCmpFunc_api_Item_f := Tryz.func136
abbrev slices_reverseRangeCmpFunc_api_Item : Nat := 137
noncomputable abbrev slices_reverseRangeCmpFunc_api_Item_f : Func := Tryz.f137
theorem slices_reverseRangeCmpFunc_api_Item_h : Tryz.prog.funcs[slices_reverseRangeCmpFunc_api_Item]? = some slices_reverseRangeCmpFunc_api_Item_f := Tryz.func137
abbrev slices_partialInsertionSortCmpFunc_api_Item : Nat := 138
noncomputable abbrev slices_partialInsertionSortCmpFunc_api_Item_f : Func := Tryz.f138
theorem slices_partialInsertionSortCmpFunc_api_Item_h : Tryz.prog.funcs[slices_partialInsertionSortCmpFunc_api_Item]? = some slices_partialInsertionSortCmpFunc_api_Item_f := Tryz.func138
abbrev slices_partitionEqualCmpFunc_api_Item : Nat := 139
noncomputable abbrev slices_partitionEqualCmpFunc_api_Item_f : Func := Tryz.f139
theorem slices_partitionEqualCmpFunc_api_Item_h : Tryz.prog.funcs[slices_partitionEqualCmpFunc_api_Item]? = some slices_partitionEqualCmpFunc_api_Item_f := Tryz.func139
abbrev slices_partitionCmpFunc_api_Item : Nat := 140
noncomputable abbrev slices_partitionCmpFunc_api_Item_f : Func := Tryz.f140
theorem slices_partitionCmpFunc_api_Item_h : Tryz.prog.funcs[slices_partitionCmpFunc_api_Item]? = some slices_partitionCmpFunc_api_Item_f := Tryz.func140
abbrev math_bits_Len64 : Nat := 142
noncomputable abbrev math_bits_Len64_f : Func := Tryz.f142
theorem math_bits_Len64_h : Tryz.prog.funcs[math_bits_Len64]? = some math_bits_Len64_f := Tryz.func142
abbrev cmp_isNaN_string : Nat := 143
noncomputable abbrev cmp_isNaN_string_f : Func := Tryz.f143
theorem cmp_isNaN_string_h : Tryz.prog.funcs[cmp_isNaN_string]? = some cmp_isNaN_string_f := Tryz.func143
abbrev cmp_isNaN_int : Nat := 144
noncomputable abbrev cmp_isNaN_int_f : Func := Tryz.f144
theorem cmp_isNaN_int_h : Tryz.prog.funcs[cmp_isNaN_int]? = some cmp_isNaN_int_f := Tryz.func144
abbrev cmp_isNaN_int64 : Nat := 145
noncomputable abbrev cmp_isNaN_int64_f : Func := Tryz.f145
theorem cmp_isNaN_int64_h : Tryz.prog.funcs[cmp_isNaN_int64]? = some cmp_isNaN_int64_f := Tryz.func145
abbrev eff_dot : Nat := 146
noncomputable abbrev eff_dot_f : Func := Tryz.f146
theorem eff_dot_h : Tryz.prog.funcs[eff_dot]? = some eff_dot_f := Tryz.func146
abbrev eff_order : Nat := 147
noncomputable abbrev eff_order_f : Func := Tryz.f147
theorem eff_order_h : Tryz.prog.funcs[eff_order]? = some eff_order_f := Tryz.func147
abbrev slices_IndexFunc_api_Dot_api_Dot : Nat := 148
noncomputable abbrev slices_IndexFunc_api_Dot_api_Dot_f : Func := Tryz.f148
theorem slices_IndexFunc_api_Dot_api_Dot_h : Tryz.prog.funcs[slices_IndexFunc_api_Dot_api_Dot]? = some slices_IndexFunc_api_Dot_api_Dot_f := Tryz.func148
abbrev slices_Index_api_Dot_api_Dot : Nat := 149
noncomputable abbrev slices_Index_api_Dot_api_Dot_f : Func := Tryz.f149
theorem slices_Index_api_Dot_api_Dot_h : Tryz.prog.funcs[slices_Index_api_Dot_api_Dot]? = some slices_Index_api_Dot_api_Dot_f := Tryz.func149
abbrev slices_IndexFunc_string_string : Nat := 150
noncomputable abbrev slices_IndexFunc_string_string_f : Func := Tryz.f150
theorem slices_IndexFunc_string_string_h : Tryz.prog.funcs[slices_IndexFunc_string_string]? = some slices_IndexFunc_string_string_f := Tryz.func150
abbrev internal_stringslite_HasPrefix : Nat := 151
noncomputable abbrev internal_stringslite_HasPrefix_f : Func := Tryz.f151
theorem internal_stringslite_HasPrefix_h : Tryz.prog.funcs[internal_stringslite_HasPrefix]? = some internal_stringslite_HasPrefix_f := Tryz.func151
abbrev slices_siftDownCmpFunc_api_Item : Nat := 152
noncomputable abbrev slices_siftDownCmpFunc_api_Item_f : Func := Tryz.f152
theorem slices_siftDownCmpFunc_api_Item_h : Tryz.prog.funcs[slices_siftDownCmpFunc_api_Item]? = some slices_siftDownCmpFunc_api_Item_f := Tryz.func152
abbrev slices_nextPowerOfTwo : Nat := 153
noncomputable abbrev slices_nextPowerOfTwo_f : Func := Tryz.f153
theorem slices_nextPowerOfTwo_h : Tryz.prog.funcs[slices_nextPowerOfTwo]? = some slices_nextPowerOfTwo_f := Tryz.func153
abbrev slices_medianAdjacentCmpFunc_api_Item : Nat := 155
noncomputable abbrev slices_medianAdjacentCmpFunc_api_Item_f : Func := Tryz.f155
theorem slices_medianAdjacentCmpFunc_api_Item_h : Tryz.prog.funcs[slices_medianAdjacentCmpFunc_api_Item]? = some slices_medianAdjacentCmpFunc_api_Item_f := Tryz.func155
abbrev slices_medianCmpFunc_api_Item : Nat := 156
noncomputable abbrev slices_medianCmpFunc_api_Item_f : Func := Tryz.f156
theorem slices_medianCmpFunc_api_Item_h : Tryz.prog.funcs[slices_medianCmpFunc_api_Item]? = some slices_medianCmpFunc_api_Item_f := Tryz.func156
abbrev slices_order2CmpFunc_api_Item : Nat := 157
noncomputable abbrev slices_order2CmpFunc_api_Item_f : Func := Tryz.f157
theorem slices_order2CmpFunc_api_Item_h : Tryz.prog.funcs[slices_order2CmpFunc_api_Item]? = some slices_order2CmpFunc_api_Item_f := Tryz.func157
end Go.Bv.Nm
namespace Go.Bv
open Go Go.Proofs
theorem mixed : Tryz.prog.follows .mixedOrders = true := by kernel_rfl
end Go.Bv
