/- Part of the lift: an abstract walk of the program's code, proved sound, and what it shows of this program. -/
import Derived.Test.YthkdjecnecpckaaPart0
import Derived.Test.YthkdjecnecpckaaChecked
import Derived.Test.YthkdjecnecpckaaPart3
import Derived.Test.YthkdjecnecpckaaPart4
namespace Go.Bv
open Go Go.Proofs
set_option maxRecDepth 100000 in
def tab.tbl : List (Option TI) := [
  (some ⟨.leaf, 0, .other, .undef⟩),
  (some ⟨.leaf, 8, .other, .nilfn⟩),
  (some ⟨.leaf, 8, (.int .i64), (.int .i64 0)⟩),
  (some ⟨.leaf, 8, (.int .i64), (.int .i64 0)⟩),
  (some ⟨.leaf, 1, .bool, (.bool false)⟩),
  (some ⟨.leaf, 1, (.int .u8), (.int .u8 0)⟩),
  (some ⟨.leaf, 1, (.int .u8), (.int .u8 0)⟩),
  (some ⟨(.agg 4), 24, (.struct ((0, .leaf) :: ((1, .leaf) :: ((2, .leaf) :: ((3, .leaf) :: [])))) (some (0 :: (0 :: (2 :: (0 :: [])))))), (.agg ((.int .i64 0) :: ((.int .i64 0) :: ((.bool false) :: ((.int .u8 0) :: [])))))⟩),
  (some ⟨(.agg 4), 24, (.struct ((0, .leaf) :: ((1, .leaf) :: ((2, .leaf) :: ((3, .leaf) :: [])))) (some (0 :: (0 :: (2 :: (0 :: [])))))), (.agg ((.int .i64 0) :: ((.int .i64 0) :: ((.bool false) :: ((.int .u8 0) :: [])))))⟩),
  (some ⟨.leaf, 16, .str, (.str [])⟩),
  (some ⟨.leaf, 16, .str, (.str [])⟩),
  (some ⟨.leaf, 16, .str, (.str [])⟩),
  (some ⟨.leaf, 8, (.int .u64), (.int .u64 0)⟩),
  (some ⟨(.agg 2), 24, (.struct ((0, .leaf) :: ((1, .leaf) :: [])) none), (.agg ((.str []) :: ((.int .u64 0) :: [])))⟩),
  (some ⟨(.agg 2), 24, (.struct ((0, .leaf) :: ((1, .leaf) :: [])) none), (.agg ((.str []) :: ((.int .u64 0) :: [])))⟩),
  (some ⟨.leaf, 8, .other, .undef⟩),
  (some ⟨.leaf, 8, .other, .undef⟩),
  (some ⟨.leaf, 8, .other, .undef⟩),
  (some ⟨(.agg 1), 8, (.struct ((0, .leaf) :: []) none), (.agg (.undef :: []))⟩),
  (some ⟨(.agg 1), 8, (.struct ((0, .leaf) :: []) none), (.agg (.undef :: []))⟩),
  (some ⟨.leaf, 16, .other, .undef⟩),
  (some ⟨.leaf, 4, (.int .i32), (.int .i32 0)⟩),
  (some ⟨.leaf, 24, (.slice 3), .nils⟩),
  (some ⟨.leaf, 24, (.slice 3), .nils⟩),
  (some ⟨.leaf, 24, (.slice 66), .nils⟩),
  (some ⟨(.agg 4), 64, (.struct ((0, .leaf) :: ((1, .leaf) :: ((2, .leaf) :: ((3, .leaf) :: [])))) none), (.agg ((.int .i64 0) :: ((.int .i64 0) :: (.nils :: (.nils :: [])))))⟩),
  (some ⟨(.agg 4), 64, (.struct ((0, .leaf) :: ((1, .leaf) :: ((2, .leaf) :: ((3, .leaf) :: [])))) none), (.agg ((.int .i64 0) :: ((.int .i64 0) :: (.nils :: (.nils :: [])))))⟩),
  (some ⟨.leaf, 24, (.slice 5), .nils⟩),
  (some ⟨.leaf, 8, .other, .nilfn⟩),
  (some ⟨.leaf, 8, .other, .nilfn⟩),
  (some ⟨.leaf, 24, (.slice 26), .nils⟩),
  (some ⟨.leaf, 8, (.int .i64), (.int .i64 0)⟩),
  (some ⟨.leaf, 0, .other, .undef⟩),
  (some ⟨.leaf, 8, .other, .nilfn⟩),
  (some ⟨.leaf, 0, .other, .undef⟩),
  (some ⟨.leaf, 8, .other, .nilfn⟩),
  (some ⟨.leaf, 8, .other, .nilfn⟩),
  (some ⟨.leaf, 8, .other, .nilfn⟩),
  (some ⟨.leaf, 8, .other, .nilfn⟩),
  (some ⟨.leaf, 8, .other, .nilfn⟩),
  (some ⟨.leaf, 8, .other, .nilfn⟩),
  (some ⟨.leaf, 24, (.slice 9), .nils⟩),
  (some ⟨.leaf, 8, .other, .nilfn⟩),
  (some ⟨.leaf, 8, .other, .nilfn⟩),
  (some ⟨.leaf, 8, .other, .nilfn⟩),
  (some ⟨.leaf, 8, .other, .nilfn⟩),
  (some ⟨(.agg 3), 24, (.struct ((0, .leaf) :: ((1, .leaf) :: ((2, .leaf) :: []))) (some (0 :: (0 :: (0 :: []))))), (.agg ((.int .i64 0) :: ((.int .i64 0) :: ((.int .i64 0) :: []))))⟩),
  (some ⟨(.agg 3), 24, (.struct ((0, .leaf) :: ((1, .leaf) :: ((2, .leaf) :: []))) (some (0 :: (0 :: (0 :: []))))), (.agg ((.int .i64 0) :: ((.int .i64 0) :: ((.int .i64 0) :: []))))⟩),
  (some ⟨.leaf, 8, .other, .nilfn⟩),
  (some ⟨.leaf, 8, .other, .nilfn⟩),
  (some ⟨.leaf, 8, .other, .nilfn⟩),
  (some ⟨.leaf, 8, .other, .nilfn⟩),
  (some ⟨.leaf, 24, (.slice 68), .nils⟩),
  (some ⟨.leaf, 8, .other, .nilfn⟩),
  (some ⟨.leaf, 8, .other, .nilfn⟩),
  (some ⟨.leaf, 8, .other, .nilfn⟩),
  (some ⟨.leaf, 8, .other, .nilfn⟩),
  (some ⟨.leaf, 8, .other, .nilfn⟩),
  (some ⟨.leaf, 8, .other, .nilfn⟩),
  (some ⟨.leaf, 8, .other, .nilfn⟩),
  (some ⟨.leaf, 8, .other, .nilfn⟩),
  (some ⟨.leaf, 8, .other, .nilfn⟩),
  (some ⟨.leaf, 8, .other, .nilfn⟩),
  (some ⟨.leaf, 8, .other, .nilfn⟩),
  (some ⟨.leaf, 24, (.slice 47), .nils⟩),
  (some ⟨(.agg 7), 96, (.struct ((0, .leaf) :: ((1, .leaf) :: ((2, .leaf) :: ((3, .leaf) :: ((4, .leaf) :: ((5, .leaf) :: ((6, .leaf) :: []))))))) none), (.agg ((.int .i64 0) :: ((.str []) :: ((.str []) :: ((.int .i64 0) :: ((.str []) :: ((.int .i64 0) :: (.nils :: []))))))))⟩),
  (some ⟨(.agg 7), 96, (.struct ((0, .leaf) :: ((1, .leaf) :: ((2, .leaf) :: ((3, .leaf) :: ((4, .leaf) :: ((5, .leaf) :: ((6, .leaf) :: []))))))) none), (.agg ((.int .i64 0) :: ((.str []) :: ((.str []) :: ((.int .i64 0) :: ((.str []) :: ((.int .i64 0) :: (.nils :: []))))))))⟩),
  (some ⟨(.agg 8), 88, (.struct ((0, .leaf) :: ((1, .leaf) :: ((2, .leaf) :: ((3, .leaf) :: ((4, .leaf) :: ((5, (.agg 3)) :: [])))))) (some (1 :: (1 :: (0 :: (1 :: (0 :: (0 :: (0 :: (0 :: [])))))))))), (.agg ((.str []) :: ((.str []) :: ((.int .i64 0) :: ((.str []) :: ((.int .i64 0) :: ((.int .i64 0) :: ((.int .i64 0) :: ((.int .i64 0) :: [])))))))))⟩),
  (some ⟨(.agg 8), 88, (.struct ((0, .leaf) :: ((1, .leaf) :: ((2, .leaf) :: ((3, .leaf) :: ((4, .leaf) :: ((5, (.agg 3)) :: [])))))) (some (1 :: (1 :: (0 :: (1 :: (0 :: (0 :: (0 :: (0 :: [])))))))))), (.agg ((.str []) :: ((.str []) :: ((.int .i64 0) :: ((.str []) :: ((.int .i64 0) :: ((.int .i64 0) :: ((.int .i64 0) :: ((.int .i64 0) :: [])))))))))⟩),
  (some ⟨.leaf, 8, .other, .nilfn⟩),
  (some ⟨.leaf, 8, .other, .nilfn⟩),
  (some ⟨.leaf, 8, .other, .nilfn⟩),
  (some ⟨.leaf, 8, .other, .nilfn⟩),
  (some ⟨.leaf, 8, .other, .nilfn⟩),
  (some ⟨.leaf, 8, .other, .nilfn⟩),
  (some ⟨.leaf, 8, .other, .nilfn⟩),
  (some ⟨.leaf, 8, .other, .nilfn⟩),
  (some ⟨.leaf, 8, .other, .undef⟩),
  (some ⟨(.agg 2), 32, (.struct ((0, .leaf) :: ((1, .leaf) :: [])) none), (.agg (.nils :: ((.int .i64 0) :: [])))⟩),
  (some ⟨(.agg 2), 32, (.struct ((0, .leaf) :: ((1, .leaf) :: [])) none), (.agg (.nils :: ((.int .i64 0) :: [])))⟩),
  (some ⟨.leaf, 8, .other, .nilfn⟩),
  (some ⟨.leaf, 8, .other, .nilfn⟩),
  (some ⟨.leaf, 8, .other, .nilfn⟩),
  (some ⟨.leaf, 8, .other, .nilfn⟩),
  (some ⟨.leaf, 8, .other, .nilfn⟩),
  (some ⟨.leaf, 8, .other, .nilfn⟩),
  (some ⟨.leaf, 8, .other, .nilfn⟩),
  (some ⟨.leaf, 8, .other, .nilfn⟩),
  (some ⟨.leaf, 8, .other, .nilfn⟩),
  (some ⟨.leaf, 8, .other, .nilfn⟩),
  (some ⟨.leaf, 8, .other, .nilfn⟩),
  (some ⟨.leaf, 8, .other, .nilfn⟩),
  (some ⟨.leaf, 8, .other, .nilfn⟩),
  (some ⟨.leaf, 8, .other, .nilfn⟩),
  (some ⟨.leaf, 8, .other, .nilfn⟩),
  (some ⟨.leaf, 8, .other, .nilfn⟩),
  (some ⟨.leaf, 8, .other, .nilfn⟩),
  (some ⟨.leaf, 8, .other, .nilfn⟩),
  (some ⟨.leaf, 8, .other, .nilfn⟩),
  (some ⟨.leaf, 8, .other, .nilfn⟩),
  (some ⟨.leaf, 8, .other, .nilfn⟩),
  (some ⟨.leaf, 8, .other, .nilfn⟩),
  (some ⟨.leaf, 8, .other, .nilfn⟩),
  (some ⟨.leaf, 8, (.int .u64), (.int .u64 0)⟩),
  (some ⟨.leaf, 8, (.int .u64), (.int .u64 0)⟩),
  (some ⟨.leaf, 0, .other, .undef⟩),
  (some ⟨.leaf, 8, .other, .nilfn⟩),
  (some ⟨.leaf, 8, .other, .nilfn⟩),
  (some ⟨.leaf, 8, .other, .nilfn⟩),
  (some ⟨.leaf, 8, .other, .nilfn⟩),
  (some ⟨.leaf, 8, .other, .nilfn⟩),
  (some ⟨.leaf, 8, .other, .nilfn⟩),
  (some ⟨.leaf, 0, .other, .undef⟩),
  (some ⟨.leaf, 8, .other, .nilfn⟩),
  (some ⟨.leaf, 8, .other, .nilfn⟩),
  (some ⟨.leaf, 8, .other, .nilfn⟩),
  (some ⟨.leaf, 8, .other, .nilfn⟩),
  (some ⟨.leaf, 8, .other, .nilfn⟩),
  (some ⟨.leaf, 8, .other, .nilfn⟩),
  (some ⟨.leaf, 8, .other, .nilfn⟩),
  (some ⟨.leaf, 8, .other, .nilfn⟩),
  (some ⟨.leaf, 8, (.map 47 4), .undef⟩),
  (some ⟨(.agg 2), 16, (.array 2 3), (.agg ((.int .i64 0) :: ((.int .i64 0) :: [])))⟩),
  (some ⟨.leaf, 24, (.slice 122), .nils⟩),
  (some ⟨.leaf, 8, .other, .nilfn⟩),
  (some ⟨.leaf, 8, .other, .nilfn⟩),
  (some ⟨.leaf, 8, .other, .nilfn⟩),
  (some ⟨.leaf, 0, .other, .undef⟩),
  (some ⟨.leaf, 8, .other, .nilfn⟩),
  (some ⟨.leaf, 0, .other, .undef⟩),
  (some ⟨.leaf, 8, .other, .nilfn⟩),
  (some ⟨.leaf, 8, .other, .nilfn⟩),
  (some ⟨.leaf, 8, .other, .nilfn⟩),
  (some ⟨.leaf, 8, .other, .nilfn⟩),
  (some ⟨.leaf, 8, .other, .nilfn⟩),
  (some ⟨.leaf, 8, .other, .nilfn⟩),
  (some ⟨.leaf, 8, .other, .nilfn⟩),
  (some ⟨.leaf, 8, .other, .nilfn⟩),
  (some ⟨.leaf, 8, .other, .nilfn⟩),
  (some ⟨.leaf, 8, .other, .nilfn⟩),
  (some ⟨.leaf, 8, .other, .nilfn⟩),
  (some ⟨.leaf, 8, .other, .nilfn⟩),
  (some ⟨.leaf, 8, (.int .i64), (.int .i64 0)⟩),
  (some ⟨.leaf, 0, .other, .undef⟩),
  (some ⟨.leaf, 8, .other, .nilfn⟩),
  (some ⟨.leaf, 8, .other, .nilfn⟩),
  (some ⟨.leaf, 8, .other, .nilfn⟩),
  (some ⟨.leaf, 0, .other, .undef⟩),
  (some ⟨.leaf, 8, .other, .nilfn⟩),
  (some ⟨.leaf, 8, .other, .nilfn⟩),
  (some ⟨.leaf, 4, (.int .u32), (.int .u32 0)⟩),
  (some ⟨.leaf, 8, .other, .nilfn⟩),
  (some ⟨.leaf, 8, .other, .nilfn⟩),
  (some ⟨.leaf, 8, (.int .u64), (.int .u64 0)⟩),
  (some ⟨.leaf, 8, .other, .nilfn⟩),
  (some ⟨.leaf, 8, .other, .nilfn⟩),
  (some ⟨.leaf, 8, .other, .nilfn⟩),
  (some ⟨.leaf, 8, .other, .undef⟩),
  (some ⟨.leaf, 8, .other, .nilfn⟩),
  (some ⟨.leaf, 8, .other, .undef⟩),
  (some ⟨.leaf, 0, .other, .undef⟩),
  (some ⟨.leaf, 8, .other, .nilfn⟩),
  (some ⟨(.agg 4), 40, (.struct ((0, .leaf) :: ((1, .leaf) :: ((2, .leaf) :: ((3, .leaf) :: [])))) none), (.agg (.undef :: (.undef :: (.undef :: ((.str []) :: [])))))⟩),
  (some ⟨(.agg 4), 40, (.struct ((0, .leaf) :: ((1, .leaf) :: ((2, .leaf) :: ((3, .leaf) :: [])))) none), (.agg (.undef :: (.undef :: (.undef :: ((.str []) :: [])))))⟩),
  (some ⟨(.agg 0), 0, (.array 0 16), (.agg [])⟩),
  (some ⟨(.agg 0), 0, (.struct ((0, (.agg 0)) :: []) none), (.agg [])⟩),
  (some ⟨(.agg 0), 0, (.struct ((0, (.agg 0)) :: []) none), (.agg [])⟩),
  (some ⟨.leaf, 1, (.int .u8), (.int .u8 0)⟩),
  (some ⟨.leaf, 1, (.int .u8), (.int .u8 0)⟩),
  (some ⟨.leaf, 8, .other, .nilfn⟩),
  (some ⟨.leaf, 8, .other, .undef⟩),
  (some ⟨.leaf, 4, (.int .i32), (.int .i32 0)⟩),
  (some ⟨.leaf, 4, (.int .i32), (.int .i32 0)⟩),
  (some ⟨(.agg 11), 48, (.struct ((0, .leaf) :: ((1, .leaf) :: ((2, .leaf) :: ((3, .leaf) :: ((4, .leaf) :: ((5, .leaf) :: ((6, .leaf) :: ((7, .leaf) :: ((8, .leaf) :: ((9, .leaf) :: ((10, .leaf) :: []))))))))))) none), (.agg ((.int .u64 0) :: ((.int .u64 0) :: ((.int .u32 0) :: ((.int .u8 0) :: ((.int .u8 0) :: ((.int .u8 0) :: ((.int .u8 0) :: (.nilfn :: (.undef :: ((.int .i32 0) :: ((.int .i32 0) :: []))))))))))))⟩),
  (some ⟨(.agg 11), 48, (.struct ((0, .leaf) :: ((1, .leaf) :: ((2, .leaf) :: ((3, .leaf) :: ((4, .leaf) :: ((5, .leaf) :: ((6, .leaf) :: ((7, .leaf) :: ((8, .leaf) :: ((9, .leaf) :: ((10, .leaf) :: []))))))))))) none), (.agg ((.int .u64 0) :: ((.int .u64 0) :: ((.int .u32 0) :: ((.int .u8 0) :: ((.int .u8 0) :: ((.int .u8 0) :: ((.int .u8 0) :: (.nilfn :: (.undef :: ((.int .i32 0) :: ((.int .i32 0) :: []))))))))))))⟩),
  (some ⟨.leaf, 8, .other, .undef⟩)]
theorem tab.eq : tab.tbl = (List.range 176).map fun t => tiOf Try.prog t := by kernel_rfl
def tab : Tab Try.prog := ⟨tab.tbl, fun t ti h => by
  rw [tab.eq, List.getElem?_map] at h
  rcases Nat.lt_or_ge t 176 with hlt | hge
  · rw [List.getElem?_range hlt] at h; simpa using h
  · rw [List.getElem?_eq_none (by simpa using hge)] at h; simp at h⟩
end Go.Bv
namespace Go.Bv.Nm
open Go Go.Proofs
abbrev law13_TxnBack : Nat := 3
noncomputable abbrev law13_TxnBack_f : Func := Try.f3
theorem law13_TxnBack_h : Try.prog.funcs[law13_TxnBack]? = some law13_TxnBack_f := Try.func3
abbrev law13_TxnCut : Nat := 4
noncomputable abbrev law13_TxnCut_f : Func := Try.f4
theorem law13_TxnCut_h : Try.prog.funcs[law13_TxnCut]? = some law13_TxnCut_f := Try.func4
abbrev law13_TxnOnly : Nat := 5
noncomputable abbrev law13_TxnOnly_f : Func := Try.f5
theorem law13_TxnOnly_h : Try.prog.funcs[law13_TxnOnly]? = some law13_TxnOnly_f := Try.func5
abbrev law13_TxnAll : Nat := 6
noncomputable abbrev law13_TxnAll_f : Func := Try.f6
theorem law13_TxnAll_h : Try.prog.funcs[law13_TxnAll]? = some law13_TxnAll_f := Try.func6
abbrev law10_EffConcurrent : Nat := 7
noncomputable abbrev law10_EffConcurrent_f : Func := Try.f7
theorem law10_EffConcurrent_h : Try.prog.funcs[law10_EffConcurrent]? = some law10_EffConcurrent_f := Try.func7
abbrev law10_EffAgain : Nat := 8
noncomputable abbrev law10_EffAgain_f : Func := Try.f8
theorem law10_EffAgain_h : Try.prog.funcs[law10_EffAgain]? = some law10_EffAgain_f := Try.func8
abbrev law10_EffOnly : Nat := 9
noncomputable abbrev law10_EffOnly_f : Func := Try.f9
theorem law10_EffOnly_h : Try.prog.funcs[law10_EffOnly]? = some law10_EffOnly_f := Try.func9
abbrev law13_awake : Nat := 10
noncomputable abbrev law13_awake_f : Func := Try.f10
theorem law13_awake_h : Try.prog.funcs[law13_awake]? = some law13_awake_f := Try.func10
abbrev ref13_Short : Nat := 11
noncomputable abbrev ref13_Short_f : Func := Try.f11
theorem ref13_Short_h : Try.prog.funcs[ref13_Short]? = some ref13_Short_f := Try.func11
abbrev txn_Put : Nat := 12
noncomputable abbrev txn_Put_f : Func := Try.f12
theorem txn_Put_h : Try.prog.funcs[txn_Put]? = some txn_Put_f := Try.func12
abbrev txn_Read : Nat := 13
noncomputable abbrev txn_Read_f : Func := Try.f13
theorem txn_Read_h : Try.prog.funcs[txn_Read]? = some txn_Read_f := Try.func13
abbrev ref13_Same : Nat := 14
noncomputable abbrev ref13_Same_f : Func := Try.f14
theorem ref13_Same_h : Try.prog.funcs[ref13_Same]? = some ref13_Same_f := Try.func14
abbrev ref02_Same : Nat := 15
noncomputable abbrev ref02_Same_f : Func := Try.f15
theorem ref02_Same_h : Try.prog.funcs[ref02_Same]? = some ref02_Same_f := Try.func15
abbrev txn_Formed : Nat := 16
noncomputable abbrev txn_Formed_f : Func := Try.f16
theorem txn_Formed_h : Try.prog.funcs[txn_Formed]? = some txn_Formed_f := Try.func16
abbrev ref08_Short : Nat := 17
noncomputable abbrev ref08_Short_f : Func := Try.f17
theorem ref08_Short_h : Try.prog.funcs[ref08_Short]? = some ref08_Short_f := Try.func17
abbrev txn_Only : Nat := 18
noncomputable abbrev txn_Only_f : Func := Try.f18
theorem txn_Only_h : Try.prog.funcs[txn_Only]? = some txn_Only_f := Try.func18
abbrev ref13_Copy : Nat := 19
noncomputable abbrev ref13_Copy_f : Func := Try.f19
theorem ref13_Copy_h : Try.prog.funcs[ref13_Copy]? = some ref13_Copy_f := Try.func19
abbrev ref13_Formed : Nat := 20
noncomputable abbrev ref13_Formed_f : Func := Try.f20
theorem ref13_Formed_h : Try.prog.funcs[ref13_Formed]? = some ref13_Formed_f := Try.func20
abbrev ref13_Only : Nat := 21
noncomputable abbrev ref13_Only_f : Func := Try.f21
theorem ref13_Only_h : Try.prog.funcs[ref13_Only]? = some ref13_Only_f := Try.func21
abbrev txn_Dot : Nat := 22
noncomputable abbrev txn_Dot_f : Func := Try.f22
theorem txn_Dot_h : Try.prog.funcs[txn_Dot]? = some txn_Dot_f := Try.func22
abbrev ref02_Copy : Nat := 23
noncomputable abbrev ref02_Copy_f : Func := Try.f23
theorem ref02_Copy_h : Try.prog.funcs[ref02_Copy]? = some ref02_Copy_f := Try.func23
abbrev ref13_Bytes : Nat := 24
noncomputable abbrev ref13_Bytes_f : Func := Try.f24
theorem ref13_Bytes_h : Try.prog.funcs[ref13_Bytes]? = some ref13_Bytes_f := Try.func24
abbrev law10_awake : Nat := 25
noncomputable abbrev law10_awake_f : Func := Try.f25
theorem law10_awake_h : Try.prog.funcs[law10_awake]? = some law10_awake_f := Try.func25
abbrev ref10_Short : Nat := 26
noncomputable abbrev ref10_Short_f : Func := Try.f26
theorem ref10_Short_h : Try.prog.funcs[ref10_Short]? = some ref10_Short_f := Try.func26
abbrev ref09_Short : Nat := 27
noncomputable abbrev ref09_Short_f : Func := Try.f27
theorem ref09_Short_h : Try.prog.funcs[ref09_Short]? = some ref09_Short_f := Try.func27
abbrev eff_Right : Nat := 28
noncomputable abbrev eff_Right_f : Func := Try.f28
theorem eff_Right_h : Try.prog.funcs[eff_Right]? = some eff_Right_f := Try.func28
abbrev law10_names : Nat := 29
noncomputable abbrev law10_names_f : Func := Try.f29
theorem law10_names_h : Try.prog.funcs[law10_names]? = some law10_names_f := Try.func29
abbrev law10_has : Nat := 30
noncomputable abbrev law10_has_f : Func := Try.f30
theorem law10_has_h : Try.prog.funcs[law10_has]? = some law10_has_f := Try.func30
abbrev ref09_Same : Nat := 31
noncomputable abbrev ref09_Same_f : Func := Try.f31
theorem ref09_Same_h : Try.prog.funcs[ref09_Same]? = some ref09_Same_f := Try.func31
abbrev eff_Do : Nat := 32
noncomputable abbrev eff_Do_f : Func := Try.f32
theorem eff_Do_h : Try.prog.funcs[eff_Do]? = some eff_Do_f := Try.func32
abbrev ref09_Norm : Nat := 33
noncomputable abbrev ref09_Norm_f : Func := Try.f33
theorem ref09_Norm_h : Try.prog.funcs[ref09_Norm]? = some ref09_Norm_f := Try.func33
abbrev ref09_Is : Nat := 34
noncomputable abbrev ref09_Is_f : Func := Try.f34
theorem ref09_Is_h : Try.prog.funcs[ref09_Is]? = some ref09_Is_f := Try.func34
abbrev ref09_Under : Nat := 35
noncomputable abbrev ref09_Under_f : Func := Try.f35
theorem ref09_Under_h : Try.prog.funcs[ref09_Under]? = some ref09_Under_f := Try.func35
abbrev eff_Only : Nat := 36
noncomputable abbrev eff_Only_f : Func := Try.f36
theorem eff_Only_h : Try.prog.funcs[eff_Only]? = some eff_Only_f := Try.func36
abbrev slices_Clone_byte_byte : Nat := 37
noncomputable abbrev slices_Clone_byte_byte_f : Func := Try.f37
theorem slices_Clone_byte_byte_h : Try.prog.funcs[slices_Clone_byte_byte]? = some slices_Clone_byte_byte_f := Try.func37
abbrev txn_Put_1 : Nat := 38
noncomputable abbrev txn_Put_1_f : Func := Try.f38
theorem txn_Put_1_h : Try.prog.funcs[txn_Put_1]? = some txn_Put_1_f := Try.func38
abbrev bin_PutNum : Nat := 39
noncomputable abbrev bin_PutNum_f : Func := Try.f39
theorem bin_PutNum_h : Try.prog.funcs[bin_PutNum]? = some bin_PutNum_f := Try.func39
abbrev txn_Put_2 : Nat := 40
noncomputable abbrev txn_Put_2_f : Func := Try.f40
theorem txn_Put_2_h : Try.prog.funcs[txn_Put_2]? = some txn_Put_2_f := Try.func40
abbrev bin_PutText : Nat := 41
noncomputable abbrev bin_PutText_f : Func := Try.f41
theorem bin_PutText_h : Try.prog.funcs[bin_PutText]? = some bin_PutText_f := Try.func41
abbrev bin_PutInt : Nat := 42
noncomputable abbrev bin_PutInt_f : Func := Try.f42
theorem bin_PutInt_h : Try.prog.funcs[bin_PutInt]? = some bin_PutInt_f := Try.func42
abbrev txn_reader_num : Nat := 43
noncomputable abbrev txn_reader_num_f : Func := Try.f43
theorem txn_reader_num_h : Try.prog.funcs[txn_reader_num]? = some txn_reader_num_f := Try.func43
abbrev txn_reader_count : Nat := 44
noncomputable abbrev txn_reader_count_f : Func := Try.f44
theorem txn_reader_count_h : Try.prog.funcs[txn_reader_count]? = some txn_reader_count_f := Try.func44
abbrev txn_reader_eff : Nat := 45
noncomputable abbrev txn_reader_eff_f : Func := Try.f45
theorem txn_reader_eff_h : Try.prog.funcs[txn_reader_eff]? = some txn_reader_eff_f := Try.func45
abbrev ref07_Equal : Nat := 46
noncomputable abbrev ref07_Equal_f : Func := Try.f46
theorem ref07_Equal_h : Try.prog.funcs[ref07_Equal]? = some ref07_Equal_f := Try.func46
abbrev ref10_Same : Nat := 47
noncomputable abbrev ref10_Same_f : Func := Try.f47
theorem ref10_Same_h : Try.prog.funcs[ref10_Same]? = some ref10_Same_f := Try.func47
abbrev slices_Equal_api_Vec_int : Nat := 48
noncomputable abbrev slices_Equal_api_Vec_int_f : Func := Try.f48
theorem slices_Equal_api_Vec_int_h : Try.prog.funcs[slices_Equal_api_Vec_int]? = some slices_Equal_api_Vec_int_f := Try.func48
abbrev vec_Trim : Nat := 49
noncomputable abbrev vec_Trim_f : Func := Try.f49
theorem vec_Trim_h : Try.prog.funcs[vec_Trim]? = some vec_Trim_f := Try.func49
abbrev vec_At : Nat := 50
noncomputable abbrev vec_At_f : Func := Try.f50
theorem vec_At_h : Try.prog.funcs[vec_At]? = some vec_At_f := Try.func50
abbrev slices_ContainsFunc_api_Vec_int : Nat := 51
noncomputable abbrev slices_ContainsFunc_api_Vec_int_f : Func := Try.f51
theorem slices_ContainsFunc_api_Vec_int_h : Try.prog.funcs[slices_ContainsFunc_api_Vec_int]? = some slices_ContainsFunc_api_Vec_int_f := Try.func51
abbrev txn_Formed_1 : Nat := 52
noncomputable abbrev txn_Formed_1_f : Func := Try.f52
theorem txn_Formed_1_h : Try.prog.funcs[txn_Formed_1]? = some txn_Formed_1_f := Try.func52
abbrev eff_Heard : Nat := 53
noncomputable abbrev eff_Heard_f : Func := Try.f53
theorem eff_Heard_h : Try.prog.funcs[eff_Heard]? = some eff_Heard_f := Try.func53
abbrev slices_Clone_api_Vec_int : Nat := 54
noncomputable abbrev slices_Clone_api_Vec_int_f : Func := Try.f54
theorem slices_Clone_api_Vec_int_h : Try.prog.funcs[slices_Clone_api_Vec_int]? = some slices_Clone_api_Vec_int_f := Try.func54
abbrev ref07_Copy : Nat := 55
noncomputable abbrev ref07_Copy_f : Func := Try.f55
theorem ref07_Copy_h : Try.prog.funcs[ref07_Copy]? = some ref07_Copy_f := Try.func55
abbrev ref10_Copy : Nat := 56
noncomputable abbrev ref10_Copy_f : Func := Try.f56
theorem ref10_Copy_h : Try.prog.funcs[ref10_Copy]? = some ref10_Copy_f := Try.func56
abbrev ref07_Trim : Nat := 57
noncomputable abbrev ref07_Trim_f : Func := Try.f57
theorem ref07_Trim_h : Try.prog.funcs[ref07_Trim]? = some ref07_Trim_f := Try.func57
abbrev ref07_At : Nat := 58
noncomputable abbrev ref07_At_f : Func := Try.f58
theorem ref07_At_h : Try.prog.funcs[ref07_At]? = some ref07_At_f := Try.func58
abbrev ref10_Right : Nat := 59
noncomputable abbrev ref10_Right_f : Func := Try.f59
theorem ref10_Right_h : Try.prog.funcs[ref10_Right]? = some ref10_Right_f := Try.func59
abbrev ref10_Heard : Nat := 60
noncomputable abbrev ref10_Heard_f : Func := Try.f60
theorem ref10_Heard_h : Try.prog.funcs[ref10_Heard]? = some ref10_Heard_f := Try.func60
abbrev ref10_Only : Nat := 61
noncomputable abbrev ref10_Only_f : Func := Try.f61
theorem ref10_Only_h : Try.prog.funcs[ref10_Only]? = some ref10_Only_f := Try.func61
abbrev ref13_num : Nat := 62
noncomputable abbrev ref13_num_f : Func := Try.f62
theorem ref13_num_h : Try.prog.funcs[ref13_num]? = some ref13_num_f := Try.func62
abbrev ref13_text : Nat := 63
noncomputable abbrev ref13_text_f : Func := Try.f63
theorem ref13_text_h : Try.prog.funcs[ref13_text]? = some ref13_text_f := Try.func63
abbrev ref03_Int : Nat := 64
noncomputable abbrev ref03_Int_f : Func := Try.f64
theorem ref03_Int_h : Try.prog.funcs[ref03_Int]? = some ref03_Int_f := Try.func64
abbrev eff_Formed : Nat := 65
noncomputable abbrev eff_Formed_f : Func := Try.f65
theorem eff_Formed_h : Try.prog.funcs[eff_Formed]? = some eff_Formed_f := Try.func65
abbrev slices_ContainsFunc_api_Dot_api_Dot : Nat := 66
noncomputable abbrev slices_ContainsFunc_api_Dot_api_Dot_f : Func := Try.f66
theorem slices_ContainsFunc_api_Dot_api_Dot_h : Try.prog.funcs[slices_ContainsFunc_api_Dot_api_Dot]? = some slices_ContainsFunc_api_Dot_api_Dot_f := Try.func66
abbrev eff_Right_1 : Nat := 67
noncomputable abbrev eff_Right_1_f : Func := Try.f67
theorem eff_Right_1_h : Try.prog.funcs[eff_Right_1]? = some eff_Right_1_f := Try.func67
abbrev slices_Clone_api_Item_api_Item : Nat := 68
noncomputable abbrev slices_Clone_api_Item_api_Item_f : Func := Try.f68
theorem slices_Clone_api_Item_api_Item_h : Try.prog.funcs[slices_Clone_api_Item_api_Item]? = some slices_Clone_api_Item_api_Item_f := Try.func68
abbrev item_Without : Nat := 69
noncomputable abbrev item_Without_f : Func := Try.f69
theorem item_Without_h : Try.prog.funcs[item_Without]? = some item_Without_f := Try.func69
abbrev eff_made : Nat := 70
noncomputable abbrev eff_made_f : Func := Try.f70
theorem eff_made_h : Try.prog.funcs[eff_made]? = some eff_made_f := Try.func70
abbrev item_Norm : Nat := 71
noncomputable abbrev item_Norm_f : Func := Try.f71
theorem item_Norm_h : Try.prog.funcs[item_Norm]? = some item_Norm_f := Try.func71
abbrev ref09_Less : Nat := 72
noncomputable abbrev ref09_Less_f : Func := Try.f72
theorem ref09_Less_h : Try.prog.funcs[ref09_Less]? = some ref09_Less_f := Try.func72
abbrev ref09_Put : Nat := 73
noncomputable abbrev ref09_Put_f : Func := Try.f73
theorem ref09_Put_h : Try.prog.funcs[ref09_Put]? = some ref09_Put_f := Try.func73
abbrev ref08_Covers : Nat := 74
noncomputable abbrev ref08_Covers_f : Func := Try.f74
theorem ref08_Covers_h : Try.prog.funcs[ref08_Covers]? = some ref08_Covers_f := Try.func74
abbrev zone_Covers : Nat := 75
noncomputable abbrev zone_Covers_f : Func := Try.f75
theorem zone_Covers_h : Try.prog.funcs[zone_Covers]? = some zone_Covers_f := Try.func75
abbrev slices_Clone_api_Dot_api_Dot : Nat := 76
noncomputable abbrev slices_Clone_api_Dot_api_Dot_f : Func := Try.f76
theorem slices_Clone_api_Dot_api_Dot_h : Try.prog.funcs[slices_Clone_api_Dot_api_Dot]? = some slices_Clone_api_Dot_api_Dot_f := Try.func76
abbrev bin_Num : Nat := 77
noncomputable abbrev bin_Num_f : Func := Try.f77
theorem bin_Num_h : Try.prog.funcs[bin_Num]? = some bin_Num_f := Try.func77
abbrev txn_reader_text : Nat := 78
noncomputable abbrev txn_reader_text_f : Func := Try.f78
theorem txn_reader_text_h : Try.prog.funcs[txn_reader_text]? = some txn_reader_text_f := Try.func78
abbrev txn_reader_int : Nat := 79
noncomputable abbrev txn_reader_int_f : Func := Try.f79
theorem txn_reader_int_h : Try.prog.funcs[txn_reader_int]? = some txn_reader_int_f := Try.func79
abbrev ref10_SameDots : Nat := 80
noncomputable abbrev ref10_SameDots_f : Func := Try.f80
theorem ref10_SameDots_h : Try.prog.funcs[ref10_SameDots]? = some ref10_SameDots_f := Try.func80
abbrev slices_IndexFunc_api_Vec_int : Nat := 81
noncomputable abbrev slices_IndexFunc_api_Vec_int_f : Func := Try.f81
theorem slices_IndexFunc_api_Vec_int_h : Try.prog.funcs[slices_IndexFunc_api_Vec_int]? = some slices_IndexFunc_api_Vec_int_f := Try.func81
abbrev vec_Has : Nat := 82
noncomputable abbrev vec_Has_f : Func := Try.f82
theorem vec_Has_h : Try.prog.funcs[vec_Has]? = some vec_Has_f := Try.func82
abbrev ref10_Formed : Nat := 83
noncomputable abbrev ref10_Formed_f : Func := Try.f83
theorem ref10_Formed_h : Try.prog.funcs[ref10_Formed]? = some ref10_Formed_f := Try.func83
abbrev ref03_Num : Nat := 84
noncomputable abbrev ref03_Num_f : Func := Try.f84
theorem ref03_Num_h : Try.prog.funcs[ref03_Num]? = some ref03_Num_f := Try.func84
abbrev ref03_Text : Nat := 85
noncomputable abbrev ref03_Text_f : Func := Try.f85
theorem ref03_Text_h : Try.prog.funcs[ref03_Text]? = some ref03_Text_f := Try.func85
abbrev eff_dot : Nat := 86
noncomputable abbrev eff_dot_f : Func := Try.f86
theorem eff_dot_h : Try.prog.funcs[eff_dot]? = some eff_dot_f := Try.func86
abbrev eff_order : Nat := 87
noncomputable abbrev eff_order_f : Func := Try.f87
theorem eff_order_h : Try.prog.funcs[eff_order]? = some eff_order_f := Try.func87
abbrev item_Formed : Nat := 88
noncomputable abbrev item_Formed_f : Func := Try.f88
theorem item_Formed_h : Try.prog.funcs[item_Formed]? = some item_Formed_f := Try.func88
abbrev slices_IndexFunc_api_Dot_api_Dot : Nat := 89
noncomputable abbrev slices_IndexFunc_api_Dot_api_Dot_f : Func := Try.f89
theorem slices_IndexFunc_api_Dot_api_Dot_h : Try.prog.funcs[slices_IndexFunc_api_Dot_api_Dot]? = some slices_IndexFunc_api_Dot_api_Dot_f := Try.func89
abbrev slices_DeleteFunc_api_Item_api_Item : Nat := 90
noncomputable abbrev slices_DeleteFunc_api_Item_api_Item_f : Func := Try.f90
theorem slices_DeleteFunc_api_Item_api_Item_h : Try.prog.funcs[slices_DeleteFunc_api_Item_api_Item]? = some slices_DeleteFunc_api_Item_api_Item_f := Try.func90
abbrev item_Without_1 : Nat := 91
noncomputable abbrev item_Without_1_f : Func := Try.f91
theorem item_Without_1_h : Try.prog.funcs[item_Without_1]? = some item_Without_1_f := Try.func91
abbrev slices_Contains_api_Dot_api_Dot : Nat := 92
noncomputable abbrev slices_Contains_api_Dot_api_Dot_f : Func := Try.f92
theorem slices_Contains_api_Dot_api_Dot_h : Try.prog.funcs[slices_Contains_api_Dot_api_Dot]? = some slices_Contains_api_Dot_api_Dot_f := Try.func92
abbrev slices_SortFunc_api_Item_api_Item : Nat := 93
noncomputable abbrev slices_SortFunc_api_Item_api_Item_f : Func := Try.f93
theorem slices_SortFunc_api_Item_api_Item_h : Try.prog.funcs[slices_SortFunc_api_Item_api_Item]? = some slices_SortFunc_api_Item_api_Item_f := Try.func93
abbrev item_compare : Nat := 94
noncomputable abbrev item_compare_f : Func := Try.f94
theorem item_compare_h : Try.prog.funcs[item_compare]? = some item_compare_f := Try.func94
abbrev item_Norm_1 : Nat := 95
noncomputable abbrev item_Norm_1_f : Func := Try.f95
theorem item_Norm_1_h : Try.prog.funcs[item_Norm_1]? = some item_Norm_1_f := Try.func95
abbrev ref08_Begins : Nat := 96
noncomputable abbrev ref08_Begins_f : Func := Try.f96
theorem ref08_Begins_h : Try.prog.funcs[ref08_Begins]? = some ref08_Begins_f := Try.func96
abbrev slices_ContainsFunc_string_string : Nat := 97
noncomputable abbrev slices_ContainsFunc_string_string_f : Func := Try.f97
theorem slices_ContainsFunc_string_string_h : Try.prog.funcs[slices_ContainsFunc_string_string]? = some slices_ContainsFunc_string_string_f := Try.func97
abbrev zone_Covers_1 : Nat := 98
noncomputable abbrev zone_Covers_1_f : Func := Try.f98
theorem zone_Covers_1_h : Try.prog.funcs[zone_Covers_1]? = some zone_Covers_1_f := Try.func98
abbrev strings_HasPrefix : Nat := 99
noncomputable abbrev strings_HasPrefix_f : Func := Try.f99
theorem strings_HasPrefix_h : Try.prog.funcs[strings_HasPrefix]? = some strings_HasPrefix_f := Try.func99
abbrev bin_Text : Nat := 100
noncomputable abbrev bin_Text_f : Func := Try.f100
theorem bin_Text_h : Try.prog.funcs[bin_Text]? = some bin_Text_f := Try.func100
abbrev bin_Int : Nat := 101
noncomputable abbrev bin_Int_f : Func := Try.f101
theorem bin_Int_h : Try.prog.funcs[bin_Int]? = some bin_Int_f := Try.func101
abbrev ref10_may : Nat := 102
noncomputable abbrev ref10_may_f : Func := Try.f102
theorem ref10_may_h : Try.prog.funcs[ref10_may]? = some ref10_may_f := Try.func102
abbrev ref10_Ahead : Nat := 103
noncomputable abbrev ref10_Ahead_f : Func := Try.f103
theorem ref10_Ahead_h : Try.prog.funcs[ref10_Ahead]? = some ref10_Ahead_f := Try.func103
abbrev ref09_Formed : Nat := 104
noncomputable abbrev ref09_Formed_f : Func := Try.f104
theorem ref09_Formed_h : Try.prog.funcs[ref09_Formed]? = some ref09_Formed_f := Try.func104
abbrev ref10_Made : Nat := 105
noncomputable abbrev ref10_Made_f : Func := Try.f105
theorem ref10_Made_h : Try.prog.funcs[ref10_Made]? = some ref10_Made_f := Try.func105
abbrev ref08_Key : Nat := 106
noncomputable abbrev ref08_Key_f : Func := Try.f106
theorem ref08_Key_h : Try.prog.funcs[ref08_Key]? = some ref08_Key_f := Try.func106
abbrev ref08_Prefix : Nat := 107
noncomputable abbrev ref08_Prefix_f : Func := Try.f107
theorem ref08_Prefix_h : Try.prog.funcs[ref08_Prefix]? = some ref08_Prefix_f := Try.func107
abbrev cmp_Or_int : Nat := 108
noncomputable abbrev cmp_Or_int_f : Func := Try.f108
theorem cmp_Or_int_h : Try.prog.funcs[cmp_Or_int]? = some cmp_Or_int_f := Try.func108
abbrev cmp_Compare_int : Nat := 109
noncomputable abbrev cmp_Compare_int_f : Func := Try.f109
theorem cmp_Compare_int_h : Try.prog.funcs[cmp_Compare_int]? = some cmp_Compare_int_f := Try.func109
abbrev zone_Key : Nat := 110
noncomputable abbrev zone_Key_f : Func := Try.f110
theorem zone_Key_h : Try.prog.funcs[zone_Key]? = some zone_Key_f := Try.func110
abbrev slices_IndexFunc_api_Item_api_Item : Nat := 111
noncomputable abbrev slices_IndexFunc_api_Item_api_Item_f : Func := Try.f111
theorem slices_IndexFunc_api_Item_api_Item_h : Try.prog.funcs[slices_IndexFunc_api_Item_api_Item]? = some slices_IndexFunc_api_Item_api_Item_f := Try.func111
abbrev slices_Index_api_Dot_api_Dot : Nat := 112
noncomputable abbrev slices_Index_api_Dot_api_Dot_f : Func := Try.f112
theorem slices_Index_api_Dot_api_Dot_h : Try.prog.funcs[slices_Index_api_Dot_api_Dot]? = some slices_Index_api_Dot_api_Dot_f := Try.func112
abbrev slices_pdqsortCmpFunc_api_Item : Nat := 113
noncomputable abbrev slices_pdqsortCmpFunc_api_Item_f : Func := Try.f113
theorem slices_pdqsortCmpFunc_api_Item_h : Try.prog.funcs[slices_pdqsortCmpFunc_api_Item]? = some slices_pdqsortCmpFunc_api_Item_f := Try.func113
abbrev math_bits_Len : Nat := 114
noncomputable abbrev math_bits_Len_f : Func := Try.f114
theorem math_bits_Len_h : Try.prog.funcs[math_bits_Len]? = some math_bits_Len_f := Try.func114
abbrev cmp_Compare_string : Nat := 115
noncomputable abbrev cmp_Compare_string_f : Func := Try.f115
theorem cmp_Compare_string_h : Try.prog.funcs[cmp_Compare_string]? = some cmp_Compare_string_f := Try.func115
abbrev cmp_Compare_int64 : Nat := 116
noncomputable abbrev cmp_Compare_int64_f : Func := Try.f116
theorem cmp_Compare_int64_h : Try.prog.funcs[cmp_Compare_int64]? = some cmp_Compare_int64_f := Try.func116
abbrev slices_IndexFunc_string_string : Nat := 117
noncomputable abbrev slices_IndexFunc_string_string_f : Func := Try.f117
theorem slices_IndexFunc_string_string_h : Try.prog.funcs[slices_IndexFunc_string_string]? = some slices_IndexFunc_string_string_f := Try.func117
abbrev internal_stringslite_HasPrefix : Nat := 118
noncomputable abbrev internal_stringslite_HasPrefix_f : Func := Try.f118
theorem internal_stringslite_HasPrefix_h : Try.prog.funcs[internal_stringslite_HasPrefix]? = some internal_stringslite_HasPrefix_f := Try.func118
abbrev cmp_isNaN_int : Nat := 119
noncomputable abbrev cmp_isNaN_int_f : Func := Try.f119
theorem cmp_isNaN_int_h : Try.prog.funcs[cmp_isNaN_int]? = some cmp_isNaN_int_f := Try.func119
abbrev zone_prefix : Nat := 120
noncomputable abbrev zone_prefix_f : Func := Try.f120
theorem zone_prefix_h : Try.prog.funcs[zone_prefix]? = some zone_prefix_f := Try.func120
abbrev slices_insertionSortCmpFunc_api_Item : Nat := 121
noncomputable abbrev slices_insertionSortCmpFunc_api_Item_f : Func := Try.f121
theorem slices_insertionSortCmpFunc_api_Item_h : Try.prog.funcs[slices_insertionSortCmpFunc_api_Item]? = some slices_insertionSortCmpFunc_api_Item_f := Try.func121
abbrev slices_heapSortCmpFunc_api_Item : Nat := 122
noncomputable abbrev slices_heapSortCmpFunc_api_Item_f : Func := Try.f122
theorem slices_heapSortCmpFunc_api_Item_h : Try.prog.funcs[slices_heapSortCmpFunc_api_Item]? = some slices_heapSortCmpFunc_api_Item_f := Try.func122
abbrev slices_breakPatternsCmpFunc_api_Item : Nat := 123
noncomputable abbrev slices_breakPatternsCmpFunc_api_Item_f : Func := Try.f123
theorem slices_breakPatternsCmpFunc_api_Item_h : Try.prog.funcs[slices_breakPatternsCmpFunc_api_Item]? = some slices_breakPatternsCmpFunc_api_Item_f := Try.func123
abbrev slices_choosePivotCmpFunc_api_Item : Nat := 124
noncomputable abbrev slices_choosePivotCmpFunc_api_Item_f : Func := Try.f124
theorem slices_choosePivotCmpFunc_api_Item_h : Try.prog.funcs[slices_choosePivotCmpFunc_api_Item]? = some slices_choosePivotCmpFunc_api_Item_f := Try.func124
abbrev slices_reverseRangeCmpFunc_api_Item : Nat := 125
noncomputable abbrev slices_reverseRangeCmpFunc_api_Item_f : Func := Try.f125
theorem slices_reverseRangeCmpFunc_api_Item_h : Try.prog.funcs[slices_reverseRangeCmpFunc_api_Item]? = some slices_reverseRangeCmpFunc_api_Item_f := Try.func125
abbrev slices_partialInsertionSortCmpFunc_api_Item : Nat := 126
noncomputable abbrev slices_partialInsertionSortCmpFunc_api_Item_f : Func := Try.f126
theorem slices_partialInsertionSortCmpFunc_api_Item_h : Try.prog.funcs[slices_partialInsertionSortCmpFunc_api_Item]? = some slices_partialInsertionSortCmpFunc_api_Item_f := Try.func126
abbrev slices_partitionEqualCmpFunc_api_Item : Nat := 127
noncomputable abbrev slices_partitionEqualCmpFunc_api_Item_f : Func := Try.f127
theorem slices_partitionEqualCmpFunc_api_Item_h : Try.prog.funcs[slices_partitionEqualCmpFunc_api_Item]? = some slices_partitionEqualCmpFunc_api_Item_f := Try.func127
abbrev slices_partitionCmpFunc_api_Item : Nat := 128
noncomputable abbrev slices_partitionCmpFunc_api_Item_f : Func := Try.f128
theorem slices_partitionCmpFunc_api_Item_h : Try.prog.funcs[slices_partitionCmpFunc_api_Item]? = some slices_partitionCmpFunc_api_Item_f := Try.func128
abbrev math_bits_Len32 : Nat := 129
noncomputable abbrev math_bits_Len32_f : Func := Try.f129
theorem math_bits_Len32_h : Try.prog.funcs[math_bits_Len32]? = some math_bits_Len32_f := Try.func129
abbrev math_bits_Len64 : Nat := 130
noncomputable abbrev math_bits_Len64_f : Func := Try.f130
theorem math_bits_Len64_h : Try.prog.funcs[math_bits_Len64]? = some math_bits_Len64_f := Try.func130
abbrev cmp_isNaN_string : Nat := 131
noncomputable abbrev cmp_isNaN_string_f : Func := Try.f131
theorem cmp_isNaN_string_h : Try.prog.funcs[cmp_isNaN_string]? = some cmp_isNaN_string_f := Try.func131
abbrev cmp_isNaN_int64 : Nat := 132
noncomputable abbrev cmp_isNaN_int64_f : Func := Try.f132
theorem cmp_isNaN_int64_h : Try.prog.funcs[cmp_isNaN_int64]? = some cmp_isNaN_int64_f := Try.func132
abbrev slices_siftDownCmpFunc_api_Item : Nat := 133
noncomputable abbrev slices_siftDownCmpFunc_api_Item_f : Func := Try.f133
theorem slices_siftDownCmpFunc_api_Item_h : Try.prog.funcs[slices_siftDownCmpFunc_api_Item]? = some slices_siftDownCmpFunc_api_Item_f := Try.func133
abbrev slices_nextPowerOfTwo : Nat := 134
noncomputable abbrev slices_nextPowerOfTwo_f : Func := Try.f134
theorem slices_nextPowerOfTwo_h : Try.prog.funcs[slices_nextPowerOfTwo]? = some slices_nextPowerOfTwo_f := Try.func134
abbrev slices_medianAdjacentCmpFunc_api_Item : Nat := 136
noncomputable abbrev slices_medianAdjacentCmpFunc_api_Item_f : Func := Try.f136
theorem slices_medianAdjacentCmpFunc_api_Item_h : Try.prog.funcs[slices_medianAdjacentCmpFunc_api_Item]? = some slices_medianAdjacentCmpFunc_api_Item_f := Try.func136
abbrev slices_medianCmpFunc_api_Item : Nat := 137
noncomputable abbrev slices_medianCmpFunc_api_Item_f : Func := Try.f137
theorem slices_medianCmpFunc_api_Item_h : Try.prog.funcs[slices_medianCmpFunc_api_Item]? = some slices_medianCmpFunc_api_Item_f := Try.func137
abbrev slices_order2CmpFunc_api_Item : Nat := 138
noncomputable abbrev slices_order2CmpFunc_api_Item_f : Func := Try.f138
theorem slices_order2CmpFunc_api_Item_h : Try.prog.funcs[slices_order2CmpFunc_api_Item]? = some slices_order2CmpFunc_api_Item_f := Try.func138
end Go.Bv.Nm
namespace Go.Bv
open Go Go.Proofs

theorem mixed : Try.prog.follows .mixedOrders = true := by kernel_rfl
end Go.Bv
namespace Go.Bv
open Go

def ints (l : List Int) : AV := .list .leaf (l.map i64)

/-- What a vector says of a node. -/
def vat (v : List Int) (i : Nat) : Int := max (v.getD i 0) 0
/-- What a vector says of a node that may be any number. -/
def vatI (v : List Int) (i : Int) : Int := if i < 0 then 0 else vat v i.toNat
def trim : List Int → List Int
  | [] => []
  | x :: r => match trim r with
    | [] => if x ≤ 0 then [] else [x]
    | y :: t => max x 0 :: y :: t

theorem vat_nil (i : Nat) : vat [] i = 0 := by simp [vat]
theorem vat_zero (x : Int) (r : List Int) : vat (x :: r) 0 = max x 0 := by simp [vat]
theorem vat_succ (x : Int) (r : List Int) (i : Nat) : vat (x :: r) (i + 1) = vat r i := by simp [vat]
theorem vat_nonneg (v : List Int) (i : Nat) : 0 ≤ vat v i := by unfold vat; omega
theorem vat_out {v : List Int} {i : Nat} (h : v.length ≤ i) : vat v i = 0 := by simp [vat, List.getD_eq_getElem?_getD, List.getElem?_eq_none h]
theorem vat_in {v : List Int} {i : Nat} (h : i < v.length) : vat v i = max v[i] 0 := by simp [vat, List.getD_eq_getElem?_getD, List.getElem?_eq_getElem h]

theorem vat_trim : ∀ (v : List Int) (i : Nat), vat (trim v) i = vat v i
  | [], i => rfl
  | x :: r, i => by
    have ih := vat_trim r
    rw [trim]
    split
    · rename_i h
      rw [h] at ih
      split
      · rename_i hx
        cases i with
        | zero => rw [vat_nil, vat_zero]; omega
        | succ i => rw [vat_nil, vat_succ, ← ih i, vat_nil]
      · cases i with
        | zero => rw [vat_zero, vat_zero]
        | succ i => rw [vat_succ, vat_succ, ih i]
    · rename_i y t h
      rw [h] at ih
      cases i with
      | zero => rw [vat_zero, vat_zero]; omega
      | succ i => rw [vat_succ, vat_succ, ih i]

theorem trim_ext : ∀ (a b : List Int), (∀ i, vat a i = vat b i) → trim a = trim b
  | [], [], _ => rfl
  | [], y :: q, h => by
    have h0 := h 0
    rw [vat_nil, vat_zero] at h0
    have ih := trim_ext [] q fun i => by have := h (i + 1); rwa [vat_nil, vat_succ] at this
    rw [trim, trim, ← ih, trim]
    simp only
    rw [if_pos (by omega)]
  | x :: r, [], h => by
    have h0 := h 0
    rw [vat_nil, vat_zero] at h0
    have ih : trim r = [] := trim_ext r [] fun i => by have := h (i + 1); rwa [vat_nil, vat_succ] at this
    simp only [trim, ih, if_pos (show x ≤ 0 by omega)]
  | x :: r, y :: q, h => by
    have h0 := h 0
    rw [vat_zero, vat_zero] at h0
    have ih := trim_ext r q fun i => by have := h (i + 1); rwa [vat_succ, vat_succ] at this
    rw [trim, trim, ih]
    cases trim q with
    | nil => simp only; split <;> split <;> first | rfl | omega | (congr 1; omega)
    | cons z t => simp only [h0]

theorem trim_trim (v : List Int) : trim (trim v) = trim v := trim_ext _ _ (vat_trim v)
theorem trim_len : ∀ v : List Int, (trim v).length ≤ v.length
  | [] => Nat.le_refl _
  | x :: r => by
    have ih := trim_len r
    rw [trim]
    split
    · split <;> simp
    · rename_i y t h
      rw [h] at ih
      simp only [List.length_cons] at ih ⊢; omega

theorem vat_snoc (w : List Int) (x : Int) (i : Nat) : vat (w ++ [x]) i = if i = w.length then max x 0 else vat w i := by
  rcases Nat.lt_trichotomy i w.length with h | h | h
  · rw [if_neg (by omega), vat_in (by simp; omega), vat_in h, List.getElem_append_left h]
  · subst h; rw [if_pos rfl, vat_in (by simp)]; simp
  · rw [if_neg (by omega), vat_out (by simp; omega), vat_out (by omega)]
theorem trim_snoc_np (w : List Int) {x : Int} (h : x ≤ 0) : trim (w ++ [x]) = trim w := trim_ext _ _ fun i => by
  rw [vat_snoc]
  split
  · rename_i hi; rw [hi, vat_out (Nat.le_refl _)]; omega
  · rfl
theorem trim_snoc_pos : ∀ (w : List Int) {x : Int}, 0 < x → trim (w ++ [x]) = (w ++ [x]).map (max · 0)
  | [], x, h => by
    show (if x ≤ 0 then [] else [x]) = [max x 0]
    rw [if_neg (by omega), show max x 0 = x by omega]
  | y :: w, x, h => by
    have ih := trim_snoc_pos w h
    have hne : (w ++ [x]).map (max · 0) ≠ [] := by simp
    show (match trim (w ++ [x]) with | [] => if y ≤ 0 then [] else [y] | z :: t => max y 0 :: z :: t) = _
    rw [ih]
    cases hq : (w ++ [x]).map (max · 0) with
    | nil => exact absurd hq hne
    | cons z t => simp only [List.cons_append, List.map_cons, hq]

/-- The first i numbers at least 0. -/
def mx (w : List Int) (i : Nat) : List Int := (w.take i).map (max · 0) ++ w.drop i
theorem mx_len (w : List Int) (i : Nat) : (mx w i).length = w.length := by simp [mx]; omega
theorem mx_get (w : List Int) (i j : Nat) : (mx w i)[j]? = if j < i then (w[j]?).map (max · 0) else w[j]? := by
  unfold mx
  rcases Nat.lt_or_ge j (w.take i).length with h | h
  · rw [List.getElem?_append_left (by simpa using h), List.getElem?_map, List.getElem?_take]
    have : j < i := by simp at h; omega
    simp [this]
  · rw [List.getElem?_append_right (by simpa using h), List.length_map, List.getElem?_drop]
    simp only [List.length_take] at h ⊢
    split
    · rw [List.getElem?_eq_none (by omega), List.getElem?_eq_none (by omega)]; rfl
    · rw [show i + (j - min i w.length) = if i ≤ w.length then j else i + (j - w.length) by split <;> omega]
      split
      · rfl
      · rw [List.getElem?_eq_none (by omega), List.getElem?_eq_none (by omega)]
theorem mx_at {w : List Int} {i : Nat} (h : i < w.length) : (mx w i)[i]'(by rw [mx_len]; exact h) = w[i] := by
  have := mx_get w i i
  rw [if_neg (by omega), List.getElem?_eq_getElem h, List.getElem?_eq_getElem (by rw [mx_len]; exact h)] at this
  exact Option.some.inj this
theorem mx_set {w : List Int} {i : Nat} (h : i < w.length) : (mx w i).set i (max w[i] 0) = mx w (i + 1) := by
  apply List.ext_getElem?
  intro j
  rw [List.getElem?_set, mx_get, mx_get, mx_len]
  by_cases hij : i = j
  · subst hij
    simp [h]
  · rw [if_neg hij]
    by_cases hj : j < i
    · rw [if_pos hj, if_pos (by omega)]
    · rw [if_neg hj, if_neg (by omega)]
theorem mx_zero (w : List Int) : mx w 0 = w := by simp [mx]
theorem mx_full (w : List Int) : mx w w.length = w.map (max · 0) := by simp [mx]

/-- Two vectors, number by number. -/
def both (f : Int → Int → Int) (a b : List Int) : List Int := (List.range (max a.length b.length)).map fun i => f (vat a i) (vat b i)
theorem vat_both {f : Int → Int → Int} (h0 : f 0 0 = 0) (hf : ∀ x y, 0 ≤ x → 0 ≤ y → 0 ≤ f x y) (a b : List Int) (i : Nat) : vat (both f a b) i = f (vat a i) (vat b i) := by
  unfold both
  rcases Nat.lt_or_ge i (max a.length b.length) with h | h
  · rw [vat_in (by simpa using h)]
    simp only [List.getElem_map, List.getElem_range]
    have := hf _ _ (vat_nonneg a i) (vat_nonneg b i)
    omega
  · rw [vat_out (by simpa using h), vat_out (by omega), vat_out (by omega), h0]
def join (a b : List Int) : List Int := trim (both max a b)
def meet (a b : List Int) : List Int := trim (both min a b)
theorem vat_join (a b : List Int) (i : Nat) : vat (join a b) i = max (vat a i) (vat b i) := by
  unfold join
  rw [vat_trim, vat_both (by decide) (by intro x y _ _; omega)]
theorem vat_meet (a b : List Int) (i : Nat) : vat (meet a b) i = min (vat a i) (vat b i) := by
  unfold meet
  rw [vat_trim, vat_both (by decide) (by intro x y _ _; omega)]
theorem both_len (f : Int → Int → Int) (a b : List Int) : (both f a b).length = max a.length b.length := by simp [both]
theorem join_len (a b : List Int) : (join a b).length ≤ max a.length b.length := by
  have := trim_len (both max a b); rw [both_len] at this; exact this
theorem meet_len (a b : List Int) : (meet a b).length ≤ max a.length b.length := by
  have := trim_len (both min a b); rw [both_len] at this; exact this
theorem vjoin_ext {a b c : List Int} (h : ∀ i, max (vat a i) (vat b i) = vat c i) : join a b = trim c := by
  unfold join
  exact trim_ext _ _ fun i => by rw [vat_both (by decide) (by intro x y _ _; omega)]; exact h i
theorem vmeet_ext {a b c : List Int} (h : ∀ i, min (vat a i) (vat b i) = vat c i) : meet a b = trim c := by
  unfold meet
  exact trim_ext _ _ fun i => by rw [vat_both (by decide) (by intro x y _ _; omega)]; exact h i
/-- Is a vector within another one? -/
def vwithin (a b : List Int) : Bool := (List.range a.length).all fun i => decide (vat a i ≤ vat b i)
theorem vwithin_iff (a b : List Int) : vwithin a b = true ↔ ∀ i, vat a i ≤ vat b i := by
  unfold vwithin
  simp only [List.all_eq_true, List.mem_range, decide_eq_true_eq]
  refine ⟨fun h i => ?_, fun h i _ => h i⟩
  rcases Nat.lt_or_ge i a.length with hi | hi
  · exact h i hi
  · rw [vat_out hi]; exact vat_nonneg b i
/-- A vector with a number for a node. -/
def vset (v : List Int) (node : Nat) (n : Int) : List Int := (v ++ List.replicate (node + 1 - v.length) 0).set node n
theorem vat_vset (v : List Int) (node : Nat) (n : Int) (hn : 0 ≤ n) (i : Nat) : vat (vset v node n) i = if i = node then n else vat v i := by
  unfold vset
  by_cases h : i = node
  · subst h
    rw [if_pos rfl, vat_in (by simp; omega), List.getElem_set_self]; omega
  · rw [if_neg h]
    unfold vat
    congr 1
    rw [List.getD_eq_getElem?_getD, List.getElem?_set_ne (fun e => h e.symm), List.getD_eq_getElem?_getD]
    rcases Nat.lt_or_ge i v.length with hi | hi
    · rw [List.getElem?_append_left hi]
    · rw [List.getElem?_append_right hi, List.getElem?_eq_none hi, List.getElem?_replicate]
      split <;> rfl
/-- The first i numbers of two vectors, laid together; noughts behind. -/
def bs (f : Int → Int → Int) (a b : List Int) (i : Nat) : List Int := ((List.range i).map fun k => f (vat a k) (vat b k)) ++ List.replicate (max a.length b.length - i) 0
theorem bs_len {f : Int → Int → Int} {a b : List Int} {i : Nat} (h : i ≤ max a.length b.length) : (bs f a b i).length = max a.length b.length := by simp [bs]; omega
theorem bs_set {f : Int → Int → Int} {a b : List Int} {i : Nat} (h : i < max a.length b.length) : (bs f a b i).set i (f (vat a i) (vat b i)) = bs f a b (i + 1) := by
  unfold bs
  rw [List.set_append_right _ _ (by simp), List.length_map, List.length_range, Nat.sub_self, List.range_succ, List.map_append, List.append_assoc]
  congr 1
  rw [show max a.length b.length - i = (max a.length b.length - (i + 1)) + 1 by omega, List.replicate_succ]
  rfl
theorem bs_full (f : Int → Int → Int) (a b : List Int) : bs f a b (max a.length b.length) = both f a b := by simp [bs, both]
theorem bs_zero (f : Int → Int → Int) (a b : List Int) : bs f a b 0 = List.replicate (max a.length b.length) 0 := by simp [bs]
/-- The numbers of a function of the place. -/
def tab0 (g : Nat → Int) (n : Nat) : List Int := (List.range n).map g
theorem tab0_succ (g : Nat → Int) (n : Nat) : tab0 g (n + 1) = tab0 g n ++ [g n] := by simp [tab0, List.range_succ]
theorem tab0_len (g : Nat → Int) (n : Nat) : (tab0 g n).length = n := by simp [tab0]
theorem vat_tab0 (g : Nat → Int) (n i : Nat) : vat (tab0 g n) i = if i < n then max (g i) 0 else 0 := by
  rcases Nat.lt_or_ge i n with h | h
  · rw [if_pos h, vat_in (by rw [tab0_len]; exact h)]; simp [tab0]
  · rw [if_neg (by omega), vat_out (by rw [tab0_len]; exact h)]
theorem trim_range {v : List Int} {n : Nat} (h : ∀ i, n ≤ i → vat v i = 0) (hl : n = 0 ∨ 0 < vat v (n - 1)) : trim v = tab0 (vat v) n := by
  have e : trim v = trim (tab0 (vat v) n) := trim_ext _ _ fun i => by
    rw [vat_tab0]
    have := vat_nonneg v i
    split
    · omega
    · exact h i (by omega)
  rw [e]
  rcases hl with rfl | hl
  · rfl
  · cases n with
    | zero => rfl
    | succ k =>
      rw [tab0_succ, trim_snoc_pos _ (by simpa using hl), ← tab0_succ]
      have : ∀ x ∈ tab0 (vat v) (k + 1), max x 0 = x := fun x hx => by
        obtain ⟨i, _, rfl⟩ := List.mem_map.1 hx
        have := vat_nonneg v i; omega
      exact (List.map_congr_left this).trans (List.map_id' _)
theorem vatI_nat (v : List Int) (i : Nat) : vatI v i = vat v i := by unfold vatI; rw [if_neg (by omega), Int.toNat_natCast]
end Go.Bv
namespace Go.Bv
open Go Go.Proofs

-- Go's structs, as Lean's; their cells; the sizes that an argument may have
def okInt (z : Int) : Prop := -9223372036854775808 ≤ z ∧ z < 9223372036854775808
@[ext] structure Dot where
  node : Int
  seq : Int
  at' : Int
  deriving DecidableEq
@[ext] structure Item where
  key : List UInt8
  field : List UInt8
  kind : Int
  elem : List UInt8
  n : Int
  dot : Dot
  deriving DecidableEq
@[ext] structure Eff where
  at' : Int
  key : List UInt8
  field : List UInt8
  kind : Int
  elem : List UInt8
  n : Int
  drops : List Dot
  deriving DecidableEq
@[ext] structure Txn where
  node : Int
  seq : Int
  deps : List Int
  effs : List Eff
  deriving DecidableEq
@[ext] structure Store where
  heard : List Int
  items : List Item
  deriving DecidableEq
@[ext] structure Past where
  floor : List Int
  list : List Txn
  deriving DecidableEq
@[ext] structure Queue where
  most : Int
  list : List Txn
  deriving DecidableEq
@[ext] structure Packet where
  src : Int
  dst : Int
  bytes : List UInt8
  deriving DecidableEq
@[ext] structure Net where
  way : List Packet
  deriving DecidableEq
structure NetOp where
  do' : Int
  src : Int
  dst : Int
  i : Int
  b : List UInt8
structure JOp where
  do' : Int
  keep : Int
  b : List UInt8
structure QOp where
  hears : Bool
  n : Int
  t : Txn

def dotC (x : Dot) : List AV := [i64 x.node, i64 x.seq, i64 x.at']
def dotA (x : Dot) : AV := .agg (dotC x)
def itemC (x : Item) : List AV := [.str x.key, .str x.field, i64 x.kind, .str x.elem, i64 x.n, i64 x.dot.node, i64 x.dot.seq, i64 x.dot.at']
def itemA (x : Item) : AV := .agg (itemC x)
def dotsA (l : List Dot) : AV := .list (.agg 3) (l.map dotA)
def itemsA (l : List Item) : AV := .list (.agg 8) (l.map itemA)
def effC (x : Eff) : List AV := [i64 x.at', .str x.key, .str x.field, i64 x.kind, .str x.elem, i64 x.n, dotsA x.drops]
def effA (x : Eff) : AV := .agg (effC x)
def effsA (l : List Eff) : AV := .list (.agg 7) (l.map effA)
def txnC (x : Txn) : List AV := [i64 x.node, i64 x.seq, ints x.deps, effsA x.effs]
def txnA (x : Txn) : AV := .agg (txnC x)
def txnsA (l : List Txn) : AV := .list (.agg 4) (l.map txnA)
def storeC (x : Store) : List AV := [ints x.heard, itemsA x.items]
def storeA (x : Store) : AV := .agg (storeC x)
def pastC (x : Past) : List AV := [ints x.floor, txnsA x.list]
def pastA (x : Past) : AV := .agg (pastC x)
def queueC (x : Queue) : List AV := [i64 x.most, txnsA x.list]
def queueA (x : Queue) : AV := .agg (queueC x)
def packetC (x : Packet) : List AV := [i64 x.src, i64 x.dst, bytes x.bytes]
def packetA (x : Packet) : AV := .agg (packetC x)
def packetsA (l : List Packet) : AV := .list (.agg 3) (l.map packetA)
def netC (x : Net) : List AV := [packetsA x.way]
def netA (x : Net) : AV := .agg (netC x)
def netOpC (x : NetOp) : List AV := [i64 x.do', i64 x.src, i64 x.dst, i64 x.i, bytes x.b]
def netOpA (x : NetOp) : AV := .agg (netOpC x)
def jopC (x : JOp) : List AV := [i64 x.do', i64 x.keep, bytes x.b]
def jopA (x : JOp) : AV := .agg (jopC x)
def qopC (x : QOp) : List AV := [.bool x.hears, i64 x.n, i64 x.t.node, i64 x.t.seq, ints x.t.deps, effsA x.t.effs]
def qopA (x : QOp) : AV := .agg (qopC x)

def okDot (x : Dot) : Prop := okInt x.node ∧ okInt x.seq ∧ okInt x.at'
def okItem (x : Item) : Prop := x.key.length ≤ reachBytes ∧ x.field.length ≤ reachBytes ∧ okInt x.kind ∧ x.elem.length ≤ reachBytes ∧ okInt x.n ∧ okDot x.dot
def okEff (x : Eff) : Prop := okInt x.at' ∧ x.key.length ≤ reachBytes ∧ x.field.length ≤ reachBytes ∧ okInt x.kind ∧ x.elem.length ≤ reachBytes ∧ okInt x.n ∧ (x.drops.length ≤ reachBytes ∧ ∀ y ∈ x.drops, okDot y)
def okTxn (x : Txn) : Prop := okInt x.node ∧ okInt x.seq ∧ (x.deps.length ≤ reachBytes ∧ ∀ y ∈ x.deps, okInt y) ∧ (x.effs.length ≤ reachBytes ∧ ∀ y ∈ x.effs, okEff y)
def okStore (x : Store) : Prop := (x.heard.length ≤ reachBytes ∧ ∀ y ∈ x.heard, okInt y) ∧ (x.items.length ≤ reachBytes ∧ ∀ y ∈ x.items, okItem y)
def okPast (x : Past) : Prop := (x.floor.length ≤ reachBytes ∧ ∀ y ∈ x.floor, okInt y) ∧ (x.list.length ≤ reachBytes ∧ ∀ y ∈ x.list, okTxn y)
def okQueue (x : Queue) : Prop := okInt x.most ∧ (x.list.length ≤ reachBytes ∧ ∀ y ∈ x.list, okTxn y)
def okPacket (x : Packet) : Prop := okInt x.src ∧ okInt x.dst ∧ x.bytes.length ≤ reachBytes
def okNet (x : Net) : Prop := x.way.length ≤ reachBytes ∧ ∀ y ∈ x.way, okPacket y
def okNetOp (x : NetOp) : Prop := okInt x.do' ∧ okInt x.src ∧ okInt x.dst ∧ okInt x.i ∧ x.b.length ≤ reachBytes
def okJOp (x : JOp) : Prop := okInt x.do' ∧ okInt x.keep ∧ x.b.length ≤ reachBytes
def okQOp (x : QOp) : Prop := True ∧ okInt x.n ∧ okTxn x.t

theorem snocMap {α β : Type} (f : α → β) (l : List α) {i : Nat} (h : i < l.length) : (l.take (i + 1)).map f = (l.take i).map f ++ [f l[i]] := by
  rw [List.take_succ_eq_append_getElem h, List.map_append]; rfl
theorem drop_more {xs l : List AV} {o n : Nat} (h : (xs.drop o).take n = l) (hn : l.length = n) : xs.drop o = l ++ xs.drop (o + n) := by
  conv => lhs; rw [← List.take_append_drop n (xs.drop o), h, List.drop_drop]
theorem drop_all' {xs : List AV} {n : Nat} (h : xs.length = n) : xs.drop n = [] := List.drop_eq_nil_of_le (by omega)
theorem ty_boolT {P : Program} {n : Nat} {t : TypeId} {xs : List AV} (h : TyC P n t xs) (ht : P.underlying t = some .bool) : ∃ b, xs = [.bool b] ∧ True := by
  obtain ⟨b, hb⟩ := ty_bool h ht; exact ⟨b, hb, trivial⟩
theorem ty_u8T {P : Program} {n : Nat} {t : TypeId} {xs : List AV} (h : TyC P n t xs) (ht : P.underlying t = some (.int .u8)) : ∃ b, xs = [u8 b] ∧ True := by
  obtain ⟨b, hb⟩ := ty_u8 h ht; exact ⟨b, hb, trivial⟩
end Go.Bv
namespace Go.Bv
set_option linter.unusedSimpArgs false
set_option linter.unusedVariables false
set_option maxHeartbeats 4000000
open Go Go.Proofs

/-- slices.Clone of a vector. -/
theorem cloneV_walk (l : List Int) (hl : l.length ≤ 2 ^ 40) : ACalls Try.prog Nm.slices_Clone_api_Vec_int [ints l] [] (.own 0 0 l.length) [.row .vrow .leaf (l.map i64)] := by
  refine ACalls_of tab noDr_snd Nm.slices_Clone_api_Vec_int_h rfl (by kernel_rfl) (Nat.le_of_ble_eq_true rfl) rfl ?_
  refine NN.mk (fun h => ?_) ?_
  · have : l = [] := by simpa using h
    subst this
    exact NRet.ad [(2, .leaf)] [0] rfl ⟨.refl _, rfl⟩
  · refine NFz.own ?_
    refine NApp.endA rfl (by simp; omega) ?_
    refine NRet.mk [1] rfl ⟨?_, rfl⟩
    show LeA (.own 0 0 (l.map i64).length) _
    rw [List.length_map]; exact .refl _

theorem vecAt_walk (v : List Int) (n : Int) (hl : v.length ≤ 2 ^ 40) : ACalls Try.prog Nm.vec_At [ints v, i64 n] [] (i64 (vatI v n)) [] := by
  refine ACalls_of tab (dr_snd tab mixed) Nm.vec_At_h rfl (by kernel_rfl) (Nat.le_of_ble_eq_true rfl) rfl ?_
  unfold vatI
  by_cases h0 : n < 0
  · rw [if_pos h0]
    refine ND.yes (by omega) ?_
    exact NRet.mk [] rfl ⟨.refl _, rfl⟩
  · rw [if_neg h0]
    obtain ⟨j, rfl⟩ : ∃ j : Nat, n = j := ⟨n.toNat, by omega⟩
    rw [Int.toNat_natCast]
    by_cases h1 : j < v.length
    · rw [vat_in h1]
      refine ND.no (by omega) ?_
      refine ND.no (by (simp only [List.length_map, List.length_append, List.length_replicate, List.length_cons, List.length_nil, List.length_take, List.length_drop]; omega)) ?_
      refine NP.mk (by omega) ?_
      refine NG.mapN (by omega) ?_
      exact NRet.mk [] rfl ⟨.refl _, rfl⟩
    · rw [vat_out (by omega)]
      refine ND.no (by omega) ?_
      refine ND.yes (by (simp only [List.length_map, List.length_append, List.length_replicate, List.length_cons, List.length_nil, List.length_take, List.length_drop]; omega)) ?_
      exact NRet.mk [] rfl ⟨.refl _, rfl⟩

theorem vecTrim_walk (v : List Int) (hl : v.length ≤ 2 ^ 40) : ACalls Try.prog Nm.vec_Trim [ints v] [] (ints (trim v)) [] := by
  refine ACalls_of tab (dr_snd tab mixed) Nm.vec_Trim_h rfl (by kernel_rfl) (Nat.le_of_ble_eq_true rfl) rfl ?_
  refine NLoop.mk [] [0, 3] (fun m vs H => ∃ n, n ≤ v.length ∧ m = n ∧ trim v = trim (v.take n) ∧ H = [] ∧ vs = [ints v, i64 n]) rfl ?_ ?_
  · exact Canon.mk [] rfl ⟨v.length, v.length, Nat.le_refl _, rfl, by rw [List.take_length], rfl, by simp [i64, ints]⟩
  · rintro m vs H ⟨n, hn, rfl, ht, rfl, rfl⟩
    have fin : (m = 0 ∨ ∃ h : m - 1 < v.length, 0 < m ∧ 0 < v[m - 1]) → trim v = (v.take m).map (max · 0) := by
      rintro (rfl | ⟨h, h0, hp⟩)
      · rw [ht]; rfl
      · rw [ht, show v.take m = v.take (m - 1) ++ [v[m - 1]] by rw [← List.take_succ_eq_append_getElem h]; congr 1; omega]
        exact trim_snoc_pos _ hp
    refine NB.dec (fun h1 => ?_) (fun h1 => ?_)
    · have h1' : 0 < m := by omega
      have hlt : m - 1 < v.length := by omega
      refine NW.i64 (by omega) (by omega) (NP.mk (by omega) (NG.mapE (j := m - 1) (by omega) hlt ?_))
      refine NB.dec (fun h2 => ?_) (fun h2 => ?_)
      · refine NW.i64 (by omega) (by omega) (Canon.mk [] rfl ⟨m - 1, by omega, m - 1, by omega, rfl, ?_, rfl, ?_⟩)
        · rw [ht, show v.take m = v.take (m - 1) ++ [v[m - 1]] by rw [← List.take_succ_eq_append_getElem hlt]; congr 1; omega]
          exact trim_snoc_np _ h2
        · show [_, AV.int .i64 ((m : Int) - 1)] = [_, AV.int .i64 ((m - 1 : Nat) : Int)]
          rw [show ((m - 1 : Nat) : Int) = (m : Int) - 1 by omega]; rfl
      · have hfin := fin (.inr ⟨hlt, h1', by omega⟩)
        have e : (v.map i64).take ((m : Int)).toNat = (v.take m).map i64 := by rw [Int.toNat_natCast, List.map_take]
        have hwl : (v.take m).length ≤ 2 ^ 40 := by simp; omega
        generalize v.take m = w at *
        have hc := cloneV_walk w hwl
        refine NP.mk (by (simp only [List.length_map, List.length_append, List.length_replicate, List.length_cons, List.length_nil, List.length_take, List.length_drop]; omega)) ?_
        rw [(e)]
        refine NCall.atA (ACalls.frame (hc) rfl _) ?_
        refine NLoop.mk [] [4, 25, 26] (fun q vs H => ∃ i, i ≤ w.length ∧ q = w.length - i ∧ H = [.row .vrow .leaf ((mx w i).map i64)] ∧ vs = [.own 0 0 w.length, i64 w.length, i64 i]) rfl ?_ ?_
        · exact Canon.mk [0] rfl ⟨w.length, 0, Nat.zero_le _, rfl, by rw [mx_zero], rfl⟩
        · rintro q vs H ⟨i, hi, rfl, rfl, rfl⟩
          have hml := mx_len w i
          refine NB.dec (fun h3 => ?_) (fun h3 => ?_)
          · have hi' : i < w.length := by omega
            refine NP.mk (by (simp only [List.length_map, List.length_append, List.length_replicate, List.length_cons, List.length_nil, List.length_take, List.length_drop]; omega)) ?_
            refine NG.mapN (by omega) ?_
            refine NP.mk (by (simp only [List.length_map, List.length_append, List.length_replicate, List.length_cons, List.length_nil, List.length_take, List.length_drop]; omega)) ?_
            refine NG.mapN (by omega) ?_
            refine NW.i64 (by omega) (by omega) ?_
            refine Canon.mk [0] rfl ⟨w.length - (i + 1), by omega, i + 1, by omega, rfl, ?_, rfl⟩
            rw [← mx_set hi', List.map_set]
            simp only [Int.toNat_natCast, Nat.zero_add, mx_at hi']
            rfl
          · have : i = w.length := by omega
            subst this
            refine NRet.mk [] rfl (NFrz.mk ((mx w w.length).map i64) (by simp [mx_len]) (by rw [List.drop_zero, List.take_of_length_le (by simp [mx_len])]) ⟨by rw [hfin, ← mx_full]; exact .refl _, rfl⟩)
    · have hfin := fin (.inl (by omega))
      have e : (v.map i64).take ((m : Int)).toNat = (v.take m).map i64 := by rw [Int.toNat_natCast, List.map_take]
      have hwl : (v.take m).length ≤ 2 ^ 40 := by simp; omega
      generalize v.take m = w at *
      have hc := cloneV_walk w hwl
      refine NP.mk (by omega) ?_
      rw [(e)]
      refine NCall.atA (ACalls.frame (hc) rfl _) ?_
      refine NLoop.mk [] [4, 25, 26] (fun q vs H => ∃ i, i ≤ w.length ∧ q = w.length - i ∧ H = [.row .vrow .leaf ((mx w i).map i64)] ∧ vs = [.own 0 0 w.length, i64 w.length, i64 i]) rfl ?_ ?_
      · exact Canon.mk [0] rfl ⟨w.length, 0, Nat.zero_le _, rfl, by rw [mx_zero], rfl⟩
      · rintro q vs H ⟨i, hi, rfl, rfl, rfl⟩
        have hml := mx_len w i
        refine NB.dec (fun h3 => ?_) (fun h3 => ?_)
        · have hi' : i < w.length := by omega
          refine NP.mk (by (simp only [List.length_map, List.length_append, List.length_replicate, List.length_cons, List.length_nil, List.length_take, List.length_drop]; omega)) ?_
          refine NG.mapN (by omega) ?_
          refine NP.mk (by (simp only [List.length_map, List.length_append, List.length_replicate, List.length_cons, List.length_nil, List.length_take, List.length_drop]; omega)) ?_
          refine NG.mapN (by omega) ?_
          refine NW.i64 (by omega) (by omega) ?_
          refine Canon.mk [0] rfl ⟨w.length - (i + 1), by omega, i + 1, by omega, rfl, ?_, rfl⟩
          rw [← mx_set hi', List.map_set]
          simp only [Int.toNat_natCast, Nat.zero_add, mx_at hi']
          rfl
        · have : i = w.length := by omega
          subst this
          refine NRet.mk [] rfl (NFrz.mk ((mx w w.length).map i64) (by simp [mx_len]) (by rw [List.drop_zero, List.take_of_length_le (by simp [mx_len])]) ⟨by rw [hfin, ← mx_full]; exact .refl _, rfl⟩)

theorem vecHas_walk (v : List Int) (a b c : Int) (hl : v.length ≤ 2 ^ 40) : ACalls Try.prog Nm.vec_Has [ints v, .agg [i64 a, i64 b, i64 c]] [] (.bool (decide (1 ≤ b ∧ b ≤ vatI v a))) [] := by
  refine ACalls_of tab (dr_snd tab mixed) Nm.vec_Has_h rfl (by kernel_rfl) (Nat.le_of_ble_eq_true rfl) rfl ?_
  by_cases hk1 : 1 ≤ b
  · rw [show decide (1 ≤ b ∧ b ≤ vatI v a) = decide (b ≤ vatI v a) by simp [hk1]]
    refine NP.mk (by kernel_rfl) ?_
    apply NDr.rd [0]
    · intro fH TH
      exact ⟨rfl, rfl⟩
    apply NDr.rd [0]
    · intro fH TH
      exact ⟨rfl, rfl⟩
    apply NDr.pure
    · refine ND.yes (by omega) ?_
      exact ⟨rfl, rfl⟩
    apply NDr.pure
    · exact ⟨rfl, rfl⟩
    apply NDr.rd [0]
    · intro fH TH
      exact ⟨rfl, rfl⟩
    apply NDr.rd [0]
    · intro fH TH
      exact ⟨rfl, rfl⟩
    apply NDr.pure
    · exact ⟨rfl, rfl⟩
    apply NDr.rd [0]
    · intro fH TH
      exact ⟨rfl, rfl⟩
    apply NDr.rd [0]
    · intro fH TH
      exact ⟨rfl, rfl⟩
    apply NDr.pure
    · refine NCall.call (vecAt_walk v a hl) rfl rfl ?_
      exact ⟨rfl, rfl⟩
    apply NDr.pure
    · exact NB.det
    apply NDr.pure
    · exact ⟨rfl, rfl⟩
    apply NDr.pure
    · exact ⟨rfl, rfl⟩
    refine NP.mk (by kernel_rfl) ?_
    exact NRet.mk [] rfl ⟨.refl _, rfl⟩
  · rw [show decide (1 ≤ b ∧ b ≤ vatI v a) = false by simp [hk1]]
    refine NP.mk (by kernel_rfl) ?_
    apply NDr.rd [0]
    · intro fH TH
      exact ⟨rfl, rfl⟩
    apply NDr.rd [0]
    · intro fH TH
      exact ⟨rfl, rfl⟩
    apply NDr.pure
    · refine ND.no (by omega) ?_
      exact ⟨rfl, rfl⟩
    apply NDr.pure
    · exact ⟨rfl, rfl⟩
    apply NDr.pure
    · exact ⟨rfl, rfl⟩
    apply NDr.pure
    · exact ⟨rfl, rfl⟩
    refine NP.mk (by kernel_rfl) ?_
    exact NRet.mk [] rfl ⟨.refl _, rfl⟩

theorem equal7_walk (a b : List Int) (ha : a.length ≤ 2 ^ 40) : ACalls Try.prog Nm.ref07_Equal [ints a, ints b] [] (.bool (decide (a = b))) [] := by
  refine ACalls_of tab (dr_snd tab mixed) Nm.ref07_Equal_h rfl (by kernel_rfl) (Nat.le_of_ble_eq_true rfl) rfl ?_
  refine NB.dec (fun h => ?_) (fun h => ?_)
  · have hab : a.length = b.length := by simp only [List.length_map] at h; omega
    refine NLoop.mk [] [0, 1, 5] (fun m vs H => ∃ i, i ≤ a.length ∧ m = a.length - i ∧ a.take i = b.take i ∧ H = [] ∧ vs = [ints a, ints b, i64 i]) rfl ?_ ?_
    · exact Canon.mk [] rfl ⟨a.length, 0, Nat.zero_le _, rfl, rfl, rfl, rfl⟩
    · rintro m vs H ⟨i, hi, rfl, ht, rfl, rfl⟩
      refine NB.dec (fun h => ?_) (fun h => ?_)
      · have hi' : i < a.length := by simpa using h
        have hib : i < b.length := by omega
        by_cases hk1 : a[i] = b[i]
        rotate_left
        · have : a ≠ b := fun e => by subst e; exact hk1 rfl
          rw [decide_eq_false this]
          refine NP.mk (by kernel_rfl) ?_
          apply NDr.pure
          · exact ⟨rfl, rfl⟩
          apply NDr.pure
          · exact ⟨rfl, rfl⟩
          apply NDr.pure
          · refine NP.mk (by omega) ?_
            refine NG.mapN (by omega) ?_
            exact ⟨rfl, rfl⟩
          apply NDr.pure
          · exact ⟨rfl, rfl⟩
          apply NDr.pure
          · exact ⟨rfl, rfl⟩
          apply NDr.pure
          · exact ⟨rfl, rfl⟩
          apply NDr.pure
          · refine NP.mk (by omega) ?_
            refine NG.mapN (by omega) ?_
            exact ⟨rfl, rfl⟩
          apply NDr.pure
          · exact ⟨rfl, rfl⟩
          apply NDr.pure
          · refine ND.no (by omega) ?_
            exact ⟨rfl, rfl⟩
          refine NP.mk (by kernel_rfl) ?_
          exact NRet.mk [] rfl ⟨.refl _, rfl⟩
        · refine NP.mk (by kernel_rfl) ?_
          apply NDr.pure
          · exact ⟨rfl, rfl⟩
          apply NDr.pure
          · exact ⟨rfl, rfl⟩
          apply NDr.pure
          · refine NP.mk (by omega) ?_
            refine NG.mapN (by omega) ?_
            exact ⟨rfl, rfl⟩
          apply NDr.pure
          · exact ⟨rfl, rfl⟩
          apply NDr.pure
          · exact ⟨rfl, rfl⟩
          apply NDr.pure
          · exact ⟨rfl, rfl⟩
          apply NDr.pure
          · refine NP.mk (by omega) ?_
            refine NG.mapN (by omega) ?_
            exact ⟨rfl, rfl⟩
          apply NDr.pure
          · exact ⟨rfl, rfl⟩
          apply NDr.pure
          · refine ND.yes (by omega) ?_
            exact ⟨rfl, rfl⟩
          refine NP.mk (by kernel_rfl) ?_
          refine NW.i64 (by omega) (by omega) ?_
          refine Canon.mk [] rfl ⟨a.length - (i + 1), by omega, i + 1, by omega, rfl, ?_, rfl, rfl⟩
          rw [List.take_succ_eq_append_getElem hi', List.take_succ_eq_append_getElem hib, ht]
          rw [hk1]
      · have : i = a.length := by simp only [List.length_map] at h; omega
        subst this
        rw [hab, List.take_length, ← hab, List.take_length] at ht
        rw [decide_eq_true ht]
        exact NRet.mk [] rfl ⟨.refl _, rfl⟩
  · have hab : a ≠ b := fun e => h (by subst e; rfl)
    rw [decide_eq_false hab]
    exact NRet.mk [] rfl ⟨.refl _, rfl⟩

end Go.Bv
namespace Go.Bv
set_option linter.unusedSimpArgs false
set_option linter.unusedVariables false
set_option maxHeartbeats 4000000
open Go Go.Proofs

theorem copy7_walk (v : List Int) (hl : v.length ≤ 2 ^ 40) : ACalls Try.prog Nm.ref07_Copy [ints v] [] (ints v) [] := by
  refine ACalls_of tab (dr_snd tab mixed) Nm.ref07_Copy_h rfl (by kernel_rfl) (Nat.le_of_ble_eq_true rfl) rfl ?_
  refine NFz.own ?_
  refine NApp.endA rfl (by simp; omega) ?_
  exact NRet.mk [] rfl (NFrz.mk (v.map i64) (by simp) (by rw [List.drop_zero, List.take_of_length_le (by simp)]) ⟨.refl _, rfl⟩)

theorem at7_walk (v : List Int) (n : Int) (hl : v.length ≤ 2 ^ 40) : ACalls Try.prog Nm.ref07_At [ints v, i64 n] [] (i64 (vatI v n)) [] := by
  refine ACalls_of tab (dr_snd tab mixed) Nm.ref07_At_h rfl (by kernel_rfl) (Nat.le_of_ble_eq_true rfl) rfl ?_
  refine NLoop.mk [] [0, 1, 5] (fun m vs H => ∃ i, i ≤ v.length ∧ m = v.length - i ∧ (∀ j : Nat, j < i → (j : Int) = n → vat v j = 0) ∧ H = [] ∧ vs = [ints v, i64 n, i64 i]) rfl ?_ ?_
  · exact Canon.mk [] rfl ⟨v.length, 0, Nat.zero_le _, rfl, fun j hj => by omega, rfl, rfl⟩
  · rintro m vs H ⟨i, hi, rfl, ht, rfl, rfl⟩
    refine NB.dec (fun h1 => ?_) (fun h1 => ?_)
    · have hi' : i < v.length := by simp only [List.length_map] at h1; omega
      have hvi := vat_in hi'
      skip
      refine NB.dec (fun h2 => ?_) (fun h2 => ?_)
      · subst h2
        rw [vatI_nat]
        refine NP.mk (by omega) ?_
        refine NG.mapN (by omega) ?_
        refine NB.dec (fun h3 => ?_) (fun h3 => ?_)
        · rw [hvi, show max v[i] 0 = v[i] by omega]
          refine NP.mk (by omega) ?_
          refine NG.mapN (by omega) ?_
          exact NRet.mk [] rfl ⟨.refl _, rfl⟩
        · refine NW.i64 (by omega) (by omega) ?_
          exact Canon.mk [] rfl ⟨v.length - (i + 1), by omega, i + 1, by omega, rfl, fun j hj hji => by
            rw [show j = i by omega, hvi]; omega, rfl, rfl⟩
      · refine NW.i64 (by omega) (by omega) ?_
        exact Canon.mk [] rfl ⟨v.length - (i + 1), by omega, i + 1, by omega, rfl, fun j hj hji => by
          rcases Nat.lt_or_ge j i with h | h
          · exact ht j h hji
          · omega, rfl, rfl⟩
    · have : vatI v n = 0 := by
        unfold vatI
        split
        · rfl
        · rcases Nat.lt_or_ge n.toNat v.length with h | h
          · exact ht n.toNat (by simp only [List.length_map] at h1; omega) (by omega)
          · exact vat_out h
      rw [this]
      exact NRet.mk [] rfl ⟨.refl _, rfl⟩

theorem trim7_walk (v : List Int) (hl : v.length ≤ 2 ^ 40) : ACalls Try.prog Nm.ref07_Trim [ints v] [] (ints (trim v)) [] := by
  refine ACalls_of tab (dr_snd tab mixed) Nm.ref07_Trim_h rfl (by kernel_rfl) (Nat.le_of_ble_eq_true rfl) rfl ?_
  refine NLoop.mk [] [0, 3, 4] (fun m vs H => ∃ (i n : Nat), i ≤ v.length ∧ m = v.length - i ∧ n ≤ i ∧ (∀ j, n ≤ j → j < i → vat v j = 0) ∧ (n = 0 ∨ 0 < vat v (n - 1)) ∧ H = [] ∧ vs = [ints v, i64 ((n : Int) - 1), i64 i]) rfl ?_ ?_
  · exact Canon.mk [] rfl ⟨v.length, 0, 0, Nat.zero_le _, rfl, Nat.le_refl _, fun j hj hj' => by omega, .inl rfl, rfl, rfl⟩
  · rintro m vs H ⟨i, n, hi, rfl, hni, hz, hp, rfl, rfl⟩
    refine NB.dec (fun h1 => ?_) (fun h1 => ?_)
    · have hi' : i < v.length := by simp only [List.length_map] at h1; omega
      have hv := vat_in hi'
      refine NP.mk (by omega) (NG.mapN hi' ?_)
      refine NB.dec (fun h2 => ?_) (fun h2 => ?_)
      · refine NW.i64 (by omega) (by omega) ?_
        refine Canon.mk [] rfl ⟨v.length - (i + 1), by omega, i + 1, i + 1, by omega, rfl, Nat.le_refl _, fun j hj hj' => by omega, .inr (by rw [Nat.add_sub_cancel]; omega), rfl, ?_⟩
        rw [show (((i + 1 : Nat) : Int) - 1) = (i : Int) by omega]; rfl
      · refine NW.i64 (by omega) (by omega) ?_
        refine Canon.mk [] rfl ⟨v.length - (i + 1), by omega, i + 1, n, by omega, rfl, by omega, fun j hj hj' => ?_, hp, rfl, rfl⟩
        rcases Nat.lt_or_ge j i with h | h
        · exact hz j hj h
        · rw [show j = i by omega, hv]; omega
    · have hii : i = v.length := by simp only [List.length_map] at h1; omega
      subst hii
      have htr := trim_range (v := v) (n := n) (fun j hj => by
        rcases Nat.lt_or_ge j v.length with h | h
        · exact hz j hj h
        · exact vat_out h) hp
      rw [htr]
      refine NLoop.mk [(5, .leaf)] [0, 3, 5, 6] (fun m vs H => ∃ k, k ≤ n ∧ m = n - k ∧ H = [.row .vrow .leaf ((tab0 (vat v) k).map i64)] ∧ vs = [ints v, i64 ((n : Int) - 1), .own 0 0 k, i64 k]) rfl ?_ ?_
      · exact Canon.mk [0] rfl ⟨n, 0, Nat.zero_le _, rfl, rfl, rfl⟩
      · rintro q vs H ⟨k, hk, rfl, rfl, rfl⟩
        have htl := tab0_len (vat v) k
        refine NB.dec (fun h2 => ?_) (fun h2 => ?_)
        · have ha := at7_walk v k hl
          rw [vatI_nat] at ha
          refine NCall.call (ha) rfl rfl ?_
          refine NFz.own ?_
          refine NApp.endA (by simp; omega) (by simp; omega) ?_
          refine NW.i64 (by omega) (by omega) ?_
          refine Canon.mk [1] rfl ⟨n - (k + 1), by omega, k + 1, by omega, rfl, ?_, ?_⟩
          · rw [tab0_succ, List.map_append]; rfl
          · have hlen : ∀ z : AV, ((tab0 (vat v) k).map i64 ++ [z]).length = k + 1 := fun z => by simp [htl]
            exact congrArg (fun x => [ints v, i64 ((n : Int) - 1), AV.own 0 0 x, i64 ((k : Int) + 1)]) (hlen _)
        · have : k = n := by omega
          subst this
          skip
          exact NRet.mk [] rfl (NFrz.mk ((tab0 (vat v) k).map i64) (by simp [htl]) (by rw [List.drop_zero, List.take_of_length_le (by simp [htl])]) ⟨.refl _, rfl⟩)
end Go.Bv
namespace Go.Bv
set_option linter.unusedSimpArgs false
set_option linter.unusedVariables false
set_option maxHeartbeats 4000000
open Go Go.Proofs

def ready (v : List Int) (t : Txn) : Bool := decide (1 ≤ t.seq) && (decide (t.seq - 1 = vatI v t.node) && vwithin t.deps v)
def next (v : List Int) (t : Txn) : List Int := if 0 ≤ t.node ∧ t.node < 8 ∧ 0 ≤ t.seq ∧ t.seq ≤ 1073741824 then trim (vset v t.node.toNat t.seq) else trim v

theorem dot_walk (t : Txn) : ACalls Try.prog Nm.txn_Dot [txnA t] [] (.agg [i64 t.node, i64 t.seq, i64 0]) [] := by
  refine ACalls_of tab (dr_snd tab mixed) Nm.txn_Dot_h rfl (by kernel_rfl) (Nat.le_of_ble_eq_true rfl) rfl ?_
  exact NRet.mk [] rfl ⟨.refl _, rfl⟩

def ixI {α : Type} (p : α → Bool) (l : List α) : Int := match l.findIdx? p with
  | some i => i
  | none => -1
theorem find_step {α : Type} {p : α → Bool} {l : List α} {i : Nat} (h : i < l.length) (ht : ∀ x ∈ l.take i, p x = false) : (p l[i] = true → ixI p l = i) ∧ (p l[i] = false → ∀ x ∈ l.take (i + 1), p x = false) := by
  refine ⟨fun hp => ?_, fun hp x hx => ?_⟩
  · have : l.findIdx? p = some i := by
      rw [List.findIdx?_eq_some_iff_getElem]
      refine ⟨h, hp, fun j hj => ?_⟩
      have := ht l[j] (List.mem_take_iff_getElem.2 ⟨j, by omega, rfl⟩)
      simp [this]
    unfold ixI; rw [this]
  · rw [List.take_succ_eq_append_getElem h] at hx
    rcases List.mem_append.1 hx with hx | hx
    · exact ht x hx
    · rw [List.mem_singleton.1 hx]; exact hp
theorem find_none {α : Type} {p : α → Bool} {l : List α} (h : ∀ x ∈ l, p x = false) : ixI p l = -1 := by
  have : l.findIdx? p = none := by rw [List.findIdx?_eq_none_iff]; exact h
  unfold ixI; rw [this]

end Go.Bv
namespace Go.Bv
set_option linter.unusedSimpArgs false
set_option linter.unusedVariables false
set_option maxHeartbeats 4000000
open Go Go.Proofs

theorem getJ {α : Type} {f : α → AV} {l : List α} {junk : List AV} {i : Nat} (h : i < l.length) : (l.map f ++ junk)[0 + i]? = some (f l[i]) := by
  rw [Nat.zero_add, List.getElem?_append_left (by simpa using h), List.getElem?_map, List.getElem?_eq_getElem h]; rfl
theorem delete_alg {α : Type} (es junk : List α) (i j : Nat) (z : α) (hi : i < j) (hj : j ≤ es.length) :
    es.take i ++ es.drop j ++ (List.replicate (j - i) z ++ junk) = ((es ++ junk).take i ++ (es.drop j ++ (es ++ junk).drop (i + (es.length - j)))).take (i + (es.length - j)) ++ (List.replicate (es.length - (i + (es.length - j))) z ++ ((es ++ junk).take i ++ (es.drop j ++ (es ++ junk).drop (i + (es.length - j)))).drop (i + (es.length - j) + (es.length - (i + (es.length - j))))) := by
  have h0 : (es ++ junk).take i = es.take i := List.take_append_of_le_length (by omega)
  have hl : (es.take i ++ es.drop j).length = i + (es.length - j) := by simp; omega
  rw [h0, ← List.append_assoc (es.take i), List.take_left' hl, show es.length - (i + (es.length - j)) = j - i by omega]
  congr 2
  rw [List.drop_append, List.drop_eq_nil_of_le (by omega), List.nil_append, hl, List.drop_drop, show i + (es.length - j) + (i + (es.length - j) + (j - i) - (i + (es.length - j))) = es.length by omega, List.drop_left]

theorem hasPrefixL_walk (s p : List UInt8) (hs : s.length ≤ 2 ^ 47) : ACalls Try.prog Nm.internal_stringslite_HasPrefix [.str s, .str p] [] (.bool (decide (s.take p.length = p))) [] := by
  refine ACalls_of tab (dr_snd tab mixed) Nm.internal_stringslite_HasPrefix_h rfl (by kernel_rfl) (Nat.le_of_ble_eq_true rfl) rfl ?_
  by_cases h1 : p.length ≤ s.length
  · by_cases h2 : s.take p.length = p
    · rw [decide_eq_true h2]
      refine ND.yes (by omega) ?_
      refine NP.mk (by omega) ?_
      refine ND.yes (by (simp; omega)) ?_
      exact NRet.mk [] rfl ⟨.refl _, rfl⟩
    · rw [decide_eq_false h2]
      refine ND.yes (by omega) ?_
      refine NP.mk (by omega) ?_
      refine ND.no (by (simp; omega)) ?_
      exact NRet.mk [] rfl ⟨.refl _, rfl⟩
  · rw [decide_eq_false (fun h => h1 (by rw [← h, List.length_take]; omega))]
    refine ND.no (by omega) ?_
    exact NRet.mk [] rfl ⟨.refl _, rfl⟩

theorem hasPrefix_walk (s p : List UInt8) (hs : s.length ≤ 2 ^ 47) : ACalls Try.prog Nm.strings_HasPrefix [.str s, .str p] [] (.bool (decide (s.take p.length = p))) [] := by
  refine ACalls_of tab (dr_snd tab mixed) Nm.strings_HasPrefix_h rfl (by kernel_rfl) (Nat.le_of_ble_eq_true rfl) rfl ?_
  refine NCall.call (hasPrefixL_walk s p hs) rfl rfl ?_
  exact NRet.mk [] rfl ⟨.refl _, rfl⟩

theorem cloneD_walk (es : List AV) (hl : es.length ≤ 2 ^ 40) : ACalls Try.prog Nm.slices_Clone_api_Dot_api_Dot [.list (.agg 3) es] [] (.own 0 0 es.length) [.row .vrow (.agg 3) es] := by
  refine ACalls_of tab (dr_snd tab mixed) Nm.slices_Clone_api_Dot_api_Dot_h rfl (by kernel_rfl) (Nat.le_of_ble_eq_true rfl) rfl ?_
  refine NN.mk (fun h => ?_) ?_
  · subst h
    exact NRet.ad [(2, .agg 3)] [0] rfl ⟨.refl _, rfl⟩
  · refine NFz.own ?_
    refine NApp.endA rfl (by simp; omega) ?_
    exact NRet.mk [1] rfl ⟨.refl _, rfl⟩
end Go.Bv
namespace Go.Bv
set_option linter.unusedSimpArgs false
set_option linter.unusedVariables false
set_option maxHeartbeats 4000000
open Go Go.Proofs

def strsA (l : List (List UInt8)) : AV := .list .leaf (l.map AV.str)
def begins (s p : List UInt8) : Bool := decide (s.take p.length = p)
theorem covF_walk (k p : List UInt8) (hk : k.length ≤ 2 ^ 47) : ACalls Try.prog Nm.zone_Covers_1 [.str p, .ptr 0 0 0] [.row .box .leaf [.str k]] (.bool (begins k p)) [.row .box .leaf [.str k]] := by
  refine ACalls_of tab (dr_snd tab mixed) Nm.zone_Covers_1_h rfl (by kernel_rfl) (Nat.le_of_ble_eq_true rfl) rfl ?_
  refine NCall.call (hasPrefix_walk k p hk) rfl rfl ?_
  exact NRet.mk [] rfl ⟨.refl _, rfl⟩
theorem indexS_walk (g : Nat) (k : List UInt8) (l : List (List UInt8)) (p : List UInt8 → Bool) (hl : l.length ≤ 2 ^ 40) (hg : ∀ t ∈ l, ACalls Try.prog g [.str t, .ptr 0 0 0] [.row .box .leaf [.str k]] (.bool (p t)) [.row .box .leaf [.str k]]) :
    ACalls Try.prog Nm.slices_IndexFunc_string_string [strsA l, .fn g [.ptr 0 0 0]] [.row .box .leaf [.str k]] (i64 (ixI p l)) [.row .box .leaf [.str k]] := by
  refine ACalls_of tab (dr_snd tab mixed) Nm.slices_IndexFunc_string_string_h rfl (by kernel_rfl) (Nat.le_of_ble_eq_true rfl) rfl ?_
  refine NLoop.mk [] [0, 1, 6, 7, 8] (fun m vs H => ∃ i, i ≤ l.length ∧ m = l.length - i ∧ (∀ x ∈ l.take i, p x = false) ∧ H = [.row .box .leaf [.str k]] ∧ vs = [strsA l, .fn g [.ptr 0 0 0], strsA l, i64 l.length, i64 i]) rfl ?_ ?_
  · exact Canon.mk [] rfl ⟨l.length, 0, Nat.zero_le _, rfl, by simp, rfl, by simp [strsA, i64]⟩
  · rintro m vs H ⟨i, hi, rfl, ht, rfl, rfl⟩
    by_cases hil : i < l.length
    · have hc := hg _ (List.getElem_mem hil)
      obtain ⟨f1, f2⟩ := find_step hil ht
      cases hp : p l[i] with
      | true =>
        rw [hp] at hc
        rw [f1 hp]
        refine ND.yes (by omega) ?_
        refine NP.mk (by omega) ?_
        refine NG.mapN (by omega) ?_
        refine NCall.atA (hc) ?_
        exact NRet.mk [] rfl ⟨.refl _, rfl⟩
      | false =>
        rw [hp] at hc
        refine ND.yes (by omega) ?_
        refine NP.mk (by omega) ?_
        refine NG.mapN (by omega) ?_
        refine NCall.atA (hc) ?_
        refine NW.i64 (by omega) (by omega) ?_
        exact Canon.mk [] rfl ⟨l.length - (i + 1), by omega, i + 1, by omega, rfl, f2 hp, rfl, rfl⟩
    · have : i = l.length := by omega
      subst this
      rw [List.take_length] at ht
      rw [find_none ht]
      refine ND.no (by omega) ?_
      exact NRet.mk [] rfl ⟨.refl _, rfl⟩
theorem ixI_any {α : Type} (p : α → Bool) (l : List α) : l.any p = decide (0 ≤ ixI p l) := by
  unfold ixI
  cases h : l.findIdx? p with
  | none =>
    rw [List.findIdx?_eq_none_iff] at h
    rw [List.any_eq_false.2 (fun x hx => by simp [h x hx])]
    rfl
  | some i =>
    rw [List.findIdx?_eq_some_iff_getElem] at h
    obtain ⟨h1, h2, _⟩ := h
    rw [List.any_eq_true.2 ⟨_, List.getElem_mem h1, h2⟩]
    simp
theorem containsS_walk (g : Nat) (k : List UInt8) (l : List (List UInt8)) (p : List UInt8 → Bool) (hl : l.length ≤ 2 ^ 40) (hg : ∀ t ∈ l, ACalls Try.prog g [.str t, .ptr 0 0 0] [.row .box .leaf [.str k]] (.bool (p t)) [.row .box .leaf [.str k]]) :
    ACalls Try.prog Nm.slices_ContainsFunc_string_string [strsA l, .fn g [.ptr 0 0 0]] [.row .box .leaf [.str k]] (.bool (l.any p)) [.row .box .leaf [.str k]] := by
  refine ACalls_of tab (dr_snd tab mixed) Nm.slices_ContainsFunc_string_string_h rfl (by kernel_rfl) (Nat.le_of_ble_eq_true rfl) rfl ?_
  have hi := indexS_walk g k l p hl hg
  rw [ixI_any]
  by_cases h : 0 ≤ ixI p l
  · rw [decide_eq_true h]
    refine NCall.atA (hi) ?_
    refine ND.yes (by omega) ?_
    exact NRet.mk [] rfl ⟨.refl _, rfl⟩
  · rw [decide_eq_false h]
    refine NCall.atA (hi) ?_
    refine ND.no (by omega) ?_
    exact NRet.mk [] rfl ⟨.refl _, rfl⟩
theorem covers_walk (z : List (List UInt8)) (k : List UInt8) (hz : z.length ≤ 2 ^ 40) (hk : k.length ≤ 2 ^ 47) : ACalls Try.prog Nm.zone_Covers [strsA z, .str k] [] (.bool (z.any (begins k))) [] := by
  refine ACalls_of tab (dr_snd tab mixed) Nm.zone_Covers_h rfl (by kernel_rfl) (Nat.le_of_ble_eq_true rfl) rfl ?_
  have hc := containsS_walk Nm.zone_Covers_1 k z (begins k) hz (fun t _ => covF_walk k t hk)
  refine NCall.atA (hc) ?_
  exact NRet.mk [] rfl ⟨.refl _, rfl⟩
theorem dropL {sh : Sh} {es : List AV} {n : Nat} (hn : n = es.length) : DropT [.row .vrow sh es] (.own 0 0 n) (.list sh es) := by
  subst hn
  exact .val (.own trivial rfl (by simp) (by simp) (by rw [List.drop_zero, List.take_of_length_le (by simp)])) rfl (fun _ => by simp) (fun _ => by simp)
theorem cloneD_list (l : List Dot) (hl : l.length ≤ 2 ^ 40) : ACalls Try.prog Nm.slices_Clone_api_Dot_api_Dot [dotsA l] [] (dotsA l) [] :=
  (cloneD_walk (l.map dotA) (by simpa using hl)).drop (dropL rfl)
theorem cloneV_list (l : List Int) (hl : l.length ≤ 2 ^ 40) : ACalls Try.prog Nm.slices_Clone_api_Vec_int [ints l] [] (ints l) [] :=
  (cloneV_walk l hl).drop (dropL (by simp))
def effsOnly (l : List Eff) (z : List (List UInt8)) : List Eff := l.filter fun e => z.any (begins e.key)
def smEff (e : Eff) : Prop := e.key.length ≤ 2 ^ 40 ∧ e.field.length ≤ 2 ^ 40 ∧ e.elem.length ≤ 2 ^ 40 ∧ e.drops.length ≤ 2 ^ 40
theorem filter_take {α : Type} (p : α → Bool) (l : List α) {i : Nat} (h : i < l.length) : (l.take (i + 1)).filter p = if p l[i] then (l.take i).filter p ++ [l[i]] else (l.take i).filter p := by
  rw [List.take_succ_eq_append_getElem h, List.filter_append]
  cases hp : p l[i] <;> simp [hp]
theorem effOnly_walk (l : List Eff) (z : List (List UInt8)) (hl : l.length ≤ 2 ^ 38) (hz : z.length ≤ 2 ^ 40) (hx : ∀ e ∈ l, smEff e) : ACalls Try.prog Nm.eff_Only [effsA l, strsA z] [] (effsA (effsOnly l z)) [] := by
  refine ACalls_of tab (dr_snd tab mixed) Nm.eff_Only_h rfl (by kernel_rfl) (Nat.le_of_ble_eq_true rfl) rfl ?_
  let p : Eff → Bool := fun e => z.any (begins e.key)
  have hp0 : effsOnly l z = l.filter p := rfl
  refine NLoop.mk [(5, .agg 7)] [1, 5, 8, 9, 10] (fun m vs H => ∃ i, i ≤ l.length ∧ m = l.length - i ∧ H = [.row .vrow (.agg 7) (((l.take i).filter p).map effA)] ∧ vs = [strsA z, .own 0 0 (((l.take i).filter p).map effA).length, effsA l, i64 l.length, i64 i]) rfl ?_ ?_
  · exact Canon.mk [0] rfl ⟨l.length, 0, Nat.zero_le _, rfl, rfl, by simp [effsA, strsA, i64]⟩
  · rintro m vs H ⟨i, hi, rfl, rfl, rfl⟩
    by_cases hil : i < l.length
    · have hs := filter_take p l hil
      have hfl : ((l.take i).filter p).length ≤ i := Nat.le_trans (List.length_filter_le _ _) (by simp; omega)
      obtain ⟨x1, x2, x3, x4⟩ := hx _ (List.getElem_mem hil)
      have hc := covers_walk z l[i].key hz (by omega)
      have hd := cloneD_list l[i].drops x4
      cases hp : p l[i] with
      | true =>
        rw [show z.any (begins l[i].key) = true from hp] at hc
        rw [hp, if_pos rfl] at hs
        refine ND.yes (by omega) ?_
        refine NP.mk (by omega) ?_
        refine NG.mapN (by omega) ?_
        refine NCall.call (hc) rfl rfl ?_
        refine NCall.call (hd) rfl rfl ?_
        refine NFz.own ?_
        refine NApp.endA rfl (by simp; omega) ?_
        refine NW.i64 (by omega) (by omega) ?_
        exact Canon.mk [2] rfl ⟨l.length - (i + 1), by omega, i + 1, by omega, rfl, by rw [hs, List.map_append]; rfl, by rw [hs, List.map_append]; rfl⟩
      | false =>
        rw [show z.any (begins l[i].key) = false from hp] at hc
        rw [hp, if_neg (by simp)] at hs
        refine ND.yes (by omega) ?_
        refine NP.mk (by omega) ?_
        refine NG.mapN (by omega) ?_
        refine NCall.call (hc) rfl rfl ?_
        refine NW.i64 (by omega) (by omega) ?_
        exact Canon.mk [0] rfl ⟨l.length - (i + 1), by omega, i + 1, by omega, rfl, by rw [hs], by rw [hs]; rfl⟩
    · have : i = l.length := by omega
      subst this
      rw [List.take_length]
      refine ND.no (by omega) ?_
      exact NRet.mk [] rfl (NFrz.mk ((l.filter p).map effA) (by simp) (by rw [List.drop_zero, List.take_length]) ⟨.refl _, rfl⟩)
end Go.Bv
namespace Go.Bv
open Go Go.Proofs

-- what is taken, plainly
/-- May a transaction's number stand in a vector? -/
def okN (t : Txn) : Prop := 0 ≤ t.node ∧ t.node < 8 ∧ 0 ≤ t.seq ∧ t.seq ≤ 1073741824
instance (t : Txn) : Decidable (okN t) := by unfold okN; infer_instance
def takeN : Nat → List Int → List Txn → List Txn × List Int
  | 0, v, _ => ([], v)
  | n + 1, v, l => match l.find? (ready v) with
    | none => ([], v)
    | some t => (t :: (takeN n (next v t) (l.eraseP (ready v))).1, (takeN n (next v t) (l.eraseP (ready v))).2)
def takeT (v : List Int) (l : List Txn) : List Txn × List Int := takeN l.length v l
def chain : List Int → List Txn → Bool
  | _, [] => true
  | v, t :: r => ready v t && chain (next v t) r
def nexts (v : List Int) (l : List Txn) : List Int := l.foldl next v
def dotOf (t : Txn) : Int × Int := (t.node, t.seq)
def twice (l : List Txn) : Bool := !decide (l.map dotOf).Nodup

theorem ready_iff (v : List Int) (t : Txn) : ready v t = true ↔ 1 ≤ t.seq ∧ t.seq - 1 = vatI v t.node ∧ ∀ i, vat t.deps i ≤ vat v i := by
  unfold ready
  rw [Bool.and_eq_true, Bool.and_eq_true, decide_eq_true_eq, decide_eq_true_eq, vwithin_iff]
theorem vatI_congr {v w : List Int} (h : ∀ i, vat v i = vat w i) (n : Int) : vatI v n = vatI w n := by
  unfold vatI; split
  · rfl
  · exact h _
theorem ready_congr {v w : List Int} (h : ∀ i, vat v i = vat w i) (t : Txn) : ready v t = ready w t := by
  rw [Bool.eq_iff_iff, ready_iff, ready_iff, vatI_congr h]
  simp only [h]
theorem next_ok {v : List Int} {t : Txn} (h : okN t) : next v t = trim (vset v t.node.toNat t.seq) := by
  unfold okN at h; unfold next; rw [if_pos h]
theorem next_bad {v : List Int} {t : Txn} (h : ¬ okN t) : next v t = trim v := by
  unfold okN at h; unfold next; rw [if_neg h]
theorem vat_next (v : List Int) (t : Txn) (i : Nat) : vat (next v t) i = if okN t ∧ i = t.node.toNat then t.seq else vat v i := by
  by_cases h : okN t
  · rw [next_ok h, vat_trim, vat_vset _ _ _ h.2.2.1]
    simp [h]
  · rw [next_bad h, vat_trim]
    simp [h]
theorem next_congr {v w : List Int} (h : ∀ i, vat v i = vat w i) (t : Txn) : next v t = next w t := by
  by_cases ho : okN t
  · rw [next_ok ho, next_ok ho]
    exact trim_ext _ _ fun i => by rw [vat_vset _ _ _ ho.2.2.1, vat_vset _ _ _ ho.2.2.1, h]
  · rw [next_bad ho, next_bad ho]
    exact trim_ext _ _ h
theorem next_trim (v : List Int) (t : Txn) : next (trim v) t = next v t := next_congr (vat_trim v) t
theorem trim_next (v : List Int) (t : Txn) : trim (next v t) = next v t := by
  by_cases ho : okN t
  · rw [next_ok ho, trim_trim]
  · rw [next_bad ho, trim_trim]
theorem next_mono {v : List Int} {t : Txn} (h : ready v t = true) (i : Nat) : vat v i ≤ vat (next v t) i := by
  rw [vat_next]
  split
  · rename_i hc
    obtain ⟨ho, rfl⟩ := hc
    have := ((ready_iff v t).1 h).2.1
    unfold vatI at this
    rw [if_neg (by have := ho.1; omega)] at this
    omega
  · exact Int.le_refl _
theorem vatI_mono {v w : List Int} (h : ∀ i, vat v i ≤ vat w i) (n : Int) : vatI v n ≤ vatI w n := by
  unfold vatI; split
  · exact Int.le_refl _
  · exact h _
theorem nexts_nil (v : List Int) : nexts v [] = v := rfl
theorem nexts_cons (v : List Int) (t : Txn) (r : List Txn) : nexts v (t :: r) = nexts (next v t) r := rfl
theorem nexts_snoc (v : List Int) (l : List Txn) (t : Txn) : nexts v (l ++ [t]) = next (nexts v l) t := by simp [nexts]
theorem chain_cons (v : List Int) (t : Txn) (r : List Txn) : chain v (t :: r) = true ↔ ready v t = true ∧ chain (next v t) r = true := by
  show (ready v t && chain (next v t) r) = true ↔ _
  rw [Bool.and_eq_true]
theorem nexts_mono : ∀ {l : List Txn} {v : List Int}, chain v l = true → ∀ i, vat v i ≤ vat (nexts v l) i
  | [], _, _, _ => Int.le_refl _
  | t :: r, v, h, i => by
    obtain ⟨h1, h2⟩ := (chain_cons v t r).1 h
    exact Int.le_trans (next_mono h1 i) (nexts_mono h2 i)
theorem nexts_congr : ∀ (l : List Txn) {v w : List Int}, (∀ i, vat v i = vat w i) → ∀ i, vat (nexts v l) i = vat (nexts w l) i
  | [], _, _, h, i => h i
  | t :: r, v, w, h, i => by rw [nexts_cons, nexts_cons, next_congr h]
theorem nexts_trim : ∀ {l : List Txn} {v : List Int}, trim v = v → trim (nexts v l) = nexts v l
  | [], _, h => h
  | t :: r, v, _ => by rw [nexts_cons]; exact nexts_trim (trim_next v t)
theorem chain_congr : ∀ (l : List Txn) {v w : List Int}, (∀ i, vat v i = vat w i) → chain v l = chain w l
  | [], _, _, _ => rfl
  | t :: r, v, w, h => by
    show (ready v t && chain (next v t) r) = (ready w t && chain (next w t) r)
    rw [ready_congr h, next_congr h]

theorem takeN_chain : ∀ (n : Nat) (v : List Int) (l : List Txn), chain v (takeN n v l).1 = true ∧ (takeN n v l).2 = nexts v (takeN n v l).1
  | 0, _, _ => ⟨rfl, rfl⟩
  | n + 1, v, l => by
    unfold takeN
    split
    · exact ⟨rfl, rfl⟩
    · rename_i t ht
      obtain ⟨h1, h2⟩ := takeN_chain n (next v t) (l.eraseP (ready v))
      exact ⟨(chain_cons _ _ _).2 ⟨List.find?_some ht, h1⟩, h2⟩
theorem erase_perm {p : Txn → Bool} : ∀ {l : List Txn} {t : Txn}, l.find? p = some t → l.Perm (t :: l.eraseP p)
  | [], _, h => by simp at h
  | x :: r, t, h => by
    rw [List.find?_cons] at h
    rw [List.eraseP_cons]
    cases hx : p x with
    | true =>
      rw [hx] at h
      simp only [Option.some.injEq] at h
      subst h
      exact .refl _
    | false =>
      rw [hx] at h
      exact ((erase_perm h).cons x).trans (.swap ..)
theorem takeN_rest : ∀ (n : Nat) (v : List Int) (l : List Txn), l.length ≤ n → ∃ r, l.Perm ((takeN n v l).1 ++ r) ∧ ∀ t ∈ r, ready (takeN n v l).2 t = false
  | 0, v, l, h => by
    have : l = [] := List.length_eq_zero_iff.1 (by omega)
    subst this
    exact ⟨[], .refl _, by simp⟩
  | n + 1, v, l, h => by
    unfold takeN
    split
    · rename_i hn
      exact ⟨l, .refl _, fun t ht => by simpa using List.find?_eq_none.1 hn t ht⟩
    · rename_i t ht
      have hp := erase_perm ht
      obtain ⟨r, h1, h2⟩ := takeN_rest n (next v t) (l.eraseP (ready v)) (by
        have := hp.length_eq; simp only [List.length_cons] at this; omega)
      exact ⟨r, hp.trans (h1.cons t), h2⟩
theorem takeT_chain (v : List Int) (l : List Txn) : chain v (takeT v l).1 = true := (takeN_chain _ v l).1
theorem takeT_nexts (v : List Int) (l : List Txn) : (takeT v l).2 = nexts v (takeT v l).1 := (takeN_chain _ v l).2
theorem takeT_rest (v : List Int) (l : List Txn) : ∃ r, l.Perm ((takeT v l).1 ++ r) ∧ ∀ t ∈ r, ready (takeT v l).2 t = false := takeN_rest _ v l (Nat.le_refl _)
theorem takeT_mem {v : List Int} {l : List Txn} {t : Txn} (h : t ∈ (takeT v l).1) : t ∈ l := by
  obtain ⟨r, hp, _⟩ := takeT_rest v l
  exact hp.mem_iff.2 (List.mem_append_left _ h)
theorem takeT_len (v : List Int) (l : List Txn) : (takeT v l).1.length ≤ l.length := by
  obtain ⟨r, hp, _⟩ := takeT_rest v l
  have := hp.length_eq; simp only [List.length_append] at this; omega
theorem takeN_of_chain : ∀ (a : List Txn) (v : List Int), chain v a = true → takeN a.length v a = (a, nexts v a)
  | [], _, _ => rfl
  | t :: r, v, h => by
    obtain ⟨h1, h2⟩ := (chain_cons v t r).1 h
    show takeN (r.length + 1) v (t :: r) = _
    unfold takeN
    rw [List.find?_cons, h1]
    simp only
    rw [List.eraseP_cons, h1]
    simp only [cond_true]
    rw [takeN_of_chain r _ h2]
    rfl
theorem takeT_of_chain {v : List Int} {a : List Txn} (h : chain v a = true) : takeT v a = (a, nexts v a) := takeN_of_chain a v h
theorem takeT_none {v : List Int} {l : List Txn} (h : ∀ t ∈ l, ready v t = false) : takeT v l = ([], v) := by
  unfold takeT
  cases l with
  | nil => rfl
  | cons t r =>
    show takeN (r.length + 1) v (t :: r) = _
    unfold takeN
    rw [List.find?_eq_none.2 (fun x hx => by simp [h x hx])]

/-- Each number up to what is heard is one's who was taken. -/
theorem chain_every : ∀ {b : List Txn} {v : List Int}, chain v b = true → ∀ (i : Nat) (s : Int), vat v i < s → s ≤ vat (nexts v b) i → ∃ t ∈ b, t.node = i ∧ t.seq = s
  | [], v, _, i, s, h1, h2 => by rw [nexts_nil] at h2; omega
  | t :: r, v, h, i, s, h1, h2 => by
    obtain ⟨hr, hc⟩ := (chain_cons v t r).1 h
    rcases Int.lt_or_le (vat (next v t) i) s with hs | hs
    · obtain ⟨x, hx, e⟩ := chain_every hc i s hs h2
      exact ⟨x, List.mem_cons_of_mem _ hx, e⟩
    · refine ⟨t, List.mem_cons_self .., ?_⟩
      rw [vat_next] at hs
      split at hs
      · rename_i hk
        obtain ⟨ho, rfl⟩ := hk
        have h3 := ((ready_iff v t).1 hr).2.1
        unfold vatI at h3
        rw [if_neg (by have := ho.1; omega)] at h3
        exact ⟨by have := ho.1; omega, by omega⟩
      · omega
/-- Who was taken is heard. -/
theorem chain_heard : ∀ {b : List Txn} {v : List Int}, chain v b = true → ∀ t ∈ b, okN t → t.seq ≤ vat (nexts v b) t.node.toNat
  | [], _, _, t, ht, _ => by simp at ht
  | x :: r, v, h, t, ht, ho => by
    obtain ⟨hr, hc⟩ := (chain_cons v x r).1 h
    rcases List.mem_cons.1 ht with rfl | ht
    · refine Int.le_trans ?_ (nexts_mono hc _)
      rw [vat_next, if_pos ⟨ho, rfl⟩]
      exact Int.le_refl _
    · exact chain_heard hc t ht ho
theorem chain_sub : ∀ {a : List Txn} {u v w : List Int} {l b : List Txn}, (∀ t ∈ l, ∀ t' ∈ l, dotOf t = dotOf t' → t = t') → chain v b = true → w = nexts v b → (∀ t ∈ b, t ∈ l) → (∀ t ∈ l, t ∈ b ∨ ready w t = false) →
    (∀ i, vat v i ≤ vat u i) → (∀ i, vat u i ≤ vat w i) → chain u a = true → (∀ t ∈ a, t ∈ l) → (∀ t ∈ a, t ∈ b) ∧ ∀ i, vat (nexts u a) i ≤ vat w i
  | [], u, v, w, l, b, _, _, _, _, _, _, hw, _, _ => ⟨by simp, hw⟩
  | t :: r, u, v, w, l, b, hd, hb, hwn, hbl, hr, hv, hw, hc, hal => by
    obtain ⟨h1, h2⟩ := (chain_cons u t r).1 hc
    have htl := hal t (List.mem_cons_self ..)
    obtain ⟨g1, g2, g3⟩ := (ready_iff u t).1 h1
    have htb : t ∈ b := by
      rcases hr t htl with h | h
      · exact h
      · have hnot : t.seq - 1 ≠ vatI w t.node := fun e => by
          have := (ready_iff w t).2 ⟨g1, e, fun i => Int.le_trans (g3 i) (hw i)⟩
          rw [h] at this; exact absurd this (by simp)
        have hle := vatI_mono hw t.node
        have hn0 : 0 ≤ t.node := by
          unfold vatI at hnot hle g2
          split at g2
          · rename_i hneg; rw [if_pos hneg] at hnot; omega
          · omega
        have e1 : vatI u t.node = vat u t.node.toNat := by unfold vatI; rw [if_neg (by omega)]
        have e2 : vatI w t.node = vat w t.node.toNat := by unfold vatI; rw [if_neg (by omega)]
        have hvu := hv t.node.toNat
        obtain ⟨x, hx, e3, e4⟩ := chain_every hb t.node.toNat t.seq (by omega) (by rw [← hwn]; omega)
        have := hd x (hbl x hx) t htl (by unfold dotOf; rw [e3, e4, Int.toNat_of_nonneg hn0])
        rwa [← this]
    have hw' : ∀ i, vat (next u t) i ≤ vat w i := fun i => by
      rw [vat_next]
      split
      · rename_i hk
        obtain ⟨ho, rfl⟩ := hk
        rw [hwn]
        exact chain_heard hb t htb ho
      · exact hw i
    obtain ⟨k1, k2⟩ := chain_sub hd hb hwn hbl hr (fun i => Int.le_trans (hv i) (next_mono h1 i)) hw' h2 (fun x hx => hal x (List.mem_cons_of_mem _ hx))
    refine ⟨fun x hx => ?_, k2⟩
    rcases List.mem_cons.1 hx with rfl | hx
    · exact htb
    · exact k1 x hx
/-- Out of lists with the same transactions the same ones are taken. -/
theorem takeT_sub {v : List Int} {l l' : List Txn} (hd : ∀ t ∈ l', ∀ t' ∈ l', dotOf t = dotOf t' → t = t') (hl : ∀ t ∈ l, t ∈ l') :
    (∀ t ∈ (takeT v l).1, t ∈ (takeT v l').1) ∧ ∀ i, vat (takeT v l).2 i ≤ vat (takeT v l').2 i := by
  obtain ⟨r, hp, hr⟩ := takeT_rest v l'
  rw [takeT_nexts v l]
  exact chain_sub hd (takeT_chain v l') (takeT_nexts v l') (fun t ht => takeT_mem ht) (fun t ht => by
    rcases List.mem_append.1 (hp.mem_iff.1 ht) with h | h
    · exact .inl h
    · exact .inr (hr t h)) (fun i => Int.le_refl _) (fun i => by rw [takeT_nexts]; exact nexts_mono (takeT_chain v l') i) (takeT_chain v l) (fun t ht => hl t (takeT_mem ht))
theorem dots_inj : ∀ {l : List Txn}, (l.map dotOf).Nodup → ∀ t ∈ l, ∀ t' ∈ l, dotOf t = dotOf t' → t = t'
  | [], _, t, ht, _, _, _ => by simp at ht
  | x :: r, hn, t, ht, t', ht', e => by
    rw [List.map_cons, List.nodup_cons] at hn
    rcases List.mem_cons.1 ht with h1 | h1 <;> rcases List.mem_cons.1 ht' with h2 | h2
    · rw [h1, h2]
    · exact absurd (by rw [← h1, e]; exact List.mem_map_of_mem h2) hn.1
    · exact absurd (by rw [← h2, ← e]; exact List.mem_map_of_mem h1) hn.1
    · exact dots_inj hn.2 t h1 t' h2 e
theorem nodup_of_dots {l : List Txn} (h : (l.map dotOf).Nodup) : l.Nodup := by
  induction l with
  | nil => simp
  | cons t r ih =>
    rw [List.map_cons, List.nodup_cons] at h
    exact List.nodup_cons.2 ⟨fun ht => h.1 (List.mem_map_of_mem ht), ih h.2⟩
/-- What is taken of numbers that may stand in vectors is there once. -/
theorem chain_nodup : ∀ {b : List Txn} {v : List Int}, chain v b = true → (∀ t ∈ b, okN t) → b.Nodup ∧ ∀ t ∈ b, vat v t.node.toNat < t.seq
  | [], _, _, _ => ⟨by simp, by simp⟩
  | t :: r, v, h, ho => by
    obtain ⟨hr, hc⟩ := (chain_cons v t r).1 h
    obtain ⟨h1, h2⟩ := chain_nodup hc fun x hx => ho x (List.mem_cons_of_mem _ hx)
    have ht := ho t (List.mem_cons_self ..)
    refine ⟨List.nodup_cons.2 ⟨fun hm => ?_, h1⟩, fun x hx => ?_⟩
    · have := h2 t hm
      rw [vat_next, if_pos ⟨ht, rfl⟩] at this
      omega
    · rcases List.mem_cons.1 hx with rfl | hx
      · have h3 := ((ready_iff v x).1 hr).2.1
        unfold vatI at h3
        rw [if_neg (by have := ht.1; omega)] at h3
        omega
      · exact Int.lt_of_le_of_lt (next_mono hr _) (h2 x hx)
theorem take_any {v : List Int} {l l' : List Txn} (hd : ∀ t ∈ l, ∀ t' ∈ l, dotOf t = dotOf t' → t = t') (hm : ∀ t, t ∈ l ↔ t ∈ l') (h1 : (takeT v l).1.Nodup) (h2 : (takeT v l').1.Nodup) :
    (takeT v l).1.Perm (takeT v l').1 ∧ ∀ i, vat (takeT v l).2 i = vat (takeT v l').2 i := by
  obtain ⟨a1, a2⟩ := takeT_sub (v := v) (l := l) (l' := l') (fun t ht t' ht' => hd t ((hm t).2 ht) t' ((hm t').2 ht')) (fun t ht => (hm t).1 ht)
  obtain ⟨b1, b2⟩ := takeT_sub (v := v) (l := l') (l' := l) hd (fun t ht => (hm t).2 ht)
  exact ⟨(List.perm_ext_iff_of_nodup h1 h2).2 fun t => ⟨a1 t, b1 t⟩, fun i => Int.le_antisymm (a2 i) (b2 i)⟩
theorem take_nodup {v : List Int} {l : List Txn} (h : l.Nodup) : (takeT v l).1.Nodup := by
  obtain ⟨r, hp, _⟩ := takeT_rest v l
  exact (List.nodup_append.1 (hp.nodup_iff.1 h)).1
/-- Taken once more nothing of it is ready. -/
theorem take_twice {v : List Int} {l : List Txn} (ho : ∀ t ∈ l, okN t) : takeT (takeT v l).2 l = ([], (takeT v l).2) := by
  obtain ⟨r, hp, hr⟩ := takeT_rest v l
  refine takeT_none fun t ht => ?_
  rcases List.mem_append.1 (hp.mem_iff.1 ht) with h | h
  · cases hq : ready (takeT v l).2 t with
    | false => rfl
    | true =>
      have g := ((ready_iff _ t).1 hq).2.1
      have ht' := ho t ht
      have := chain_heard (takeT_chain v l) t h ht'
      rw [← takeT_nexts] at this
      unfold vatI at g
      rw [if_neg (by have := ht'.1; omega)] at g
      omega
  · exact hr t h
theorem take_doubled {v : List Int} {l : List Txn} (hd : (l.map dotOf).Nodup) (ho : ∀ t ∈ l, okN t) : (takeT v l).1.length = (takeT v (l ++ l)).1.length ∧ (takeT v l).2 = (takeT v (l ++ l)).2 := by
  have hm : ∀ t, t ∈ l ↔ t ∈ l ++ l := fun t => by simp
  obtain ⟨h1, h2⟩ := take_any (v := v) (dots_inj hd) hm (take_nodup (nodup_of_dots hd)) (chain_nodup (takeT_chain v (l ++ l)) fun t ht => ho t ((hm t).2 (takeT_mem ht))).1
  refine ⟨h1.length_eq, ?_⟩
  cases hc : (takeT v l).1 with
  | nil =>
    rw [hc] at h1
    have e2 := h1.symm.eq_nil
    rw [takeT_nexts, takeT_nexts, hc, e2]
  | cons t r =>
    have k : ∀ m : List Txn, (takeT v m).1 ≠ [] → trim (takeT v m).2 = (takeT v m).2 := fun m hne => by
      rw [takeT_nexts]
      cases hq : (takeT v m).1 with
      | nil => exact absurd hq hne
      | cons x y => rw [nexts_cons]; exact nexts_trim (trim_next v x)
    have hne : (takeT v (l ++ l)).1 ≠ [] := fun e => by rw [e, hc] at h1; exact absurd h1.eq_nil (by simp)
    rw [← k l (by rw [hc]; simp), ← k (l ++ l) hne]
    exact trim_ext _ _ h2
end Go.Bv
namespace Go.Bv
set_option linter.unusedSimpArgs false
set_option linter.unusedVariables false
set_option maxHeartbeats 4000000
open Go Go.Proofs

/-- A transaction that is not too large. -/
def smTxn (t : Txn) : Prop := okInt t.seq ∧ t.deps.length ≤ 2 ^ 30 ∧ t.effs.length ≤ 2 ^ 30 ∧ ∀ e ∈ t.effs, smEff e
def onlyT (t : Txn) (z : List (List UInt8)) : Txn := { t with effs := effsOnly t.effs z }
theorem effsOnly_all (l : List Eff) : effsOnly l [[]] = l := by
  unfold effsOnly
  rw [List.filter_eq_self]
  intro e _
  simp [begins]
theorem onlyT_all (t : Txn) : onlyT t [[]] = t := by unfold onlyT; rw [effsOnly_all]
theorem txnOnly_walk (t : Txn) (z : List (List UInt8)) (ht : smTxn t) (hz : z.length ≤ 2 ^ 40) : ACalls Try.prog Nm.txn_Only [txnA t, strsA z] [] (txnA (onlyT t z)) [] := by
  refine ACalls_of tab (dr_snd tab mixed) Nm.txn_Only_h rfl (by kernel_rfl) (Nat.le_of_ble_eq_true rfl) rfl ?_
  obtain ⟨h1, h2, h3, h4⟩ := ht
  refine NCall.call (cloneV_list t.deps (by omega)) rfl rfl ?_
  refine NCall.call (effOnly_walk t.effs z (by omega) hz h4) rfl rfl ?_
  exact NRet.mk [] rfl ⟨.refl _, rfl⟩
theorem txnOnlyAll_walk (t : Txn) (ht : smTxn t) : ACalls Try.prog Nm.txn_Only [txnA t, .list .leaf [.str []]] [] (txnA t) [] := by
  have := txnOnly_walk t [[]] ht (by simp)
  rwa [onlyT_all] at this
theorem next_len (v : List Int) (t : Txn) : (next v t).length ≤ max v.length 8 := by
  by_cases h : okN t
  · rw [next_ok h]
    have h1 := trim_len (vset v t.node.toNat t.seq)
    have h2 := h.2.1
    simp only [vset, List.length_set, List.length_append, List.length_replicate] at h1 ⊢
    omega
  · rw [next_bad h]
    have := trim_len v; omega
theorem chain_drop {l : List Txn} {i : Nat} (h : i < l.length) (v : List Int) : chain v (l.drop i) = (ready v l[i] && chain (next v l[i]) (l.drop (i + 1))) := by
  rw [List.drop_eq_getElem_cons h]; rfl
theorem find_ix {p : Txn → Bool} {l : List Txn} : (∃ (i : Nat) (h : i < l.length), ixI p l = i ∧ l.find? p = some l[i] ∧ l.eraseP p = l.take i ++ l.drop (i + 1)) ∨ (ixI p l = -1 ∧ l.find? p = none) := by
  induction l with
  | nil => exact .inr ⟨rfl, rfl⟩
  | cons x r ih =>
    cases hx : p x with
    | true => exact .inl ⟨0, by simp, by simp [ixI, List.findIdx?_cons, hx], by simp [List.find?_cons, hx], by simp [List.eraseP_cons, hx]⟩
    | false =>
      rcases ih with ⟨i, h, h1, h2, h3⟩ | ⟨h1, h2⟩
      · refine .inl ⟨i + 1, by simpa using h, ?_, by simp [hx, h2], by simp [hx, h3]⟩
        unfold ixI at h1 ⊢
        rw [List.findIdx?_cons, hx]
        cases hq : r.findIdx? p with
        | none => rw [hq] at h1; simp at h1 <;> omega
        | some k => rw [hq] at h1; simp at h1 ⊢; omega
      · refine .inr ⟨?_, by simp [hx, h2]⟩
        unfold ixI at h1 ⊢
        rw [List.findIdx?_cons, hx]
        cases hq : r.findIdx? p with
        | none => simp
        | some k => rw [hq] at h1; simp at h1 <;> omega
theorem takeN_some {n : Nat} {v : List Int} {l : List Txn} {t : Txn} (h : l.find? (ready v) = some t) : takeN (n + 1) v l = (t :: (takeN n (next v t) (l.eraseP (ready v))).1, (takeN n (next v t) (l.eraseP (ready v))).2) := by
  conv => lhs; unfold takeN
  rw [h]
theorem takeN_none {n : Nat} {v : List Int} {l : List Txn} (h : l.find? (ready v) = none) : takeN n v l = ([], v) := by
  cases n with
  | zero => rfl
  | succ n => unfold takeN; rw [h]
/-- What is left of a list of which some are gone. -/
def rem : List Txn → List Bool → List Txn
  | t :: l, g :: gs => if g then rem l gs else t :: rem l gs
  | _, _ => []
theorem rem_rep : ∀ l : List Txn, rem l (List.replicate l.length false) = l
  | [] => rfl
  | t :: l => by
    show rem (t :: l) (false :: List.replicate l.length false) = _
    unfold rem
    rw [if_neg (by simp), rem_rep l]
theorem rem_find {p : Txn → Bool} : ∀ {l : List Txn} {gs : List Bool} {i : Nat} {t : Txn}, gs.length = l.length → l[i]? = some t → (∀ (j : Nat) (x : Txn), j < i → l[j]? = some x → gs[j]? = some true ∨ p x = false) → gs[i]? = some false → p t = true →
    (rem l gs).find? p = some t ∧ (rem l gs).eraseP p = rem l (gs.set i true)
  | [], _, i, _, _, h, _, _, _ => by simp at h
  | y :: l, [], _, _, h, _, _, _, _ => by simp at h
  | y :: l, g :: gs, 0, t, hl, h, _, hg, hp => by
    simp only [List.getElem?_cons_zero, Option.some.injEq] at h hg
    subst h hg
    unfold rem
    simp [List.find?_cons, List.eraseP_cons, hp]
  | y :: l, g :: gs, i + 1, t, hl, h, hj, hg, hp => by
    simp only [List.getElem?_cons_succ] at h hg
    obtain ⟨h1, h2⟩ := rem_find (p := p) (l := l) (gs := gs) (i := i) (t := t) (by simpa using hl) h (fun j x hji hx => by
      have := hj (j + 1) x (by omega) (by simpa using hx)
      simpa using this) hg hp
    unfold rem
    rw [List.set_cons_succ]
    have h0 := hj 0 y (by omega) (by simp)
    cases g with
    | true => simp [rem, h1, h2]
    | false =>
      have : p y = false := by simpa using h0
      simp [rem, List.find?_cons, List.eraseP_cons, this, h1, h2]
theorem rem_none {p : Txn → Bool} : ∀ {l : List Txn} {gs : List Bool}, (∀ (j : Nat) (x : Txn), l[j]? = some x → gs[j]? = some true ∨ p x = false) → (rem l gs).find? p = none
  | [], _, _ => by simp [rem]
  | y :: l, [], _ => by simp [rem]
  | y :: l, g :: gs, h => by
    have ih := rem_none (p := p) (l := l) (gs := gs) fun j x hx => by simpa using h (j + 1) x (by simpa using hx)
    have h0 := h 0 y (by simp)
    unfold rem
    cases g with
    | true => simpa using ih
    | false =>
      have : p y = false := by simpa using h0
      simp [List.find?_cons, this]
      simpa using ih
end Go.Bv
namespace Go.Bv
open Go Go.Proofs

-- what is formed, plainly
def okc (c : UInt8) : Bool := decide (c.toNat = 47) || decide (48 ≤ c.toNat ∧ c.toNat ≤ 57) || decide (97 ≤ c.toNat ∧ c.toNat ≤ 122)
def pref (s : List UInt8) : Bool := decide (s.length ≤ 16) && s.all okc
def keyB (s : List UInt8) : Bool := decide (s ≠ []) && pref s
def dotOk (d : Dot) : Bool := decide (0 ≤ d.node ∧ d.node < 8 ∧ 1 ≤ d.seq ∧ d.seq ≤ 1073741824 ∧ 0 ≤ d.at' ∧ d.at' < 8)
def kindOk (x : Item) : Bool := decide ((x.kind = 1 ∨ x.kind = 2) ∧ x.n = 0 ∨ x.kind = 3 ∧ x.elem = [])
def itemOk (x : Item) : Bool := keyB x.key && (pref x.field && (decide (x.elem.length ≤ 32) && (kindOk x && dotOk x.dot)))
def dlt (a b : Dot) : Bool := decide (a.node < b.node ∨ a.node = b.node ∧ (a.seq < b.seq ∨ a.seq = b.seq ∧ a.at' < b.at'))
/-- Neighbours. -/
def adj {α : Type} (r : α → α → Bool) : List α → Bool
  | [] => true
  | [_] => true
  | x :: y :: t => r x y && adj r (y :: t)
def made (node seq : Int) (e : Eff) : Item := ⟨e.key, e.field, e.kind, e.elem, e.n, ⟨node, seq, e.at'⟩⟩
def dropsOk (l : List Dot) : Bool := decide (l.length ≤ 64) && (l.all dotOk && adj dlt l)
def effOk (node seq : Int) (e : Eff) : Bool := dropsOk e.drops && (if e.kind = 0 then decide (e.drops ≠ [] ∧ e.elem = []) && itemOk (made node seq { e with kind := 1 }) else itemOk (made node seq e))
def ownOk (node seq : Int) (e : Eff) : Bool := e.drops.all fun d => decide (¬ (d.node = node ∧ d.seq = seq ∧ e.at' ≤ d.at'))
def effsOk (node seq : Int) (l : List Eff) : Bool := l.all (fun e => effOk node seq e && ownOk node seq e) && adj (fun a b => decide (a.at' < b.at')) l
def hasB (v : List Int) (node seq : Int) : Bool := decide (1 ≤ seq ∧ seq ≤ vatI v node)
def heardB (l : List Eff) (node seq : Int) (v : List Int) : Bool := l.all fun e => e.drops.all fun d => hasB v d.node d.seq || decide (d.node = node ∧ d.seq = seq)
def vecOk (v : List Int) : Bool := decide (trim v = v) && v.all fun n => decide (n ≤ 1073741824)
def formed (t : Txn) : Bool := decide (0 ≤ t.node ∧ t.node < 8 ∧ 1 ≤ t.seq ∧ t.seq ≤ 1073741824 ∧ t.deps.length ≤ 8 ∧ t.effs.length ≤ 8) &&
  (vecOk t.deps && (decide (vatI t.deps t.node = t.seq - 1) && (effsOk t.node t.seq t.effs && heardB t.effs t.node t.seq t.deps)))

theorem adj_iff {α : Type} (r : α → α → Bool) : ∀ (l : List α), adj r l = true ↔ ∀ (i : Nat) (h : i + 1 < l.length), r l[i] l[i + 1] = true
  | [] => by simp [adj]
  | [_] => by simp [adj]
  | x :: y :: t => by
    rw [adj, Bool.and_eq_true, adj_iff r (y :: t)]
    refine ⟨fun ⟨h1, h2⟩ i hi => ?_, fun h => ⟨h 0 (by simp), fun i hi => h (i + 1) (by simpa using hi)⟩⟩
    cases i with
    | zero => exact h1
    | succ i => exact h2 i (by simpa using hi)
theorem adj_pw {α : Type} {r : α → α → Bool} (ht : ∀ a b c, r a b = true → r b c = true → r a c = true) : ∀ (l : List α), adj r l = true ↔ l.Pairwise (fun a b => r a b = true)
  | [] => by simp [adj]
  | [_] => by simp [adj]
  | x :: y :: t => by
    rw [adj, Bool.and_eq_true, adj_pw ht (y :: t), List.pairwise_cons (a := x)]
    refine ⟨fun ⟨h1, h2⟩ => ⟨fun z hz => ?_, h2⟩, fun ⟨h1, h2⟩ => ⟨h1 y (List.mem_cons_self ..), h2⟩⟩
    rcases List.mem_cons.1 hz with rfl | hz
    · exact h1
    · exact ht _ _ _ h1 ((List.pairwise_cons.1 h2).1 z hz)
theorem dlt_trans (a b c : Dot) (h1 : dlt a b = true) (h2 : dlt b c = true) : dlt a c = true := by
  unfold dlt at *
  simp only [decide_eq_true_eq] at *
  omega
/-- One step of a look at all. -/
theorem all_step {α : Type} {p : α → Bool} {l : List α} {i : Nat} (h : i < l.length) (ht : ∀ x ∈ l.take i, p x = true) : (p l[i] = false → l.all p = false) ∧ (p l[i] = true → ∀ x ∈ l.take (i + 1), p x = true) := by
  refine ⟨fun hp => ?_, fun hp x hx => ?_⟩
  · rw [List.all_eq_false]; exact ⟨l[i], List.getElem_mem h, by simp [hp]⟩
  · rw [List.take_succ_eq_append_getElem h] at hx
    rcases List.mem_append.1 hx with hx | hx
    · exact ht x hx
    · rw [List.mem_singleton.1 hx]; exact hp
theorem all_end {α : Type} {p : α → Bool} {l : List α} (h : ∀ x ∈ l.take l.length, p x = true) : l.all p = true := by
  rw [List.take_length] at h
  exact List.all_eq_true.2 h
end Go.Bv
namespace Go.Bv
set_option linter.unusedSimpArgs false
set_option linter.unusedVariables false
set_option maxHeartbeats 4000000
open Go Go.Proofs

theorem take_eq_next {α : Type} {a b : List α} {i : Nat} (ht : a.take i = b.take i) (hia : i < a.length) (hib : i < b.length) (h : a[i] = b[i]) : a.take (i + 1) = b.take (i + 1) := by
  rw [List.take_succ_eq_append_getElem hia, List.take_succ_eq_append_getElem hib, ht, h]
theorem take_eq_end {α : Type} {a b : List α} (hl : a.length = b.length) (ht : a.take a.length = b.take a.length) : a = b := by
  rwa [List.take_length, hl, List.take_length] at ht
theorem txn_dec (a b : Txn) : decide (a = b) = (decide (a.node = b.node) && (decide (a.seq = b.seq) && (decide (a.deps = b.deps) && decide (a.effs = b.effs)))) := by
  rw [Bool.eq_iff_iff]; simp [Txn.ext_iff]
theorem eff_dec (a b : Eff) : decide (a = b) = (decide (a.at' = b.at') && (decide (a.key = b.key) && (decide (a.field = b.field) && (decide (a.kind = b.kind) && (decide (a.elem = b.elem) && (decide (a.n = b.n) && decide (a.drops = b.drops))))))) := by
  rw [Bool.eq_iff_iff]; simp [Eff.ext_iff]
theorem dot_dec (a b : Dot) : decide (a = b) = (decide (a.node = b.node) && (decide (a.seq = b.seq) && decide (a.at' = b.at'))) := by
  rw [Bool.eq_iff_iff]; simp [Dot.ext_iff]
theorem sameDots_walk (a b : List Dot) (ha : a.length ≤ 2 ^ 40) : ACalls Try.prog Nm.ref10_SameDots [dotsA a, dotsA b] [] (.bool (decide (a = b))) [] := by
  refine ACalls_of tab (dr_snd tab mixed) Nm.ref10_SameDots_h rfl (by kernel_rfl) (Nat.le_of_ble_eq_true rfl) rfl ?_
  by_cases hl : a.length = b.length
  · refine ND.yes (by (simp only [List.length_map, List.length_append, List.length_replicate, List.length_cons, List.length_nil, List.length_take, List.length_drop]; omega)) ?_
    refine NLoop.mk [] [0, 1, 5] (fun m vs H => ∃ i, i ≤ a.length ∧ m = a.length - i ∧ a.take i = b.take i ∧ H = [] ∧ vs = [dotsA a, dotsA b, i64 i]) rfl ?_ ?_
    · exact Canon.mk [] rfl ⟨a.length, 0, Nat.zero_le _, rfl, rfl, rfl, rfl⟩
    · rintro m vs H ⟨i, hi, rfl, ht, rfl, rfl⟩
      by_cases hil : i < a.length
      · have hib : i < b.length := by omega
        refine ND.yes (by (simp only [List.length_map, List.length_append, List.length_replicate, List.length_cons, List.length_nil, List.length_take, List.length_drop]; omega)) ?_
        refine NP.mk (by kernel_rfl) ?_
        apply NDr.pure
        · exact ⟨rfl, rfl⟩
        apply NDr.pure
        · exact ⟨rfl, rfl⟩
        apply NDr.pure
        · refine NP.mk (by omega) ?_
          refine NG.mapN (by omega) ?_
          exact ⟨rfl, rfl⟩
        apply NDr.pure
        · exact ⟨rfl, rfl⟩
        apply NDr.pure
        · exact ⟨rfl, rfl⟩
        apply NDr.pure
        · exact ⟨rfl, rfl⟩
        apply NDr.pure
        · refine NP.mk (by omega) ?_
          refine NG.mapN (by omega) ?_
          exact ⟨rfl, rfl⟩
        apply NDr.pure
        · exact ⟨rfl, rfl⟩
        apply NDr.pure
        · exact NB.det'
        refine NP.mk (by kernel_rfl) ?_
        refine NB.mk (fun hk3 => ?_) (fun hk3 => ?_)
        · refine NRet.boolE (b := false) ?_ (NRet.mk [] rfl ⟨.refl _, rfl⟩)
          grind
        refine NW.i64 (by omega) (by omega) ?_
        exact Canon.mk [] rfl ⟨a.length - (i + 1), by omega, i + 1, by omega, rfl, take_eq_next ht hil hib (by grind [Dot.ext_iff]), rfl, rfl⟩
      · have : i = a.length := by omega
        subst this
        rw [decide_eq_true (take_eq_end hl ht)]
        refine ND.no (by (simp only [List.length_map, List.length_append, List.length_replicate, List.length_cons, List.length_nil, List.length_take, List.length_drop]; omega)) ?_
        exact NRet.mk [] rfl ⟨.refl _, rfl⟩
  · rw [decide_eq_false fun e => hl (by rw [e])]
    refine ND.no (by (simp only [List.length_map, List.length_append, List.length_replicate, List.length_cons, List.length_nil, List.length_take, List.length_drop]; omega)) ?_
    exact NRet.mk [] rfl ⟨.refl _, rfl⟩
theorem same10_walk (a b : List Eff) (ha : a.length ≤ 2 ^ 40) (hx : ∀ e ∈ a, smEff e) : ACalls Try.prog Nm.ref10_Same [effsA a, effsA b] [] (.bool (decide (a = b))) [] := by
  refine ACalls_of tab (dr_snd2 tab mixed) Nm.ref10_Same_h rfl (by kernel_rfl) (Nat.le_of_ble_eq_true rfl) rfl ?_
  by_cases hl : a.length = b.length
  · refine ND.yes (by (simp only [List.length_map, List.length_append, List.length_replicate, List.length_cons, List.length_nil, List.length_take, List.length_drop]; omega)) ?_
    refine NLoop.mk [] [0, 1, 5] (fun m vs H => ∃ i, i ≤ a.length ∧ m = a.length - i ∧ a.take i = b.take i ∧ H = [] ∧ vs = [effsA a, effsA b, i64 i]) rfl ?_ ?_
    · exact Canon.mk [] rfl ⟨a.length, 0, Nat.zero_le _, rfl, rfl, rfl, rfl⟩
    · rintro m vs H ⟨i, hi, rfl, ht, rfl, rfl⟩
      by_cases hil : i < a.length
      · have hib : i < b.length := by omega
        have hd := sameDots_walk a[i].drops b[i].drops (hx _ (List.getElem_mem hil)).2.2.2
        refine ND.yes (by (simp only [List.length_map, List.length_append, List.length_replicate, List.length_cons, List.length_nil, List.length_take, List.length_drop]; omega)) ?_
        refine NP.mk (by kernel_rfl) ?_
        apply NDr.pure
        · exact ⟨rfl, rfl⟩
        apply NDr.pure
        · exact ⟨rfl, rfl⟩
        apply NDr.pure
        · refine NP.mk (by omega) ?_
          refine NG.mapN (by omega) ?_
          exact ⟨rfl, rfl⟩
        apply NDr.pure
        · exact ⟨rfl, rfl⟩
        apply NDr.pure
        · exact ⟨rfl, rfl⟩
        apply NDr.pure
        · exact ⟨rfl, rfl⟩
        apply NDr.pure
        · refine NP.mk (by omega) ?_
          refine NG.mapN (by omega) ?_
          exact ⟨rfl, rfl⟩
        apply NDr.pure
        · exact ⟨rfl, rfl⟩
        apply NDr.efw []
        · exact ⟨rfl, rfl⟩
        · repeat (first | exact True.intro | refine ⟨by first | exact rfl | exact True.intro, ?_⟩)
        apply NDr.efw []
        · exact ⟨rfl, rfl⟩
        · repeat (first | exact True.intro | refine ⟨by first | exact rfl | exact True.intro, ?_⟩)
        apply NDr.efw [0]
        · exact ⟨rfl, rfl⟩
        · repeat (first | exact True.intro | refine ⟨by first | exact rfl | exact True.intro, ?_⟩)
        apply NDr.efw [1]
        · exact ⟨rfl, rfl⟩
        · repeat (first | exact True.intro | refine ⟨by first | exact rfl | exact True.intro, ?_⟩)
        refine NP.mk (by kernel_rfl) ?_
        refine NB.dec (fun hk2 => ?_) (fun hk2 => ?_)
        rotate_left
        · refine NRet.boolE (b := false) ?_ (NRet.mk [] rfl ⟨.refl _, rfl⟩)
          grind
        refine NB.dec (fun hk3 => ?_) (fun hk3 => ?_)
        rotate_left
        · refine NRet.boolE (b := false) ?_ (NRet.mk [] rfl ⟨.refl _, rfl⟩)
          grind
        refine NB.dec (fun hk4 => ?_) (fun hk4 => ?_)
        rotate_left
        · refine NRet.boolE (b := false) ?_ (NRet.mk [] rfl ⟨.refl _, rfl⟩)
          grind
        refine NB.dec (fun hk5 => ?_) (fun hk5 => ?_)
        rotate_left
        · refine NRet.boolE (b := false) ?_ (NRet.mk [] rfl ⟨.refl _, rfl⟩)
          grind
        refine NB.dec (fun hk6 => ?_) (fun hk6 => ?_)
        rotate_left
        · refine NRet.boolE (b := false) ?_ (NRet.mk [] rfl ⟨.refl _, rfl⟩)
          grind
        refine NB.dec (fun hk7 => ?_) (fun hk7 => ?_)
        rotate_left
        · refine NRet.boolE (b := false) ?_ (NRet.mk [] rfl ⟨.refl _, rfl⟩)
          grind
        refine NCall.call (hd) rfl rfl ?_
        refine NB.mk (fun hk8 => ?_) (fun hk8 => ?_)
        rotate_left
        · refine NRet.boolE (b := false) ?_ (NRet.mk [] rfl ⟨.refl _, rfl⟩)
          grind
        refine NW.i64 (by omega) (by omega) ?_
        exact Canon.mk [] rfl ⟨a.length - (i + 1), by omega, i + 1, by omega, rfl, take_eq_next ht hil hib (by grind [Eff.ext_iff]), rfl, rfl⟩
      · have : i = a.length := by omega
        subst this
        rw [decide_eq_true (take_eq_end hl ht)]
        refine ND.no (by (simp only [List.length_map, List.length_append, List.length_replicate, List.length_cons, List.length_nil, List.length_take, List.length_drop]; omega)) ?_
        exact NRet.mk [] rfl ⟨.refl _, rfl⟩
  · rw [decide_eq_false fun e => hl (by rw [e])]
    refine ND.no (by (simp only [List.length_map, List.length_append, List.length_replicate, List.length_cons, List.length_nil, List.length_take, List.length_drop]; omega)) ?_
    exact NRet.mk [] rfl ⟨.refl _, rfl⟩
theorem same13_walk (a b : Txn) (ha : smTxn a) : ACalls Try.prog Nm.ref13_Same [txnA a, txnA b] [] (.bool (decide (a = b))) [] := by
  refine ACalls_of tab (dr_snd tab mixed) Nm.ref13_Same_h rfl (by kernel_rfl) (Nat.le_of_ble_eq_true rfl) rfl ?_
  obtain ⟨h1, h2, h3, h4⟩ := ha
  have hv := equal7_walk a.deps b.deps (by omega)
  have he := same10_walk a.effs b.effs (by omega) h4
  rw [txn_dec]
  refine NB.dec (fun hk1 => ?_) (fun hk1 => ?_)
  · refine NB.dec (fun hk2 => ?_) (fun hk2 => ?_)
    · refine NCall.call (hv) rfl rfl ?_
      refine NB.mk (fun hk3 => ?_) (fun hk3 => ?_)
      · refine NB.yes (by assumption) ?_
        refine NB.yes (by assumption) ?_
        refine NB.yes (by assumption) ?_
        refine NB.yes (by assumption) ?_
        refine NCall.call (he) rfl rfl ?_
        refine NB.yes (by assumption) ?_
        refine NRet.boolE ?_ (NRet.mk [] rfl ⟨.refl _, rfl⟩)
        (simp [*]; done)
      refine NB.no (by assumption) ?_
      refine NB.no (by assumption) ?_
      refine NB.no (by assumption) ?_
      refine NB.no (by assumption) ?_
      refine NB.no (by assumption) ?_
      refine NRet.boolE (b := false) ?_ (NRet.mk [] rfl ⟨.refl _, rfl⟩)
      (simp [*]; done)
    refine NRet.boolE (b := false) ?_ (NRet.mk [] rfl ⟨.refl _, rfl⟩)
    (simp [*]; done)
  refine NRet.boolE (b := false) ?_ (NRet.mk [] rfl ⟨.refl _, rfl⟩)
  (simp [*]; done)
theorem sameV_dec {a : Txn} (ha : smTxn a) : ACalls Try.prog Nm.ref13_Same [txnA a, txnA a] [] (.bool true) [] := by
  have := same13_walk a a ha
  rwa [decide_eq_true rfl] at this
theorem copy10_walk (l : List Eff) (hl : l.length ≤ 2 ^ 30) (hx : ∀ e ∈ l, smEff e) : ACalls Try.prog Nm.ref10_Copy [effsA l] [] (effsA l) [] := by
  refine ACalls_of tab (dr_snd tab mixed) Nm.ref10_Copy_h rfl (by kernel_rfl) (Nat.le_of_ble_eq_true rfl) rfl ?_
  refine NLoop.mk [(3, .agg 7)] [0, 3, 4] (fun m vs H => ∃ i, i ≤ l.length ∧ m = l.length - i ∧ H = [.row .vrow (.agg 7) ((l.take i).map effA)] ∧ vs = [effsA l, .own 0 0 ((l.take i).map effA).length, i64 i]) rfl ?_ ?_
  · exact Canon.mk [0] rfl ⟨l.length, 0, Nat.zero_le _, rfl, rfl, rfl⟩
  · rintro m vs H ⟨i, hi, rfl, rfl, rfl⟩
    by_cases hil : i < l.length
    · have hs := snocMap effA l hil
      obtain ⟨x1, x2, x3, x4⟩ := hx _ (List.getElem_mem hil)
      refine ND.yes (by (simp only [List.length_map, List.length_append, List.length_replicate, List.length_cons, List.length_nil, List.length_take, List.length_drop]; omega)) ?_
      refine NP.mk (by omega) ?_
      refine NG.mapN (by omega) ?_
      refine NFz.own ?_
      refine NApp.roA rfl (by simp; omega) ?_
      refine NFz.own ?_
      refine NApp.endA rfl (by simp; omega) ?_
      refine NW.i64 (by omega) (by omega) ?_
      exact Canon.mk [3] rfl ⟨l.length - (i + 1), by omega, i + 1, by omega, rfl, by rw [hs]; rfl, by rw [hs]; rfl⟩
    · have : i = l.length := by omega
      subst this
      rw [List.take_length]
      refine ND.no (by (simp only [List.length_map, List.length_append, List.length_replicate, List.length_cons, List.length_nil, List.length_take, List.length_drop]; omega)) ?_
      exact NRet.mk [] rfl (NFrz.mk (l.map effA) (by simp) (by rw [List.drop_zero, List.take_of_length_le (by simp)]) ⟨.refl _, rfl⟩)
theorem copy13_own (l : List Txn) (hl : l.length ≤ 2 ^ 30) (hx : ∀ t ∈ l, smTxn t) : ACalls Try.prog Nm.ref13_Copy [txnsA l] [] (.own 0 0 l.length) [.row .vrow (.agg 4) (l.map txnA)] := by
  refine ACalls_of tab (dr_snd tab mixed) Nm.ref13_Copy_h rfl (by kernel_rfl) (Nat.le_of_ble_eq_true rfl) rfl ?_
  refine NLoop.mk [(3, .agg 4)] [0, 3, 4] (fun m vs H => ∃ i, i ≤ l.length ∧ m = l.length - i ∧ H = [.row .vrow (.agg 4) ((l.take i).map txnA)] ∧ vs = [txnsA l, .own 0 0 ((l.take i).map txnA).length, i64 i]) rfl ?_ ?_
  · exact Canon.mk [0] rfl ⟨l.length, 0, Nat.zero_le _, rfl, rfl, rfl⟩
  · rintro m vs H ⟨i, hi, rfl, rfl, rfl⟩
    by_cases hil : i < l.length
    · have hs := snocMap txnA l hil
      obtain ⟨x1, x2, x3, x4⟩ := hx _ (List.getElem_mem hil)
      have h1 := copy7_walk l[i].deps (by omega)
      have h2 := copy10_walk l[i].effs (by omega) x4
      refine ND.yes (by (simp only [List.length_map, List.length_append, List.length_replicate, List.length_cons, List.length_nil, List.length_take, List.length_drop]; omega)) ?_
      refine NP.mk (by omega) ?_
      refine NG.mapN (by omega) ?_
      refine NCall.call (h1) rfl rfl ?_
      refine NCall.call (h2) rfl rfl ?_
      refine NFz.own ?_
      refine NApp.endA rfl (by simp; omega) ?_
      refine NW.i64 (by omega) (by omega) ?_
      exact Canon.mk [2] rfl ⟨l.length - (i + 1), by omega, i + 1, by omega, rfl, by rw [hs]; rfl, by rw [hs]; rfl⟩
    · have : i = l.length := by omega
      subst this
      rw [List.take_length]
      refine ND.no (by (simp only [List.length_map, List.length_append, List.length_replicate, List.length_cons, List.length_nil, List.length_take, List.length_drop]; omega)) ?_
      exact NRet.mk [0] rfl ⟨by rw [List.length_map]; exact .refl _, rfl⟩
theorem copy13_walk (l : List Txn) (hl : l.length ≤ 2 ^ 30) (hx : ∀ t ∈ l, smTxn t) : ACalls Try.prog Nm.ref13_Copy [txnsA l] [] (txnsA l) [] := (copy13_own l hl hx).drop (dropL (by simp))
def shortE (e : Eff) : Bool := decide (e.key.length ≤ 300 ∧ e.field.length ≤ 300 ∧ e.elem.length ≤ 300 ∧ e.drops.length ≤ 70)
def shortEs (l : List Eff) : Bool := decide (l.length ≤ 20) && l.all shortE
def shortT (l : List Txn) : Bool := decide (l.length ≤ 24) && l.all fun t => decide (t.deps.length ≤ 60) && shortEs t.effs
theorem short10_walk (l : List Eff) (hl : l.length ≤ 2 ^ 47) (hx : ∀ e ∈ l, okEff e) : ACalls Try.prog Nm.ref10_Short [effsA l] [] (.bool (shortEs l)) [] := by
  refine ACalls_of tab (dr_snd tab mixed) Nm.ref10_Short_h rfl (by kernel_rfl) (Nat.le_of_ble_eq_true rfl) rfl ?_
  unfold shortEs
  by_cases h : l.length ≤ 20
  · rw [decide_eq_true h, Bool.true_and]
    refine ND.no (by (simp only [List.length_map, List.length_append, List.length_replicate, List.length_cons, List.length_nil, List.length_take, List.length_drop]; omega)) ?_
    refine NLoop.mk [] [0, 3] (fun m vs H => ∃ i, i ≤ l.length ∧ m = l.length - i ∧ (∀ x ∈ l.take i, shortE x = true) ∧ H = [] ∧ vs = [effsA l, i64 i]) rfl ?_ ?_
    · exact Canon.mk [] rfl ⟨l.length, 0, Nat.zero_le _, rfl, by simp, rfl, rfl⟩
    · rintro m vs H ⟨i, hi, rfl, ht, rfl, rfl⟩
      by_cases hil : i < l.length
      · obtain ⟨f1, f2⟩ := all_step hil ht
        obtain ⟨_, x1, x2, _, x3, _, x4, _⟩ := hx _ (List.getElem_mem hil)
        have x1 := reach_lt x1
        have x2 := reach_lt x2
        have x3 := reach_lt x3
        have x4 := reach_lt x4
        cases hp : shortE l[i] with
        | true =>
          have hp' := hp
          unfold shortE at hp'
          simp only [decide_eq_true_eq] at hp'
          refine ND.yes (by (simp only [List.length_map, List.length_append, List.length_replicate, List.length_cons, List.length_nil, List.length_take, List.length_drop]; omega)) ?_
          refine NP.mk (by omega) ?_
          refine NG.mapN (by omega) ?_
          refine ND.no (by omega) ?_
          refine NP.mk (by omega) ?_
          refine NG.mapN (by omega) ?_
          refine ND.no (by omega) ?_
          refine NP.mk (by omega) ?_
          refine NG.mapN (by omega) ?_
          refine ND.no (by omega) ?_
          refine NP.mk (by omega) ?_
          refine NG.mapN (by omega) ?_
          refine ND.no (by (simp only [List.length_map, List.length_append, List.length_replicate, List.length_cons, List.length_nil, List.length_take, List.length_drop]; omega)) ?_
          refine NW.i64 (by omega) (by omega) ?_
          exact Canon.mk [] rfl ⟨l.length - (i + 1), by omega, i + 1, by omega, rfl, f2 hp, rfl, rfl⟩
        | false =>
          rw [f1 hp]
          have hp' := hp
          unfold shortE at hp'
          simp only [decide_eq_false_iff_not] at hp'
          refine ND.yes (by (simp only [List.length_map, List.length_append, List.length_replicate, List.length_cons, List.length_nil, List.length_take, List.length_drop]; omega)) ?_
          refine NP.mk (by omega) ?_
          refine NG.mapN (by omega) ?_
          refine NB.dec (fun hk2 => ?_) (fun hk2 => ?_)
          · exact NRet.mk [] rfl ⟨.refl _, rfl⟩
          refine NP.mk (by omega) ?_
          refine NG.mapN (by omega) ?_
          refine NB.dec (fun hk3 => ?_) (fun hk3 => ?_)
          · exact NRet.mk [] rfl ⟨.refl _, rfl⟩
          refine NP.mk (by omega) ?_
          refine NG.mapN (by omega) ?_
          refine NB.dec (fun hk4 => ?_) (fun hk4 => ?_)
          · exact NRet.mk [] rfl ⟨.refl _, rfl⟩
          refine NP.mk (by omega) ?_
          refine NG.mapN (by omega) ?_
          refine ND.yes (by (simp only [List.length_map, List.length_append, List.length_replicate, List.length_cons, List.length_nil, List.length_take, List.length_drop]; omega)) ?_
          exact NRet.mk [] rfl ⟨.refl _, rfl⟩
      · have : i = l.length := by omega
        subst this
        rw [all_end ht]
        refine ND.no (by (simp only [List.length_map, List.length_append, List.length_replicate, List.length_cons, List.length_nil, List.length_take, List.length_drop]; omega)) ?_
        exact NRet.mk [] rfl ⟨.refl _, rfl⟩
  · rw [decide_eq_false h, Bool.false_and]
    refine ND.yes (by (simp only [List.length_map, List.length_append, List.length_replicate, List.length_cons, List.length_nil, List.length_take, List.length_drop]; omega)) ?_
    exact NRet.mk [] rfl ⟨.refl _, rfl⟩
theorem short13_walk (l : List Txn) (hl : l.length ≤ 2 ^ 47) (hx : ∀ e ∈ l, okTxn e) : ACalls Try.prog Nm.ref13_Short [txnsA l] [] (.bool (shortT l)) [] := by
  refine ACalls_of tab (dr_snd tab mixed) Nm.ref13_Short_h rfl (by kernel_rfl) (Nat.le_of_ble_eq_true rfl) rfl ?_
  unfold shortT
  by_cases h : l.length ≤ 24
  · rw [decide_eq_true h, Bool.true_and]
    refine ND.no (by (simp only [List.length_map, List.length_append, List.length_replicate, List.length_cons, List.length_nil, List.length_take, List.length_drop]; omega)) ?_
    refine NLoop.mk [] [0, 3] (fun m vs H => ∃ i, i ≤ l.length ∧ m = l.length - i ∧ (∀ x ∈ l.take i, (decide (x.deps.length ≤ 60) && shortEs x.effs) = true) ∧ H = [] ∧ vs = [txnsA l, i64 i]) rfl ?_ ?_
    · exact Canon.mk [] rfl ⟨l.length, 0, Nat.zero_le _, rfl, by simp, rfl, rfl⟩
    · rintro m vs H ⟨i, hi, rfl, ht, rfl, rfl⟩
      by_cases hil : i < l.length
      · obtain ⟨f1, f2⟩ := all_step hil ht
        obtain ⟨_, _, ⟨x1, _⟩, ⟨x2, x3⟩⟩ := hx _ (List.getElem_mem hil)
        have x1 := reach_lt x1
        have x2 := reach_lt x2
        have hs := short10_walk l[i].effs (by omega) x3
        by_cases hd : l[i].deps.length ≤ 60
        · cases hp : shortEs l[i].effs with
          | true =>
            rw [hp] at hs
            refine ND.yes (by (simp only [List.length_map, List.length_append, List.length_replicate, List.length_cons, List.length_nil, List.length_take, List.length_drop]; omega)) ?_
            refine NP.mk (by omega) ?_
            refine NG.mapN (by omega) ?_
            refine ND.no (by (simp only [List.length_map, List.length_append, List.length_replicate, List.length_cons, List.length_nil, List.length_take, List.length_drop]; omega)) ?_
            refine NP.mk (by omega) ?_
            refine NG.mapN (by omega) ?_
            refine NCall.call (hs) rfl rfl ?_
            refine NW.i64 (by omega) (by omega) ?_
            exact Canon.mk [] rfl ⟨l.length - (i + 1), by omega, i + 1, by omega, rfl, f2 (by rw [decide_eq_true hd, hp]; rfl), rfl, rfl⟩
          | false =>
            rw [hp] at hs
            rw [f1 (by rw [hp, Bool.and_false])]
            refine ND.yes (by (simp only [List.length_map, List.length_append, List.length_replicate, List.length_cons, List.length_nil, List.length_take, List.length_drop]; omega)) ?_
            refine NP.mk (by omega) ?_
            refine NG.mapN (by omega) ?_
            refine ND.no (by (simp only [List.length_map, List.length_append, List.length_replicate, List.length_cons, List.length_nil, List.length_take, List.length_drop]; omega)) ?_
            refine NP.mk (by omega) ?_
            refine NG.mapN (by omega) ?_
            refine NCall.call (hs) rfl rfl ?_
            exact NRet.mk [] rfl ⟨.refl _, rfl⟩
        · rw [f1 (by rw [decide_eq_false hd]; rfl)]
          refine ND.yes (by (simp only [List.length_map, List.length_append, List.length_replicate, List.length_cons, List.length_nil, List.length_take, List.length_drop]; omega)) ?_
          refine NP.mk (by omega) ?_
          refine NG.mapN (by omega) ?_
          refine ND.yes (by (simp only [List.length_map, List.length_append, List.length_replicate, List.length_cons, List.length_nil, List.length_take, List.length_drop]; omega)) ?_
          exact NRet.mk [] rfl ⟨.refl _, rfl⟩
      · have : i = l.length := by omega
        subst this
        rw [all_end ht]
        refine ND.no (by (simp only [List.length_map, List.length_append, List.length_replicate, List.length_cons, List.length_nil, List.length_take, List.length_drop]; omega)) ?_
        exact NRet.mk [] rfl ⟨.refl _, rfl⟩
  · rw [decide_eq_false h, Bool.false_and]
    refine ND.yes (by (simp only [List.length_map, List.length_append, List.length_replicate, List.length_cons, List.length_nil, List.length_take, List.length_drop]; omega)) ?_
    exact NRet.mk [] rfl ⟨.refl _, rfl⟩
end Go.Bv
