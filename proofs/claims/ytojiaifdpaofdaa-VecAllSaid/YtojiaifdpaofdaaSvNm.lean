/- Part of the lift: an abstract walk of the program's code, proved sound, and what it shows of this program. -/
import Derived.Test.YtojiaifdpaofdaaBvTy
import Derived.Test.YtojiaifdpaofdaaChecked
namespace Go.Bv.Nm
open Go Go.Proofs
abbrev law03_BinSize : Nat := 3
noncomputable abbrev law03_BinSize_f : Func := Try.f3
theorem law03_BinSize_h : Try.prog.funcs[law03_BinSize]? = some law03_BinSize_f := Try.func3
abbrev law03_BinOne : Nat := 4
noncomputable abbrev law03_BinOne_f : Func := Try.f4
theorem law03_BinOne_h : Try.prog.funcs[law03_BinOne]? = some law03_BinOne_f := Try.func4
abbrev law03_BinPuts : Nat := 5
noncomputable abbrev law03_BinPuts_f : Func := Try.f5
theorem law03_BinPuts_h : Try.prog.funcs[law03_BinPuts]? = some law03_BinPuts_f := Try.func5
abbrev law03_BinBack : Nat := 6
noncomputable abbrev law03_BinBack_f : Func := Try.f6
theorem law03_BinBack_h : Try.prog.funcs[law03_BinBack]? = some law03_BinBack_f := Try.func6
abbrev law05_DiskFull : Nat := 7
noncomputable abbrev law05_DiskFull_f : Func := Try.f7
theorem law05_DiskFull_h : Try.prog.funcs[law05_DiskFull]? = some law05_DiskFull_f := Try.func7
abbrev law05_DiskKeeps : Nat := 8
noncomputable abbrev law05_DiskKeeps_f : Func := Try.f8
theorem law05_DiskKeeps_h : Try.prog.funcs[law05_DiskKeeps]? = some law05_DiskKeeps_f := Try.func8
abbrev law05_DiskOnce : Nat := 9
noncomputable abbrev law05_DiskOnce_f : Func := Try.f9
theorem law05_DiskOnce_h : Try.prog.funcs[law05_DiskOnce]? = some law05_DiskOnce_f := Try.func9
abbrev law05_DiskAll : Nat := 10
noncomputable abbrev law05_DiskAll_f : Func := Try.f10
theorem law05_DiskAll_h : Try.prog.funcs[law05_DiskAll]? = some law05_DiskAll_f := Try.func10
abbrev law07_VecJoin : Nat := 11
noncomputable abbrev law07_VecJoin_f : Func := Try.f11
theorem law07_VecJoin_h : Try.prog.funcs[law07_VecJoin]? = some law07_VecJoin_f := Try.func11
abbrev law07_VecLaws : Nat := 12
noncomputable abbrev law07_VecLaws_f : Func := Try.f12
theorem law07_VecLaws_h : Try.prog.funcs[law07_VecLaws]? = some law07_VecLaws_f := Try.func12
abbrev law07_VecWith : Nat := 13
noncomputable abbrev law07_VecWith_f : Func := Try.f13
theorem law07_VecWith_h : Try.prog.funcs[law07_VecWith]? = some law07_VecWith_f := Try.func13
abbrev law07_VecAll : Nat := 14
noncomputable abbrev law07_VecAll_f : Func := Try.f14
theorem law07_VecAll_h : Try.prog.funcs[law07_VecAll]? = some law07_VecAll_f := Try.func14
abbrev law03_awake : Nat := 15
noncomputable abbrev law03_awake_f : Func := Try.f15
theorem law03_awake_h : Try.prog.funcs[law03_awake]? = some law03_awake_f := Try.func15
abbrev bin_PutNum : Nat := 16
noncomputable abbrev bin_PutNum_f : Func := Try.f16
theorem bin_PutNum_h : Try.prog.funcs[bin_PutNum]? = some bin_PutNum_f := Try.func16
abbrev bin_Num : Nat := 17
noncomputable abbrev bin_Num_f : Func := Try.f17
theorem bin_Num_h : Try.prog.funcs[bin_Num]? = some bin_Num_f := Try.func17
abbrev ref02_Same : Nat := 18
noncomputable abbrev ref02_Same_f : Func := Try.f18
theorem ref02_Same_h : Try.prog.funcs[ref02_Same]? = some ref02_Same_f := Try.func18
abbrev bin_Text : Nat := 19
noncomputable abbrev bin_Text_f : Func := Try.f19
theorem bin_Text_h : Try.prog.funcs[bin_Text]? = some bin_Text_f := Try.func19
abbrev bin_PutText : Nat := 20
noncomputable abbrev bin_PutText_f : Func := Try.f20
theorem bin_PutText_h : Try.prog.funcs[bin_PutText]? = some bin_PutText_f := Try.func20
abbrev ref02_Copy : Nat := 21
noncomputable abbrev ref02_Copy_f : Func := Try.f21
theorem ref02_Copy_h : Try.prog.funcs[ref02_Copy]? = some ref02_Copy_f := Try.func21
abbrev ref03_PutNum : Nat := 22
noncomputable abbrev ref03_PutNum_f : Func := Try.f22
theorem ref03_PutNum_h : Try.prog.funcs[ref03_PutNum]? = some ref03_PutNum_f := Try.func22
abbrev bin_PutInt : Nat := 23
noncomputable abbrev bin_PutInt_f : Func := Try.f23
theorem bin_PutInt_h : Try.prog.funcs[bin_PutInt]? = some bin_PutInt_f := Try.func23
abbrev ref03_Int : Nat := 24
noncomputable abbrev ref03_Int_f : Func := Try.f24
theorem ref03_Int_h : Try.prog.funcs[ref03_Int]? = some ref03_Int_f := Try.func24
abbrev ref03_Text : Nat := 25
noncomputable abbrev ref03_Text_f : Func := Try.f25
theorem ref03_Text_h : Try.prog.funcs[ref03_Text]? = some ref03_Text_f := Try.func25
abbrev bin_Int : Nat := 26
noncomputable abbrev bin_Int_f : Func := Try.f26
theorem bin_Int_h : Try.prog.funcs[bin_Int]? = some bin_Int_f := Try.func26
abbrev law05_awake : Nat := 27
noncomputable abbrev law05_awake_f : Func := Try.f27
theorem law05_awake_h : Try.prog.funcs[law05_awake]? = some law05_awake_f := Try.func27
abbrev disk_Write : Nat := 28
noncomputable abbrev disk_Write_f : Func := Try.f28
theorem disk_Write_h : Try.prog.funcs[disk_Write]? = some disk_Write_f := Try.func28
abbrev disk_All : Nat := 29
noncomputable abbrev disk_All_f : Func := Try.f29
theorem disk_All_h : Try.prog.funcs[disk_All]? = some disk_All_f := Try.func29
abbrev disk_Sync : Nat := 30
noncomputable abbrev disk_Sync_f : Func := Try.f30
theorem disk_Sync_h : Try.prog.funcs[disk_Sync]? = some disk_Sync_f := Try.func30
abbrev disk_Crash : Nat := 31
noncomputable abbrev disk_Crash_f : Func := Try.f31
theorem disk_Crash_h : Try.prog.funcs[disk_Crash]? = some disk_Crash_f := Try.func31
abbrev ref05_Same : Nat := 32
noncomputable abbrev ref05_Same_f : Func := Try.f32
theorem ref05_Same_h : Try.prog.funcs[ref05_Same]? = some ref05_Same_f := Try.func32
abbrev ref05_Copy : Nat := 33
noncomputable abbrev ref05_Copy_f : Func := Try.f33
theorem ref05_Copy_h : Try.prog.funcs[ref05_Copy]? = some ref05_Copy_f := Try.func33
abbrev ref05_Write : Nat := 34
noncomputable abbrev ref05_Write_f : Func := Try.f34
theorem ref05_Write_h : Try.prog.funcs[ref05_Write]? = some ref05_Write_f := Try.func34
abbrev ref05_Crash : Nat := 35
noncomputable abbrev ref05_Crash_f : Func := Try.f35
theorem ref05_Crash_h : Try.prog.funcs[ref05_Crash]? = some ref05_Crash_f := Try.func35
abbrev ref05_First : Nat := 36
noncomputable abbrev ref05_First_f : Func := Try.f36
theorem ref05_First_h : Try.prog.funcs[ref05_First]? = some ref05_First_f := Try.func36
abbrev ref05_Size : Nat := 37
noncomputable abbrev ref05_Size_f : Func := Try.f37
theorem ref05_Size_h : Try.prog.funcs[ref05_Size]? = some ref05_Size_f := Try.func37
abbrev disk_Cut : Nat := 38
noncomputable abbrev disk_Cut_f : Func := Try.f38
theorem disk_Cut_h : Try.prog.funcs[disk_Cut]? = some disk_Cut_f := Try.func38
abbrev law07_awake : Nat := 39
noncomputable abbrev law07_awake_f : Func := Try.f39
theorem law07_awake_h : Try.prog.funcs[law07_awake]? = some law07_awake_f := Try.func39
abbrev law07_few : Nat := 40
noncomputable abbrev law07_few_f : Func := Try.f40
theorem law07_few_h : Try.prog.funcs[law07_few]? = some law07_few_f := Try.func40
abbrev vec_Join : Nat := 41
noncomputable abbrev vec_Join_f : Func := Try.f41
theorem vec_Join_h : Try.prog.funcs[vec_Join]? = some vec_Join_f := Try.func41
abbrev vec_Meet : Nat := 42
noncomputable abbrev vec_Meet_f : Func := Try.f42
theorem vec_Meet_h : Try.prog.funcs[vec_Meet]? = some vec_Meet_f := Try.func42
abbrev vec_Within : Nat := 43
noncomputable abbrev vec_Within_f : Func := Try.f43
theorem vec_Within_h : Try.prog.funcs[vec_Within]? = some vec_Within_f := Try.func43
abbrev ref07_Equal : Nat := 44
noncomputable abbrev ref07_Equal_f : Func := Try.f44
theorem ref07_Equal_h : Try.prog.funcs[ref07_Equal]? = some ref07_Equal_f := Try.func44
abbrev vec_Trim : Nat := 45
noncomputable abbrev vec_Trim_f : Func := Try.f45
theorem vec_Trim_h : Try.prog.funcs[vec_Trim]? = some vec_Trim_f := Try.func45
abbrev vec_With : Nat := 46
noncomputable abbrev vec_With_f : Func := Try.f46
theorem vec_With_h : Try.prog.funcs[vec_With]? = some vec_With_f := Try.func46
abbrev vec_At : Nat := 47
noncomputable abbrev vec_At_f : Func := Try.f47
theorem vec_At_h : Try.prog.funcs[vec_At]? = some vec_At_f := Try.func47
abbrev ref07_Copy : Nat := 48
noncomputable abbrev ref07_Copy_f : Func := Try.f48
theorem ref07_Copy_h : Try.prog.funcs[ref07_Copy]? = some ref07_Copy_f := Try.func48
abbrev ref07_With : Nat := 49
noncomputable abbrev ref07_With_f : Func := Try.f49
theorem ref07_With_h : Try.prog.funcs[ref07_With]? = some ref07_With_f := Try.func49
abbrev ref07_At : Nat := 50
noncomputable abbrev ref07_At_f : Func := Try.f50
theorem ref07_At_h : Try.prog.funcs[ref07_At]? = some ref07_At_f := Try.func50
abbrev ref07_Trim : Nat := 51
noncomputable abbrev ref07_Trim_f : Func := Try.f51
theorem ref07_Trim_h : Try.prog.funcs[ref07_Trim]? = some ref07_Trim_f := Try.func51
abbrev ref07_Lay : Nat := 52
noncomputable abbrev ref07_Lay_f : Func := Try.f52
theorem ref07_Lay_h : Try.prog.funcs[ref07_Lay]? = some ref07_Lay_f := Try.func52
abbrev ref07_Within : Nat := 53
noncomputable abbrev ref07_Within_f : Func := Try.f53
theorem ref07_Within_h : Try.prog.funcs[ref07_Within]? = some ref07_Within_f := Try.func53
abbrev vec_Has : Nat := 54
noncomputable abbrev vec_Has_f : Func := Try.f54
theorem vec_Has_h : Try.prog.funcs[vec_Has]? = some vec_Has_f := Try.func54
abbrev slices_Clone_byte_byte : Nat := 55
noncomputable abbrev slices_Clone_byte_byte_f : Func := Try.f55
theorem slices_Clone_byte_byte_h : Try.prog.funcs[slices_Clone_byte_byte]? = some slices_Clone_byte_byte_f := Try.func55
abbrev ref03_Num : Nat := 56
noncomputable abbrev ref03_Num_f : Func := Try.f56
theorem ref03_Num_h : Try.prog.funcs[ref03_Num]? = some ref03_Num_f := Try.func56
abbrev slices_Concat_byte_byte : Nat := 57
noncomputable abbrev slices_Concat_byte_byte_f : Func := Try.f57
theorem slices_Concat_byte_byte_h : Try.prog.funcs[slices_Concat_byte_byte]? = some slices_Concat_byte_byte_f := Try.func57
abbrev ref05_size : Nat := 58
noncomputable abbrev ref05_size_f : Func := Try.f58
theorem ref05_size_h : Try.prog.funcs[ref05_size]? = some ref05_size_f := Try.func58
abbrev ref05_at : Nat := 59
noncomputable abbrev ref05_at_f : Func := Try.f59
theorem ref05_at_h : Try.prog.funcs[ref05_at]? = some ref05_at_f := Try.func59
abbrev vec_both : Nat := 60
noncomputable abbrev vec_both_f : Func := Try.f60
theorem vec_both_h : Try.prog.funcs[vec_both]? = some vec_both_f := Try.func60
abbrev vec_Join_1 : Nat := 61
noncomputable abbrev vec_Join_1_f : Func := Try.f61
theorem vec_Join_1_h : Try.prog.funcs[vec_Join_1]? = some vec_Join_1_f := Try.func61
abbrev vec_Meet_1 : Nat := 62
noncomputable abbrev vec_Meet_1_f : Func := Try.f62
theorem vec_Meet_1_h : Try.prog.funcs[vec_Meet_1]? = some vec_Meet_1_f := Try.func62
abbrev slices_Clone_api_Vec_int : Nat := 63
noncomputable abbrev slices_Clone_api_Vec_int_f : Func := Try.f63
theorem slices_Clone_api_Vec_int_h : Try.prog.funcs[slices_Clone_api_Vec_int]? = some slices_Clone_api_Vec_int_f := Try.func63
abbrev ref07_Same : Nat := 64
noncomputable abbrev ref07_Same_f : Func := Try.f64
theorem ref07_Same_h : Try.prog.funcs[ref07_Same]? = some ref07_Same_f := Try.func64
abbrev slices_Grow_byte_byte : Nat := 65
noncomputable abbrev slices_Grow_byte_byte_f : Func := Try.f65
theorem slices_Grow_byte_byte_h : Try.prog.funcs[slices_Grow_byte_byte]? = some slices_Grow_byte_byte_f := Try.func65
end Go.Bv.Nm
