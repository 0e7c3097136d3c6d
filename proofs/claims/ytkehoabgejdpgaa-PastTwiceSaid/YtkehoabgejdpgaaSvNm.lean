/- Part of the lift: an abstract walk of the program's code, proved sound, and what it shows of this program. -/
import Derived.Test.YtkehoabgejdpgaaBvTy
import Derived.Test.YtkehoabgejdpgaaChecked
namespace Go.Bv.Nm
open Go Go.Proofs
abbrev law14_OrderAll : Nat := 3
noncomputable abbrev law14_OrderAll_f : Func := Try.f3
theorem law14_OrderAll_h : Try.prog.funcs[law14_OrderAll]? = some law14_OrderAll_f := Try.func3
abbrev law14_OrderChain : Nat := 4
noncomputable abbrev law14_OrderChain_f : Func := Try.f4
theorem law14_OrderChain_h : Try.prog.funcs[law14_OrderChain]? = some law14_OrderChain_f := Try.func4
abbrev law14_OrderAny : Nat := 5
noncomputable abbrev law14_OrderAny_f : Func := Try.f5
theorem law14_OrderAny_h : Try.prog.funcs[law14_OrderAny]? = some law14_OrderAny_f := Try.func5
abbrev law14_OrderTwice : Nat := 6
noncomputable abbrev law14_OrderTwice_f : Func := Try.f6
theorem law14_OrderTwice_h : Try.prog.funcs[law14_OrderTwice]? = some law14_OrderTwice_f := Try.func6
abbrev law14_OrderDoubled : Nat := 7
noncomputable abbrev law14_OrderDoubled_f : Func := Try.f7
theorem law14_OrderDoubled_h : Try.prog.funcs[law14_OrderDoubled]? = some law14_OrderDoubled_f := Try.func7
abbrev law20_QueueAll : Nat := 8
noncomputable abbrev law20_QueueAll_f : Func := Try.f8
theorem law20_QueueAll_h : Try.prog.funcs[law20_QueueAll]? = some law20_QueueAll_f := Try.func8
abbrev law20_QueueKeeps : Nat := 9
noncomputable abbrev law20_QueueKeeps_f : Func := Try.f9
theorem law20_QueueKeeps_h : Try.prog.funcs[law20_QueueKeeps]? = some law20_QueueKeeps_f := Try.func9
abbrev law20_QueueHeard : Nat := 10
noncomputable abbrev law20_QueueHeard_f : Func := Try.f10
theorem law20_QueueHeard_h : Try.prog.funcs[law20_QueueHeard]? = some law20_QueueHeard_f := Try.func10
abbrev law16_PastGrows : Nat := 11
noncomputable abbrev law16_PastGrows_f : Func := Try.f11
theorem law16_PastGrows_h : Try.prog.funcs[law16_PastGrows]? = some law16_PastGrows_f := Try.func11
abbrev law16_PastKeeps : Nat := 12
noncomputable abbrev law16_PastKeeps_f : Func := Try.f12
theorem law16_PastKeeps_h : Try.prog.funcs[law16_PastKeeps]? = some law16_PastKeeps_f := Try.func12
abbrev law16_PastAll : Nat := 13
noncomputable abbrev law16_PastAll_f : Func := Try.f13
theorem law16_PastAll_h : Try.prog.funcs[law16_PastAll]? = some law16_PastAll_f := Try.func13
abbrev law16_PastPruned : Nat := 14
noncomputable abbrev law16_PastPruned_f : Func := Try.f14
theorem law16_PastPruned_h : Try.prog.funcs[law16_PastPruned]? = some law16_PastPruned_f := Try.func14
abbrev law16_PastTwice : Nat := 15
noncomputable abbrev law16_PastTwice_f : Func := Try.f15
theorem law16_PastTwice_h : Try.prog.funcs[law16_PastTwice]? = some law16_PastTwice_f := Try.func15
abbrev law14_awake : Nat := 16
noncomputable abbrev law14_awake_f : Func := Try.f16
theorem law14_awake_h : Try.prog.funcs[law14_awake]? = some law14_awake_f := Try.func16
abbrev ref13_Short : Nat := 17
noncomputable abbrev ref13_Short_f : Func := Try.f17
theorem ref13_Short_h : Try.prog.funcs[ref13_Short]? = some ref13_Short_f := Try.func17
abbrev ref13_Copy : Nat := 18
noncomputable abbrev ref13_Copy_f : Func := Try.f18
theorem ref13_Copy_h : Try.prog.funcs[ref13_Copy]? = some ref13_Copy_f := Try.func18
abbrev ref07_Copy : Nat := 19
noncomputable abbrev ref07_Copy_f : Func := Try.f19
theorem ref07_Copy_h : Try.prog.funcs[ref07_Copy]? = some ref07_Copy_f := Try.func19
abbrev order_Take : Nat := 20
noncomputable abbrev order_Take_f : Func := Try.f20
theorem order_Take_h : Try.prog.funcs[order_Take]? = some order_Take_f := Try.func20
abbrev ref14_Take : Nat := 21
noncomputable abbrev ref14_Take_f : Func := Try.f21
theorem ref14_Take_h : Try.prog.funcs[ref14_Take]? = some ref14_Take_f := Try.func21
abbrev ref13_SameAll : Nat := 22
noncomputable abbrev ref13_SameAll_f : Func := Try.f22
theorem ref13_SameAll_h : Try.prog.funcs[ref13_SameAll]? = some ref13_SameAll_f := Try.func22
abbrev ref07_Equal : Nat := 23
noncomputable abbrev ref07_Equal_f : Func := Try.f23
theorem ref07_Equal_h : Try.prog.funcs[ref07_Equal]? = some ref07_Equal_f := Try.func23
abbrev order_Chain : Nat := 24
noncomputable abbrev order_Chain_f : Func := Try.f24
theorem order_Chain_h : Try.prog.funcs[order_Chain]? = some order_Chain_f := Try.func24
abbrev ref14_Chain : Nat := 25
noncomputable abbrev ref14_Chain_f : Func := Try.f25
theorem ref14_Chain_h : Try.prog.funcs[ref14_Chain]? = some ref14_Chain_f := Try.func25
abbrev order_Ready : Nat := 26
noncomputable abbrev order_Ready_f : Func := Try.f26
theorem order_Ready_h : Try.prog.funcs[order_Ready]? = some order_Ready_f := Try.func26
abbrev ref14_Ready : Nat := 27
noncomputable abbrev ref14_Ready_f : Func := Try.f27
theorem ref14_Ready_h : Try.prog.funcs[ref14_Ready]? = some ref14_Ready_f := Try.func27
abbrev order_Next : Nat := 28
noncomputable abbrev order_Next_f : Func := Try.f28
theorem order_Next_h : Try.prog.funcs[order_Next]? = some order_Next_f := Try.func28
abbrev ref14_Next : Nat := 29
noncomputable abbrev ref14_Next_f : Func := Try.f29
theorem ref14_Next_h : Try.prog.funcs[ref14_Next]? = some ref14_Next_f := Try.func29
abbrev ref14_Twice : Nat := 30
noncomputable abbrev ref14_Twice_f : Func := Try.f30
theorem ref14_Twice_h : Try.prog.funcs[ref14_Twice]? = some ref14_Twice_f := Try.func30
abbrev ref07_Within : Nat := 31
noncomputable abbrev ref07_Within_f : Func := Try.f31
theorem ref07_Within_h : Try.prog.funcs[ref07_Within]? = some ref07_Within_f := Try.func31
abbrev ref07_Same : Nat := 32
noncomputable abbrev ref07_Same_f : Func := Try.f32
theorem ref07_Same_h : Try.prog.funcs[ref07_Same]? = some ref07_Same_f := Try.func32
abbrev ref13_Same : Nat := 33
noncomputable abbrev ref13_Same_f : Func := Try.f33
theorem ref13_Same_h : Try.prog.funcs[ref13_Same]? = some ref13_Same_f := Try.func33
abbrev ref13_Formed : Nat := 34
noncomputable abbrev ref13_Formed_f : Func := Try.f34
theorem ref13_Formed_h : Try.prog.funcs[ref13_Formed]? = some ref13_Formed_f := Try.func34
abbrev law20_awake : Nat := 35
noncomputable abbrev law20_awake_f : Func := Try.f35
theorem law20_awake_h : Try.prog.funcs[law20_awake]? = some law20_awake_f := Try.func35
abbrev queue_New : Nat := 36
noncomputable abbrev queue_New_f : Func := Try.f36
theorem queue_New_h : Try.prog.funcs[queue_New]? = some queue_New_f := Try.func36
abbrev ref20_Same : Nat := 37
noncomputable abbrev ref20_Same_f : Func := Try.f37
theorem ref20_Same_h : Try.prog.funcs[ref20_Same]? = some ref20_Same_f := Try.func37
abbrev queue_Push : Nat := 38
noncomputable abbrev queue_Push_f : Func := Try.f38
theorem queue_Push_h : Try.prog.funcs[queue_Push]? = some queue_Push_f := Try.func38
abbrev ref20_Push : Nat := 39
noncomputable abbrev ref20_Push_f : Func := Try.f39
theorem ref20_Push_h : Try.prog.funcs[ref20_Push]? = some ref20_Push_f := Try.func39
abbrev queue_Heard : Nat := 40
noncomputable abbrev queue_Heard_f : Func := Try.f40
theorem queue_Heard_h : Try.prog.funcs[queue_Heard]? = some queue_Heard_f := Try.func40
abbrev ref20_Heard : Nat := 41
noncomputable abbrev ref20_Heard_f : Func := Try.f41
theorem ref20_Heard_h : Try.prog.funcs[ref20_Heard]? = some ref20_Heard_f := Try.func41
abbrev queue_Last : Nat := 42
noncomputable abbrev queue_Last_f : Func := Try.f42
theorem queue_Last_h : Try.prog.funcs[queue_Last]? = some queue_Last_f := Try.func42
abbrev vec_Join : Nat := 43
noncomputable abbrev vec_Join_f : Func := Try.f43
theorem vec_Join_h : Try.prog.funcs[vec_Join]? = some vec_Join_f := Try.func43
abbrev law16_awake : Nat := 44
noncomputable abbrev law16_awake_f : Func := Try.f44
theorem law16_awake_h : Try.prog.funcs[law16_awake]? = some law16_awake_f := Try.func44
abbrev ref16_Short : Nat := 45
noncomputable abbrev ref16_Short_f : Func := Try.f45
theorem ref16_Short_h : Try.prog.funcs[ref16_Short]? = some ref16_Short_f := Try.func45
abbrev past_Keep : Nat := 46
noncomputable abbrev past_Keep_f : Func := Try.f46
theorem past_Keep_h : Try.prog.funcs[past_Keep]? = some past_Keep_f := Try.func46
abbrev past_Since : Nat := 47
noncomputable abbrev past_Since_f : Func := Try.f47
theorem past_Since_h : Try.prog.funcs[past_Since]? = some past_Since_f := Try.func47
abbrev vec_Has : Nat := 48
noncomputable abbrev vec_Has_f : Func := Try.f48
theorem vec_Has_h : Try.prog.funcs[vec_Has]? = some vec_Has_f := Try.func48
abbrev past_Sound : Nat := 49
noncomputable abbrev past_Sound_f : Func := Try.f49
theorem past_Sound_h : Try.prog.funcs[past_Sound]? = some past_Sound_f := Try.func49
abbrev ref16_Closed : Nat := 50
noncomputable abbrev ref16_Closed_f : Func := Try.f50
theorem ref16_Closed_h : Try.prog.funcs[ref16_Closed]? = some ref16_Closed_f := Try.func50
abbrev vec_Within : Nat := 51
noncomputable abbrev vec_Within_f : Func := Try.f51
theorem vec_Within_h : Try.prog.funcs[vec_Within]? = some vec_Within_f := Try.func51
abbrev past_End : Nat := 52
noncomputable abbrev past_End_f : Func := Try.f52
theorem past_End_h : Try.prog.funcs[past_End]? = some past_End_f := Try.func52
abbrev ref16_Keep : Nat := 53
noncomputable abbrev ref16_Keep_f : Func := Try.f53
theorem ref16_Keep_h : Try.prog.funcs[ref16_Keep]? = some ref16_Keep_f := Try.func53
abbrev ref16_Same : Nat := 54
noncomputable abbrev ref16_Same_f : Func := Try.f54
theorem ref16_Same_h : Try.prog.funcs[ref16_Same]? = some ref16_Same_f := Try.func54
abbrev ref16_Sound : Nat := 55
noncomputable abbrev ref16_Sound_f : Func := Try.f55
theorem ref16_Sound_h : Try.prog.funcs[ref16_Sound]? = some ref16_Sound_f := Try.func55
abbrev ref16_End : Nat := 56
noncomputable abbrev ref16_End_f : Func := Try.f56
theorem ref16_End_h : Try.prog.funcs[ref16_End]? = some ref16_End_f := Try.func56
abbrev past_Prune : Nat := 57
noncomputable abbrev past_Prune_f : Func := Try.f57
theorem past_Prune_h : Try.prog.funcs[past_Prune]? = some past_Prune_f := Try.func57
abbrev ref16_Prune : Nat := 58
noncomputable abbrev ref16_Prune_f : Func := Try.f58
theorem ref16_Prune_h : Try.prog.funcs[ref16_Prune]? = some ref16_Prune_f := Try.func58
abbrev ref16_Left : Nat := 59
noncomputable abbrev ref16_Left_f : Func := Try.f59
theorem ref16_Left_h : Try.prog.funcs[ref16_Left]? = some ref16_Left_f := Try.func59
abbrev vec_Meet : Nat := 60
noncomputable abbrev vec_Meet_f : Func := Try.f60
theorem vec_Meet_h : Try.prog.funcs[vec_Meet]? = some vec_Meet_f := Try.func60
abbrev ref10_Short : Nat := 61
noncomputable abbrev ref10_Short_f : Func := Try.f61
theorem ref10_Short_h : Try.prog.funcs[ref10_Short]? = some ref10_Short_f := Try.func61
abbrev ref10_Copy : Nat := 62
noncomputable abbrev ref10_Copy_f : Func := Try.f62
theorem ref10_Copy_h : Try.prog.funcs[ref10_Copy]? = some ref10_Copy_f := Try.func62
abbrev slices_Clone_api_Txn_api_Txn : Nat := 63
noncomputable abbrev slices_Clone_api_Txn_api_Txn_f : Func := Try.f63
theorem slices_Clone_api_Txn_api_Txn_h : Try.prog.funcs[slices_Clone_api_Txn_api_Txn]? = some slices_Clone_api_Txn_api_Txn_f := Try.func63
abbrev slices_Clone_api_Vec_int : Nat := 64
noncomputable abbrev slices_Clone_api_Vec_int_f : Func := Try.f64
theorem slices_Clone_api_Vec_int_h : Try.prog.funcs[slices_Clone_api_Vec_int]? = some slices_Clone_api_Vec_int_f := Try.func64
abbrev slices_IndexFunc_api_Txn_api_Txn : Nat := 65
noncomputable abbrev slices_IndexFunc_api_Txn_api_Txn_f : Func := Try.f65
theorem slices_IndexFunc_api_Txn_api_Txn_h : Try.prog.funcs[slices_IndexFunc_api_Txn_api_Txn]? = some slices_IndexFunc_api_Txn_api_Txn_f := Try.func65
abbrev order_Take_1 : Nat := 66
noncomputable abbrev order_Take_1_f : Func := Try.f66
theorem order_Take_1_h : Try.prog.funcs[order_Take_1]? = some order_Take_1_f := Try.func66
abbrev slices_Delete_api_Txn_api_Txn : Nat := 67
noncomputable abbrev slices_Delete_api_Txn_api_Txn_f : Func := Try.f67
theorem slices_Delete_api_Txn_api_Txn_h : Try.prog.funcs[slices_Delete_api_Txn_api_Txn]? = some slices_Delete_api_Txn_api_Txn_f := Try.func67
abbrev txn_Only : Nat := 68
noncomputable abbrev txn_Only_f : Func := Try.f68
theorem txn_Only_h : Try.prog.funcs[txn_Only]? = some txn_Only_f := Try.func68
abbrev vec_At : Nat := 69
noncomputable abbrev vec_At_f : Func := Try.f69
theorem vec_At_h : Try.prog.funcs[vec_At]? = some vec_At_f := Try.func69
abbrev ref07_At : Nat := 70
noncomputable abbrev ref07_At_f : Func := Try.f70
theorem ref07_At_h : Try.prog.funcs[ref07_At]? = some ref07_At_f := Try.func70
abbrev txn_Dot : Nat := 71
noncomputable abbrev txn_Dot_f : Func := Try.f71
theorem txn_Dot_h : Try.prog.funcs[txn_Dot]? = some txn_Dot_f := Try.func71
abbrev vec_With : Nat := 72
noncomputable abbrev vec_With_f : Func := Try.f72
theorem vec_With_h : Try.prog.funcs[vec_With]? = some vec_With_f := Try.func72
abbrev vec_Trim : Nat := 73
noncomputable abbrev vec_Trim_f : Func := Try.f73
theorem vec_Trim_h : Try.prog.funcs[vec_Trim]? = some vec_Trim_f := Try.func73
abbrev ref07_With : Nat := 74
noncomputable abbrev ref07_With_f : Func := Try.f74
theorem ref07_With_h : Try.prog.funcs[ref07_With]? = some ref07_With_f := Try.func74
abbrev ref07_Trim : Nat := 75
noncomputable abbrev ref07_Trim_f : Func := Try.f75
theorem ref07_Trim_h : Try.prog.funcs[ref07_Trim]? = some ref07_Trim_f := Try.func75
abbrev ref07_Lay : Nat := 76
noncomputable abbrev ref07_Lay_f : Func := Try.f76
theorem ref07_Lay_h : Try.prog.funcs[ref07_Lay]? = some ref07_Lay_f := Try.func76
abbrev ref10_Same : Nat := 77
noncomputable abbrev ref10_Same_f : Func := Try.f77
theorem ref10_Same_h : Try.prog.funcs[ref10_Same]? = some ref10_Same_f := Try.func77
abbrev ref10_Right : Nat := 78
noncomputable abbrev ref10_Right_f : Func := Try.f78
theorem ref10_Right_h : Try.prog.funcs[ref10_Right]? = some ref10_Right_f := Try.func78
abbrev ref10_Heard : Nat := 79
noncomputable abbrev ref10_Heard_f : Func := Try.f79
theorem ref10_Heard_h : Try.prog.funcs[ref10_Heard]? = some ref10_Heard_f := Try.func79
abbrev txn_Formed : Nat := 80
noncomputable abbrev txn_Formed_f : Func := Try.f80
theorem txn_Formed_h : Try.prog.funcs[txn_Formed]? = some txn_Formed_f := Try.func80
abbrev vec_both : Nat := 81
noncomputable abbrev vec_both_f : Func := Try.f81
theorem vec_both_h : Try.prog.funcs[vec_both]? = some vec_both_f := Try.func81
abbrev vec_Join_1 : Nat := 82
noncomputable abbrev vec_Join_1_f : Func := Try.f82
theorem vec_Join_1_h : Try.prog.funcs[vec_Join_1]? = some vec_Join_1_f := Try.func82
abbrev past_copied : Nat := 83
noncomputable abbrev past_copied_f : Func := Try.f83
theorem past_copied_h : Try.prog.funcs[past_copied]? = some past_copied_f := Try.func83
abbrev past_all : Nat := 84
noncomputable abbrev past_all_f : Func := Try.f84
theorem past_all_h : Try.prog.funcs[past_all]? = some past_all_f := Try.func84
abbrev past_Since_1 : Nat := 85
noncomputable abbrev past_Since_1_f : Func := Try.f85
theorem past_Since_1_h : Try.prog.funcs[past_Since_1]? = some past_Since_1_f := Try.func85
abbrev slices_Equal_api_Vec_int : Nat := 86
noncomputable abbrev slices_Equal_api_Vec_int_f : Func := Try.f86
theorem slices_Equal_api_Vec_int_h : Try.prog.funcs[slices_Equal_api_Vec_int]? = some slices_Equal_api_Vec_int_f := Try.func86
abbrev slices_ContainsFunc_api_Txn_api_Txn : Nat := 87
noncomputable abbrev slices_ContainsFunc_api_Txn_api_Txn_f : Func := Try.f87
theorem slices_ContainsFunc_api_Txn_api_Txn_h : Try.prog.funcs[slices_ContainsFunc_api_Txn_api_Txn]? = some slices_ContainsFunc_api_Txn_api_Txn_f := Try.func87
abbrev past_Sound_1 : Nat := 88
noncomputable abbrev past_Sound_1_f : Func := Try.f88
theorem past_Sound_1_h : Try.prog.funcs[past_Sound_1]? = some past_Sound_1_f := Try.func88
abbrev ref16_heard : Nat := 89
noncomputable abbrev ref16_heard_f : Func := Try.f89
theorem ref16_heard_h : Try.prog.funcs[ref16_heard]? = some ref16_heard_f := Try.func89
abbrev past_Prune_1 : Nat := 90
noncomputable abbrev past_Prune_1_f : Func := Try.f90
theorem past_Prune_1_h : Try.prog.funcs[past_Prune_1]? = some past_Prune_1_f := Try.func90
abbrev vec_Meet_1 : Nat := 91
noncomputable abbrev vec_Meet_1_f : Func := Try.f91
theorem vec_Meet_1_h : Try.prog.funcs[vec_Meet_1]? = some vec_Meet_1_f := Try.func91
abbrev eff_Only : Nat := 92
noncomputable abbrev eff_Only_f : Func := Try.f92
theorem eff_Only_h : Try.prog.funcs[eff_Only]? = some eff_Only_f := Try.func92
abbrev ref10_SameDots : Nat := 93
noncomputable abbrev ref10_SameDots_f : Func := Try.f93
theorem ref10_SameDots_h : Try.prog.funcs[ref10_SameDots]? = some ref10_SameDots_f := Try.func93
abbrev ref10_Formed : Nat := 94
noncomputable abbrev ref10_Formed_f : Func := Try.f94
theorem ref10_Formed_h : Try.prog.funcs[ref10_Formed]? = some ref10_Formed_f := Try.func94
abbrev slices_ContainsFunc_api_Vec_int : Nat := 95
noncomputable abbrev slices_ContainsFunc_api_Vec_int_f : Func := Try.f95
theorem slices_ContainsFunc_api_Vec_int_h : Try.prog.funcs[slices_ContainsFunc_api_Vec_int]? = some slices_ContainsFunc_api_Vec_int_f := Try.func95
abbrev txn_Formed_1 : Nat := 96
noncomputable abbrev txn_Formed_1_f : Func := Try.f96
theorem txn_Formed_1_h : Try.prog.funcs[txn_Formed_1]? = some txn_Formed_1_f := Try.func96
abbrev eff_Right : Nat := 97
noncomputable abbrev eff_Right_f : Func := Try.f97
theorem eff_Right_h : Try.prog.funcs[eff_Right]? = some eff_Right_f := Try.func97
abbrev eff_Heard : Nat := 98
noncomputable abbrev eff_Heard_f : Func := Try.f98
theorem eff_Heard_h : Try.prog.funcs[eff_Heard]? = some eff_Heard_f := Try.func98
abbrev zone_Covers : Nat := 99
noncomputable abbrev zone_Covers_f : Func := Try.f99
theorem zone_Covers_h : Try.prog.funcs[zone_Covers]? = some zone_Covers_f := Try.func99
abbrev slices_Clone_api_Dot_api_Dot : Nat := 100
noncomputable abbrev slices_Clone_api_Dot_api_Dot_f : Func := Try.f100
theorem slices_Clone_api_Dot_api_Dot_h : Try.prog.funcs[slices_Clone_api_Dot_api_Dot]? = some slices_Clone_api_Dot_api_Dot_f := Try.func100
abbrev ref10_may : Nat := 101
noncomputable abbrev ref10_may_f : Func := Try.f101
theorem ref10_may_h : Try.prog.funcs[ref10_may]? = some ref10_may_f := Try.func101
abbrev ref10_Ahead : Nat := 102
noncomputable abbrev ref10_Ahead_f : Func := Try.f102
theorem ref10_Ahead_h : Try.prog.funcs[ref10_Ahead]? = some ref10_Ahead_f := Try.func102
abbrev ref09_Formed : Nat := 103
noncomputable abbrev ref09_Formed_f : Func := Try.f103
theorem ref09_Formed_h : Try.prog.funcs[ref09_Formed]? = some ref09_Formed_f := Try.func103
abbrev ref10_Made : Nat := 104
noncomputable abbrev ref10_Made_f : Func := Try.f104
theorem ref10_Made_h : Try.prog.funcs[ref10_Made]? = some ref10_Made_f := Try.func104
abbrev ref08_Key : Nat := 105
noncomputable abbrev ref08_Key_f : Func := Try.f105
theorem ref08_Key_h : Try.prog.funcs[ref08_Key]? = some ref08_Key_f := Try.func105
abbrev ref08_Prefix : Nat := 106
noncomputable abbrev ref08_Prefix_f : Func := Try.f106
theorem ref08_Prefix_h : Try.prog.funcs[ref08_Prefix]? = some ref08_Prefix_f := Try.func106
abbrev slices_IndexFunc_api_Vec_int : Nat := 107
noncomputable abbrev slices_IndexFunc_api_Vec_int_f : Func := Try.f107
theorem slices_IndexFunc_api_Vec_int_h : Try.prog.funcs[slices_IndexFunc_api_Vec_int]? = some slices_IndexFunc_api_Vec_int_f := Try.func107
abbrev eff_Formed : Nat := 108
noncomputable abbrev eff_Formed_f : Func := Try.f108
theorem eff_Formed_h : Try.prog.funcs[eff_Formed]? = some eff_Formed_f := Try.func108
abbrev slices_ContainsFunc_api_Dot_api_Dot : Nat := 109
noncomputable abbrev slices_ContainsFunc_api_Dot_api_Dot_f : Func := Try.f109
theorem slices_ContainsFunc_api_Dot_api_Dot_h : Try.prog.funcs[slices_ContainsFunc_api_Dot_api_Dot]? = some slices_ContainsFunc_api_Dot_api_Dot_f := Try.func109
abbrev eff_Right_1 : Nat := 110
noncomputable abbrev eff_Right_1_f : Func := Try.f110
theorem eff_Right_1_h : Try.prog.funcs[eff_Right_1]? = some eff_Right_1_f := Try.func110
abbrev slices_ContainsFunc_string_string : Nat := 111
noncomputable abbrev slices_ContainsFunc_string_string_f : Func := Try.f111
theorem slices_ContainsFunc_string_string_h : Try.prog.funcs[slices_ContainsFunc_string_string]? = some slices_ContainsFunc_string_string_f := Try.func111
abbrev zone_Covers_1 : Nat := 112
noncomputable abbrev zone_Covers_1_f : Func := Try.f112
theorem zone_Covers_1_h : Try.prog.funcs[zone_Covers_1]? = some zone_Covers_1_f := Try.func112
abbrev strings_HasPrefix : Nat := 113
noncomputable abbrev strings_HasPrefix_f : Func := Try.f113
theorem strings_HasPrefix_h : Try.prog.funcs[strings_HasPrefix]? = some strings_HasPrefix_f := Try.func113
abbrev eff_dot : Nat := 114
noncomputable abbrev eff_dot_f : Func := Try.f114
theorem eff_dot_h : Try.prog.funcs[eff_dot]? = some eff_dot_f := Try.func114
abbrev eff_order : Nat := 115
noncomputable abbrev eff_order_f : Func := Try.f115
theorem eff_order_h : Try.prog.funcs[eff_order]? = some eff_order_f := Try.func115
abbrev item_Formed : Nat := 116
noncomputable abbrev item_Formed_f : Func := Try.f116
theorem item_Formed_h : Try.prog.funcs[item_Formed]? = some item_Formed_f := Try.func116
abbrev eff_made : Nat := 117
noncomputable abbrev eff_made_f : Func := Try.f117
theorem eff_made_h : Try.prog.funcs[eff_made]? = some eff_made_f := Try.func117
abbrev slices_IndexFunc_api_Dot_api_Dot : Nat := 118
noncomputable abbrev slices_IndexFunc_api_Dot_api_Dot_f : Func := Try.f118
theorem slices_IndexFunc_api_Dot_api_Dot_h : Try.prog.funcs[slices_IndexFunc_api_Dot_api_Dot]? = some slices_IndexFunc_api_Dot_api_Dot_f := Try.func118
abbrev slices_IndexFunc_string_string : Nat := 119
noncomputable abbrev slices_IndexFunc_string_string_f : Func := Try.f119
theorem slices_IndexFunc_string_string_h : Try.prog.funcs[slices_IndexFunc_string_string]? = some slices_IndexFunc_string_string_f := Try.func119
abbrev internal_stringslite_HasPrefix : Nat := 120
noncomputable abbrev internal_stringslite_HasPrefix_f : Func := Try.f120
theorem internal_stringslite_HasPrefix_h : Try.prog.funcs[internal_stringslite_HasPrefix]? = some internal_stringslite_HasPrefix_f := Try.func120
abbrev cmp_Or_int : Nat := 121
noncomputable abbrev cmp_Or_int_f : Func := Try.f121
theorem cmp_Or_int_h : Try.prog.funcs[cmp_Or_int]? = some cmp_Or_int_f := Try.func121
abbrev cmp_Compare_int : Nat := 122
noncomputable abbrev cmp_Compare_int_f : Func := Try.f122
theorem cmp_Compare_int_h : Try.prog.funcs[cmp_Compare_int]? = some cmp_Compare_int_f := Try.func122
abbrev zone_Key : Nat := 123
noncomputable abbrev zone_Key_f : Func := Try.f123
theorem zone_Key_h : Try.prog.funcs[zone_Key]? = some zone_Key_f := Try.func123
abbrev cmp_isNaN_int : Nat := 124
noncomputable abbrev cmp_isNaN_int_f : Func := Try.f124
theorem cmp_isNaN_int_h : Try.prog.funcs[cmp_isNaN_int]? = some cmp_isNaN_int_f := Try.func124
abbrev zone_prefix : Nat := 125
noncomputable abbrev zone_prefix_f : Func := Try.f125
theorem zone_prefix_h : Try.prog.funcs[zone_prefix]? = some zone_prefix_f := Try.func125
end Go.Bv.Nm
