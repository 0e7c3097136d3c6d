/- Part of the lift: an abstract walk of the program's code, proved sound, and what it shows of this program. -/
import Derived.Test.YtegjfgodmenagaaBvTy
import Derived.Test.YtegjfgodmenagaaChecked
namespace Go.Bv.Nm
open Go Go.Proofs
abbrev law18_NetAll : Nat := 3
noncomputable abbrev law18_NetAll_f : Func := Try.f3
theorem law18_NetAll_h : Try.prog.funcs[law18_NetAll]? = some law18_NetAll_f := Try.func3
abbrev law18_NetKeeps : Nat := 4
noncomputable abbrev law18_NetKeeps_f : Func := Try.f4
theorem law18_NetKeeps_h : Try.prog.funcs[law18_NetKeeps]? = some law18_NetKeeps_f := Try.func4
abbrev law18_NetDoubled : Nat := 5
noncomputable abbrev law18_NetDoubled_f : Func := Try.f5
theorem law18_NetDoubled_h : Try.prog.funcs[law18_NetDoubled]? = some law18_NetDoubled_f := Try.func5
abbrev law04_FrameLays : Nat := 6
noncomputable abbrev law04_FrameLays_f : Func := Try.f6
theorem law04_FrameLays_h : Try.prog.funcs[law04_FrameLays]? = some law04_FrameLays_f := Try.func6
abbrev law04_FrameScans : Nat := 7
noncomputable abbrev law04_FrameScans_f : Func := Try.f7
theorem law04_FrameScans_h : Try.prog.funcs[law04_FrameScans]? = some law04_FrameScans_f := Try.func7
abbrev law04_FrameTorn : Nat := 8
noncomputable abbrev law04_FrameTorn_f : Func := Try.f8
theorem law04_FrameTorn_h : Try.prog.funcs[law04_FrameTorn]? = some law04_FrameTorn_f := Try.func8
abbrev law04_FrameTurned : Nat := 9
noncomputable abbrev law04_FrameTurned_f : Func := Try.f9
theorem law04_FrameTurned_h : Try.prog.funcs[law04_FrameTurned]? = some law04_FrameTurned_f := Try.func9
abbrev law04_FrameLong : Nat := 10
noncomputable abbrev law04_FrameLong_f : Func := Try.f10
theorem law04_FrameLong_h : Try.prog.funcs[law04_FrameLong]? = some law04_FrameLong_f := Try.func10
abbrev law04_FrameJoined : Nat := 11
noncomputable abbrev law04_FrameJoined_f : Func := Try.f11
theorem law04_FrameJoined_h : Try.prog.funcs[law04_FrameJoined]? = some law04_FrameJoined_f := Try.func11
abbrev law06_JournalAll : Nat := 12
noncomputable abbrev law06_JournalAll_f : Func := Try.f12
theorem law06_JournalAll_h : Try.prog.funcs[law06_JournalAll]? = some law06_JournalAll_f := Try.func12
abbrev law06_JournalKeeps : Nat := 13
noncomputable abbrev law06_JournalKeeps_f : Func := Try.f13
theorem law06_JournalKeeps_h : Try.prog.funcs[law06_JournalKeeps]? = some law06_JournalKeeps_f := Try.func13
abbrev law06_JournalSpoilt : Nat := 14
noncomputable abbrev law06_JournalSpoilt_f : Func := Try.f14
theorem law06_JournalSpoilt_h : Try.prog.funcs[law06_JournalSpoilt]? = some law06_JournalSpoilt_f := Try.func14
abbrev law06_JournalMore : Nat := 15
noncomputable abbrev law06_JournalMore_f : Func := Try.f15
theorem law06_JournalMore_h : Try.prog.funcs[law06_JournalMore]? = some law06_JournalMore_f := Try.func15
abbrev law18_awake : Nat := 16
noncomputable abbrev law18_awake_f : Func := Try.f16
theorem law18_awake_h : Try.prog.funcs[law18_awake]? = some law18_awake_f := Try.func16
abbrev ref18_Short : Nat := 17
noncomputable abbrev ref18_Short_f : Func := Try.f17
theorem ref18_Short_h : Try.prog.funcs[ref18_Short]? = some ref18_Short_f := Try.func17
abbrev ref18_Copy : Nat := 18
noncomputable abbrev ref18_Copy_f : Func := Try.f18
theorem ref18_Copy_h : Try.prog.funcs[ref18_Copy]? = some ref18_Copy_f := Try.func18
abbrev net_Send : Nat := 19
noncomputable abbrev net_Send_f : Func := Try.f19
theorem net_Send_h : Try.prog.funcs[net_Send]? = some net_Send_f := Try.func19
abbrev ref18_Send : Nat := 20
noncomputable abbrev ref18_Send_f : Func := Try.f20
theorem ref18_Send_h : Try.prog.funcs[ref18_Send]? = some ref18_Send_f := Try.func20
abbrev ref18_Same : Nat := 21
noncomputable abbrev ref18_Same_f : Func := Try.f21
theorem ref18_Same_h : Try.prog.funcs[ref18_Same]? = some ref18_Same_f := Try.func21
abbrev net_Take : Nat := 22
noncomputable abbrev net_Take_f : Func := Try.f22
theorem net_Take_h : Try.prog.funcs[net_Take]? = some net_Take_f := Try.func22
abbrev net_Twice : Nat := 23
noncomputable abbrev net_Twice_f : Func := Try.f23
theorem net_Twice_h : Try.prog.funcs[net_Twice]? = some net_Twice_f := Try.func23
abbrev ref18_SamePacket : Nat := 24
noncomputable abbrev ref18_SamePacket_f : Func := Try.f24
theorem ref18_SamePacket_h : Try.prog.funcs[ref18_SamePacket]? = some ref18_SamePacket_f := Try.func24
abbrev ref18_Without : Nat := 25
noncomputable abbrev ref18_Without_f : Func := Try.f25
theorem ref18_Without_h : Try.prog.funcs[ref18_Without]? = some ref18_Without_f := Try.func25
abbrev law04_awake : Nat := 26
noncomputable abbrev law04_awake_f : Func := Try.f26
theorem law04_awake_h : Try.prog.funcs[law04_awake]? = some law04_awake_f := Try.func26
abbrev ref02_Copy : Nat := 27
noncomputable abbrev ref02_Copy_f : Func := Try.f27
theorem ref02_Copy_h : Try.prog.funcs[ref02_Copy]? = some ref02_Copy_f := Try.func27
abbrev frame_Lay : Nat := 28
noncomputable abbrev frame_Lay_f : Func := Try.f28
theorem frame_Lay_h : Try.prog.funcs[frame_Lay]? = some frame_Lay_f := Try.func28
abbrev ref02_Same : Nat := 29
noncomputable abbrev ref02_Same_f : Func := Try.f29
theorem ref02_Same_h : Try.prog.funcs[ref02_Same]? = some ref02_Same_f := Try.func29
abbrev ref04_Frame : Nat := 30
noncomputable abbrev ref04_Frame_f : Func := Try.f30
theorem ref04_Frame_h : Try.prog.funcs[ref04_Frame]? = some ref04_Frame_f := Try.func30
abbrev frame_Scan : Nat := 31
noncomputable abbrev frame_Scan_f : Func := Try.f31
theorem frame_Scan_h : Try.prog.funcs[frame_Scan]? = some frame_Scan_f := Try.func31
abbrev ref04_Scan : Nat := 32
noncomputable abbrev ref04_Scan_f : Func := Try.f32
theorem ref04_Scan_h : Try.prog.funcs[ref04_Scan]? = some ref04_Scan_f := Try.func32
abbrev ref04_Same : Nat := 33
noncomputable abbrev ref04_Same_f : Func := Try.f33
theorem ref04_Same_h : Try.prog.funcs[ref04_Same]? = some ref04_Same_f := Try.func33
abbrev ref04_Short : Nat := 34
noncomputable abbrev ref04_Short_f : Func := Try.f34
theorem ref04_Short_h : Try.prog.funcs[ref04_Short]? = some ref04_Short_f := Try.func34
abbrev law04_laid : Nat := 35
noncomputable abbrev law04_laid_f : Func := Try.f35
theorem law04_laid_h : Try.prog.funcs[law04_laid]? = some law04_laid_f := Try.func35
abbrev law06_awake : Nat := 36
noncomputable abbrev law06_awake_f : Func := Try.f36
theorem law06_awake_h : Try.prog.funcs[law06_awake]? = some law06_awake_f := Try.func36
abbrev ref05_Copy : Nat := 37
noncomputable abbrev ref05_Copy_f : Func := Try.f37
theorem ref05_Copy_h : Try.prog.funcs[ref05_Copy]? = some ref05_Copy_f := Try.func37
abbrev journal_Append : Nat := 38
noncomputable abbrev journal_Append_f : Func := Try.f38
theorem journal_Append_h : Try.prog.funcs[journal_Append]? = some journal_Append_f := Try.func38
abbrev ref05_Write : Nat := 39
noncomputable abbrev ref05_Write_f : Func := Try.f39
theorem ref05_Write_h : Try.prog.funcs[ref05_Write]? = some ref05_Write_f := Try.func39
abbrev ref05_Same : Nat := 40
noncomputable abbrev ref05_Same_f : Func := Try.f40
theorem ref05_Same_h : Try.prog.funcs[ref05_Same]? = some ref05_Same_f := Try.func40
abbrev journal_Open : Nat := 41
noncomputable abbrev journal_Open_f : Func := Try.f41
theorem journal_Open_h : Try.prog.funcs[journal_Open]? = some journal_Open_f := Try.func41
abbrev ref05_First : Nat := 42
noncomputable abbrev ref05_First_f : Func := Try.f42
theorem ref05_First_h : Try.prog.funcs[ref05_First]? = some ref05_First_f := Try.func42
abbrev disk_Sync : Nat := 43
noncomputable abbrev disk_Sync_f : Func := Try.f43
theorem disk_Sync_h : Try.prog.funcs[disk_Sync]? = some disk_Sync_f := Try.func43
abbrev disk_Crash : Nat := 44
noncomputable abbrev disk_Crash_f : Func := Try.f44
theorem disk_Crash_h : Try.prog.funcs[disk_Crash]? = some disk_Crash_f := Try.func44
abbrev disk_All : Nat := 45
noncomputable abbrev disk_All_f : Func := Try.f45
theorem disk_All_h : Try.prog.funcs[disk_All]? = some disk_All_f := Try.func45
abbrev net_all : Nat := 46
noncomputable abbrev net_all_f : Func := Try.f46
theorem net_all_h : Try.prog.funcs[net_all]? = some net_all_f := Try.func46
abbrev net_copied : Nat := 47
noncomputable abbrev net_copied_f : Func := Try.f47
theorem net_copied_h : Try.prog.funcs[net_copied]? = some net_copied_f := Try.func47
abbrev slices_Delete_api_Packet_api_Packet : Nat := 48
noncomputable abbrev slices_Delete_api_Packet_api_Packet_f : Func := Try.f48
theorem slices_Delete_api_Packet_api_Packet_h : Try.prog.funcs[slices_Delete_api_Packet_api_Packet]? = some slices_Delete_api_Packet_api_Packet_f := Try.func48
abbrev frame_four : Nat := 49
noncomputable abbrev frame_four_f : Func := Try.f49
theorem frame_four_h : Try.prog.funcs[frame_four]? = some frame_four_f := Try.func49
abbrev slices_Concat_byte_byte : Nat := 50
noncomputable abbrev slices_Concat_byte_byte_f : Func := Try.f50
theorem slices_Concat_byte_byte_h : Try.prog.funcs[slices_Concat_byte_byte]? = some slices_Concat_byte_byte_f := Try.func50
abbrev crc_More : Nat := 51
noncomputable abbrev crc_More_f : Func := Try.f51
theorem crc_More_h : Try.prog.funcs[crc_More]? = some crc_More_f := Try.func51
abbrev crc_Sum : Nat := 52
noncomputable abbrev crc_Sum_f : Func := Try.f52
theorem crc_Sum_h : Try.prog.funcs[crc_Sum]? = some crc_Sum_f := Try.func52
abbrev ref02_Sum : Nat := 53
noncomputable abbrev ref02_Sum_f : Func := Try.f53
theorem ref02_Sum_h : Try.prog.funcs[ref02_Sum]? = some ref02_Sum_f := Try.func53
abbrev frame_one : Nat := 54
noncomputable abbrev frame_one_f : Func := Try.f54
theorem frame_one_h : Try.prog.funcs[frame_one]? = some frame_one_f := Try.func54
abbrev slices_Clone_byte_byte : Nat := 55
noncomputable abbrev slices_Clone_byte_byte_f : Func := Try.f55
theorem slices_Clone_byte_byte_h : Try.prog.funcs[slices_Clone_byte_byte]? = some slices_Clone_byte_byte_f := Try.func55
abbrev disk_Write : Nat := 56
noncomputable abbrev disk_Write_f : Func := Try.f56
theorem disk_Write_h : Try.prog.funcs[disk_Write]? = some disk_Write_f := Try.func56
abbrev ref05_size : Nat := 57
noncomputable abbrev ref05_size_f : Func := Try.f57
theorem ref05_size_h : Try.prog.funcs[ref05_size]? = some ref05_size_f := Try.func57
abbrev disk_Cut : Nat := 58
noncomputable abbrev disk_Cut_f : Func := Try.f58
theorem disk_Cut_h : Try.prog.funcs[disk_Cut]? = some disk_Cut_f := Try.func58
abbrev ref05_at : Nat := 59
noncomputable abbrev ref05_at_f : Func := Try.f59
theorem ref05_at_h : Try.prog.funcs[ref05_at]? = some ref05_at_f := Try.func59
abbrev slices_Grow_byte_byte : Nat := 60
noncomputable abbrev slices_Grow_byte_byte_f : Func := Try.f60
theorem slices_Grow_byte_byte_h : Try.prog.funcs[slices_Grow_byte_byte]? = some slices_Grow_byte_byte_f := Try.func60
abbrev frame_number : Nat := 61
noncomputable abbrev frame_number_f : Func := Try.f61
theorem frame_number_h : Try.prog.funcs[frame_number]? = some frame_number_f := Try.func61
end Go.Bv.Nm
