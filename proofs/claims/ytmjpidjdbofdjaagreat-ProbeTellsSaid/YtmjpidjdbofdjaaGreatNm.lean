import Derived.Test.YtmjpidjdbofdjaaGreatTab
/- The seat's functions and types, by their names. -/
namespace Go.Proofs.YtmjpidjdbofdjaaGreat
open Go
abbrev n_main_main : Nat := 0
theorem q_main_main : Tryz.prog.funcs[n_main_main]? = some Tryz.f0 := Tryz.func0
noncomputable abbrev F_main_main : Func := Tryz.f0
abbrev n_gosem_cut : Nat := 1
theorem q_gosem_cut : Tryz.prog.funcs[n_gosem_cut]? = some Tryz.f1 := Tryz.func1
noncomputable abbrev F_gosem_cut : Func := Tryz.f1
abbrev n_gosem_cut_init : Nat := 2
theorem q_gosem_cut_init : Tryz.prog.funcs[n_gosem_cut_init]? = some Tryz.f2 := Tryz.func2
noncomputable abbrev F_gosem_cut_init : Func := Tryz.f2
abbrev n_ouroboroslaw18_ProbeTells : Nat := 3
theorem q_ouroboroslaw18_ProbeTells : Tryz.prog.funcs[n_ouroboroslaw18_ProbeTells]? = some Tryz.f3 := Tryz.func3
noncomputable abbrev F_ouroboroslaw18_ProbeTells : Func := Tryz.f3
abbrev n_ouroboroslaw18_ProbeDone : Nat := 4
theorem q_ouroboroslaw18_ProbeDone : Tryz.prog.funcs[n_ouroboroslaw18_ProbeDone]? = some Tryz.f4 := Tryz.func4
noncomputable abbrev F_ouroboroslaw18_ProbeDone : Func := Tryz.f4
abbrev n_ouroboroslaw18_ProbeBounds : Nat := 5
theorem q_ouroboroslaw18_ProbeBounds : Tryz.prog.funcs[n_ouroboroslaw18_ProbeBounds]? = some Tryz.f5 := Tryz.func5
noncomputable abbrev F_ouroboroslaw18_ProbeBounds : Func := Tryz.f5
abbrev n_ouroboroslaw18_ProbeThree : Nat := 6
theorem q_ouroboroslaw18_ProbeThree : Tryz.prog.funcs[n_ouroboroslaw18_ProbeThree]? = some Tryz.f6 := Tryz.func6
noncomputable abbrev F_ouroboroslaw18_ProbeThree : Func := Tryz.f6
abbrev n_ouroboroslaw18_ProbeAlike : Nat := 7
theorem q_ouroboroslaw18_ProbeAlike : Tryz.prog.funcs[n_ouroboroslaw18_ProbeAlike]? = some Tryz.f7 := Tryz.func7
noncomputable abbrev F_ouroboroslaw18_ProbeAlike : Func := Tryz.f7
abbrev n_ouroboroslaw18_ProbeAsks : Nat := 8
theorem q_ouroboroslaw18_ProbeAsks : Tryz.prog.funcs[n_ouroboroslaw18_ProbeAsks]? = some Tryz.f8 := Tryz.func8
noncomputable abbrev F_ouroboroslaw18_ProbeAsks : Func := Tryz.f8
abbrev n_ouroboroslaw18_works : Nat := 9
theorem q_ouroboroslaw18_works : Tryz.prog.funcs[n_ouroboroslaw18_works]? = some Tryz.f9 := Tryz.func9
noncomputable abbrev F_ouroboroslaw18_works : Func := Tryz.f9
abbrev n_ouroboroslaw08_Few : Nat := 10
theorem q_ouroboroslaw08_Few : Tryz.prog.funcs[n_ouroboroslaw08_Few]? = some Tryz.f10 := Tryz.func10
noncomputable abbrev F_ouroboroslaw08_Few : Func := Tryz.f10
abbrev n_ouroboroslaw08_Entries : Nat := 11
theorem q_ouroboroslaw08_Entries : Tryz.prog.funcs[n_ouroboroslaw08_Entries]? = some Tryz.f11 := Tryz.func11
noncomputable abbrev F_ouroboroslaw08_Entries : Func := Tryz.f11
abbrev n_ouroborosref14_Same : Nat := 12
theorem q_ouroborosref14_Same : Tryz.prog.funcs[n_ouroborosref14_Same]? = some Tryz.f12 := Tryz.func12
noncomputable abbrev F_ouroborosref14_Same : Func := Tryz.f12
abbrev n_ouroboroslaw14_Of : Nat := 13
theorem q_ouroboroslaw14_Of : Tryz.prog.funcs[n_ouroboroslaw14_Of]? = some Tryz.f13 := Tryz.func13
noncomputable abbrev F_ouroboroslaw14_Of : Func := Tryz.f13
abbrev n_probe_Ask : Nat := 14
theorem q_probe_Ask : Tryz.prog.funcs[n_probe_Ask]? = some Tryz.f14 := Tryz.func14
noncomputable abbrev F_probe_Ask : Func := Tryz.f14
abbrev n_ouroborosref18_Ask : Nat := 15
theorem q_ouroborosref18_Ask : Tryz.prog.funcs[n_ouroborosref18_Ask]? = some Tryz.f15 := Tryz.func15
noncomputable abbrev F_ouroborosref18_Ask : Func := Tryz.f15
abbrev n_probe_Want : Nat := 16
theorem q_probe_Want : Tryz.prog.funcs[n_probe_Want]? = some Tryz.f16 := Tryz.func16
noncomputable abbrev F_probe_Want : Func := Tryz.f16
abbrev n_ouroborosref18_Want : Nat := 17
theorem q_ouroborosref18_Want : Tryz.prog.funcs[n_ouroborosref18_Want]? = some Tryz.f17 := Tryz.func17
noncomputable abbrev F_ouroborosref18_Want : Func := Tryz.f17
abbrev n_probe_Give : Nat := 18
theorem q_probe_Give : Tryz.prog.funcs[n_probe_Give]? = some Tryz.f18 := Tryz.func18
noncomputable abbrev F_probe_Give : Func := Tryz.f18
abbrev n_ouroborosref18_Give : Nat := 19
theorem q_ouroborosref18_Give : Tryz.prog.funcs[n_ouroborosref18_Give]? = some Tryz.f19 := Tryz.func19
noncomputable abbrev F_ouroborosref18_Give : Func := Tryz.f19
abbrev n_arena_Check : Nat := 20
theorem q_arena_Check : Tryz.prog.funcs[n_arena_Check]? = some Tryz.f20 := Tryz.func20
noncomputable abbrev F_arena_Check : Func := Tryz.f20
abbrev n_arena_Merge : Nat := 21
theorem q_arena_Merge : Tryz.prog.funcs[n_arena_Merge]? = some Tryz.f21 := Tryz.func21
noncomputable abbrev F_arena_Merge : Func := Tryz.f21
abbrev n_digest_Differ : Nat := 22
theorem q_digest_Differ : Tryz.prog.funcs[n_digest_Differ]? = some Tryz.f22 := Tryz.func22
noncomputable abbrev F_digest_Differ : Func := Tryz.f22
abbrev n_digest_Sums : Nat := 23
theorem q_digest_Sums : Tryz.prog.funcs[n_digest_Sums]? = some Tryz.f23 := Tryz.func23
noncomputable abbrev F_digest_Sums : Func := Tryz.f23
abbrev n_arena_Find : Nat := 24
theorem q_arena_Find : Tryz.prog.funcs[n_arena_Find]? = some Tryz.f24 := Tryz.func24
noncomputable abbrev F_arena_Find : Func := Tryz.f24
abbrev n_arena_Alike : Nat := 25
theorem q_arena_Alike : Tryz.prog.funcs[n_arena_Alike]? = some Tryz.f25 := Tryz.func25
noncomputable abbrev F_arena_Alike : Func := Tryz.f25
abbrev n_ouroboroslaw18_one : Nat := 26
theorem q_ouroboroslaw18_one : Tryz.prog.funcs[n_ouroboroslaw18_one]? = some Tryz.f26 := Tryz.func26
noncomputable abbrev F_ouroboroslaw18_one : Func := Tryz.f26
abbrev n_frame_Check : Nat := 27
theorem q_frame_Check : Tryz.prog.funcs[n_frame_Check]? = some Tryz.f27 := Tryz.func27
noncomputable abbrev F_frame_Check : Func := Tryz.f27
abbrev n_arena_Below : Nat := 28
theorem q_arena_Below : Tryz.prog.funcs[n_arena_Below]? = some Tryz.f28 := Tryz.func28
noncomputable abbrev F_arena_Below : Func := Tryz.f28
abbrev n_digest_Bucket : Nat := 29
theorem q_digest_Bucket : Tryz.prog.funcs[n_digest_Bucket]? = some Tryz.f29 := Tryz.func29
noncomputable abbrev F_digest_Bucket : Func := Tryz.f29
abbrev n_frame_Same : Nat := 30
theorem q_frame_Same : Tryz.prog.funcs[n_frame_Same]? = some Tryz.f30 := Tryz.func30
noncomputable abbrev F_frame_Same : Func := Tryz.f30
abbrev n_ouroboroslaw07_Few : Nat := 31
theorem q_ouroboroslaw07_Few : Tryz.prog.funcs[n_ouroboroslaw07_Few]? = some Tryz.f31 := Tryz.func31
noncomputable abbrev F_ouroboroslaw07_Few : Func := Tryz.f31
abbrev n_ouroborosref07_All : Nat := 32
theorem q_ouroborosref07_All : Tryz.prog.funcs[n_ouroborosref07_All]? = some Tryz.f32 := Tryz.func32
noncomputable abbrev F_ouroborosref07_All : Func := Tryz.f32
abbrev n_ouroborosref10_Sums : Nat := 33
theorem q_ouroborosref10_Sums : Tryz.prog.funcs[n_ouroborosref10_Sums]? = some Tryz.f33 := Tryz.func33
noncomputable abbrev F_ouroborosref10_Sums : Func := Tryz.f33
abbrev n_probe_told_frame_Frame : Nat := 34
theorem q_probe_told_frame_Frame : Tryz.prog.funcs[n_probe_told_frame_Frame]? = some Tryz.f34 := Tryz.func34
noncomputable abbrev F_probe_told_frame_Frame : Func := Tryz.f34
abbrev n_probe_Want_1 : Nat := 35
theorem q_probe_Want_1 : Tryz.prog.funcs[n_probe_Want_1]? = some Tryz.f35 := Tryz.func35
noncomputable abbrev F_probe_Want_1 : Func := Tryz.f35
abbrev n_probe_in : Nat := 36
theorem q_probe_in : Tryz.prog.funcs[n_probe_in]? = some Tryz.f36 := Tryz.func36
noncomputable abbrev F_probe_in : Func := Tryz.f36
abbrev n_ouroborosref10_Differ : Nat := 37
theorem q_ouroborosref10_Differ : Tryz.prog.funcs[n_ouroborosref10_Differ]? = some Tryz.f37 := Tryz.func37
noncomputable abbrev F_ouroborosref10_Differ : Func := Tryz.f37
abbrev n_ouroborosref14_Check : Nat := 38
theorem q_ouroborosref14_Check : Tryz.prog.funcs[n_ouroborosref14_Check]? = some Tryz.f38 := Tryz.func38
noncomputable abbrev F_ouroborosref14_Check : Func := Tryz.f38
abbrev n_ouroborosref10_In : Nat := 39
theorem q_ouroborosref10_In : Tryz.prog.funcs[n_ouroborosref10_In]? = some Tryz.f39 := Tryz.func39
noncomputable abbrev F_ouroborosref10_In : Func := Tryz.f39
abbrev n_probe_Give_1 : Nat := 40
theorem q_probe_Give_1 : Tryz.prog.funcs[n_probe_Give_1]? = some Tryz.f40 := Tryz.func40
noncomputable abbrev F_probe_Give_1 : Func := Tryz.f40
abbrev n_arena_Check_1 : Nat := 41
theorem q_arena_Check_1 : Tryz.prog.funcs[n_arena_Check_1]? = some Tryz.f41 := Tryz.func41
noncomputable abbrev F_arena_Check_1 : Func := Tryz.f41
abbrev n_entry_Check : Nat := 42
theorem q_entry_Check : Tryz.prog.funcs[n_entry_Check]? = some Tryz.f42 := Tryz.func42
noncomputable abbrev F_entry_Check : Func := Tryz.f42
abbrev n_slices_ContainsFunc_LEntry_Entry : Nat := 43
theorem q_slices_ContainsFunc_LEntry_Entry : Tryz.prog.funcs[n_slices_ContainsFunc_LEntry_Entry]? = some Tryz.f43 := Tryz.func43
noncomputable abbrev F_slices_ContainsFunc_LEntry_Entry : Func := Tryz.f43
abbrev n_arena_index : Nat := 44
theorem q_arena_index : Tryz.prog.funcs[n_arena_index]? = some Tryz.f44 := Tryz.func44
noncomputable abbrev F_arena_index : Func := Tryz.f44
abbrev n_entry_Less : Nat := 45
theorem q_entry_Less : Tryz.prog.funcs[n_entry_Less]? = some Tryz.f45 := Tryz.func45
noncomputable abbrev F_entry_Less : Func := Tryz.f45
abbrev n_slices_Equal_Lint_int : Nat := 46
theorem q_slices_Equal_Lint_int : Tryz.prog.funcs[n_slices_Equal_Lint_int]? = some Tryz.f46 := Tryz.func46
noncomputable abbrev F_slices_Equal_Lint_int : Func := Tryz.f46
abbrev n_arena_Join : Nat := 47
theorem q_arena_Join : Tryz.prog.funcs[n_arena_Join]? = some Tryz.f47 := Tryz.func47
noncomputable abbrev F_arena_Join : Func := Tryz.f47
abbrev n_digest_slots : Nat := 48
theorem q_digest_slots : Tryz.prog.funcs[n_digest_slots]? = some Tryz.f48 := Tryz.func48
noncomputable abbrev F_digest_slots : Func := Tryz.f48
abbrev n_entry_Put : Nat := 49
theorem q_entry_Put : Tryz.prog.funcs[n_entry_Put]? = some Tryz.f49 := Tryz.func49
noncomputable abbrev F_entry_Put : Func := Tryz.f49
abbrev n_crc_Sum : Nat := 50
theorem q_crc_Sum : Tryz.prog.funcs[n_crc_Sum]? = some Tryz.f50 := Tryz.func50
noncomputable abbrev F_crc_Sum : Func := Tryz.f50
abbrev n_arena_each : Nat := 51
theorem q_arena_each : Tryz.prog.funcs[n_arena_each]? = some Tryz.f51 := Tryz.func51
noncomputable abbrev F_arena_each : Func := Tryz.f51
abbrev n_frame_forms : Nat := 52
theorem q_frame_forms : Tryz.prog.funcs[n_frame_forms]? = some Tryz.f52 := Tryz.func52
noncomputable abbrev F_frame_forms : Func := Tryz.f52
abbrev n_digest_Put : Nat := 53
theorem q_digest_Put : Tryz.prog.funcs[n_digest_Put]? = some Tryz.f53 := Tryz.func53
noncomputable abbrev F_digest_Put : Func := Tryz.f53
abbrev n_frame_Check_1 : Nat := 54
theorem q_frame_Check_1 : Tryz.prog.funcs[n_frame_Check_1]? = some Tryz.f54 := Tryz.func54
noncomputable abbrev F_frame_Check_1 : Func := Tryz.f54
abbrev n_entry_Join : Nat := 55
theorem q_entry_Join : Tryz.prog.funcs[n_entry_Join]? = some Tryz.f55 := Tryz.func55
noncomputable abbrev F_entry_Join : Func := Tryz.f55
abbrev n_entry_Same : Nat := 56
theorem q_entry_Same : Tryz.prog.funcs[n_entry_Same]? = some Tryz.f56 := Tryz.func56
noncomputable abbrev F_entry_Same : Func := Tryz.f56
abbrev n_slices_EqualFunc_LEntry_LEntry_Entry_Entry : Nat := 57
theorem q_slices_EqualFunc_LEntry_LEntry_Entry_Entry : Tryz.prog.funcs[n_slices_EqualFunc_LEntry_LEntry_Entry_Entry]? = some Tryz.f57 := Tryz.func57
noncomputable abbrev F_slices_EqualFunc_LEntry_LEntry_Entry_Entry : Func := Tryz.f57
abbrev n_ouroboroslaw06_Few : Nat := 58
theorem q_ouroboroslaw06_Few : Tryz.prog.funcs[n_ouroboroslaw06_Few]? = some Tryz.f58 := Tryz.func58
noncomputable abbrev F_ouroboroslaw06_Few : Func := Tryz.f58
abbrev n_ouroborosref07_Same : Nat := 59
theorem q_ouroborosref07_Same : Tryz.prog.funcs[n_ouroborosref07_Same]? = some Tryz.f59 := Tryz.func59
noncomputable abbrev F_ouroborosref07_Same : Func := Tryz.f59
abbrev n_ouroborosref08_Check : Nat := 60
theorem q_ouroborosref08_Check : Tryz.prog.funcs[n_ouroborosref08_Check]? = some Tryz.f60 := Tryz.func60
noncomputable abbrev F_ouroborosref08_Check : Func := Tryz.f60
abbrev n_ouroborosref07_Put : Nat := 61
theorem q_ouroborosref07_Put : Tryz.prog.funcs[n_ouroborosref07_Put]? = some Tryz.f61 := Tryz.func61
noncomputable abbrev F_ouroborosref07_Put : Func := Tryz.f61
abbrev n_ouroborosref10_Bucket : Nat := 62
theorem q_ouroborosref10_Bucket : Tryz.prog.funcs[n_ouroborosref10_Bucket]? = some Tryz.f62 := Tryz.func62
noncomputable abbrev F_ouroborosref10_Bucket : Func := Tryz.f62
abbrev n_ouroborosref02_Sum : Nat := 63
theorem q_ouroborosref02_Sum : Tryz.prog.funcs[n_ouroborosref02_Sum]? = some Tryz.f63 := Tryz.func63
noncomputable abbrev F_ouroborosref02_Sum : Func := Tryz.f63
abbrev n_digest_In : Nat := 64
theorem q_digest_In : Tryz.prog.funcs[n_digest_In]? = some Tryz.f64 := Tryz.func64
noncomputable abbrev F_digest_In : Func := Tryz.f64
abbrev n_ouroborosref10_bit : Nat := 65
theorem q_ouroborosref10_bit : Tryz.prog.funcs[n_ouroborosref10_bit]? = some Tryz.f65 := Tryz.func65
noncomputable abbrev F_ouroborosref10_bit : Func := Tryz.f65
abbrev n_ouroborosref10_Put : Nat := 66
theorem q_ouroborosref10_Put : Tryz.prog.funcs[n_ouroborosref10_Put]? = some Tryz.f66 := Tryz.func66
noncomputable abbrev F_ouroborosref10_Put : Func := Tryz.f66
abbrev n_ouroborosref14_entries : Nat := 67
theorem q_ouroborosref14_entries : Tryz.prog.funcs[n_ouroborosref14_entries]? = some Tryz.f67 := Tryz.func67
noncomputable abbrev F_ouroborosref14_entries : Func := Tryz.f67
abbrev n_value_Check : Nat := 68
theorem q_value_Check : Tryz.prog.funcs[n_value_Check]? = some Tryz.f68 := Tryz.func68
noncomputable abbrev F_value_Check : Func := Tryz.f68
abbrev n_slices_IndexFunc_LEntry_Entry : Nat := 69
theorem q_slices_IndexFunc_LEntry_Entry : Tryz.prog.funcs[n_slices_IndexFunc_LEntry_Entry]? = some Tryz.f69 := Tryz.func69
noncomputable abbrev F_slices_IndexFunc_LEntry_Entry : Func := Tryz.f69
abbrev n_slices_SortStableFunc_Lint_int : Nat := 70
theorem q_slices_SortStableFunc_Lint_int : Tryz.prog.funcs[n_slices_SortStableFunc_Lint_int]? = some Tryz.f70 := Tryz.func70
noncomputable abbrev F_slices_SortStableFunc_Lint_int : Func := Tryz.f70
abbrev n_arena_index_1 : Nat := 71
theorem q_arena_index_1 : Tryz.prog.funcs[n_arena_index_1]? = some Tryz.f71 := Tryz.func71
noncomputable abbrev F_arena_index_1 : Func := Tryz.f71
abbrev n_arena_changing_put : Nat := 72
theorem q_arena_changing_put : Tryz.prog.funcs[n_arena_changing_put]? = some Tryz.f72 := Tryz.func72
noncomputable abbrev F_arena_changing_put : Func := Tryz.f72
abbrev n_digest_slots_1 : Nat := 73
theorem q_digest_slots_1 : Tryz.prog.funcs[n_digest_slots_1]? = some Tryz.f73 := Tryz.func73
noncomputable abbrev F_digest_slots_1 : Func := Tryz.f73
abbrev n_arena_Chunk : Nat := 74
theorem q_arena_Chunk : Tryz.prog.funcs[n_arena_Chunk]? = some Tryz.f74 := Tryz.func74
noncomputable abbrev F_arena_Chunk : Func := Tryz.f74
abbrev n_entry_writer_number : Nat := 75
theorem q_entry_writer_number : Tryz.prog.funcs[n_entry_writer_number]? = some Tryz.f75 := Tryz.func75
noncomputable abbrev F_entry_writer_number : Func := Tryz.f75
abbrev n_entry_writer_text : Nat := 76
theorem q_entry_writer_text : Tryz.prog.funcs[n_entry_writer_text]? = some Tryz.f76 := Tryz.func76
noncomputable abbrev F_entry_writer_text : Func := Tryz.f76
abbrev n_strings_Builder_Len : Nat := 77
theorem q_strings_Builder_Len : Tryz.prog.funcs[n_strings_Builder_Len]? = some Tryz.f77 := Tryz.func77
noncomputable abbrev F_strings_Builder_Len : Func := Tryz.f77
abbrev n_entry_writer_register : Nat := 78
theorem q_entry_writer_register : Tryz.prog.funcs[n_entry_writer_register]? = some Tryz.f78 := Tryz.func78
noncomputable abbrev F_entry_writer_register : Func := Tryz.f78
abbrev n_entry_writer_counter : Nat := 79
theorem q_entry_writer_counter : Tryz.prog.funcs[n_entry_writer_counter]? = some Tryz.f79 := Tryz.func79
noncomputable abbrev F_entry_writer_counter : Func := Tryz.f79
abbrev n_entry_writer_flags : Nat := 80
theorem q_entry_writer_flags : Tryz.prog.funcs[n_entry_writer_flags]? = some Tryz.f80 := Tryz.func80
noncomputable abbrev F_entry_writer_flags : Func := Tryz.f80
abbrev n_strings_Builder_String : Nat := 81
theorem q_strings_Builder_String : Tryz.prog.funcs[n_strings_Builder_String]? = some Tryz.f81 := Tryz.func81
noncomputable abbrev F_strings_Builder_String : Func := Tryz.f81
abbrev n_crc_on : Nat := 82
theorem q_crc_on : Tryz.prog.funcs[n_crc_on]? = some Tryz.f82 := Tryz.func82
noncomputable abbrev F_crc_on : Func := Tryz.f82
abbrev n_arena_each_1 : Nat := 83
theorem q_arena_each_1 : Tryz.prog.funcs[n_arena_each_1]? = some Tryz.f83 := Tryz.func83
noncomputable abbrev F_arena_each_1 : Func := Tryz.f83
abbrev n_octet_Put : Nat := 84
theorem q_octet_Put : Tryz.prog.funcs[n_octet_Put]? = some Tryz.f84 := Tryz.func84
noncomputable abbrev F_octet_Put : Func := Tryz.f84
abbrev n_value_Join : Nat := 85
theorem q_value_Join : Tryz.prog.funcs[n_value_Join]? = some Tryz.f85 := Tryz.func85
noncomputable abbrev F_value_Join : Func := Tryz.f85
abbrev n_value_Same : Nat := 86
theorem q_value_Same : Tryz.prog.funcs[n_value_Same]? = some Tryz.f86 := Tryz.func86
noncomputable abbrev F_value_Same : Func := Tryz.f86
abbrev n_ouroborosref06_Same : Nat := 87
theorem q_ouroborosref06_Same : Tryz.prog.funcs[n_ouroborosref06_Same]? = some Tryz.f87 := Tryz.func87
noncomputable abbrev F_ouroborosref06_Same : Func := Tryz.f87
abbrev n_ouroborosref08_slots : Nat := 88
theorem q_ouroborosref08_slots : Tryz.prog.funcs[n_ouroborosref08_slots]? = some Tryz.f88 := Tryz.func88
noncomputable abbrev F_ouroborosref08_slots : Func := Tryz.f88
abbrev n_ouroborosref01_Ints : Nat := 89
theorem q_ouroborosref01_Ints : Tryz.prog.funcs[n_ouroborosref01_Ints]? = some Tryz.f89 := Tryz.func89
noncomputable abbrev F_ouroborosref01_Ints : Func := Tryz.f89
abbrev n_ouroborosref08_index : Nat := 90
theorem q_ouroborosref08_index : Tryz.prog.funcs[n_ouroborosref08_index]? = some Tryz.f90 := Tryz.func90
noncomputable abbrev F_ouroborosref08_index : Func := Tryz.f90
abbrev n_ouroborosref07_Check : Nat := 91
theorem q_ouroborosref07_Check : Tryz.prog.funcs[n_ouroborosref07_Check]? = some Tryz.f91 := Tryz.func91
noncomputable abbrev F_ouroborosref07_Check : Func := Tryz.f91
abbrev n_ouroborosref07_num : Nat := 92
theorem q_ouroborosref07_num : Tryz.prog.funcs[n_ouroborosref07_num]? = some Tryz.f92 := Tryz.func92
noncomputable abbrev F_ouroborosref07_num : Func := Tryz.f92
abbrev n_ouroborosref07_pad : Nat := 93
theorem q_ouroborosref07_pad : Tryz.prog.funcs[n_ouroborosref07_pad]? = some Tryz.f93 := Tryz.func93
noncomputable abbrev F_ouroborosref07_pad : Func := Tryz.f93
abbrev n_ouroborosref07_data : Nat := 94
theorem q_ouroborosref07_data : Tryz.prog.funcs[n_ouroborosref07_data]? = some Tryz.f94 := Tryz.func94
noncomputable abbrev F_ouroborosref07_data : Func := Tryz.f94
abbrev n_ouroborosref02_on : Nat := 95
theorem q_ouroborosref02_on : Tryz.prog.funcs[n_ouroborosref02_on]? = some Tryz.f95 := Tryz.func95
noncomputable abbrev F_ouroborosref02_on : Func := Tryz.f95
abbrev n_digest_In_1 : Nat := 96
theorem q_digest_In_1 : Tryz.prog.funcs[n_digest_In_1]? = some Tryz.f96 := Tryz.func96
noncomputable abbrev F_digest_In_1 : Func := Tryz.f96
abbrev n_ouroborosref01_Put : Nat := 97
theorem q_ouroborosref01_Put : Tryz.prog.funcs[n_ouroborosref01_Put]? = some Tryz.f97 := Tryz.func97
noncomputable abbrev F_ouroborosref01_Put : Func := Tryz.f97
abbrev n_value_kinds : Nat := 98
theorem q_value_kinds : Tryz.prog.funcs[n_value_kinds]? = some Tryz.f98 := Tryz.func98
noncomputable abbrev F_value_kinds : Func := Tryz.f98
abbrev n_slices_stableCmpFunc_int : Nat := 99
theorem q_slices_stableCmpFunc_int : Tryz.prog.funcs[n_slices_stableCmpFunc_int]? = some Tryz.f99 := Tryz.func99
noncomputable abbrev F_slices_stableCmpFunc_int : Func := Tryz.f99
abbrev n_slices_Clone_LEntry_Entry : Nat := 100
theorem q_slices_Clone_LEntry_Entry : Tryz.prog.funcs[n_slices_Clone_LEntry_Entry]? = some Tryz.f100 := Tryz.func100
noncomputable abbrev F_slices_Clone_LEntry_Entry : Func := Tryz.f100
abbrev n_strings_Builder_WriteString : Nat := 101
theorem q_strings_Builder_WriteString : Tryz.prog.funcs[n_strings_Builder_WriteString]? = some Tryz.f101 := Tryz.func101
noncomputable abbrev F_strings_Builder_WriteString : Func := Tryz.f101
abbrev n_crc_table_step : Nat := 102
theorem q_crc_table_step : Tryz.prog.funcs[n_crc_table_step]? = some Tryz.f102 := Tryz.func102
noncomputable abbrev F_crc_table_step : Func := Tryz.f102
abbrev n_octet_parts : Nat := 103
theorem q_octet_parts : Tryz.prog.funcs[n_octet_parts]? = some Tryz.f103 := Tryz.func103
noncomputable abbrev F_octet_parts : Func := Tryz.f103
abbrev n_slices_Clone_Lint_int : Nat := 104
theorem q_slices_Clone_Lint_int : Tryz.prog.funcs[n_slices_Clone_Lint_int]? = some Tryz.f104 := Tryz.func104
noncomputable abbrev F_slices_Clone_Lint_int : Func := Tryz.f104
abbrev n_ouroborosref07_Name : Nat := 105
theorem q_ouroborosref07_Name : Tryz.prog.funcs[n_ouroborosref07_Name]? = some Tryz.f105 := Tryz.func105
noncomputable abbrev F_ouroborosref07_Name : Func := Tryz.f105
abbrev n_ouroborosref07_Less : Nat := 106
theorem q_ouroborosref07_Less : Tryz.prog.funcs[n_ouroborosref07_Less]? = some Tryz.f106 := Tryz.func106
noncomputable abbrev F_ouroborosref07_Less : Func := Tryz.f106
abbrev n_ouroborosref06_Check : Nat := 107
theorem q_ouroborosref06_Check : Tryz.prog.funcs[n_ouroborosref06_Check]? = some Tryz.f107 := Tryz.func107
noncomputable abbrev F_ouroborosref06_Check : Func := Tryz.f107
abbrev n_ouroborosref07_bit : Nat := 108
theorem q_ouroborosref07_bit : Tryz.prog.funcs[n_ouroborosref07_bit]? = some Tryz.f108 := Tryz.func108
noncomputable abbrev F_ouroborosref07_bit : Func := Tryz.f108
abbrev n_ouroborosref07_nums : Nat := 109
theorem q_ouroborosref07_nums : Tryz.prog.funcs[n_ouroborosref07_nums]? = some Tryz.f109 := Tryz.func109
noncomputable abbrev F_ouroborosref07_nums : Func := Tryz.f109
abbrev n_ouroborosref02_step : Nat := 110
theorem q_ouroborosref02_step : Tryz.prog.funcs[n_ouroborosref02_step]? = some Tryz.f110 := Tryz.func110
noncomputable abbrev F_ouroborosref02_step : Func := Tryz.f110
abbrev n_slices_insertionSortCmpFunc_int : Nat := 111
theorem q_slices_insertionSortCmpFunc_int : Tryz.prog.funcs[n_slices_insertionSortCmpFunc_int]? = some Tryz.f111 := Tryz.func111
noncomputable abbrev F_slices_insertionSortCmpFunc_int : Func := Tryz.f111
abbrev n_slices_symMergeCmpFunc_int : Nat := 112
theorem q_slices_symMergeCmpFunc_int : Tryz.prog.funcs[n_slices_symMergeCmpFunc_int]? = some Tryz.f112 := Tryz.func112
noncomputable abbrev F_slices_symMergeCmpFunc_int : Func := Tryz.f112
abbrev n_strings_Builder_copyCheck : Nat := 113
theorem q_strings_Builder_copyCheck : Tryz.prog.funcs[n_strings_Builder_copyCheck]? = some Tryz.f113 := Tryz.func113
noncomputable abbrev F_strings_Builder_copyCheck : Func := Tryz.f113
abbrev n_sync_Once_Do : Nat := 114
theorem q_sync_Once_Do : Tryz.prog.funcs[n_sync_Once_Do]? = some Tryz.f114 := Tryz.func114
noncomputable abbrev F_sync_Once_Do : Func := Tryz.f114
abbrev n_crc_table_fill : Nat := 115
theorem q_crc_table_fill : Tryz.prog.funcs[n_crc_table_fill]? = some Tryz.f115 := Tryz.func115
noncomputable abbrev F_crc_table_fill : Func := Tryz.f115
abbrev n_octet_parts_1 : Nat := 116
theorem q_octet_parts_1 : Tryz.prog.funcs[n_octet_parts_1]? = some Tryz.f116 := Tryz.func116
noncomputable abbrev F_octet_parts_1 : Func := Tryz.f116
abbrev n_ouroborosref06_noCount : Nat := 117
theorem q_ouroborosref06_noCount : Tryz.prog.funcs[n_ouroborosref06_noCount]? = some Tryz.f117 := Tryz.func117
noncomputable abbrev F_ouroborosref06_noCount : Func := Tryz.f117
abbrev n_ouroborosref06_counts : Nat := 118
theorem q_ouroborosref06_counts : Tryz.prog.funcs[n_ouroborosref06_counts]? = some Tryz.f118 := Tryz.func118
noncomputable abbrev F_ouroborosref06_counts : Func := Tryz.f118
abbrev n_ouroborosref06_noReg : Nat := 119
theorem q_ouroborosref06_noReg : Tryz.prog.funcs[n_ouroborosref06_noReg]? = some Tryz.f119 := Tryz.func119
noncomputable abbrev F_ouroborosref06_noReg : Func := Tryz.f119
abbrev n_slices_rotateCmpFunc_int : Nat := 120
theorem q_slices_rotateCmpFunc_int : Tryz.prog.funcs[n_slices_rotateCmpFunc_int]? = some Tryz.f120 := Tryz.func120
noncomputable abbrev F_slices_rotateCmpFunc_int : Func := Tryz.f120
abbrev n_internal_abi_NoEscape : Nat := 121
theorem q_internal_abi_NoEscape : Tryz.prog.funcs[n_internal_abi_NoEscape]? = some Tryz.f121 := Tryz.func121
noncomputable abbrev F_internal_abi_NoEscape : Func := Tryz.f121
abbrev n_sync_atomic_Bool_Load : Nat := 122
theorem q_sync_atomic_Bool_Load : Tryz.prog.funcs[n_sync_atomic_Bool_Load]? = some Tryz.f122 := Tryz.func122
noncomputable abbrev F_sync_atomic_Bool_Load : Func := Tryz.f122
abbrev n_sync_Once_doSlow : Nat := 123
theorem q_sync_Once_doSlow : Tryz.prog.funcs[n_sync_Once_doSlow]? = some Tryz.f123 := Tryz.func123
noncomputable abbrev F_sync_Once_doSlow : Func := Tryz.f123
abbrev n_slices_swapRangeCmpFunc_int : Nat := 124
theorem q_slices_swapRangeCmpFunc_int : Tryz.prog.funcs[n_slices_swapRangeCmpFunc_int]? = some Tryz.f124 := Tryz.func124
noncomputable abbrev F_slices_swapRangeCmpFunc_int : Func := Tryz.f124
abbrev n_sync_atomic_LoadUint32 : Nat := 125
theorem q_sync_atomic_LoadUint32 : Tryz.prog.funcs[n_sync_atomic_LoadUint32]? = some Tryz.f125 := Tryz.func125
noncomputable abbrev F_sync_atomic_LoadUint32 : Func := Tryz.f125
abbrev n_sync_Mutex_Lock : Nat := 126
theorem q_sync_Mutex_Lock : Tryz.prog.funcs[n_sync_Mutex_Lock]? = some Tryz.f126 := Tryz.func126
noncomputable abbrev F_sync_Mutex_Lock : Func := Tryz.f126
abbrev n_sync_Mutex_Unlock : Nat := 127
theorem q_sync_Mutex_Unlock : Tryz.prog.funcs[n_sync_Mutex_Unlock]? = some Tryz.f127 := Tryz.func127
noncomputable abbrev F_sync_Mutex_Unlock : Func := Tryz.f127
abbrev n_sync_atomic_Bool_Store : Nat := 128
theorem q_sync_atomic_Bool_Store : Tryz.prog.funcs[n_sync_atomic_Bool_Store]? = some Tryz.f128 := Tryz.func128
noncomputable abbrev F_sync_atomic_Bool_Store : Func := Tryz.f128
abbrev n_internal_sync_Mutex_Lock : Nat := 129
theorem q_internal_sync_Mutex_Lock : Tryz.prog.funcs[n_internal_sync_Mutex_Lock]? = some Tryz.f129 := Tryz.func129
noncomputable abbrev F_internal_sync_Mutex_Lock : Func := Tryz.f129
abbrev n_internal_sync_Mutex_Unlock : Nat := 130
theorem q_internal_sync_Mutex_Unlock : Tryz.prog.funcs[n_internal_sync_Mutex_Unlock]? = some Tryz.f130 := Tryz.func130
noncomputable abbrev F_internal_sync_Mutex_Unlock : Func := Tryz.f130
abbrev n_sync_atomic_StoreUint32 : Nat := 131
theorem q_sync_atomic_StoreUint32 : Tryz.prog.funcs[n_sync_atomic_StoreUint32]? = some Tryz.f131 := Tryz.func131
noncomputable abbrev F_sync_atomic_StoreUint32 : Func := Tryz.f131
abbrev n_sync_atomic_b32 : Nat := 132
theorem q_sync_atomic_b32 : Tryz.prog.funcs[n_sync_atomic_b32]? = some Tryz.f132 := Tryz.func132
noncomputable abbrev F_sync_atomic_b32 : Func := Tryz.f132
abbrev n_internal_race_Disable : Nat := 133
theorem q_internal_race_Disable : Tryz.prog.funcs[n_internal_race_Disable]? = some Tryz.f133 := Tryz.func133
noncomputable abbrev F_internal_race_Disable : Func := Tryz.f133
abbrev n_sync_atomic_CompareAndSwapInt32 : Nat := 134
theorem q_sync_atomic_CompareAndSwapInt32 : Tryz.prog.funcs[n_sync_atomic_CompareAndSwapInt32]? = some Tryz.f134 := Tryz.func134
noncomputable abbrev F_sync_atomic_CompareAndSwapInt32 : Func := Tryz.f134
abbrev n_internal_race_Enable : Nat := 135
theorem q_internal_race_Enable : Tryz.prog.funcs[n_internal_race_Enable]? = some Tryz.f135 := Tryz.func135
noncomputable abbrev F_internal_race_Enable : Func := Tryz.f135
abbrev n_internal_race_Acquire : Nat := 136
theorem q_internal_race_Acquire : Tryz.prog.funcs[n_internal_race_Acquire]? = some Tryz.f136 := Tryz.func136
noncomputable abbrev F_internal_race_Acquire : Func := Tryz.f136
abbrev n_internal_sync_Mutex_lockSlow : Nat := 137
theorem q_internal_sync_Mutex_lockSlow : Tryz.prog.funcs[n_internal_sync_Mutex_lockSlow]? = some Tryz.f137 := Tryz.func137
noncomputable abbrev F_internal_sync_Mutex_lockSlow : Func := Tryz.f137
abbrev n_internal_race_ReleaseMerge : Nat := 138
theorem q_internal_race_ReleaseMerge : Tryz.prog.funcs[n_internal_race_ReleaseMerge]? = some Tryz.f138 := Tryz.func138
noncomputable abbrev F_internal_race_ReleaseMerge : Func := Tryz.f138
abbrev n_sync_atomic_AddInt32 : Nat := 139
theorem q_sync_atomic_AddInt32 : Tryz.prog.funcs[n_sync_atomic_AddInt32]? = some Tryz.f139 := Tryz.func139
noncomputable abbrev F_sync_atomic_AddInt32 : Func := Tryz.f139
abbrev n_internal_sync_Mutex_unlockSlow : Nat := 140
theorem q_internal_sync_Mutex_unlockSlow : Tryz.prog.funcs[n_internal_sync_Mutex_unlockSlow]? = some Tryz.f140 := Tryz.func140
noncomputable abbrev F_internal_sync_Mutex_unlockSlow : Func := Tryz.f140
abbrev n_Errno_Error : Nat := 163
theorem q_Errno_Error : Tryz.prog.funcs[n_Errno_Error]? = some Tryz.f163 := Tryz.func163
noncomputable abbrev F_Errno_Error : Func := Tryz.f163
abbrev n_strings_Builder_Reset : Nat := 164
theorem q_strings_Builder_Reset : Tryz.prog.funcs[n_strings_Builder_Reset]? = some Tryz.f164 := Tryz.func164
noncomputable abbrev F_strings_Builder_Reset : Func := Tryz.f164
abbrev n_value_register_is : Nat := 165
theorem q_value_register_is : Tryz.prog.funcs[n_value_register_is]? = some Tryz.f165 := Tryz.func165
noncomputable abbrev F_value_register_is : Func := Tryz.f165
abbrev n_value_register_join : Nat := 166
theorem q_value_register_join : Tryz.prog.funcs[n_value_register_join]? = some Tryz.f166 := Tryz.func166
noncomputable abbrev F_value_register_join : Func := Tryz.f166
abbrev n_value_register_least : Nat := 167
theorem q_value_register_least : Tryz.prog.funcs[n_value_register_least]? = some Tryz.f167 := Tryz.func167
noncomputable abbrev F_value_register_least : Func := Tryz.f167
abbrev n_value_only : Nat := 168
theorem q_value_only : Tryz.prog.funcs[n_value_only]? = some Tryz.f168 := Tryz.func168
noncomputable abbrev F_value_only : Func := Tryz.f168
abbrev n_value_register_is_1 : Nat := 169
theorem q_value_register_is_1 : Tryz.prog.funcs[n_value_register_is_1]? = some Tryz.f169 := Tryz.func169
noncomputable abbrev F_value_register_is_1 : Func := Tryz.f169
abbrev n_value_first : Nat := 170
theorem q_value_first : Tryz.prog.funcs[n_value_first]? = some Tryz.f170 := Tryz.func170
noncomputable abbrev F_value_first : Func := Tryz.f170
abbrev n_cmp_Compare_int : Nat := 171
theorem q_cmp_Compare_int : Tryz.prog.funcs[n_cmp_Compare_int]? = some Tryz.f171 := Tryz.func171
noncomputable abbrev F_cmp_Compare_int : Func := Tryz.f171
abbrev n_value_bit : Nat := 172
theorem q_value_bit : Tryz.prog.funcs[n_value_bit]? = some Tryz.f172 := Tryz.func172
noncomputable abbrev F_value_bit : Func := Tryz.f172
abbrev n_cmp_Compare_string : Nat := 173
theorem q_cmp_Compare_string : Tryz.prog.funcs[n_cmp_Compare_string]? = some Tryz.f173 := Tryz.func173
noncomputable abbrev F_cmp_Compare_string : Func := Tryz.f173
abbrev n_cmp_isNaN_int : Nat := 174
theorem q_cmp_isNaN_int : Tryz.prog.funcs[n_cmp_isNaN_int]? = some Tryz.f174 := Tryz.func174
noncomputable abbrev F_cmp_isNaN_int : Func := Tryz.f174
abbrev n_cmp_isNaN_string : Nat := 175
theorem q_cmp_isNaN_string : Tryz.prog.funcs[n_cmp_isNaN_string]? = some Tryz.f175 := Tryz.func175
noncomputable abbrev F_cmp_isNaN_string : Func := Tryz.f175
abbrev n_value_counter_is : Nat := 176
theorem q_value_counter_is : Tryz.prog.funcs[n_value_counter_is]? = some Tryz.f176 := Tryz.func176
noncomputable abbrev F_value_counter_is : Func := Tryz.f176
abbrev n_value_counter_join : Nat := 177
theorem q_value_counter_join : Tryz.prog.funcs[n_value_counter_join]? = some Tryz.f177 := Tryz.func177
noncomputable abbrev F_value_counter_join : Func := Tryz.f177
abbrev n_value_counter_least : Nat := 178
theorem q_value_counter_least : Tryz.prog.funcs[n_value_counter_least]? = some Tryz.f178 := Tryz.func178
noncomputable abbrev F_value_counter_least : Func := Tryz.f178
abbrev n_value_counter_is_1 : Nat := 179
theorem q_value_counter_is_1 : Tryz.prog.funcs[n_value_counter_is_1]? = some Tryz.f179 := Tryz.func179
noncomputable abbrev F_value_counter_is_1 : Func := Tryz.f179
abbrev n_value_counter_is_2 : Nat := 180
theorem q_value_counter_is_2 : Tryz.prog.funcs[n_value_counter_is_2]? = some Tryz.f180 := Tryz.func180
noncomputable abbrev F_value_counter_is_2 : Func := Tryz.f180
abbrev n_slices_ContainsFunc_Lint_int : Nat := 181
theorem q_slices_ContainsFunc_Lint_int : Tryz.prog.funcs[n_slices_ContainsFunc_Lint_int]? = some Tryz.f181 := Tryz.func181
noncomputable abbrev F_slices_ContainsFunc_Lint_int : Func := Tryz.f181
abbrev n_value_counter_join_1 : Nat := 182
theorem q_value_counter_join_1 : Tryz.prog.funcs[n_value_counter_join_1]? = some Tryz.f182 := Tryz.func182
noncomputable abbrev F_value_counter_join_1 : Func := Tryz.f182
abbrev n_slices_IndexFunc_Lint_int : Nat := 183
theorem q_slices_IndexFunc_Lint_int : Tryz.prog.funcs[n_slices_IndexFunc_Lint_int]? = some Tryz.f183 := Tryz.func183
noncomputable abbrev F_slices_IndexFunc_Lint_int : Func := Tryz.f183
abbrev n_value_flags_is : Nat := 184
theorem q_value_flags_is : Tryz.prog.funcs[n_value_flags_is]? = some Tryz.f184 := Tryz.func184
noncomputable abbrev F_value_flags_is : Func := Tryz.f184
abbrev n_value_flags_join : Nat := 185
theorem q_value_flags_join : Tryz.prog.funcs[n_value_flags_join]? = some Tryz.f185 := Tryz.func185
noncomputable abbrev F_value_flags_join : Func := Tryz.f185
abbrev n_value_flags_least : Nat := 186
theorem q_value_flags_least : Tryz.prog.funcs[n_value_flags_least]? = some Tryz.f186 := Tryz.func186
noncomputable abbrev F_value_flags_least : Func := Tryz.f186
abbrev n_value_flags_is_1 : Nat := 187
theorem q_value_flags_is_1 : Tryz.prog.funcs[n_value_flags_is_1]? = some Tryz.f187 := Tryz.func187
noncomputable abbrev F_value_flags_is_1 : Func := Tryz.f187
abbrev t_int64 : Nat := 2
theorem u_int64 : type_of% Tryz.underlying2 := Tryz.underlying2
abbrev t_int : Nat := 3
theorem u_int : type_of% Tryz.underlying3 := Tryz.underlying3
abbrev t_bool : Nat := 4
theorem u_bool : type_of% Tryz.underlying4 := Tryz.underlying4
abbrev t_uint8 : Nat := 5
theorem u_uint8 : type_of% Tryz.underlying5 := Tryz.underlying5
abbrev t_abi_BoundsErrorCode : Nat := 6
theorem u_abi_BoundsErrorCode : type_of% Tryz.underlying6 := Tryz.underlying6
abbrev t_runtime_boundsError : Nat := 8
theorem u_runtime_boundsError : type_of% Tryz.underlying8 := Tryz.underlying8
abbrev t_string : Nat := 9
theorem u_string : type_of% Tryz.underlying9 := Tryz.underlying9
abbrev t_runtime_errorString : Nat := 10
theorem u_runtime_errorString : type_of% Tryz.underlying10 := Tryz.underlying10
abbrev t_runtime_plainError : Nat := 11
theorem u_runtime_plainError : type_of% Tryz.underlying11 := Tryz.underlying11
abbrev t_uintptr : Nat := 12
theorem u_uintptr : type_of% Tryz.underlying12 := Tryz.underlying12
abbrev t_runtime_errorAddressString : Nat := 14
theorem u_runtime_errorAddressString : type_of% Tryz.underlying14 := Tryz.underlying14
abbrev t_P_runtime_TypeAssertionError : Nat := 15
theorem u_P_runtime_TypeAssertionError : type_of% Tryz.underlying15 := Tryz.underlying15
abbrev t_P_runtime_PanicNilError : Nat := 16
theorem u_P_runtime_PanicNilError : type_of% Tryz.underlying16 := Tryz.underlying16
abbrev t_P_abi_Type : Nat := 17
theorem u_P_abi_Type : type_of% Tryz.underlying17 := Tryz.underlying17
abbrev t_maps_unhashableTypeError : Nat := 19
theorem u_maps_unhashableTypeError : type_of% Tryz.underlying19 := Tryz.underlying19
abbrev t_interface : Nat := 20
theorem u_interface : type_of% Tryz.underlying20 := Tryz.underlying20
abbrev t_int32 : Nat := 21
theorem u_int32 : type_of% Tryz.underlying21 := Tryz.underlying21
abbrev t_LEntry : Nat := 22
theorem u_LEntry : type_of% Tryz.underlying22 := Tryz.underlying22
abbrev t_Lint : Nat := 23
theorem u_Lint : type_of% Tryz.underlying23 := Tryz.underlying23
abbrev t_Arena : Nat := 25
theorem u_Arena : type_of% Tryz.underlying25 := Tryz.underlying25
abbrev t_4_int : Nat := 26
theorem u_4_int : type_of% Tryz.underlying26 := Tryz.underlying26
abbrev t_frame_Frame : Nat := 28
theorem u_frame_Frame : type_of% Tryz.underlying28 := Tryz.underlying28
abbrev t_ouroborosref14_Frame : Nat := 33
theorem u_ouroborosref14_Frame : type_of% Tryz.underlying33 := Tryz.underlying33
abbrev t_Errno : Nat := 42
theorem u_Errno : type_of% Tryz.underlying42 := Tryz.underlying42
abbrev t_uint64 : Nat := 50
theorem u_uint64 : type_of% Tryz.underlying50 := Tryz.underlying50
abbrev t_Value : Nat := 52
theorem u_Value : type_of% Tryz.underlying52 := Tryz.underlying52
abbrev t_Entry : Nat := 54
theorem u_Entry : type_of% Tryz.underlying54 := Tryz.underlying54
abbrev t_uint : Nat := 59
theorem u_uint : type_of% Tryz.underlying59 := Tryz.underlying59
abbrev t_digest_sums : Nat := 75
theorem u_digest_sums : type_of% Tryz.underlying75 := Tryz.underlying75
abbrev t_frame_form : Nat := 82
theorem u_frame_form : type_of% Tryz.underlying82 := Tryz.underlying82
abbrev t_map_int_frame_form : Nat := 84
theorem u_map_int_frame_form : type_of% Tryz.underlying84 := Tryz.underlying84
abbrev t_Luint8 : Nat := 89
theorem u_Luint8 : type_of% Tryz.underlying89 := Tryz.underlying89
abbrev t_P_arena_changing : Nat := 98
theorem u_P_arena_changing : type_of% Tryz.underlying98 := Tryz.underlying98
abbrev t_arena_changing : Nat := 100
theorem u_arena_changing : type_of% Tryz.underlying100 := Tryz.underlying100
abbrev t_P_entry_writer : Nat := 102
theorem u_P_entry_writer : type_of% Tryz.underlying102 := Tryz.underlying102
abbrev t_P_strings_Builder : Nat := 103
theorem u_P_strings_Builder : type_of% Tryz.underlying103 := Tryz.underlying103
abbrev t_strings_Builder : Nat := 105
theorem u_strings_Builder : type_of% Tryz.underlying105 := Tryz.underlying105
abbrev t_entry_writer : Nat := 107
theorem u_entry_writer : type_of% Tryz.underlying107 := Tryz.underlying107
abbrev t_map_int_func_Value : Nat := 112
theorem u_map_int_func_Value : type_of% Tryz.underlying112 := Tryz.underlying112
abbrev t_uint32 : Nat := 114
theorem u_uint32 : type_of% Tryz.underlying114 := Tryz.underlying114
abbrev t_value_lattice : Nat := 125
theorem u_value_lattice : type_of% Tryz.underlying125 := Tryz.underlying125
abbrev t_interface_Error_string : Nat := 130
theorem u_interface_Error_string : type_of% Tryz.underlying130 := Tryz.underlying130
abbrev t_error : Nat := 131
theorem u_error : type_of% Tryz.underlying131 := Tryz.underlying131
abbrev t_LLint : Nat := 134
theorem u_LLint : type_of% Tryz.underlying134 := Tryz.underlying134
abbrev t_P_uint8 : Nat := 135
theorem u_P_uint8 : type_of% Tryz.underlying135 := Tryz.underlying135
abbrev t_P_crc_table : Nat := 136
theorem u_P_crc_table : type_of% Tryz.underlying136 := Tryz.underlying136
abbrev t_sync_noCopy : Nat := 138
theorem u_sync_noCopy : type_of% Tryz.underlying138 := Tryz.underlying138
abbrev t_atomic_noCopy : Nat := 139
theorem u_atomic_noCopy : type_of% Tryz.underlying139 := Tryz.underlying139
abbrev t_atomic_Bool : Nat := 141
theorem u_atomic_Bool : type_of% Tryz.underlying141 := Tryz.underlying141
abbrev t_sync_Mutex : Nat := 143
theorem u_sync_Mutex : type_of% Tryz.underlying143 := Tryz.underlying143
abbrev t_sync_Once : Nat := 147
theorem u_sync_Once : type_of% Tryz.underlying147 := Tryz.underlying147
abbrev t_16_uint32 : Nat := 148
theorem u_16_uint32 : type_of% Tryz.underlying148 := Tryz.underlying148
abbrev t_crc_table : Nat := 150
theorem u_crc_table : type_of% Tryz.underlying150 := Tryz.underlying150
abbrev t_value_register : Nat := 159
theorem u_value_register : type_of% Tryz.underlying159 := Tryz.underlying159
abbrev t_value_counter : Nat := 160
theorem u_value_counter : type_of% Tryz.underlying160 := Tryz.underlying160
abbrev t_value_flags : Nat := 161
theorem u_value_flags : type_of% Tryz.underlying161 := Tryz.underlying161
abbrev t_unsafe_Pointer : Nat := 167
theorem u_unsafe_Pointer : type_of% Tryz.underlying167 := Tryz.underlying167
abbrev t_P_sync_Once : Nat := 169
theorem u_P_sync_Once : type_of% Tryz.underlying169 := Tryz.underlying169
abbrev t_P_atomic_Bool : Nat := 170
theorem u_P_atomic_Bool : type_of% Tryz.underlying170 := Tryz.underlying170
abbrev t_P_uint32 : Nat := 172
theorem u_P_uint32 : type_of% Tryz.underlying172 := Tryz.underlying172
abbrev t_P_sync_Mutex : Nat := 174
theorem u_P_sync_Mutex : type_of% Tryz.underlying174 := Tryz.underlying174
abbrev t_P_int32 : Nat := 179
theorem u_P_int32 : type_of% Tryz.underlying179 := Tryz.underlying179
abbrev t_runtime_TypeAssertionError : Nat := 187
theorem u_runtime_TypeAssertionError : type_of% Tryz.underlying187 := Tryz.underlying187
abbrev t_0_P_runtime_PanicNilError : Nat := 188
theorem u_0_P_runtime_PanicNilError : type_of% Tryz.underlying188 := Tryz.underlying188
abbrev t_runtime_PanicNilError : Nat := 190
theorem u_runtime_PanicNilError : type_of% Tryz.underlying190 := Tryz.underlying190
abbrev t_abi_TFlag : Nat := 191
theorem u_abi_TFlag : type_of% Tryz.underlying191 := Tryz.underlying191
abbrev t_abi_Kind : Nat := 192
theorem u_abi_Kind : type_of% Tryz.underlying192 := Tryz.underlying192
abbrev t_abi_NameOff : Nat := 194
theorem u_abi_NameOff : type_of% Tryz.underlying194 := Tryz.underlying194
abbrev t_abi_TypeOff : Nat := 195
theorem u_abi_TypeOff : type_of% Tryz.underlying195 := Tryz.underlying195
abbrev t_abi_Type : Nat := 197
theorem u_abi_Type : type_of% Tryz.underlying197 := Tryz.underlying197
abbrev t_P_Value : Nat := 200
theorem u_P_Value : type_of% Tryz.underlying200 := Tryz.underlying200
end Go.Proofs.YtmjpidjdbofdjaaGreat
