import Derived.Test.YtmjpidjdbofdjaaTab
/- The seat's functions and types, by their names. -/
namespace Go.Proofs.Ytmjpidjdbofdjaa
open Go
abbrev n_main_main : Nat := 0
theorem q_main_main : Try.prog.funcs[n_main_main]? = some Try.f0 := Try.func0
abbrev n_gosem_cut : Nat := 1
theorem q_gosem_cut : Try.prog.funcs[n_gosem_cut]? = some Try.f1 := Try.func1
abbrev n_gosem_cut_init : Nat := 2
theorem q_gosem_cut_init : Try.prog.funcs[n_gosem_cut_init]? = some Try.f2 := Try.func2
abbrev n_ouroboroslaw19_SweepAll : Nat := 3
theorem q_ouroboroslaw19_SweepAll : Try.prog.funcs[n_ouroboroslaw19_SweepAll]? = some Try.f3 := Try.func3
abbrev n_ouroboroslaw19_SweepStays : Nat := 4
theorem q_ouroboroslaw19_SweepStays : Try.prog.funcs[n_ouroboroslaw19_SweepStays]? = some Try.f4 := Try.func4
abbrev n_ouroboroslaw19_SweepBounds : Nat := 5
theorem q_ouroboroslaw19_SweepBounds : Try.prog.funcs[n_ouroboroslaw19_SweepBounds]? = some Try.f5 := Try.func5
abbrev n_ouroboroslaw19_SweepNews : Nat := 6
theorem q_ouroboroslaw19_SweepNews : Try.prog.funcs[n_ouroboroslaw19_SweepNews]? = some Try.f6 := Try.func6
abbrev n_ouroboroslaw19_works : Nat := 7
theorem q_ouroboroslaw19_works : Try.prog.funcs[n_ouroboroslaw19_works]? = some Try.f7 := Try.func7
abbrev n_ouroboroslaw08_Few : Nat := 8
theorem q_ouroboroslaw08_Few : Try.prog.funcs[n_ouroboroslaw08_Few]? = some Try.f8 := Try.func8
abbrev n_arena_Check : Nat := 9
theorem q_arena_Check : Try.prog.funcs[n_arena_Check]? = some Try.f9 := Try.func9
abbrev n_sweep_Mend : Nat := 10
theorem q_sweep_Mend : Try.prog.funcs[n_sweep_Mend]? = some Try.f10 := Try.func10
abbrev n_sweep_Send : Nat := 11
theorem q_sweep_Send : Try.prog.funcs[n_sweep_Send]? = some Try.f11 := Try.func11
abbrev n_sweep_Heard : Nat := 12
theorem q_sweep_Heard : Try.prog.funcs[n_sweep_Heard]? = some Try.f12 := Try.func12
abbrev n_sweep_Done : Nat := 13
theorem q_sweep_Done : Try.prog.funcs[n_sweep_Done]? = some Try.f13 := Try.func13
abbrev n_frame_Check : Nat := 14
theorem q_frame_Check : Try.prog.funcs[n_frame_Check]? = some Try.f14 := Try.func14
abbrev n_ouroborosref07_All : Nat := 15
theorem q_ouroborosref07_All : Try.prog.funcs[n_ouroborosref07_All]? = some Try.f15 := Try.func15
abbrev n_ouroboroslaw08_Entries : Nat := 16
theorem q_ouroboroslaw08_Entries : Try.prog.funcs[n_ouroboroslaw08_Entries]? = some Try.f16 := Try.func16
abbrev n_arena_Merge : Nat := 17
theorem q_arena_Merge : Try.prog.funcs[n_arena_Merge]? = some Try.f17 := Try.func17
abbrev n_ouroborosref07_Same : Nat := 18
theorem q_ouroborosref07_Same : Try.prog.funcs[n_ouroborosref07_Same]? = some Try.f18 := Try.func18
abbrev n_arena_Check_1 : Nat := 19
theorem q_arena_Check_1 : Try.prog.funcs[n_arena_Check_1]? = some Try.f19 := Try.func19
abbrev n_entry_Check : Nat := 20
theorem q_entry_Check : Try.prog.funcs[n_entry_Check]? = some Try.f20 := Try.func20
abbrev n_slices_ContainsFunc_LEntry_Entry : Nat := 21
theorem q_slices_ContainsFunc_LEntry_Entry : Try.prog.funcs[n_slices_ContainsFunc_LEntry_Entry]? = some Try.f21 := Try.func21
abbrev n_arena_index : Nat := 22
theorem q_arena_index : Try.prog.funcs[n_arena_index]? = some Try.f22 := Try.func22
abbrev n_entry_Less : Nat := 23
theorem q_entry_Less : Try.prog.funcs[n_entry_Less]? = some Try.f23 := Try.func23
abbrev n_slices_Equal_Lint_int : Nat := 24
theorem q_slices_Equal_Lint_int : Try.prog.funcs[n_slices_Equal_Lint_int]? = some Try.f24 := Try.func24
abbrev n_sweep_place_in : Nat := 25
theorem q_sweep_place_in : Try.prog.funcs[n_sweep_place_in]? = some Try.f25 := Try.func25
abbrev n_sweep_may : Nat := 26
theorem q_sweep_may : Try.prog.funcs[n_sweep_may]? = some Try.f26 := Try.func26
abbrev n_arena_Chunk : Nat := 27
theorem q_arena_Chunk : Try.prog.funcs[n_arena_Chunk]? = some Try.f27 := Try.func27
abbrev n_frame_forms : Nat := 28
theorem q_frame_forms : Try.prog.funcs[n_frame_forms]? = some Try.f28 := Try.func28
abbrev n_digest_Put : Nat := 29
theorem q_digest_Put : Try.prog.funcs[n_digest_Put]? = some Try.f29 := Try.func29
abbrev n_frame_Check_1 : Nat := 30
theorem q_frame_Check_1 : Try.prog.funcs[n_frame_Check_1]? = some Try.f30 := Try.func30
abbrev n_ouroboroslaw07_Few : Nat := 31
theorem q_ouroboroslaw07_Few : Try.prog.funcs[n_ouroboroslaw07_Few]? = some Try.f31 := Try.func31
abbrev n_arena_Join : Nat := 32
theorem q_arena_Join : Try.prog.funcs[n_arena_Join]? = some Try.f32 := Try.func32
abbrev n_ouroborosref06_Same : Nat := 33
theorem q_ouroborosref06_Same : Try.prog.funcs[n_ouroborosref06_Same]? = some Try.f33 := Try.func33
abbrev n_value_Check : Nat := 34
theorem q_value_Check : Try.prog.funcs[n_value_Check]? = some Try.f34 := Try.func34
abbrev n_slices_IndexFunc_LEntry_Entry : Nat := 35
theorem q_slices_IndexFunc_LEntry_Entry : Try.prog.funcs[n_slices_IndexFunc_LEntry_Entry]? = some Try.f35 := Try.func35
abbrev n_slices_SortStableFunc_Lint_int : Nat := 36
theorem q_slices_SortStableFunc_Lint_int : Try.prog.funcs[n_slices_SortStableFunc_Lint_int]? = some Try.f36 := Try.func36
abbrev n_arena_index_1 : Nat := 37
theorem q_arena_index_1 : Try.prog.funcs[n_arena_index_1]? = some Try.f37 := Try.func37
abbrev n_arena_each : Nat := 38
theorem q_arena_each : Try.prog.funcs[n_arena_each]? = some Try.f38 := Try.func38
abbrev n_octet_Put : Nat := 39
theorem q_octet_Put : Try.prog.funcs[n_octet_Put]? = some Try.f39 := Try.func39
abbrev n_ouroboroslaw06_Few : Nat := 40
theorem q_ouroboroslaw06_Few : Try.prog.funcs[n_ouroboroslaw06_Few]? = some Try.f40 := Try.func40
abbrev n_arena_changing_put : Nat := 41
theorem q_arena_changing_put : Try.prog.funcs[n_arena_changing_put]? = some Try.f41 := Try.func41
abbrev n_ouroborosref01_Ints : Nat := 42
theorem q_ouroborosref01_Ints : Try.prog.funcs[n_ouroborosref01_Ints]? = some Try.f42 := Try.func42
abbrev n_value_kinds : Nat := 43
theorem q_value_kinds : Try.prog.funcs[n_value_kinds]? = some Try.f43 := Try.func43
abbrev n_slices_stableCmpFunc_int : Nat := 44
theorem q_slices_stableCmpFunc_int : Try.prog.funcs[n_slices_stableCmpFunc_int]? = some Try.f44 := Try.func44
abbrev n_arena_each_1 : Nat := 45
theorem q_arena_each_1 : Try.prog.funcs[n_arena_each_1]? = some Try.f45 := Try.func45
abbrev n_octet_parts : Nat := 46
theorem q_octet_parts : Try.prog.funcs[n_octet_parts]? = some Try.f46 := Try.func46
abbrev n_arena_Find : Nat := 47
theorem q_arena_Find : Try.prog.funcs[n_arena_Find]? = some Try.f47 := Try.func47
abbrev n_slices_Clone_LEntry_Entry : Nat := 48
theorem q_slices_Clone_LEntry_Entry : Try.prog.funcs[n_slices_Clone_LEntry_Entry]? = some Try.f48 := Try.func48
abbrev n_entry_Join : Nat := 49
theorem q_entry_Join : Try.prog.funcs[n_entry_Join]? = some Try.f49 := Try.func49
abbrev n_entry_Same : Nat := 50
theorem q_entry_Same : Try.prog.funcs[n_entry_Same]? = some Try.f50 := Try.func50
abbrev n_slices_insertionSortCmpFunc_int : Nat := 51
theorem q_slices_insertionSortCmpFunc_int : Try.prog.funcs[n_slices_insertionSortCmpFunc_int]? = some Try.f51 := Try.func51
abbrev n_slices_symMergeCmpFunc_int : Nat := 52
theorem q_slices_symMergeCmpFunc_int : Try.prog.funcs[n_slices_symMergeCmpFunc_int]? = some Try.f52 := Try.func52
abbrev n_octet_parts_1 : Nat := 53
theorem q_octet_parts_1 : Try.prog.funcs[n_octet_parts_1]? = some Try.f53 := Try.func53
abbrev n_value_Join : Nat := 54
theorem q_value_Join : Try.prog.funcs[n_value_Join]? = some Try.f54 := Try.func54
abbrev n_value_Same : Nat := 55
theorem q_value_Same : Try.prog.funcs[n_value_Same]? = some Try.f55 := Try.func55
abbrev n_slices_rotateCmpFunc_int : Nat := 56
theorem q_slices_rotateCmpFunc_int : Try.prog.funcs[n_slices_rotateCmpFunc_int]? = some Try.f56 := Try.func56
abbrev n_slices_Clone_Lint_int : Nat := 57
theorem q_slices_Clone_Lint_int : Try.prog.funcs[n_slices_Clone_Lint_int]? = some Try.f57 := Try.func57
abbrev n_slices_swapRangeCmpFunc_int : Nat := 58
theorem q_slices_swapRangeCmpFunc_int : Try.prog.funcs[n_slices_swapRangeCmpFunc_int]? = some Try.f58 := Try.func58
abbrev n_Errno_Error : Nat := 74
theorem q_Errno_Error : Try.prog.funcs[n_Errno_Error]? = some Try.f74 := Try.func74
abbrev n_sweep_letter_tells : Nat := 75
theorem q_sweep_letter_tells : Try.prog.funcs[n_sweep_letter_tells]? = some Try.f75 := Try.func75
abbrev n_value_register_is : Nat := 76
theorem q_value_register_is : Try.prog.funcs[n_value_register_is]? = some Try.f76 := Try.func76
abbrev n_value_register_join : Nat := 77
theorem q_value_register_join : Try.prog.funcs[n_value_register_join]? = some Try.f77 := Try.func77
abbrev n_value_register_least : Nat := 78
theorem q_value_register_least : Try.prog.funcs[n_value_register_least]? = some Try.f78 := Try.func78
abbrev n_value_only : Nat := 79
theorem q_value_only : Try.prog.funcs[n_value_only]? = some Try.f79 := Try.func79
abbrev n_value_register_is_1 : Nat := 80
theorem q_value_register_is_1 : Try.prog.funcs[n_value_register_is_1]? = some Try.f80 := Try.func80
abbrev n_value_first : Nat := 81
theorem q_value_first : Try.prog.funcs[n_value_first]? = some Try.f81 := Try.func81
abbrev n_cmp_Compare_int : Nat := 82
theorem q_cmp_Compare_int : Try.prog.funcs[n_cmp_Compare_int]? = some Try.f82 := Try.func82
abbrev n_value_bit : Nat := 83
theorem q_value_bit : Try.prog.funcs[n_value_bit]? = some Try.f83 := Try.func83
abbrev n_cmp_Compare_string : Nat := 84
theorem q_cmp_Compare_string : Try.prog.funcs[n_cmp_Compare_string]? = some Try.f84 := Try.func84
abbrev n_cmp_isNaN_int : Nat := 85
theorem q_cmp_isNaN_int : Try.prog.funcs[n_cmp_isNaN_int]? = some Try.f85 := Try.func85
abbrev n_cmp_isNaN_string : Nat := 86
theorem q_cmp_isNaN_string : Try.prog.funcs[n_cmp_isNaN_string]? = some Try.f86 := Try.func86
abbrev n_value_counter_is : Nat := 87
theorem q_value_counter_is : Try.prog.funcs[n_value_counter_is]? = some Try.f87 := Try.func87
abbrev n_value_counter_join : Nat := 88
theorem q_value_counter_join : Try.prog.funcs[n_value_counter_join]? = some Try.f88 := Try.func88
abbrev n_value_counter_least : Nat := 89
theorem q_value_counter_least : Try.prog.funcs[n_value_counter_least]? = some Try.f89 := Try.func89
abbrev n_value_counter_is_1 : Nat := 90
theorem q_value_counter_is_1 : Try.prog.funcs[n_value_counter_is_1]? = some Try.f90 := Try.func90
abbrev n_value_counter_is_2 : Nat := 91
theorem q_value_counter_is_2 : Try.prog.funcs[n_value_counter_is_2]? = some Try.f91 := Try.func91
abbrev n_slices_ContainsFunc_Lint_int : Nat := 92
theorem q_slices_ContainsFunc_Lint_int : Try.prog.funcs[n_slices_ContainsFunc_Lint_int]? = some Try.f92 := Try.func92
abbrev n_value_counter_join_1 : Nat := 93
theorem q_value_counter_join_1 : Try.prog.funcs[n_value_counter_join_1]? = some Try.f93 := Try.func93
abbrev n_slices_IndexFunc_Lint_int : Nat := 94
theorem q_slices_IndexFunc_Lint_int : Try.prog.funcs[n_slices_IndexFunc_Lint_int]? = some Try.f94 := Try.func94
abbrev n_value_flags_is : Nat := 95
theorem q_value_flags_is : Try.prog.funcs[n_value_flags_is]? = some Try.f95 := Try.func95
abbrev n_value_flags_join : Nat := 96
theorem q_value_flags_join : Try.prog.funcs[n_value_flags_join]? = some Try.f96 := Try.func96
abbrev n_value_flags_least : Nat := 97
theorem q_value_flags_least : Try.prog.funcs[n_value_flags_least]? = some Try.f97 := Try.func97
abbrev n_value_flags_is_1 : Nat := 98
theorem q_value_flags_is_1 : Try.prog.funcs[n_value_flags_is_1]? = some Try.f98 := Try.func98
abbrev t_int64 : Nat := 2
abbrev t_int : Nat := 3
abbrev t_bool : Nat := 4
abbrev t_uint8 : Nat := 5
abbrev t_abi_BoundsErrorCode : Nat := 6
abbrev t_runtime_boundsError : Nat := 8
abbrev t_string : Nat := 9
abbrev t_runtime_errorString : Nat := 10
abbrev t_runtime_plainError : Nat := 11
abbrev t_uintptr : Nat := 12
abbrev t_runtime_errorAddressString : Nat := 14
abbrev t_P_runtime_TypeAssertionError : Nat := 15
abbrev t_P_runtime_PanicNilError : Nat := 16
abbrev t_P_abi_Type : Nat := 17
abbrev t_maps_unhashableTypeError : Nat := 19
abbrev t_interface : Nat := 20
abbrev t_int32 : Nat := 21
abbrev t_LEntry : Nat := 22
abbrev t_Lint : Nat := 23
abbrev t_Arena : Nat := 25
abbrev t_Errno : Nat := 28
abbrev t_4_int : Nat := 31
abbrev t_frame_Frame : Nat := 33
abbrev t_uint64 : Nat := 47
abbrev t_Value : Nat := 49
abbrev t_Entry : Nat := 51
abbrev t_sweep_place : Nat := 60
abbrev t_sweep_letter : Nat := 63
abbrev t_sweep_teller : Nat := 65
abbrev t_frame_form : Nat := 69
abbrev t_map_int_frame_form : Nat := 71
abbrev t_P_arena_changing : Nat := 86
abbrev t_arena_changing : Nat := 88
abbrev t_value_lattice : Nat := 90
abbrev t_Luint8 : Nat := 95
abbrev t_value_register : Nat := 103
abbrev t_value_counter : Nat := 104
abbrev t_value_flags : Nat := 105
abbrev t_uint : Nat := 109
abbrev t_runtime_TypeAssertionError : Nat := 116
abbrev t_0_P_runtime_PanicNilError : Nat := 117
abbrev t_runtime_PanicNilError : Nat := 119
abbrev t_uint32 : Nat := 121
abbrev t_abi_TFlag : Nat := 122
abbrev t_abi_Kind : Nat := 123
abbrev t_P_uint8 : Nat := 125
abbrev t_abi_NameOff : Nat := 126
abbrev t_abi_TypeOff : Nat := 127
abbrev t_abi_Type : Nat := 129
abbrev t_P_Value : Nat := 132
abbrev t_unsafe_Pointer : Nat := 141
end Go.Proofs.Ytmjpidjdbofdjaa
