import Derived.Test.YtmjpidjdbofdjaaTab
/- The seat's functions and types, by their names. -/
namespace Go.Proofs.Ytmjpidjdbofdjaa
open Go
abbrev n_main_main : Nat := 0
theorem q_main_main : Try.prog.funcs[n_main_main]? = some Try.f0 := Try.func0
noncomputable abbrev F_main_main : Func := Try.f0
abbrev n_gosem_cut : Nat := 1
theorem q_gosem_cut : Try.prog.funcs[n_gosem_cut]? = some Try.f1 := Try.func1
noncomputable abbrev F_gosem_cut : Func := Try.f1
abbrev n_gosem_cut_init : Nat := 2
theorem q_gosem_cut_init : Try.prog.funcs[n_gosem_cut_init]? = some Try.f2 := Try.func2
noncomputable abbrev F_gosem_cut_init : Func := Try.f2
abbrev n_ouroboroslaw19_SweepAll : Nat := 3
theorem q_ouroboroslaw19_SweepAll : Try.prog.funcs[n_ouroboroslaw19_SweepAll]? = some Try.f3 := Try.func3
noncomputable abbrev F_ouroboroslaw19_SweepAll : Func := Try.f3
abbrev n_ouroboroslaw19_SweepStays : Nat := 4
theorem q_ouroboroslaw19_SweepStays : Try.prog.funcs[n_ouroboroslaw19_SweepStays]? = some Try.f4 := Try.func4
noncomputable abbrev F_ouroboroslaw19_SweepStays : Func := Try.f4
abbrev n_ouroboroslaw19_SweepBounds : Nat := 5
theorem q_ouroboroslaw19_SweepBounds : Try.prog.funcs[n_ouroboroslaw19_SweepBounds]? = some Try.f5 := Try.func5
noncomputable abbrev F_ouroboroslaw19_SweepBounds : Func := Try.f5
abbrev n_ouroboroslaw19_SweepNews : Nat := 6
theorem q_ouroboroslaw19_SweepNews : Try.prog.funcs[n_ouroboroslaw19_SweepNews]? = some Try.f6 := Try.func6
noncomputable abbrev F_ouroboroslaw19_SweepNews : Func := Try.f6
abbrev n_ouroboroslaw19_works : Nat := 7
theorem q_ouroboroslaw19_works : Try.prog.funcs[n_ouroboroslaw19_works]? = some Try.f7 := Try.func7
noncomputable abbrev F_ouroboroslaw19_works : Func := Try.f7
abbrev n_ouroboroslaw08_Few : Nat := 8
theorem q_ouroboroslaw08_Few : Try.prog.funcs[n_ouroboroslaw08_Few]? = some Try.f8 := Try.func8
noncomputable abbrev F_ouroboroslaw08_Few : Func := Try.f8
abbrev n_arena_Check : Nat := 9
theorem q_arena_Check : Try.prog.funcs[n_arena_Check]? = some Try.f9 := Try.func9
noncomputable abbrev F_arena_Check : Func := Try.f9
abbrev n_sweep_Mend : Nat := 10
theorem q_sweep_Mend : Try.prog.funcs[n_sweep_Mend]? = some Try.f10 := Try.func10
noncomputable abbrev F_sweep_Mend : Func := Try.f10
abbrev n_sweep_Send : Nat := 11
theorem q_sweep_Send : Try.prog.funcs[n_sweep_Send]? = some Try.f11 := Try.func11
noncomputable abbrev F_sweep_Send : Func := Try.f11
abbrev n_sweep_Heard : Nat := 12
theorem q_sweep_Heard : Try.prog.funcs[n_sweep_Heard]? = some Try.f12 := Try.func12
noncomputable abbrev F_sweep_Heard : Func := Try.f12
abbrev n_sweep_Done : Nat := 13
theorem q_sweep_Done : Try.prog.funcs[n_sweep_Done]? = some Try.f13 := Try.func13
noncomputable abbrev F_sweep_Done : Func := Try.f13
abbrev n_frame_Check : Nat := 14
theorem q_frame_Check : Try.prog.funcs[n_frame_Check]? = some Try.f14 := Try.func14
noncomputable abbrev F_frame_Check : Func := Try.f14
abbrev n_ouroborosref07_All : Nat := 15
theorem q_ouroborosref07_All : Try.prog.funcs[n_ouroborosref07_All]? = some Try.f15 := Try.func15
noncomputable abbrev F_ouroborosref07_All : Func := Try.f15
abbrev n_ouroboroslaw08_Entries : Nat := 16
theorem q_ouroboroslaw08_Entries : Try.prog.funcs[n_ouroboroslaw08_Entries]? = some Try.f16 := Try.func16
noncomputable abbrev F_ouroboroslaw08_Entries : Func := Try.f16
abbrev n_arena_Merge : Nat := 17
theorem q_arena_Merge : Try.prog.funcs[n_arena_Merge]? = some Try.f17 := Try.func17
noncomputable abbrev F_arena_Merge : Func := Try.f17
abbrev n_ouroborosref07_Same : Nat := 18
theorem q_ouroborosref07_Same : Try.prog.funcs[n_ouroborosref07_Same]? = some Try.f18 := Try.func18
noncomputable abbrev F_ouroborosref07_Same : Func := Try.f18
abbrev n_arena_Check_1 : Nat := 19
theorem q_arena_Check_1 : Try.prog.funcs[n_arena_Check_1]? = some Try.f19 := Try.func19
noncomputable abbrev F_arena_Check_1 : Func := Try.f19
abbrev n_entry_Check : Nat := 20
theorem q_entry_Check : Try.prog.funcs[n_entry_Check]? = some Try.f20 := Try.func20
noncomputable abbrev F_entry_Check : Func := Try.f20
abbrev n_slices_ContainsFunc_LEntry_Entry : Nat := 21
theorem q_slices_ContainsFunc_LEntry_Entry : Try.prog.funcs[n_slices_ContainsFunc_LEntry_Entry]? = some Try.f21 := Try.func21
noncomputable abbrev F_slices_ContainsFunc_LEntry_Entry : Func := Try.f21
abbrev n_arena_index : Nat := 22
theorem q_arena_index : Try.prog.funcs[n_arena_index]? = some Try.f22 := Try.func22
noncomputable abbrev F_arena_index : Func := Try.f22
abbrev n_entry_Less : Nat := 23
theorem q_entry_Less : Try.prog.funcs[n_entry_Less]? = some Try.f23 := Try.func23
noncomputable abbrev F_entry_Less : Func := Try.f23
abbrev n_slices_Equal_Lint_int : Nat := 24
theorem q_slices_Equal_Lint_int : Try.prog.funcs[n_slices_Equal_Lint_int]? = some Try.f24 := Try.func24
noncomputable abbrev F_slices_Equal_Lint_int : Func := Try.f24
abbrev n_sweep_place_in : Nat := 25
theorem q_sweep_place_in : Try.prog.funcs[n_sweep_place_in]? = some Try.f25 := Try.func25
noncomputable abbrev F_sweep_place_in : Func := Try.f25
abbrev n_sweep_may : Nat := 26
theorem q_sweep_may : Try.prog.funcs[n_sweep_may]? = some Try.f26 := Try.func26
noncomputable abbrev F_sweep_may : Func := Try.f26
abbrev n_arena_Chunk : Nat := 27
theorem q_arena_Chunk : Try.prog.funcs[n_arena_Chunk]? = some Try.f27 := Try.func27
noncomputable abbrev F_arena_Chunk : Func := Try.f27
abbrev n_frame_forms : Nat := 28
theorem q_frame_forms : Try.prog.funcs[n_frame_forms]? = some Try.f28 := Try.func28
noncomputable abbrev F_frame_forms : Func := Try.f28
abbrev n_digest_Put : Nat := 29
theorem q_digest_Put : Try.prog.funcs[n_digest_Put]? = some Try.f29 := Try.func29
noncomputable abbrev F_digest_Put : Func := Try.f29
abbrev n_frame_Check_1 : Nat := 30
theorem q_frame_Check_1 : Try.prog.funcs[n_frame_Check_1]? = some Try.f30 := Try.func30
noncomputable abbrev F_frame_Check_1 : Func := Try.f30
abbrev n_ouroboroslaw07_Few : Nat := 31
theorem q_ouroboroslaw07_Few : Try.prog.funcs[n_ouroboroslaw07_Few]? = some Try.f31 := Try.func31
noncomputable abbrev F_ouroboroslaw07_Few : Func := Try.f31
abbrev n_arena_Join : Nat := 32
theorem q_arena_Join : Try.prog.funcs[n_arena_Join]? = some Try.f32 := Try.func32
noncomputable abbrev F_arena_Join : Func := Try.f32
abbrev n_ouroborosref06_Same : Nat := 33
theorem q_ouroborosref06_Same : Try.prog.funcs[n_ouroborosref06_Same]? = some Try.f33 := Try.func33
noncomputable abbrev F_ouroborosref06_Same : Func := Try.f33
abbrev n_value_Check : Nat := 34
theorem q_value_Check : Try.prog.funcs[n_value_Check]? = some Try.f34 := Try.func34
noncomputable abbrev F_value_Check : Func := Try.f34
abbrev n_slices_IndexFunc_LEntry_Entry : Nat := 35
theorem q_slices_IndexFunc_LEntry_Entry : Try.prog.funcs[n_slices_IndexFunc_LEntry_Entry]? = some Try.f35 := Try.func35
noncomputable abbrev F_slices_IndexFunc_LEntry_Entry : Func := Try.f35
abbrev n_slices_SortStableFunc_Lint_int : Nat := 36
theorem q_slices_SortStableFunc_Lint_int : Try.prog.funcs[n_slices_SortStableFunc_Lint_int]? = some Try.f36 := Try.func36
noncomputable abbrev F_slices_SortStableFunc_Lint_int : Func := Try.f36
abbrev n_arena_index_1 : Nat := 37
theorem q_arena_index_1 : Try.prog.funcs[n_arena_index_1]? = some Try.f37 := Try.func37
noncomputable abbrev F_arena_index_1 : Func := Try.f37
abbrev n_arena_each : Nat := 38
theorem q_arena_each : Try.prog.funcs[n_arena_each]? = some Try.f38 := Try.func38
noncomputable abbrev F_arena_each : Func := Try.f38
abbrev n_octet_Put : Nat := 39
theorem q_octet_Put : Try.prog.funcs[n_octet_Put]? = some Try.f39 := Try.func39
noncomputable abbrev F_octet_Put : Func := Try.f39
abbrev n_ouroboroslaw06_Few : Nat := 40
theorem q_ouroboroslaw06_Few : Try.prog.funcs[n_ouroboroslaw06_Few]? = some Try.f40 := Try.func40
noncomputable abbrev F_ouroboroslaw06_Few : Func := Try.f40
abbrev n_arena_changing_put : Nat := 41
theorem q_arena_changing_put : Try.prog.funcs[n_arena_changing_put]? = some Try.f41 := Try.func41
noncomputable abbrev F_arena_changing_put : Func := Try.f41
abbrev n_ouroborosref01_Ints : Nat := 42
theorem q_ouroborosref01_Ints : Try.prog.funcs[n_ouroborosref01_Ints]? = some Try.f42 := Try.func42
noncomputable abbrev F_ouroborosref01_Ints : Func := Try.f42
abbrev n_value_kinds : Nat := 43
theorem q_value_kinds : Try.prog.funcs[n_value_kinds]? = some Try.f43 := Try.func43
noncomputable abbrev F_value_kinds : Func := Try.f43
abbrev n_slices_stableCmpFunc_int : Nat := 44
theorem q_slices_stableCmpFunc_int : Try.prog.funcs[n_slices_stableCmpFunc_int]? = some Try.f44 := Try.func44
noncomputable abbrev F_slices_stableCmpFunc_int : Func := Try.f44
abbrev n_arena_each_1 : Nat := 45
theorem q_arena_each_1 : Try.prog.funcs[n_arena_each_1]? = some Try.f45 := Try.func45
noncomputable abbrev F_arena_each_1 : Func := Try.f45
abbrev n_octet_parts : Nat := 46
theorem q_octet_parts : Try.prog.funcs[n_octet_parts]? = some Try.f46 := Try.func46
noncomputable abbrev F_octet_parts : Func := Try.f46
abbrev n_arena_Find : Nat := 47
theorem q_arena_Find : Try.prog.funcs[n_arena_Find]? = some Try.f47 := Try.func47
noncomputable abbrev F_arena_Find : Func := Try.f47
abbrev n_slices_Clone_LEntry_Entry : Nat := 48
theorem q_slices_Clone_LEntry_Entry : Try.prog.funcs[n_slices_Clone_LEntry_Entry]? = some Try.f48 := Try.func48
noncomputable abbrev F_slices_Clone_LEntry_Entry : Func := Try.f48
abbrev n_entry_Join : Nat := 49
theorem q_entry_Join : Try.prog.funcs[n_entry_Join]? = some Try.f49 := Try.func49
noncomputable abbrev F_entry_Join : Func := Try.f49
abbrev n_entry_Same : Nat := 50
theorem q_entry_Same : Try.prog.funcs[n_entry_Same]? = some Try.f50 := Try.func50
noncomputable abbrev F_entry_Same : Func := Try.f50
abbrev n_slices_insertionSortCmpFunc_int : Nat := 51
theorem q_slices_insertionSortCmpFunc_int : Try.prog.funcs[n_slices_insertionSortCmpFunc_int]? = some Try.f51 := Try.func51
noncomputable abbrev F_slices_insertionSortCmpFunc_int : Func := Try.f51
abbrev n_slices_symMergeCmpFunc_int : Nat := 52
theorem q_slices_symMergeCmpFunc_int : Try.prog.funcs[n_slices_symMergeCmpFunc_int]? = some Try.f52 := Try.func52
noncomputable abbrev F_slices_symMergeCmpFunc_int : Func := Try.f52
abbrev n_octet_parts_1 : Nat := 53
theorem q_octet_parts_1 : Try.prog.funcs[n_octet_parts_1]? = some Try.f53 := Try.func53
noncomputable abbrev F_octet_parts_1 : Func := Try.f53
abbrev n_value_Join : Nat := 54
theorem q_value_Join : Try.prog.funcs[n_value_Join]? = some Try.f54 := Try.func54
noncomputable abbrev F_value_Join : Func := Try.f54
abbrev n_value_Same : Nat := 55
theorem q_value_Same : Try.prog.funcs[n_value_Same]? = some Try.f55 := Try.func55
noncomputable abbrev F_value_Same : Func := Try.f55
abbrev n_slices_rotateCmpFunc_int : Nat := 56
theorem q_slices_rotateCmpFunc_int : Try.prog.funcs[n_slices_rotateCmpFunc_int]? = some Try.f56 := Try.func56
noncomputable abbrev F_slices_rotateCmpFunc_int : Func := Try.f56
abbrev n_slices_Clone_Lint_int : Nat := 57
theorem q_slices_Clone_Lint_int : Try.prog.funcs[n_slices_Clone_Lint_int]? = some Try.f57 := Try.func57
noncomputable abbrev F_slices_Clone_Lint_int : Func := Try.f57
abbrev n_slices_swapRangeCmpFunc_int : Nat := 58
theorem q_slices_swapRangeCmpFunc_int : Try.prog.funcs[n_slices_swapRangeCmpFunc_int]? = some Try.f58 := Try.func58
noncomputable abbrev F_slices_swapRangeCmpFunc_int : Func := Try.f58
abbrev n_Errno_Error : Nat := 74
theorem q_Errno_Error : Try.prog.funcs[n_Errno_Error]? = some Try.f74 := Try.func74
noncomputable abbrev F_Errno_Error : Func := Try.f74
abbrev n_sweep_letter_tells : Nat := 75
theorem q_sweep_letter_tells : Try.prog.funcs[n_sweep_letter_tells]? = some Try.f75 := Try.func75
noncomputable abbrev F_sweep_letter_tells : Func := Try.f75
abbrev n_value_register_is : Nat := 76
theorem q_value_register_is : Try.prog.funcs[n_value_register_is]? = some Try.f76 := Try.func76
noncomputable abbrev F_value_register_is : Func := Try.f76
abbrev n_value_register_join : Nat := 77
theorem q_value_register_join : Try.prog.funcs[n_value_register_join]? = some Try.f77 := Try.func77
noncomputable abbrev F_value_register_join : Func := Try.f77
abbrev n_value_register_least : Nat := 78
theorem q_value_register_least : Try.prog.funcs[n_value_register_least]? = some Try.f78 := Try.func78
noncomputable abbrev F_value_register_least : Func := Try.f78
abbrev n_value_only : Nat := 79
theorem q_value_only : Try.prog.funcs[n_value_only]? = some Try.f79 := Try.func79
noncomputable abbrev F_value_only : Func := Try.f79
abbrev n_value_register_is_1 : Nat := 80
theorem q_value_register_is_1 : Try.prog.funcs[n_value_register_is_1]? = some Try.f80 := Try.func80
noncomputable abbrev F_value_register_is_1 : Func := Try.f80
abbrev n_value_first : Nat := 81
theorem q_value_first : Try.prog.funcs[n_value_first]? = some Try.f81 := Try.func81
noncomputable abbrev F_value_first : Func := Try.f81
abbrev n_cmp_Compare_int : Nat := 82
theorem q_cmp_Compare_int : Try.prog.funcs[n_cmp_Compare_int]? = some Try.f82 := Try.func82
noncomputable abbrev F_cmp_Compare_int : Func := Try.f82
abbrev n_value_bit : Nat := 83
theorem q_value_bit : Try.prog.funcs[n_value_bit]? = some Try.f83 := Try.func83
noncomputable abbrev F_value_bit : Func := Try.f83
abbrev n_cmp_Compare_string : Nat := 84
theorem q_cmp_Compare_string : Try.prog.funcs[n_cmp_Compare_string]? = some Try.f84 := Try.func84
noncomputable abbrev F_cmp_Compare_string : Func := Try.f84
abbrev n_cmp_isNaN_int : Nat := 85
theorem q_cmp_isNaN_int : Try.prog.funcs[n_cmp_isNaN_int]? = some Try.f85 := Try.func85
noncomputable abbrev F_cmp_isNaN_int : Func := Try.f85
abbrev n_cmp_isNaN_string : Nat := 86
theorem q_cmp_isNaN_string : Try.prog.funcs[n_cmp_isNaN_string]? = some Try.f86 := Try.func86
noncomputable abbrev F_cmp_isNaN_string : Func := Try.f86
abbrev n_value_counter_is : Nat := 87
theorem q_value_counter_is : Try.prog.funcs[n_value_counter_is]? = some Try.f87 := Try.func87
noncomputable abbrev F_value_counter_is : Func := Try.f87
abbrev n_value_counter_join : Nat := 88
theorem q_value_counter_join : Try.prog.funcs[n_value_counter_join]? = some Try.f88 := Try.func88
noncomputable abbrev F_value_counter_join : Func := Try.f88
abbrev n_value_counter_least : Nat := 89
theorem q_value_counter_least : Try.prog.funcs[n_value_counter_least]? = some Try.f89 := Try.func89
noncomputable abbrev F_value_counter_least : Func := Try.f89
abbrev n_value_counter_is_1 : Nat := 90
theorem q_value_counter_is_1 : Try.prog.funcs[n_value_counter_is_1]? = some Try.f90 := Try.func90
noncomputable abbrev F_value_counter_is_1 : Func := Try.f90
abbrev n_value_counter_is_2 : Nat := 91
theorem q_value_counter_is_2 : Try.prog.funcs[n_value_counter_is_2]? = some Try.f91 := Try.func91
noncomputable abbrev F_value_counter_is_2 : Func := Try.f91
abbrev n_slices_ContainsFunc_Lint_int : Nat := 92
theorem q_slices_ContainsFunc_Lint_int : Try.prog.funcs[n_slices_ContainsFunc_Lint_int]? = some Try.f92 := Try.func92
noncomputable abbrev F_slices_ContainsFunc_Lint_int : Func := Try.f92
abbrev n_value_counter_join_1 : Nat := 93
theorem q_value_counter_join_1 : Try.prog.funcs[n_value_counter_join_1]? = some Try.f93 := Try.func93
noncomputable abbrev F_value_counter_join_1 : Func := Try.f93
abbrev n_slices_IndexFunc_Lint_int : Nat := 94
theorem q_slices_IndexFunc_Lint_int : Try.prog.funcs[n_slices_IndexFunc_Lint_int]? = some Try.f94 := Try.func94
noncomputable abbrev F_slices_IndexFunc_Lint_int : Func := Try.f94
abbrev n_value_flags_is : Nat := 95
theorem q_value_flags_is : Try.prog.funcs[n_value_flags_is]? = some Try.f95 := Try.func95
noncomputable abbrev F_value_flags_is : Func := Try.f95
abbrev n_value_flags_join : Nat := 96
theorem q_value_flags_join : Try.prog.funcs[n_value_flags_join]? = some Try.f96 := Try.func96
noncomputable abbrev F_value_flags_join : Func := Try.f96
abbrev n_value_flags_least : Nat := 97
theorem q_value_flags_least : Try.prog.funcs[n_value_flags_least]? = some Try.f97 := Try.func97
noncomputable abbrev F_value_flags_least : Func := Try.f97
abbrev n_value_flags_is_1 : Nat := 98
theorem q_value_flags_is_1 : Try.prog.funcs[n_value_flags_is_1]? = some Try.f98 := Try.func98
noncomputable abbrev F_value_flags_is_1 : Func := Try.f98
abbrev t_int64 : Nat := 2
theorem u_int64 : type_of% Try.underlying2 := Try.underlying2
abbrev t_int : Nat := 3
theorem u_int : type_of% Try.underlying3 := Try.underlying3
abbrev t_bool : Nat := 4
theorem u_bool : type_of% Try.underlying4 := Try.underlying4
abbrev t_uint8 : Nat := 5
theorem u_uint8 : type_of% Try.underlying5 := Try.underlying5
abbrev t_abi_BoundsErrorCode : Nat := 6
theorem u_abi_BoundsErrorCode : type_of% Try.underlying6 := Try.underlying6
abbrev t_runtime_boundsError : Nat := 8
theorem u_runtime_boundsError : type_of% Try.underlying8 := Try.underlying8
abbrev t_string : Nat := 9
theorem u_string : type_of% Try.underlying9 := Try.underlying9
abbrev t_runtime_errorString : Nat := 10
theorem u_runtime_errorString : type_of% Try.underlying10 := Try.underlying10
abbrev t_runtime_plainError : Nat := 11
theorem u_runtime_plainError : type_of% Try.underlying11 := Try.underlying11
abbrev t_uintptr : Nat := 12
theorem u_uintptr : type_of% Try.underlying12 := Try.underlying12
abbrev t_runtime_errorAddressString : Nat := 14
theorem u_runtime_errorAddressString : type_of% Try.underlying14 := Try.underlying14
abbrev t_P_runtime_TypeAssertionError : Nat := 15
theorem u_P_runtime_TypeAssertionError : type_of% Try.underlying15 := Try.underlying15
abbrev t_P_runtime_PanicNilError : Nat := 16
theorem u_P_runtime_PanicNilError : type_of% Try.underlying16 := Try.underlying16
abbrev t_P_abi_Type : Nat := 17
theorem u_P_abi_Type : type_of% Try.underlying17 := Try.underlying17
abbrev t_maps_unhashableTypeError : Nat := 19
theorem u_maps_unhashableTypeError : type_of% Try.underlying19 := Try.underlying19
abbrev t_interface : Nat := 20
theorem u_interface : type_of% Try.underlying20 := Try.underlying20
abbrev t_int32 : Nat := 21
theorem u_int32 : type_of% Try.underlying21 := Try.underlying21
abbrev t_LEntry : Nat := 22
theorem u_LEntry : type_of% Try.underlying22 := Try.underlying22
abbrev t_Lint : Nat := 23
theorem u_Lint : type_of% Try.underlying23 := Try.underlying23
abbrev t_Arena : Nat := 25
theorem u_Arena : type_of% Try.underlying25 := Try.underlying25
abbrev t_Errno : Nat := 28
theorem u_Errno : type_of% Try.underlying28 := Try.underlying28
abbrev t_4_int : Nat := 31
theorem u_4_int : type_of% Try.underlying31 := Try.underlying31
abbrev t_frame_Frame : Nat := 33
theorem u_frame_Frame : type_of% Try.underlying33 := Try.underlying33
abbrev t_uint64 : Nat := 47
theorem u_uint64 : type_of% Try.underlying47 := Try.underlying47
abbrev t_Value : Nat := 49
theorem u_Value : type_of% Try.underlying49 := Try.underlying49
abbrev t_Entry : Nat := 51
theorem u_Entry : type_of% Try.underlying51 := Try.underlying51
abbrev t_sweep_place : Nat := 60
theorem u_sweep_place : type_of% Try.underlying60 := Try.underlying60
abbrev t_sweep_letter : Nat := 63
theorem u_sweep_letter : type_of% Try.underlying63 := Try.underlying63
abbrev t_sweep_teller : Nat := 65
theorem u_sweep_teller : type_of% Try.underlying65 := Try.underlying65
abbrev t_frame_form : Nat := 69
theorem u_frame_form : type_of% Try.underlying69 := Try.underlying69
abbrev t_map_int_frame_form : Nat := 71
theorem u_map_int_frame_form : type_of% Try.underlying71 := Try.underlying71
abbrev t_P_arena_changing : Nat := 86
theorem u_P_arena_changing : type_of% Try.underlying86 := Try.underlying86
abbrev t_arena_changing : Nat := 88
theorem u_arena_changing : type_of% Try.underlying88 := Try.underlying88
abbrev t_value_lattice : Nat := 90
theorem u_value_lattice : type_of% Try.underlying90 := Try.underlying90
abbrev t_Luint8 : Nat := 95
theorem u_Luint8 : type_of% Try.underlying95 := Try.underlying95
abbrev t_value_register : Nat := 103
theorem u_value_register : type_of% Try.underlying103 := Try.underlying103
abbrev t_value_counter : Nat := 104
theorem u_value_counter : type_of% Try.underlying104 := Try.underlying104
abbrev t_value_flags : Nat := 105
theorem u_value_flags : type_of% Try.underlying105 := Try.underlying105
abbrev t_uint : Nat := 109
theorem u_uint : type_of% Try.underlying109 := Try.underlying109
abbrev t_runtime_TypeAssertionError : Nat := 116
theorem u_runtime_TypeAssertionError : type_of% Try.underlying116 := Try.underlying116
abbrev t_0_P_runtime_PanicNilError : Nat := 117
theorem u_0_P_runtime_PanicNilError : type_of% Try.underlying117 := Try.underlying117
abbrev t_runtime_PanicNilError : Nat := 119
theorem u_runtime_PanicNilError : type_of% Try.underlying119 := Try.underlying119
abbrev t_uint32 : Nat := 121
theorem u_uint32 : type_of% Try.underlying121 := Try.underlying121
abbrev t_abi_TFlag : Nat := 122
theorem u_abi_TFlag : type_of% Try.underlying122 := Try.underlying122
abbrev t_abi_Kind : Nat := 123
theorem u_abi_Kind : type_of% Try.underlying123 := Try.underlying123
abbrev t_P_uint8 : Nat := 125
theorem u_P_uint8 : type_of% Try.underlying125 := Try.underlying125
abbrev t_abi_NameOff : Nat := 126
theorem u_abi_NameOff : type_of% Try.underlying126 := Try.underlying126
abbrev t_abi_TypeOff : Nat := 127
theorem u_abi_TypeOff : type_of% Try.underlying127 := Try.underlying127
abbrev t_abi_Type : Nat := 129
theorem u_abi_Type : type_of% Try.underlying129 := Try.underlying129
abbrev t_P_Value : Nat := 132
theorem u_P_Value : type_of% Try.underlying132 := Try.underlying132
abbrev t_unsafe_Pointer : Nat := 141
theorem u_unsafe_Pointer : type_of% Try.underlying141 := Try.underlying141
end Go.Proofs.Ytmjpidjdbofdjaa
