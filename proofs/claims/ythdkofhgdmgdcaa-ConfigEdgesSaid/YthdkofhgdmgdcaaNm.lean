import Derived.Test.YthdkofhgdmgdcaaTab
/- The seat's functions and types, by their names. -/
namespace Go.Proofs.Ythdkofhgdmgdcaa
open Go
abbrev n_main_main : Nat := 0
theorem q_main_main : Try.prog.funcs[n_main_main]? = some Try.f0 := Try.func0
noncomputable abbrev F_main_main : Func := Try.f0
abbrev n_gosem_cut : Nat := 1
theorem q_gosem_cut : Try.prog.funcs[n_gosem_cut]? = some Try.f1 := Try.func1
noncomputable abbrev F_gosem_cut : Func := Try.f1
abbrev n_gosem_cut_init : Nat := 2
theorem q_gosem_cut_init : Try.prog.funcs[n_gosem_cut_init]? = some Try.f2 := Try.func2
noncomputable abbrev F_gosem_cut_init : Func := Try.f2
abbrev n_ouroboroslaw11_ConfigTells : Nat := 3
theorem q_ouroboroslaw11_ConfigTells : Try.prog.funcs[n_ouroboroslaw11_ConfigTells]? = some Try.f3 := Try.func3
noncomputable abbrev F_ouroboroslaw11_ConfigTells : Func := Try.f3
abbrev n_ouroboroslaw11_ConfigFits : Nat := 4
theorem q_ouroboroslaw11_ConfigFits : Try.prog.funcs[n_ouroboroslaw11_ConfigFits]? = some Try.f4 := Try.func4
noncomputable abbrev F_ouroboroslaw11_ConfigFits : Func := Try.f4
abbrev n_ouroboroslaw11_ConfigMore : Nat := 5
theorem q_ouroboroslaw11_ConfigMore : Try.prog.funcs[n_ouroboroslaw11_ConfigMore]? = some Try.f5 := Try.func5
noncomputable abbrev F_ouroboroslaw11_ConfigMore : Func := Try.f5
abbrev n_ouroboroslaw11_ConfigEdges : Nat := 6
theorem q_ouroboroslaw11_ConfigEdges : Try.prog.funcs[n_ouroboroslaw11_ConfigEdges]? = some Try.f6 := Try.func6
noncomputable abbrev F_ouroboroslaw11_ConfigEdges : Func := Try.f6
abbrev n_ouroboroslaw11_ConfigWork : Nat := 7
theorem q_ouroboroslaw11_ConfigWork : Try.prog.funcs[n_ouroboroslaw11_ConfigWork]? = some Try.f7 := Try.func7
noncomputable abbrev F_ouroboroslaw11_ConfigWork : Func := Try.f7
abbrev n_ouroboroslaw11_ConfigFoot : Nat := 8
theorem q_ouroboroslaw11_ConfigFoot : Try.prog.funcs[n_ouroboroslaw11_ConfigFoot]? = some Try.f8 := Try.func8
noncomputable abbrev F_ouroboroslaw11_ConfigFoot : Func := Try.f8
abbrev n_ouroboroslaw11_works : Nat := 9
theorem q_ouroboroslaw11_works : Try.prog.funcs[n_ouroboroslaw11_works]? = some Try.f9 := Try.func9
noncomputable abbrev F_ouroboroslaw11_works : Func := Try.f9
abbrev n_ouroborosref11_Check : Nat := 10
theorem q_ouroborosref11_Check : Try.prog.funcs[n_ouroborosref11_Check]? = some Try.f10 := Try.func10
noncomputable abbrev F_ouroborosref11_Check : Func := Try.f10
abbrev n_ouroborosref11_Size : Nat := 11
theorem q_ouroborosref11_Size : Try.prog.funcs[n_ouroborosref11_Size]? = some Try.f11 := Try.func11
noncomputable abbrev F_ouroborosref11_Size : Func := Try.f11
abbrev n_ouroborosref11_Chunks : Nat := 12
theorem q_ouroborosref11_Chunks : Try.prog.funcs[n_ouroborosref11_Chunks]? = some Try.f12 := Try.func12
noncomputable abbrev F_ouroborosref11_Chunks : Func := Try.f12
abbrev n_ouroborosref11_Rounds : Nat := 13
theorem q_ouroborosref11_Rounds : Try.prog.funcs[n_ouroborosref11_Rounds]? = some Try.f13 := Try.func13
noncomputable abbrev F_ouroborosref11_Rounds : Func := Try.f13
abbrev n_ouroborosref11_Work : Nat := 14
theorem q_ouroborosref11_Work : Try.prog.funcs[n_ouroborosref11_Work]? = some Try.f14 := Try.func14
noncomputable abbrev F_ouroborosref11_Work : Func := Try.f14
abbrev n_ouroborosref11_Footprint : Nat := 15
theorem q_ouroborosref11_Footprint : Try.prog.funcs[n_ouroborosref11_Footprint]? = some Try.f15 := Try.func15
noncomputable abbrev F_ouroborosref11_Footprint : Func := Try.f15
abbrev n_config_Check : Nat := 16
theorem q_config_Check : Try.prog.funcs[n_config_Check]? = some Try.f16 := Try.func16
noncomputable abbrev F_config_Check : Func := Try.f16
abbrev n_config_Size : Nat := 17
theorem q_config_Size : Try.prog.funcs[n_config_Size]? = some Try.f17 := Try.func17
noncomputable abbrev F_config_Size : Func := Try.f17
abbrev n_config_Chunks : Nat := 18
theorem q_config_Chunks : Try.prog.funcs[n_config_Chunks]? = some Try.f18 := Try.func18
noncomputable abbrev F_config_Chunks : Func := Try.f18
abbrev n_config_Rounds : Nat := 19
theorem q_config_Rounds : Try.prog.funcs[n_config_Rounds]? = some Try.f19 := Try.func19
noncomputable abbrev F_config_Rounds : Func := Try.f19
abbrev n_config_Work : Nat := 20
theorem q_config_Work : Try.prog.funcs[n_config_Work]? = some Try.f20 := Try.func20
noncomputable abbrev F_config_Work : Func := Try.f20
abbrev n_config_Footprint : Nat := 21
theorem q_config_Footprint : Try.prog.funcs[n_config_Footprint]? = some Try.f21 := Try.func21
noncomputable abbrev F_config_Footprint : Func := Try.f21
abbrev n_record_Size : Nat := 22
theorem q_record_Size : Try.prog.funcs[n_record_Size]? = some Try.f22 := Try.func22
noncomputable abbrev F_record_Size : Func := Try.f22
abbrev n_ouroboroslaw11_Plain : Nat := 23
theorem q_ouroboroslaw11_Plain : Try.prog.funcs[n_ouroboroslaw11_Plain]? = some Try.f23 := Try.func23
noncomputable abbrev F_ouroboroslaw11_Plain : Func := Try.f23
abbrev n_ouroborosref11_in : Nat := 24
theorem q_ouroborosref11_in : Try.prog.funcs[n_ouroborosref11_in]? = some Try.f24 := Try.func24
noncomputable abbrev F_ouroborosref11_in : Func := Try.f24
abbrev n_config_spans : Nat := 25
theorem q_config_spans : Try.prog.funcs[n_config_spans]? = some Try.f25 := Try.func25
noncomputable abbrev F_config_spans : Func := Try.f25
abbrev n_config_told : Nat := 26
theorem q_config_told : Try.prog.funcs[n_config_told]? = some Try.f26 := Try.func26
noncomputable abbrev F_config_told : Func := Try.f26
abbrev n_config_Size_1 : Nat := 27
theorem q_config_Size_1 : Try.prog.funcs[n_config_Size_1]? = some Try.f27 := Try.func27
noncomputable abbrev F_config_Size_1 : Func := Try.f27
abbrev n_config_Chunks_1 : Nat := 28
theorem q_config_Chunks_1 : Try.prog.funcs[n_config_Chunks_1]? = some Try.f28 := Try.func28
noncomputable abbrev F_config_Chunks_1 : Func := Try.f28
abbrev n_config_Rounds_1 : Nat := 29
theorem q_config_Rounds_1 : Try.prog.funcs[n_config_Rounds_1]? = some Try.f29 := Try.func29
noncomputable abbrev F_config_Rounds_1 : Func := Try.f29
abbrev n_config_Work_1 : Nat := 30
theorem q_config_Work_1 : Try.prog.funcs[n_config_Work_1]? = some Try.f30 := Try.func30
noncomputable abbrev F_config_Work_1 : Func := Try.f30
abbrev n_config_spans_1 : Nat := 31
theorem q_config_spans_1 : Try.prog.funcs[n_config_spans_1]? = some Try.f31 := Try.func31
noncomputable abbrev F_config_spans_1 : Func := Try.f31
abbrev n_config_spans_2 : Nat := 32
theorem q_config_spans_2 : Try.prog.funcs[n_config_spans_2]? = some Try.f32 := Try.func32
noncomputable abbrev F_config_spans_2 : Func := Try.f32
abbrev n_config_spans_3 : Nat := 33
theorem q_config_spans_3 : Try.prog.funcs[n_config_spans_3]? = some Try.f33 := Try.func33
noncomputable abbrev F_config_spans_3 : Func := Try.f33
abbrev n_config_spans_4 : Nat := 34
theorem q_config_spans_4 : Try.prog.funcs[n_config_spans_4]? = some Try.f34 := Try.func34
noncomputable abbrev F_config_spans_4 : Func := Try.f34
abbrev n_config_spans_5 : Nat := 35
theorem q_config_spans_5 : Try.prog.funcs[n_config_spans_5]? = some Try.f35 := Try.func35
noncomputable abbrev F_config_spans_5 : Func := Try.f35
abbrev n_config_spans_6 : Nat := 36
theorem q_config_spans_6 : Try.prog.funcs[n_config_spans_6]? = some Try.f36 := Try.func36
noncomputable abbrev F_config_spans_6 : Func := Try.f36
abbrev n_config_spans_7 : Nat := 37
theorem q_config_spans_7 : Try.prog.funcs[n_config_spans_7]? = some Try.f37 := Try.func37
noncomputable abbrev F_config_spans_7 : Func := Try.f37
abbrev n_config_spans_8 : Nat := 38
theorem q_config_spans_8 : Try.prog.funcs[n_config_spans_8]? = some Try.f38 := Try.func38
noncomputable abbrev F_config_spans_8 : Func := Try.f38
abbrev n_Errno_Error : Nat := 54
theorem q_Errno_Error : Try.prog.funcs[n_Errno_Error]? = some Try.f54 := Try.func54
noncomputable abbrev F_Errno_Error : Func := Try.f54
abbrev t_int64 : Nat := 2
theorem u_int64 : type_of% Try.underlying2 := Try.underlying2
abbrev t_int : Nat := 3
theorem u_int : type_of% Try.underlying3 := Try.underlying3
abbrev t_bool : Nat := 4
theorem u_bool : type_of% Try.underlying4 := Try.underlying4
abbrev t_uint8 : Nat := 5
theorem u_uint8 : type_of% Try.underlying5 := Try.underlying5
abbrev t_abi_BoundsErrorCode : Nat := 6
theorem u_abi_BoundsErrorCode : type_of% Try.underlying6 := Try.underlying6
abbrev t_runtime_boundsError : Nat := 8
theorem u_runtime_boundsError : type_of% Try.underlying8 := Try.underlying8
abbrev t_string : Nat := 9
theorem u_string : type_of% Try.underlying9 := Try.underlying9
abbrev t_runtime_errorString : Nat := 10
theorem u_runtime_errorString : type_of% Try.underlying10 := Try.underlying10
abbrev t_runtime_plainError : Nat := 11
theorem u_runtime_plainError : type_of% Try.underlying11 := Try.underlying11
abbrev t_uintptr : Nat := 12
theorem u_uintptr : type_of% Try.underlying12 := Try.underlying12
abbrev t_runtime_errorAddressString : Nat := 14
theorem u_runtime_errorAddressString : type_of% Try.underlying14 := Try.underlying14
abbrev t_P_runtime_TypeAssertionError : Nat := 15
theorem u_P_runtime_TypeAssertionError : type_of% Try.underlying15 := Try.underlying15
abbrev t_P_runtime_PanicNilError : Nat := 16
theorem u_P_runtime_PanicNilError : type_of% Try.underlying16 := Try.underlying16
abbrev t_P_abi_Type : Nat := 17
theorem u_P_abi_Type : type_of% Try.underlying17 := Try.underlying17
abbrev t_maps_unhashableTypeError : Nat := 19
theorem u_maps_unhashableTypeError : type_of% Try.underlying19 := Try.underlying19
abbrev t_interface : Nat := 20
theorem u_interface : type_of% Try.underlying20 := Try.underlying20
abbrev t_int32 : Nat := 21
theorem u_int32 : type_of% Try.underlying21 := Try.underlying21
abbrev t_Config : Nat := 23
theorem u_Config : type_of% Try.underlying23 := Try.underlying23
abbrev t_6_int : Nat := 27
theorem u_6_int : type_of% Try.underlying27 := Try.underlying27
abbrev t_Errno : Nat := 29
theorem u_Errno : type_of% Try.underlying29 := Try.underlying29
abbrev t_config_span : Nat := 36
theorem u_config_span : type_of% Try.underlying36 := Try.underlying36
abbrev t_8_config_span : Nat := 37
theorem u_8_config_span : type_of% Try.underlying37 := Try.underlying37
abbrev t_runtime_TypeAssertionError : Nat := 43
theorem u_runtime_TypeAssertionError : type_of% Try.underlying43 := Try.underlying43
abbrev t_0_P_runtime_PanicNilError : Nat := 44
theorem u_0_P_runtime_PanicNilError : type_of% Try.underlying44 := Try.underlying44
abbrev t_runtime_PanicNilError : Nat := 46
theorem u_runtime_PanicNilError : type_of% Try.underlying46 := Try.underlying46
abbrev t_uint32 : Nat := 47
theorem u_uint32 : type_of% Try.underlying47 := Try.underlying47
abbrev t_abi_TFlag : Nat := 48
theorem u_abi_TFlag : type_of% Try.underlying48 := Try.underlying48
abbrev t_abi_Kind : Nat := 49
theorem u_abi_Kind : type_of% Try.underlying49 := Try.underlying49
abbrev t_P_uint8 : Nat := 51
theorem u_P_uint8 : type_of% Try.underlying51 := Try.underlying51
abbrev t_abi_NameOff : Nat := 52
theorem u_abi_NameOff : type_of% Try.underlying52 := Try.underlying52
abbrev t_abi_TypeOff : Nat := 53
theorem u_abi_TypeOff : type_of% Try.underlying53 := Try.underlying53
abbrev t_abi_Type : Nat := 55
theorem u_abi_Type : type_of% Try.underlying55 := Try.underlying55
abbrev t_unsafe_Pointer : Nat := 56
theorem u_unsafe_Pointer : type_of% Try.underlying56 := Try.underlying56
end Go.Proofs.Ythdkofhgdmgdcaa
