/- The names of this seat: functions by numbers, the kinds of types. Printed by vcprint.py. -/
import Derived.Test.YtejlkhhomnoagaaDoorProg
import Derived.Test.YtejlkhhomnoagaaDoorChecked
import Derived.Test.YtejlkhhomnoagaaDoorVcG
namespace Go.Mp
open Go Go.Vc
noncomputable abbrev P : Program := Go.Proofs.Tryd.prog
abbrev ty_int64 : TypeId := 2
abbrev ty_int : TypeId := 3
abbrev ty_bool : TypeId := 4
abbrev ty_uint8 : TypeId := 5
abbrev ty_abi_BoundsErrorCode : TypeId := 6
abbrev ty_runtime_boundsError : TypeId := 8
abbrev ty_string : TypeId := 9
abbrev ty_runtime_errorString : TypeId := 10
abbrev ty_runtime_plainError : TypeId := 11
abbrev ty_uintptr : TypeId := 12
abbrev ty_runtime_errorAddressString : TypeId := 14
abbrev ty_ptr_runtime_TypeAssertionError : TypeId := 15
abbrev ty_ptr_runtime_PanicNilError : TypeId := 16
abbrev ty_ptr_abi_Type : TypeId := 17
abbrev ty_maps_unhashableTypeError : TypeId := 19
abbrev ty_int32 : TypeId := 21
abbrev ty_api_Errno : TypeId := 23
abbrev ty_sl_string : TypeId := 28
abbrev ty_sl_int : TypeId := 29
abbrev ty_sl_uint8 : TypeId := 42
abbrev ty_ptr_strings_Builder : TypeId := 48
abbrev ty_strings_Builder : TypeId := 50
abbrev ty_map_string_bool : TypeId := 51
abbrev ty_error : TypeId := 53
abbrev ty_ptr_uint8 : TypeId := 61
abbrev ty_unsafe_Pointer : TypeId := 65
abbrev ty_strconv_Error : TypeId := 68
abbrev ty_ptr_strconv_NumError : TypeId := 71
abbrev ty_arr24_uint8 : TypeId := 74
abbrev ty_uint64 : TypeId := 75
abbrev ty_uint : TypeId := 82
abbrev ty_strconv_NumError : TypeId := 87
abbrev ty_arr20_uint64 : TypeId := 90
abbrev ty_uint32 : TypeId := 91
abbrev ty_arr65_uint8 : TypeId := 92
abbrev ty_ptr_errors_errorString : TypeId := 98
abbrev ty_errors_errorString : TypeId := 100
abbrev ty_arr32_uint8 : TypeId := 102
abbrev ty_arr64_uint8 : TypeId := 103
abbrev ty_runtime_TypeAssertionError : TypeId := 105
abbrev ty_arr0_ptr_runtime_PanicNilError : TypeId := 106
abbrev ty_runtime_PanicNilError : TypeId := 108
abbrev ty_abi_TFlag : TypeId := 110
abbrev ty_abi_Kind : TypeId := 111
abbrev ty_abi_NameOff : TypeId := 113
abbrev ty_abi_TypeOff : TypeId := 114
abbrev ty_abi_Type : TypeId := 116
abbrev fn_main_main : FuncId := 0
abbrev fn_gosem_cut : FuncId := 1
abbrev fn_gosem_cut_init : FuncId := 2
abbrev fn_millpondlaw11_ControlReads : FuncId := 3
abbrev fn_millpondlaw11_ControlStats : FuncId := 4
abbrev fn_millpondlaw11_ControlBack : FuncId := 5
abbrev fn_millpondlaw11_ControlKilo : FuncId := 6
abbrev fn_millpondlaw11_ControlNames : FuncId := 7
abbrev fn_millpondlaw11_ControlWords : FuncId := 8
abbrev fn_millpondlaw11_works : FuncId := 9
abbrev fn_control_Read : FuncId := 10
abbrev fn_millpondref11_Read : FuncId := 11
abbrev fn_control_Show : FuncId := 12
abbrev fn_millpondref11_Show : FuncId := 13
abbrev fn_millpondlaw11_over : FuncId := 14
abbrev fn_control_Stat : FuncId := 15
abbrev fn_millpondref11_Stat : FuncId := 16
abbrev fn_control_Parse : FuncId := 17
abbrev fn_millpondref11_Parse : FuncId := 18
abbrev fn_millpondlaw11_texts : FuncId := 19
abbrev fn_millpondlaw11_row : FuncId := 20
abbrev fn_control_Word : FuncId := 21
abbrev fn_millpondref11_Word : FuncId := 22
abbrev fn_control_file : FuncId := 23
abbrev fn_strings_TrimSuffix : FuncId := 24
abbrev fn_control_limit : FuncId := 25
abbrev fn_millpondref11_limit : FuncId := 26
abbrev fn_strconv_Itoa : FuncId := 27
abbrev fn_millpondref11_Digits : FuncId := 28
abbrev fn_strings_Builder_WriteString : FuncId := 29
abbrev fn_strings_Builder_String : FuncId := 30
abbrev fn_strings_Cut : FuncId := 31
abbrev fn_strconv_Atoi : FuncId := 32
abbrev fn_millpondref11_value : FuncId := 33
abbrev fn_internal_stringslite_TrimSuffix : FuncId := 34
abbrev fn_strings_CutSuffix : FuncId := 35
abbrev fn_internal_strconv_Itoa : FuncId := 36
abbrev fn_strings_Builder_copyCheck : FuncId := 37
abbrev fn_internal_stringslite_Cut : FuncId := 38
abbrev fn_internal_strconv_Atoi : FuncId := 39
abbrev fn_strconv_toError : FuncId := 40
abbrev fn_internal_stringslite_HasSuffix : FuncId := 41
abbrev fn_internal_stringslite_CutSuffix : FuncId := 42
abbrev fn_internal_strconv_FormatInt : FuncId := 43
abbrev fn_internal_abi_NoEscape : FuncId := 44
abbrev fn_internal_stringslite_Index : FuncId := 45
abbrev fn_internal_strconv_ParseInt : FuncId := 46
abbrev fn_strconv_syntaxError : FuncId := 47
abbrev fn_strconv_rangeError : FuncId := 48
abbrev fn_strconv_baseError : FuncId := 49
abbrev fn_strconv_bitSizeError : FuncId := 50
abbrev fn_internal_strconv_small : FuncId := 51
abbrev fn_internal_strconv_numDigits : FuncId := 52
abbrev fn_internal_strconv_formatBase10 : FuncId := 53
abbrev fn_internal_strconv_formatBits : FuncId := 54
abbrev fn_internal_stringslite_IndexByte : FuncId := 55
abbrev fn_internal_bytealg_IndexString : FuncId := 56
abbrev fn_internal_bytealg_Cutover : FuncId := 57
abbrev fn_internal_bytealg_IndexRabinKarp_string : FuncId := 58
abbrev fn_internal_strconv_ParseUint : FuncId := 59
abbrev fn_internal_stringslite_Clone : FuncId := 60
abbrev fn_errors_New : FuncId := 61
abbrev fn_internal_strconv_log10Pow2 : FuncId := 62
abbrev fn_math_bits_Len64 : FuncId := 63
abbrev fn_internal_strconv_bool2_int : FuncId := 64
abbrev fn_internal_strconv_isPowerOfTwo : FuncId := 65
abbrev fn_math_bits_TrailingZeros : FuncId := 66
abbrev fn_internal_bytealg_IndexByteString : FuncId := 67
abbrev fn_internal_bytealg_hashStr_string : FuncId := 68
abbrev fn_internal_strconv_lower : FuncId := 69
abbrev fn_internal_strconv_underscoreOK : FuncId := 70
abbrev fn_math_bits_TrailingZeros32 : FuncId := 71
abbrev fn_math_bits_TrailingZeros64 : FuncId := 72
abbrev fn_runtime_boundsError_Error : FuncId := 73
abbrev fn_runtime_boundsError_RuntimeError : FuncId := 74
abbrev fn_runtime_errorString_Error : FuncId := 75
abbrev fn_runtime_errorString_RuntimeError : FuncId := 76
abbrev fn_runtime_plainError_Error : FuncId := 77
abbrev fn_runtime_plainError_RuntimeError : FuncId := 78
abbrev fn_runtime_errorAddressString_Error : FuncId := 79
abbrev fn_runtime_errorAddressString_RuntimeError : FuncId := 80
abbrev fn_runtime_TypeAssertionError_Error : FuncId := 81
abbrev fn_runtime_TypeAssertionError_RuntimeError : FuncId := 82
abbrev fn_runtime_PanicNilError_Error : FuncId := 83
abbrev fn_runtime_PanicNilError_RuntimeError : FuncId := 84
abbrev fn_internal_abi_Type_Align : FuncId := 85
abbrev fn_internal_runtime_maps_unhashableTypeError_Error : FuncId := 86
abbrev fn_internal_runtime_maps_unhashableTypeError_RuntimeError : FuncId := 87
abbrev fn_api_Errno_Error : FuncId := 88
abbrev fn_strings_Builder_Reset : FuncId := 89
abbrev fn_internal_strconv_Error_Error : FuncId := 90
abbrev fn_strconv_NumError_Error : FuncId := 91
abbrev fn_errors_errorString_Error : FuncId := 92
abbrev fn_internal_abi_Kind_String : FuncId := 93
abbrev fn_var_s_door_gosem_cut_vars_holds_initialisers_alone_see_the_manifest_s_row_cutvarsword_look_11_test_files_too : FuncId := 94
abbrev fn_var_s_door_internal_strconv_uint64pow10_is_laid_by_its_own_initialiser_plain_data_look_11 : FuncId := 95
abbrev fn_var_s_door_math_bits_deBruijn32tab_is_laid_by_its_own_initialiser_plain_data_look_11 : FuncId := 96
abbrev fn_var_s_door_math_bits_deBruijn64tab_is_laid_by_its_own_initialiser_plain_data_look_11 : FuncId := 97
abbrev fn_var_s_door_strconv_ErrRange_is_laid_by_its_own_call_of_errors_New_on_one_literal_look_11 : FuncId := 98
abbrev fn_var_s_door_strconv_ErrSyntax_is_laid_by_its_own_call_of_errors_New_on_one_literal_look_11 : FuncId := 99
abbrev fn_var_s_door_the_look_of_gosem_cut_vars_went_over_the_folder_that_the_caller_named_as_the_repository_s_root_look_11 : FuncId := 100
abbrev fn_gosem_cut_vars : FuncId := 101
noncomputable abbrev Chk : Checked := Go.Proofs.Tryd.checked
noncomputable abbrev F_millpondlaw11_ControlReads : Func := Go.Proofs.Tryd.f3
theorem func_millpondlaw11_ControlReads : P.funcs[fn_millpondlaw11_ControlReads]? = some F_millpondlaw11_ControlReads := Go.Proofs.Tryd.func3
noncomputable abbrev F_millpondlaw11_ControlStats : Func := Go.Proofs.Tryd.f4
theorem func_millpondlaw11_ControlStats : P.funcs[fn_millpondlaw11_ControlStats]? = some F_millpondlaw11_ControlStats := Go.Proofs.Tryd.func4
noncomputable abbrev F_millpondlaw11_ControlBack : Func := Go.Proofs.Tryd.f5
theorem func_millpondlaw11_ControlBack : P.funcs[fn_millpondlaw11_ControlBack]? = some F_millpondlaw11_ControlBack := Go.Proofs.Tryd.func5
noncomputable abbrev F_millpondlaw11_ControlKilo : Func := Go.Proofs.Tryd.f6
theorem func_millpondlaw11_ControlKilo : P.funcs[fn_millpondlaw11_ControlKilo]? = some F_millpondlaw11_ControlKilo := Go.Proofs.Tryd.func6
noncomputable abbrev F_millpondlaw11_ControlNames : Func := Go.Proofs.Tryd.f7
theorem func_millpondlaw11_ControlNames : P.funcs[fn_millpondlaw11_ControlNames]? = some F_millpondlaw11_ControlNames := Go.Proofs.Tryd.func7
noncomputable abbrev F_millpondlaw11_ControlWords : Func := Go.Proofs.Tryd.f8
theorem func_millpondlaw11_ControlWords : P.funcs[fn_millpondlaw11_ControlWords]? = some F_millpondlaw11_ControlWords := Go.Proofs.Tryd.func8
def tauL : List K1 := [.one .raw, .one .raw, .one (.int .i64), .one (.int .i64), .one .bool, .one (.int .u8), .one (.int .u8), .agg [.int .i64, .int .i64, .bool, .int .u8], .agg
    [.int .i64, .int .i64, .bool, .int .u8], .one .str, .one .str, .one .str, .one (.int .u64), .agg [.str, .int .u64], .agg [.str, .int .u64], .one .ptr, .one .ptr, .one .ptr, .agg
    [.ptr], .agg [.ptr], .one .raw, .one (.int .i32), .one .raw, .one (.int .i64), .one .raw, .one .raw, .one .raw, .one .raw, .one .slice, .one .slice, .one .raw, .one .raw, .one
    .raw, .one .raw, .one .raw, .one .raw, .one .raw, .one .raw, .one .raw, .one .raw, .one .raw, .one .raw, .one .slice, .one .raw, .one .raw, .one .raw, .one .raw, .one .raw, .one
    .ptr, .agg [.ptr, .slice], .agg [.ptr, .slice], .one .map, .one .raw, .one .raw, .one .raw, .one .raw, .one .raw, .one .raw, .one .raw, .one .raw, .one .raw, .one .ptr, .one
    .raw, .one .raw, .one .raw, .one .raw, .one .raw, .one .raw, .one (.int .i64), .one .raw, .one .raw, .one .ptr, .one .raw, .one .raw, .arr 24 .u8, .one (.int .u64), .one .raw,
    .one .raw, .one .raw, .one .raw, .one .raw, .one .raw, .one (.int .u64), .one .raw, .one .raw, .one .raw, .agg [.str, .str, .raw], .agg [.str, .str, .raw], .one .raw, .one .raw,
    .arr 20 .u64, .one (.int .u32), .arr 65 .u8, .one .raw, .one .raw, .one .raw, .one .raw, .one .raw, .one .ptr, .agg [.str], .agg [.str], .one .raw, .arr 32 .u8, .arr 64 .u8,
    .agg [.ptr, .ptr, .ptr, .str], .agg [.ptr, .ptr, .ptr, .str], .agg [], .agg [], .agg [], .one .raw, .one (.int .u8), .one (.int .u8), .one .raw, .one (.int .i32), .one (.int
    .i32), .agg [.int .u64, .int .u64, .int .u32, .int .u8, .int .u8, .int .u8, .int .u8, .raw, .ptr, .int .i32, .int .i32], .agg [.int .u64, .int .u64, .int .u32, .int .u8, .int
    .u8, .int .u8, .int .u8, .raw, .ptr, .int .i32, .int .i32]]
def tau (t : TypeId) : K1 := tauL.getD t (.one .raw)
def rhoL : List Kd := [.tup [], .k (.one .raw), .k (.one (.int .i64)), .k (.one (.int .i64)), .k (.one .bool), .k (.one (.int .u8)), .k (.one (.int .u8)), .k (.agg [.int .i64, .int
    .i64, .bool, .int .u8]), .k (.agg [.int .i64, .int .i64, .bool, .int .u8]), .k (.one .str), .k (.one .str), .k (.one .str), .k (.one (.int .u64)), .k (.agg [.str, .int .u64]),
    .k (.agg [.str, .int .u64]), .k (.one .ptr), .k (.one .ptr), .k (.one .ptr), .k (.agg [.ptr]), .k (.agg [.ptr]), .k (.one .raw), .k (.one (.int .i32)), .k (.one .raw), .k (.one
    (.int .i64)), .tup [.one (.int .i64), .one (.int .i64), .one (.int .i64)], .k (.one .raw), .k (.one .raw), .k (.one .raw), .k (.one .slice), .k (.one .slice), .k (.one .raw),
    .tup [.one .str, .one (.int .i64)], .k (.one .raw), .tup [.one .slice, .one .slice, .one (.int .i64)], .k (.one .raw), .k (.one .raw), .k (.one .raw), .k (.one .raw), .k (.one
    .raw), .k (.one .raw), .k (.one .raw), .k (.one .raw), .k (.one .slice), .k (.one .raw), .k (.one .raw), .k (.one .raw), .tup [.one (.int .i64), .one .bool], .k (.one .raw), .k
    (.one .ptr), .k (.agg [.ptr, .slice]), .k (.agg [.ptr, .slice]), .k (.one .map), .k (.one .raw), .k (.one .raw), .tup [.one (.int .i64), .one .raw], .k (.one .raw), .k (.one
    .raw), .tup [.one .str, .one .str, .one .bool], .k (.one .raw), .tup [.one .str, .one .bool], .k (.one .raw), .k (.one .ptr), .k (.one .raw), .k (.one .raw), .k (.one .raw), .k
    (.one .raw), .k (.one .raw), .k (.one .raw), .k (.one (.int .i64)), .tup [.one (.int .i64), .one .raw], .k (.one .raw), .k (.one .ptr), .k (.one .raw), .k (.one .raw), .k (.arr
    24 .u8), .k (.one (.int .u64)), .k (.one .raw), .k (.one .raw), .tup [.one .slice, .one .str], .k (.one .raw), .k (.one .raw), .k (.one .raw), .k (.one (.int .u64)), .tup [.one
    (.int .u64), .one .raw], .k (.one .raw), .k (.one .raw), .k (.agg [.str, .str, .raw]), .k (.agg [.str, .str, .raw]), .k (.one .raw), .k (.one .raw), .k (.arr 20 .u64), .k (.one
    (.int .u32)), .k (.arr 65 .u8), .k (.one .raw), .k (.one .raw), .tup [.one (.int .u32), .one (.int .u32)], .k (.one .raw), .k (.one .raw), .k (.one .ptr), .k (.agg [.str]), .k
    (.agg [.str]), .k (.one .raw), .k (.arr 32 .u8), .k (.arr 64 .u8), .k (.agg [.ptr, .ptr, .ptr, .str]), .k (.agg [.ptr, .ptr, .ptr, .str]), .k (.agg []), .k (.agg []), .k (.agg
    []), .k (.one .raw), .k (.one (.int .u8)), .k (.one (.int .u8)), .k (.one .raw), .k (.one (.int .i32)), .k (.one (.int .i32)), .k (.agg [.int .u64, .int .u64, .int .u32, .int
    .u8, .int .u8, .int .u8, .int .u8, .raw, .ptr, .int .i32, .int .i32]), .k (.agg [.int .u64, .int .u64, .int .u32, .int .u8, .int .u8, .int .u8, .int .u8, .raw, .ptr, .int .i32,
    .int .i32])]
def rho (t : TypeId) : Kd := rhoL.getD t (.k (.one .raw))
def pan (f : FuncId) : Bool := [].contains f
theorem mixed : P.follows .mixedOrders = true := Checked.mixed Go.Proofs.Tryd.checked
end Go.Mp
