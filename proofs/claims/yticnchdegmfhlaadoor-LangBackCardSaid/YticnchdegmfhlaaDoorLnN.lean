/- The names of this seat: functions by numbers, the kinds of types. Printed by vcprint.py. -/
import Derived.Test.YticnchdegmfhlaaDoorProg
import Derived.Test.YticnchdegmfhlaaDoorChecked
import Derived.Test.YticnchdegmfhlaaDoorVcG
namespace Go.Mp
open Go Go.Vc
noncomputable abbrev P : Program := Go.Proofs.Tryd.prog
abbrev ty_int64 : TypeId := 2
abbrev ty_int : TypeId := 3
abbrev ty_bool : TypeId := 4
abbrev ty_uint8 : TypeId := 5
abbrev ty_abi_BoundsErrorCode : TypeId := 6
abbrev ty_runtime_boundsError : TypeId := 8
abbrev ty_string : TypeId := 9
abbrev ty_runtime_errorString : TypeId := 10
abbrev ty_runtime_plainError : TypeId := 11
abbrev ty_uintptr : TypeId := 12
abbrev ty_runtime_errorAddressString : TypeId := 14
abbrev ty_ptr_runtime_TypeAssertionError : TypeId := 15
abbrev ty_ptr_runtime_PanicNilError : TypeId := 16
abbrev ty_ptr_abi_Type : TypeId := 17
abbrev ty_maps_unhashableTypeError : TypeId := 19
abbrev ty_int32 : TypeId := 21
abbrev ty_sl_api_Op : TypeId := 22
abbrev ty_api_OpKind : TypeId := 23
abbrev ty_api_Op : TypeId := 25
abbrev ty_api_Errno : TypeId := 27
abbrev ty_sl_string : TypeId := 32
abbrev ty_ptr_strings_Builder : TypeId := 41
abbrev ty_sl_uint8 : TypeId := 42
abbrev ty_strings_Builder : TypeId := 44
abbrev ty_error : TypeId := 48
abbrev ty_sl_int : TypeId := 52
abbrev ty_sl_lang_field : TypeId := 56
abbrev ty_lang_form : TypeId := 58
abbrev ty_sl_lang_form : TypeId := 59
abbrev ty_lang_bad : TypeId := 68
abbrev ty_lang_field : TypeId := 69
abbrev ty_ptr_int : TypeId := 70
abbrev ty_ptr_api_Op : TypeId := 72
abbrev ty_ptr_uint8 : TypeId := 75
abbrev ty_unsafe_Pointer : TypeId := 79
abbrev ty_uint : TypeId := 86
abbrev ty_uint32 : TypeId := 91
abbrev ty_strconv_Error : TypeId := 96
abbrev ty_ptr_strconv_NumError : TypeId := 99
abbrev ty_arr24_uint8 : TypeId := 102
abbrev ty_uint64 : TypeId := 103
abbrev ty_strconv_NumError : TypeId := 112
abbrev ty_arr20_uint64 : TypeId := 115
abbrev ty_arr65_uint8 : TypeId := 116
abbrev ty_arr256_uint8 : TypeId := 119
abbrev ty_utf8_acceptRange : TypeId := 121
abbrev ty_arr16_utf8_acceptRange : TypeId := 122
abbrev ty_ptr_errors_errorString : TypeId := 124
abbrev ty_errors_errorString : TypeId := 126
abbrev ty_arr32_uint8 : TypeId := 128
abbrev ty_arr64_uint8 : TypeId := 129
abbrev ty_runtime_TypeAssertionError : TypeId := 131
abbrev ty_arr0_ptr_runtime_PanicNilError : TypeId := 132
abbrev ty_runtime_PanicNilError : TypeId := 134
abbrev ty_abi_TFlag : TypeId := 136
abbrev ty_abi_Kind : TypeId := 137
abbrev ty_abi_NameOff : TypeId := 139
abbrev ty_abi_TypeOff : TypeId := 140
abbrev ty_abi_Type : TypeId := 142
abbrev fn_main_main : FuncId := 0
abbrev fn_gosem_cut : FuncId := 1
abbrev fn_gosem_cut_init : FuncId := 2
abbrev fn_millpondlaw21_LangPrints : FuncId := 3
abbrev fn_millpondlaw21_LangParses : FuncId := 4
abbrev fn_millpondlaw21_LangBack : FuncId := 5
abbrev fn_millpondlaw21_LangOnce : FuncId := 6
abbrev fn_millpondlaw21_works : FuncId := 7
abbrev fn_lang_Print : FuncId := 8
abbrev fn_millpondref21_Print : FuncId := 9
abbrev fn_lang_Line : FuncId := 10
abbrev fn_millpondref21_Line : FuncId := 11
abbrev fn_lang_Words : FuncId := 12
abbrev fn_millpondref21_Words : FuncId := 13
abbrev fn_lang_Parse : FuncId := 14
abbrev fn_millpondref21_Parse : FuncId := 15
abbrev fn_millpondlaw21_same : FuncId := 16
abbrev fn_lang_caught : FuncId := 17
abbrev fn_lang_Print_1 : FuncId := 18
abbrev fn_lang_must : FuncId := 19
abbrev fn_strings_Builder_WriteString : FuncId := 20
abbrev fn_lang_line : FuncId := 21
abbrev fn_strings_Builder_String : FuncId := 22
abbrev fn_lang_Line_1 : FuncId := 23
abbrev fn_millpondref21_told : FuncId := 24
abbrev fn_millpondref11_Show : FuncId := 25
abbrev fn_millpondref11_Digits : FuncId := 26
abbrev fn_lang_of_lang_form_string : FuncId := 27
abbrev fn_lang_forms : FuncId := 28
abbrev fn_lang_Words_1 : FuncId := 29
abbrev fn_strings_Cut : FuncId := 30
abbrev fn_lang_Parse_1 : FuncId := 31
abbrev fn_lang_read : FuncId := 32
abbrev fn_millpondref21_read : FuncId := 33
abbrev fn_lang_caught_1 : FuncId := 34
abbrev fn_strings_Builder_copyCheck : FuncId := 35
abbrev fn_lang_field_show : FuncId := 36
abbrev fn_lang_field_place : FuncId := 37
abbrev fn_lang_right : FuncId := 38
abbrev fn_strings_Join : FuncId := 39
abbrev fn_lang_row : FuncId := 40
abbrev fn_internal_stringslite_Cut : FuncId := 41
abbrev fn_strings_Split : FuncId := 42
abbrev fn_lang_field_value : FuncId := 43
abbrev fn_millpondref21_digits : FuncId := 44
abbrev fn_internal_abi_NoEscape : FuncId := 45
abbrev fn_lang_limits : FuncId := 46
abbrev fn_control_Show : FuncId := 47
abbrev fn_strconv_Itoa : FuncId := 48
abbrev fn_strings_Builder_Grow : FuncId := 49
abbrev fn_internal_stringslite_Index : FuncId := 50
abbrev fn_strings_genSplit : FuncId := 51
abbrev fn_strconv_Atoi : FuncId := 52
abbrev fn_internal_strconv_Itoa : FuncId := 53
abbrev fn_strings_Builder_grow : FuncId := 54
abbrev fn_internal_stringslite_IndexByte : FuncId := 55
abbrev fn_internal_bytealg_IndexString : FuncId := 56
abbrev fn_internal_bytealg_Cutover : FuncId := 57
abbrev fn_internal_bytealg_IndexRabinKarp_string : FuncId := 58
abbrev fn_strings_explode : FuncId := 59
abbrev fn_strings_Count : FuncId := 60
abbrev fn_strings_Index : FuncId := 61
abbrev fn_internal_strconv_Atoi : FuncId := 62
abbrev fn_strconv_toError : FuncId := 63
abbrev fn_internal_strconv_FormatInt : FuncId := 64
abbrev fn_internal_bytealg_MakeNoZero : FuncId := 65
abbrev fn_internal_bytealg_IndexByteString : FuncId := 66
abbrev fn_internal_bytealg_hashStr_string : FuncId := 67
abbrev fn_unicode_utf8_RuneCountInString : FuncId := 68
abbrev fn_unicode_utf8_DecodeRuneInString : FuncId := 69
abbrev fn_internal_bytealg_CountString : FuncId := 70
abbrev fn_internal_strconv_ParseInt : FuncId := 71
abbrev fn_strconv_syntaxError : FuncId := 72
abbrev fn_strconv_rangeError : FuncId := 73
abbrev fn_strconv_baseError : FuncId := 74
abbrev fn_strconv_bitSizeError : FuncId := 75
abbrev fn_internal_strconv_small : FuncId := 76
abbrev fn_internal_strconv_numDigits : FuncId := 77
abbrev fn_internal_strconv_formatBase10 : FuncId := 78
abbrev fn_internal_strconv_formatBits : FuncId := 79
abbrev fn_unicode_utf8_decodeRuneInStringSlow : FuncId := 80
abbrev fn_internal_strconv_ParseUint : FuncId := 81
abbrev fn_internal_stringslite_Clone : FuncId := 82
abbrev fn_errors_New : FuncId := 83
abbrev fn_internal_strconv_log10Pow2 : FuncId := 84
abbrev fn_math_bits_Len64 : FuncId := 85
abbrev fn_internal_strconv_bool2_int : FuncId := 86
abbrev fn_internal_strconv_isPowerOfTwo : FuncId := 87
abbrev fn_math_bits_TrailingZeros : FuncId := 88
abbrev fn_internal_strconv_lower : FuncId := 89
abbrev fn_internal_strconv_underscoreOK : FuncId := 90
abbrev fn_math_bits_TrailingZeros32 : FuncId := 91
abbrev fn_math_bits_TrailingZeros64 : FuncId := 92
abbrev fn_runtime_boundsError_Error : FuncId := 93
abbrev fn_runtime_boundsError_RuntimeError : FuncId := 94
abbrev fn_runtime_errorString_Error : FuncId := 95
abbrev fn_runtime_errorString_RuntimeError : FuncId := 96
abbrev fn_runtime_plainError_Error : FuncId := 97
abbrev fn_runtime_plainError_RuntimeError : FuncId := 98
abbrev fn_runtime_errorAddressString_Error : FuncId := 99
abbrev fn_runtime_errorAddressString_RuntimeError : FuncId := 100
abbrev fn_runtime_TypeAssertionError_Error : FuncId := 101
abbrev fn_runtime_TypeAssertionError_RuntimeError : FuncId := 102
abbrev fn_runtime_PanicNilError_Error : FuncId := 103
abbrev fn_runtime_PanicNilError_RuntimeError : FuncId := 104
abbrev fn_internal_abi_Type_Align : FuncId := 105
abbrev fn_internal_runtime_maps_unhashableTypeError_Error : FuncId := 106
abbrev fn_internal_runtime_maps_unhashableTypeError_RuntimeError : FuncId := 107
abbrev fn_api_Errno_Error : FuncId := 108
abbrev fn_strings_Builder_Reset : FuncId := 109
abbrev fn_internal_strconv_Error_Error : FuncId := 110
abbrev fn_strconv_NumError_Error : FuncId := 111
abbrev fn_errors_errorString_Error : FuncId := 112
abbrev fn_internal_abi_Kind_String : FuncId := 113
abbrev fn_var_s_door_gosem_cut_vars_holds_initialisers_alone_see_the_manifest_s_row_cutvarsword_look_11_test_files_too : FuncId := 114
abbrev fn_var_s_door_internal_strconv_uint64pow10_is_laid_by_its_own_initialiser_plain_data_look_11 : FuncId := 115
abbrev fn_var_s_door_math_bits_deBruijn32tab_is_laid_by_its_own_initialiser_plain_data_look_11 : FuncId := 116
abbrev fn_var_s_door_math_bits_deBruijn64tab_is_laid_by_its_own_initialiser_plain_data_look_11 : FuncId := 117
abbrev fn_var_s_door_strconv_ErrRange_is_laid_by_its_own_call_of_errors_New_on_one_literal_look_11 : FuncId := 118
abbrev fn_var_s_door_strconv_ErrSyntax_is_laid_by_its_own_call_of_errors_New_on_one_literal_look_11 : FuncId := 119
abbrev fn_var_s_door_the_look_of_gosem_cut_vars_went_over_the_folder_that_the_caller_named_as_the_repository_s_root_look_11 : FuncId := 120
abbrev fn_var_s_door_unicode_utf8_acceptRanges_is_laid_by_its_own_initialiser_plain_data_look_11 : FuncId := 121
abbrev fn_var_s_door_unicode_utf8_first_is_laid_by_its_text_alone_pinned_1 : FuncId := 122
abbrev fn_gosem_cut_vars : FuncId := 123
noncomputable abbrev Chk : Checked := Go.Proofs.Tryd.checked
noncomputable abbrev F_millpondlaw21_LangPrints : Func := Go.Proofs.Tryd.f3
theorem func_millpondlaw21_LangPrints : P.funcs[fn_millpondlaw21_LangPrints]? = some F_millpondlaw21_LangPrints := Go.Proofs.Tryd.func3
noncomputable abbrev F_millpondlaw21_LangParses : Func := Go.Proofs.Tryd.f4
theorem func_millpondlaw21_LangParses : P.funcs[fn_millpondlaw21_LangParses]? = some F_millpondlaw21_LangParses := Go.Proofs.Tryd.func4
noncomputable abbrev F_millpondlaw21_LangBack : Func := Go.Proofs.Tryd.f5
theorem func_millpondlaw21_LangBack : P.funcs[fn_millpondlaw21_LangBack]? = some F_millpondlaw21_LangBack := Go.Proofs.Tryd.func5
noncomputable abbrev F_millpondlaw21_LangOnce : Func := Go.Proofs.Tryd.f6
theorem func_millpondlaw21_LangOnce : P.funcs[fn_millpondlaw21_LangOnce]? = some F_millpondlaw21_LangOnce := Go.Proofs.Tryd.func6
def tauL : List K1 := [.one .raw, .one .raw, .one (.int .i64), .one (.int .i64), .one .bool, .one (.int .u8), .one (.int .u8), .agg [.int .i64, .int .i64, .bool, .int .u8], .agg
    [.int .i64, .int .i64, .bool, .int .u8], .one .str, .one .str, .one .str, .one (.int .u64), .agg [.str, .int .u64], .agg [.str, .int .u64], .one .ptr, .one .ptr, .one .ptr, .agg
    [.ptr], .agg [.ptr], .one .raw, .one (.int .i32), .one .slice, .one (.int .i64), .agg [.int .i64, .int .i64, .int .i64, .int .i64, .int .i64], .agg [.int .i64, .int .i64, .int
    .i64, .int .i64, .int .i64], .one .raw, .one (.int .i64), .one .raw, .one .raw, .one .raw, .one .raw, .one .slice, .one .raw, .one .raw, .one .raw, .one .raw, .one .raw, .one
    .raw, .one .raw, .one .raw, .one .ptr, .one .slice, .agg [.ptr, .slice], .agg [.ptr, .slice], .one .raw, .one .raw, .one .raw, .one .raw, .one .raw, .one .raw, .one .raw, .one
    .slice, .one .raw, .one .raw, .one .raw, .one .slice, .agg [.str, .slice], .agg [.str, .slice], .one .slice, .one .raw, .one .raw, .one .raw, .one .raw, .one .raw, .one .raw,
    .one .raw, .agg [], .agg [], .one (.int .i64), .one .ptr, .one .raw, .one .ptr, .one .raw, .one .raw, .one .ptr, .one .raw, .one .raw, .one .raw, .one .raw, .one .raw, .one
    .raw, .one .raw, .one .raw, .one .raw, .one .raw, .one (.int .u64), .one .raw, .one .raw, .one .raw, .one .raw, .one (.int .u32), .one .raw, .one .raw, .one .raw, .one .raw,
    .one (.int .i64), .one .raw, .one .raw, .one .ptr, .one .raw, .one .raw, .arr 24 .u8, .one (.int .u64), .one .raw, .one .raw, .one .raw, .one .raw, .one .raw, .one .raw, .one
    .raw, .agg [.str, .str, .raw], .agg [.str, .str, .raw], .one .raw, .one .raw, .arr 20 .u64, .arr 65 .u8, .one .raw, .one .raw, .arr 256 .u8, .agg [.int .u8, .int .u8], .agg
    [.int .u8, .int .u8], .agg [.int .u8, .int .u8, .int .u8, .int .u8, .int .u8, .int .u8, .int .u8, .int .u8, .int .u8, .int .u8, .int .u8, .int .u8, .int .u8, .int .u8, .int .u8,
    .int .u8, .int .u8, .int .u8, .int .u8, .int .u8, .int .u8, .int .u8, .int .u8, .int .u8, .int .u8, .int .u8, .int .u8, .int .u8, .int .u8, .int .u8, .int .u8, .int .u8], .one
    .raw, .one .ptr, .agg [.str], .agg [.str], .one .raw, .arr 32 .u8, .arr 64 .u8, .agg [.ptr, .ptr, .ptr, .str], .agg [.ptr, .ptr, .ptr, .str], .agg [], .agg [], .agg [], .one
    .raw, .one (.int .u8), .one (.int .u8), .one .raw, .one (.int .i32), .one (.int .i32), .agg [.int .u64, .int .u64, .int .u32, .int .u8, .int .u8, .int .u8, .int .u8, .raw, .ptr,
    .int .i32, .int .i32], .agg [.int .u64, .int .u64, .int .u32, .int .u8, .int .u8, .int .u8, .int .u8, .raw, .ptr, .int .i32, .int .i32]]
def tau (t : TypeId) : K1 := tauL.getD t (.one .raw)
def rhoL : List Kd := [.tup [], .k (.one .raw), .k (.one (.int .i64)), .k (.one (.int .i64)), .k (.one .bool), .k (.one (.int .u8)), .k (.one (.int .u8)), .k (.agg [.int .i64, .int
    .i64, .bool, .int .u8]), .k (.agg [.int .i64, .int .i64, .bool, .int .u8]), .k (.one .str), .k (.one .str), .k (.one .str), .k (.one (.int .u64)), .k (.agg [.str, .int .u64]),
    .k (.agg [.str, .int .u64]), .k (.one .ptr), .k (.one .ptr), .k (.one .ptr), .k (.agg [.ptr]), .k (.agg [.ptr]), .k (.one .raw), .k (.one (.int .i32)), .k (.one .slice), .k
    (.one (.int .i64)), .k (.agg [.int .i64, .int .i64, .int .i64, .int .i64, .int .i64]), .k (.agg [.int .i64, .int .i64, .int .i64, .int .i64, .int .i64]), .k (.one .raw), .k
    (.one (.int .i64)), .tup [.one .str, .one (.int .i64)], .k (.one .raw), .k (.one .raw), .k (.one .raw), .k (.one .slice), .k (.one .raw), .k (.one .raw), .tup [.one .slice, .one
    (.int .i64), .one (.int .i64)], .k (.one .raw), .k (.one .raw), .k (.one .raw), .k (.one .raw), .k (.one .raw), .k (.one .ptr), .k (.one .slice), .k (.agg [.ptr, .slice]), .k
    (.agg [.ptr, .slice]), .k (.one .raw), .k (.one .raw), .k (.one .raw), .k (.one .raw), .tup [.one (.int .i64), .one .raw], .k (.one .raw), .k (.one .raw), .k (.one .slice), .k
    (.one .raw), .k (.one .raw), .k (.one .raw), .k (.one .slice), .k (.agg [.str, .slice]), .k (.agg [.str, .slice]), .k (.one .slice), .k (.one .raw), .k (.one .raw), .tup [.one
    .str, .one .str, .one .bool], .k (.one .raw), .k (.one .raw), .tup [.agg [.int .i64, .int .i64, .int .i64, .int .i64, .int .i64], .one .bool], .k (.one .raw), .k (.agg []), .k
    (.agg []), .k (.one (.int .i64)), .k (.one .ptr), .k (.one .raw), .k (.one .ptr), .k (.one .raw), .k (.one .raw), .k (.one .ptr), .k (.one .raw), .k (.one .raw), .k (.one .raw),
    .k (.one .raw), .k (.one .raw), .k (.one .raw), .k (.one .raw), .k (.one .raw), .k (.one .raw), .k (.one .raw), .k (.one (.int .u64)), .k (.one .raw), .k (.one .raw), .k (.one
    .raw), .k (.one .raw), .k (.one (.int .u32)), .tup [.one (.int .u32), .one (.int .u32)], .k (.one .raw), .tup [.one (.int .i32), .one (.int .i64)], .k (.one .raw), .k (.one
    (.int .i64)), .tup [.one (.int .i64), .one .raw], .k (.one .raw), .k (.one .ptr), .k (.one .raw), .k (.one .raw), .k (.arr 24 .u8), .k (.one (.int .u64)), .k (.one .raw), .k
    (.one .raw), .tup [.one .slice, .one .str], .k (.one .raw), .tup [.one (.int .u64), .one .raw], .k (.one .raw), .k (.one .raw), .k (.agg [.str, .str, .raw]), .k (.agg [.str,
    .str, .raw]), .k (.one .raw), .k (.one .raw), .k (.arr 20 .u64), .k (.arr 65 .u8), .k (.one .raw), .k (.one .raw), .k (.arr 256 .u8), .k (.agg [.int .u8, .int .u8]), .k (.agg
    [.int .u8, .int .u8]), .k (.agg [.int .u8, .int .u8, .int .u8, .int .u8, .int .u8, .int .u8, .int .u8, .int .u8, .int .u8, .int .u8, .int .u8, .int .u8, .int .u8, .int .u8, .int
    .u8, .int .u8, .int .u8, .int .u8, .int .u8, .int .u8, .int .u8, .int .u8, .int .u8, .int .u8, .int .u8, .int .u8, .int .u8, .int .u8, .int .u8, .int .u8, .int .u8, .int .u8]),
    .k (.one .raw), .k (.one .ptr), .k (.agg [.str]), .k (.agg [.str]), .k (.one .raw), .k (.arr 32 .u8), .k (.arr 64 .u8), .k (.agg [.ptr, .ptr, .ptr, .str]), .k (.agg [.ptr, .ptr,
    .ptr, .str]), .k (.agg []), .k (.agg []), .k (.agg []), .k (.one .raw), .k (.one (.int .u8)), .k (.one (.int .u8)), .k (.one .raw), .k (.one (.int .i32)), .k (.one (.int .i32)),
    .k (.agg [.int .u64, .int .u64, .int .u32, .int .u8, .int .u8, .int .u8, .int .u8, .raw, .ptr, .int .i32, .int .i32]), .k (.agg [.int .u64, .int .u64, .int .u32, .int .u8, .int
    .u8, .int .u8, .int .u8, .raw, .ptr, .int .i32, .int .i32])]
def rho (t : TypeId) : Kd := rhoL.getD t (.k (.one .raw))
abbrev pe (v : Value) : PanicEntry := { v := v, recovered := false }
def pan (f : FuncId) : Bool := [18, 19, 21, 23, 31, 32, 36, 38, 43].contains f
theorem mixed : P.follows .mixedOrders = true := Checked.mixed Go.Proofs.Tryd.checked
end Go.Mp
