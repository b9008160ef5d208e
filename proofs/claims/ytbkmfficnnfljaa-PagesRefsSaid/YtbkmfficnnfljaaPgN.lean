/- The names of this seat: functions by numbers, the kinds of types. Printed by vcprint.py. -/
import Derived.Test.YtbkmfficnnfljaaProg
import Derived.Test.YtbkmfficnnfljaaChecked
import Derived.Test.YtbkmfficnnfljaaVcG
namespace Go.Mp
open Go Go.Vc
noncomputable abbrev P : Program := Go.Proofs.Try.prog
abbrev ty_int64 : TypeId := 2
abbrev ty_int : TypeId := 3
abbrev ty_bool : TypeId := 4
abbrev ty_uint8 : TypeId := 5
abbrev ty_abi_BoundsErrorCode : TypeId := 6
abbrev ty_runtime_boundsError : TypeId := 8
abbrev ty_string : TypeId := 9
abbrev ty_runtime_errorString : TypeId := 10
abbrev ty_runtime_plainError : TypeId := 11
abbrev ty_uintptr : TypeId := 12
abbrev ty_runtime_errorAddressString : TypeId := 14
abbrev ty_ptr_runtime_TypeAssertionError : TypeId := 15
abbrev ty_ptr_runtime_PanicNilError : TypeId := 16
abbrev ty_ptr_abi_Type : TypeId := 17
abbrev ty_maps_unhashableTypeError : TypeId := 19
abbrev ty_int32 : TypeId := 21
abbrev ty_sl_millpondlaw14_Act : TypeId := 22
abbrev ty_api_Key : TypeId := 24
abbrev ty_api_Place : TypeId := 25
abbrev ty_ptr_pages_Table : TypeId := 27
abbrev ty_ptr_millpondref14_Table : TypeId := 29
abbrev ty_sl_millpondref14_One : TypeId := 30
abbrev ty_millpondref14_Table : TypeId := 32
abbrev ty_millpondlaw14_Act : TypeId := 34
abbrev ty_api_Errno : TypeId := 35
abbrev ty_api_Page : TypeId := 45
abbrev ty_sl_int : TypeId := 51
abbrev ty_sl_api_Page : TypeId := 57
abbrev ty_map_int_ptr_api_Page : TypeId := 62
abbrev ty_map_api_Key_int : TypeId := 63
abbrev ty_map_pages_spot_int : TypeId := 64
abbrev ty_pages_Table : TypeId := 66
abbrev ty_millpondref14_One : TypeId := 68
abbrev ty_ptr_api_Page : TypeId := 70
abbrev ty_pages_spot : TypeId := 73
abbrev ty_uint : TypeId := 86
abbrev ty_slices_sortedHint : TypeId := 88
abbrev ty_uint32 : TypeId := 96
abbrev ty_uint64 : TypeId := 98
abbrev ty_slices_xorshift : TypeId := 99
abbrev ty_ptr_int : TypeId := 103
abbrev ty_ptr_slices_xorshift : TypeId := 105
abbrev ty_runtime_TypeAssertionError : TypeId := 110
abbrev ty_arr0_ptr_runtime_PanicNilError : TypeId := 111
abbrev ty_runtime_PanicNilError : TypeId := 113
abbrev ty_abi_TFlag : TypeId := 115
abbrev ty_abi_Kind : TypeId := 116
abbrev ty_ptr_uint8 : TypeId := 118
abbrev ty_abi_NameOff : TypeId := 119
abbrev ty_abi_TypeOff : TypeId := 120
abbrev ty_abi_Type : TypeId := 122
abbrev ty_unsafe_Pointer : TypeId := 123
abbrev fn_main_main : FuncId := 0
abbrev fn_gosem_cut : FuncId := 1
abbrev fn_gosem_cut_init : FuncId := 2
abbrev fn_millpondlaw14_PagesDoes : FuncId := 3
abbrev fn_millpondlaw14_PagesOnce : FuncId := 4
abbrev fn_millpondlaw14_PagesErr : FuncId := 5
abbrev fn_millpondlaw14_PagesMoves : FuncId := 6
abbrev fn_millpondlaw14_PagesIds : FuncId := 7
abbrev fn_millpondlaw14_PagesRefs : FuncId := 8
abbrev fn_millpondlaw14_PagesFields : FuncId := 9
abbrev fn_millpondlaw14_works : FuncId := 10
abbrev fn_pages_New : FuncId := 11
abbrev fn_millpondlaw14_do : FuncId := 12
abbrev fn_millpondref14_Table_Make : FuncId := 13
abbrev fn_millpondref14_Table_Put : FuncId := 14
abbrev fn_millpondref14_Table_Refer : FuncId := 15
abbrev fn_millpondref14_Table_Drop : FuncId := 16
abbrev fn_millpondref14_Table_Own : FuncId := 17
abbrev fn_millpondref14_Table_Mark : FuncId := 18
abbrev fn_pages_Table_Get : FuncId := 19
abbrev fn_millpondref14_Table_Get : FuncId := 20
abbrev fn_pages_Table_Of : FuncId := 21
abbrev fn_millpondref14_Table_Of : FuncId := 22
abbrev fn_pages_Table_At : FuncId := 23
abbrev fn_millpondref14_Table_At : FuncId := 24
abbrev fn_millpondlaw14_row : FuncId := 25
abbrev fn_pages_Table_All : FuncId := 26
abbrev fn_millpondref14_Table_Those : FuncId := 27
abbrev fn_pages_Table_Those : FuncId := 28
abbrev fn_pages_Table_Put : FuncId := 29
abbrev fn_pages_Table_Make : FuncId := 30
abbrev fn_pages_Table_Refer : FuncId := 31
abbrev fn_pages_Table_Drop : FuncId := 32
abbrev fn_pages_Table_Own : FuncId := 33
abbrev fn_pages_Table_Mark : FuncId := 34
abbrev fn_millpondref14_Table_Has : FuncId := 35
abbrev fn_slices_Sorted_int : FuncId := 36
abbrev fn_maps_Keys_map_int_api_Page_int_api_Page : FuncId := 37
abbrev fn_slices_DeleteFunc_int_int : FuncId := 38
abbrev fn_pages_Table_Those_1 : FuncId := 39
abbrev fn_pages_Table_change : FuncId := 40
abbrev fn_pages_Table_Own_1 : FuncId := 41
abbrev fn_pages_Table_Mark_1 : FuncId := 42
abbrev fn_slices_Collect_int : FuncId := 43
abbrev fn_slices_Sort_int_int : FuncId := 44
abbrev fn_maps_Keys_map_int_api_Page_int_api_Page_1 : FuncId := 45
abbrev fn_slices_IndexFunc_int_int : FuncId := 46
abbrev fn_slices_AppendSeq_int_int : FuncId := 47
abbrev fn_slices_pdqsortOrdered_int : FuncId := 48
abbrev fn_math_bits_Len : FuncId := 49
abbrev fn_slices_insertionSortOrdered_int : FuncId := 50
abbrev fn_slices_heapSortOrdered_int : FuncId := 51
abbrev fn_slices_breakPatternsOrdered_int : FuncId := 52
abbrev fn_slices_choosePivotOrdered_int : FuncId := 53
abbrev fn_slices_reverseRangeOrdered_int : FuncId := 54
abbrev fn_slices_partialInsertionSortOrdered_int : FuncId := 55
abbrev fn_cmp_Less_int : FuncId := 56
abbrev fn_slices_partitionEqualOrdered_int : FuncId := 57
abbrev fn_slices_partitionOrdered_int : FuncId := 58
abbrev fn_math_bits_Len32 : FuncId := 59
abbrev fn_math_bits_Len64 : FuncId := 60
abbrev fn_slices_siftDownOrdered_int : FuncId := 61
abbrev fn_slices_nextPowerOfTwo : FuncId := 62
abbrev fn_slices_xorshift_Next : FuncId := 63
abbrev fn_slices_medianAdjacentOrdered_int : FuncId := 64
abbrev fn_slices_medianOrdered_int : FuncId := 65
abbrev fn_cmp_isNaN_int : FuncId := 66
abbrev fn_slices_order2Ordered_int : FuncId := 67
abbrev fn_runtime_boundsError_Error : FuncId := 68
abbrev fn_runtime_boundsError_RuntimeError : FuncId := 69
abbrev fn_runtime_errorString_Error : FuncId := 70
abbrev fn_runtime_errorString_RuntimeError : FuncId := 71
abbrev fn_runtime_plainError_Error : FuncId := 72
abbrev fn_runtime_plainError_RuntimeError : FuncId := 73
abbrev fn_runtime_errorAddressString_Error : FuncId := 74
abbrev fn_runtime_errorAddressString_RuntimeError : FuncId := 75
abbrev fn_runtime_TypeAssertionError_Error : FuncId := 76
abbrev fn_runtime_TypeAssertionError_RuntimeError : FuncId := 77
abbrev fn_runtime_PanicNilError_Error : FuncId := 78
abbrev fn_runtime_PanicNilError_RuntimeError : FuncId := 79
abbrev fn_internal_abi_Type_Align : FuncId := 80
abbrev fn_internal_runtime_maps_unhashableTypeError_Error : FuncId := 81
abbrev fn_internal_runtime_maps_unhashableTypeError_RuntimeError : FuncId := 82
abbrev fn_api_Errno_Error : FuncId := 83
abbrev fn_internal_abi_Kind_String : FuncId := 84
noncomputable abbrev Chk : Checked := Go.Proofs.Try.checked
noncomputable abbrev F_millpondlaw14_PagesDoes : Func := Go.Proofs.Try.f3
theorem func_millpondlaw14_PagesDoes : P.funcs[fn_millpondlaw14_PagesDoes]? = some F_millpondlaw14_PagesDoes := Go.Proofs.Try.func3
noncomputable abbrev F_millpondlaw14_PagesOnce : Func := Go.Proofs.Try.f4
theorem func_millpondlaw14_PagesOnce : P.funcs[fn_millpondlaw14_PagesOnce]? = some F_millpondlaw14_PagesOnce := Go.Proofs.Try.func4
noncomputable abbrev F_millpondlaw14_PagesErr : Func := Go.Proofs.Try.f5
theorem func_millpondlaw14_PagesErr : P.funcs[fn_millpondlaw14_PagesErr]? = some F_millpondlaw14_PagesErr := Go.Proofs.Try.func5
noncomputable abbrev F_millpondlaw14_PagesMoves : Func := Go.Proofs.Try.f6
theorem func_millpondlaw14_PagesMoves : P.funcs[fn_millpondlaw14_PagesMoves]? = some F_millpondlaw14_PagesMoves := Go.Proofs.Try.func6
noncomputable abbrev F_millpondlaw14_PagesIds : Func := Go.Proofs.Try.f7
theorem func_millpondlaw14_PagesIds : P.funcs[fn_millpondlaw14_PagesIds]? = some F_millpondlaw14_PagesIds := Go.Proofs.Try.func7
noncomputable abbrev F_millpondlaw14_PagesRefs : Func := Go.Proofs.Try.f8
theorem func_millpondlaw14_PagesRefs : P.funcs[fn_millpondlaw14_PagesRefs]? = some F_millpondlaw14_PagesRefs := Go.Proofs.Try.func8
noncomputable abbrev F_millpondlaw14_PagesFields : Func := Go.Proofs.Try.f9
theorem func_millpondlaw14_PagesFields : P.funcs[fn_millpondlaw14_PagesFields]? = some F_millpondlaw14_PagesFields := Go.Proofs.Try.func9
def tauL : List K1 := [.one .raw, .one .raw, .one (.int .i64), .one (.int .i64), .one .bool, .one (.int .u8), .one (.int .u8), .agg [.int .i64, .int .i64, .bool, .int .u8], .agg
    [.int .i64, .int .i64, .bool, .int .u8], .one .str, .one .str, .one .str, .one (.int .u64), .agg [.str, .int .u64], .agg [.str, .int .u64], .one .ptr, .one .ptr, .one .ptr, .agg
    [.ptr], .agg [.ptr], .one .raw, .one (.int .i32), .one .slice, .agg [.int .i64, .int .i64], .agg [.int .i64, .int .i64], .one (.int .i64), .one .raw, .one .ptr, .one .raw, .one
    .ptr, .one .slice, .agg [.slice], .agg [.slice], .agg [.int .i64, .int .i64, .int .i64, .int .i64, .int .i64, .int .i64], .agg [.int .i64, .int .i64, .int .i64, .int .i64, .int
    .i64, .int .i64], .one (.int .i64), .one .raw, .one .raw, .one .raw, .one .raw, .one .raw, .one .raw, .one .raw, .one .raw, .agg [.int .i64, .int .i64, .int .i64, .int .i64,
    .int .i64, .int .i64, .int .i64, .bool, .bool], .agg [.int .i64, .int .i64, .int .i64, .int .i64, .int .i64, .int .i64, .int .i64, .bool, .bool], .one .raw, .one .raw, .one
    .raw, .one .raw, .one .raw, .one .slice, .one .raw, .one .raw, .one .raw, .one .raw, .one .raw, .one .slice, .one .raw, .one .raw, .one .raw, .one .raw, .one .map, .one .map,
    .one .map, .agg [.map, .map, .map, .int .i64], .agg [.map, .map, .map, .int .i64], .agg [.int .i64, .int .i64, .int .i64, .int .i64, .int .i64, .int .i64, .int .i64, .bool,
    .bool, .bool], .agg [.int .i64, .int .i64, .int .i64, .int .i64, .int .i64, .int .i64, .int .i64, .bool, .bool, .bool], .one .raw, .one .ptr, .one .raw, .agg [.int .i64, .int
    .i64], .agg [.int .i64, .int .i64], .one .raw, .one .raw, .one .raw, .one .raw, .one .raw, .one .raw, .one .raw, .one .raw, .one .raw, .one .raw, .one .raw, .one .raw, .one
    (.int .u64), .one .raw, .one (.int .i64), .one .raw, .one .raw, .one .raw, .one .raw, .one .raw, .one .raw, .one .raw, .one (.int .u32), .one .raw, .one (.int .u64), .one (.int
    .u64), .one .raw, .one .raw, .one .raw, .one .ptr, .one .raw, .one .ptr, .one .raw, .one .raw, .one .raw, .agg [.ptr, .ptr, .ptr, .str], .agg [.ptr, .ptr, .ptr, .str], .agg [],
    .agg [], .agg [], .one .raw, .one (.int .u8), .one (.int .u8), .one .raw, .one .ptr, .one (.int .i32), .one (.int .i32), .agg [.int .u64, .int .u64, .int .u32, .int .u8, .int
    .u8, .int .u8, .int .u8, .raw, .ptr, .int .i32, .int .i32], .agg [.int .u64, .int .u64, .int .u32, .int .u8, .int .u8, .int .u8, .int .u8, .raw, .ptr, .int .i32, .int .i32],
    .one .raw]
def tau (t : TypeId) : K1 := tauL.getD t (.one .raw)
def rhoL : List Kd := [.tup [], .k (.one .raw), .k (.one (.int .i64)), .k (.one (.int .i64)), .k (.one .bool), .k (.one (.int .u8)), .k (.one (.int .u8)), .k (.agg [.int .i64, .int
    .i64, .bool, .int .u8]), .k (.agg [.int .i64, .int .i64, .bool, .int .u8]), .k (.one .str), .k (.one .str), .k (.one .str), .k (.one (.int .u64)), .k (.agg [.str, .int .u64]),
    .k (.agg [.str, .int .u64]), .k (.one .ptr), .k (.one .ptr), .k (.one .ptr), .k (.agg [.ptr]), .k (.agg [.ptr]), .k (.one .raw), .k (.one (.int .i32)), .k (.one .slice), .k
    (.agg [.int .i64, .int .i64]), .k (.agg [.int .i64, .int .i64]), .k (.one (.int .i64)), .k (.one .raw), .k (.one .ptr), .k (.one .raw), .k (.one .ptr), .k (.one .slice), .k
    (.agg [.slice]), .k (.agg [.slice]), .k (.agg [.int .i64, .int .i64, .int .i64, .int .i64, .int .i64, .int .i64]), .k (.agg [.int .i64, .int .i64, .int .i64, .int .i64, .int
    .i64, .int .i64]), .k (.one (.int .i64)), .tup [.one (.int .i64), .one (.int .i64)], .k (.one .raw), .k (.one .raw), .k (.one .raw), .k (.one .raw), .k (.one .raw), .k (.one
    .raw), .k (.one .raw), .k (.agg [.int .i64, .int .i64, .int .i64, .int .i64, .int .i64, .int .i64, .int .i64, .bool, .bool]), .k (.agg [.int .i64, .int .i64, .int .i64, .int
    .i64, .int .i64, .int .i64, .int .i64, .bool, .bool]), .tup [.agg [.int .i64, .int .i64, .int .i64, .int .i64, .int .i64, .int .i64, .int .i64, .bool, .bool], .one (.int .i64)],
    .k (.one .raw), .k (.one .raw), .k (.one .raw), .k (.one .raw), .k (.one .slice), .k (.one .raw), .k (.one .raw), .k (.one .raw), .k (.one .raw), .k (.one .raw), .k (.one
    .slice), .k (.one .raw), .k (.one .raw), .k (.one .raw), .k (.one .raw), .k (.one .map), .k (.one .map), .k (.one .map), .k (.agg [.map, .map, .map, .int .i64]), .k (.agg [.map,
    .map, .map, .int .i64]), .k (.agg [.int .i64, .int .i64, .int .i64, .int .i64, .int .i64, .int .i64, .int .i64, .bool, .bool, .bool]), .k (.agg [.int .i64, .int .i64, .int .i64,
    .int .i64, .int .i64, .int .i64, .int .i64, .bool, .bool, .bool]), .k (.one .raw), .k (.one .ptr), .tup [.one (.int .i64), .one .bool], .k (.agg [.int .i64, .int .i64]), .k
    (.agg [.int .i64, .int .i64]), .k (.one .raw), .k (.one .raw), .k (.one .raw), .k (.one .raw), .k (.one .raw), .k (.one .raw), .k (.one .raw), .k (.one .raw), .k (.one .raw), .k
    (.one .raw), .k (.one .raw), .k (.one .raw), .k (.one (.int .u64)), .k (.one .raw), .k (.one (.int .i64)), .tup [.one (.int .i64), .one (.int .i64)], .k (.one .raw), .k (.one
    .raw), .k (.one .raw), .k (.one .raw), .k (.one .raw), .k (.one .raw), .k (.one (.int .u32)), .k (.one .raw), .k (.one (.int .u64)), .k (.one (.int .u64)), .k (.one .raw), .k
    (.one .raw), .k (.one .raw), .k (.one .ptr), .k (.one .raw), .k (.one .ptr), .tup [.one (.int .i64), .one (.int .i64)], .k (.one .raw), .k (.one .raw), .k (.agg [.ptr, .ptr,
    .ptr, .str]), .k (.agg [.ptr, .ptr, .ptr, .str]), .k (.agg []), .k (.agg []), .k (.agg []), .k (.one .raw), .k (.one (.int .u8)), .k (.one (.int .u8)), .k (.one .raw), .k (.one
    .ptr), .k (.one (.int .i32)), .k (.one (.int .i32)), .k (.agg [.int .u64, .int .u64, .int .u32, .int .u8, .int .u8, .int .u8, .int .u8, .raw, .ptr, .int .i32, .int .i32]), .k
    (.agg [.int .u64, .int .u64, .int .u32, .int .u8, .int .u8, .int .u8, .int .u8, .raw, .ptr, .int .i32, .int .i32]), .k (.one .raw)]
def rho (t : TypeId) : Kd := rhoL.getD t (.k (.one .raw))
def pan (f : FuncId) : Bool := [].contains f
theorem mixed : P.follows .mixedOrders = true := Checked.mixed Go.Proofs.Try.checked
end Go.Mp
