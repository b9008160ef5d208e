/- The names of this seat: functions by numbers, the kinds of types. Printed by vcprint.py. -/
import Derived.Test.YtkheedbjhboclaaProg
import Derived.Test.YtkheedbjhboclaaChecked
import Derived.Test.YtkheedbjhboclaaVcG
namespace Go.Mp
open Go Go.Vc
noncomputable abbrev P : Program := Go.Proofs.Try.prog
abbrev ty_int64 : TypeId := 2
abbrev ty_int : TypeId := 3
abbrev ty_bool : TypeId := 4
abbrev ty_uint8 : TypeId := 5
abbrev ty_abi_BoundsErrorCode : TypeId := 6
abbrev ty_runtime_boundsError : TypeId := 8
abbrev ty_string : TypeId := 9
abbrev ty_runtime_errorString : TypeId := 10
abbrev ty_runtime_plainError : TypeId := 11
abbrev ty_uintptr : TypeId := 12
abbrev ty_runtime_errorAddressString : TypeId := 14
abbrev ty_ptr_runtime_TypeAssertionError : TypeId := 15
abbrev ty_ptr_runtime_PanicNilError : TypeId := 16
abbrev ty_ptr_abi_Type : TypeId := 17
abbrev ty_maps_unhashableTypeError : TypeId := 19
abbrev ty_int32 : TypeId := 21
abbrev ty_sl_int : TypeId := 22
abbrev ty_sl_bool : TypeId := 23
abbrev ty_ptr_gens_Lists : TypeId := 25
abbrev ty_api_Errno : TypeId := 27
abbrev ty_sl_millpondlaw12_Act : TypeId := 32
abbrev ty_ptr_millpondref12_Lists : TypeId := 33
abbrev ty_sl_millpondref12_One : TypeId := 34
abbrev ty_millpondref12_Lists : TypeId := 36
abbrev ty_millpondlaw12_Act : TypeId := 39
abbrev ty_map_int_gens_one : TypeId := 50
abbrev ty_gens_Lists : TypeId := 52
abbrev ty_gens_one : TypeId := 54
abbrev ty_millpondref12_One : TypeId := 65
abbrev ty_uint : TypeId := 75
abbrev ty_slices_sortedHint : TypeId := 79
abbrev ty_uint32 : TypeId := 88
abbrev ty_uint64 : TypeId := 90
abbrev ty_slices_xorshift : TypeId := 91
abbrev ty_ptr_int : TypeId := 95
abbrev ty_ptr_slices_xorshift : TypeId := 97
abbrev ty_runtime_TypeAssertionError : TypeId := 101
abbrev ty_arr0_ptr_runtime_PanicNilError : TypeId := 102
abbrev ty_runtime_PanicNilError : TypeId := 104
abbrev ty_abi_TFlag : TypeId := 106
abbrev ty_abi_Kind : TypeId := 107
abbrev ty_ptr_uint8 : TypeId := 109
abbrev ty_abi_NameOff : TypeId := 110
abbrev ty_abi_TypeOff : TypeId := 111
abbrev ty_abi_Type : TypeId := 113
abbrev ty_unsafe_Pointer : TypeId := 114
abbrev fn_main_main : FuncId := 0
abbrev fn_gosem_cut : FuncId := 1
abbrev fn_gosem_cut_init : FuncId := 2
abbrev fn_millpondlaw12_GensOld : FuncId := 3
abbrev fn_millpondlaw12_GensDoes : FuncId := 4
abbrev fn_millpondlaw12_GensOrder : FuncId := 5
abbrev fn_millpondlaw12_GensAges : FuncId := 6
abbrev fn_millpondlaw12_GensTouch : FuncId := 7
abbrev fn_millpondlaw12_GensMoves : FuncId := 8
abbrev fn_millpondlaw12_works : FuncId := 9
abbrev fn_gens_New : FuncId := 10
abbrev fn_gens_Lists_Add : FuncId := 11
abbrev fn_gens_Lists_Oldness : FuncId := 12
abbrev fn_gens_Lists_Order : FuncId := 13
abbrev fn_gens_Lists_Count : FuncId := 14
abbrev fn_millpondlaw12_do : FuncId := 15
abbrev fn_millpondlaw12_same : FuncId := 16
abbrev fn_millpondref12_Lists_Get : FuncId := 17
abbrev fn_millpondref12_Lists_Count : FuncId := 18
abbrev fn_millpondlaw12_row : FuncId := 19
abbrev fn_millpondref12_Lists_Order : FuncId := 20
abbrev fn_gens_Lists_Group : FuncId := 21
abbrev fn_gens_Lists_Touch : FuncId := 22
abbrev fn_gens_Lists_Age : FuncId := 23
abbrev fn_gens_Lists_Move : FuncId := 24
abbrev fn_gens_Lists_Drop : FuncId := 25
abbrev fn_slices_DeleteFunc_int_int : FuncId := 26
abbrev fn_slices_Sorted_int : FuncId := 27
abbrev fn_maps_Keys_map_int_gens_one_int_gens_one : FuncId := 28
abbrev fn_gens_Lists_Order_1 : FuncId := 29
abbrev fn_slices_Contains_int_int : FuncId := 30
abbrev fn_slices_SortStableFunc_int_int : FuncId := 31
abbrev fn_gens_Lists_Order_2 : FuncId := 32
abbrev fn_cmp_Compare_int : FuncId := 33
abbrev fn_millpondref12_Lists_Drop : FuncId := 34
abbrev fn_millpondref12_Lists_Touch : FuncId := 35
abbrev fn_millpondref12_Lists_Age : FuncId := 36
abbrev fn_millpondref12_Lists_Move : FuncId := 37
abbrev fn_millpondref12_Lists_Add : FuncId := 38
abbrev fn_millpondref12_Lists_Find : FuncId := 39
abbrev fn_gens_Lists_each : FuncId := 40
abbrev fn_gens_Lists_Age_1 : FuncId := 41
abbrev fn_gens_Lists_Move_1 : FuncId := 42
abbrev fn_slices_IndexFunc_int_int : FuncId := 43
abbrev fn_slices_Collect_int : FuncId := 44
abbrev fn_slices_Sort_int_int : FuncId := 45
abbrev fn_maps_Keys_map_int_gens_one_int_gens_one_1 : FuncId := 46
abbrev fn_slices_Index_int_int : FuncId := 47
abbrev fn_slices_stableCmpFunc_int : FuncId := 48
abbrev fn_cmp_isNaN_int : FuncId := 49
abbrev fn_slices_AppendSeq_int_int : FuncId := 50
abbrev fn_slices_pdqsortOrdered_int : FuncId := 51
abbrev fn_math_bits_Len : FuncId := 52
abbrev fn_slices_insertionSortCmpFunc_int : FuncId := 53
abbrev fn_slices_symMergeCmpFunc_int : FuncId := 54
abbrev fn_slices_insertionSortOrdered_int : FuncId := 55
abbrev fn_slices_heapSortOrdered_int : FuncId := 56
abbrev fn_slices_breakPatternsOrdered_int : FuncId := 57
abbrev fn_slices_choosePivotOrdered_int : FuncId := 58
abbrev fn_slices_reverseRangeOrdered_int : FuncId := 59
abbrev fn_slices_partialInsertionSortOrdered_int : FuncId := 60
abbrev fn_cmp_Less_int : FuncId := 61
abbrev fn_slices_partitionEqualOrdered_int : FuncId := 62
abbrev fn_slices_partitionOrdered_int : FuncId := 63
abbrev fn_math_bits_Len32 : FuncId := 64
abbrev fn_math_bits_Len64 : FuncId := 65
abbrev fn_slices_rotateCmpFunc_int : FuncId := 66
abbrev fn_slices_siftDownOrdered_int : FuncId := 67
abbrev fn_slices_nextPowerOfTwo : FuncId := 68
abbrev fn_slices_xorshift_Next : FuncId := 69
abbrev fn_slices_medianAdjacentOrdered_int : FuncId := 70
abbrev fn_slices_medianOrdered_int : FuncId := 71
abbrev fn_slices_swapRangeCmpFunc_int : FuncId := 72
abbrev fn_slices_order2Ordered_int : FuncId := 73
abbrev fn_runtime_boundsError_Error : FuncId := 74
abbrev fn_runtime_boundsError_RuntimeError : FuncId := 75
abbrev fn_runtime_errorString_Error : FuncId := 76
abbrev fn_runtime_errorString_RuntimeError : FuncId := 77
abbrev fn_runtime_plainError_Error : FuncId := 78
abbrev fn_runtime_plainError_RuntimeError : FuncId := 79
abbrev fn_runtime_errorAddressString_Error : FuncId := 80
abbrev fn_runtime_errorAddressString_RuntimeError : FuncId := 81
abbrev fn_runtime_TypeAssertionError_Error : FuncId := 82
abbrev fn_runtime_TypeAssertionError_RuntimeError : FuncId := 83
abbrev fn_runtime_PanicNilError_Error : FuncId := 84
abbrev fn_runtime_PanicNilError_RuntimeError : FuncId := 85
abbrev fn_internal_abi_Type_Align : FuncId := 86
abbrev fn_internal_runtime_maps_unhashableTypeError_Error : FuncId := 87
abbrev fn_internal_runtime_maps_unhashableTypeError_RuntimeError : FuncId := 88
abbrev fn_api_Errno_Error : FuncId := 89
abbrev fn_internal_abi_Kind_String : FuncId := 90
noncomputable abbrev Chk : Checked := Go.Proofs.Try.checked
noncomputable abbrev F_millpondlaw12_GensOld : Func := Go.Proofs.Try.f3
theorem func_millpondlaw12_GensOld : P.funcs[fn_millpondlaw12_GensOld]? = some F_millpondlaw12_GensOld := Go.Proofs.Try.func3
noncomputable abbrev F_millpondlaw12_GensDoes : Func := Go.Proofs.Try.f4
theorem func_millpondlaw12_GensDoes : P.funcs[fn_millpondlaw12_GensDoes]? = some F_millpondlaw12_GensDoes := Go.Proofs.Try.func4
noncomputable abbrev F_millpondlaw12_GensOrder : Func := Go.Proofs.Try.f5
theorem func_millpondlaw12_GensOrder : P.funcs[fn_millpondlaw12_GensOrder]? = some F_millpondlaw12_GensOrder := Go.Proofs.Try.func5
noncomputable abbrev F_millpondlaw12_GensAges : Func := Go.Proofs.Try.f6
theorem func_millpondlaw12_GensAges : P.funcs[fn_millpondlaw12_GensAges]? = some F_millpondlaw12_GensAges := Go.Proofs.Try.func6
noncomputable abbrev F_millpondlaw12_GensTouch : Func := Go.Proofs.Try.f7
theorem func_millpondlaw12_GensTouch : P.funcs[fn_millpondlaw12_GensTouch]? = some F_millpondlaw12_GensTouch := Go.Proofs.Try.func7
noncomputable abbrev F_millpondlaw12_GensMoves : Func := Go.Proofs.Try.f8
theorem func_millpondlaw12_GensMoves : P.funcs[fn_millpondlaw12_GensMoves]? = some F_millpondlaw12_GensMoves := Go.Proofs.Try.func8
def tauL : List K1 := [.one .raw, .one .raw, .one (.int .i64), .one (.int .i64), .one .bool, .one (.int .u8), .one (.int .u8), .agg [.int .i64, .int .i64, .bool, .int .u8], .agg
    [.int .i64, .int .i64, .bool, .int .u8], .one .str, .one .str, .one .str, .one (.int .u64), .agg [.str, .int .u64], .agg [.str, .int .u64], .one .ptr, .one .ptr, .one .ptr, .agg
    [.ptr], .agg [.ptr], .one .raw, .one (.int .i32), .one .slice, .one .slice, .one .raw, .one .ptr, .one .raw, .one (.int .i64), .one .raw, .one .raw, .one .raw, .one .raw, .one
    .slice, .one .ptr, .one .slice, .agg [.slice], .agg [.slice], .one .raw, .agg [.int .i64, .int .i64, .int .i64, .bool], .agg [.int .i64, .int .i64, .int .i64, .bool], .one .raw,
    .one .raw, .one .raw, .one .raw, .one .raw, .one .raw, .one .raw, .one .raw, .one .raw, .one .raw, .one .map, .agg [.map], .agg [.map], .agg [.int .i64, .int .i64], .agg [.int
    .i64, .int .i64], .one .raw, .one .raw, .one .raw, .one .raw, .one .raw, .one .raw, .one .raw, .one .raw, .one .raw, .agg [.int .i64, .int .i64, .int .i64], .agg [.int .i64,
    .int .i64, .int .i64], .one .raw, .one .raw, .one .raw, .one .raw, .one .raw, .one .raw, .one .raw, .one .raw, .one .raw, .one (.int .u64), .one .raw, .one .raw, .one .raw, .one
    (.int .i64), .one .raw, .one .raw, .one .raw, .one .raw, .one .raw, .one .raw, .one .raw, .one .raw, .one (.int .u32), .one .raw, .one (.int .u64), .one (.int .u64), .one .raw,
    .one .raw, .one .raw, .one .ptr, .one .raw, .one .ptr, .one .raw, .one .raw, .agg [.ptr, .ptr, .ptr, .str], .agg [.ptr, .ptr, .ptr, .str], .agg [], .agg [], .agg [], .one .raw,
    .one (.int .u8), .one (.int .u8), .one .raw, .one .ptr, .one (.int .i32), .one (.int .i32), .agg [.int .u64, .int .u64, .int .u32, .int .u8, .int .u8, .int .u8, .int .u8, .raw,
    .ptr, .int .i32, .int .i32], .agg [.int .u64, .int .u64, .int .u32, .int .u8, .int .u8, .int .u8, .int .u8, .raw, .ptr, .int .i32, .int .i32], .one .raw]
def tau (t : TypeId) : K1 := tauL.getD t (.one .raw)
def rhoL : List Kd := [.tup [], .k (.one .raw), .k (.one (.int .i64)), .k (.one (.int .i64)), .k (.one .bool), .k (.one (.int .u8)), .k (.one (.int .u8)), .k (.agg [.int .i64, .int
    .i64, .bool, .int .u8]), .k (.agg [.int .i64, .int .i64, .bool, .int .u8]), .k (.one .str), .k (.one .str), .k (.one .str), .k (.one (.int .u64)), .k (.agg [.str, .int .u64]),
    .k (.agg [.str, .int .u64]), .k (.one .ptr), .k (.one .ptr), .k (.one .ptr), .k (.agg [.ptr]), .k (.agg [.ptr]), .k (.one .raw), .k (.one (.int .i32)), .k (.one .slice), .k
    (.one .slice), .k (.one .raw), .k (.one .ptr), .k (.one .raw), .k (.one (.int .i64)), .k (.one .raw), .k (.one .raw), .k (.one .raw), .k (.one .raw), .k (.one .slice), .k (.one
    .ptr), .k (.one .slice), .k (.agg [.slice]), .k (.agg [.slice]), .k (.one .raw), .k (.agg [.int .i64, .int .i64, .int .i64, .bool]), .k (.agg [.int .i64, .int .i64, .int .i64,
    .bool]), .k (.one .raw), .tup [.one (.int .i64), .one (.int .i64)], .k (.one .raw), .k (.one .raw), .k (.one .raw), .k (.one .raw), .k (.one .raw), .k (.one .raw), .k (.one
    .raw), .k (.one .raw), .k (.one .map), .k (.agg [.map]), .k (.agg [.map]), .k (.agg [.int .i64, .int .i64]), .k (.agg [.int .i64, .int .i64]), .tup [.agg [.int .i64, .int .i64],
    .one .bool], .k (.one .raw), .k (.one .raw), .k (.one .raw), .k (.one .raw), .k (.one .raw), .k (.one .raw), .k (.one .raw), .k (.one .raw), .k (.agg [.int .i64, .int .i64, .int
    .i64]), .k (.agg [.int .i64, .int .i64, .int .i64]), .k (.one .raw), .k (.one .raw), .k (.one .raw), .k (.one .raw), .k (.one .raw), .k (.one .raw), .k (.one .raw), .k (.one
    .raw), .k (.one .raw), .k (.one (.int .u64)), .k (.one .raw), .k (.one .raw), .k (.one .raw), .k (.one (.int .i64)), .tup [.one (.int .i64), .one (.int .i64)], .k (.one .raw),
    .k (.one .raw), .k (.one .raw), .k (.one .raw), .tup [.one (.int .i64), .one .bool], .k (.one .raw), .k (.one .raw), .k (.one (.int .u32)), .k (.one .raw), .k (.one (.int
    .u64)), .k (.one (.int .u64)), .k (.one .raw), .k (.one .raw), .k (.one .raw), .k (.one .ptr), .k (.one .raw), .k (.one .ptr), .k (.one .raw), .k (.one .raw), .k (.agg [.ptr,
    .ptr, .ptr, .str]), .k (.agg [.ptr, .ptr, .ptr, .str]), .k (.agg []), .k (.agg []), .k (.agg []), .k (.one .raw), .k (.one (.int .u8)), .k (.one (.int .u8)), .k (.one .raw), .k
    (.one .ptr), .k (.one (.int .i32)), .k (.one (.int .i32)), .k (.agg [.int .u64, .int .u64, .int .u32, .int .u8, .int .u8, .int .u8, .int .u8, .raw, .ptr, .int .i32, .int .i32]),
    .k (.agg [.int .u64, .int .u64, .int .u32, .int .u8, .int .u8, .int .u8, .int .u8, .raw, .ptr, .int .i32, .int .i32]), .k (.one .raw)]
def rho (t : TypeId) : Kd := rhoL.getD t (.k (.one .raw))
def pan (f : FuncId) : Bool := [].contains f
theorem mixed : P.follows .mixedOrders = true := Checked.mixed Go.Proofs.Try.checked
end Go.Mp
