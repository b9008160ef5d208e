/- The names of this seat: functions by numbers, the kinds of types. Printed by vcprint.py. -/
import Derived.Test.YtdlmhicackopnaaProg
import Derived.Test.YtdlmhicackopnaaChecked
import Derived.Test.YtdlmhicackopnaaVcG
namespace Go.Mp
open Go Go.Vc
noncomputable abbrev P : Program := Go.Proofs.Try.prog
abbrev ty_int64 : TypeId := 2
abbrev ty_int : TypeId := 3
abbrev ty_bool : TypeId := 4
abbrev ty_uint8 : TypeId := 5
abbrev ty_abi_BoundsErrorCode : TypeId := 6
abbrev ty_runtime_boundsError : TypeId := 8
abbrev ty_string : TypeId := 9
abbrev ty_runtime_errorString : TypeId := 10
abbrev ty_runtime_plainError : TypeId := 11
abbrev ty_uintptr : TypeId := 12
abbrev ty_runtime_errorAddressString : TypeId := 14
abbrev ty_ptr_runtime_TypeAssertionError : TypeId := 15
abbrev ty_ptr_runtime_PanicNilError : TypeId := 16
abbrev ty_ptr_abi_Type : TypeId := 17
abbrev ty_maps_unhashableTypeError : TypeId := 19
abbrev ty_int32 : TypeId := 21
abbrev ty_sl_millpondlaw03_Act : TypeId := 22
abbrev ty_ptr_bytes_Store : TypeId := 24
abbrev ty_ptr_millpondref03_Store : TypeId := 26
abbrev ty_millpondlaw03_Act : TypeId := 29
abbrev ty_api_Errno : TypeId := 30
abbrev ty_sl_uint8 : TypeId := 41
abbrev ty_millpondref03_Store : TypeId := 43
abbrev ty_sl_bytes_page : TypeId := 48
abbrev ty_bytes_Store : TypeId := 50
abbrev ty_ptr_bytes_page : TypeId := 52
abbrev ty_arr16_uint8 : TypeId := 54
abbrev ty_bytes_page : TypeId := 55
abbrev ty_runtime_TypeAssertionError : TypeId := 58
abbrev ty_arr0_ptr_runtime_PanicNilError : TypeId := 59
abbrev ty_runtime_PanicNilError : TypeId := 61
abbrev ty_uint32 : TypeId := 62
abbrev ty_abi_TFlag : TypeId := 63
abbrev ty_abi_Kind : TypeId := 64
abbrev ty_ptr_uint8 : TypeId := 66
abbrev ty_abi_NameOff : TypeId := 67
abbrev ty_abi_TypeOff : TypeId := 68
abbrev ty_abi_Type : TypeId := 70
abbrev ty_unsafe_Pointer : TypeId := 71
abbrev fn_main_main : FuncId := 0
abbrev fn_gosem_cut : FuncId := 1
abbrev fn_gosem_cut_init : FuncId := 2
abbrev fn_millpondlaw03_BytesDoes : FuncId := 3
abbrev fn_millpondlaw03_BytesLast : FuncId := 4
abbrev fn_millpondlaw03_BytesMoves : FuncId := 5
abbrev fn_millpondlaw03_BytesByte : FuncId := 6
abbrev fn_millpondlaw03_works : FuncId := 7
abbrev fn_bytes_New : FuncId := 8
abbrev fn_millpondref03_New : FuncId := 9
abbrev fn_millpondref03_Store_Write : FuncId := 10
abbrev fn_millpondref03_Store_Put : FuncId := 11
abbrev fn_millpondref03_Store_Move : FuncId := 12
abbrev fn_millpondref03_Store_Clear : FuncId := 13
abbrev fn_millpondlaw03_do : FuncId := 14
abbrev fn_bytes_Store_Read : FuncId := 15
abbrev fn_millpondref03_Store_Read : FuncId := 16
abbrev fn_bytes_Store_Get : FuncId := 17
abbrev fn_millpondref03_Store_Get : FuncId := 18
abbrev fn_bytes_Store_Len : FuncId := 19
abbrev fn_bytes_Store_Write : FuncId := 20
abbrev fn_bytes_Store_Put : FuncId := 21
abbrev fn_bytes_Store_Move : FuncId := 22
abbrev fn_millpondref03_Store_page : FuncId := 23
abbrev fn_bytes_Store_Clear : FuncId := 24
abbrev fn_bytes_Store_at : FuncId := 25
abbrev fn_runtime_boundsError_Error : FuncId := 26
abbrev fn_runtime_boundsError_RuntimeError : FuncId := 27
abbrev fn_runtime_errorString_Error : FuncId := 28
abbrev fn_runtime_errorString_RuntimeError : FuncId := 29
abbrev fn_runtime_plainError_Error : FuncId := 30
abbrev fn_runtime_plainError_RuntimeError : FuncId := 31
abbrev fn_runtime_errorAddressString_Error : FuncId := 32
abbrev fn_runtime_errorAddressString_RuntimeError : FuncId := 33
abbrev fn_runtime_TypeAssertionError_Error : FuncId := 34
abbrev fn_runtime_TypeAssertionError_RuntimeError : FuncId := 35
abbrev fn_runtime_PanicNilError_Error : FuncId := 36
abbrev fn_runtime_PanicNilError_RuntimeError : FuncId := 37
abbrev fn_internal_abi_Type_Align : FuncId := 38
abbrev fn_internal_runtime_maps_unhashableTypeError_Error : FuncId := 39
abbrev fn_internal_runtime_maps_unhashableTypeError_RuntimeError : FuncId := 40
abbrev fn_api_Errno_Error : FuncId := 41
abbrev fn_internal_abi_Kind_String : FuncId := 42
noncomputable abbrev Chk : Checked := Go.Proofs.Try.checked
noncomputable abbrev F_millpondlaw03_BytesDoes : Func := Go.Proofs.Try.f3
theorem func_millpondlaw03_BytesDoes : P.funcs[fn_millpondlaw03_BytesDoes]? = some F_millpondlaw03_BytesDoes := Go.Proofs.Try.func3
noncomputable abbrev F_millpondlaw03_BytesLast : Func := Go.Proofs.Try.f4
theorem func_millpondlaw03_BytesLast : P.funcs[fn_millpondlaw03_BytesLast]? = some F_millpondlaw03_BytesLast := Go.Proofs.Try.func4
noncomputable abbrev F_millpondlaw03_BytesMoves : Func := Go.Proofs.Try.f5
theorem func_millpondlaw03_BytesMoves : P.funcs[fn_millpondlaw03_BytesMoves]? = some F_millpondlaw03_BytesMoves := Go.Proofs.Try.func5
noncomputable abbrev F_millpondlaw03_BytesByte : Func := Go.Proofs.Try.f6
theorem func_millpondlaw03_BytesByte : P.funcs[fn_millpondlaw03_BytesByte]? = some F_millpondlaw03_BytesByte := Go.Proofs.Try.func6
def tauL : List K1 := [.one .raw, .one .raw, .one (.int .i64), .one (.int .i64), .one .bool, .one (.int .u8), .one (.int .u8), .agg [.int .i64, .int .i64, .bool, .int .u8], .agg
    [.int .i64, .int .i64, .bool, .int .u8], .one .str, .one .str, .one .str, .one (.int .u64), .agg [.str, .int .u64], .agg [.str, .int .u64], .one .ptr, .one .ptr, .one .ptr, .agg
    [.ptr], .agg [.ptr], .one .raw, .one (.int .i32), .one .slice, .one .raw, .one .ptr, .one .raw, .one .ptr, .one .raw, .agg [.int .i64, .int .i64, .int .i64, .int .u8, .str],
    .agg [.int .i64, .int .i64, .int .i64, .int .u8, .str], .one (.int .i64), .one .raw, .one .raw, .one .raw, .one .raw, .one .raw, .one .raw, .one .raw, .one .raw, .one .raw, .one
    .raw, .one .slice, .agg [.slice], .agg [.slice], .one .raw, .one .raw, .one .raw, .one .raw, .one .slice, .agg [.slice], .agg [.slice], .one .raw, .one .ptr, .one .raw, .arr 16
    .u8, .arr 16 .u8, .one .raw, .agg [.ptr, .ptr, .ptr, .str], .agg [.ptr, .ptr, .ptr, .str], .agg [], .agg [], .agg [], .one (.int .u32), .one (.int .u8), .one (.int .u8), .one
    .raw, .one .ptr, .one (.int .i32), .one (.int .i32), .agg [.int .u64, .int .u64, .int .u32, .int .u8, .int .u8, .int .u8, .int .u8, .raw, .ptr, .int .i32, .int .i32], .agg [.int
    .u64, .int .u64, .int .u32, .int .u8, .int .u8, .int .u8, .int .u8, .raw, .ptr, .int .i32, .int .i32], .one .raw]
def tau (t : TypeId) : K1 := tauL.getD t (.one .raw)
def rhoL : List Kd := [.tup [], .k (.one .raw), .k (.one (.int .i64)), .k (.one (.int .i64)), .k (.one .bool), .k (.one (.int .u8)), .k (.one (.int .u8)), .k (.agg [.int .i64, .int
    .i64, .bool, .int .u8]), .k (.agg [.int .i64, .int .i64, .bool, .int .u8]), .k (.one .str), .k (.one .str), .k (.one .str), .k (.one (.int .u64)), .k (.agg [.str, .int .u64]),
    .k (.agg [.str, .int .u64]), .k (.one .ptr), .k (.one .ptr), .k (.one .ptr), .k (.agg [.ptr]), .k (.agg [.ptr]), .k (.one .raw), .k (.one (.int .i32)), .k (.one .slice), .k
    (.one .raw), .k (.one .ptr), .k (.one .raw), .k (.one .ptr), .k (.one .raw), .k (.agg [.int .i64, .int .i64, .int .i64, .int .u8, .str]), .k (.agg [.int .i64, .int .i64, .int
    .i64, .int .u8, .str]), .k (.one (.int .i64)), .k (.one .raw), .k (.one .raw), .k (.one .raw), .k (.one .raw), .k (.one .raw), .tup [.one .str, .one (.int .i64)], .k (.one
    .raw), .tup [.one (.int .u8), .one (.int .i64)], .k (.one .raw), .k (.one .raw), .k (.one .slice), .k (.agg [.slice]), .k (.agg [.slice]), .k (.one .raw), .k (.one .raw), .k
    (.one .raw), .k (.one .raw), .k (.one .slice), .k (.agg [.slice]), .k (.agg [.slice]), .k (.one .raw), .k (.one .ptr), .k (.one .raw), .k (.arr 16 .u8), .k (.arr 16 .u8), .k
    (.one .raw), .k (.agg [.ptr, .ptr, .ptr, .str]), .k (.agg [.ptr, .ptr, .ptr, .str]), .k (.agg []), .k (.agg []), .k (.agg []), .k (.one (.int .u32)), .k (.one (.int .u8)), .k
    (.one (.int .u8)), .k (.one .raw), .k (.one .ptr), .k (.one (.int .i32)), .k (.one (.int .i32)), .k (.agg [.int .u64, .int .u64, .int .u32, .int .u8, .int .u8, .int .u8, .int
    .u8, .raw, .ptr, .int .i32, .int .i32]), .k (.agg [.int .u64, .int .u64, .int .u32, .int .u8, .int .u8, .int .u8, .int .u8, .raw, .ptr, .int .i32, .int .i32]), .k (.one .raw)]
def rho (t : TypeId) : Kd := rhoL.getD t (.k (.one .raw))
def pan (f : FuncId) : Bool := [].contains f
theorem mixed : P.follows .mixedOrders = true := Checked.mixed Go.Proofs.Try.checked
end Go.Mp
