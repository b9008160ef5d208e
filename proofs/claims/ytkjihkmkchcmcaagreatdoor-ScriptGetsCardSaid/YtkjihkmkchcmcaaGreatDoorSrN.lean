/- The names of this seat: functions by numbers, the kinds of types. Printed by vcprint.py. -/
import Derived.Test.YtkjihkmkchcmcaaGreatDoorProg
import Derived.Test.YtkjihkmkchcmcaaGreatDoorChecked
import Derived.Test.YtkjihkmkchcmcaaGreatDoorVcG
namespace Go.Mp
open Go Go.Vc
noncomputable abbrev P : Program := Go.Proofs.Tryz.prog
abbrev ty_int64 : TypeId := 2
abbrev ty_int : TypeId := 3
abbrev ty_bool : TypeId := 4
abbrev ty_uint8 : TypeId := 5
abbrev ty_abi_BoundsErrorCode : TypeId := 6
abbrev ty_runtime_boundsError : TypeId := 8
abbrev ty_string : TypeId := 9
abbrev ty_runtime_errorString : TypeId := 10
abbrev ty_runtime_plainError : TypeId := 11
abbrev ty_uintptr : TypeId := 12
abbrev ty_runtime_errorAddressString : TypeId := 14
abbrev ty_ptr_runtime_TypeAssertionError : TypeId := 15
abbrev ty_ptr_runtime_PanicNilError : TypeId := 16
abbrev ty_ptr_abi_Type : TypeId := 17
abbrev ty_maps_unhashableTypeError : TypeId := 19
abbrev ty_int32 : TypeId := 21
abbrev ty_sl_api_Op : TypeId := 22
abbrev ty_api_OpKind : TypeId := 23
abbrev ty_api_Op : TypeId := 25
abbrev ty_sl_uint8 : TypeId := 27
abbrev ty_api_Errno : TypeId := 28
abbrev ty_sl_api_Answer : TypeId := 42
abbrev ty_sl_int : TypeId := 45
abbrev ty_api_Answer : TypeId := 47
abbrev ty_ptr_int : TypeId := 57
abbrev ty_arr4_ptr_int : TypeId := 58
abbrev ty_ptr_vm_VM : TypeId := 61
abbrev ty_uint : TypeId := 64
abbrev ty_ptr_core_Core : TypeId := 65
abbrev ty_sl_vm_proc : TypeId := 67
abbrev ty_vm_VM : TypeId := 69
abbrev ty_ptr_space_Space : TypeId := 76
abbrev ty_ptr_vm_call : TypeId := 78
abbrev ty_vm_call : TypeId := 80
abbrev ty_ptr_tree_Tree : TypeId := 81
abbrev ty_ptr_pool_Pool : TypeId := 83
abbrev ty_ptr_bytes_Store : TypeId := 84
abbrev ty_ptr_counter_Counter : TypeId := 85
abbrev ty_core_store : TypeId := 87
abbrev ty_ptr_files_Store : TypeId := 89
abbrev ty_ptr_gens_Lists : TypeId := 91
abbrev ty_ptr_shadow_Log : TypeId := 93
abbrev ty_ptr_pages_Table : TypeId := 95
abbrev ty_map_int_uint64 : TypeId := 97
abbrev ty_sl_core_guard : TypeId := 98
abbrev ty_core_Core : TypeId := 100
abbrev ty_vm_proc : TypeId := 102
abbrev ty_tree_group : TypeId := 104
abbrev ty_sl_tree_group : TypeId := 105
abbrev ty_tree_Tree : TypeId := 107
abbrev ty_map_api_Key_string : TypeId := 111
abbrev ty_files_Store : TypeId := 113
abbrev ty_map_int_gens_one : TypeId := 114
abbrev ty_gens_Lists : TypeId := 116
abbrev ty_shadow_count : TypeId := 118
abbrev ty_arr64_shadow_count : TypeId := 119
abbrev ty_shadow_Log : TypeId := 121
abbrev ty_map_int_ptr_api_Page : TypeId := 122
abbrev ty_map_api_Key_int : TypeId := 123
abbrev ty_map_pages_spot_int : TypeId := 124
abbrev ty_pages_Table : TypeId := 126
abbrev ty_api_Kind : TypeId := 137
abbrev ty_api_Region : TypeId := 139
abbrev ty_api_Entry : TypeId := 146
abbrev ty_ptr_bits_Map : TypeId := 158
abbrev ty_pool_Pool : TypeId := 161
abbrev ty_sl_bytes_page : TypeId := 162
abbrev ty_bytes_Store : TypeId := 164
abbrev ty_counter_count : TypeId := 166
abbrev ty_arr64_counter_count : TypeId := 167
abbrev ty_counter_Counter : TypeId := 169
abbrev ty_core_guard : TypeId := 171
abbrev ty_arr2_ptr_counter_Counter : TypeId := 173
abbrev ty_ptr_core_guard : TypeId := 175
abbrev ty_ptr_radix_Table : TypeId := 176
abbrev ty_sl_api_Region : TypeId := 178
abbrev ty_space_Space : TypeId := 180
abbrev ty_sl_bool : TypeId := 181
abbrev ty_uint64 : TypeId := 191
abbrev ty_api_Key : TypeId := 200
abbrev ty_api_Place : TypeId := 206
abbrev ty_api_Page : TypeId := 208
abbrev ty_sl_uint64 : TypeId := 218
abbrev ty_bits_Map : TypeId := 220
abbrev ty_ptr_api_Page : TypeId := 222
abbrev ty_gens_one : TypeId := 227
abbrev ty_ptr_radix_node : TypeId := 233
abbrev ty_arr16_ptr_radix_node : TypeId := 234
abbrev ty_arr16_uint64 : TypeId := 235
abbrev ty_uint16 : TypeId := 236
abbrev ty_radix_node : TypeId := 238
abbrev ty_radix_Table : TypeId := 240
abbrev ty_sl_protect_Node : TypeId := 242
abbrev ty_protect_Node : TypeId := 244
abbrev ty_ptr_bytes_page : TypeId := 266
abbrev ty_pages_spot : TypeId := 277
abbrev ty_arr64_bool : TypeId := 281
abbrev ty_sl_share_rest : TypeId := 289
abbrev ty_share_rest : TypeId := 294
abbrev ty_sl_victim_Proc : TypeId := 307
abbrev ty_arr16_uint8 : TypeId := 315
abbrev ty_bytes_page : TypeId := 316
abbrev ty_error : TypeId := 321
abbrev ty_victim_Proc : TypeId := 335
abbrev ty_ptr_counter_count : TypeId := 347
abbrev ty_slices_sortedHint : TypeId := 351
abbrev ty_uint32 : TypeId := 359
abbrev ty_slices_xorshift : TypeId := 360
abbrev ty_arr64_uint8 : TypeId := 365
abbrev ty_ptr_slices_xorshift : TypeId := 366
abbrev ty_runtime_TypeAssertionError : TypeId := 370
abbrev ty_arr0_ptr_runtime_PanicNilError : TypeId := 371
abbrev ty_runtime_PanicNilError : TypeId := 373
abbrev ty_abi_TFlag : TypeId := 374
abbrev ty_abi_Kind : TypeId := 375
abbrev ty_ptr_uint8 : TypeId := 377
abbrev ty_abi_NameOff : TypeId := 378
abbrev ty_abi_TypeOff : TypeId := 379
abbrev ty_abi_Type : TypeId := 381
abbrev ty_unsafe_Pointer : TypeId := 382
abbrev fn_main_main : FuncId := 0
abbrev fn_gosem_cut : FuncId := 1
abbrev fn_gosem_cut_init : FuncId := 2
abbrev fn_millpondlaw20_ScriptPuts : FuncId := 3
abbrev fn_millpondlaw20_ScriptGets : FuncId := 4
abbrev fn_millpondlaw20_ScriptBack : FuncId := 5
abbrev fn_millpondlaw20_ScriptSizes : FuncId := 6
abbrev fn_millpondlaw20_ScriptBad : FuncId := 7
abbrev fn_millpondlaw20_works : FuncId := 8
abbrev fn_script_Put : FuncId := 9
abbrev fn_millpondref20_Put : FuncId := 10
abbrev fn_script_Size : FuncId := 11
abbrev fn_millpondref20_One : FuncId := 12
abbrev fn_script_Get : FuncId := 13
abbrev fn_millpondref20_Get : FuncId := 14
abbrev fn_script_Play : FuncId := 15
abbrev fn_script_one : FuncId := 16
abbrev fn_millpondref20_number : FuncId := 17
abbrev fn_script_take : FuncId := 18
abbrev fn_millpondref20_take : FuncId := 19
abbrev fn_vm_Run : FuncId := 20
abbrev fn_script_number : FuncId := 21
abbrev fn_script_put : FuncId := 22
abbrev fn_script_get : FuncId := 23
abbrev fn_vm_New : FuncId := 24
abbrev fn_vm_VM_Do : FuncId := 25
abbrev fn_core_New : FuncId := 26
abbrev fn_vm_machines : FuncId := 27
abbrev fn_vm_calls : FuncId := 28
abbrev fn_vm_VM_Space : FuncId := 29
abbrev fn_tree_New : FuncId := 30
abbrev fn_core_newStore : FuncId := 31
abbrev fn_files_New : FuncId := 32
abbrev fn_gens_New : FuncId := 33
abbrev fn_shadow_New : FuncId := 34
abbrev fn_pages_New : FuncId := 35
abbrev fn_vm_VM_group : FuncId := 36
abbrev fn_vm_VM_remove : FuncId := 37
abbrev fn_vm_VM_limit : FuncId := 38
abbrev fn_vm_VM_spawn : FuncId := 39
abbrev fn_vm_VM_age : FuncId := 40
abbrev fn_vm_VM_shrink : FuncId := 41
abbrev fn_vm_call_attach : FuncId := 42
abbrev fn_vm_call_exit : FuncId := 43
abbrev fn_vm_call_mapOwn : FuncId := 44
abbrev fn_vm_call_mapFile : FuncId := 45
abbrev fn_vm_call_unmap : FuncId := 46
abbrev fn_vm_call_load : FuncId := 47
abbrev fn_vm_call_store : FuncId := 48
abbrev fn_vm_call_fork : FuncId := 49
abbrev fn_pool_New : FuncId := 50
abbrev fn_bytes_New : FuncId := 51
abbrev fn_counter_New : FuncId := 52
abbrev fn_core_Core_AddGroup : FuncId := 53
abbrev fn_core_Core_Tree : FuncId := 54
abbrev fn_tree_Tree_Live : FuncId := 55
abbrev fn_core_Core_Remove : FuncId := 56
abbrev fn_core_Core_Limit : FuncId := 57
abbrev fn_vm_VM_add : FuncId := 58
abbrev fn_space_New : FuncId := 59
abbrev fn_core_Core_Age : FuncId := 60
abbrev fn_core_Core_Shrink : FuncId := 61
abbrev fn_vm_VM_exit : FuncId := 62
abbrev fn_vm_call_right : FuncId := 63
abbrev fn_space_Space_Map : FuncId := 64
abbrev fn_core_Core_Files : FuncId := 65
abbrev fn_core_Core_FileSize : FuncId := 66
abbrev fn_space_Space_Cut : FuncId := 67
abbrev fn_vm_VM_letGo : FuncId := 68
abbrev fn_vm_call_where : FuncId := 69
abbrev fn_space_Space_Entry : FuncId := 70
abbrev fn_vm_call_there : FuncId := 71
abbrev fn_core_Core_Get : FuncId := 72
abbrev fn_space_Space_Touch : FuncId := 73
abbrev fn_vm_call_store_1 : FuncId := 74
abbrev fn_vm_call_own : FuncId := 75
abbrev fn_vm_call_store_2 : FuncId := 76
abbrev fn_core_Core_Put : FuncId := 77
abbrev fn_space_Space_Clone : FuncId := 78
abbrev fn_space_Space_IDs : FuncId := 79
abbrev fn_core_Core_Refer : FuncId := 80
abbrev fn_bits_New : FuncId := 81
abbrev fn_tree_Tree_Add : FuncId := 82
abbrev fn_tree_Tree_Parent : FuncId := 83
abbrev fn_tree_Tree_Remove : FuncId := 84
abbrev fn_pages_Table_Those : FuncId := 85
abbrev fn_pages_Table_Own : FuncId := 86
abbrev fn_gens_Lists_Move : FuncId := 87
abbrev fn_counter_Counter_Give : FuncId := 88
abbrev fn_counter_Counter_Use : FuncId := 89
abbrev fn_counter_Counter_SetLimit : FuncId := 90
abbrev fn_radix_New : FuncId := 91
abbrev fn_tree_Tree_Below : FuncId := 92
abbrev fn_gens_Lists_Age : FuncId := 93
abbrev fn_core_Core_held : FuncId := 94
abbrev fn_core_mins : FuncId := 95
abbrev fn_core_lows : FuncId := 96
abbrev fn_gens_Lists_Count : FuncId := 97
abbrev fn_share_Capped : FuncId := 98
abbrev fn_core_Core_evict : FuncId := 99
abbrev fn_core_Core_Evict : FuncId := 100
abbrev fn_vm_call_right_1 : FuncId := 101
abbrev fn_region_Add : FuncId := 102
abbrev fn_files_Store_Count : FuncId := 103
abbrev fn_files_Store_Size : FuncId := 104
abbrev fn_space_Space_ids : FuncId := 105
abbrev fn_radix_Table_Walk : FuncId := 106
abbrev fn_radix_Table_Drop : FuncId := 107
abbrev fn_region_Cut : FuncId := 108
abbrev fn_space_Space_Where : FuncId := 109
abbrev fn_radix_Table_Get : FuncId := 110
abbrev fn_entry_Unpack : FuncId := 111
abbrev fn_vm_call_bring : FuncId := 112
abbrev fn_vm_call_try : FuncId := 113
abbrev fn_vm_call_there_1 : FuncId := 114
abbrev fn_core_Core_Open : FuncId := 115
abbrev fn_region_Key : FuncId := 116
abbrev fn_vm_call_enter : FuncId := 117
abbrev fn_core_Core_here : FuncId := 118
abbrev fn_bytes_Store_Get : FuncId := 119
abbrev fn_gens_Lists_Touch : FuncId := 120
abbrev fn_radix_Table_Set : FuncId := 121
abbrev fn_entry_Touch : FuncId := 122
abbrev fn_core_Core_Page : FuncId := 123
abbrev fn_vm_call_own_1 : FuncId := 124
abbrev fn_core_Core_Copy : FuncId := 125
abbrev fn_core_Core_Fresh : FuncId := 126
abbrev fn_bytes_Store_Put : FuncId := 127
abbrev fn_pages_Table_Mark : FuncId := 128
abbrev fn_slices_Clone_api_Region_api_Region : FuncId := 129
abbrev fn_radix_Table_Clone : FuncId := 130
abbrev fn_pages_Table_Refer : FuncId := 131
abbrev fn_pages_Table_Get : FuncId := 132
abbrev fn_tree_Tree_Chain : FuncId := 133
abbrev fn_core_Core_clean : FuncId := 134
abbrev fn_core_store_give : FuncId := 135
abbrev fn_gens_Lists_Drop : FuncId := 136
abbrev fn_pages_Table_Put : FuncId := 137
abbrev fn_pages_Table_Drop : FuncId := 138
abbrev fn_tree_Tree_Depth : FuncId := 139
abbrev fn_tree_Tree_Kids : FuncId := 140
abbrev fn_slices_DeleteFunc_int_int : FuncId := 141
abbrev fn_pages_Table_All : FuncId := 142
abbrev fn_pages_Table_Those_1 : FuncId := 143
abbrev fn_pages_Table_change : FuncId := 144
abbrev fn_pages_Table_Own_1 : FuncId := 145
abbrev fn_gens_Lists_each : FuncId := 146
abbrev fn_gens_Lists_Move_1 : FuncId := 147
abbrev fn_counter_right : FuncId := 148
abbrev fn_counter_Counter_first : FuncId := 149
abbrev fn_counter_Counter_Give_1 : FuncId := 150
abbrev fn_counter_Counter_of : FuncId := 151
abbrev fn_counter_group : FuncId := 152
abbrev fn_counter_amount : FuncId := 153
abbrev fn_tree_Tree_those : FuncId := 154
abbrev fn_tree_Tree_Below_1 : FuncId := 155
abbrev fn_slices_Contains_int_int : FuncId := 156
abbrev fn_gens_Lists_Age_1 : FuncId := 157
abbrev fn_core_Core_Memory : FuncId := 158
abbrev fn_protect_Effective : FuncId := 159
abbrev fn_protect_Held : FuncId := 160
abbrev fn_share_right : FuncId := 161
abbrev fn_slices_Clone_int_int : FuncId := 162
abbrev fn_share_Sum : FuncId := 163
abbrev fn_share_Split : FuncId := 164
abbrev fn_gens_Lists_Order : FuncId := 165
abbrev fn_core_Core_evict_1 : FuncId := 166
abbrev fn_core_Core_out : FuncId := 167
abbrev fn_core_Core_evict_2 : FuncId := 168
abbrev fn_core_Core_evict_3 : FuncId := 169
abbrev fn_region_Right : FuncId := 170
abbrev fn_region_Valid : FuncId := 171
abbrev fn_slices_IndexFunc_api_Region_api_Region : FuncId := 172
abbrev fn_region_Add_1 : FuncId := 173
abbrev fn_radix_Table_all : FuncId := 174
abbrev fn_radix_node_drop : FuncId := 175
abbrev fn_region_Cut_1 : FuncId := 176
abbrev fn_region_part : FuncId := 177
abbrev fn_region_Find : FuncId := 178
abbrev fn_radix_right : FuncId := 179
abbrev fn_radix_digit : FuncId := 180
abbrev fn_bits_Unpack : FuncId := 181
abbrev fn_entry_widths : FuncId := 182
abbrev fn_entry_right : FuncId := 183
abbrev fn_vm_call_bring_1 : FuncId := 184
abbrev fn_core_Core_Bring : FuncId := 185
abbrev fn_vm_call_kill : FuncId := 186
abbrev fn_files_Store_Read : FuncId := 187
abbrev fn_pages_Table_Of : FuncId := 188
abbrev fn_pages_Table_Make : FuncId := 189
abbrev fn_space_Space_Set : FuncId := 190
abbrev fn_bytes_Store_at : FuncId := 191
abbrev fn_entry_some : FuncId := 192
abbrev fn_core_Core_with : FuncId := 193
abbrev fn_core_Core_text : FuncId := 194
abbrev fn_pages_Table_Mark_1 : FuncId := 195
abbrev fn_slices_Collect_int : FuncId := 196
abbrev fn_tree_Tree_up : FuncId := 197
abbrev fn_files_Store_Write : FuncId := 198
abbrev fn_bytes_Store_Clear : FuncId := 199
abbrev fn_pool_Pool_Give : FuncId := 200
abbrev fn_pages_Table_At : FuncId := 201
abbrev fn_tree_Tree_Kids_1 : FuncId := 202
abbrev fn_slices_IndexFunc_int_int : FuncId := 203
abbrev fn_slices_Sorted_int : FuncId := 204
abbrev fn_maps_Keys_map_int_api_Page_int_api_Page : FuncId := 205
abbrev fn_slices_Index_int_int : FuncId := 206
abbrev fn_protect_Valid : FuncId := 207
abbrev fn_protect_Node_own : FuncId := 208
abbrev fn_protect_below : FuncId := 209
abbrev fn_protect_part : FuncId := 210
abbrev fn_protect_right : FuncId := 211
abbrev fn_protect_up : FuncId := 212
abbrev fn_share_right_1 : FuncId := 213
abbrev fn_slices_ContainsFunc_int_int : FuncId := 214
abbrev fn_math_bits_Mul64 : FuncId := 215
abbrev fn_math_bits_Div64 : FuncId := 216
abbrev fn_slices_SortStableFunc_share_rest_share_rest : FuncId := 217
abbrev fn_share_Split_1 : FuncId := 218
abbrev fn_cmp_Compare_uint64 : FuncId := 219
abbrev fn_maps_Keys_map_int_gens_one_int_gens_one : FuncId := 220
abbrev fn_gens_Lists_Order_1 : FuncId := 221
abbrev fn_slices_SortStableFunc_int_int : FuncId := 222
abbrev fn_gens_Lists_Order_2 : FuncId := 223
abbrev fn_cmp_Compare_int : FuncId := 224
abbrev fn_core_Core_away : FuncId := 225
abbrev fn_shadow_Log_Went : FuncId := 226
abbrev fn_radix_node_pages : FuncId := 227
abbrev fn_region_Find_1 : FuncId := 228
abbrev fn_bits_right : FuncId := 229
abbrev fn_bits_mask : FuncId := 230
abbrev fn_core_Core_take : FuncId := 231
abbrev fn_shadow_Log_Came : FuncId := 232
abbrev fn_core_Core_place : FuncId := 233
abbrev fn_victim_Doomed : FuncId := 234
abbrev fn_vm_VM_Procs : FuncId := 235
abbrev fn_core_Core_Whole : FuncId := 236
abbrev fn_files_Store_has : FuncId := 237
abbrev fn_files_First : FuncId := 238
abbrev fn_entry_Pack : FuncId := 239
abbrev fn_bytes_Store_Read : FuncId := 240
abbrev fn_slices_AppendSeq_int_int : FuncId := 241
abbrev fn_tree_Tree_up_1 : FuncId := 242
abbrev fn_bits_Map_Len : FuncId := 243
abbrev fn_bits_Map_Set : FuncId := 244
abbrev fn_slices_Sort_int_int : FuncId := 245
abbrev fn_maps_Keys_map_int_api_Page_int_api_Page_1 : FuncId := 246
abbrev fn_protect_amount : FuncId := 247
abbrev fn_protect_up_1 : FuncId := 248
abbrev fn_math_bits_LeadingZeros64 : FuncId := 249
abbrev fn_slices_stableCmpFunc_share_rest : FuncId := 250
abbrev fn_cmp_isNaN_uint64 : FuncId := 251
abbrev fn_maps_Keys_map_int_gens_one_int_gens_one_1 : FuncId := 252
abbrev fn_slices_stableCmpFunc_int : FuncId := 253
abbrev fn_cmp_isNaN_int : FuncId := 254
abbrev fn_core_Core_Swap : FuncId := 255
abbrev fn_counter_Counter_Limit : FuncId := 256
abbrev fn_pool_Pool_Take : FuncId := 257
abbrev fn_counter_Counter_Try : FuncId := 258
abbrev fn_bytes_Store_Write : FuncId := 259
abbrev fn_shadow_group : FuncId := 260
abbrev fn_shadow_Make : FuncId := 261
abbrev fn_shadow_Look : FuncId := 262
abbrev fn_shadow_Working : FuncId := 263
abbrev fn_gens_Lists_Add : FuncId := 264
abbrev fn_victim_Pick : FuncId := 265
abbrev fn_victim_Whole : FuncId := 266
abbrev fn_space_Space_Size : FuncId := 267
abbrev fn_bits_Pack : FuncId := 268
abbrev fn_entry_bit : FuncId := 269
abbrev fn_bits_Map_Get : FuncId := 270
abbrev fn_bits_at : FuncId := 271
abbrev fn_slices_pdqsortOrdered_int : FuncId := 272
abbrev fn_math_bits_Len : FuncId := 273
abbrev fn_math_bits_Len64 : FuncId := 274
abbrev fn_slices_insertionSortCmpFunc_share_rest : FuncId := 275
abbrev fn_slices_symMergeCmpFunc_share_rest : FuncId := 276
abbrev fn_slices_insertionSortCmpFunc_int : FuncId := 277
abbrev fn_slices_symMergeCmpFunc_int : FuncId := 278
abbrev fn_bits_Map_Next : FuncId := 279
abbrev fn_counter_Counter_Try_1 : FuncId := 280
abbrev fn_shadow_widths : FuncId := 281
abbrev fn_shadow_Distance : FuncId := 282
abbrev fn_victim_Pick_1 : FuncId := 283
abbrev fn_victim_Whole_1 : FuncId := 284
abbrev fn_radix_Table_Len : FuncId := 285
abbrev fn_slices_insertionSortOrdered_int : FuncId := 286
abbrev fn_slices_heapSortOrdered_int : FuncId := 287
abbrev fn_slices_breakPatternsOrdered_int : FuncId := 288
abbrev fn_slices_choosePivotOrdered_int : FuncId := 289
abbrev fn_slices_reverseRangeOrdered_int : FuncId := 290
abbrev fn_slices_partialInsertionSortOrdered_int : FuncId := 291
abbrev fn_cmp_Less_int : FuncId := 292
abbrev fn_slices_partitionEqualOrdered_int : FuncId := 293
abbrev fn_slices_partitionOrdered_int : FuncId := 294
abbrev fn_math_bits_Len32 : FuncId := 295
abbrev fn_slices_rotateCmpFunc_share_rest : FuncId := 296
abbrev fn_slices_rotateCmpFunc_int : FuncId := 297
abbrev fn_math_bits_TrailingZeros64 : FuncId := 298
abbrev fn_slices_siftDownOrdered_int : FuncId := 299
abbrev fn_slices_nextPowerOfTwo : FuncId := 300
abbrev fn_slices_xorshift_Next : FuncId := 301
abbrev fn_slices_medianAdjacentOrdered_int : FuncId := 302
abbrev fn_slices_medianOrdered_int : FuncId := 303
abbrev fn_slices_swapRangeCmpFunc_share_rest : FuncId := 304
abbrev fn_slices_swapRangeCmpFunc_int : FuncId := 305
abbrev fn_slices_order2Ordered_int : FuncId := 306
abbrev fn_runtime_boundsError_Error : FuncId := 307
abbrev fn_runtime_boundsError_RuntimeError : FuncId := 308
abbrev fn_runtime_errorString_Error : FuncId := 309
abbrev fn_runtime_errorString_RuntimeError : FuncId := 310
abbrev fn_runtime_plainError_Error : FuncId := 311
abbrev fn_runtime_plainError_RuntimeError : FuncId := 312
abbrev fn_runtime_errorAddressString_Error : FuncId := 313
abbrev fn_runtime_errorAddressString_RuntimeError : FuncId := 314
abbrev fn_runtime_TypeAssertionError_Error : FuncId := 315
abbrev fn_runtime_TypeAssertionError_RuntimeError : FuncId := 316
abbrev fn_runtime_PanicNilError_Error : FuncId := 317
abbrev fn_runtime_PanicNilError_RuntimeError : FuncId := 318
abbrev fn_internal_abi_Type_Align : FuncId := 319
abbrev fn_internal_runtime_maps_unhashableTypeError_Error : FuncId := 320
abbrev fn_internal_runtime_maps_unhashableTypeError_RuntimeError : FuncId := 321
abbrev fn_api_Errno_Error : FuncId := 322
abbrev fn_space_Space_Rest : FuncId := 323
abbrev fn_tree_Tree_Len : FuncId := 324
abbrev fn_bits_Map_Count : FuncId := 325
abbrev fn_bytes_Store_Len : FuncId := 326
abbrev fn_counter_Counter_Failed : FuncId := 327
abbrev fn_shadow_Log_Back : FuncId := 328
abbrev fn_radix_node_count : FuncId := 329
abbrev fn_internal_abi_Kind_String : FuncId := 330
abbrev fn_var_s_door_gosem_cut_vars_holds_initialisers_alone_see_the_manifest_s_row_cutvarsword_look_11_test_files_too : FuncId := 331
abbrev fn_var_s_door_math_bits_deBruijn64tab_is_laid_by_its_own_initialiser_plain_data_look_11 : FuncId := 332
abbrev fn_var_s_door_the_look_of_gosem_cut_vars_went_over_the_folder_that_the_caller_named_as_the_repository_s_root_look_11 : FuncId := 333
abbrev fn_gosem_cut_vars : FuncId := 334
noncomputable abbrev Chk : Checked := Go.Proofs.Tryz.checked
noncomputable abbrev F_millpondlaw20_ScriptPuts : Func := Go.Proofs.Tryz.f3
theorem func_millpondlaw20_ScriptPuts : P.funcs[fn_millpondlaw20_ScriptPuts]? = some F_millpondlaw20_ScriptPuts := Go.Proofs.Tryz.func3
noncomputable abbrev F_millpondlaw20_ScriptGets : Func := Go.Proofs.Tryz.f4
theorem func_millpondlaw20_ScriptGets : P.funcs[fn_millpondlaw20_ScriptGets]? = some F_millpondlaw20_ScriptGets := Go.Proofs.Tryz.func4
noncomputable abbrev F_millpondlaw20_ScriptBack : Func := Go.Proofs.Tryz.f5
theorem func_millpondlaw20_ScriptBack : P.funcs[fn_millpondlaw20_ScriptBack]? = some F_millpondlaw20_ScriptBack := Go.Proofs.Tryz.func5
noncomputable abbrev F_millpondlaw20_ScriptSizes : Func := Go.Proofs.Tryz.f6
theorem func_millpondlaw20_ScriptSizes : P.funcs[fn_millpondlaw20_ScriptSizes]? = some F_millpondlaw20_ScriptSizes := Go.Proofs.Tryz.func6
noncomputable abbrev F_millpondlaw20_ScriptBad : Func := Go.Proofs.Tryz.f7
theorem func_millpondlaw20_ScriptBad : P.funcs[fn_millpondlaw20_ScriptBad]? = some F_millpondlaw20_ScriptBad := Go.Proofs.Tryz.func7
def tauL : List K1 := [.one .raw, .one .raw, .one (.int .i64), .one (.int .i64), .one .bool, .one (.int .u8), .one (.int .u8), .agg [.int .i64, .int .i64, .bool, .int .u8], .agg
    [.int .i64, .int .i64, .bool, .int .u8], .one .str, .one .str, .one .str, .one (.int .u64), .agg [.str, .int .u64], .agg [.str, .int .u64], .one .ptr, .one .ptr, .one .ptr, .agg
    [.ptr], .agg [.ptr], .one .raw, .one (.int .i32), .one .slice, .one (.int .i64), .agg [.int .i64, .int .i64, .int .i64, .int .i64, .int .i64], .agg [.int .i64, .int .i64, .int
    .i64, .int .i64, .int .i64], .one .raw, .one .slice, .one (.int .i64), .one .raw, .one .raw, .one .raw, .one .raw, .one .raw, .one .raw, .one .raw, .one .raw, .one .raw, .one
    .raw, .one .raw, .one .raw, .one .raw, .one .slice, .one .raw, .one .raw, .one .slice, .agg [.int .i64, .int .i64, .slice], .agg [.int .i64, .int .i64, .slice], .one .raw, .one
    .raw, .one .raw, .one .raw, .one .raw, .one .raw, .one .raw, .one .raw, .one .raw, .one .ptr, .agg [.ptr, .ptr, .ptr, .ptr], .one .raw, .one .raw, .one .ptr, .one .raw, .one
    .raw, .one (.int .u64), .one .ptr, .one .raw, .one .slice, .agg [.ptr, .slice], .agg [.ptr, .slice], .one .raw, .one .map, .one .raw, .one .raw, .one .map, .one .raw, .one .ptr,
    .one .raw, .one .ptr, .agg [.int .i64, .int .i64, .int .i64, .int .i64, .int .i64, .ptr, .ptr, .int .i64, .int .i64, .slice], .agg [.int .i64, .int .i64, .int .i64, .int .i64,
    .int .i64, .ptr, .ptr, .int .i64, .int .i64, .slice], .one .ptr, .one .raw, .one .ptr, .one .ptr, .one .ptr, .agg [.ptr, .ptr, .ptr], .agg [.ptr, .ptr, .ptr], .one .raw, .one
    .ptr, .one .raw, .one .ptr, .one .raw, .one .ptr, .one .raw, .one .ptr, .one .raw, .one .map, .one .slice, .agg [.ptr, .ptr, .ptr, .ptr, .ptr, .ptr, .ptr, .ptr, .ptr, .ptr,
    .ptr, .map, .slice, .slice], .agg [.ptr, .ptr, .ptr, .ptr, .ptr, .ptr, .ptr, .ptr, .ptr, .ptr, .ptr, .map, .slice, .slice], .agg [.int .i64, .ptr], .agg [.int .i64, .ptr], .agg
    [.int .i64, .bool], .agg [.int .i64, .bool], .one .slice, .agg [.slice], .agg [.slice], .one .raw, .one .raw, .one .raw, .one .map, .agg [.slice, .map, .int .i64], .agg [.slice,
    .map, .int .i64], .one .map, .agg [.map], .agg [.map], .agg [.int .i64, .int .i64], .agg [.int .i64, .int .i64], .one .raw, .one .raw, .one .raw, .one .map, .one .map, .one
    .map, .agg [.map, .map, .map, .int .i64], .agg [.map, .map, .map, .int .i64], .one .raw, .one .raw, .one .raw, .one .raw, .one .raw, .one .raw, .one .raw, .one .raw, .one .raw,
    .one .raw, .one (.int .i64), .agg [.int .i64, .int .i64, .int .i64, .int .i64, .int .i64, .bool], .agg [.int .i64, .int .i64, .int .i64, .int .i64, .int .i64, .bool], .one .raw,
    .one .raw, .one .raw, .one .raw, .one .raw, .agg [.int .i64, .int .i64, .bool, .bool], .agg [.int .i64, .int .i64, .bool, .bool], .one .raw, .one .raw, .one .raw, .one .raw,
    .one .raw, .one .raw, .one .raw, .one .raw, .one .raw, .one .raw, .one .raw, .one .ptr, .one .raw, .agg [.ptr], .agg [.ptr], .one .slice, .agg [.slice], .agg [.slice], .agg
    [.int .i64, .int .i64, .int .i64, .int .i64], .agg [.int .i64, .int .i64, .int .i64, .int .i64], .one .raw, .one .raw, .one .raw, .agg [.int .i64, .int .i64, .bool], .agg [.int
    .i64, .int .i64, .bool], .one .raw, .agg [.ptr, .ptr], .one .raw, .one .ptr, .one .ptr, .one .raw, .one .slice, .agg [.slice, .ptr], .agg [.slice, .ptr], .one .slice, .one .raw,
    .one .raw, .one .raw, .one .raw, .one .raw, .one .raw, .one .raw, .one .raw, .one .raw, .one (.int .u64), .one .raw, .one .raw, .one .raw, .one .raw, .one .raw, .one .raw, .one
    .raw, .agg [.int .i64, .int .i64], .agg [.int .i64, .int .i64], .one .raw, .one .raw, .one .raw, .one .raw, .one .raw, .one (.int .i64), .agg [.int .i64, .int .i64, .int .i64,
    .int .i64, .int .i64, .int .i64, .int .i64, .bool, .bool], .agg [.int .i64, .int .i64, .int .i64, .int .i64, .int .i64, .int .i64, .int .i64, .bool, .bool], .one .raw, .one
    .raw, .one .raw, .one .raw, .one .raw, .one .raw, .one .raw, .one .raw, .one .raw, .one .slice, .agg [.int .i64, .slice], .agg [.int .i64, .slice], .one .raw, .one .ptr, .one
    .raw, .one .raw, .one .raw, .agg [.int .i64, .int .i64], .agg [.int .i64, .int .i64], .one .raw, .one .raw, .one .raw, .one .raw, .one .raw, .one .ptr, .agg [.ptr, .ptr, .ptr,
    .ptr, .ptr, .ptr, .ptr, .ptr, .ptr, .ptr, .ptr, .ptr, .ptr, .ptr, .ptr, .ptr], .arr 16 .u64, .one (.int .u16), .agg [.ptr, .ptr, .ptr, .ptr, .ptr, .ptr, .ptr, .ptr, .ptr, .ptr,
    .ptr, .ptr, .ptr, .ptr, .ptr, .ptr, .int .u64, .int .u64, .int .u64, .int .u64, .int .u64, .int .u64, .int .u64, .int .u64, .int .u64, .int .u64, .int .u64, .int .u64, .int
    .u64, .int .u64, .int .u64, .int .u64, .int .u16], .agg [.ptr, .ptr, .ptr, .ptr, .ptr, .ptr, .ptr, .ptr, .ptr, .ptr, .ptr, .ptr, .ptr, .ptr, .ptr, .ptr, .int .u64, .int .u64,
    .int .u64, .int .u64, .int .u64, .int .u64, .int .u64, .int .u64, .int .u64, .int .u64, .int .u64, .int .u64, .int .u64, .int .u64, .int .u64, .int .u64, .int .u16], .agg [.ptr,
    .ptr, .ptr, .ptr, .ptr, .ptr, .ptr, .ptr, .ptr, .ptr, .ptr, .ptr, .ptr, .ptr, .ptr, .ptr, .int .u64, .int .u64, .int .u64, .int .u64, .int .u64, .int .u64, .int .u64, .int .u64,
    .int .u64, .int .u64, .int .u64, .int .u64, .int .u64, .int .u64, .int .u64, .int .u64, .int .u16], .agg [.ptr, .ptr, .ptr, .ptr, .ptr, .ptr, .ptr, .ptr, .ptr, .ptr, .ptr, .ptr,
    .ptr, .ptr, .ptr, .ptr, .int .u64, .int .u64, .int .u64, .int .u64, .int .u64, .int .u64, .int .u64, .int .u64, .int .u64, .int .u64, .int .u64, .int .u64, .int .u64, .int .u64,
    .int .u64, .int .u64, .int .u16], .one .raw, .one .slice, .agg [.int .i64, .int .i64, .int .i64], .agg [.int .i64, .int .i64, .int .i64], .one .raw, .one .raw, .one .raw, .one
    .raw, .one .raw, .one .raw, .one .raw, .one .raw, .one .raw, .one .raw, .one .raw, .one .raw, .one .raw, .one .raw, .one .raw, .one .raw, .one .raw, .one .raw, .one .raw, .one
    .raw, .one .raw, .one .ptr, .one .raw, .one .raw, .one .raw, .one .raw, .one .raw, .one .raw, .one .raw, .one .raw, .one .raw, .agg [.int .i64, .int .i64], .agg [.int .i64, .int
    .i64], .one .raw, .one .raw, .one .raw, .agg [.bool, .bool, .bool, .bool, .bool, .bool, .bool, .bool, .bool, .bool, .bool, .bool, .bool, .bool, .bool, .bool, .bool, .bool,
    .bool, .bool, .bool, .bool, .bool, .bool, .bool, .bool, .bool, .bool, .bool, .bool, .bool, .bool, .bool, .bool, .bool, .bool, .bool, .bool, .bool, .bool, .bool, .bool, .bool,
    .bool, .bool, .bool, .bool, .bool, .bool, .bool, .bool, .bool, .bool, .bool, .bool, .bool, .bool, .bool, .bool, .bool, .bool, .bool, .bool, .bool], .one .raw, .one .raw, .one
    .raw, .one .raw, .one .raw, .one .raw, .one .raw, .one .slice, .one .raw, .one .raw, .one .raw, .agg [.int .i64, .int .u64], .agg [.int .i64, .int .u64], .one .raw, .one .raw,
    .one .raw, .one .raw, .one .raw, .one .raw, .one .raw, .one .raw, .one .raw, .one .raw, .one .raw, .one .raw, .one .slice, .one .raw, .one .raw, .one .raw, .one .raw, .one .raw,
    .one .raw, .one .raw, .arr 16 .u8, .arr 16 .u8, .one .raw, .one .raw, .one .raw, .one .raw, .one .raw, .one .raw, .one .raw, .one .raw, .one .raw, .one .raw, .one .raw, .one
    .raw, .one .raw, .one .raw, .one .raw, .one .raw, .one .raw, .agg [.int .i64, .int .i64, .bool], .agg [.int .i64, .int .i64, .bool], .one .raw, .one .raw, .one .raw, .one .raw,
    .one .raw, .one .raw, .one .raw, .one .raw, .one .raw, .one .raw, .one .raw, .one .ptr, .one .raw, .one .raw, .one .raw, .one (.int .i64), .one .raw, .one .raw, .one .raw, .one
    .raw, .one .raw, .one .raw, .one .raw, .one (.int .u32), .one (.int .u64), .one .raw, .one .raw, .one .raw, .one .raw, .arr 64 .u8, .one .ptr, .one .raw, .one .raw, .agg [.ptr,
    .ptr, .ptr, .str], .agg [.ptr, .ptr, .ptr, .str], .agg [], .agg [], .agg [], .one (.int .u8), .one (.int .u8), .one .raw, .one .ptr, .one (.int .i32), .one (.int .i32), .agg
    [.int .u64, .int .u64, .int .u32, .int .u8, .int .u8, .int .u8, .int .u8, .raw, .ptr, .int .i32, .int .i32], .agg [.int .u64, .int .u64, .int .u32, .int .u8, .int .u8, .int .u8,
    .int .u8, .raw, .ptr, .int .i32, .int .i32], .one .raw]
def tau (t : TypeId) : K1 := tauL.getD t (.one .raw)
def rhoL : List Kd := [.tup [], .k (.one .raw), .k (.one (.int .i64)), .k (.one (.int .i64)), .k (.one .bool), .k (.one (.int .u8)), .k (.one (.int .u8)), .k (.agg [.int .i64, .int
    .i64, .bool, .int .u8]), .k (.agg [.int .i64, .int .i64, .bool, .int .u8]), .k (.one .str), .k (.one .str), .k (.one .str), .k (.one (.int .u64)), .k (.agg [.str, .int .u64]),
    .k (.agg [.str, .int .u64]), .k (.one .ptr), .k (.one .ptr), .k (.one .ptr), .k (.agg [.ptr]), .k (.agg [.ptr]), .k (.one .raw), .k (.one (.int .i32)), .k (.one .slice), .k
    (.one (.int .i64)), .k (.agg [.int .i64, .int .i64, .int .i64, .int .i64, .int .i64]), .k (.agg [.int .i64, .int .i64, .int .i64, .int .i64, .int .i64]), .k (.one .raw), .k
    (.one .slice), .k (.one (.int .i64)), .tup [.one .slice, .one (.int .i64)], .k (.one .raw), .tup [.one .str, .one (.int .i64)], .k (.one .raw), .k (.one .raw), .k (.one .raw),
    .k (.one .raw), .tup [.one .slice, .one (.int .i64), .one (.int .i64)], .k (.one .raw), .k (.one .raw), .k (.one .raw), .k (.one .raw), .k (.one .raw), .k (.one .slice), .tup
    [.one .slice, .one (.int .i64)], .k (.one .raw), .k (.one .slice), .k (.agg [.int .i64, .int .i64, .slice]), .k (.agg [.int .i64, .int .i64, .slice]), .k (.one .raw), .k (.one
    .raw), .tup [.agg [.int .i64, .int .i64, .int .i64, .int .i64, .int .i64], .one .slice, .one .bool], .k (.one .raw), .tup [.one (.int .i64), .one (.int .i64)], .k (.one .raw),
    .k (.one .raw), .k (.one .raw), .k (.one .raw), .k (.one .ptr), .k (.agg [.ptr, .ptr, .ptr, .ptr]), .tup [.one (.int .i64), .one .slice, .one .bool], .k (.one .raw), .k (.one
    .ptr), .k (.one .raw), .k (.one .raw), .k (.one (.int .u64)), .k (.one .ptr), .k (.one .raw), .k (.one .slice), .k (.agg [.ptr, .slice]), .k (.agg [.ptr, .slice]), .k (.one
    .raw), .k (.one .map), .k (.one .raw), .k (.one .raw), .k (.one .map), .k (.one .raw), .k (.one .ptr), .k (.one .raw), .k (.one .ptr), .k (.agg [.int .i64, .int .i64, .int .i64,
    .int .i64, .int .i64, .ptr, .ptr, .int .i64, .int .i64, .slice]), .k (.agg [.int .i64, .int .i64, .int .i64, .int .i64, .int .i64, .ptr, .ptr, .int .i64, .int .i64, .slice]), .k
    (.one .ptr), .k (.one .raw), .k (.one .ptr), .k (.one .ptr), .k (.one .ptr), .k (.agg [.ptr, .ptr, .ptr]), .k (.agg [.ptr, .ptr, .ptr]), .k (.one .raw), .k (.one .ptr), .k (.one
    .raw), .k (.one .ptr), .k (.one .raw), .k (.one .ptr), .k (.one .raw), .k (.one .ptr), .k (.one .raw), .k (.one .map), .k (.one .slice), .k (.agg [.ptr, .ptr, .ptr, .ptr, .ptr,
    .ptr, .ptr, .ptr, .ptr, .ptr, .ptr, .map, .slice, .slice]), .k (.agg [.ptr, .ptr, .ptr, .ptr, .ptr, .ptr, .ptr, .ptr, .ptr, .ptr, .ptr, .map, .slice, .slice]), .k (.agg [.int
    .i64, .ptr]), .k (.agg [.int .i64, .ptr]), .k (.agg [.int .i64, .bool]), .k (.agg [.int .i64, .bool]), .k (.one .slice), .k (.agg [.slice]), .k (.agg [.slice]), .k (.one .raw),
    .k (.one .raw), .k (.one .raw), .k (.one .map), .k (.agg [.slice, .map, .int .i64]), .k (.agg [.slice, .map, .int .i64]), .k (.one .map), .k (.agg [.map]), .k (.agg [.map]), .k
    (.agg [.int .i64, .int .i64]), .k (.agg [.int .i64, .int .i64]), .k (.one .raw), .k (.one .raw), .k (.one .raw), .k (.one .map), .k (.one .map), .k (.one .map), .k (.agg [.map,
    .map, .map, .int .i64]), .k (.agg [.map, .map, .map, .int .i64]), .tup [.one (.int .i64), .one (.int .i64)], .k (.one .raw), .k (.one .raw), .k (.one .raw), .k (.one .raw), .k
    (.one .raw), .k (.one .raw), .k (.one .raw), .k (.one .raw), .k (.one .raw), .k (.one (.int .i64)), .k (.agg [.int .i64, .int .i64, .int .i64, .int .i64, .int .i64, .bool]), .k
    (.agg [.int .i64, .int .i64, .int .i64, .int .i64, .int .i64, .bool]), .k (.one .raw), .k (.one .raw), .k (.one .raw), .tup [.one (.int .i64), .agg [.int .i64, .int .i64, .int
    .i64, .int .i64, .int .i64, .bool], .one .bool], .k (.one .raw), .k (.agg [.int .i64, .int .i64, .bool, .bool]), .k (.agg [.int .i64, .int .i64, .bool, .bool]), .tup [.agg [.int
    .i64, .int .i64, .bool, .bool], .one .bool], .k (.one .raw), .tup [.one (.int .i64), .one .bool], .k (.one .raw), .tup [.one (.int .u8), .one (.int .i64)], .k (.one .raw), .k
    (.one .raw), .k (.one .raw), .k (.one .raw), .k (.one .raw), .k (.one .raw), .k (.one .ptr), .k (.one .raw), .k (.agg [.ptr]), .k (.agg [.ptr]), .k (.one .slice), .k (.agg
    [.slice]), .k (.agg [.slice]), .k (.agg [.int .i64, .int .i64, .int .i64, .int .i64]), .k (.agg [.int .i64, .int .i64, .int .i64, .int .i64]), .k (.one .raw), .k (.one .raw), .k
    (.one .raw), .k (.agg [.int .i64, .int .i64, .bool]), .k (.agg [.int .i64, .int .i64, .bool]), .k (.one .raw), .k (.agg [.ptr, .ptr]), .k (.one .raw), .k (.one .ptr), .k (.one
    .ptr), .k (.one .raw), .k (.one .slice), .k (.agg [.slice, .ptr]), .k (.agg [.slice, .ptr]), .k (.one .slice), .k (.one .raw), .k (.one .raw), .k (.one .raw), .k (.one .raw),
    .tup [.one .slice, .one (.int .i64)], .k (.one .raw), .k (.one .raw), .tup [.agg [.int .i64, .int .i64, .int .i64, .int .i64, .int .i64, .bool], .one .bool], .k (.one .raw), .k
    (.one (.int .u64)), .tup [.one (.int .u64), .one .bool], .k (.one .raw), .tup [.agg [.int .i64, .int .i64, .bool, .bool], .one (.int .i64)], .k (.one .raw), .k (.one .raw), .tup
    [.one (.int .i64), .one (.int .i64), .one (.int .i64)], .k (.one .raw), .k (.agg [.int .i64, .int .i64]), .k (.agg [.int .i64, .int .i64]), .k (.one .raw), .k (.one .raw), .k
    (.one .raw), .k (.one .raw), .k (.one .raw), .k (.one (.int .i64)), .k (.agg [.int .i64, .int .i64, .int .i64, .int .i64, .int .i64, .int .i64, .int .i64, .bool, .bool]), .k
    (.agg [.int .i64, .int .i64, .int .i64, .int .i64, .int .i64, .int .i64, .int .i64, .bool, .bool]), .tup [.agg [.int .i64, .int .i64, .int .i64, .int .i64, .int .i64, .int .i64,
    .int .i64, .bool, .bool], .one (.int .i64)], .k (.one .raw), .k (.one .raw), .k (.one .raw), .k (.one .raw), .k (.one .raw), .k (.one .raw), .k (.one .raw), .k (.one .raw), .k
    (.one .slice), .k (.agg [.int .i64, .slice]), .k (.agg [.int .i64, .slice]), .k (.one .raw), .k (.one .ptr), .k (.one .raw), .k (.one .raw), .k (.one .raw), .k (.agg [.int .i64,
    .int .i64]), .k (.agg [.int .i64, .int .i64]), .k (.one .raw), .k (.one .raw), .k (.one .raw), .k (.one .raw), .k (.one .raw), .k (.one .ptr), .k (.agg [.ptr, .ptr, .ptr, .ptr,
    .ptr, .ptr, .ptr, .ptr, .ptr, .ptr, .ptr, .ptr, .ptr, .ptr, .ptr, .ptr]), .k (.arr 16 .u64), .k (.one (.int .u16)), .k (.agg [.ptr, .ptr, .ptr, .ptr, .ptr, .ptr, .ptr, .ptr,
    .ptr, .ptr, .ptr, .ptr, .ptr, .ptr, .ptr, .ptr, .int .u64, .int .u64, .int .u64, .int .u64, .int .u64, .int .u64, .int .u64, .int .u64, .int .u64, .int .u64, .int .u64, .int
    .u64, .int .u64, .int .u64, .int .u64, .int .u64, .int .u16]), .k (.agg [.ptr, .ptr, .ptr, .ptr, .ptr, .ptr, .ptr, .ptr, .ptr, .ptr, .ptr, .ptr, .ptr, .ptr, .ptr, .ptr, .int
    .u64, .int .u64, .int .u64, .int .u64, .int .u64, .int .u64, .int .u64, .int .u64, .int .u64, .int .u64, .int .u64, .int .u64, .int .u64, .int .u64, .int .u64, .int .u64, .int
    .u16]), .k (.agg [.ptr, .ptr, .ptr, .ptr, .ptr, .ptr, .ptr, .ptr, .ptr, .ptr, .ptr, .ptr, .ptr, .ptr, .ptr, .ptr, .int .u64, .int .u64, .int .u64, .int .u64, .int .u64, .int
    .u64, .int .u64, .int .u64, .int .u64, .int .u64, .int .u64, .int .u64, .int .u64, .int .u64, .int .u64, .int .u64, .int .u16]), .k (.agg [.ptr, .ptr, .ptr, .ptr, .ptr, .ptr,
    .ptr, .ptr, .ptr, .ptr, .ptr, .ptr, .ptr, .ptr, .ptr, .ptr, .int .u64, .int .u64, .int .u64, .int .u64, .int .u64, .int .u64, .int .u64, .int .u64, .int .u64, .int .u64, .int
    .u64, .int .u64, .int .u64, .int .u64, .int .u64, .int .u64, .int .u16]), .k (.one .raw), .k (.one .slice), .k (.agg [.int .i64, .int .i64, .int .i64]), .k (.agg [.int .i64,
    .int .i64, .int .i64]), .k (.one .raw), .k (.one .raw), .k (.one .raw), .k (.one .raw), .k (.one .raw), .k (.one .raw), .k (.one .raw), .k (.one .raw), .k (.one .raw), .k (.one
    .raw), .k (.one .raw), .k (.one .raw), .k (.one .raw), .k (.one .raw), .tup [.one .slice, .one (.int .i64)], .k (.one .raw), .k (.one .raw), .k (.one .raw), .k (.one .raw), .k
    (.one .raw), .k (.one .raw), .k (.one .ptr), .k (.one .raw), .tup [.agg [.int .i64, .int .i64], .one .bool], .k (.one .raw), .k (.one .raw), .k (.one .raw), .k (.one .raw), .k
    (.one .raw), .k (.one .raw), .k (.one .raw), .k (.agg [.int .i64, .int .i64]), .k (.agg [.int .i64, .int .i64]), .k (.one .raw), .k (.one .raw), .k (.one .raw), .k (.agg [.bool,
    .bool, .bool, .bool, .bool, .bool, .bool, .bool, .bool, .bool, .bool, .bool, .bool, .bool, .bool, .bool, .bool, .bool, .bool, .bool, .bool, .bool, .bool, .bool, .bool, .bool,
    .bool, .bool, .bool, .bool, .bool, .bool, .bool, .bool, .bool, .bool, .bool, .bool, .bool, .bool, .bool, .bool, .bool, .bool, .bool, .bool, .bool, .bool, .bool, .bool, .bool,
    .bool, .bool, .bool, .bool, .bool, .bool, .bool, .bool, .bool, .bool, .bool, .bool, .bool]), .k (.one .raw), .k (.one .raw), .k (.one .raw), .k (.one .raw), .k (.one .raw), .k
    (.one .raw), .k (.one .raw), .k (.one .slice), .tup [.one (.int .u64), .one (.int .u64)], .k (.one .raw), .k (.one .raw), .k (.agg [.int .i64, .int .u64]), .k (.agg [.int .i64,
    .int .u64]), .k (.one .raw), .k (.one .raw), .k (.one .raw), .k (.one .raw), .k (.one .raw), .k (.one .raw), .k (.one .raw), .k (.one .raw), .k (.one .raw), .k (.one .raw), .k
    (.one .raw), .k (.one .raw), .k (.one .slice), .k (.one .raw), .k (.one .raw), .k (.one .raw), .tup [.one .str, .one .bool], .k (.one .raw), .tup [.one (.int .u64), .one (.int
    .i64)], .k (.one .raw), .k (.arr 16 .u8), .k (.arr 16 .u8), .k (.one .raw), .k (.one .raw), .k (.one .raw), .k (.one .raw), .k (.one .raw), .k (.one .raw), .k (.one .raw), .k
    (.one .raw), .k (.one .raw), .k (.one .raw), .k (.one .raw), .k (.one .raw), .tup [.one (.int .i64), .one (.int .i64), .one .bool], .k (.one .raw), .k (.one .raw), .k (.one
    .raw), .k (.one .raw), .k (.agg [.int .i64, .int .i64, .bool]), .k (.agg [.int .i64, .int .i64, .bool]), .k (.one .raw), .k (.one .raw), .tup [.one (.int .i64), .one (.int
    .u64)], .k (.one .raw), .k (.one .raw), .k (.one .raw), .k (.one .raw), .k (.one .raw), .k (.one .raw), .k (.one .raw), .k (.one .raw), .k (.one .ptr), .k (.one .raw), .k (.one
    .raw), .k (.one .raw), .k (.one (.int .i64)), .tup [.one (.int .i64), .one (.int .i64)], .k (.one .raw), .k (.one .raw), .k (.one .raw), .k (.one .raw), .k (.one .raw), .k (.one
    .raw), .k (.one (.int .u32)), .k (.one (.int .u64)), .k (.one .raw), .k (.one .raw), .k (.one .raw), .k (.one .raw), .k (.arr 64 .u8), .k (.one .ptr), .k (.one .raw), .k (.one
    .raw), .k (.agg [.ptr, .ptr, .ptr, .str]), .k (.agg [.ptr, .ptr, .ptr, .str]), .k (.agg []), .k (.agg []), .k (.agg []), .k (.one (.int .u8)), .k (.one (.int .u8)), .k (.one
    .raw), .k (.one .ptr), .k (.one (.int .i32)), .k (.one (.int .i32)), .k (.agg [.int .u64, .int .u64, .int .u32, .int .u8, .int .u8, .int .u8, .int .u8, .raw, .ptr, .int .i32,
    .int .i32]), .k (.agg [.int .u64, .int .u64, .int .u32, .int .u8, .int .u8, .int .u8, .int .u8, .raw, .ptr, .int .i32, .int .i32]), .k (.one .raw)]
def rho (t : TypeId) : Kd := rhoL.getD t (.k (.one .raw))
abbrev pe (v : Value) : PanicEntry := { v := v, recovered := false }
def pan (f : FuncId) : Bool := [].contains f
theorem mixed : P.follows .mixedOrders = true := Checked.mixed Go.Proofs.Tryz.checked
end Go.Mp
