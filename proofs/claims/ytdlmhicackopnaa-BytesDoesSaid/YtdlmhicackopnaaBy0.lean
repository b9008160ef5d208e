/- What is asked of each function. Printed by vcprint.py. -/
import Derived.Test.YtdlmhicackopnaaByN
set_option maxRecDepth 100000
namespace Go.Mp
open Go Go.Vc

def ann_millpondlaw03_BytesDoes : Ann := { quiet := fun d => [28, 31, 35, 36, 45, 46, 48, 55, 57, 65, 75, 83, 121, 125, 130, 135, 140, 150, 151, 152].contains d, sig := fun r => (bif r == 29 then some ([0, 1, 2, 4, 5, 6, 7, 8, 9, 3, 10, 11, 12], [3]) else none), loop := fun r => (bif r == 9 then [(12, .int .i64)] else []) }
/-- millpond/millpondlaw03.BytesDoes -/
def sh_millpondlaw03_BytesDoes (n : Int) (l : Sl) (page : Int) (atA : Int) (K : Value → World → Prop) (w : World) : Prop :=
  Calls P fn_millpondlaw03_works #[] w fun e2 w1 => ∃ x3 : Bool, e2 = .returned (.bool x3) ∧ bif (!x3) then (K (.bool false) w1) else (bif (decide (n > 100)) then (bif (decide (n <
    1024)) then (K (.bool x3) w1) else (bif (decide (((l.n : Nat) : Int) > 80)) then (K (.bool x3) w1) else (Calls P fn_bytes_New #[(.int .i64 n)] w1 fun e5 w4 => ∃ x6 : Option
    Addr, e5 = .returned (.pointer x6) ∧ Calls P fn_millpondref03_New #[(.int .i64 n)] w4 fun e8 w7 => ∃ x9 : Option Addr, e8 = .returned (.pointer x9) ∧ ∃ (I10 : Int → World →
    Prop) (M11 : Int → World → Nat), I10 0 w7 ∧ ∀ _u13 : Nat → Value, ∀ i14 : Int, ∀ w12 : World, I10 i14 w12 → bif (decide (i14 < ((l.n : Nat) : Int))) then (elAt l.p l.n i14 5 fun
    a15 => ∃ x16 : Int, w12.cell? (a15.add 0) = some (.int .i64 x16) ∧ ∃ x17 : Int, w12.cell? (a15.add 1) = some (.int .i64 x17) ∧ ∃ x18 : Int, w12.cell? (a15.add 2) = some (.int
    .i64 x18) ∧ ∃ x19 : Int, w12.cell? (a15.add 3) = some (.int .u8 x19) ∧ ∃ x20 : ByteArray, w12.cell? (a15.add 4) = some (.string x20) ∧ Al (.cells #[(.int .i64 0), (.int .i64 0),
    (.int .i64 0), (.int .u8 0), (.string (ByteArray.mk #[]))] 29) (fun p21 w22 => StN [(.int .i64 x16), (.int .i64 x17), (.int .i64 x18), (.int .u8 x19), (.string x20)] p21 (fun
    w23 => ∃ x24 : Int, w23.cell? (p21.add 0) = some (.int .i64 x24) ∧ (4 : Int) ≠ 0 ∧ bif ((x24.tmod 4) == 0) then (∃ x25 : Int, w23.cell? (p21.add 1) = some (.int .i64 x25) ∧ ∃
    x26 : ByteArray, w23.cell? (p21.add 4) = some (.string x26) ∧ Calls P fn_millpondref03_Store_Write #[(.pointer x9), (.int .i64 x25), (.string x26)] w23 fun e28 w27 => ∃ x29 :
    Int, e28 = .returned (.int .i64 x29) ∧ ∃ x30 : Int, w27.cell? (p21.add 0) = some (.int .i64 x30) ∧ ∃ x31 : Int, w27.cell? (p21.add 1) = some (.int .i64 x31) ∧ ∃ x32 : Int,
    w27.cell? (p21.add 2) = some (.int .i64 x32) ∧ ∃ x33 : Int, w27.cell? (p21.add 3) = some (.int .u8 x33) ∧ ∃ x34 : ByteArray, w27.cell? (p21.add 4) = some (.string x34) ∧ Calls P
    fn_millpondlaw03_do #[(.pointer x6), (.agg #[(.int .i64 x30), (.int .i64 x31), (.int .i64 x32), (.int .u8 x33), (.string x34)])] w27 fun e36 w35 => ∃ x37 : Int, e36 = .returned
    (.int .i64 x37) ∧ Calls P fn_bytes_Store_Read #[(.pointer x6), (.int .i64 page)] w35 fun e39 w38 => ∃ x40 : ByteArray, ∃ x41 : Int, e39 = .returned (.tuple #[(.string x40),
    (.int .i64 x41)]) ∧ Calls P fn_millpondref03_Store_Read #[(.pointer x9), (.int .i64 page)] w38 fun e43 w42 => ∃ x44 : ByteArray, ∃ x45 : Int, e43 = .returned (.tuple #[(.string
    x44), (.int .i64 x45)]) ∧ ∃ x46 : Int, w42.cell? (p21.add 1) = some (.int .i64 x46) ∧ Calls P fn_bytes_Store_Get #[(.pointer x6), (.int .i64 x46), (.int .i64 atA)] w42 fun e48
    w47 => ∃ x49 : Int, ∃ x50 : Int, e48 = .returned (.tuple #[(.int .u8 x49), (.int .i64 x50)]) ∧ ∃ x51 : Int, w47.cell? (p21.add 1) = some (.int .i64 x51) ∧ Calls P
    fn_millpondref03_Store_Get #[(.pointer x9), (.int .i64 x51), (.int .i64 atA)] w47 fun e53 w52 => ∃ x54 : Int, ∃ x55 : Int, e53 = .returned (.tuple #[(.int .u8 x54), (.int .i64
    x55)]) ∧ bif (x37 != x29) then (K (.bool false) w52) else (bif (!(x40.toList == x44.toList)) then (K (.bool false) w52) else (bif (x41 != x45) then (K (.bool false) w52) else
    (bif (x49 != x54) then (K (.bool false) w52) else (bif (x50 != x55) then (K (.bool false) w52) else ((I10 (IntKind.i64.wrap (i14 + 1)) w52 ∧ M11 (IntKind.i64.wrap (i14 + 1)) w52
    < M11 i14 w12))))))) else (bif ((x24.tmod 4) == 1) then (∃ x56 : Int, w23.cell? (p21.add 1) = some (.int .i64 x56) ∧ ∃ x57 : Int, w23.cell? (p21.add 2) = some (.int .i64 x57) ∧
    ∃ x58 : Int, w23.cell? (p21.add 3) = some (.int .u8 x58) ∧ Calls P fn_millpondref03_Store_Put #[(.pointer x9), (.int .i64 x56), (.int .i64 x57), (.int .u8 x58)] w23 fun e60 w59
    => ∃ x61 : Int, e60 = .returned (.int .i64 x61) ∧ ∃ x62 : Int, w59.cell? (p21.add 0) = some (.int .i64 x62) ∧ ∃ x63 : Int, w59.cell? (p21.add 1) = some (.int .i64 x63) ∧ ∃ x64 :
    Int, w59.cell? (p21.add 2) = some (.int .i64 x64) ∧ ∃ x65 : Int, w59.cell? (p21.add 3) = some (.int .u8 x65) ∧ ∃ x66 : ByteArray, w59.cell? (p21.add 4) = some (.string x66) ∧
    Calls P fn_millpondlaw03_do #[(.pointer x6), (.agg #[(.int .i64 x62), (.int .i64 x63), (.int .i64 x64), (.int .u8 x65), (.string x66)])] w59 fun e68 w67 => ∃ x69 : Int, e68 =
    .returned (.int .i64 x69) ∧ Calls P fn_bytes_Store_Read #[(.pointer x6), (.int .i64 page)] w67 fun e71 w70 => ∃ x72 : ByteArray, ∃ x73 : Int, e71 = .returned (.tuple #[(.string
    x72), (.int .i64 x73)]) ∧ Calls P fn_millpondref03_Store_Read #[(.pointer x9), (.int .i64 page)] w70 fun e75 w74 => ∃ x76 : ByteArray, ∃ x77 : Int, e75 = .returned (.tuple
    #[(.string x76), (.int .i64 x77)]) ∧ ∃ x78 : Int, w74.cell? (p21.add 1) = some (.int .i64 x78) ∧ Calls P fn_bytes_Store_Get #[(.pointer x6), (.int .i64 x78), (.int .i64 atA)]
    w74 fun e80 w79 => ∃ x81 : Int, ∃ x82 : Int, e80 = .returned (.tuple #[(.int .u8 x81), (.int .i64 x82)]) ∧ ∃ x83 : Int, w79.cell? (p21.add 1) = some (.int .i64 x83) ∧ Calls P
    fn_millpondref03_Store_Get #[(.pointer x9), (.int .i64 x83), (.int .i64 atA)] w79 fun e85 w84 => ∃ x86 : Int, ∃ x87 : Int, e85 = .returned (.tuple #[(.int .u8 x86), (.int .i64
    x87)]) ∧ bif (x69 != x61) then (K (.bool false) w84) else (bif (!(x72.toList == x76.toList)) then (K (.bool false) w84) else (bif (x73 != x77) then (K (.bool false) w84) else
    (bif (x81 != x86) then (K (.bool false) w84) else (bif (x82 != x87) then (K (.bool false) w84) else ((I10 (IntKind.i64.wrap (i14 + 1)) w84 ∧ M11 (IntKind.i64.wrap (i14 + 1)) w84
    < M11 i14 w12))))))) else (bif ((x24.tmod 4) == 2) then (∃ x88 : Int, w23.cell? (p21.add 1) = some (.int .i64 x88) ∧ ∃ x89 : Int, w23.cell? (p21.add 2) = some (.int .i64 x89) ∧
    Calls P fn_millpondref03_Store_Move #[(.pointer x9), (.int .i64 x88), (.int .i64 x89)] w23 fun e91 w90 => ∃ x92 : Int, e91 = .returned (.int .i64 x92) ∧ ∃ x93 : Int, w90.cell?
    (p21.add 0) = some (.int .i64 x93) ∧ ∃ x94 : Int, w90.cell? (p21.add 1) = some (.int .i64 x94) ∧ ∃ x95 : Int, w90.cell? (p21.add 2) = some (.int .i64 x95) ∧ ∃ x96 : Int,
    w90.cell? (p21.add 3) = some (.int .u8 x96) ∧ ∃ x97 : ByteArray, w90.cell? (p21.add 4) = some (.string x97) ∧ Calls P fn_millpondlaw03_do #[(.pointer x6), (.agg #[(.int .i64
    x93), (.int .i64 x94), (.int .i64 x95), (.int .u8 x96), (.string x97)])] w90 fun e99 w98 => ∃ x100 : Int, e99 = .returned (.int .i64 x100) ∧ Calls P fn_bytes_Store_Read
    #[(.pointer x6), (.int .i64 page)] w98 fun e102 w101 => ∃ x103 : ByteArray, ∃ x104 : Int, e102 = .returned (.tuple #[(.string x103), (.int .i64 x104)]) ∧ Calls P
    fn_millpondref03_Store_Read #[(.pointer x9), (.int .i64 page)] w101 fun e106 w105 => ∃ x107 : ByteArray, ∃ x108 : Int, e106 = .returned (.tuple #[(.string x107), (.int .i64
    x108)]) ∧ ∃ x109 : Int, w105.cell? (p21.add 1) = some (.int .i64 x109) ∧ Calls P fn_bytes_Store_Get #[(.pointer x6), (.int .i64 x109), (.int .i64 atA)] w105 fun e111 w110 => ∃
    x112 : Int, ∃ x113 : Int, e111 = .returned (.tuple #[(.int .u8 x112), (.int .i64 x113)]) ∧ ∃ x114 : Int, w110.cell? (p21.add 1) = some (.int .i64 x114) ∧ Calls P
    fn_millpondref03_Store_Get #[(.pointer x9), (.int .i64 x114), (.int .i64 atA)] w110 fun e116 w115 => ∃ x117 : Int, ∃ x118 : Int, e116 = .returned (.tuple #[(.int .u8 x117),
    (.int .i64 x118)]) ∧ bif (x100 != x92) then (K (.bool false) w115) else (bif (!(x103.toList == x107.toList)) then (K (.bool false) w115) else (bif (x104 != x108) then (K (.bool
    false) w115) else (bif (x112 != x117) then (K (.bool false) w115) else (bif (x113 != x118) then (K (.bool false) w115) else ((I10 (IntKind.i64.wrap (i14 + 1)) w115 ∧ M11
    (IntKind.i64.wrap (i14 + 1)) w115 < M11 i14 w12))))))) else (bif ((x24.tmod 4) == 3) then (∃ x119 : Int, w23.cell? (p21.add 1) = some (.int .i64 x119) ∧ Calls P
    fn_millpondref03_Store_Clear #[(.pointer x9), (.int .i64 x119)] w23 fun e121 w120 => ∃ x122 : Int, e121 = .returned (.int .i64 x122) ∧ ∃ x123 : Int, w120.cell? (p21.add 0) =
    some (.int .i64 x123) ∧ ∃ x124 : Int, w120.cell? (p21.add 1) = some (.int .i64 x124) ∧ ∃ x125 : Int, w120.cell? (p21.add 2) = some (.int .i64 x125) ∧ ∃ x126 : Int, w120.cell?
    (p21.add 3) = some (.int .u8 x126) ∧ ∃ x127 : ByteArray, w120.cell? (p21.add 4) = some (.string x127) ∧ Calls P fn_millpondlaw03_do #[(.pointer x6), (.agg #[(.int .i64 x123),
    (.int .i64 x124), (.int .i64 x125), (.int .u8 x126), (.string x127)])] w120 fun e129 w128 => ∃ x130 : Int, e129 = .returned (.int .i64 x130) ∧ Calls P fn_bytes_Store_Read
    #[(.pointer x6), (.int .i64 page)] w128 fun e132 w131 => ∃ x133 : ByteArray, ∃ x134 : Int, e132 = .returned (.tuple #[(.string x133), (.int .i64 x134)]) ∧ Calls P
    fn_millpondref03_Store_Read #[(.pointer x9), (.int .i64 page)] w131 fun e136 w135 => ∃ x137 : ByteArray, ∃ x138 : Int, e136 = .returned (.tuple #[(.string x137), (.int .i64
    x138)]) ∧ ∃ x139 : Int, w135.cell? (p21.add 1) = some (.int .i64 x139) ∧ Calls P fn_bytes_Store_Get #[(.pointer x6), (.int .i64 x139), (.int .i64 atA)] w135 fun e141 w140 => ∃
    x142 : Int, ∃ x143 : Int, e141 = .returned (.tuple #[(.int .u8 x142), (.int .i64 x143)]) ∧ ∃ x144 : Int, w140.cell? (p21.add 1) = some (.int .i64 x144) ∧ Calls P
    fn_millpondref03_Store_Get #[(.pointer x9), (.int .i64 x144), (.int .i64 atA)] w140 fun e146 w145 => ∃ x147 : Int, ∃ x148 : Int, e146 = .returned (.tuple #[(.int .u8 x147),
    (.int .i64 x148)]) ∧ bif (x130 != x122) then (K (.bool false) w145) else (bif (!(x133.toList == x137.toList)) then (K (.bool false) w145) else (bif (x134 != x138) then (K (.bool
    false) w145) else (bif (x142 != x147) then (K (.bool false) w145) else (bif (x143 != x148) then (K (.bool false) w145) else ((I10 (IntKind.i64.wrap (i14 + 1)) w145 ∧ M11
    (IntKind.i64.wrap (i14 + 1)) w145 < M11 i14 w12))))))) else (∃ x149 : Int, w23.cell? (p21.add 0) = some (.int .i64 x149) ∧ ∃ x150 : Int, w23.cell? (p21.add 1) = some (.int .i64
    x150) ∧ ∃ x151 : Int, w23.cell? (p21.add 2) = some (.int .i64 x151) ∧ ∃ x152 : Int, w23.cell? (p21.add 3) = some (.int .u8 x152) ∧ ∃ x153 : ByteArray, w23.cell? (p21.add 4) =
    some (.string x153) ∧ Calls P fn_millpondlaw03_do #[(.pointer x6), (.agg #[(.int .i64 x149), (.int .i64 x150), (.int .i64 x151), (.int .u8 x152), (.string x153)])] w23 fun e155
    w154 => ∃ x156 : Int, e155 = .returned (.int .i64 x156) ∧ Calls P fn_bytes_Store_Read #[(.pointer x6), (.int .i64 page)] w154 fun e158 w157 => ∃ x159 : ByteArray, ∃ x160 : Int,
    e158 = .returned (.tuple #[(.string x159), (.int .i64 x160)]) ∧ Calls P fn_millpondref03_Store_Read #[(.pointer x9), (.int .i64 page)] w157 fun e162 w161 => ∃ x163 : ByteArray,
    ∃ x164 : Int, e162 = .returned (.tuple #[(.string x163), (.int .i64 x164)]) ∧ ∃ x165 : Int, w161.cell? (p21.add 1) = some (.int .i64 x165) ∧ Calls P fn_bytes_Store_Get
    #[(.pointer x6), (.int .i64 x165), (.int .i64 atA)] w161 fun e167 w166 => ∃ x168 : Int, ∃ x169 : Int, e167 = .returned (.tuple #[(.int .u8 x168), (.int .i64 x169)]) ∧ ∃ x170 :
    Int, w166.cell? (p21.add 1) = some (.int .i64 x170) ∧ Calls P fn_millpondref03_Store_Get #[(.pointer x9), (.int .i64 x170), (.int .i64 atA)] w166 fun e172 w171 => ∃ x173 : Int,
    ∃ x174 : Int, e172 = .returned (.tuple #[(.int .u8 x173), (.int .i64 x174)]) ∧ bif (x156 != 0) then (K (.bool false) w171) else (bif (!(x159.toList == x163.toList)) then (K
    (.bool false) w171) else (bif (x160 != x164) then (K (.bool false) w171) else (bif (x168 != x173) then (K (.bool false) w171) else (bif (x169 != x174) then (K (.bool false)
    w171) else ((I10 (IntKind.i64.wrap (i14 + 1)) w171 ∧ M11 (IntKind.i64.wrap (i14 + 1)) w171 < M11 i14 w12))))))))))) w22) w12) else (Dr (fun w175 => bif x3 then (NN x9 fun a176
    => ∃ x177 : Sl, w175.cell? (a176.add 0) = some (.slice x177.p x177.n x177.c) ∧ (16 : Int) ≠ 0 ∧ Calls P fn_bytes_Store_Len #[(.pointer x6)] w175 fun e179 w178 => ∃ x180 : Int,
    e179 = .returned (.int .i64 x180) ∧ ∃ x181 : Sl, w178.cell? (a176.add 0) = some (.slice x181.p x181.n x181.c) ∧ ((.slice x181.p x181.n x181.c) : Value) = (.slice x177.p x177.n
    x177.c) ∧ K (.bool (x180 == (IntKind.i64.wrap (((x177.n : Nat) : Int).tdiv 16)))) w178) else (K (.bool false) w175)) w12)))) else (bif (decide (((l.n : Nat) : Int) > 80)) then
    (K (.bool x3) w1) else (Calls P fn_bytes_New #[(.int .i64 n)] w1 fun e183 w182 => ∃ x184 : Option Addr, e183 = .returned (.pointer x184) ∧ Calls P fn_millpondref03_New #[(.int
    .i64 n)] w182 fun e186 w185 => ∃ x187 : Option Addr, e186 = .returned (.pointer x187) ∧ ∃ (I188 : Int → World → Prop) (M189 : Int → World → Nat), I188 0 w185 ∧ ∀ _u191 : Nat →
    Value, ∀ i192 : Int, ∀ w190 : World, I188 i192 w190 → bif (decide (i192 < ((l.n : Nat) : Int))) then (elAt l.p l.n i192 5 fun a193 => ∃ x194 : Int, w190.cell? (a193.add 0) =
    some (.int .i64 x194) ∧ ∃ x195 : Int, w190.cell? (a193.add 1) = some (.int .i64 x195) ∧ ∃ x196 : Int, w190.cell? (a193.add 2) = some (.int .i64 x196) ∧ ∃ x197 : Int, w190.cell?
    (a193.add 3) = some (.int .u8 x197) ∧ ∃ x198 : ByteArray, w190.cell? (a193.add 4) = some (.string x198) ∧ Al (.cells #[(.int .i64 0), (.int .i64 0), (.int .i64 0), (.int .u8 0),
    (.string (ByteArray.mk #[]))] 29) (fun p199 w200 => StN [(.int .i64 x194), (.int .i64 x195), (.int .i64 x196), (.int .u8 x197), (.string x198)] p199 (fun w201 => ∃ x202 : Int,
    w201.cell? (p199.add 0) = some (.int .i64 x202) ∧ (4 : Int) ≠ 0 ∧ bif ((x202.tmod 4) == 0) then (∃ x203 : Int, w201.cell? (p199.add 1) = some (.int .i64 x203) ∧ ∃ x204 :
    ByteArray, w201.cell? (p199.add 4) = some (.string x204) ∧ Calls P fn_millpondref03_Store_Write #[(.pointer x187), (.int .i64 x203), (.string x204)] w201 fun e206 w205 => ∃ x207
    : Int, e206 = .returned (.int .i64 x207) ∧ ∃ x208 : Int, w205.cell? (p199.add 0) = some (.int .i64 x208) ∧ ∃ x209 : Int, w205.cell? (p199.add 1) = some (.int .i64 x209) ∧ ∃ x210
    : Int, w205.cell? (p199.add 2) = some (.int .i64 x210) ∧ ∃ x211 : Int, w205.cell? (p199.add 3) = some (.int .u8 x211) ∧ ∃ x212 : ByteArray, w205.cell? (p199.add 4) = some
    (.string x212) ∧ Calls P fn_millpondlaw03_do #[(.pointer x184), (.agg #[(.int .i64 x208), (.int .i64 x209), (.int .i64 x210), (.int .u8 x211), (.string x212)])] w205 fun e214
    w213 => ∃ x215 : Int, e214 = .returned (.int .i64 x215) ∧ Calls P fn_bytes_Store_Read #[(.pointer x184), (.int .i64 page)] w213 fun e217 w216 => ∃ x218 : ByteArray, ∃ x219 :
    Int, e217 = .returned (.tuple #[(.string x218), (.int .i64 x219)]) ∧ Calls P fn_millpondref03_Store_Read #[(.pointer x187), (.int .i64 page)] w216 fun e221 w220 => ∃ x222 :
    ByteArray, ∃ x223 : Int, e221 = .returned (.tuple #[(.string x222), (.int .i64 x223)]) ∧ ∃ x224 : Int, w220.cell? (p199.add 1) = some (.int .i64 x224) ∧ Calls P
    fn_bytes_Store_Get #[(.pointer x184), (.int .i64 x224), (.int .i64 atA)] w220 fun e226 w225 => ∃ x227 : Int, ∃ x228 : Int, e226 = .returned (.tuple #[(.int .u8 x227), (.int .i64
    x228)]) ∧ ∃ x229 : Int, w225.cell? (p199.add 1) = some (.int .i64 x229) ∧ Calls P fn_millpondref03_Store_Get #[(.pointer x187), (.int .i64 x229), (.int .i64 atA)] w225 fun e231
    w230 => ∃ x232 : Int, ∃ x233 : Int, e231 = .returned (.tuple #[(.int .u8 x232), (.int .i64 x233)]) ∧ bif (x215 != x207) then (K (.bool false) w230) else (bif (!(x218.toList ==
    x222.toList)) then (K (.bool false) w230) else (bif (x219 != x223) then (K (.bool false) w230) else (bif (x227 != x232) then (K (.bool false) w230) else (bif (x228 != x233) then
    (K (.bool false) w230) else ((I188 (IntKind.i64.wrap (i192 + 1)) w230 ∧ M189 (IntKind.i64.wrap (i192 + 1)) w230 < M189 i192 w190))))))) else (bif ((x202.tmod 4) == 1) then (∃
    x234 : Int, w201.cell? (p199.add 1) = some (.int .i64 x234) ∧ ∃ x235 : Int, w201.cell? (p199.add 2) = some (.int .i64 x235) ∧ ∃ x236 : Int, w201.cell? (p199.add 3) = some (.int
    .u8 x236) ∧ Calls P fn_millpondref03_Store_Put #[(.pointer x187), (.int .i64 x234), (.int .i64 x235), (.int .u8 x236)] w201 fun e238 w237 => ∃ x239 : Int, e238 = .returned (.int
    .i64 x239) ∧ ∃ x240 : Int, w237.cell? (p199.add 0) = some (.int .i64 x240) ∧ ∃ x241 : Int, w237.cell? (p199.add 1) = some (.int .i64 x241) ∧ ∃ x242 : Int, w237.cell? (p199.add
    2) = some (.int .i64 x242) ∧ ∃ x243 : Int, w237.cell? (p199.add 3) = some (.int .u8 x243) ∧ ∃ x244 : ByteArray, w237.cell? (p199.add 4) = some (.string x244) ∧ Calls P
    fn_millpondlaw03_do #[(.pointer x184), (.agg #[(.int .i64 x240), (.int .i64 x241), (.int .i64 x242), (.int .u8 x243), (.string x244)])] w237 fun e246 w245 => ∃ x247 : Int, e246
    = .returned (.int .i64 x247) ∧ Calls P fn_bytes_Store_Read #[(.pointer x184), (.int .i64 page)] w245 fun e249 w248 => ∃ x250 : ByteArray, ∃ x251 : Int, e249 = .returned (.tuple
    #[(.string x250), (.int .i64 x251)]) ∧ Calls P fn_millpondref03_Store_Read #[(.pointer x187), (.int .i64 page)] w248 fun e253 w252 => ∃ x254 : ByteArray, ∃ x255 : Int, e253 =
    .returned (.tuple #[(.string x254), (.int .i64 x255)]) ∧ ∃ x256 : Int, w252.cell? (p199.add 1) = some (.int .i64 x256) ∧ Calls P fn_bytes_Store_Get #[(.pointer x184), (.int .i64
    x256), (.int .i64 atA)] w252 fun e258 w257 => ∃ x259 : Int, ∃ x260 : Int, e258 = .returned (.tuple #[(.int .u8 x259), (.int .i64 x260)]) ∧ ∃ x261 : Int, w257.cell? (p199.add 1)
    = some (.int .i64 x261) ∧ Calls P fn_millpondref03_Store_Get #[(.pointer x187), (.int .i64 x261), (.int .i64 atA)] w257 fun e263 w262 => ∃ x264 : Int, ∃ x265 : Int, e263 =
    .returned (.tuple #[(.int .u8 x264), (.int .i64 x265)]) ∧ bif (x247 != x239) then (K (.bool false) w262) else (bif (!(x250.toList == x254.toList)) then (K (.bool false) w262)
    else (bif (x251 != x255) then (K (.bool false) w262) else (bif (x259 != x264) then (K (.bool false) w262) else (bif (x260 != x265) then (K (.bool false) w262) else ((I188
    (IntKind.i64.wrap (i192 + 1)) w262 ∧ M189 (IntKind.i64.wrap (i192 + 1)) w262 < M189 i192 w190))))))) else (bif ((x202.tmod 4) == 2) then (∃ x266 : Int, w201.cell? (p199.add 1) =
    some (.int .i64 x266) ∧ ∃ x267 : Int, w201.cell? (p199.add 2) = some (.int .i64 x267) ∧ Calls P fn_millpondref03_Store_Move #[(.pointer x187), (.int .i64 x266), (.int .i64
    x267)] w201 fun e269 w268 => ∃ x270 : Int, e269 = .returned (.int .i64 x270) ∧ ∃ x271 : Int, w268.cell? (p199.add 0) = some (.int .i64 x271) ∧ ∃ x272 : Int, w268.cell? (p199.add
    1) = some (.int .i64 x272) ∧ ∃ x273 : Int, w268.cell? (p199.add 2) = some (.int .i64 x273) ∧ ∃ x274 : Int, w268.cell? (p199.add 3) = some (.int .u8 x274) ∧ ∃ x275 : ByteArray,
    w268.cell? (p199.add 4) = some (.string x275) ∧ Calls P fn_millpondlaw03_do #[(.pointer x184), (.agg #[(.int .i64 x271), (.int .i64 x272), (.int .i64 x273), (.int .u8 x274),
    (.string x275)])] w268 fun e277 w276 => ∃ x278 : Int, e277 = .returned (.int .i64 x278) ∧ Calls P fn_bytes_Store_Read #[(.pointer x184), (.int .i64 page)] w276 fun e280 w279 =>
    ∃ x281 : ByteArray, ∃ x282 : Int, e280 = .returned (.tuple #[(.string x281), (.int .i64 x282)]) ∧ Calls P fn_millpondref03_Store_Read #[(.pointer x187), (.int .i64 page)] w279
    fun e284 w283 => ∃ x285 : ByteArray, ∃ x286 : Int, e284 = .returned (.tuple #[(.string x285), (.int .i64 x286)]) ∧ ∃ x287 : Int, w283.cell? (p199.add 1) = some (.int .i64 x287)
    ∧ Calls P fn_bytes_Store_Get #[(.pointer x184), (.int .i64 x287), (.int .i64 atA)] w283 fun e289 w288 => ∃ x290 : Int, ∃ x291 : Int, e289 = .returned (.tuple #[(.int .u8 x290),
    (.int .i64 x291)]) ∧ ∃ x292 : Int, w288.cell? (p199.add 1) = some (.int .i64 x292) ∧ Calls P fn_millpondref03_Store_Get #[(.pointer x187), (.int .i64 x292), (.int .i64 atA)]
    w288 fun e294 w293 => ∃ x295 : Int, ∃ x296 : Int, e294 = .returned (.tuple #[(.int .u8 x295), (.int .i64 x296)]) ∧ bif (x278 != x270) then (K (.bool false) w293) else (bif
    (!(x281.toList == x285.toList)) then (K (.bool false) w293) else (bif (x282 != x286) then (K (.bool false) w293) else (bif (x290 != x295) then (K (.bool false) w293) else (bif
    (x291 != x296) then (K (.bool false) w293) else ((I188 (IntKind.i64.wrap (i192 + 1)) w293 ∧ M189 (IntKind.i64.wrap (i192 + 1)) w293 < M189 i192 w190))))))) else (bif ((x202.tmod
    4) == 3) then (∃ x297 : Int, w201.cell? (p199.add 1) = some (.int .i64 x297) ∧ Calls P fn_millpondref03_Store_Clear #[(.pointer x187), (.int .i64 x297)] w201 fun e299 w298 => ∃
    x300 : Int, e299 = .returned (.int .i64 x300) ∧ ∃ x301 : Int, w298.cell? (p199.add 0) = some (.int .i64 x301) ∧ ∃ x302 : Int, w298.cell? (p199.add 1) = some (.int .i64 x302) ∧ ∃
    x303 : Int, w298.cell? (p199.add 2) = some (.int .i64 x303) ∧ ∃ x304 : Int, w298.cell? (p199.add 3) = some (.int .u8 x304) ∧ ∃ x305 : ByteArray, w298.cell? (p199.add 4) = some
    (.string x305) ∧ Calls P fn_millpondlaw03_do #[(.pointer x184), (.agg #[(.int .i64 x301), (.int .i64 x302), (.int .i64 x303), (.int .u8 x304), (.string x305)])] w298 fun e307
    w306 => ∃ x308 : Int, e307 = .returned (.int .i64 x308) ∧ Calls P fn_bytes_Store_Read #[(.pointer x184), (.int .i64 page)] w306 fun e310 w309 => ∃ x311 : ByteArray, ∃ x312 :
    Int, e310 = .returned (.tuple #[(.string x311), (.int .i64 x312)]) ∧ Calls P fn_millpondref03_Store_Read #[(.pointer x187), (.int .i64 page)] w309 fun e314 w313 => ∃ x315 :
    ByteArray, ∃ x316 : Int, e314 = .returned (.tuple #[(.string x315), (.int .i64 x316)]) ∧ ∃ x317 : Int, w313.cell? (p199.add 1) = some (.int .i64 x317) ∧ Calls P
    fn_bytes_Store_Get #[(.pointer x184), (.int .i64 x317), (.int .i64 atA)] w313 fun e319 w318 => ∃ x320 : Int, ∃ x321 : Int, e319 = .returned (.tuple #[(.int .u8 x320), (.int .i64
    x321)]) ∧ ∃ x322 : Int, w318.cell? (p199.add 1) = some (.int .i64 x322) ∧ Calls P fn_millpondref03_Store_Get #[(.pointer x187), (.int .i64 x322), (.int .i64 atA)] w318 fun e324
    w323 => ∃ x325 : Int, ∃ x326 : Int, e324 = .returned (.tuple #[(.int .u8 x325), (.int .i64 x326)]) ∧ bif (x308 != x300) then (K (.bool false) w323) else (bif (!(x311.toList ==
    x315.toList)) then (K (.bool false) w323) else (bif (x312 != x316) then (K (.bool false) w323) else (bif (x320 != x325) then (K (.bool false) w323) else (bif (x321 != x326) then
    (K (.bool false) w323) else ((I188 (IntKind.i64.wrap (i192 + 1)) w323 ∧ M189 (IntKind.i64.wrap (i192 + 1)) w323 < M189 i192 w190))))))) else (∃ x327 : Int, w201.cell? (p199.add
    0) = some (.int .i64 x327) ∧ ∃ x328 : Int, w201.cell? (p199.add 1) = some (.int .i64 x328) ∧ ∃ x329 : Int, w201.cell? (p199.add 2) = some (.int .i64 x329) ∧ ∃ x330 : Int,
    w201.cell? (p199.add 3) = some (.int .u8 x330) ∧ ∃ x331 : ByteArray, w201.cell? (p199.add 4) = some (.string x331) ∧ Calls P fn_millpondlaw03_do #[(.pointer x184), (.agg #[(.int
    .i64 x327), (.int .i64 x328), (.int .i64 x329), (.int .u8 x330), (.string x331)])] w201 fun e333 w332 => ∃ x334 : Int, e333 = .returned (.int .i64 x334) ∧ Calls P
    fn_bytes_Store_Read #[(.pointer x184), (.int .i64 page)] w332 fun e336 w335 => ∃ x337 : ByteArray, ∃ x338 : Int, e336 = .returned (.tuple #[(.string x337), (.int .i64 x338)]) ∧
    Calls P fn_millpondref03_Store_Read #[(.pointer x187), (.int .i64 page)] w335 fun e340 w339 => ∃ x341 : ByteArray, ∃ x342 : Int, e340 = .returned (.tuple #[(.string x341), (.int
    .i64 x342)]) ∧ ∃ x343 : Int, w339.cell? (p199.add 1) = some (.int .i64 x343) ∧ Calls P fn_bytes_Store_Get #[(.pointer x184), (.int .i64 x343), (.int .i64 atA)] w339 fun e345
    w344 => ∃ x346 : Int, ∃ x347 : Int, e345 = .returned (.tuple #[(.int .u8 x346), (.int .i64 x347)]) ∧ ∃ x348 : Int, w344.cell? (p199.add 1) = some (.int .i64 x348) ∧ Calls P
    fn_millpondref03_Store_Get #[(.pointer x187), (.int .i64 x348), (.int .i64 atA)] w344 fun e350 w349 => ∃ x351 : Int, ∃ x352 : Int, e350 = .returned (.tuple #[(.int .u8 x351),
    (.int .i64 x352)]) ∧ bif (x334 != 0) then (K (.bool false) w349) else (bif (!(x337.toList == x341.toList)) then (K (.bool false) w349) else (bif (x338 != x342) then (K (.bool
    false) w349) else (bif (x346 != x351) then (K (.bool false) w349) else (bif (x347 != x352) then (K (.bool false) w349) else ((I188 (IntKind.i64.wrap (i192 + 1)) w349 ∧ M189
    (IntKind.i64.wrap (i192 + 1)) w349 < M189 i192 w190))))))))))) w200) w190) else (Dr (fun w353 => bif x3 then (NN x187 fun a354 => ∃ x355 : Sl, w353.cell? (a354.add 0) = some
    (.slice x355.p x355.n x355.c) ∧ (16 : Int) ≠ 0 ∧ Calls P fn_bytes_Store_Len #[(.pointer x184)] w353 fun e357 w356 => ∃ x358 : Int, e357 = .returned (.int .i64 x358) ∧ ∃ x359 :
    Sl, w356.cell? (a354.add 0) = some (.slice x359.p x359.n x359.c) ∧ ((.slice x359.p x359.n x359.c) : Value) = (.slice x355.p x355.n x355.c) ∧ K (.bool (x358 == (IntKind.i64.wrap
    (((x355.n : Nat) : Int).tdiv 16)))) w356) else (K (.bool false) w353)) w190))))
theorem vc_millpondlaw03_BytesDoes (n : Int) (l : Sl) (page : Int) (atA : Int) (K : Value → World → Prop) (w : World) : vcFn P tau rho pan ann_millpondlaw03_BytesDoes Go.Proofs.Try.f3 #[(.int .i64 n), (.slice l.p l.n l.c), (.int .i64 page), (.int .i64 atA)] K (fun _ _ => False) w = sh_millpondlaw03_BytesDoes n l page atA K w := by kernel_rfl
theorem ok_millpondlaw03_BytesDoes : okFn P ann_millpondlaw03_BytesDoes Go.Proofs.Try.f3 4 = true := by kernel_rfl
theorem of_millpondlaw03_BytesDoes (n : Int) (l : Sl) (page : Int) (atA : Int) {K : Value → World → Prop} {w : World} (h : sh_millpondlaw03_BytesDoes n l page atA K w) : Calls P fn_millpondlaw03_BytesDoes #[(.int .i64 n), (.slice l.p l.n l.c), (.int .i64 page), (.int .i64 atA)] w (Ret K) := calls_of_vc mixed Go.Proofs.Try.func3 ok_millpondlaw03_BytesDoes (by rw [vc_millpondlaw03_BytesDoes]; exact h)

def ann_millpondlaw03_BytesLast : Ann := { quiet := fun d => [32, 35, 39, 40, 44, 49, 53, 58, 62, 63, 67, 71, 78, 79, 81, 111, 114, 118, 123, 128, 132, 149, 153, 157, 158, 163, 165, 174, 179, 183, 185].contains d, head := fun r => (bif r == 19 then 42 else 0), loop := fun r => (bif r == 8 then [(17, .int .i64)] else []) }
/-- millpond/millpondlaw03.BytesLast -/
def sh_millpondlaw03_BytesLast (n : Int) (l : Sl) (page : Int) (text : ByteArray) (other : Int) (atA : Int) (b : Int) (K : Value → World → Prop) (w : World) : Prop :=
  Calls P fn_millpondlaw03_works #[] w fun e2 w1 => ∃ x3 : Bool, e2 = .returned (.bool x3) ∧ bif (!x3) then (K (.bool false) w1) else (bif (decide (n < 1)) then (K (.bool x3) w1) else
    (bif (decide (n > 100)) then (K (.bool x3) w1) else (bif (decide (((l.n : Nat) : Int) > 80)) then (K (.bool x3) w1) else (bif (decide (page < 0)) then (K (.bool x3) w1) else
    (bif (decide (page ≥ n)) then (K (.bool x3) w1) else (bif (decide (other < 0)) then (K (.bool x3) w1) else (bif (decide (other ≥ n)) then (K (.bool x3) w1) else (bif
    (((text.size : Nat) : Int) != 16) then (K (.bool x3) w1) else (bif (decide (atA < 0)) then (K (.bool x3) w1) else (bif (decide (atA > 15)) then (K (.bool x3) w1) else (Calls P
    fn_bytes_New #[(.int .i64 n)] w1 fun e5 w4 => ∃ x6 : Option Addr, e5 = .returned (.pointer x6) ∧ ∃ (I7 : Int → World → Prop) (M8 : Int → World → Nat), I7 0 w4 ∧ ∀ _u10 : Nat →
    Value, ∀ i11 : Int, ∀ w9 : World, I7 i11 w9 → bif (decide (i11 < ((l.n : Nat) : Int))) then (elAt l.p l.n i11 5 fun a12 => ∃ x13 : Int, w9.cell? (a12.add 0) = some (.int .i64
    x13) ∧ ∃ x14 : Int, w9.cell? (a12.add 1) = some (.int .i64 x14) ∧ ∃ x15 : Int, w9.cell? (a12.add 2) = some (.int .i64 x15) ∧ ∃ x16 : Int, w9.cell? (a12.add 3) = some (.int .u8
    x16) ∧ ∃ x17 : ByteArray, w9.cell? (a12.add 4) = some (.string x17) ∧ Calls P fn_millpondlaw03_do #[(.pointer x6), (.agg #[(.int .i64 x13), (.int .i64 x14), (.int .i64 x15),
    (.int .u8 x16), (.string x17)])] w9 fun e19 w18 => ∃ x20 : Int, e19 = .returned (.int .i64 x20) ∧ (I7 (IntKind.i64.wrap (i11 + 1)) w18 ∧ M8 (IntKind.i64.wrap (i11 + 1)) w18 < M8
    i11 w9)) else (Calls P fn_bytes_Store_Read #[(.pointer x6), (.int .i64 other)] w9 fun e22 w21 => ∃ x23 : ByteArray, ∃ x24 : Int, e22 = .returned (.tuple #[(.string x23), (.int
    .i64 x24)]) ∧ Calls P fn_bytes_Store_Write #[(.pointer x6), (.int .i64 page), (.string text)] w21 fun e26 w25 => ∃ x27 : Int, e26 = .returned (.int .i64 x27) ∧ Calls P
    fn_bytes_Store_Read #[(.pointer x6), (.int .i64 page)] w25 fun e29 w28 => ∃ x30 : ByteArray, ∃ x31 : Int, e29 = .returned (.tuple #[(.string x30), (.int .i64 x31)]) ∧ Calls P
    fn_bytes_Store_Read #[(.pointer x6), (.int .i64 other)] w28 fun e33 w32 => ∃ x34 : ByteArray, ∃ x35 : Int, e33 = .returned (.tuple #[(.string x34), (.int .i64 x35)]) ∧ bif (x27
    != 0) then (K (.bool false) w32) else (bif (x31 != 0) then (K (.bool false) w32) else (bif (x35 != 0) then (K (.bool false) w32) else (bif (!(x30.toList == text.toList)) then (K
    (.bool false) w32) else (bif (other != page) then (bif (!(x34.toList == x23.toList)) then (K (.bool false) w32) else (Calls P fn_bytes_Store_Put #[(.pointer x6), (.int .i64
    page), (.int .i64 atA), (.int .u8 b)] w32 fun e37 w36 => ∃ x38 : Int, e37 = .returned (.int .i64 x38) ∧ Calls P fn_bytes_Store_Read #[(.pointer x6), (.int .i64 page)] w36 fun
    e40 w39 => ∃ x41 : ByteArray, ∃ x42 : Int, e40 = .returned (.tuple #[(.string x41), (.int .i64 x42)]) ∧ Dr (fun w43 => bif x3 then (bif (x38 == 0) then (bif (x42 == 0) then (bif
    (((x41.size : Nat) : Int) == 16) then (strAt x41 atA fun b44 => bif (b44 == b) then ((0 ≤ atA ∧ atA ≤ ((x41.size : Nat) : Int)) ∧ (0 ≤ atA ∧ atA ≤ ((text.size : Nat) : Int)) ∧
    bif ((x41.extract 0 atA.toNat).toList == (text.extract 0 atA.toNat).toList) then ((0 ≤ (IntKind.i64.wrap (atA + 1)) ∧ (IntKind.i64.wrap (atA + 1)) ≤ ((x41.size : Nat) : Int)) ∧
    (0 ≤ (IntKind.i64.wrap (atA + 1)) ∧ (IntKind.i64.wrap (atA + 1)) ≤ ((text.size : Nat) : Int)) ∧ K (.bool ((x41.extract ((IntKind.i64.wrap (atA + 1)).toNat) x41.size).toList ==
    (text.extract ((IntKind.i64.wrap (atA + 1)).toNat) text.size).toList)) w43) else (K (.bool false) w43)) else (K (.bool false) w43)) else (K (.bool false) w43)) else (K (.bool
    false) w43)) else (K (.bool false) w43)) else (K (.bool false) w43)) w39)) else (Calls P fn_bytes_Store_Put #[(.pointer x6), (.int .i64 page), (.int .i64 atA), (.int .u8 b)] w32
    fun e46 w45 => ∃ x47 : Int, e46 = .returned (.int .i64 x47) ∧ Calls P fn_bytes_Store_Read #[(.pointer x6), (.int .i64 page)] w45 fun e49 w48 => ∃ x50 : ByteArray, ∃ x51 : Int,
    e49 = .returned (.tuple #[(.string x50), (.int .i64 x51)]) ∧ Dr (fun w52 => bif x3 then (bif (x47 == 0) then (bif (x51 == 0) then (bif (((x50.size : Nat) : Int) == 16) then
    (strAt x50 atA fun b53 => bif (b53 == b) then ((0 ≤ atA ∧ atA ≤ ((x50.size : Nat) : Int)) ∧ (0 ≤ atA ∧ atA ≤ ((text.size : Nat) : Int)) ∧ bif ((x50.extract 0 atA.toNat).toList
    == (text.extract 0 atA.toNat).toList) then ((0 ≤ (IntKind.i64.wrap (atA + 1)) ∧ (IntKind.i64.wrap (atA + 1)) ≤ ((x50.size : Nat) : Int)) ∧ (0 ≤ (IntKind.i64.wrap (atA + 1)) ∧
    (IntKind.i64.wrap (atA + 1)) ≤ ((text.size : Nat) : Int)) ∧ K (.bool ((x50.extract ((IntKind.i64.wrap (atA + 1)).toNat) x50.size).toList == (text.extract ((IntKind.i64.wrap (atA
    + 1)).toNat) text.size).toList)) w52) else (K (.bool false) w52)) else (K (.bool false) w52)) else (K (.bool false) w52)) else (K (.bool false) w52)) else (K (.bool false) w52))
    else (K (.bool false) w52)) w48)))))))))))))))))
theorem vc_millpondlaw03_BytesLast (n : Int) (l : Sl) (page : Int) (text : ByteArray) (other : Int) (atA : Int) (b : Int) (K : Value → World → Prop) (w : World) : vcFn P tau rho pan ann_millpondlaw03_BytesLast Go.Proofs.Try.f4 #[(.int .i64 n), (.slice l.p l.n l.c), (.int .i64 page), (.string text), (.int .i64 other), (.int .i64 atA), (.int .u8 b)] K (fun _ _ => False) w = sh_millpondlaw03_BytesLast n l page text other atA b K w := by kernel_rfl
theorem ok_millpondlaw03_BytesLast : okFn P ann_millpondlaw03_BytesLast Go.Proofs.Try.f4 7 = true := by kernel_rfl
theorem of_millpondlaw03_BytesLast (n : Int) (l : Sl) (page : Int) (text : ByteArray) (other : Int) (atA : Int) (b : Int) {K : Value → World → Prop} {w : World} (h : sh_millpondlaw03_BytesLast n l page text other atA b K w) : Calls P fn_millpondlaw03_BytesLast #[(.int .i64 n), (.slice l.p l.n l.c), (.int .i64 page), (.string text), (.int .i64 other), (.int .i64 atA), (.int .u8 b)] w (Ret K) := calls_of_vc mixed Go.Proofs.Try.func4 ok_millpondlaw03_BytesLast (by rw [vc_millpondlaw03_BytesLast]; exact h)

def ann_millpondlaw03_BytesMoves : Ann := { quiet := fun d => [32, 35, 39, 40, 47, 48, 50, 98, 101, 106, 111, 118, 123, 128, 132, 138, 142, 147].contains d, loop := fun r => (bif r == 8 then [(13, .int .i64)] else []) }
/-- millpond/millpondlaw03.BytesMoves -/
def sh_millpondlaw03_BytesMoves (n : Int) (l : Sl) (fromA : Int) (toA : Int) (other : Int) (K : Value → World → Prop) (w : World) : Prop :=
  Calls P fn_millpondlaw03_works #[] w fun e2 w1 => ∃ x3 : Bool, e2 = .returned (.bool x3) ∧ bif (!x3) then (K (.bool false) w1) else (bif (decide (n < 1)) then (K (.bool x3) w1) else
    (bif (decide (n > 100)) then (K (.bool x3) w1) else (bif (decide (((l.n : Nat) : Int) > 80)) then (K (.bool x3) w1) else (Calls P fn_bytes_New #[(.int .i64 n)] w1 fun e5 w4 => ∃
    x6 : Option Addr, e5 = .returned (.pointer x6) ∧ ∃ (I7 : Int → World → Prop) (M8 : Int → World → Nat), I7 0 w4 ∧ ∀ _u10 : Nat → Value, ∀ i11 : Int, ∀ w9 : World, I7 i11 w9 → bif
    (decide (i11 < ((l.n : Nat) : Int))) then (elAt l.p l.n i11 5 fun a12 => ∃ x13 : Int, w9.cell? (a12.add 0) = some (.int .i64 x13) ∧ ∃ x14 : Int, w9.cell? (a12.add 1) = some
    (.int .i64 x14) ∧ ∃ x15 : Int, w9.cell? (a12.add 2) = some (.int .i64 x15) ∧ ∃ x16 : Int, w9.cell? (a12.add 3) = some (.int .u8 x16) ∧ ∃ x17 : ByteArray, w9.cell? (a12.add 4) =
    some (.string x17) ∧ Calls P fn_millpondlaw03_do #[(.pointer x6), (.agg #[(.int .i64 x13), (.int .i64 x14), (.int .i64 x15), (.int .u8 x16), (.string x17)])] w9 fun e19 w18 => ∃
    x20 : Int, e19 = .returned (.int .i64 x20) ∧ (I7 (IntKind.i64.wrap (i11 + 1)) w18 ∧ M8 (IntKind.i64.wrap (i11 + 1)) w18 < M8 i11 w9)) else (Calls P fn_bytes_Store_Read
    #[(.pointer x6), (.int .i64 fromA)] w9 fun e22 w21 => ∃ x23 : ByteArray, ∃ x24 : Int, e22 = .returned (.tuple #[(.string x23), (.int .i64 x24)]) ∧ Calls P fn_bytes_Store_Read
    #[(.pointer x6), (.int .i64 other)] w21 fun e26 w25 => ∃ x27 : ByteArray, ∃ x28 : Int, e26 = .returned (.tuple #[(.string x27), (.int .i64 x28)]) ∧ Calls P fn_bytes_Store_Read
    #[(.pointer x6), (.int .i64 toA)] w25 fun e30 w29 => ∃ x31 : ByteArray, ∃ x32 : Int, e30 = .returned (.tuple #[(.string x31), (.int .i64 x32)]) ∧ Calls P fn_bytes_Store_Move
    #[(.pointer x6), (.int .i64 fromA), (.int .i64 toA)] w29 fun e34 w33 => ∃ x35 : Int, e34 = .returned (.int .i64 x35) ∧ Calls P fn_bytes_Store_Read #[(.pointer x6), (.int .i64
    toA)] w33 fun e37 w36 => ∃ x38 : ByteArray, ∃ x39 : Int, e37 = .returned (.tuple #[(.string x38), (.int .i64 x39)]) ∧ Calls P fn_bytes_Store_Read #[(.pointer x6), (.int .i64
    fromA)] w36 fun e41 w40 => ∃ x42 : ByteArray, ∃ x43 : Int, e41 = .returned (.tuple #[(.string x42), (.int .i64 x43)]) ∧ Calls P fn_bytes_Store_Read #[(.pointer x6), (.int .i64
    other)] w40 fun e45 w44 => ∃ x46 : ByteArray, ∃ x47 : Int, e45 = .returned (.tuple #[(.string x46), (.int .i64 x47)]) ∧ bif (x24 != 0) then (bif x3 then (bif (x35 == 1) then (K
    (.bool (x46.toList == x27.toList)) w44) else (K (.bool false) w44)) else (K (.bool false) w44)) else (bif (x32 != 0) then (bif x3 then (bif (x35 == 1) then (K (.bool (x46.toList
    == x27.toList)) w44) else (K (.bool false) w44)) else (K (.bool false) w44)) else (∃ x49 : Sl, ∃ w48 : World, Sem.run P (Instr.makeSlice 41 (.int .i64 16) (.int .i64 16)) w44 =
    .ok (.slice x49.p x49.n x49.c) w48 ∧ ∃ x51 : ByteArray, ∃ w50 : World, Sem.run P (convert 41 9 (.slice x49.p x49.n x49.c)) w48 = .ok (.string x51) w50 ∧ bif x3 then (bif (x35 ==
    0) then (bif (x38.toList == x23.toList) then (bif (fromA == toA) then (bif (other == fromA) then (K (.bool true) w50) else (bif (other == toA) then (K (.bool true) w50) else (K
    (.bool (x46.toList == x27.toList)) w50))) else (bif (x42.toList == x51.toList) then (bif (other == fromA) then (K (.bool true) w50) else (bif (other == toA) then (K (.bool true)
    w50) else (K (.bool (x46.toList == x27.toList)) w50))) else (K (.bool false) w50))) else (K (.bool false) w50)) else (K (.bool false) w50)) else (K (.bool false) w50))))))))
theorem vc_millpondlaw03_BytesMoves (n : Int) (l : Sl) (fromA : Int) (toA : Int) (other : Int) (K : Value → World → Prop) (w : World) : vcFn P tau rho pan ann_millpondlaw03_BytesMoves Go.Proofs.Try.f5 #[(.int .i64 n), (.slice l.p l.n l.c), (.int .i64 fromA), (.int .i64 toA), (.int .i64 other)] K (fun _ _ => False) w = sh_millpondlaw03_BytesMoves n l fromA toA other K w := by kernel_rfl
theorem ok_millpondlaw03_BytesMoves : okFn P ann_millpondlaw03_BytesMoves Go.Proofs.Try.f5 5 = true := by kernel_rfl
theorem of_millpondlaw03_BytesMoves (n : Int) (l : Sl) (fromA : Int) (toA : Int) (other : Int) {K : Value → World → Prop} {w : World} (h : sh_millpondlaw03_BytesMoves n l fromA toA other K w) : Calls P fn_millpondlaw03_BytesMoves #[(.int .i64 n), (.slice l.p l.n l.c), (.int .i64 fromA), (.int .i64 toA), (.int .i64 other)] w (Ret K) := calls_of_vc mixed Go.Proofs.Try.func5 ok_millpondlaw03_BytesMoves (by rw [vc_millpondlaw03_BytesMoves]; exact h)

def ann_millpondlaw03_BytesByte : Ann := { quiet := fun d => [19, 22, 26, 27, 31, 36, 43, 44, 46, 60, 63, 64, 67, 69, 78, 81, 84, 87, 90, 95, 96].contains d, loop := fun r => (bif r == 8 then [(9, .int .i64)] else bif r == 15 then [(12, .int .i64)] else []) }
/-- millpond/millpondlaw03.BytesByte -/
def sh_millpondlaw03_BytesByte (n : Int) (l : Sl) (page : Int) (K : Value → World → Prop) (w : World) : Prop :=
  Calls P fn_millpondlaw03_works #[] w fun e2 w1 => ∃ x3 : Bool, e2 = .returned (.bool x3) ∧ bif (!x3) then (K (.bool false) w1) else (bif (decide (n < 1)) then (K (.bool x3) w1) else
    (bif (decide (n > 100)) then (K (.bool x3) w1) else (bif (decide (((l.n : Nat) : Int) > 80)) then (K (.bool x3) w1) else (bif (decide (page < 0)) then (K (.bool x3) w1) else
    (bif (decide (page ≥ n)) then (K (.bool x3) w1) else (Calls P fn_bytes_New #[(.int .i64 n)] w1 fun e5 w4 => ∃ x6 : Option Addr, e5 = .returned (.pointer x6) ∧ ∃ (I7 : Int →
    World → Prop) (M8 : Int → World → Nat), I7 0 w4 ∧ ∀ _u10 : Nat → Value, ∀ i11 : Int, ∀ w9 : World, I7 i11 w9 → bif (decide (i11 < ((l.n : Nat) : Int))) then (elAt l.p l.n i11 5
    fun a12 => ∃ x13 : Int, w9.cell? (a12.add 0) = some (.int .i64 x13) ∧ ∃ x14 : Int, w9.cell? (a12.add 1) = some (.int .i64 x14) ∧ ∃ x15 : Int, w9.cell? (a12.add 2) = some (.int
    .i64 x15) ∧ ∃ x16 : Int, w9.cell? (a12.add 3) = some (.int .u8 x16) ∧ ∃ x17 : ByteArray, w9.cell? (a12.add 4) = some (.string x17) ∧ Calls P fn_millpondlaw03_do #[(.pointer x6),
    (.agg #[(.int .i64 x13), (.int .i64 x14), (.int .i64 x15), (.int .u8 x16), (.string x17)])] w9 fun e19 w18 => ∃ x20 : Int, e19 = .returned (.int .i64 x20) ∧ (I7
    (IntKind.i64.wrap (i11 + 1)) w18 ∧ M8 (IntKind.i64.wrap (i11 + 1)) w18 < M8 i11 w9)) else (Calls P fn_bytes_Store_Read #[(.pointer x6), (.int .i64 page)] w9 fun e22 w21 => ∃ x23
    : ByteArray, ∃ x24 : Int, e22 = .returned (.tuple #[(.string x23), (.int .i64 x24)]) ∧ bif (x24 != 0) then (K (.bool false) w21) else (bif (((x23.size : Nat) : Int) != 16) then
    (K (.bool false) w21) else (∃ (I25 : Int → World → Prop) (M26 : Int → World → Nat), I25 (-1) w21 ∧ ∀ _u28 : Nat → Value, ∀ i29 : Int, ∀ w27 : World, I25 i29 w27 → bif (decide
    (i29 < 17)) then (Calls P fn_bytes_Store_Get #[(.pointer x6), (.int .i64 page), (.int .i64 i29)] w27 fun e31 w30 => ∃ x32 : Int, ∃ x33 : Int, e31 = .returned (.tuple #[(.int .u8
    x32), (.int .i64 x33)]) ∧ bif (decide (i29 < 0)) then (bif (x33 != 1) then (K (.bool false) w30) else (bif (x32 != 0) then (K (.bool false) w30) else ((I25 (IntKind.i64.wrap
    (i29 + 1)) w30 ∧ M26 (IntKind.i64.wrap (i29 + 1)) w30 < M26 i29 w27)))) else (bif (decide (i29 > 15)) then (bif (x33 != 1) then (K (.bool false) w30) else (bif (x32 != 0) then
    (K (.bool false) w30) else ((I25 (IntKind.i64.wrap (i29 + 1)) w30 ∧ M26 (IntKind.i64.wrap (i29 + 1)) w30 < M26 i29 w27)))) else (bif (x33 != 0) then (K (.bool false) w30) else
    (strAt x23 i29 fun b34 => bif (x32 != b34) then (K (.bool false) w30) else ((I25 (IntKind.i64.wrap (i29 + 1)) w30 ∧ M26 (IntKind.i64.wrap (i29 + 1)) w30 < M26 i29 w27)))))) else
    (K (.bool x3) w27))))))))))
theorem vc_millpondlaw03_BytesByte (n : Int) (l : Sl) (page : Int) (K : Value → World → Prop) (w : World) : vcFn P tau rho pan ann_millpondlaw03_BytesByte Go.Proofs.Try.f6 #[(.int .i64 n), (.slice l.p l.n l.c), (.int .i64 page)] K (fun _ _ => False) w = sh_millpondlaw03_BytesByte n l page K w := by kernel_rfl
theorem ok_millpondlaw03_BytesByte : okFn P ann_millpondlaw03_BytesByte Go.Proofs.Try.f6 3 = true := by kernel_rfl
theorem of_millpondlaw03_BytesByte (n : Int) (l : Sl) (page : Int) {K : Value → World → Prop} {w : World} (h : sh_millpondlaw03_BytesByte n l page K w) : Calls P fn_millpondlaw03_BytesByte #[(.int .i64 n), (.slice l.p l.n l.c), (.int .i64 page)] w (Ret K) := calls_of_vc mixed Go.Proofs.Try.func6 ok_millpondlaw03_BytesByte (by rw [vc_millpondlaw03_BytesByte]; exact h)

def ann_millpondlaw03_works : Ann := { quiet := fun d => [10, 26, 29, 33, 37, 41, 45, 50].contains d }
/-- millpond/millpondlaw03.works -/
def sh_millpondlaw03_works (K : Value → World → Prop) (w : World) : Prop :=
  Calls P fn_bytes_New #[(.int .i64 2)] w fun e2 w1 => ∃ x3 : Option Addr, e2 = .returned (.pointer x3) ∧ bif x3.isNone then (K (.bool false) w1) else (Calls P fn_bytes_Store_Put
    #[(.pointer x3), (.int .i64 1), (.int .i64 3), (.int .u8 7)] w1 fun e5 w4 => ∃ x6 : Int, e5 = .returned (.int .i64 x6) ∧ Calls P fn_bytes_Store_Move #[(.pointer x3), (.int .i64
    1), (.int .i64 0)] w4 fun e8 w7 => ∃ x9 : Int, e8 = .returned (.int .i64 x9) ∧ Calls P fn_bytes_Store_Get #[(.pointer x3), (.int .i64 0), (.int .i64 3)] w7 fun e11 w10 => ∃ x12
    : Int, ∃ x13 : Int, e11 = .returned (.tuple #[(.int .u8 x12), (.int .i64 x13)]) ∧ Calls P fn_bytes_Store_Get #[(.pointer x3), (.int .i64 1), (.int .i64 3)] w10 fun e15 w14 => ∃
    x16 : Int, ∃ x17 : Int, e15 = .returned (.tuple #[(.int .u8 x16), (.int .i64 x17)]) ∧ bif (x6 == 0) then (bif (x9 == 0) then (bif (x12 == 7) then (bif (x16 == 0) then (bif (x13
    == 0) then (bif (x17 == 0) then (Calls P fn_bytes_Store_Len #[(.pointer x3)] w14 fun e19 w18 => ∃ x20 : Int, e19 = .returned (.int .i64 x20) ∧ K (.bool (x20 == 2)) w18) else (K
    (.bool false) w14)) else (K (.bool false) w14)) else (K (.bool false) w14)) else (K (.bool false) w14)) else (K (.bool false) w14)) else (K (.bool false) w14))
theorem vc_millpondlaw03_works (K : Value → World → Prop) (w : World) : vcFn P tau rho pan ann_millpondlaw03_works Go.Proofs.Try.f7 #[] K (fun _ _ => False) w = sh_millpondlaw03_works K w := by kernel_rfl
theorem ok_millpondlaw03_works : okFn P ann_millpondlaw03_works Go.Proofs.Try.f7 0 = true := by kernel_rfl
theorem of_millpondlaw03_works {K : Value → World → Prop} {w : World} (h : sh_millpondlaw03_works K w) : Calls P fn_millpondlaw03_works #[] w (Ret K) := calls_of_vc mixed Go.Proofs.Try.func7 ok_millpondlaw03_works (by rw [vc_millpondlaw03_works]; exact h)

def ann_bytes_New : Ann := { quiet := fun d => [4, 5].contains d }
/-- millpond/bytes.New -/
def sh_bytes_New (n : Int) (K : Value → World → Prop) (w : World) : Prop :=
  ∃ x2 : Sl, ∃ w1 : World, Sem.run P (Instr.makeSlice 48 (.int .i64 (min1 (max1 n 0) 1024)) (.int .i64 (min1 (max1 n 0) 1024))) w = .ok (.slice x2.p x2.n x2.c) w1 ∧ Al (.cells
    #[(.slice x2.p x2.n x2.c)] 50) (fun p3 w4 => K (.pointer (some p3)) w4) w1
theorem vc_bytes_New (n : Int) (K : Value → World → Prop) (w : World) : vcFn P tau rho pan ann_bytes_New Go.Proofs.Try.f8 #[(.int .i64 n)] K (fun _ _ => False) w = sh_bytes_New n K w := by kernel_rfl
theorem ok_bytes_New : okFn P ann_bytes_New Go.Proofs.Try.f8 1 = true := by kernel_rfl
theorem of_bytes_New (n : Int) {K : Value → World → Prop} {w : World} (h : sh_bytes_New n K w) : Calls P fn_bytes_New #[(.int .i64 n)] w (Ret K) := calls_of_vc mixed Go.Proofs.Try.func8 ok_bytes_New (by rw [vc_bytes_New]; exact h)

def ann_millpondref03_New : Ann := { quiet := fun d => [4, 5, 6].contains d }
/-- millpond/millpondref03.New -/
def sh_millpondref03_New (n : Int) (K : Value → World → Prop) (w : World) : Prop :=
  ∃ x2 : Sl, ∃ w1 : World, Sem.run P (Instr.makeSlice 41 (.int .i64 (IntKind.i64.wrap (16 * (min1 (max1 n 0) 1024)))) (.int .i64 (IntKind.i64.wrap (16 * (min1 (max1 n 0) 1024))))) w =
    .ok (.slice x2.p x2.n x2.c) w1 ∧ Al (.cells #[(.slice x2.p x2.n x2.c)] 43) (fun p3 w4 => K (.pointer (some p3)) w4) w1
theorem vc_millpondref03_New (n : Int) (K : Value → World → Prop) (w : World) : vcFn P tau rho pan ann_millpondref03_New Go.Proofs.Try.f9 #[(.int .i64 n)] K (fun _ _ => False) w = sh_millpondref03_New n K w := by kernel_rfl
theorem ok_millpondref03_New : okFn P ann_millpondref03_New Go.Proofs.Try.f9 1 = true := by kernel_rfl
theorem of_millpondref03_New (n : Int) {K : Value → World → Prop} {w : World} (h : sh_millpondref03_New n K w) : Calls P fn_millpondref03_New #[(.int .i64 n)] w (Ret K) := calls_of_vc mixed Go.Proofs.Try.func9 ok_millpondref03_New (by rw [vc_millpondref03_New]; exact h)

def ann_millpondref03_Store_Write : Ann := { quiet := fun d => [14, 15, 18, 20, 26, 28, 31].contains d, sig := fun r => (bif r == 6 then some ([0, 1, 2, 3, 4, 5, 6, 7, 8, 9, 10, 11, 12], [12]) else none), loop := fun r => (bif r == 4 then [(7, .int .i64)] else []) }
/-- (*millpond/millpondref03.Store).Write -/
def sh_millpondref03_Store_Write (s : Option Addr) (i : Int) (t : ByteArray) (K : Value → World → Prop) (w : World) : Prop :=
  Calls P fn_millpondref03_Store_page #[(.pointer s), (.int .i64 i)] w fun e2 w1 => ∃ x3 : Bool, e2 = .returned (.bool x3) ∧ bif (!x3) then (K (.int .i64 1) w1) else (bif (((t.size :
    Nat) : Int) != 16) then (K (.int .i64 1) w1) else (∃ (I4 : Int → World → Prop) (M5 : Int → World → Nat), I4 0 w1 ∧ ∀ _u7 : Nat → Value, ∀ k8 : Int, ∀ w6 : World, I4 k8 w6 → bif
    (decide (k8 < 16)) then (Dr (fun w9 => NN s fun a10 => ∃ x11 : Sl, w9.cell? (a10.add 0) = some (.slice x11.p x11.n x11.c) ∧ strAt t k8 fun b12 => elAt x11.p x11.n
    (IntKind.i64.wrap ((IntKind.i64.wrap (16 * i)) + k8)) 1 fun a13 => St a13 (.int .u8 b12) (fun w14 => (I4 (IntKind.i64.wrap (k8 + 1)) w14 ∧ M5 (IntKind.i64.wrap (k8 + 1)) w14 <
    M5 k8 w6)) w9) w6) else (K (.int .i64 0) w6)))
theorem vc_millpondref03_Store_Write (s : Option Addr) (i : Int) (t : ByteArray) (K : Value → World → Prop) (w : World) : vcFn P tau rho pan ann_millpondref03_Store_Write Go.Proofs.Try.f10 #[(.pointer s), (.int .i64 i), (.string t)] K (fun _ _ => False) w = sh_millpondref03_Store_Write s i t K w := by kernel_rfl
theorem ok_millpondref03_Store_Write : okFn P ann_millpondref03_Store_Write Go.Proofs.Try.f10 3 = true := by kernel_rfl
theorem of_millpondref03_Store_Write (s : Option Addr) (i : Int) (t : ByteArray) {K : Value → World → Prop} {w : World} (h : sh_millpondref03_Store_Write s i t K w) : Calls P fn_millpondref03_Store_Write #[(.pointer s), (.int .i64 i), (.string t)] w (Ret K) := calls_of_vc mixed Go.Proofs.Try.func10 ok_millpondref03_Store_Write (by rw [vc_millpondref03_Store_Write]; exact h)

def ann_millpondref03_Store_Put : Ann := { quiet := fun d => [15, 19, 26, 28].contains d }
/-- (*millpond/millpondref03.Store).Put -/
def sh_millpondref03_Store_Put (s : Option Addr) (i : Int) (atA : Int) (b : Int) (K : Value → World → Prop) (w : World) : Prop :=
  Calls P fn_millpondref03_Store_page #[(.pointer s), (.int .i64 i)] w fun e2 w1 => ∃ x3 : Bool, e2 = .returned (.bool x3) ∧ bif (!x3) then (K (.int .i64 1) w1) else (bif (decide (atA
    < 0)) then (K (.int .i64 1) w1) else (bif (decide (atA > 15)) then (K (.int .i64 1) w1) else (NN s fun a4 => ∃ x5 : Sl, w1.cell? (a4.add 0) = some (.slice x5.p x5.n x5.c) ∧ elAt
    x5.p x5.n (IntKind.i64.wrap ((IntKind.i64.wrap (16 * i)) + atA)) 1 fun a6 => St a6 (.int .u8 b) (fun w7 => K (.int .i64 0) w7) w1)))
theorem vc_millpondref03_Store_Put (s : Option Addr) (i : Int) (atA : Int) (b : Int) (K : Value → World → Prop) (w : World) : vcFn P tau rho pan ann_millpondref03_Store_Put Go.Proofs.Try.f11 #[(.pointer s), (.int .i64 i), (.int .i64 atA), (.int .u8 b)] K (fun _ _ => False) w = sh_millpondref03_Store_Put s i atA b K w := by kernel_rfl
theorem ok_millpondref03_Store_Put : okFn P ann_millpondref03_Store_Put Go.Proofs.Try.f11 4 = true := by kernel_rfl
theorem of_millpondref03_Store_Put (s : Option Addr) (i : Int) (atA : Int) (b : Int) {K : Value → World → Prop} {w : World} (h : sh_millpondref03_Store_Put s i atA b K w) : Calls P fn_millpondref03_Store_Put #[(.pointer s), (.int .i64 i), (.int .i64 atA), (.int .u8 b)] w (Ret K) := calls_of_vc mixed Go.Proofs.Try.func11 ok_millpondref03_Store_Put (by rw [vc_millpondref03_Store_Put]; exact h)

def ann_millpondref03_Store_Move : Ann := { quiet := fun d => [21].contains d }
/-- (*millpond/millpondref03.Store).Move -/
def sh_millpondref03_Store_Move (s : Option Addr) (fromA : Int) (toA : Int) (K : Value → World → Prop) (w : World) : Prop :=
  Calls P fn_millpondref03_Store_page #[(.pointer s), (.int .i64 fromA)] w fun e2 w1 => ∃ x3 : Bool, e2 = .returned (.bool x3) ∧ bif (!x3) then (K (.int .i64 1) w1) else (Calls P
    fn_millpondref03_Store_page #[(.pointer s), (.int .i64 toA)] w1 fun e5 w4 => ∃ x6 : Bool, e5 = .returned (.bool x6) ∧ bif (!x6) then (K (.int .i64 1) w4) else (bif (fromA !=
    toA) then (Calls P fn_millpondref03_Store_Read #[(.pointer s), (.int .i64 fromA)] w4 fun e8 w7 => ∃ x9 : ByteArray, ∃ x10 : Int, e8 = .returned (.tuple #[(.string x9), (.int
    .i64 x10)]) ∧ Calls P fn_millpondref03_Store_Write #[(.pointer s), (.int .i64 toA), (.string x9)] w7 fun e12 w11 => ∃ x13 : Int, e12 = .returned (.int .i64 x13) ∧ Calls P
    fn_millpondref03_Store_Clear #[(.pointer s), (.int .i64 fromA)] w11 fun e15 w14 => ∃ x16 : Int, e15 = .returned (.int .i64 x16) ∧ K (.int .i64 0) w14) else (K (.int .i64 0)
    w4)))
theorem vc_millpondref03_Store_Move (s : Option Addr) (fromA : Int) (toA : Int) (K : Value → World → Prop) (w : World) : vcFn P tau rho pan ann_millpondref03_Store_Move Go.Proofs.Try.f12 #[(.pointer s), (.int .i64 fromA), (.int .i64 toA)] K (fun _ _ => False) w = sh_millpondref03_Store_Move s fromA toA K w := by kernel_rfl
theorem ok_millpondref03_Store_Move : okFn P ann_millpondref03_Store_Move Go.Proofs.Try.f12 3 = true := by kernel_rfl
theorem of_millpondref03_Store_Move (s : Option Addr) (fromA : Int) (toA : Int) {K : Value → World → Prop} {w : World} (h : sh_millpondref03_Store_Move s fromA toA K w) : Calls P fn_millpondref03_Store_Move #[(.pointer s), (.int .i64 fromA), (.int .i64 toA)] w (Ret K) := calls_of_vc mixed Go.Proofs.Try.func12 ok_millpondref03_Store_Move (by rw [vc_millpondref03_Store_Move]; exact h)

def ann_millpondref03_Store_Clear : Ann := {}
/-- (*millpond/millpondref03.Store).Clear -/
def sh_millpondref03_Store_Clear (s : Option Addr) (i : Int) (K : Value → World → Prop) (w : World) : Prop :=
  ∃ x2 : Sl, ∃ w1 : World, Sem.run P (Instr.makeSlice 41 (.int .i64 16) (.int .i64 16)) w = .ok (.slice x2.p x2.n x2.c) w1 ∧ ∃ x4 : ByteArray, ∃ w3 : World, Sem.run P (convert 41 9
    (.slice x2.p x2.n x2.c)) w1 = .ok (.string x4) w3 ∧ Calls P fn_millpondref03_Store_Write #[(.pointer s), (.int .i64 i), (.string x4)] w3 fun e6 w5 => ∃ x7 : Int, e6 = .returned
    (.int .i64 x7) ∧ K (.int .i64 x7) w5
theorem vc_millpondref03_Store_Clear (s : Option Addr) (i : Int) (K : Value → World → Prop) (w : World) : vcFn P tau rho pan ann_millpondref03_Store_Clear Go.Proofs.Try.f13 #[(.pointer s), (.int .i64 i)] K (fun _ _ => False) w = sh_millpondref03_Store_Clear s i K w := by kernel_rfl
theorem ok_millpondref03_Store_Clear : okFn P ann_millpondref03_Store_Clear Go.Proofs.Try.f13 2 = true := by kernel_rfl
theorem of_millpondref03_Store_Clear (s : Option Addr) (i : Int) {K : Value → World → Prop} {w : World} (h : sh_millpondref03_Store_Clear s i K w) : Calls P fn_millpondref03_Store_Clear #[(.pointer s), (.int .i64 i)] w (Ret K) := calls_of_vc mixed Go.Proofs.Try.func13 ok_millpondref03_Store_Clear (by rw [vc_millpondref03_Store_Clear]; exact h)

def ann_millpondlaw03_do : Ann := { quiet := fun d => [7, 9, 17, 27, 35].contains d }
/-- millpond/millpondlaw03.do -/
def sh_millpondlaw03_do (s : Option Addr) (a_0 : Int) (a_1 : Int) (a_2 : Int) (a_3 : Int) (a_4 : ByteArray) (K : Value → World → Prop) (w : World) : Prop :=
  Al (.cells #[(.int .i64 a_0), (.int .i64 a_1), (.int .i64 a_2), (.int .u8 a_3), (.string a_4)] 29) (fun p1 w2 => ∃ x3 : Int, w2.cell? (p1.add 0) = some (.int .i64 x3) ∧ (4 : Int) ≠
    0 ∧ bif ((x3.tmod 4) == 0) then (∃ x4 : Int, w2.cell? (p1.add 1) = some (.int .i64 x4) ∧ ∃ x5 : ByteArray, w2.cell? (p1.add 4) = some (.string x5) ∧ Calls P fn_bytes_Store_Write
    #[(.pointer s), (.int .i64 x4), (.string x5)] w2 fun e7 w6 => ∃ x8 : Int, e7 = .returned (.int .i64 x8) ∧ K (.int .i64 x8) w6) else (bif ((x3.tmod 4) == 1) then (∃ x9 : Int,
    w2.cell? (p1.add 1) = some (.int .i64 x9) ∧ ∃ x10 : Int, w2.cell? (p1.add 2) = some (.int .i64 x10) ∧ ∃ x11 : Int, w2.cell? (p1.add 3) = some (.int .u8 x11) ∧ Calls P
    fn_bytes_Store_Put #[(.pointer s), (.int .i64 x9), (.int .i64 x10), (.int .u8 x11)] w2 fun e13 w12 => ∃ x14 : Int, e13 = .returned (.int .i64 x14) ∧ K (.int .i64 x14) w12) else
    (bif ((x3.tmod 4) == 2) then (∃ x15 : Int, w2.cell? (p1.add 1) = some (.int .i64 x15) ∧ ∃ x16 : Int, w2.cell? (p1.add 2) = some (.int .i64 x16) ∧ Calls P fn_bytes_Store_Move
    #[(.pointer s), (.int .i64 x15), (.int .i64 x16)] w2 fun e18 w17 => ∃ x19 : Int, e18 = .returned (.int .i64 x19) ∧ K (.int .i64 x19) w17) else (bif ((x3.tmod 4) == 3) then (∃
    x20 : Int, w2.cell? (p1.add 1) = some (.int .i64 x20) ∧ Calls P fn_bytes_Store_Clear #[(.pointer s), (.int .i64 x20)] w2 fun e22 w21 => ∃ x23 : Int, e22 = .returned (.int .i64
    x23) ∧ K (.int .i64 x23) w21) else (K (.int .i64 0) w2))))) w
theorem vc_millpondlaw03_do (s : Option Addr) (a_0 : Int) (a_1 : Int) (a_2 : Int) (a_3 : Int) (a_4 : ByteArray) (K : Value → World → Prop) (w : World) : vcFn P tau rho pan ann_millpondlaw03_do Go.Proofs.Try.f14 #[(.pointer s), (.agg #[(.int .i64 a_0), (.int .i64 a_1), (.int .i64 a_2), (.int .u8 a_3), (.string a_4)])] K (fun _ _ => False) w = sh_millpondlaw03_do s a_0 a_1 a_2 a_3 a_4 K w := by kernel_rfl
theorem ok_millpondlaw03_do : okFn P ann_millpondlaw03_do Go.Proofs.Try.f14 2 = true := by kernel_rfl
theorem of_millpondlaw03_do (s : Option Addr) (a_0 : Int) (a_1 : Int) (a_2 : Int) (a_3 : Int) (a_4 : ByteArray) {K : Value → World → Prop} {w : World} (h : sh_millpondlaw03_do s a_0 a_1 a_2 a_3 a_4 K w) : Calls P fn_millpondlaw03_do #[(.pointer s), (.agg #[(.int .i64 a_0), (.int .i64 a_1), (.int .i64 a_2), (.int .u8 a_3), (.string a_4)])] w (Ret K) := calls_of_vc mixed Go.Proofs.Try.func14 ok_millpondlaw03_do (by rw [vc_millpondlaw03_do]; exact h)

def ann_bytes_Store_Read : Ann := { quiet := fun d => [11].contains d }
/-- (*millpond/bytes.Store).Read -/
def sh_bytes_Store_Read (s : Option Addr) (i : Int) (K : Value → World → Prop) (w : World) : Prop :=
  Calls P fn_bytes_Store_at #[(.pointer s), (.int .i64 i)] w fun e2 w1 => ∃ x3 : Option Addr, e2 = .returned (.pointer x3) ∧ bif x3.isNone then (K (.tuple #[(.string (ByteArray.mk
    #[])), (.int .i64 1)]) w1) else (NN x3 fun a4 => ∃ x6 : ByteArray, ∃ w5 : World, Sem.run P (convert 41 9 (.slice (slA1 a4 0 16 1) (16 - 0) (16 - 0))) w1 = .ok (.string x6) w5 ∧
    K (.tuple #[(.string x6), (.int .i64 0)]) w5)
theorem vc_bytes_Store_Read (s : Option Addr) (i : Int) (K : Value → World → Prop) (w : World) : vcFn P tau rho pan ann_bytes_Store_Read Go.Proofs.Try.f15 #[(.pointer s), (.int .i64 i)] K (fun _ _ => False) w = sh_bytes_Store_Read s i K w := by kernel_rfl
theorem ok_bytes_Store_Read : okFn P ann_bytes_Store_Read Go.Proofs.Try.f15 2 = true := by kernel_rfl
theorem of_bytes_Store_Read (s : Option Addr) (i : Int) {K : Value → World → Prop} {w : World} (h : sh_bytes_Store_Read s i K w) : Calls P fn_bytes_Store_Read #[(.pointer s), (.int .i64 i)] w (Ret K) := calls_of_vc mixed Go.Proofs.Try.func15 ok_bytes_Store_Read (by rw [vc_bytes_Store_Read]; exact h)

def ann_millpondref03_Store_Read : Ann := { quiet := fun d => [15, 17, 18].contains d }
/-- (*millpond/millpondref03.Store).Read -/
def sh_millpondref03_Store_Read (s : Option Addr) (i : Int) (K : Value → World → Prop) (w : World) : Prop :=
  Calls P fn_millpondref03_Store_page #[(.pointer s), (.int .i64 i)] w fun e2 w1 => ∃ x3 : Bool, e2 = .returned (.bool x3) ∧ bif (!x3) then (K (.tuple #[(.string (ByteArray.mk #[])),
    (.int .i64 1)]) w1) else (NN s fun a4 => ∃ x5 : Sl, w1.cell? (a4.add 0) = some (.slice x5.p x5.n x5.c) ∧ (0 ≤ (IntKind.i64.wrap ((IntKind.i64.wrap (16 * i)) + 16)) ∧
    (IntKind.i64.wrap ((IntKind.i64.wrap (16 * i)) + 16)) ≤ ((x5.c : Nat) : Int)) ∧ (0 ≤ (IntKind.i64.wrap (16 * i)) ∧ (IntKind.i64.wrap (16 * i)) ≤ (((IntKind.i64.wrap
    ((IntKind.i64.wrap (16 * i)) + 16)).toNat : Nat) : Int)) ∧ ∃ x7 : ByteArray, ∃ w6 : World, Sem.run P (convert 41 9 (.slice (slA x5.p ((IntKind.i64.wrap (16 * i)).toNat) x5.c 1)
    ((IntKind.i64.wrap ((IntKind.i64.wrap (16 * i)) + 16)).toNat - (IntKind.i64.wrap (16 * i)).toNat) (x5.c - (IntKind.i64.wrap (16 * i)).toNat))) w1 = .ok (.string x7) w6 ∧ K
    (.tuple #[(.string x7), (.int .i64 0)]) w6)
theorem vc_millpondref03_Store_Read (s : Option Addr) (i : Int) (K : Value → World → Prop) (w : World) : vcFn P tau rho pan ann_millpondref03_Store_Read Go.Proofs.Try.f16 #[(.pointer s), (.int .i64 i)] K (fun _ _ => False) w = sh_millpondref03_Store_Read s i K w := by kernel_rfl
theorem ok_millpondref03_Store_Read : okFn P ann_millpondref03_Store_Read Go.Proofs.Try.f16 2 = true := by kernel_rfl
theorem of_millpondref03_Store_Read (s : Option Addr) (i : Int) {K : Value → World → Prop} {w : World} (h : sh_millpondref03_Store_Read s i K w) : Calls P fn_millpondref03_Store_Read #[(.pointer s), (.int .i64 i)] w (Ret K) := calls_of_vc mixed Go.Proofs.Try.func16 ok_millpondref03_Store_Read (by rw [vc_millpondref03_Store_Read]; exact h)

def ann_bytes_Store_Get : Ann := { quiet := fun d => [13, 16, 20].contains d }
/-- (*millpond/bytes.Store).Get -/
def sh_bytes_Store_Get (s : Option Addr) (i : Int) (atA : Int) (K : Value → World → Prop) (w : World) : Prop :=
  Calls P fn_bytes_Store_at #[(.pointer s), (.int .i64 i)] w fun e2 w1 => ∃ x3 : Option Addr, e2 = .returned (.pointer x3) ∧ bif x3.isNone then (K (.tuple #[(.int .u8 0), (.int .i64
    1)]) w1) else (bif (decide (atA < 0)) then (K (.tuple #[(.int .u8 0), (.int .i64 1)]) w1) else (bif (decide (atA ≥ 16)) then (K (.tuple #[(.int .u8 0), (.int .i64 1)]) w1) else
    (NN x3 fun a4 => elAt (some a4) 16 atA 1 fun a5 => ∃ x6 : Int, w1.cell? a5 = some (.int .u8 x6) ∧ K (.tuple #[(.int .u8 x6), (.int .i64 0)]) w1)))
theorem vc_bytes_Store_Get (s : Option Addr) (i : Int) (atA : Int) (K : Value → World → Prop) (w : World) : vcFn P tau rho pan ann_bytes_Store_Get Go.Proofs.Try.f17 #[(.pointer s), (.int .i64 i), (.int .i64 atA)] K (fun _ _ => False) w = sh_bytes_Store_Get s i atA K w := by kernel_rfl
theorem ok_bytes_Store_Get : okFn P ann_bytes_Store_Get Go.Proofs.Try.f17 3 = true := by kernel_rfl
theorem of_bytes_Store_Get (s : Option Addr) (i : Int) (atA : Int) {K : Value → World → Prop} {w : World} (h : sh_bytes_Store_Get s i atA K w) : Calls P fn_bytes_Store_Get #[(.pointer s), (.int .i64 i), (.int .i64 atA)] w (Ret K) := calls_of_vc mixed Go.Proofs.Try.func17 ok_bytes_Store_Get (by rw [vc_bytes_Store_Get]; exact h)

def ann_millpondref03_Store_Get : Ann := { quiet := fun d => [14, 18, 25, 27].contains d }
/-- (*millpond/millpondref03.Store).Get -/
def sh_millpondref03_Store_Get (s : Option Addr) (i : Int) (atA : Int) (K : Value → World → Prop) (w : World) : Prop :=
  Calls P fn_millpondref03_Store_page #[(.pointer s), (.int .i64 i)] w fun e2 w1 => ∃ x3 : Bool, e2 = .returned (.bool x3) ∧ bif (!x3) then (K (.tuple #[(.int .u8 0), (.int .i64 1)])
    w1) else (bif (decide (atA < 0)) then (K (.tuple #[(.int .u8 0), (.int .i64 1)]) w1) else (bif (decide (atA > 15)) then (K (.tuple #[(.int .u8 0), (.int .i64 1)]) w1) else (NN s
    fun a4 => ∃ x5 : Sl, w1.cell? (a4.add 0) = some (.slice x5.p x5.n x5.c) ∧ elAt x5.p x5.n (IntKind.i64.wrap ((IntKind.i64.wrap (16 * i)) + atA)) 1 fun a6 => ∃ x7 : Int, w1.cell?
    a6 = some (.int .u8 x7) ∧ K (.tuple #[(.int .u8 x7), (.int .i64 0)]) w1)))
theorem vc_millpondref03_Store_Get (s : Option Addr) (i : Int) (atA : Int) (K : Value → World → Prop) (w : World) : vcFn P tau rho pan ann_millpondref03_Store_Get Go.Proofs.Try.f18 #[(.pointer s), (.int .i64 i), (.int .i64 atA)] K (fun _ _ => False) w = sh_millpondref03_Store_Get s i atA K w := by kernel_rfl
theorem ok_millpondref03_Store_Get : okFn P ann_millpondref03_Store_Get Go.Proofs.Try.f18 3 = true := by kernel_rfl
theorem of_millpondref03_Store_Get (s : Option Addr) (i : Int) (atA : Int) {K : Value → World → Prop} {w : World} (h : sh_millpondref03_Store_Get s i atA K w) : Calls P fn_millpondref03_Store_Get #[(.pointer s), (.int .i64 i), (.int .i64 atA)] w (Ret K) := calls_of_vc mixed Go.Proofs.Try.func18 ok_millpondref03_Store_Get (by rw [vc_millpondref03_Store_Get]; exact h)

def ann_bytes_Store_Len : Ann := { quiet := fun d => [7].contains d }
/-- (*millpond/bytes.Store).Len -/
def sh_bytes_Store_Len (s : Option Addr) (K : Value → World → Prop) (w : World) : Prop :=
  NN s fun a1 => ∃ x2 : Sl, w.cell? (a1.add 0) = some (.slice x2.p x2.n x2.c) ∧ K (.int .i64 ((x2.n : Nat) : Int)) w
theorem vc_bytes_Store_Len (s : Option Addr) (K : Value → World → Prop) (w : World) : vcFn P tau rho pan ann_bytes_Store_Len Go.Proofs.Try.f19 #[(.pointer s)] K (fun _ _ => False) w = sh_bytes_Store_Len s K w := by kernel_rfl
theorem ok_bytes_Store_Len : okFn P ann_bytes_Store_Len Go.Proofs.Try.f19 1 = true := by kernel_rfl
theorem of_bytes_Store_Len (s : Option Addr) {K : Value → World → Prop} {w : World} (h : sh_bytes_Store_Len s K w) : Calls P fn_bytes_Store_Len #[(.pointer s)] w (Ret K) := calls_of_vc mixed Go.Proofs.Try.func19 ok_bytes_Store_Len (by rw [vc_bytes_Store_Len]; exact h)

def ann_bytes_Store_Write : Ann := { quiet := fun d => [12, 15, 16].contains d }
/-- (*millpond/bytes.Store).Write -/
def sh_bytes_Store_Write (s : Option Addr) (i : Int) (text : ByteArray) (K : Value → World → Prop) (w : World) : Prop :=
  Calls P fn_bytes_Store_at #[(.pointer s), (.int .i64 i)] w fun e2 w1 => ∃ x3 : Option Addr, e2 = .returned (.pointer x3) ∧ bif x3.isNone then (K (.int .i64 1) w1) else (bif
    (((text.size : Nat) : Int) != 16) then (K (.int .i64 1) w1) else (NN x3 fun a4 => ∃ x6 : Int, ∃ w5 : World, Sem.run P (Builtin.copy_ #[41, 9] 3 #[(.slice (slA1 a4 0 16 1) (16 -
    0) (16 - 0)), (.string text)]) w1 = .ok (.int .i64 x6) w5 ∧ K (.int .i64 0) w5))
theorem vc_bytes_Store_Write (s : Option Addr) (i : Int) (text : ByteArray) (K : Value → World → Prop) (w : World) : vcFn P tau rho pan ann_bytes_Store_Write Go.Proofs.Try.f20 #[(.pointer s), (.int .i64 i), (.string text)] K (fun _ _ => False) w = sh_bytes_Store_Write s i text K w := by kernel_rfl
theorem ok_bytes_Store_Write : okFn P ann_bytes_Store_Write Go.Proofs.Try.f20 3 = true := by kernel_rfl
theorem of_bytes_Store_Write (s : Option Addr) (i : Int) (text : ByteArray) {K : Value → World → Prop} {w : World} (h : sh_bytes_Store_Write s i text K w) : Calls P fn_bytes_Store_Write #[(.pointer s), (.int .i64 i), (.string text)] w (Ret K) := calls_of_vc mixed Go.Proofs.Try.func20 ok_bytes_Store_Write (by rw [vc_bytes_Store_Write]; exact h)

def ann_bytes_Store_Put : Ann := { quiet := fun d => [14, 17, 21].contains d }
/-- (*millpond/bytes.Store).Put -/
def sh_bytes_Store_Put (s : Option Addr) (i : Int) (atA : Int) (b : Int) (K : Value → World → Prop) (w : World) : Prop :=
  Calls P fn_bytes_Store_at #[(.pointer s), (.int .i64 i)] w fun e2 w1 => ∃ x3 : Option Addr, e2 = .returned (.pointer x3) ∧ bif x3.isNone then (K (.int .i64 1) w1) else (bif (decide
    (atA < 0)) then (K (.int .i64 1) w1) else (bif (decide (atA ≥ 16)) then (K (.int .i64 1) w1) else (NN x3 fun a4 => elAt (some a4) 16 atA 1 fun a5 => St a5 (.int .u8 b) (fun w6
    => K (.int .i64 0) w6) w1)))
theorem vc_bytes_Store_Put (s : Option Addr) (i : Int) (atA : Int) (b : Int) (K : Value → World → Prop) (w : World) : vcFn P tau rho pan ann_bytes_Store_Put Go.Proofs.Try.f21 #[(.pointer s), (.int .i64 i), (.int .i64 atA), (.int .u8 b)] K (fun _ _ => False) w = sh_bytes_Store_Put s i atA b K w := by kernel_rfl
theorem ok_bytes_Store_Put : okFn P ann_bytes_Store_Put Go.Proofs.Try.f21 4 = true := by kernel_rfl
theorem of_bytes_Store_Put (s : Option Addr) (i : Int) (atA : Int) (b : Int) {K : Value → World → Prop} {w : World} (h : sh_bytes_Store_Put s i atA b K w) : Calls P fn_bytes_Store_Put #[(.pointer s), (.int .i64 i), (.int .i64 atA), (.int .u8 b)] w (Ret K) := calls_of_vc mixed Go.Proofs.Try.func21 ok_bytes_Store_Put (by rw [vc_bytes_Store_Put]; exact h)

def ann_bytes_Store_Move : Ann := { quiet := fun d => [17, 20, 29, 33, 42].contains d, head := fun r => (bif r == 4 then 13 else 0) }
/-- (*millpond/bytes.Store).Move -/
def sh_bytes_Store_Move (s : Option Addr) (fromA : Int) (toA : Int) (K : Value → World → Prop) (w : World) : Prop :=
  Calls P fn_bytes_Store_at #[(.pointer s), (.int .i64 fromA)] w fun e2 w1 => ∃ x3 : Option Addr, e2 = .returned (.pointer x3) ∧ Calls P fn_bytes_Store_at #[(.pointer s), (.int .i64
    toA)] w1 fun e5 w4 => ∃ x6 : Option Addr, e5 = .returned (.pointer x6) ∧ bif x3.isNone then (K (.int .i64 1) w4) else (bif x6.isNone then (K (.int .i64 1) w4) else (Dr (fun w7
    => NN x3 fun a8 => ∃ x9 : List Int, x9.length = 16 ∧ (∀ i, i < 16 → w7.cell? (a8.add i) = some (.int .u8 (x9.getD i 0))) ∧ NN x6 fun a10 => ∃ x11 : List Int, x11.length = 16 ∧
    (∀ i, i < 16 → w7.cell? (a10.add i) = some (.int .u8 (x11.getD i 0))) ∧ ∃ q12 : Bool, EqV P .neq 55 (.agg (x9.map (Value.int .u8)).toArray) (.agg (x11.map (Value.int
    .u8)).toArray) q12 ∧ bif q12 then (NN x3 fun a13 => ∃ x14 : List Int, x14.length = 16 ∧ (∀ i, i < 16 → w7.cell? (a13.add i) = some (.int .u8 (x14.getD i 0))) ∧ NN x6 fun a15 =>
    stArr 16 .u8 (.agg (x14.map (Value.int .u8)).toArray) a15 w7 (fun w16 => bif (fromA != toA) then (NN x3 fun a17 => stArr 16 .u8 (.agg #[(.int .u8 0), (.int .u8 0), (.int .u8 0),
    (.int .u8 0), (.int .u8 0), (.int .u8 0), (.int .u8 0), (.int .u8 0), (.int .u8 0), (.int .u8 0), (.int .u8 0), (.int .u8 0), (.int .u8 0), (.int .u8 0), (.int .u8 0), (.int .u8
    0)]) a17 w16 (fun w18 => K (.int .i64 0) w18)) else (K (.int .i64 0) w16))) else (bif (fromA != toA) then (NN x3 fun a19 => ∃ x20 : List Int, x20.length = 16 ∧ (∀ i, i < 16 →
    w7.cell? (a19.add i) = some (.int .u8 (x20.getD i 0))) ∧ NN x6 fun a21 => stArr 16 .u8 (.agg (x20.map (Value.int .u8)).toArray) a21 w7 (fun w22 => bif (fromA != toA) then (NN x3
    fun a23 => stArr 16 .u8 (.agg #[(.int .u8 0), (.int .u8 0), (.int .u8 0), (.int .u8 0), (.int .u8 0), (.int .u8 0), (.int .u8 0), (.int .u8 0), (.int .u8 0), (.int .u8 0), (.int
    .u8 0), (.int .u8 0), (.int .u8 0), (.int .u8 0), (.int .u8 0), (.int .u8 0)]) a23 w22 (fun w24 => K (.int .i64 0) w24)) else (K (.int .i64 0) w22))) else (K (.int .i64 0) w7)))
    w4))
theorem vc_bytes_Store_Move (s : Option Addr) (fromA : Int) (toA : Int) (K : Value → World → Prop) (w : World) : vcFn P tau rho pan ann_bytes_Store_Move Go.Proofs.Try.f22 #[(.pointer s), (.int .i64 fromA), (.int .i64 toA)] K (fun _ _ => False) w = sh_bytes_Store_Move s fromA toA K w := by kernel_rfl
theorem ok_bytes_Store_Move : okFn P ann_bytes_Store_Move Go.Proofs.Try.f22 3 = true := by kernel_rfl
theorem of_bytes_Store_Move (s : Option Addr) (fromA : Int) (toA : Int) {K : Value → World → Prop} {w : World} (h : sh_bytes_Store_Move s fromA toA K w) : Calls P fn_bytes_Store_Move #[(.pointer s), (.int .i64 fromA), (.int .i64 toA)] w (Ret K) := calls_of_vc mixed Go.Proofs.Try.func22 ok_bytes_Store_Move (by rw [vc_bytes_Store_Move]; exact h)

def ann_millpondref03_Store_page : Ann := { quiet := fun d => [6, 13, 14, 15].contains d }
/-- (*millpond/millpondref03.Store).page -/
def sh_millpondref03_Store_page (s : Option Addr) (i : Int) (K : Value → World → Prop) (w : World) : Prop :=
  bif (decide (i ≥ 0)) then (NN s fun a1 => ∃ x2 : Sl, w.cell? (a1.add 0) = some (.slice x2.p x2.n x2.c) ∧ (16 : Int) ≠ 0 ∧ K (.bool (decide (i < (IntKind.i64.wrap (((x2.n : Nat) :
    Int).tdiv 16))))) w) else (K (.bool false) w)
theorem vc_millpondref03_Store_page (s : Option Addr) (i : Int) (K : Value → World → Prop) (w : World) : vcFn P tau rho pan ann_millpondref03_Store_page Go.Proofs.Try.f23 #[(.pointer s), (.int .i64 i)] K (fun _ _ => False) w = sh_millpondref03_Store_page s i K w := by kernel_rfl
theorem ok_millpondref03_Store_page : okFn P ann_millpondref03_Store_page Go.Proofs.Try.f23 2 = true := by kernel_rfl
theorem of_millpondref03_Store_page (s : Option Addr) (i : Int) {K : Value → World → Prop} {w : World} (h : sh_millpondref03_Store_page s i K w) : Calls P fn_millpondref03_Store_page #[(.pointer s), (.int .i64 i)] w (Ret K) := calls_of_vc mixed Go.Proofs.Try.func23 ok_millpondref03_Store_page (by rw [vc_millpondref03_Store_page]; exact h)

def ann_bytes_Store_Clear : Ann := { quiet := fun d => [10].contains d }
/-- (*millpond/bytes.Store).Clear -/
def sh_bytes_Store_Clear (s : Option Addr) (i : Int) (K : Value → World → Prop) (w : World) : Prop :=
  Calls P fn_bytes_Store_at #[(.pointer s), (.int .i64 i)] w fun e2 w1 => ∃ x3 : Option Addr, e2 = .returned (.pointer x3) ∧ bif x3.isNone then (K (.int .i64 1) w1) else (NN x3 fun a4
    => stArr 16 .u8 (.agg #[(.int .u8 0), (.int .u8 0), (.int .u8 0), (.int .u8 0), (.int .u8 0), (.int .u8 0), (.int .u8 0), (.int .u8 0), (.int .u8 0), (.int .u8 0), (.int .u8 0),
    (.int .u8 0), (.int .u8 0), (.int .u8 0), (.int .u8 0), (.int .u8 0)]) a4 w1 (fun w5 => K (.int .i64 0) w5))
theorem vc_bytes_Store_Clear (s : Option Addr) (i : Int) (K : Value → World → Prop) (w : World) : vcFn P tau rho pan ann_bytes_Store_Clear Go.Proofs.Try.f24 #[(.pointer s), (.int .i64 i)] K (fun _ _ => False) w = sh_bytes_Store_Clear s i K w := by kernel_rfl
theorem ok_bytes_Store_Clear : okFn P ann_bytes_Store_Clear Go.Proofs.Try.f24 2 = true := by kernel_rfl
theorem of_bytes_Store_Clear (s : Option Addr) (i : Int) {K : Value → World → Prop} {w : World} (h : sh_bytes_Store_Clear s i K w) : Calls P fn_bytes_Store_Clear #[(.pointer s), (.int .i64 i)] w (Ret K) := calls_of_vc mixed Go.Proofs.Try.func24 ok_bytes_Store_Clear (by rw [vc_bytes_Store_Clear]; exact h)

def ann_bytes_Store_at : Ann := { quiet := fun d => [6, 13, 14].contains d }
/-- (*millpond/bytes.Store).at -/
def sh_bytes_Store_at (s : Option Addr) (i : Int) (K : Value → World → Prop) (w : World) : Prop :=
  bif (decide (i < 0)) then (K (.pointer none) w) else (NN s fun a1 => ∃ x2 : Sl, w.cell? (a1.add 0) = some (.slice x2.p x2.n x2.c) ∧ bif (decide (i ≥ ((x2.n : Nat) : Int))) then (K
    (.pointer none) w) else (NN s fun a3 => ∃ x4 : Sl, w.cell? (a3.add 0) = some (.slice x4.p x4.n x4.c) ∧ elAt x4.p x4.n i 16 fun a5 => K (.pointer (some a5)) w))
theorem vc_bytes_Store_at (s : Option Addr) (i : Int) (K : Value → World → Prop) (w : World) : vcFn P tau rho pan ann_bytes_Store_at Go.Proofs.Try.f25 #[(.pointer s), (.int .i64 i)] K (fun _ _ => False) w = sh_bytes_Store_at s i K w := by kernel_rfl
theorem ok_bytes_Store_at : okFn P ann_bytes_Store_at Go.Proofs.Try.f25 2 = true := by kernel_rfl
theorem of_bytes_Store_at (s : Option Addr) (i : Int) {K : Value → World → Prop} {w : World} (h : sh_bytes_Store_at s i K w) : Calls P fn_bytes_Store_at #[(.pointer s), (.int .i64 i)] w (Ret K) := calls_of_vc mixed Go.Proofs.Try.func25 ok_bytes_Store_at (by rw [vc_bytes_Store_at]; exact h)

end Go.Mp
