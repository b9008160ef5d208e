/- What is asked of each function. Printed by vcprint.py. -/
import Derived.Test.YtbkmfficnnfljaaPgN
set_option maxRecDepth 100000
namespace Go.Mp
open Go Go.Vc

def ann_millpondlaw14_PagesDoes : Ann := { quiet := fun d => [26, 27, 34, 35, 37, 50, 56, 59, 70, 80, 91, 97, 120, 124, 129, 134, 143, 154, 165].contains d, sig := fun r => (bif r == 28 then some ([0, 1, 2, 3, 4, 5, 6, 7, 8, 9, 10, 11, 12, 13, 14, 15, 16, 17, 18, 19, 20, 22, 23, 21, 24, 25, 26, 27, 28, 29, 30, 32, 33, 34, 31, 35, 36, 37, 38, 39, 40, 41, 43, 44, 45, 42, 46, 47, 48], [21, 24, 31, 35, 42, 46]) else none), loop := fun r => (bif r == 9 then [(12, .int .i64)] else []), join := fun r => (bif r == 26 then some [(16, .int .i64), (17, .int .i64)] else none) }
/-- millpond/millpondlaw14.PagesDoes -/
def sh_millpondlaw14_PagesDoes (l : Sl) (key_0 : Int) (key_1 : Int) (place : Int) (atA : Int) (K : Value → World → Prop) (w : World) : Prop :=
  Al (.cells #[(.int .i64 key_0), (.int .i64 key_1)] 24) (fun p1 w2 => Calls P fn_millpondlaw14_works #[] w2 fun e4 w3 => ∃ x5 : Bool, e4 = .returned (.bool x5) ∧ bif (!x5) then (K
    (.bool false) w3) else (bif (decide (((l.n : Nat) : Int) > 80)) then (K (.bool x5) w3) else (Calls P fn_pages_New #[] w3 fun e7 w6 => ∃ x8 : Option Addr, e7 = .returned
    (.pointer x8) ∧ Al (.cells #[(.slice none 0 0)] 32) (fun p9 w10 => ∃ (I11 : Int → World → Prop) (M12 : Int → World → Nat), I11 0 w10 ∧ ∀ _u14 : Nat → Value, ∀ i15 : Int, ∀ w13 :
    World, I11 i15 w13 → bif (decide (i15 < ((l.n : Nat) : Int))) then (elAt l.p l.n i15 6 fun a16 => ∃ x17 : Int, w13.cell? (a16.add 0) = some (.int .i64 x17) ∧ ∃ x18 : Int,
    w13.cell? (a16.add 1) = some (.int .i64 x18) ∧ ∃ x19 : Int, w13.cell? (a16.add 2) = some (.int .i64 x19) ∧ ∃ x20 : Int, w13.cell? (a16.add 3) = some (.int .i64 x20) ∧ ∃ x21 :
    Int, w13.cell? (a16.add 4) = some (.int .i64 x21) ∧ ∃ x22 : Int, w13.cell? (a16.add 5) = some (.int .i64 x22) ∧ Al (.cells #[(.int .i64 0), (.int .i64 0), (.int .i64 0), (.int
    .i64 0), (.int .i64 0), (.int .i64 0)] 34) (fun p23 w24 => StN [(.int .i64 x17), (.int .i64 x18), (.int .i64 x19), (.int .i64 x20), (.int .i64 x21), (.int .i64 x22)] p23 (fun
    w25 => ∃ x26 : Int, w25.cell? (p23.add 0) = some (.int .i64 x26) ∧ ∃ x27 : Int, w25.cell? (p23.add 1) = some (.int .i64 x27) ∧ ∃ x28 : Int, w25.cell? (p23.add 2) = some (.int
    .i64 x28) ∧ ∃ x29 : Int, w25.cell? (p23.add 3) = some (.int .i64 x29) ∧ ∃ x30 : Int, w25.cell? (p23.add 4) = some (.int .i64 x30) ∧ ∃ x31 : Int, w25.cell? (p23.add 5) = some
    (.int .i64 x31) ∧ Calls P fn_millpondlaw14_do #[(.pointer x8), (.agg #[(.int .i64 x26), (.int .i64 x27), (.int .i64 x28), (.int .i64 x29), (.int .i64 x30), (.int .i64 x31)])]
    w25 fun e33 w32 => ∃ x34 : Int, ∃ x35 : Int, e33 = .returned (.tuple #[(.int .i64 x34), (.int .i64 x35)]) ∧ ∃ J36 : Int → Int → World → Prop, (∃ x41 : Int, w32.cell? (p23.add 0)
    = some (.int .i64 x41) ∧ (6 : Int) ≠ 0 ∧ bif ((x41.tmod 6) == 0) then (∃ x42 : Int, w32.cell? ((p23.add 2).add 0) = some (.int .i64 x42) ∧ ∃ x43 : Int, w32.cell? ((p23.add
    2).add 1) = some (.int .i64 x43) ∧ ∃ x44 : Int, w32.cell? (p23.add 5) = some (.int .i64 x44) ∧ Calls P fn_millpondref14_Table_Make #[(.pointer (some p9)), (.agg #[(.int .i64
    x42), (.int .i64 x43)]), (.int .i64 x44)] w32 fun e46 w45 => ∃ x47 : Int, ∃ x48 : Int, e46 = .returned (.tuple #[(.int .i64 x47), (.int .i64 x48)]) ∧ J36 x47 x48 w45) else (bif
    ((x41.tmod 6) == 1) then (∃ x49 : Int, w32.cell? (p23.add 1) = some (.int .i64 x49) ∧ ∃ x50 : Int, w32.cell? (p23.add 4) = some (.int .i64 x50) ∧ ∃ x51 : Int, w32.cell? (p23.add
    5) = some (.int .i64 x51) ∧ Calls P fn_millpondref14_Table_Put #[(.pointer (some p9)), (.int .i64 x49), (.int .i64 x50), (.int .i64 x51)] w32 fun e53 w52 => ∃ x54 : Int, e53 =
    .returned (.int .i64 x54) ∧ J36 0 x54 w52) else (bif ((x41.tmod 6) == 2) then (∃ x55 : Int, w32.cell? (p23.add 1) = some (.int .i64 x55) ∧ ∃ x56 : Int, w32.cell? (p23.add 5) =
    some (.int .i64 x56) ∧ Calls P fn_millpondref14_Table_Refer #[(.pointer (some p9)), (.int .i64 x55), (.int .i64 x56)] w32 fun e58 w57 => ∃ x59 : Int, ∃ x60 : Int, e58 =
    .returned (.tuple #[(.int .i64 x59), (.int .i64 x60)]) ∧ J36 x59 x60 w57) else (bif ((x41.tmod 6) == 3) then (∃ x61 : Int, w32.cell? (p23.add 1) = some (.int .i64 x61) ∧ Calls P
    fn_millpondref14_Table_Drop #[(.pointer (some p9)), (.int .i64 x61)] w32 fun e63 w62 => ∃ x64 : Int, e63 = .returned (.int .i64 x64) ∧ J36 0 x64 w62) else (bif ((x41.tmod 6) ==
    4) then (∃ x65 : Int, w32.cell? (p23.add 1) = some (.int .i64 x65) ∧ ∃ x66 : Int, w32.cell? (p23.add 5) = some (.int .i64 x66) ∧ Calls P fn_millpondref14_Table_Own #[(.pointer
    (some p9)), (.int .i64 x65), (.int .i64 x66)] w32 fun e68 w67 => ∃ x69 : Int, e68 = .returned (.int .i64 x69) ∧ J36 0 x69 w67) else (∃ x70 : Int, w32.cell? (p23.add 1) = some
    (.int .i64 x70) ∧ ∃ x71 : Int, w32.cell? (p23.add 5) = some (.int .i64 x71) ∧ Calls P fn_millpondref14_Table_Mark #[(.pointer (some p9)), (.int .i64 x70), (.bool (decide (x71 >
    0)))] w32 fun e73 w72 => ∃ x74 : Int, e73 = .returned (.int .i64 x74) ∧ J36 0 x74 w72)))))) ∧ (∀ _u38 : Nat → Value, ∀ y39 : Int, ∀ f40 : Int, ∀ w37 : World, J36 y39 f40 w37 → ∃
    x75 : Int, w37.cell? (p23.add 1) = some (.int .i64 x75) ∧ Calls P fn_pages_Table_Get #[(.pointer x8), (.int .i64 x75)] w37 fun e77 w76 => ∃ x78 : Int, ∃ x79 : Int, ∃ x80 : Int,
    ∃ x81 : Int, ∃ x82 : Int, ∃ x83 : Int, ∃ x84 : Int, ∃ x85 : Bool, ∃ x86 : Bool, ∃ x87 : Int, e77 = .returned (.tuple #[(.agg #[(.int .i64 x78), (.int .i64 x79), (.int .i64 x80),
    (.int .i64 x81), (.int .i64 x82), (.int .i64 x83), (.int .i64 x84), (.bool x85), (.bool x86)]), (.int .i64 x87)]) ∧ Al (.cells #[(.int .i64 0), (.int .i64 0), (.int .i64 0),
    (.int .i64 0), (.int .i64 0), (.int .i64 0), (.int .i64 0), (.bool false), (.bool false)] 45) (fun p88 w89 => StN [(.int .i64 x78), (.int .i64 x79), (.int .i64 x80), (.int .i64
    x81), (.int .i64 x82), (.int .i64 x83), (.int .i64 x84), (.bool x85), (.bool x86)] p88 (fun w90 => ∃ x91 : Int, w90.cell? (p23.add 1) = some (.int .i64 x91) ∧ Calls P
    fn_millpondref14_Table_Get #[(.pointer (some p9)), (.int .i64 x91)] w90 fun e93 w92 => ∃ x94 : Int, ∃ x95 : Int, ∃ x96 : Int, ∃ x97 : Int, ∃ x98 : Int, ∃ x99 : Int, ∃ x100 :
    Int, ∃ x101 : Bool, ∃ x102 : Bool, ∃ x103 : Int, e93 = .returned (.tuple #[(.agg #[(.int .i64 x94), (.int .i64 x95), (.int .i64 x96), (.int .i64 x97), (.int .i64 x98), (.int
    .i64 x99), (.int .i64 x100), (.bool x101), (.bool x102)]), (.int .i64 x103)]) ∧ Al (.cells #[(.int .i64 0), (.int .i64 0), (.int .i64 0), (.int .i64 0), (.int .i64 0), (.int
    .i64 0), (.int .i64 0), (.bool false), (.bool false)] 45) (fun p104 w105 => StN [(.int .i64 x94), (.int .i64 x95), (.int .i64 x96), (.int .i64 x97), (.int .i64 x98), (.int .i64
    x99), (.int .i64 x100), (.bool x101), (.bool x102)] p104 (fun w106 => Dr (fun w107 => bif (x34 != y39) then (K (.bool false) w107) else (bif (x35 != f40) then (K (.bool false)
    w107) else (∃ x108 : Int, w107.cell? (p88.add 0) = some (.int .i64 x108) ∧ ∃ x109 : Int, w107.cell? (p88.add 1) = some (.int .i64 x109) ∧ ∃ x110 : Int, w107.cell? (p88.add 2) =
    some (.int .i64 x110) ∧ ∃ x111 : Int, w107.cell? (p88.add 3) = some (.int .i64 x111) ∧ ∃ x112 : Int, w107.cell? (p88.add 4) = some (.int .i64 x112) ∧ ∃ x113 : Int, w107.cell?
    (p88.add 5) = some (.int .i64 x113) ∧ ∃ x114 : Int, w107.cell? (p88.add 6) = some (.int .i64 x114) ∧ ∃ x115 : Bool, w107.cell? (p88.add 7) = some (.bool x115) ∧ ∃ x116 : Bool,
    w107.cell? (p88.add 8) = some (.bool x116) ∧ ∃ x117 : Int, w107.cell? (p104.add 0) = some (.int .i64 x117) ∧ ∃ x118 : Int, w107.cell? (p104.add 1) = some (.int .i64 x118) ∧ ∃
    x119 : Int, w107.cell? (p104.add 2) = some (.int .i64 x119) ∧ ∃ x120 : Int, w107.cell? (p104.add 3) = some (.int .i64 x120) ∧ ∃ x121 : Int, w107.cell? (p104.add 4) = some (.int
    .i64 x121) ∧ ∃ x122 : Int, w107.cell? (p104.add 5) = some (.int .i64 x122) ∧ ∃ x123 : Int, w107.cell? (p104.add 6) = some (.int .i64 x123) ∧ ∃ x124 : Bool, w107.cell? (p104.add
    7) = some (.bool x124) ∧ ∃ x125 : Bool, w107.cell? (p104.add 8) = some (.bool x125) ∧ ∃ q126 : Bool, EqV P .neq 45 (.agg #[(.int .i64 x108), (.int .i64 x109), (.int .i64 x110),
    (.int .i64 x111), (.int .i64 x112), (.int .i64 x113), (.int .i64 x114), (.bool x115), (.bool x116)]) (.agg #[(.int .i64 x117), (.int .i64 x118), (.int .i64 x119), (.int .i64
    x120), (.int .i64 x121), (.int .i64 x122), (.int .i64 x123), (.bool x124), (.bool x125)]) q126 ∧ bif q126 then (K (.bool false) w107) else (bif (x87 != x103) then (K (.bool
    false) w107) else (∃ x127 : Int, w107.cell? (p1.add 0) = some (.int .i64 x127) ∧ ∃ x128 : Int, w107.cell? (p1.add 1) = some (.int .i64 x128) ∧ ∃ x129 : Int, w107.cell? (p1.add
    0) = some (.int .i64 x129) ∧ ∃ x130 : Int, w107.cell? (p1.add 1) = some (.int .i64 x130) ∧ Calls P fn_pages_Table_Of #[(.pointer x8), (.agg #[(.int .i64 x127), (.int .i64
    x128)])] w107 fun e132 w131 => ∃ x133 : Int, e132 = .returned (.int .i64 x133) ∧ ∃ x134 : Int, w131.cell? (p1.add 0) = some (.int .i64 x134) ∧ ∃ x135 : Int, w131.cell? (p1.add
    1) = some (.int .i64 x135) ∧ ((.agg #[(.int .i64 x134), (.int .i64 x135)]) : Value) = (.agg #[(.int .i64 x129), (.int .i64 x130)]) ∧ Calls P fn_millpondref14_Table_Of
    #[(.pointer (some p9)), (.agg #[(.int .i64 x129), (.int .i64 x130)])] w131 fun e137 w136 => ∃ x138 : Int, e137 = .returned (.int .i64 x138) ∧ bif (x133 != x138) then (K (.bool
    false) w136) else (Calls P fn_pages_Table_At #[(.pointer x8), (.int .i64 place), (.int .i64 atA)] w136 fun e140 w139 => ∃ x141 : Int, e140 = .returned (.int .i64 x141) ∧ Calls P
    fn_millpondref14_Table_At #[(.pointer (some p9)), (.int .i64 place), (.int .i64 atA)] w139 fun e143 w142 => ∃ x144 : Int, e143 = .returned (.int .i64 x144) ∧ bif (x141 != x144)
    then (K (.bool false) w142) else (∃ x145 : Int, w142.cell? ((p23.add 2).add 0) = some (.int .i64 x145) ∧ ∃ x146 : Int, w142.cell? ((p23.add 2).add 1) = some (.int .i64 x146) ∧ ∃
    x147 : Int, w142.cell? ((p23.add 2).add 0) = some (.int .i64 x147) ∧ ∃ x148 : Int, w142.cell? ((p23.add 2).add 1) = some (.int .i64 x148) ∧ Calls P fn_pages_Table_Of #[(.pointer
    x8), (.agg #[(.int .i64 x145), (.int .i64 x146)])] w142 fun e150 w149 => ∃ x151 : Int, e150 = .returned (.int .i64 x151) ∧ ∃ x152 : Int, w149.cell? ((p23.add 2).add 0) = some
    (.int .i64 x152) ∧ ∃ x153 : Int, w149.cell? ((p23.add 2).add 1) = some (.int .i64 x153) ∧ ((.agg #[(.int .i64 x152), (.int .i64 x153)]) : Value) = (.agg #[(.int .i64 x147),
    (.int .i64 x148)]) ∧ Calls P fn_millpondref14_Table_Of #[(.pointer (some p9)), (.agg #[(.int .i64 x147), (.int .i64 x148)])] w149 fun e155 w154 => ∃ x156 : Int, e155 = .returned
    (.int .i64 x156) ∧ bif (x151 != x156) then (K (.bool false) w154) else ((I11 (IntKind.i64.wrap (i15 + 1)) w154 ∧ M12 (IntKind.i64.wrap (i15 + 1)) w154 < M12 i15 w13)))))))))
    w106) w105) w92) w89) w76)) w24) w13) else (bif x5 then (Calls P fn_pages_Table_All #[(.pointer x8)] w13 fun e158 w157 => ∃ x159 : Sl, e158 = .returned (.slice x159.p x159.n
    x159.c) ∧ Calls P fn_millpondref14_Table_Those #[(.pointer (some p9)), (.int .i64 0), (.bool true)] w157 fun e161 w160 => ∃ x162 : Sl, e161 = .returned (.slice x162.p x162.n
    x162.c) ∧ Calls P fn_millpondlaw14_row #[(.slice x159.p x159.n x159.c), (.slice x162.p x162.n x162.c)] w160 fun e164 w163 => ∃ x165 : Bool, e164 = .returned (.bool x165) ∧ bif
    x165 then (Calls P fn_pages_Table_Those #[(.pointer x8), (.int .i64 atA)] w163 fun e167 w166 => ∃ x168 : Sl, e167 = .returned (.slice x168.p x168.n x168.c) ∧ Calls P
    fn_millpondref14_Table_Those #[(.pointer (some p9)), (.int .i64 atA), (.bool false)] w166 fun e170 w169 => ∃ x171 : Sl, e170 = .returned (.slice x171.p x171.n x171.c) ∧ Calls P
    fn_millpondlaw14_row #[(.slice x168.p x168.n x168.c), (.slice x171.p x171.n x171.c)] w169 fun e173 w172 => ∃ x174 : Bool, e173 = .returned (.bool x174) ∧ K (.bool x174) w172)
    else (K (.bool false) w163)) else (K (.bool false) w13))) w6))) w
theorem vc_millpondlaw14_PagesDoes (l : Sl) (key_0 : Int) (key_1 : Int) (place : Int) (atA : Int) (K : Value → World → Prop) (w : World) : vcFn P tau rho pan ann_millpondlaw14_PagesDoes Go.Proofs.Try.f3 #[(.slice l.p l.n l.c), (.agg #[(.int .i64 key_0), (.int .i64 key_1)]), (.int .i64 place), (.int .i64 atA)] K (fun _ _ => False) w = sh_millpondlaw14_PagesDoes l key_0 key_1 place atA K w := by kernel_rfl
theorem ok_millpondlaw14_PagesDoes : okFn P ann_millpondlaw14_PagesDoes Go.Proofs.Try.f3 4 = true := by kernel_rfl
theorem of_millpondlaw14_PagesDoes (l : Sl) (key_0 : Int) (key_1 : Int) (place : Int) (atA : Int) {K : Value → World → Prop} {w : World} (h : sh_millpondlaw14_PagesDoes l key_0 key_1 place atA K w) : Calls P fn_millpondlaw14_PagesDoes #[(.slice l.p l.n l.c), (.agg #[(.int .i64 key_0), (.int .i64 key_1)]), (.int .i64 place), (.int .i64 atA)] w (Ret K) := calls_of_vc mixed Go.Proofs.Try.func3 ok_millpondlaw14_PagesDoes (by rw [vc_millpondlaw14_PagesDoes]; exact h)

def ann_millpondlaw14_PagesOnce : Ann := { quiet := fun d => [20, 21, 26, 27, 29, 40, 41, 43, 54, 58, 62, 66, 73, 78, 90, 96, 106, 111, 113, 127, 131, 137, 144, 153, 154, 156, 167].contains d, sig := fun r => (bif r == 18 then some ([0, 1, 2, 3, 4, 5, 6, 7, 8, 10, 11, 12, 13, 9, 14, 15, 16, 17, 18, 19, 20, 21, 22, 23, 24, 26, 27, 28, 29, 25, 30, 31, 32], [9, 25]) else none), head := fun r => (bif r == 16 then 23 else bif r == 31 then 13 else 0), loop := fun r => (bif r == 8 then [(5, .int .i64)] else bif r == 13 then [(7, .int .i64)] else bif r == 21 then [(10, .int .i64)] else bif r == 29 then [(13, .bool), (15, .int .i64)] else []), join := fun r => (bif r == 18 then some [] else bif r == 20 then some [] else none) }
/-- millpond/millpondlaw14.PagesOnce -/
def sh_millpondlaw14_PagesOnce (l : Sl) (K : Value → World → Prop) (w : World) : Prop :=
  Calls P fn_millpondlaw14_works #[] w fun e2 w1 => ∃ x3 : Bool, e2 = .returned (.bool x3) ∧ bif (!x3) then (K (.bool false) w1) else (bif (decide (((l.n : Nat) : Int) > 80)) then (K
    (.bool x3) w1) else (Calls P fn_pages_New #[] w1 fun e5 w4 => ∃ x6 : Option Addr, e5 = .returned (.pointer x6) ∧ ∃ (I7 : Int → World → Prop) (M8 : Int → World → Nat), I7 0 w4 ∧
    ∀ _u10 : Nat → Value, ∀ i11 : Int, ∀ w9 : World, I7 i11 w9 → bif (decide (i11 < ((l.n : Nat) : Int))) then (elAt l.p l.n i11 6 fun a12 => ∃ x13 : Int, w9.cell? (a12.add 0) =
    some (.int .i64 x13) ∧ ∃ x14 : Int, w9.cell? (a12.add 1) = some (.int .i64 x14) ∧ ∃ x15 : Int, w9.cell? (a12.add 2) = some (.int .i64 x15) ∧ ∃ x16 : Int, w9.cell? (a12.add 3) =
    some (.int .i64 x16) ∧ ∃ x17 : Int, w9.cell? (a12.add 4) = some (.int .i64 x17) ∧ ∃ x18 : Int, w9.cell? (a12.add 5) = some (.int .i64 x18) ∧ Calls P fn_millpondlaw14_do
    #[(.pointer x6), (.agg #[(.int .i64 x13), (.int .i64 x14), (.int .i64 x15), (.int .i64 x16), (.int .i64 x17), (.int .i64 x18)])] w9 fun e20 w19 => ∃ x21 : Int, ∃ x22 : Int, e20
    = .returned (.tuple #[(.int .i64 x21), (.int .i64 x22)]) ∧ (I7 (IntKind.i64.wrap (i11 + 1)) w19 ∧ M8 (IntKind.i64.wrap (i11 + 1)) w19 < M8 i11 w9)) else (Calls P
    fn_pages_Table_All #[(.pointer x6)] w9 fun e24 w23 => ∃ x25 : Sl, e24 = .returned (.slice x25.p x25.n x25.c) ∧ ∃ (I26 : Int → World → Prop) (M27 : Int → World → Nat), I26 0 w23
    ∧ ∀ _u29 : Nat → Value, ∀ i30 : Int, ∀ w28 : World, I26 i30 w28 → bif (decide (i30 < ((x25.n : Nat) : Int))) then (elAt x25.p x25.n i30 1 fun a31 => ∃ x32 : Int, w28.cell? a31 =
    some (.int .i64 x32) ∧ Calls P fn_pages_Table_Get #[(.pointer x6), (.int .i64 x32)] w28 fun e34 w33 => ∃ x35 : Int, ∃ x36 : Int, ∃ x37 : Int, ∃ x38 : Int, ∃ x39 : Int, ∃ x40 :
    Int, ∃ x41 : Int, ∃ x42 : Bool, ∃ x43 : Bool, ∃ x44 : Int, e34 = .returned (.tuple #[(.agg #[(.int .i64 x35), (.int .i64 x36), (.int .i64 x37), (.int .i64 x38), (.int .i64 x39),
    (.int .i64 x40), (.int .i64 x41), (.bool x42), (.bool x43)]), (.int .i64 x44)]) ∧ Al (.cells #[(.int .i64 0), (.int .i64 0), (.int .i64 0), (.int .i64 0), (.int .i64 0), (.int
    .i64 0), (.int .i64 0), (.bool false), (.bool false)] 45) (fun p45 w46 => StN [(.int .i64 x35), (.int .i64 x36), (.int .i64 x37), (.int .i64 x38), (.int .i64 x39), (.int .i64
    x40), (.int .i64 x41), (.bool x42), (.bool x43)] p45 (fun w47 => ∃ J48 : World → Prop, (Dr (fun w51 => bif (x44 != 0) then (K (.bool false) w51) else (∃ x52 : Int, w51.cell?
    (p45.add 5) = some (.int .i64 x52) ∧ bif (decide (x52 < 0)) then (K (.bool false) w51) else (bif (decide (i30 > 0)) then (elAt x25.p x25.n (IntKind.i64.wrap (i30 - 1)) 1 fun a53
    => ∃ x54 : Int, w51.cell? a53 = some (.int .i64 x54) ∧ elAt x25.p x25.n i30 1 fun a55 => ∃ x56 : Int, w51.cell? a55 = some (.int .i64 x56) ∧ bif (decide (x54 ≥ x56)) then (K
    (.bool false) w51) else (J48 w51)) else (J48 w51)))) w47) ∧ (∀ _u50 : Nat → Value, ∀ w49 : World, J48 w49 → ∃ J57 : World → Prop, (Dr (fun w60 => ∃ x61 : Int, w60.cell? (p45.add
    2) = some (.int .i64 x61) ∧ bif (x61 != 0) then (∃ x62 : Int, w60.cell? (p45.add 2) = some (.int .i64 x62) ∧ ∃ x63 : Int, w60.cell? (p45.add 3) = some (.int .i64 x63) ∧ elAt
    x25.p x25.n i30 1 fun a64 => ∃ x65 : Int, w60.cell? a64 = some (.int .i64 x65) ∧ Calls P fn_pages_Table_At #[(.pointer x6), (.int .i64 x62), (.int .i64 x63)] w60 fun e67 w66 =>
    ∃ x68 : Int, e67 = .returned (.int .i64 x68) ∧ ∃ x69 : Int, w66.cell? a64 = some (.int .i64 x69) ∧ ((.int .i64 x69) : Value) = (.int .i64 x65) ∧ bif (x68 != x65) then (K (.bool
    false) w66) else (∃ x70 : Int, w66.cell? ((p45.add 0).add 0) = some (.int .i64 x70) ∧ bif (decide (x70 ≥ 0)) then (∃ x71 : Int, w66.cell? ((p45.add 0).add 0) = some (.int .i64
    x71) ∧ ∃ x72 : Int, w66.cell? ((p45.add 0).add 1) = some (.int .i64 x72) ∧ elAt x25.p x25.n i30 1 fun a73 => ∃ x74 : Int, w66.cell? a73 = some (.int .i64 x74) ∧ Calls P
    fn_pages_Table_Of #[(.pointer x6), (.agg #[(.int .i64 x71), (.int .i64 x72)])] w66 fun e76 w75 => ∃ x77 : Int, e76 = .returned (.int .i64 x77) ∧ ∃ x78 : Int, w75.cell? a73 =
    some (.int .i64 x78) ∧ ((.int .i64 x78) : Value) = (.int .i64 x74) ∧ bif (x77 != x74) then (K (.bool false) w75) else (J57 w75)) else (J57 w66))) else (∃ x79 : Int, w60.cell?
    ((p45.add 0).add 0) = some (.int .i64 x79) ∧ bif (decide (x79 ≥ 0)) then (∃ x80 : Int, w60.cell? ((p45.add 0).add 0) = some (.int .i64 x80) ∧ ∃ x81 : Int, w60.cell? ((p45.add
    0).add 1) = some (.int .i64 x81) ∧ elAt x25.p x25.n i30 1 fun a82 => ∃ x83 : Int, w60.cell? a82 = some (.int .i64 x83) ∧ Calls P fn_pages_Table_Of #[(.pointer x6), (.agg #[(.int
    .i64 x80), (.int .i64 x81)])] w60 fun e85 w84 => ∃ x86 : Int, e85 = .returned (.int .i64 x86) ∧ ∃ x87 : Int, w84.cell? a82 = some (.int .i64 x87) ∧ ((.int .i64 x87) : Value) =
    (.int .i64 x83) ∧ bif (x86 != x83) then (K (.bool false) w84) else (J57 w84)) else (J57 w60))) w49) ∧ (∀ _u59 : Nat → Value, ∀ w58 : World, J57 w58 → ∃ (I88 : Int → World →
    Prop) (M89 : Int → World → Nat), I88 0 w58 ∧ ∀ _u91 : Nat → Value, ∀ k92 : Int, ∀ w90 : World, I88 k92 w90 → bif (decide (k92 < i30)) then (elAt x25.p x25.n k92 1 fun a93 => ∃
    x94 : Int, w90.cell? a93 = some (.int .i64 x94) ∧ Calls P fn_pages_Table_Get #[(.pointer x6), (.int .i64 x94)] w90 fun e96 w95 => ∃ x97 : Int, ∃ x98 : Int, ∃ x99 : Int, ∃ x100 :
    Int, ∃ x101 : Int, ∃ x102 : Int, ∃ x103 : Int, ∃ x104 : Bool, ∃ x105 : Bool, ∃ x106 : Int, e96 = .returned (.tuple #[(.agg #[(.int .i64 x97), (.int .i64 x98), (.int .i64 x99),
    (.int .i64 x100), (.int .i64 x101), (.int .i64 x102), (.int .i64 x103), (.bool x104), (.bool x105)]), (.int .i64 x106)]) ∧ Al (.cells #[(.int .i64 0), (.int .i64 0), (.int .i64
    0), (.int .i64 0), (.int .i64 0), (.int .i64 0), (.int .i64 0), (.bool false), (.bool false)] 45) (fun p107 w108 => StN [(.int .i64 x97), (.int .i64 x98), (.int .i64 x99), (.int
    .i64 x100), (.int .i64 x101), (.int .i64 x102), (.int .i64 x103), (.bool x104), (.bool x105)] p107 (fun w109 => ∃ x110 : Int, w109.cell? ((p107.add 0).add 0) = some (.int .i64
    x110) ∧ ∃ x111 : Int, w109.cell? ((p107.add 0).add 1) = some (.int .i64 x111) ∧ ∃ x112 : Int, w109.cell? ((p45.add 0).add 0) = some (.int .i64 x112) ∧ ∃ x113 : Int, w109.cell?
    ((p45.add 0).add 1) = some (.int .i64 x113) ∧ ∃ q114 : Bool, EqV P .eql 24 (.agg #[(.int .i64 x110), (.int .i64 x111)]) (.agg #[(.int .i64 x112), (.int .i64 x113)]) q114 ∧ bif
    q114 then (K (.bool false) w109) else (∃ x115 : Int, w109.cell? (p107.add 2) = some (.int .i64 x115) ∧ bif (x115 != 0) then (∃ x116 : Int, w109.cell? (p107.add 2) = some (.int
    .i64 x116) ∧ ∃ x117 : Int, w109.cell? (p45.add 2) = some (.int .i64 x117) ∧ bif (x116 == x117) then (∃ x118 : Int, w109.cell? (p107.add 3) = some (.int .i64 x118) ∧ ∃ x119 :
    Int, w109.cell? (p45.add 3) = some (.int .i64 x119) ∧ bif (x118 == x119) then (K (.bool false) w109) else ((I88 (IntKind.i64.wrap (k92 + 1)) w109 ∧ M89 (IntKind.i64.wrap (k92 +
    1)) w109 < M89 k92 w90))) else ((I88 (IntKind.i64.wrap (k92 + 1)) w109 ∧ M89 (IntKind.i64.wrap (k92 + 1)) w109 < M89 k92 w90))) else ((I88 (IntKind.i64.wrap (k92 + 1)) w109 ∧
    M89 (IntKind.i64.wrap (k92 + 1)) w109 < M89 k92 w90)))) w108) w95) else (∃ x120 : Int, w90.cell? (p45.add 4) = some (.int .i64 x120) ∧ Calls P fn_pages_Table_Those #[(.pointer
    x6), (.int .i64 x120)] w90 fun e122 w121 => ∃ x123 : Sl, e122 = .returned (.slice x123.p x123.n x123.c) ∧ ∃ (I124 : Bool → Int → World → Prop) (M125 : Bool → Int → World → Nat),
    I124 false 0 w121 ∧ ∀ _u127 : Nat → Value, ∀ in128 : Bool, ∀ k129 : Int, ∀ w126 : World, I124 in128 k129 w126 → bif (decide (k129 < ((x123.n : Nat) : Int))) then (Dr (fun w130
    => bif in128 then ((I124 true (IntKind.i64.wrap (k129 + 1)) w130 ∧ M125 true (IntKind.i64.wrap (k129 + 1)) w130 < M125 in128 k129 w126)) else (elAt x123.p x123.n k129 1 fun a131
    => ∃ x132 : Int, w130.cell? a131 = some (.int .i64 x132) ∧ elAt x25.p x25.n i30 1 fun a133 => ∃ x134 : Int, w130.cell? a133 = some (.int .i64 x134) ∧ (I124 (x132 == x134)
    (IntKind.i64.wrap (k129 + 1)) w130 ∧ M125 (x132 == x134) (IntKind.i64.wrap (k129 + 1)) w130 < M125 in128 k129 w126))) w126) else (bif (!in128) then (K (.bool false) w126) else
    ((I26 (IntKind.i64.wrap (i30 + 1)) w126 ∧ M27 (IntKind.i64.wrap (i30 + 1)) w126 < M27 i30 w28))))))) w46) w33) else (K (.bool x3) w28))))
theorem vc_millpondlaw14_PagesOnce (l : Sl) (K : Value → World → Prop) (w : World) : vcFn P tau rho pan ann_millpondlaw14_PagesOnce Go.Proofs.Try.f4 #[(.slice l.p l.n l.c)] K (fun _ _ => False) w = sh_millpondlaw14_PagesOnce l K w := by kernel_rfl
theorem ok_millpondlaw14_PagesOnce : okFn P ann_millpondlaw14_PagesOnce Go.Proofs.Try.f4 1 = true := by kernel_rfl
theorem of_millpondlaw14_PagesOnce (l : Sl) {K : Value → World → Prop} {w : World} (h : sh_millpondlaw14_PagesOnce l K w) : Calls P fn_millpondlaw14_PagesOnce #[(.slice l.p l.n l.c)] w (Ret K) := calls_of_vc mixed Go.Proofs.Try.func4 ok_millpondlaw14_PagesOnce (by rw [vc_millpondlaw14_PagesOnce]; exact h)

def ann_millpondlaw14_PagesErr : Ann := { quiet := fun d => [22, 23, 28, 29, 31, 42, 43, 45, 66, 75, 76, 78, 93].contains d, head := fun r => (bif r == 27 then 6 else 0), loop := fun r => (bif r == 8 then [(7, .int .i64)] else bif r == 14 then [(8, .slice), (10, .int .i64)] else bif r == 24 then [(15, .int .i64)] else []) }
/-- millpond/millpondlaw14.PagesErr -/
def sh_millpondlaw14_PagesErr (l : Sl) (a_0 : Int) (a_1 : Int) (a_2 : Int) (a_3 : Int) (a_4 : Int) (a_5 : Int) (K : Value → World → Prop) (w : World) : Prop :=
  Al (.cells #[(.int .i64 a_0), (.int .i64 a_1), (.int .i64 a_2), (.int .i64 a_3), (.int .i64 a_4), (.int .i64 a_5)] 34) (fun p1 w2 => Calls P fn_millpondlaw14_works #[] w2 fun e4 w3
    => ∃ x5 : Bool, e4 = .returned (.bool x5) ∧ bif (!x5) then (K (.bool false) w3) else (bif (decide (((l.n : Nat) : Int) > 80)) then (K (.bool x5) w3) else (Calls P fn_pages_New
    #[] w3 fun e7 w6 => ∃ x8 : Option Addr, e7 = .returned (.pointer x8) ∧ ∃ (I9 : Int → World → Prop) (M10 : Int → World → Nat), I9 0 w6 ∧ ∀ _u12 : Nat → Value, ∀ i13 : Int, ∀ w11
    : World, I9 i13 w11 → bif (decide (i13 < ((l.n : Nat) : Int))) then (elAt l.p l.n i13 6 fun a14 => ∃ x15 : Int, w11.cell? (a14.add 0) = some (.int .i64 x15) ∧ ∃ x16 : Int,
    w11.cell? (a14.add 1) = some (.int .i64 x16) ∧ ∃ x17 : Int, w11.cell? (a14.add 2) = some (.int .i64 x17) ∧ ∃ x18 : Int, w11.cell? (a14.add 3) = some (.int .i64 x18) ∧ ∃ x19 :
    Int, w11.cell? (a14.add 4) = some (.int .i64 x19) ∧ ∃ x20 : Int, w11.cell? (a14.add 5) = some (.int .i64 x20) ∧ Calls P fn_millpondlaw14_do #[(.pointer x8), (.agg #[(.int .i64
    x15), (.int .i64 x16), (.int .i64 x17), (.int .i64 x18), (.int .i64 x19), (.int .i64 x20)])] w11 fun e22 w21 => ∃ x23 : Int, ∃ x24 : Int, e22 = .returned (.tuple #[(.int .i64
    x23), (.int .i64 x24)]) ∧ (I9 (IntKind.i64.wrap (i13 + 1)) w21 ∧ M10 (IntKind.i64.wrap (i13 + 1)) w21 < M10 i13 w11)) else (Calls P fn_pages_Table_All #[(.pointer x8)] w11 fun
    e26 w25 => ∃ x27 : Sl, e26 = .returned (.slice x27.p x27.n x27.c) ∧ ∃ (I28 : Sl → Int → World → Prop) (M29 : Sl → Int → World → Nat), I28 ⟨none, 0, 0⟩ 0 w25 ∧ ∀ _u31 : Nat →
    Value, ∀ was32 : Sl, ∀ i33 : Int, ∀ w30 : World, I28 was32 i33 w30 → bif (decide (i33 < ((x27.n : Nat) : Int))) then (elAt x27.p x27.n i33 1 fun a34 => ∃ x35 : Int, w30.cell?
    a34 = some (.int .i64 x35) ∧ Calls P fn_pages_Table_Get #[(.pointer x8), (.int .i64 x35)] w30 fun e37 w36 => ∃ x38 : Int, ∃ x39 : Int, ∃ x40 : Int, ∃ x41 : Int, ∃ x42 : Int, ∃
    x43 : Int, ∃ x44 : Int, ∃ x45 : Bool, ∃ x46 : Bool, ∃ x47 : Int, e37 = .returned (.tuple #[(.agg #[(.int .i64 x38), (.int .i64 x39), (.int .i64 x40), (.int .i64 x41), (.int .i64
    x42), (.int .i64 x43), (.int .i64 x44), (.bool x45), (.bool x46)]), (.int .i64 x47)]) ∧ Al (.cells #[(.int .i64 0), (.int .i64 0), (.int .i64 0), (.int .i64 0), (.int .i64 0),
    (.int .i64 0), (.int .i64 0), (.bool false), (.bool false)] 45) (fun p48 w49 => StN [(.int .i64 x38), (.int .i64 x39), (.int .i64 x40), (.int .i64 x41), (.int .i64 x42), (.int
    .i64 x43), (.int .i64 x44), (.bool x45), (.bool x46)] p48 (fun w50 => ∃ x51 : Int, w50.cell? (p48.add 0) = some (.int .i64 x51) ∧ ∃ x52 : Int, w50.cell? (p48.add 1) = some (.int
    .i64 x52) ∧ ∃ x53 : Int, w50.cell? (p48.add 2) = some (.int .i64 x53) ∧ ∃ x54 : Int, w50.cell? (p48.add 3) = some (.int .i64 x54) ∧ ∃ x55 : Int, w50.cell? (p48.add 4) = some
    (.int .i64 x55) ∧ ∃ x56 : Int, w50.cell? (p48.add 5) = some (.int .i64 x56) ∧ ∃ x57 : Int, w50.cell? (p48.add 6) = some (.int .i64 x57) ∧ ∃ x58 : Bool, w50.cell? (p48.add 7) =
    some (.bool x58) ∧ ∃ x59 : Bool, w50.cell? (p48.add 8) = some (.bool x59) ∧ Al (.cells #[(.int .i64 x51), (.int .i64 x52), (.int .i64 x53), (.int .i64 x54), (.int .i64 x55),
    (.int .i64 x56), (.int .i64 x57), (.bool x58), (.bool x59)] 45) (fun p60 w61 => ∃ x63 : Sl, ∃ w62 : World, Sem.run P (Builtin.append_ #[57, 57] 57 #[(.slice was32.p was32.n
    was32.c), (.slice (some p60) 1 1)]) w61 = .ok (.slice x63.p x63.n x63.c) w62 ∧ (I28 x63 (IntKind.i64.wrap (i33 + 1)) w62 ∧ M29 x63 (IntKind.i64.wrap (i33 + 1)) w62 < M29 was32
    i33 w30)) w50) w49) w36) else (∃ x64 : Int, w30.cell? (p1.add 0) = some (.int .i64 x64) ∧ ∃ x65 : Int, w30.cell? (p1.add 1) = some (.int .i64 x65) ∧ ∃ x66 : Int, w30.cell?
    (p1.add 2) = some (.int .i64 x66) ∧ ∃ x67 : Int, w30.cell? (p1.add 3) = some (.int .i64 x67) ∧ ∃ x68 : Int, w30.cell? (p1.add 4) = some (.int .i64 x68) ∧ ∃ x69 : Int, w30.cell?
    (p1.add 5) = some (.int .i64 x69) ∧ Calls P fn_millpondlaw14_do #[(.pointer x8), (.agg #[(.int .i64 x64), (.int .i64 x65), (.int .i64 x66), (.int .i64 x67), (.int .i64 x68),
    (.int .i64 x69)])] w30 fun e71 w70 => ∃ x72 : Int, ∃ x73 : Int, e71 = .returned (.tuple #[(.int .i64 x72), (.int .i64 x73)]) ∧ bif (x73 == 0) then (K (.bool x5) w70) else (Calls
    P fn_pages_Table_All #[(.pointer x8)] w70 fun e75 w74 => ∃ x76 : Sl, e75 = .returned (.slice x76.p x76.n x76.c) ∧ Calls P fn_millpondlaw14_row #[(.slice x27.p x27.n x27.c),
    (.slice x76.p x76.n x76.c)] w74 fun e78 w77 => ∃ x79 : Bool, e78 = .returned (.bool x79) ∧ bif (!x79) then (K (.bool false) w77) else (∃ (I80 : Int → World → Prop) (M81 : Int →
    World → Nat), I80 0 w77 ∧ ∀ _u83 : Nat → Value, ∀ i84 : Int, ∀ w82 : World, I80 i84 w82 → bif (decide (i84 < ((x27.n : Nat) : Int))) then (elAt x27.p x27.n i84 1 fun a85 => ∃
    x86 : Int, w82.cell? a85 = some (.int .i64 x86) ∧ Calls P fn_pages_Table_Get #[(.pointer x8), (.int .i64 x86)] w82 fun e88 w87 => ∃ x89 : Int, ∃ x90 : Int, ∃ x91 : Int, ∃ x92 :
    Int, ∃ x93 : Int, ∃ x94 : Int, ∃ x95 : Int, ∃ x96 : Bool, ∃ x97 : Bool, ∃ x98 : Int, e88 = .returned (.tuple #[(.agg #[(.int .i64 x89), (.int .i64 x90), (.int .i64 x91), (.int
    .i64 x92), (.int .i64 x93), (.int .i64 x94), (.int .i64 x95), (.bool x96), (.bool x97)]), (.int .i64 x98)]) ∧ Al (.cells #[(.int .i64 0), (.int .i64 0), (.int .i64 0), (.int
    .i64 0), (.int .i64 0), (.int .i64 0), (.int .i64 0), (.bool false), (.bool false)] 45) (fun p99 w100 => StN [(.int .i64 x89), (.int .i64 x90), (.int .i64 x91), (.int .i64 x92),
    (.int .i64 x93), (.int .i64 x94), (.int .i64 x95), (.bool x96), (.bool x97)] p99 (fun w101 => Dr (fun w102 => ∃ x103 : Int, w102.cell? (p99.add 0) = some (.int .i64 x103) ∧ ∃
    x104 : Int, w102.cell? (p99.add 1) = some (.int .i64 x104) ∧ ∃ x105 : Int, w102.cell? (p99.add 2) = some (.int .i64 x105) ∧ ∃ x106 : Int, w102.cell? (p99.add 3) = some (.int
    .i64 x106) ∧ ∃ x107 : Int, w102.cell? (p99.add 4) = some (.int .i64 x107) ∧ ∃ x108 : Int, w102.cell? (p99.add 5) = some (.int .i64 x108) ∧ ∃ x109 : Int, w102.cell? (p99.add 6) =
    some (.int .i64 x109) ∧ ∃ x110 : Bool, w102.cell? (p99.add 7) = some (.bool x110) ∧ ∃ x111 : Bool, w102.cell? (p99.add 8) = some (.bool x111) ∧ elAt was32.p was32.n i84 9 fun
    a112 => ∃ x113 : Int, w102.cell? (a112.add 0) = some (.int .i64 x113) ∧ ∃ x114 : Int, w102.cell? (a112.add 1) = some (.int .i64 x114) ∧ ∃ x115 : Int, w102.cell? (a112.add 2) =
    some (.int .i64 x115) ∧ ∃ x116 : Int, w102.cell? (a112.add 3) = some (.int .i64 x116) ∧ ∃ x117 : Int, w102.cell? (a112.add 4) = some (.int .i64 x117) ∧ ∃ x118 : Int, w102.cell?
    (a112.add 5) = some (.int .i64 x118) ∧ ∃ x119 : Int, w102.cell? (a112.add 6) = some (.int .i64 x119) ∧ ∃ x120 : Bool, w102.cell? (a112.add 7) = some (.bool x120) ∧ ∃ x121 :
    Bool, w102.cell? (a112.add 8) = some (.bool x121) ∧ ∃ q122 : Bool, EqV P .neq 45 (.agg #[(.int .i64 x103), (.int .i64 x104), (.int .i64 x105), (.int .i64 x106), (.int .i64
    x107), (.int .i64 x108), (.int .i64 x109), (.bool x110), (.bool x111)]) (.agg #[(.int .i64 x113), (.int .i64 x114), (.int .i64 x115), (.int .i64 x116), (.int .i64 x117), (.int
    .i64 x118), (.int .i64 x119), (.bool x120), (.bool x121)]) q122 ∧ bif q122 then (K (.bool false) w102) else ((I80 (IntKind.i64.wrap (i84 + 1)) w102 ∧ M81 (IntKind.i64.wrap (i84
    + 1)) w102 < M81 i84 w82))) w101) w100) w87) else (K (.bool x5) w82)))))))) w
theorem vc_millpondlaw14_PagesErr (l : Sl) (a_0 : Int) (a_1 : Int) (a_2 : Int) (a_3 : Int) (a_4 : Int) (a_5 : Int) (K : Value → World → Prop) (w : World) : vcFn P tau rho pan ann_millpondlaw14_PagesErr Go.Proofs.Try.f5 #[(.slice l.p l.n l.c), (.agg #[(.int .i64 a_0), (.int .i64 a_1), (.int .i64 a_2), (.int .i64 a_3), (.int .i64 a_4), (.int .i64 a_5)])] K (fun _ _ => False) w = sh_millpondlaw14_PagesErr l a_0 a_1 a_2 a_3 a_4 a_5 K w := by kernel_rfl
theorem ok_millpondlaw14_PagesErr : okFn P ann_millpondlaw14_PagesErr Go.Proofs.Try.f5 2 = true := by kernel_rfl
theorem of_millpondlaw14_PagesErr (l : Sl) (a_0 : Int) (a_1 : Int) (a_2 : Int) (a_3 : Int) (a_4 : Int) (a_5 : Int) {K : Value → World → Prop} {w : World} (h : sh_millpondlaw14_PagesErr l a_0 a_1 a_2 a_3 a_4 a_5 K w) : Calls P fn_millpondlaw14_PagesErr #[(.slice l.p l.n l.c), (.agg #[(.int .i64 a_0), (.int .i64 a_1), (.int .i64 a_2), (.int .i64 a_3), (.int .i64 a_4), (.int .i64 a_5)])] w (Ret K) := calls_of_vc mixed Go.Proofs.Try.func5 ok_millpondlaw14_PagesErr (by rw [vc_millpondlaw14_PagesErr]; exact h)

def ann_millpondlaw14_PagesMoves : Ann := { quiet := fun d => [30, 31, 36, 37, 39, 76, 81, 86, 91, 96, 100, 112, 115, 122, 127, 133, 139, 146, 153, 164, 168].contains d, loop := fun r => (bif r == 8 then [(13, .int .i64)] else []), join := fun r => (bif r == 19 then some [(23, .bool)] else bif r == 20 then some [(24, .bool)] else bif r == 21 then some [(25, .bool)] else none) }
/-- millpond/millpondlaw14.PagesMoves -/
def sh_millpondlaw14_PagesMoves (l : Sl) (id : Int) (place : Int) (atA : Int) (other : Int) (K : Value → World → Prop) (w : World) : Prop :=
  Calls P fn_millpondlaw14_works #[] w fun e2 w1 => ∃ x3 : Bool, e2 = .returned (.bool x3) ∧ bif (!x3) then (K (.bool false) w1) else (bif (decide (((l.n : Nat) : Int) > 80)) then (K
    (.bool x3) w1) else (Calls P fn_pages_New #[] w1 fun e5 w4 => ∃ x6 : Option Addr, e5 = .returned (.pointer x6) ∧ ∃ (I7 : Int → World → Prop) (M8 : Int → World → Nat), I7 0 w4 ∧
    ∀ _u10 : Nat → Value, ∀ i11 : Int, ∀ w9 : World, I7 i11 w9 → bif (decide (i11 < ((l.n : Nat) : Int))) then (elAt l.p l.n i11 6 fun a12 => ∃ x13 : Int, w9.cell? (a12.add 0) =
    some (.int .i64 x13) ∧ ∃ x14 : Int, w9.cell? (a12.add 1) = some (.int .i64 x14) ∧ ∃ x15 : Int, w9.cell? (a12.add 2) = some (.int .i64 x15) ∧ ∃ x16 : Int, w9.cell? (a12.add 3) =
    some (.int .i64 x16) ∧ ∃ x17 : Int, w9.cell? (a12.add 4) = some (.int .i64 x17) ∧ ∃ x18 : Int, w9.cell? (a12.add 5) = some (.int .i64 x18) ∧ Calls P fn_millpondlaw14_do
    #[(.pointer x6), (.agg #[(.int .i64 x13), (.int .i64 x14), (.int .i64 x15), (.int .i64 x16), (.int .i64 x17), (.int .i64 x18)])] w9 fun e20 w19 => ∃ x21 : Int, ∃ x22 : Int, e20
    = .returned (.tuple #[(.int .i64 x21), (.int .i64 x22)]) ∧ (I7 (IntKind.i64.wrap (i11 + 1)) w19 ∧ M8 (IntKind.i64.wrap (i11 + 1)) w19 < M8 i11 w9)) else (Calls P
    fn_pages_Table_Get #[(.pointer x6), (.int .i64 id)] w9 fun e24 w23 => ∃ x25 : Int, ∃ x26 : Int, ∃ x27 : Int, ∃ x28 : Int, ∃ x29 : Int, ∃ x30 : Int, ∃ x31 : Int, ∃ x32 : Bool, ∃
    x33 : Bool, ∃ x34 : Int, e24 = .returned (.tuple #[(.agg #[(.int .i64 x25), (.int .i64 x26), (.int .i64 x27), (.int .i64 x28), (.int .i64 x29), (.int .i64 x30), (.int .i64 x31),
    (.bool x32), (.bool x33)]), (.int .i64 x34)]) ∧ Al (.cells #[(.int .i64 0), (.int .i64 0), (.int .i64 0), (.int .i64 0), (.int .i64 0), (.int .i64 0), (.int .i64 0), (.bool
    false), (.bool false)] 45) (fun p35 w36 => StN [(.int .i64 x25), (.int .i64 x26), (.int .i64 x27), (.int .i64 x28), (.int .i64 x29), (.int .i64 x30), (.int .i64 x31), (.bool
    x32), (.bool x33)] p35 (fun w37 => Calls P fn_pages_Table_Get #[(.pointer x6), (.int .i64 other)] w37 fun e39 w38 => ∃ x40 : Int, ∃ x41 : Int, ∃ x42 : Int, ∃ x43 : Int, ∃ x44 :
    Int, ∃ x45 : Int, ∃ x46 : Int, ∃ x47 : Bool, ∃ x48 : Bool, ∃ x49 : Int, e39 = .returned (.tuple #[(.agg #[(.int .i64 x40), (.int .i64 x41), (.int .i64 x42), (.int .i64 x43),
    (.int .i64 x44), (.int .i64 x45), (.int .i64 x46), (.bool x47), (.bool x48)]), (.int .i64 x49)]) ∧ Al (.cells #[(.int .i64 0), (.int .i64 0), (.int .i64 0), (.int .i64 0), (.int
    .i64 0), (.int .i64 0), (.int .i64 0), (.bool false), (.bool false)] 45) (fun p50 w51 => StN [(.int .i64 x40), (.int .i64 x41), (.int .i64 x42), (.int .i64 x43), (.int .i64
    x44), (.int .i64 x45), (.int .i64 x46), (.bool x47), (.bool x48)] p50 (fun w52 => Calls P fn_pages_Table_Put #[(.pointer x6), (.int .i64 id), (.int .i64 place), (.int .i64 atA)]
    w52 fun e54 w53 => ∃ x55 : Int, e54 = .returned (.int .i64 x55) ∧ Calls P fn_pages_Table_Get #[(.pointer x6), (.int .i64 id)] w53 fun e57 w56 => ∃ x58 : Int, ∃ x59 : Int, ∃ x60
    : Int, ∃ x61 : Int, ∃ x62 : Int, ∃ x63 : Int, ∃ x64 : Int, ∃ x65 : Bool, ∃ x66 : Bool, ∃ x67 : Int, e57 = .returned (.tuple #[(.agg #[(.int .i64 x58), (.int .i64 x59), (.int
    .i64 x60), (.int .i64 x61), (.int .i64 x62), (.int .i64 x63), (.int .i64 x64), (.bool x65), (.bool x66)]), (.int .i64 x67)]) ∧ Al (.cells #[(.int .i64 0), (.int .i64 0), (.int
    .i64 0), (.int .i64 0), (.int .i64 0), (.int .i64 0), (.int .i64 0), (.bool false), (.bool false)] 45) (fun p68 w69 => StN [(.int .i64 x58), (.int .i64 x59), (.int .i64 x60),
    (.int .i64 x61), (.int .i64 x62), (.int .i64 x63), (.int .i64 x64), (.bool x65), (.bool x66)] p68 (fun w70 => Calls P fn_pages_Table_Get #[(.pointer x6), (.int .i64 other)] w70
    fun e72 w71 => ∃ x73 : Int, ∃ x74 : Int, ∃ x75 : Int, ∃ x76 : Int, ∃ x77 : Int, ∃ x78 : Int, ∃ x79 : Int, ∃ x80 : Bool, ∃ x81 : Bool, ∃ x82 : Int, e72 = .returned (.tuple
    #[(.agg #[(.int .i64 x73), (.int .i64 x74), (.int .i64 x75), (.int .i64 x76), (.int .i64 x77), (.int .i64 x78), (.int .i64 x79), (.bool x80), (.bool x81)]), (.int .i64 x82)]) ∧
    Al (.cells #[(.int .i64 0), (.int .i64 0), (.int .i64 0), (.int .i64 0), (.int .i64 0), (.int .i64 0), (.int .i64 0), (.bool false), (.bool false)] 45) (fun p83 w84 => StN
    [(.int .i64 x73), (.int .i64 x74), (.int .i64 x75), (.int .i64 x76), (.int .i64 x77), (.int .i64 x78), (.int .i64 x79), (.bool x80), (.bool x81)] p83 (fun w85 => bif (x55 != 0)
    then (bif x3 then (∃ x86 : Int, w85.cell? (p68.add 0) = some (.int .i64 x86) ∧ ∃ x87 : Int, w85.cell? (p68.add 1) = some (.int .i64 x87) ∧ ∃ x88 : Int, w85.cell? (p68.add 2) =
    some (.int .i64 x88) ∧ ∃ x89 : Int, w85.cell? (p68.add 3) = some (.int .i64 x89) ∧ ∃ x90 : Int, w85.cell? (p68.add 4) = some (.int .i64 x90) ∧ ∃ x91 : Int, w85.cell? (p68.add 5)
    = some (.int .i64 x91) ∧ ∃ x92 : Int, w85.cell? (p68.add 6) = some (.int .i64 x92) ∧ ∃ x93 : Bool, w85.cell? (p68.add 7) = some (.bool x93) ∧ ∃ x94 : Bool, w85.cell? (p68.add 8)
    = some (.bool x94) ∧ ∃ x95 : Int, w85.cell? (p35.add 0) = some (.int .i64 x95) ∧ ∃ x96 : Int, w85.cell? (p35.add 1) = some (.int .i64 x96) ∧ ∃ x97 : Int, w85.cell? (p35.add 2) =
    some (.int .i64 x97) ∧ ∃ x98 : Int, w85.cell? (p35.add 3) = some (.int .i64 x98) ∧ ∃ x99 : Int, w85.cell? (p35.add 4) = some (.int .i64 x99) ∧ ∃ x100 : Int, w85.cell? (p35.add
    5) = some (.int .i64 x100) ∧ ∃ x101 : Int, w85.cell? (p35.add 6) = some (.int .i64 x101) ∧ ∃ x102 : Bool, w85.cell? (p35.add 7) = some (.bool x102) ∧ ∃ x103 : Bool, w85.cell?
    (p35.add 8) = some (.bool x103) ∧ ∃ q104 : Bool, EqV P .eql 45 (.agg #[(.int .i64 x86), (.int .i64 x87), (.int .i64 x88), (.int .i64 x89), (.int .i64 x90), (.int .i64 x91),
    (.int .i64 x92), (.bool x93), (.bool x94)]) (.agg #[(.int .i64 x95), (.int .i64 x96), (.int .i64 x97), (.int .i64 x98), (.int .i64 x99), (.int .i64 x100), (.int .i64 x101),
    (.bool x102), (.bool x103)]) q104 ∧ bif q104 then (∃ x105 : Int, w85.cell? (p83.add 0) = some (.int .i64 x105) ∧ ∃ x106 : Int, w85.cell? (p83.add 1) = some (.int .i64 x106) ∧ ∃
    x107 : Int, w85.cell? (p83.add 2) = some (.int .i64 x107) ∧ ∃ x108 : Int, w85.cell? (p83.add 3) = some (.int .i64 x108) ∧ ∃ x109 : Int, w85.cell? (p83.add 4) = some (.int .i64
    x109) ∧ ∃ x110 : Int, w85.cell? (p83.add 5) = some (.int .i64 x110) ∧ ∃ x111 : Int, w85.cell? (p83.add 6) = some (.int .i64 x111) ∧ ∃ x112 : Bool, w85.cell? (p83.add 7) = some
    (.bool x112) ∧ ∃ x113 : Bool, w85.cell? (p83.add 8) = some (.bool x113) ∧ ∃ x114 : Int, w85.cell? (p50.add 0) = some (.int .i64 x114) ∧ ∃ x115 : Int, w85.cell? (p50.add 1) =
    some (.int .i64 x115) ∧ ∃ x116 : Int, w85.cell? (p50.add 2) = some (.int .i64 x116) ∧ ∃ x117 : Int, w85.cell? (p50.add 3) = some (.int .i64 x117) ∧ ∃ x118 : Int, w85.cell?
    (p50.add 4) = some (.int .i64 x118) ∧ ∃ x119 : Int, w85.cell? (p50.add 5) = some (.int .i64 x119) ∧ ∃ x120 : Int, w85.cell? (p50.add 6) = some (.int .i64 x120) ∧ ∃ x121 : Bool,
    w85.cell? (p50.add 7) = some (.bool x121) ∧ ∃ x122 : Bool, w85.cell? (p50.add 8) = some (.bool x122) ∧ ∃ q123 : Bool, EqV P .eql 45 (.agg #[(.int .i64 x105), (.int .i64 x106),
    (.int .i64 x107), (.int .i64 x108), (.int .i64 x109), (.int .i64 x110), (.int .i64 x111), (.bool x112), (.bool x113)]) (.agg #[(.int .i64 x114), (.int .i64 x115), (.int .i64
    x116), (.int .i64 x117), (.int .i64 x118), (.int .i64 x119), (.int .i64 x120), (.bool x121), (.bool x122)]) q123 ∧ K (.bool q123) w85) else (K (.bool false) w85)) else (K (.bool
    false) w85)) else (∃ J124 : Bool → World → Prop, (∃ x128 : Int, w85.cell? (p35.add 2) = some (.int .i64 x128) ∧ bif (x128 != place) then (J124 true w85) else (∃ x129 : Int,
    w85.cell? (p35.add 3) = some (.int .i64 x129) ∧ J124 (x129 != atA) w85)) ∧ (∀ _u126 : Nat → Value, ∀ moved127 : Bool, ∀ w125 : World, J124 moved127 w125 → ∃ J130 : Bool → World
    → Prop, (∃ x134 : Int, w125.cell? (p35.add 2) = some (.int .i64 x134) ∧ bif (x134 == 0) then (J130 true w125) else (bif (!moved127) then (J130 true w125) else (∃ x135 : Int,
    w125.cell? (p35.add 2) = some (.int .i64 x135) ∧ ∃ x136 : Int, w125.cell? (p35.add 3) = some (.int .i64 x136) ∧ Calls P fn_pages_Table_At #[(.pointer x6), (.int .i64 x135),
    (.int .i64 x136)] w125 fun e138 w137 => ∃ x139 : Int, e138 = .returned (.int .i64 x139) ∧ J130 (x139 == (-1)) w137))) ∧ (∀ _u132 : Nat → Value, ∀ left133 : Bool, ∀ w131 : World,
    J130 left133 w131 → ∃ J140 : Bool → World → Prop, (bif (place == 0) then (J140 true w131) else (Calls P fn_pages_Table_At #[(.pointer x6), (.int .i64 place), (.int .i64 atA)]
    w131 fun e145 w144 => ∃ x146 : Int, e145 = .returned (.int .i64 x146) ∧ J140 (x146 == id) w144)) ∧ (∀ _u142 : Nat → Value, ∀ there143 : Bool, ∀ w141 : World, J140 there143 w141
    → bif x3 then (bif (x34 == 0) then (∃ x147 : Int, w141.cell? (p68.add 2) = some (.int .i64 x147) ∧ bif (x147 == place) then (∃ x148 : Int, w141.cell? (p68.add 3) = some (.int
    .i64 x148) ∧ bif (x148 == atA) then (∃ x149 : Int, w141.cell? ((p68.add 0).add 0) = some (.int .i64 x149) ∧ ∃ x150 : Int, w141.cell? ((p68.add 0).add 1) = some (.int .i64 x150)
    ∧ ∃ x151 : Int, w141.cell? ((p35.add 0).add 0) = some (.int .i64 x151) ∧ ∃ x152 : Int, w141.cell? ((p35.add 0).add 1) = some (.int .i64 x152) ∧ ∃ q153 : Bool, EqV P .eql 24
    (.agg #[(.int .i64 x149), (.int .i64 x150)]) (.agg #[(.int .i64 x151), (.int .i64 x152)]) q153 ∧ bif q153 then (∃ x154 : Int, w141.cell? (p68.add 5) = some (.int .i64 x154) ∧ ∃
    x155 : Int, w141.cell? (p35.add 5) = some (.int .i64 x155) ∧ bif (x154 == x155) then (bif left133 then (bif there143 then (bif (other == id) then (K (.bool true) w141) else (∃
    x156 : Int, w141.cell? (p83.add 0) = some (.int .i64 x156) ∧ ∃ x157 : Int, w141.cell? (p83.add 1) = some (.int .i64 x157) ∧ ∃ x158 : Int, w141.cell? (p83.add 2) = some (.int
    .i64 x158) ∧ ∃ x159 : Int, w141.cell? (p83.add 3) = some (.int .i64 x159) ∧ ∃ x160 : Int, w141.cell? (p83.add 4) = some (.int .i64 x160) ∧ ∃ x161 : Int, w141.cell? (p83.add 5) =
    some (.int .i64 x161) ∧ ∃ x162 : Int, w141.cell? (p83.add 6) = some (.int .i64 x162) ∧ ∃ x163 : Bool, w141.cell? (p83.add 7) = some (.bool x163) ∧ ∃ x164 : Bool, w141.cell?
    (p83.add 8) = some (.bool x164) ∧ ∃ x165 : Int, w141.cell? (p50.add 0) = some (.int .i64 x165) ∧ ∃ x166 : Int, w141.cell? (p50.add 1) = some (.int .i64 x166) ∧ ∃ x167 : Int,
    w141.cell? (p50.add 2) = some (.int .i64 x167) ∧ ∃ x168 : Int, w141.cell? (p50.add 3) = some (.int .i64 x168) ∧ ∃ x169 : Int, w141.cell? (p50.add 4) = some (.int .i64 x169) ∧ ∃
    x170 : Int, w141.cell? (p50.add 5) = some (.int .i64 x170) ∧ ∃ x171 : Int, w141.cell? (p50.add 6) = some (.int .i64 x171) ∧ ∃ x172 : Bool, w141.cell? (p50.add 7) = some (.bool
    x172) ∧ ∃ x173 : Bool, w141.cell? (p50.add 8) = some (.bool x173) ∧ ∃ q174 : Bool, EqV P .eql 45 (.agg #[(.int .i64 x156), (.int .i64 x157), (.int .i64 x158), (.int .i64 x159),
    (.int .i64 x160), (.int .i64 x161), (.int .i64 x162), (.bool x163), (.bool x164)]) (.agg #[(.int .i64 x165), (.int .i64 x166), (.int .i64 x167), (.int .i64 x168), (.int .i64
    x169), (.int .i64 x170), (.int .i64 x171), (.bool x172), (.bool x173)]) q174 ∧ K (.bool q174) w141)) else (K (.bool false) w141)) else (K (.bool false) w141)) else (K (.bool
    false) w141)) else (K (.bool false) w141)) else (K (.bool false) w141)) else (K (.bool false) w141)) else (K (.bool false) w141)) else (K (.bool false) w141)))))) w84) w71) w69)
    w56) w51) w38) w36) w23)))
theorem vc_millpondlaw14_PagesMoves (l : Sl) (id : Int) (place : Int) (atA : Int) (other : Int) (K : Value → World → Prop) (w : World) : vcFn P tau rho pan ann_millpondlaw14_PagesMoves Go.Proofs.Try.f6 #[(.slice l.p l.n l.c), (.int .i64 id), (.int .i64 place), (.int .i64 atA), (.int .i64 other)] K (fun _ _ => False) w = sh_millpondlaw14_PagesMoves l id place atA other K w := by kernel_rfl
theorem ok_millpondlaw14_PagesMoves : okFn P ann_millpondlaw14_PagesMoves Go.Proofs.Try.f6 5 = true := by kernel_rfl
theorem of_millpondlaw14_PagesMoves (l : Sl) (id : Int) (place : Int) (atA : Int) (other : Int) {K : Value → World → Prop} {w : World} (h : sh_millpondlaw14_PagesMoves l id place atA other K w) : Calls P fn_millpondlaw14_PagesMoves #[(.slice l.p l.n l.c), (.int .i64 id), (.int .i64 place), (.int .i64 atA), (.int .i64 other)] w (Ret K) := calls_of_vc mixed Go.Proofs.Try.func6 ok_millpondlaw14_PagesMoves (by rw [vc_millpondlaw14_PagesMoves]; exact h)

def ann_millpondlaw14_PagesIds : Ann := { quiet := fun d => [16, 17, 22, 23, 25, 40, 41, 44, 48, 50, 56, 57, 60, 73, 79, 81, 85, 86, 90, 91, 95].contains d, loop := fun r => (bif r == 9 then [(5, .int .i64), (6, .int .i64)] else []), join := fun r => (bif r == 13 then some [(45, .bool)] else bif r == 16 then some [(5, .int .i64)] else bif r == 17 then some [(61, .bool)] else none) }
/-- millpond/millpondlaw14.PagesIds -/
def sh_millpondlaw14_PagesIds (l : Sl) (K : Value → World → Prop) (w : World) : Prop :=
  Calls P fn_millpondlaw14_works #[] w fun e2 w1 => ∃ x3 : Bool, e2 = .returned (.bool x3) ∧ bif (!x3) then (K (.bool false) w1) else (bif (decide (((l.n : Nat) : Int) > 80)) then (K
    (.bool x3) w1) else (Calls P fn_pages_New #[] w1 fun e5 w4 => ∃ x6 : Option Addr, e5 = .returned (.pointer x6) ∧ ∃ (I7 : Int → Int → World → Prop) (M8 : Int → Int → World →
    Nat), I7 0 0 w4 ∧ ∀ _u10 : Nat → Value, ∀ next11 : Int, ∀ i12 : Int, ∀ w9 : World, I7 next11 i12 w9 → bif (decide (i12 < ((l.n : Nat) : Int))) then (elAt l.p l.n i12 6 fun a13
    => ∃ x14 : Int, w9.cell? (a13.add 0) = some (.int .i64 x14) ∧ ∃ x15 : Int, w9.cell? (a13.add 1) = some (.int .i64 x15) ∧ ∃ x16 : Int, w9.cell? (a13.add 2) = some (.int .i64 x16)
    ∧ ∃ x17 : Int, w9.cell? (a13.add 3) = some (.int .i64 x17) ∧ ∃ x18 : Int, w9.cell? (a13.add 4) = some (.int .i64 x18) ∧ ∃ x19 : Int, w9.cell? (a13.add 5) = some (.int .i64 x19)
    ∧ Calls P fn_millpondlaw14_do #[(.pointer x6), (.agg #[(.int .i64 x14), (.int .i64 x15), (.int .i64 x16), (.int .i64 x17), (.int .i64 x18), (.int .i64 x19)])] w9 fun e21 w20 =>
    ∃ x22 : Int, ∃ x23 : Int, e21 = .returned (.tuple #[(.int .i64 x22), (.int .i64 x23)]) ∧ ∃ J24 : Int → World → Prop, (∃ J28 : Bool → World → Prop, (elAt l.p l.n i12 6 fun a32 =>
    ∃ x33 : Int, w20.cell? (a32.add 0) = some (.int .i64 x33) ∧ (6 : Int) ≠ 0 ∧ bif ((x33.tmod 6) == 0) then (J28 (x23 == 0) w20) else (J28 false w20)) ∧ (∀ _u30 : Nat → Value, ∀
    x31 : Bool, ∀ w29 : World, J28 x31 w29 → bif x31 then (bif (x22 != next11) then (K (.bool false) w29) else (J24 (IntKind.i64.wrap (next11 + 1)) w29)) else (J24 next11 w29))) ∧
    (∀ _u26 : Nat → Value, ∀ next27 : Int, ∀ w25 : World, J24 next27 w25 → ∃ J34 : Bool → World → Prop, (elAt l.p l.n i12 6 fun a38 => ∃ x39 : Int, w25.cell? (a38.add 0) = some
    (.int .i64 x39) ∧ (6 : Int) ≠ 0 ∧ bif ((x39.tmod 6) == 3) then (J34 (x23 == 0) w25) else (J34 false w25)) ∧ (∀ _u36 : Nat → Value, ∀ x37 : Bool, ∀ w35 : World, J34 x37 w35 → bif
    x37 then (elAt l.p l.n i12 6 fun a40 => ∃ x41 : Int, w35.cell? (a40.add 1) = some (.int .i64 x41) ∧ Calls P fn_pages_Table_Get #[(.pointer x6), (.int .i64 x41)] w35 fun e43 w42
    => ∃ x44 : Int, ∃ x45 : Int, ∃ x46 : Int, ∃ x47 : Int, ∃ x48 : Int, ∃ x49 : Int, ∃ x50 : Int, ∃ x51 : Bool, ∃ x52 : Bool, ∃ x53 : Int, e43 = .returned (.tuple #[(.agg #[(.int
    .i64 x44), (.int .i64 x45), (.int .i64 x46), (.int .i64 x47), (.int .i64 x48), (.int .i64 x49), (.int .i64 x50), (.bool x51), (.bool x52)]), (.int .i64 x53)]) ∧ Al (.cells
    #[(.int .i64 0), (.int .i64 0), (.int .i64 0), (.int .i64 0), (.int .i64 0), (.int .i64 0), (.int .i64 0), (.bool false), (.bool false)] 45) (fun p54 w55 => StN [(.int .i64
    x44), (.int .i64 x45), (.int .i64 x46), (.int .i64 x47), (.int .i64 x48), (.int .i64 x49), (.int .i64 x50), (.bool x51), (.bool x52)] p54 (fun w56 => bif (x53 != 2) then (K
    (.bool false) w56) else ((I7 next27 (IntKind.i64.wrap (i12 + 1)) w56 ∧ M8 next27 (IntKind.i64.wrap (i12 + 1)) w56 < M8 next11 i12 w9))) w55) w42) else ((I7 next27
    (IntKind.i64.wrap (i12 + 1)) w35 ∧ M8 next27 (IntKind.i64.wrap (i12 + 1)) w35 < M8 next11 i12 w9))))) else (Calls P fn_pages_Table_All #[(.pointer x6)] w9 fun e58 w57 => ∃ x59 :
    Sl, e58 = .returned (.slice x59.p x59.n x59.c) ∧ bif x3 then (bif (decide (((x59.n : Nat) : Int) ≤ next11)) then (bif (((x59.n : Nat) : Int) == 0) then (K (.bool true) w57) else
    (elAt x59.p x59.n (IntKind.i64.wrap (((x59.n : Nat) : Int) - 1)) 1 fun a60 => ∃ x61 : Int, w57.cell? a60 = some (.int .i64 x61) ∧ K (.bool (decide (x61 < next11))) w57)) else (K
    (.bool false) w57)) else (K (.bool false) w57))))
theorem vc_millpondlaw14_PagesIds (l : Sl) (K : Value → World → Prop) (w : World) : vcFn P tau rho pan ann_millpondlaw14_PagesIds Go.Proofs.Try.f7 #[(.slice l.p l.n l.c)] K (fun _ _ => False) w = sh_millpondlaw14_PagesIds l K w := by kernel_rfl
theorem ok_millpondlaw14_PagesIds : okFn P ann_millpondlaw14_PagesIds Go.Proofs.Try.f7 1 = true := by kernel_rfl
theorem of_millpondlaw14_PagesIds (l : Sl) {K : Value → World → Prop} {w : World} (h : sh_millpondlaw14_PagesIds l K w) : Calls P fn_millpondlaw14_PagesIds #[(.slice l.p l.n l.c)] w (Ret K) := calls_of_vc mixed Go.Proofs.Try.func7 ok_millpondlaw14_PagesIds (by rw [vc_millpondlaw14_PagesIds]; exact h)

def ann_millpondlaw14_PagesRefs : Ann := { quiet := fun d => [23, 26, 30, 34, 64, 67, 72, 76, 78, 81, 83, 88, 91, 96, 99, 102, 108, 111, 112, 116, 120, 125, 127, 131, 133].contains d, join := fun r => (bif r == 6 then some [] else bif r == 13 then some [] else bif r == 16 then some [(16, .int .i64)] else bif r == 18 then some [(18, .bool)] else none) }
/-- millpond/millpondlaw14.PagesRefs -/
def sh_millpondlaw14_PagesRefs (n : Int) (less : Int) (place : Int) (K : Value → World → Prop) (w : World) : Prop :=
  Calls P fn_millpondlaw14_works #[] w fun e2 w1 => ∃ x3 : Bool, e2 = .returned (.bool x3) ∧ bif (!x3) then (K (.bool false) w1) else (∃ J4 : World → Prop, (bif (decide (n < 0)) then
    (K (.bool x3) w1) else (bif (decide (n > 1000)) then (K (.bool x3) w1) else (bif (decide (less < 0)) then (K (.bool x3) w1) else (bif (decide (less > 1000)) then (K (.bool x3)
    w1) else (J4 w1))))) ∧ (∀ _u6 : Nat → Value, ∀ w5 : World, J4 w5 → Calls P fn_pages_New #[] w5 fun e8 w7 => ∃ x9 : Option Addr, e8 = .returned (.pointer x9) ∧ Calls P
    fn_pages_Table_Make #[(.pointer x9), (.agg #[(.int .i64 (-1)), (.int .i64 0)]), (.int .i64 1)] w7 fun e11 w10 => ∃ x12 : Int, ∃ x13 : Int, e11 = .returned (.tuple #[(.int .i64
    x12), (.int .i64 x13)]) ∧ Calls P fn_pages_Table_Refer #[(.pointer x9), (.int .i64 x12), (.int .i64 n)] w10 fun e15 w14 => ∃ x16 : Int, ∃ x17 : Int, e15 = .returned (.tuple
    #[(.int .i64 x16), (.int .i64 x17)]) ∧ Calls P fn_pages_Table_Put #[(.pointer x9), (.int .i64 x12), (.int .i64 place), (.int .i64 0)] w14 fun e19 w18 => ∃ x20 : Int, e19 =
    .returned (.int .i64 x20) ∧ Calls P fn_pages_Table_Refer #[(.pointer x9), (.int .i64 x12), (.int .i64 (IntKind.i64.wrap (0 - less)))] w18 fun e22 w21 => ∃ x23 : Int, ∃ x24 :
    Int, e22 = .returned (.tuple #[(.int .i64 x23), (.int .i64 x24)]) ∧ ∃ J25 : World → Prop, (bif (x13 != 0) then (K (.bool false) w21) else (bif (x17 != 0) then (K (.bool false)
    w21) else (bif (x16 != n) then (K (.bool false) w21) else (bif (decide (place ≥ 0)) then (bif (!((x20 == 0) == (decide (place ≤ 2)))) then (K (.bool false) w21) else (J25 w21))
    else (bif (!((x20 == 0) == false)) then (K (.bool false) w21) else (J25 w21)))))) ∧ (∀ _u27 : Nat → Value, ∀ w26 : World, J25 w26 → ∃ J28 : Int → World → Prop, (bif (decide
    (less ≤ n)) then (J28 (IntKind.i64.wrap (n - less)) w26) else (J28 n w26)) ∧ (∀ _u30 : Nat → Value, ∀ left31 : Int, ∀ w29 : World, J28 left31 w29 → Calls P fn_pages_Table_Drop
    #[(.pointer x9), (.int .i64 x12)] w29 fun e33 w32 => ∃ x34 : Int, e33 = .returned (.int .i64 x34) ∧ ∃ J35 : Bool → World → Prop, (bif (decide (left31 > 0)) then (J35 true w32)
    else (bif (x20 == 0) then (J35 (place != 0) w32) else (J35 false w32))) ∧ (∀ _u37 : Nat → Value, ∀ busy38 : Bool, ∀ w36 : World, J35 busy38 w36 → bif x3 then (bif ((x24 == 0) ==
    (decide (less ≤ n))) then (bif (x24 != 0) then (bif ((x34 == 4) == busy38) then (K (.bool (!((x34 == 0) == busy38))) w36) else (K (.bool false) w36)) else (bif (x23 == left31)
    then (bif ((x34 == 4) == busy38) then (K (.bool (!((x34 == 0) == busy38))) w36) else (K (.bool false) w36)) else (K (.bool false) w36))) else (K (.bool false) w36)) else (K
    (.bool false) w36))))))
theorem vc_millpondlaw14_PagesRefs (n : Int) (less : Int) (place : Int) (K : Value → World → Prop) (w : World) : vcFn P tau rho pan ann_millpondlaw14_PagesRefs Go.Proofs.Try.f8 #[(.int .i64 n), (.int .i64 less), (.int .i64 place)] K (fun _ _ => False) w = sh_millpondlaw14_PagesRefs n less place K w := by kernel_rfl
theorem ok_millpondlaw14_PagesRefs : okFn P ann_millpondlaw14_PagesRefs Go.Proofs.Try.f8 3 = true := by kernel_rfl
theorem of_millpondlaw14_PagesRefs (n : Int) (less : Int) (place : Int) {K : Value → World → Prop} {w : World} (h : sh_millpondlaw14_PagesRefs n less place K w) : Calls P fn_millpondlaw14_PagesRefs #[(.int .i64 n), (.int .i64 less), (.int .i64 place)] w (Ret K) := calls_of_vc mixed Go.Proofs.Try.func8 ok_millpondlaw14_PagesRefs (by rw [vc_millpondlaw14_PagesRefs]; exact h)

def ann_millpondlaw14_PagesFields : Ann := { quiet := fun d => [28, 29, 34, 35, 37, 77, 81, 85, 90, 99, 103, 108, 113, 117].contains d, loop := fun r => (bif r == 8 then [(13, .int .i64)] else []) }
/-- millpond/millpondlaw14.PagesFields -/
def sh_millpondlaw14_PagesFields (l : Sl) (id : Int) (owner : Int) (dirty : Bool) (other : Int) (K : Value → World → Prop) (w : World) : Prop :=
  Calls P fn_millpondlaw14_works #[] w fun e2 w1 => ∃ x3 : Bool, e2 = .returned (.bool x3) ∧ bif (!x3) then (K (.bool false) w1) else (bif (decide (((l.n : Nat) : Int) > 80)) then (K
    (.bool x3) w1) else (Calls P fn_pages_New #[] w1 fun e5 w4 => ∃ x6 : Option Addr, e5 = .returned (.pointer x6) ∧ ∃ (I7 : Int → World → Prop) (M8 : Int → World → Nat), I7 0 w4 ∧
    ∀ _u10 : Nat → Value, ∀ i11 : Int, ∀ w9 : World, I7 i11 w9 → bif (decide (i11 < ((l.n : Nat) : Int))) then (elAt l.p l.n i11 6 fun a12 => ∃ x13 : Int, w9.cell? (a12.add 0) =
    some (.int .i64 x13) ∧ ∃ x14 : Int, w9.cell? (a12.add 1) = some (.int .i64 x14) ∧ ∃ x15 : Int, w9.cell? (a12.add 2) = some (.int .i64 x15) ∧ ∃ x16 : Int, w9.cell? (a12.add 3) =
    some (.int .i64 x16) ∧ ∃ x17 : Int, w9.cell? (a12.add 4) = some (.int .i64 x17) ∧ ∃ x18 : Int, w9.cell? (a12.add 5) = some (.int .i64 x18) ∧ Calls P fn_millpondlaw14_do
    #[(.pointer x6), (.agg #[(.int .i64 x13), (.int .i64 x14), (.int .i64 x15), (.int .i64 x16), (.int .i64 x17), (.int .i64 x18)])] w9 fun e20 w19 => ∃ x21 : Int, ∃ x22 : Int, e20
    = .returned (.tuple #[(.int .i64 x21), (.int .i64 x22)]) ∧ (I7 (IntKind.i64.wrap (i11 + 1)) w19 ∧ M8 (IntKind.i64.wrap (i11 + 1)) w19 < M8 i11 w9)) else (Calls P
    fn_pages_Table_Get #[(.pointer x6), (.int .i64 id)] w9 fun e24 w23 => ∃ x25 : Int, ∃ x26 : Int, ∃ x27 : Int, ∃ x28 : Int, ∃ x29 : Int, ∃ x30 : Int, ∃ x31 : Int, ∃ x32 : Bool, ∃
    x33 : Bool, ∃ x34 : Int, e24 = .returned (.tuple #[(.agg #[(.int .i64 x25), (.int .i64 x26), (.int .i64 x27), (.int .i64 x28), (.int .i64 x29), (.int .i64 x30), (.int .i64 x31),
    (.bool x32), (.bool x33)]), (.int .i64 x34)]) ∧ Al (.cells #[(.int .i64 0), (.int .i64 0), (.int .i64 0), (.int .i64 0), (.int .i64 0), (.int .i64 0), (.int .i64 0), (.bool
    false), (.bool false)] 45) (fun p35 w36 => StN [(.int .i64 x25), (.int .i64 x26), (.int .i64 x27), (.int .i64 x28), (.int .i64 x29), (.int .i64 x30), (.int .i64 x31), (.bool
    x32), (.bool x33)] p35 (fun w37 => Calls P fn_pages_Table_Get #[(.pointer x6), (.int .i64 other)] w37 fun e39 w38 => ∃ x40 : Int, ∃ x41 : Int, ∃ x42 : Int, ∃ x43 : Int, ∃ x44 :
    Int, ∃ x45 : Int, ∃ x46 : Int, ∃ x47 : Bool, ∃ x48 : Bool, ∃ x49 : Int, e39 = .returned (.tuple #[(.agg #[(.int .i64 x40), (.int .i64 x41), (.int .i64 x42), (.int .i64 x43),
    (.int .i64 x44), (.int .i64 x45), (.int .i64 x46), (.bool x47), (.bool x48)]), (.int .i64 x49)]) ∧ Al (.cells #[(.int .i64 0), (.int .i64 0), (.int .i64 0), (.int .i64 0), (.int
    .i64 0), (.int .i64 0), (.int .i64 0), (.bool false), (.bool false)] 45) (fun p50 w51 => StN [(.int .i64 x40), (.int .i64 x41), (.int .i64 x42), (.int .i64 x43), (.int .i64
    x44), (.int .i64 x45), (.int .i64 x46), (.bool x47), (.bool x48)] p50 (fun w52 => Calls P fn_pages_Table_Own #[(.pointer x6), (.int .i64 id), (.int .i64 owner)] w52 fun e54 w53
    => ∃ x55 : Int, e54 = .returned (.int .i64 x55) ∧ Calls P fn_pages_Table_Mark #[(.pointer x6), (.int .i64 id), (.bool dirty)] w53 fun e57 w56 => ∃ x58 : Int, e57 = .returned
    (.int .i64 x58) ∧ Calls P fn_pages_Table_Get #[(.pointer x6), (.int .i64 id)] w56 fun e60 w59 => ∃ x61 : Int, ∃ x62 : Int, ∃ x63 : Int, ∃ x64 : Int, ∃ x65 : Int, ∃ x66 : Int, ∃
    x67 : Int, ∃ x68 : Bool, ∃ x69 : Bool, ∃ x70 : Int, e60 = .returned (.tuple #[(.agg #[(.int .i64 x61), (.int .i64 x62), (.int .i64 x63), (.int .i64 x64), (.int .i64 x65), (.int
    .i64 x66), (.int .i64 x67), (.bool x68), (.bool x69)]), (.int .i64 x70)]) ∧ Al (.cells #[(.int .i64 0), (.int .i64 0), (.int .i64 0), (.int .i64 0), (.int .i64 0), (.int .i64
    0), (.int .i64 0), (.bool false), (.bool false)] 45) (fun p71 w72 => StN [(.int .i64 x61), (.int .i64 x62), (.int .i64 x63), (.int .i64 x64), (.int .i64 x65), (.int .i64 x66),
    (.int .i64 x67), (.bool x68), (.bool x69)] p71 (fun w73 => Calls P fn_pages_Table_Get #[(.pointer x6), (.int .i64 other)] w73 fun e75 w74 => ∃ x76 : Int, ∃ x77 : Int, ∃ x78 :
    Int, ∃ x79 : Int, ∃ x80 : Int, ∃ x81 : Int, ∃ x82 : Int, ∃ x83 : Bool, ∃ x84 : Bool, ∃ x85 : Int, e75 = .returned (.tuple #[(.agg #[(.int .i64 x76), (.int .i64 x77), (.int .i64
    x78), (.int .i64 x79), (.int .i64 x80), (.int .i64 x81), (.int .i64 x82), (.bool x83), (.bool x84)]), (.int .i64 x85)]) ∧ Al (.cells #[(.int .i64 0), (.int .i64 0), (.int .i64
    0), (.int .i64 0), (.int .i64 0), (.int .i64 0), (.int .i64 0), (.bool false), (.bool false)] 45) (fun p86 w87 => StN [(.int .i64 x76), (.int .i64 x77), (.int .i64 x78), (.int
    .i64 x79), (.int .i64 x80), (.int .i64 x81), (.int .i64 x82), (.bool x83), (.bool x84)] p86 (fun w88 => bif (x34 != 0) then (bif x3 then (bif (x55 == 2) then (bif (x58 == 2)
    then (∃ x89 : Int, w88.cell? (p50.add 0) = some (.int .i64 x89) ∧ ∃ x90 : Int, w88.cell? (p50.add 1) = some (.int .i64 x90) ∧ ∃ x91 : Int, w88.cell? (p50.add 2) = some (.int
    .i64 x91) ∧ ∃ x92 : Int, w88.cell? (p50.add 3) = some (.int .i64 x92) ∧ ∃ x93 : Int, w88.cell? (p50.add 4) = some (.int .i64 x93) ∧ ∃ x94 : Int, w88.cell? (p50.add 5) = some
    (.int .i64 x94) ∧ ∃ x95 : Int, w88.cell? (p50.add 6) = some (.int .i64 x95) ∧ ∃ x96 : Bool, w88.cell? (p50.add 7) = some (.bool x96) ∧ ∃ x97 : Bool, w88.cell? (p50.add 8) = some
    (.bool x97) ∧ ∃ x98 : Int, w88.cell? (p86.add 0) = some (.int .i64 x98) ∧ ∃ x99 : Int, w88.cell? (p86.add 1) = some (.int .i64 x99) ∧ ∃ x100 : Int, w88.cell? (p86.add 2) = some
    (.int .i64 x100) ∧ ∃ x101 : Int, w88.cell? (p86.add 3) = some (.int .i64 x101) ∧ ∃ x102 : Int, w88.cell? (p86.add 4) = some (.int .i64 x102) ∧ ∃ x103 : Int, w88.cell? (p86.add
    5) = some (.int .i64 x103) ∧ ∃ x104 : Int, w88.cell? (p86.add 6) = some (.int .i64 x104) ∧ ∃ x105 : Bool, w88.cell? (p86.add 7) = some (.bool x105) ∧ ∃ x106 : Bool, w88.cell?
    (p86.add 8) = some (.bool x106) ∧ ∃ q107 : Bool, EqV P .eql 45 (.agg #[(.int .i64 x89), (.int .i64 x90), (.int .i64 x91), (.int .i64 x92), (.int .i64 x93), (.int .i64 x94),
    (.int .i64 x95), (.bool x96), (.bool x97)]) (.agg #[(.int .i64 x98), (.int .i64 x99), (.int .i64 x100), (.int .i64 x101), (.int .i64 x102), (.int .i64 x103), (.int .i64 x104),
    (.bool x105), (.bool x106)]) q107 ∧ K (.bool q107) w88) else (K (.bool false) w88)) else (K (.bool false) w88)) else (K (.bool false) w88)) else (St (p35.add 4) (.int .i64
    owner) (fun w108 => St (p35.add 8) (.bool dirty) (fun w109 => bif x3 then (bif (x55 == 0) then (bif (x58 == 0) then (∃ x110 : Int, w109.cell? (p35.add 0) = some (.int .i64 x110)
    ∧ ∃ x111 : Int, w109.cell? (p35.add 1) = some (.int .i64 x111) ∧ ∃ x112 : Int, w109.cell? (p35.add 2) = some (.int .i64 x112) ∧ ∃ x113 : Int, w109.cell? (p35.add 3) = some (.int
    .i64 x113) ∧ ∃ x114 : Int, w109.cell? (p35.add 4) = some (.int .i64 x114) ∧ ∃ x115 : Int, w109.cell? (p35.add 5) = some (.int .i64 x115) ∧ ∃ x116 : Int, w109.cell? (p35.add 6) =
    some (.int .i64 x116) ∧ ∃ x117 : Bool, w109.cell? (p35.add 7) = some (.bool x117) ∧ ∃ x118 : Bool, w109.cell? (p35.add 8) = some (.bool x118) ∧ ∃ x119 : Int, w109.cell? (p71.add
    0) = some (.int .i64 x119) ∧ ∃ x120 : Int, w109.cell? (p71.add 1) = some (.int .i64 x120) ∧ ∃ x121 : Int, w109.cell? (p71.add 2) = some (.int .i64 x121) ∧ ∃ x122 : Int,
    w109.cell? (p71.add 3) = some (.int .i64 x122) ∧ ∃ x123 : Int, w109.cell? (p71.add 4) = some (.int .i64 x123) ∧ ∃ x124 : Int, w109.cell? (p71.add 5) = some (.int .i64 x124) ∧ ∃
    x125 : Int, w109.cell? (p71.add 6) = some (.int .i64 x125) ∧ ∃ x126 : Bool, w109.cell? (p71.add 7) = some (.bool x126) ∧ ∃ x127 : Bool, w109.cell? (p71.add 8) = some (.bool
    x127) ∧ ∃ q128 : Bool, EqV P .eql 45 (.agg #[(.int .i64 x110), (.int .i64 x111), (.int .i64 x112), (.int .i64 x113), (.int .i64 x114), (.int .i64 x115), (.int .i64 x116), (.bool
    x117), (.bool x118)]) (.agg #[(.int .i64 x119), (.int .i64 x120), (.int .i64 x121), (.int .i64 x122), (.int .i64 x123), (.int .i64 x124), (.int .i64 x125), (.bool x126), (.bool
    x127)]) q128 ∧ bif q128 then (bif (other == id) then (K (.bool true) w109) else (∃ x129 : Int, w109.cell? (p50.add 0) = some (.int .i64 x129) ∧ ∃ x130 : Int, w109.cell? (p50.add
    1) = some (.int .i64 x130) ∧ ∃ x131 : Int, w109.cell? (p50.add 2) = some (.int .i64 x131) ∧ ∃ x132 : Int, w109.cell? (p50.add 3) = some (.int .i64 x132) ∧ ∃ x133 : Int,
    w109.cell? (p50.add 4) = some (.int .i64 x133) ∧ ∃ x134 : Int, w109.cell? (p50.add 5) = some (.int .i64 x134) ∧ ∃ x135 : Int, w109.cell? (p50.add 6) = some (.int .i64 x135) ∧ ∃
    x136 : Bool, w109.cell? (p50.add 7) = some (.bool x136) ∧ ∃ x137 : Bool, w109.cell? (p50.add 8) = some (.bool x137) ∧ ∃ x138 : Int, w109.cell? (p86.add 0) = some (.int .i64
    x138) ∧ ∃ x139 : Int, w109.cell? (p86.add 1) = some (.int .i64 x139) ∧ ∃ x140 : Int, w109.cell? (p86.add 2) = some (.int .i64 x140) ∧ ∃ x141 : Int, w109.cell? (p86.add 3) = some
    (.int .i64 x141) ∧ ∃ x142 : Int, w109.cell? (p86.add 4) = some (.int .i64 x142) ∧ ∃ x143 : Int, w109.cell? (p86.add 5) = some (.int .i64 x143) ∧ ∃ x144 : Int, w109.cell?
    (p86.add 6) = some (.int .i64 x144) ∧ ∃ x145 : Bool, w109.cell? (p86.add 7) = some (.bool x145) ∧ ∃ x146 : Bool, w109.cell? (p86.add 8) = some (.bool x146) ∧ ∃ q147 : Bool, EqV
    P .eql 45 (.agg #[(.int .i64 x129), (.int .i64 x130), (.int .i64 x131), (.int .i64 x132), (.int .i64 x133), (.int .i64 x134), (.int .i64 x135), (.bool x136), (.bool x137)])
    (.agg #[(.int .i64 x138), (.int .i64 x139), (.int .i64 x140), (.int .i64 x141), (.int .i64 x142), (.int .i64 x143), (.int .i64 x144), (.bool x145), (.bool x146)]) q147 ∧ K
    (.bool q147) w109)) else (K (.bool false) w109)) else (K (.bool false) w109)) else (K (.bool false) w109)) else (K (.bool false) w109)) w108) w88)) w87) w74) w72) w59) w51) w38)
    w36) w23)))
theorem vc_millpondlaw14_PagesFields (l : Sl) (id : Int) (owner : Int) (dirty : Bool) (other : Int) (K : Value → World → Prop) (w : World) : vcFn P tau rho pan ann_millpondlaw14_PagesFields Go.Proofs.Try.f9 #[(.slice l.p l.n l.c), (.int .i64 id), (.int .i64 owner), (.bool dirty), (.int .i64 other)] K (fun _ _ => False) w = sh_millpondlaw14_PagesFields l id owner dirty other K w := by kernel_rfl
theorem ok_millpondlaw14_PagesFields : okFn P ann_millpondlaw14_PagesFields Go.Proofs.Try.f9 5 = true := by kernel_rfl
theorem of_millpondlaw14_PagesFields (l : Sl) (id : Int) (owner : Int) (dirty : Bool) (other : Int) {K : Value → World → Prop} {w : World} (h : sh_millpondlaw14_PagesFields l id owner dirty other K w) : Calls P fn_millpondlaw14_PagesFields #[(.slice l.p l.n l.c), (.int .i64 id), (.int .i64 owner), (.bool dirty), (.int .i64 other)] w (Ret K) := calls_of_vc mixed Go.Proofs.Try.func9 ok_millpondlaw14_PagesFields (by rw [vc_millpondlaw14_PagesFields]; exact h)

def ann_millpondlaw14_works : Ann := { quiet := fun d => [13, 36, 39, 45, 49, 54, 58, 63, 67, 71, 75, 76, 81, 82, 87, 92, 97].contains d }
/-- millpond/millpondlaw14.works -/
def sh_millpondlaw14_works (K : Value → World → Prop) (w : World) : Prop :=
  Calls P fn_pages_New #[] w fun e2 w1 => ∃ x3 : Option Addr, e2 = .returned (.pointer x3) ∧ bif x3.isNone then (K (.bool false) w1) else (Al (.cells #[(.int .i64 0), (.int .i64 0)]
    24) (fun p4 w5 => StN [(.int .i64 1), (.int .i64 2)] p4 (fun w6 => ∃ x7 : Int, w6.cell? (p4.add 0) = some (.int .i64 x7) ∧ ∃ x8 : Int, w6.cell? (p4.add 1) = some (.int .i64 x8)
    ∧ Calls P fn_pages_Table_Make #[(.pointer x3), (.agg #[(.int .i64 x7), (.int .i64 x8)]), (.int .i64 3)] w6 fun e10 w9 => ∃ x11 : Int, ∃ x12 : Int, e10 = .returned (.tuple
    #[(.int .i64 x11), (.int .i64 x12)]) ∧ Calls P fn_pages_Table_Put #[(.pointer x3), (.int .i64 0), (.int .i64 1), (.int .i64 5)] w9 fun e14 w13 => ∃ x15 : Int, e14 = .returned
    (.int .i64 x15) ∧ Calls P fn_pages_Table_Get #[(.pointer x3), (.int .i64 0)] w13 fun e17 w16 => ∃ x18 : Int, ∃ x19 : Int, ∃ x20 : Int, ∃ x21 : Int, ∃ x22 : Int, ∃ x23 : Int, ∃
    x24 : Int, ∃ x25 : Bool, ∃ x26 : Bool, ∃ x27 : Int, e17 = .returned (.tuple #[(.agg #[(.int .i64 x18), (.int .i64 x19), (.int .i64 x20), (.int .i64 x21), (.int .i64 x22), (.int
    .i64 x23), (.int .i64 x24), (.bool x25), (.bool x26)]), (.int .i64 x27)]) ∧ Al (.cells #[(.int .i64 0), (.int .i64 0), (.int .i64 0), (.int .i64 0), (.int .i64 0), (.int .i64
    0), (.int .i64 0), (.bool false), (.bool false)] 45) (fun p28 w29 => StN [(.int .i64 x18), (.int .i64 x19), (.int .i64 x20), (.int .i64 x21), (.int .i64 x22), (.int .i64 x23),
    (.int .i64 x24), (.bool x25), (.bool x26)] p28 (fun w30 => Calls P fn_pages_Table_Refer #[(.pointer x3), (.int .i64 0), (.int .i64 2)] w30 fun e32 w31 => ∃ x33 : Int, ∃ x34 :
    Int, e32 = .returned (.tuple #[(.int .i64 x33), (.int .i64 x34)]) ∧ Calls P fn_pages_Table_Those #[(.pointer x3), (.int .i64 3)] w31 fun e36 w35 => ∃ x37 : Sl, e36 = .returned
    (.slice x37.p x37.n x37.c) ∧ bif (x11 == 0) then (bif (x12 == 0) then (∃ x38 : Int, w35.cell? (p4.add 0) = some (.int .i64 x38) ∧ ∃ x39 : Int, w35.cell? (p4.add 1) = some (.int
    .i64 x39) ∧ Calls P fn_pages_Table_Of #[(.pointer x3), (.agg #[(.int .i64 x38), (.int .i64 x39)])] w35 fun e41 w40 => ∃ x42 : Int, e41 = .returned (.int .i64 x42) ∧ bif (x42 ==
    0) then (bif (x15 == 0) then (Calls P fn_pages_Table_At #[(.pointer x3), (.int .i64 1), (.int .i64 5)] w40 fun e44 w43 => ∃ x45 : Int, e44 = .returned (.int .i64 x45) ∧ bif (x45
    == 0) then (bif (x27 == 0) then (∃ x46 : Int, w43.cell? (p28.add 3) = some (.int .i64 x46) ∧ bif (x46 == 5) then (bif (x33 == 2) then (bif (x34 == 0) then (bif (((x37.n : Nat) :
    Int) == 1) then (Calls P fn_pages_Table_All #[(.pointer x3)] w43 fun e48 w47 => ∃ x49 : Sl, e48 = .returned (.slice x49.p x49.n x49.c) ∧ bif (((x49.n : Nat) : Int) == 1) then
    (Calls P fn_pages_Table_Drop #[(.pointer x3), (.int .i64 0)] w47 fun e51 w50 => ∃ x52 : Int, e51 = .returned (.int .i64 x52) ∧ bif (x52 == 4) then (Calls P fn_pages_Table_Own
    #[(.pointer x3), (.int .i64 0), (.int .i64 4)] w50 fun e54 w53 => ∃ x55 : Int, e54 = .returned (.int .i64 x55) ∧ bif (x55 == 0) then (Calls P fn_pages_Table_Mark #[(.pointer
    x3), (.int .i64 0), (.bool true)] w53 fun e57 w56 => ∃ x58 : Int, e57 = .returned (.int .i64 x58) ∧ K (.bool (x58 == 0)) w56) else (K (.bool false) w53)) else (K (.bool false)
    w50)) else (K (.bool false) w47)) else (K (.bool false) w43)) else (K (.bool false) w43)) else (K (.bool false) w43)) else (K (.bool false) w43)) else (K (.bool false) w43))
    else (K (.bool false) w43)) else (K (.bool false) w40)) else (K (.bool false) w40)) else (K (.bool false) w35)) else (K (.bool false) w35)) w29) w16) w5) w1)
theorem vc_millpondlaw14_works (K : Value → World → Prop) (w : World) : vcFn P tau rho pan ann_millpondlaw14_works Go.Proofs.Try.f10 #[] K (fun _ _ => False) w = sh_millpondlaw14_works K w := by kernel_rfl
theorem ok_millpondlaw14_works : okFn P ann_millpondlaw14_works Go.Proofs.Try.f10 0 = true := by kernel_rfl
theorem of_millpondlaw14_works {K : Value → World → Prop} {w : World} (h : sh_millpondlaw14_works K w) : Calls P fn_millpondlaw14_works #[] w (Ret K) := calls_of_vc mixed Go.Proofs.Try.func10 ok_millpondlaw14_works (by rw [vc_millpondlaw14_works]; exact h)

def ann_pages_New : Ann := {}
/-- millpond/pages.New -/
def sh_pages_New (K : Value → World → Prop) (w : World) : Prop :=
  AlM (fun m1 w2 => AlM (fun m3 w4 => AlM (fun m5 w6 => Al (.cells #[(.map (some m1)), (.map (some m3)), (.map (some m5)), (.int .i64 0)] 66) (fun p7 w8 => K (.pointer (some p7)) w8)
    w6) w4) w2) w
theorem vc_pages_New (K : Value → World → Prop) (w : World) : vcFn P tau rho pan ann_pages_New Go.Proofs.Try.f11 #[] K (fun _ _ => False) w = sh_pages_New K w := by kernel_rfl
theorem ok_pages_New : okFn P ann_pages_New Go.Proofs.Try.f11 0 = true := by kernel_rfl
theorem of_pages_New {K : Value → World → Prop} {w : World} (h : sh_pages_New K w) : Calls P fn_pages_New #[] w (Ret K) := calls_of_vc mixed Go.Proofs.Try.func11 ok_pages_New (by rw [vc_pages_New]; exact h)

def ann_millpondlaw14_do : Ann := { quiet := fun d => [8, 10, 20, 30, 40, 46, 58].contains d }
/-- millpond/millpondlaw14.do -/
def sh_millpondlaw14_do (t : Option Addr) (a_0 : Int) (a_1 : Int) (a_2 : Int) (a_3 : Int) (a_4 : Int) (a_5 : Int) (K : Value → World → Prop) (w : World) : Prop :=
  Al (.cells #[(.int .i64 a_0), (.int .i64 a_1), (.int .i64 a_2), (.int .i64 a_3), (.int .i64 a_4), (.int .i64 a_5)] 34) (fun p1 w2 => ∃ x3 : Int, w2.cell? (p1.add 0) = some (.int
    .i64 x3) ∧ (6 : Int) ≠ 0 ∧ bif ((x3.tmod 6) == 0) then (∃ x4 : Int, w2.cell? ((p1.add 2).add 0) = some (.int .i64 x4) ∧ ∃ x5 : Int, w2.cell? ((p1.add 2).add 1) = some (.int .i64
    x5) ∧ ∃ x6 : Int, w2.cell? (p1.add 5) = some (.int .i64 x6) ∧ Calls P fn_pages_Table_Make #[(.pointer t), (.agg #[(.int .i64 x4), (.int .i64 x5)]), (.int .i64 x6)] w2 fun e8 w7
    => ∃ x9 : Int, ∃ x10 : Int, e8 = .returned (.tuple #[(.int .i64 x9), (.int .i64 x10)]) ∧ K (.tuple #[(.int .i64 x9), (.int .i64 x10)]) w7) else (bif ((x3.tmod 6) == 1) then (∃
    x11 : Int, w2.cell? (p1.add 1) = some (.int .i64 x11) ∧ ∃ x12 : Int, w2.cell? (p1.add 4) = some (.int .i64 x12) ∧ ∃ x13 : Int, w2.cell? (p1.add 5) = some (.int .i64 x13) ∧ Calls
    P fn_pages_Table_Put #[(.pointer t), (.int .i64 x11), (.int .i64 x12), (.int .i64 x13)] w2 fun e15 w14 => ∃ x16 : Int, e15 = .returned (.int .i64 x16) ∧ K (.tuple #[(.int .i64
    0), (.int .i64 x16)]) w14) else (bif ((x3.tmod 6) == 2) then (∃ x17 : Int, w2.cell? (p1.add 1) = some (.int .i64 x17) ∧ ∃ x18 : Int, w2.cell? (p1.add 5) = some (.int .i64 x18) ∧
    Calls P fn_pages_Table_Refer #[(.pointer t), (.int .i64 x17), (.int .i64 x18)] w2 fun e20 w19 => ∃ x21 : Int, ∃ x22 : Int, e20 = .returned (.tuple #[(.int .i64 x21), (.int .i64
    x22)]) ∧ K (.tuple #[(.int .i64 x21), (.int .i64 x22)]) w19) else (bif ((x3.tmod 6) == 3) then (∃ x23 : Int, w2.cell? (p1.add 1) = some (.int .i64 x23) ∧ Calls P
    fn_pages_Table_Drop #[(.pointer t), (.int .i64 x23)] w2 fun e25 w24 => ∃ x26 : Int, e25 = .returned (.int .i64 x26) ∧ K (.tuple #[(.int .i64 0), (.int .i64 x26)]) w24) else (bif
    ((x3.tmod 6) == 4) then (∃ x27 : Int, w2.cell? (p1.add 1) = some (.int .i64 x27) ∧ ∃ x28 : Int, w2.cell? (p1.add 5) = some (.int .i64 x28) ∧ Calls P fn_pages_Table_Own
    #[(.pointer t), (.int .i64 x27), (.int .i64 x28)] w2 fun e30 w29 => ∃ x31 : Int, e30 = .returned (.int .i64 x31) ∧ K (.tuple #[(.int .i64 0), (.int .i64 x31)]) w29) else (∃ x32
    : Int, w2.cell? (p1.add 1) = some (.int .i64 x32) ∧ ∃ x33 : Int, w2.cell? (p1.add 5) = some (.int .i64 x33) ∧ Calls P fn_pages_Table_Mark #[(.pointer t), (.int .i64 x32), (.bool
    (decide (x33 > 0)))] w2 fun e35 w34 => ∃ x36 : Int, e35 = .returned (.int .i64 x36) ∧ K (.tuple #[(.int .i64 0), (.int .i64 x36)]) w34)))))) w
theorem vc_millpondlaw14_do (t : Option Addr) (a_0 : Int) (a_1 : Int) (a_2 : Int) (a_3 : Int) (a_4 : Int) (a_5 : Int) (K : Value → World → Prop) (w : World) : vcFn P tau rho pan ann_millpondlaw14_do Go.Proofs.Try.f12 #[(.pointer t), (.agg #[(.int .i64 a_0), (.int .i64 a_1), (.int .i64 a_2), (.int .i64 a_3), (.int .i64 a_4), (.int .i64 a_5)])] K (fun _ _ => False) w = sh_millpondlaw14_do t a_0 a_1 a_2 a_3 a_4 a_5 K w := by kernel_rfl
theorem ok_millpondlaw14_do : okFn P ann_millpondlaw14_do Go.Proofs.Try.f12 2 = true := by kernel_rfl
theorem of_millpondlaw14_do (t : Option Addr) (a_0 : Int) (a_1 : Int) (a_2 : Int) (a_3 : Int) (a_4 : Int) (a_5 : Int) {K : Value → World → Prop} {w : World} (h : sh_millpondlaw14_do t a_0 a_1 a_2 a_3 a_4 a_5 K w) : Calls P fn_millpondlaw14_do #[(.pointer t), (.agg #[(.int .i64 a_0), (.int .i64 a_1), (.int .i64 a_2), (.int .i64 a_3), (.int .i64 a_4), (.int .i64 a_5)])] w (Ret K) := calls_of_vc mixed Go.Proofs.Try.func12 ok_millpondlaw14_do (by rw [vc_millpondlaw14_do]; exact h)

def ann_millpondref14_Table_Make : Ann := { quiet := fun d => [11, 14, 19, 38, 39].contains d, sig := fun r => (bif r == 5 then some ([0, 1, 2, 3, 4, 5, 6, 7, 8, 9, 10, 11, 12, 13], [9, 10, 13]) else none) }
/-- (*millpond/millpondref14.Table).Make -/
def sh_millpondref14_Table_Make (t : Option Addr) (k_0 : Int) (k_1 : Int) (owner : Int) (K : Value → World → Prop) (w : World) : Prop :=
  Al (.cells #[(.int .i64 k_0), (.int .i64 k_1)] 24) (fun p1 w2 => ∃ x3 : Int, w2.cell? (p1.add 0) = some (.int .i64 x3) ∧ ∃ x4 : Int, w2.cell? (p1.add 1) = some (.int .i64 x4) ∧
    Calls P fn_millpondref14_Table_Of #[(.pointer t), (.agg #[(.int .i64 x3), (.int .i64 x4)])] w2 fun e6 w5 => ∃ x7 : Int, e6 = .returned (.int .i64 x7) ∧ bif (decide (x7 ≥ 0))
    then (K (.tuple #[(.int .i64 (-1)), (.int .i64 4)]) w5) else (∃ x8 : Int, w5.cell? (p1.add 0) = some (.int .i64 x8) ∧ bif (decide (x8 < 0)) then (NN t fun a9 => ∃ x10 : Sl,
    w5.cell? (a9.add 0) = some (.slice x10.p x10.n x10.c) ∧ StN [(.int .i64 (-1)), (.int .i64 ((x10.n : Nat) : Int))] p1 (fun w11 => Dr (fun w12 => NN t fun a13 => ∃ x14 : Sl,
    w12.cell? (a13.add 0) = some (.slice x14.p x14.n x14.c) ∧ ∃ x15 : Int, w12.cell? (p1.add 0) = some (.int .i64 x15) ∧ ∃ x16 : Int, w12.cell? (p1.add 1) = some (.int .i64 x16) ∧
    Al (.cells #[(.int .i64 x15), (.int .i64 x16), (.int .i64 0), (.int .i64 0), (.int .i64 owner), (.int .i64 0), (.int .i64 0), (.bool false), (.bool false), (.bool false)] 68)
    (fun p17 w18 => ∃ x19 : Sl, w18.cell? (a13.add 0) = some (.slice x19.p x19.n x19.c) ∧ ((.slice x19.p x19.n x19.c) : Value) = (.slice x14.p x14.n x14.c) ∧ ∃ x21 : Sl, ∃ w20 :
    World, Sem.run P (Builtin.append_ #[30, 30] 30 #[(.slice x14.p x14.n x14.c), (.slice (some p17) 1 1)]) w18 = .ok (.slice x21.p x21.n x21.c) w20 ∧ NN t fun a22 => St (a22.add 0)
    (.slice x21.p x21.n x21.c) (fun w23 => NN t fun a24 => ∃ x25 : Sl, w23.cell? (a24.add 0) = some (.slice x25.p x25.n x25.c) ∧ K (.tuple #[(.int .i64 (IntKind.i64.wrap (((x25.n :
    Nat) : Int) - 1))), (.int .i64 0)]) w23) w20) w12) w11) w5) else (Dr (fun w26 => NN t fun a27 => ∃ x28 : Sl, w26.cell? (a27.add 0) = some (.slice x28.p x28.n x28.c) ∧ ∃ x29 :
    Int, w26.cell? (p1.add 0) = some (.int .i64 x29) ∧ ∃ x30 : Int, w26.cell? (p1.add 1) = some (.int .i64 x30) ∧ Al (.cells #[(.int .i64 x29), (.int .i64 x30), (.int .i64 0), (.int
    .i64 0), (.int .i64 owner), (.int .i64 0), (.int .i64 0), (.bool false), (.bool false), (.bool false)] 68) (fun p31 w32 => ∃ x33 : Sl, w32.cell? (a27.add 0) = some (.slice x33.p
    x33.n x33.c) ∧ ((.slice x33.p x33.n x33.c) : Value) = (.slice x28.p x28.n x28.c) ∧ ∃ x35 : Sl, ∃ w34 : World, Sem.run P (Builtin.append_ #[30, 30] 30 #[(.slice x28.p x28.n
    x28.c), (.slice (some p31) 1 1)]) w32 = .ok (.slice x35.p x35.n x35.c) w34 ∧ NN t fun a36 => St (a36.add 0) (.slice x35.p x35.n x35.c) (fun w37 => NN t fun a38 => ∃ x39 : Sl,
    w37.cell? (a38.add 0) = some (.slice x39.p x39.n x39.c) ∧ K (.tuple #[(.int .i64 (IntKind.i64.wrap (((x39.n : Nat) : Int) - 1))), (.int .i64 0)]) w37) w34) w26) w5))) w
theorem vc_millpondref14_Table_Make (t : Option Addr) (k_0 : Int) (k_1 : Int) (owner : Int) (K : Value → World → Prop) (w : World) : vcFn P tau rho pan ann_millpondref14_Table_Make Go.Proofs.Try.f13 #[(.pointer t), (.agg #[(.int .i64 k_0), (.int .i64 k_1)]), (.int .i64 owner)] K (fun _ _ => False) w = sh_millpondref14_Table_Make t k_0 k_1 owner K w := by kernel_rfl
theorem ok_millpondref14_Table_Make : okFn P ann_millpondref14_Table_Make Go.Proofs.Try.f13 3 = true := by kernel_rfl
theorem of_millpondref14_Table_Make (t : Option Addr) (k_0 : Int) (k_1 : Int) (owner : Int) {K : Value → World → Prop} {w : World} (h : sh_millpondref14_Table_Make t k_0 k_1 owner K w) : Calls P fn_millpondref14_Table_Make #[(.pointer t), (.agg #[(.int .i64 k_0), (.int .i64 k_1)]), (.int .i64 owner)] w (Ret K) := calls_of_vc mixed Go.Proofs.Try.func13 ok_millpondref14_Table_Make (by rw [vc_millpondref14_Table_Make]; exact h)

def ann_millpondref14_Table_Put : Ann := { quiet := fun d => [15, 18, 22, 26, 29, 37, 41].contains d }
/-- (*millpond/millpondref14.Table).Put -/
def sh_millpondref14_Table_Put (t : Option Addr) (id : Int) (place : Int) (atA : Int) (K : Value → World → Prop) (w : World) : Prop :=
  Calls P fn_millpondref14_Table_Has #[(.pointer t), (.int .i64 id)] w fun e2 w1 => ∃ x3 : Bool, e2 = .returned (.bool x3) ∧ bif (!x3) then (K (.int .i64 2) w1) else (bif (decide
    (place < 0)) then (K (.int .i64 1) w1) else (bif (decide (place > 2)) then (K (.int .i64 1) w1) else (bif (decide (atA < 0)) then (K (.int .i64 1) w1) else (bif (place == 0)
    then (bif (atA != 0) then (K (.int .i64 1) w1) else (Calls P fn_millpondref14_Table_At #[(.pointer t), (.int .i64 place), (.int .i64 atA)] w1 fun e5 w4 => ∃ x6 : Int, e5 =
    .returned (.int .i64 x6) ∧ bif (decide (x6 ≥ 0)) then (bif (x6 != id) then (K (.int .i64 4) w4) else (NN t fun a7 => ∃ x8 : Sl, w4.cell? (a7.add 0) = some (.slice x8.p x8.n
    x8.c) ∧ elAt x8.p x8.n id 10 fun a9 => St ((a9.add 0).add 2) (.int .i64 place) (fun w10 => NN t fun a11 => ∃ x12 : Sl, w10.cell? (a11.add 0) = some (.slice x12.p x12.n x12.c) ∧
    elAt x12.p x12.n id 10 fun a13 => St ((a13.add 0).add 3) (.int .i64 atA) (fun w14 => K (.int .i64 0) w14) w10) w4)) else (NN t fun a15 => ∃ x16 : Sl, w4.cell? (a15.add 0) = some
    (.slice x16.p x16.n x16.c) ∧ elAt x16.p x16.n id 10 fun a17 => St ((a17.add 0).add 2) (.int .i64 place) (fun w18 => NN t fun a19 => ∃ x20 : Sl, w18.cell? (a19.add 0) = some
    (.slice x20.p x20.n x20.c) ∧ elAt x20.p x20.n id 10 fun a21 => St ((a21.add 0).add 3) (.int .i64 atA) (fun w22 => K (.int .i64 0) w22) w18) w4))) else (Calls P
    fn_millpondref14_Table_At #[(.pointer t), (.int .i64 place), (.int .i64 atA)] w1 fun e24 w23 => ∃ x25 : Int, e24 = .returned (.int .i64 x25) ∧ bif (decide (x25 ≥ 0)) then (bif
    (x25 != id) then (K (.int .i64 4) w23) else (NN t fun a26 => ∃ x27 : Sl, w23.cell? (a26.add 0) = some (.slice x27.p x27.n x27.c) ∧ elAt x27.p x27.n id 10 fun a28 => St ((a28.add
    0).add 2) (.int .i64 place) (fun w29 => NN t fun a30 => ∃ x31 : Sl, w29.cell? (a30.add 0) = some (.slice x31.p x31.n x31.c) ∧ elAt x31.p x31.n id 10 fun a32 => St ((a32.add
    0).add 3) (.int .i64 atA) (fun w33 => K (.int .i64 0) w33) w29) w23)) else (NN t fun a34 => ∃ x35 : Sl, w23.cell? (a34.add 0) = some (.slice x35.p x35.n x35.c) ∧ elAt x35.p
    x35.n id 10 fun a36 => St ((a36.add 0).add 2) (.int .i64 place) (fun w37 => NN t fun a38 => ∃ x39 : Sl, w37.cell? (a38.add 0) = some (.slice x39.p x39.n x39.c) ∧ elAt x39.p
    x39.n id 10 fun a40 => St ((a40.add 0).add 3) (.int .i64 atA) (fun w41 => K (.int .i64 0) w41) w37) w23))))))
theorem vc_millpondref14_Table_Put (t : Option Addr) (id : Int) (place : Int) (atA : Int) (K : Value → World → Prop) (w : World) : vcFn P tau rho pan ann_millpondref14_Table_Put Go.Proofs.Try.f14 #[(.pointer t), (.int .i64 id), (.int .i64 place), (.int .i64 atA)] K (fun _ _ => False) w = sh_millpondref14_Table_Put t id place atA K w := by kernel_rfl
theorem ok_millpondref14_Table_Put : okFn P ann_millpondref14_Table_Put Go.Proofs.Try.f14 4 = true := by kernel_rfl
theorem of_millpondref14_Table_Put (t : Option Addr) (id : Int) (place : Int) (atA : Int) {K : Value → World → Prop} {w : World} (h : sh_millpondref14_Table_Put t id place atA K w) : Calls P fn_millpondref14_Table_Put #[(.pointer t), (.int .i64 id), (.int .i64 place), (.int .i64 atA)] w (Ret K) := calls_of_vc mixed Go.Proofs.Try.func14 ok_millpondref14_Table_Put (by rw [vc_millpondref14_Table_Put]; exact h)

def ann_millpondref14_Table_Refer : Ann := { quiet := fun d => [13, 16, 29, 30, 47].contains d, sig := fun r => (bif r == 5 then some ([0, 1, 2, 3, 4, 5, 6, 7, 8, 9, 10, 11, 12, 13, 14, 15, 16, 17, 18, 19], [19]) else none) }
/-- (*millpond/millpondref14.Table).Refer -/
def sh_millpondref14_Table_Refer (t : Option Addr) (id : Int) (n : Int) (K : Value → World → Prop) (w : World) : Prop :=
  Calls P fn_millpondref14_Table_Has #[(.pointer t), (.int .i64 id)] w fun e2 w1 => ∃ x3 : Bool, e2 = .returned (.bool x3) ∧ bif (!x3) then (K (.tuple #[(.int .i64 0), (.int .i64 2)])
    w1) else (bif (decide (n < (-1000))) then (K (.tuple #[(.int .i64 0), (.int .i64 1)]) w1) else (bif (decide (n > 1000)) then (K (.tuple #[(.int .i64 0), (.int .i64 1)]) w1) else
    (NN t fun a4 => ∃ x5 : Sl, w1.cell? (a4.add 0) = some (.slice x5.p x5.n x5.c) ∧ elAt x5.p x5.n id 10 fun a6 => ∃ x7 : Int, w1.cell? ((a6.add 0).add 5) = some (.int .i64 x7) ∧
    bif (decide ((IntKind.i64.wrap (x7 + n)) < 0)) then (K (.tuple #[(.int .i64 0), (.int .i64 1)]) w1) else (Dr (fun w8 => NN t fun a9 => ∃ x10 : Sl, w8.cell? (a9.add 0) = some
    (.slice x10.p x10.n x10.c) ∧ NN t fun a11 => ∃ x12 : Sl, w8.cell? (a11.add 0) = some (.slice x12.p x12.n x12.c) ∧ elAt x12.p x12.n id 10 fun a13 => ∃ x14 : Int, w8.cell?
    ((a13.add 0).add 5) = some (.int .i64 x14) ∧ elAt x10.p x10.n id 10 fun a15 => St ((a15.add 0).add 5) (.int .i64 (IntKind.i64.wrap (x14 + n))) (fun w16 => NN t fun a17 => ∃ x18
    : Sl, w16.cell? (a17.add 0) = some (.slice x18.p x18.n x18.c) ∧ elAt x18.p x18.n id 10 fun a19 => ∃ x20 : Int, w16.cell? ((a19.add 0).add 5) = some (.int .i64 x20) ∧ K (.tuple
    #[(.int .i64 x20), (.int .i64 0)]) w16) w8) w1))))
theorem vc_millpondref14_Table_Refer (t : Option Addr) (id : Int) (n : Int) (K : Value → World → Prop) (w : World) : vcFn P tau rho pan ann_millpondref14_Table_Refer Go.Proofs.Try.f15 #[(.pointer t), (.int .i64 id), (.int .i64 n)] K (fun _ _ => False) w = sh_millpondref14_Table_Refer t id n K w := by kernel_rfl
theorem ok_millpondref14_Table_Refer : okFn P ann_millpondref14_Table_Refer Go.Proofs.Try.f15 3 = true := by kernel_rfl
theorem of_millpondref14_Table_Refer (t : Option Addr) (id : Int) (n : Int) {K : Value → World → Prop} {w : World} (h : sh_millpondref14_Table_Refer t id n K w) : Calls P fn_millpondref14_Table_Refer #[(.pointer t), (.int .i64 id), (.int .i64 n)] w (Ret K) := calls_of_vc mixed Go.Proofs.Try.func15 ok_millpondref14_Table_Refer (by rw [vc_millpondref14_Table_Refer]; exact h)

def ann_millpondref14_Table_Drop : Ann := { quiet := fun d => [18, 29].contains d }
/-- (*millpond/millpondref14.Table).Drop -/
def sh_millpondref14_Table_Drop (t : Option Addr) (id : Int) (K : Value → World → Prop) (w : World) : Prop :=
  Calls P fn_millpondref14_Table_Has #[(.pointer t), (.int .i64 id)] w fun e2 w1 => ∃ x3 : Bool, e2 = .returned (.bool x3) ∧ bif (!x3) then (K (.int .i64 2) w1) else (NN t fun a4 => ∃
    x5 : Sl, w1.cell? (a4.add 0) = some (.slice x5.p x5.n x5.c) ∧ elAt x5.p x5.n id 10 fun a6 => ∃ x7 : Int, w1.cell? ((a6.add 0).add 5) = some (.int .i64 x7) ∧ bif (decide (x7 >
    0)) then (K (.int .i64 4) w1) else (NN t fun a8 => ∃ x9 : Sl, w1.cell? (a8.add 0) = some (.slice x9.p x9.n x9.c) ∧ elAt x9.p x9.n id 10 fun a10 => ∃ x11 : Int, w1.cell?
    ((a10.add 0).add 2) = some (.int .i64 x11) ∧ bif (x11 != 0) then (K (.int .i64 4) w1) else (NN t fun a12 => ∃ x13 : Sl, w1.cell? (a12.add 0) = some (.slice x13.p x13.n x13.c) ∧
    elAt x13.p x13.n id 10 fun a14 => St (a14.add 9) (.bool true) (fun w15 => K (.int .i64 0) w15) w1)))
theorem vc_millpondref14_Table_Drop (t : Option Addr) (id : Int) (K : Value → World → Prop) (w : World) : vcFn P tau rho pan ann_millpondref14_Table_Drop Go.Proofs.Try.f16 #[(.pointer t), (.int .i64 id)] K (fun _ _ => False) w = sh_millpondref14_Table_Drop t id K w := by kernel_rfl
theorem ok_millpondref14_Table_Drop : okFn P ann_millpondref14_Table_Drop Go.Proofs.Try.f16 2 = true := by kernel_rfl
theorem of_millpondref14_Table_Drop (t : Option Addr) (id : Int) {K : Value → World → Prop} {w : World} (h : sh_millpondref14_Table_Drop t id K w) : Calls P fn_millpondref14_Table_Drop #[(.pointer t), (.int .i64 id)] w (Ret K) := calls_of_vc mixed Go.Proofs.Try.func16 ok_millpondref14_Table_Drop (by rw [vc_millpondref14_Table_Drop]; exact h)

def ann_millpondref14_Table_Own : Ann := {}
/-- (*millpond/millpondref14.Table).Own -/
def sh_millpondref14_Table_Own (t : Option Addr) (id : Int) (owner : Int) (K : Value → World → Prop) (w : World) : Prop :=
  Calls P fn_millpondref14_Table_Has #[(.pointer t), (.int .i64 id)] w fun e2 w1 => ∃ x3 : Bool, e2 = .returned (.bool x3) ∧ bif (!x3) then (K (.int .i64 2) w1) else (NN t fun a4 => ∃
    x5 : Sl, w1.cell? (a4.add 0) = some (.slice x5.p x5.n x5.c) ∧ elAt x5.p x5.n id 10 fun a6 => St ((a6.add 0).add 4) (.int .i64 owner) (fun w7 => K (.int .i64 0) w7) w1)
theorem vc_millpondref14_Table_Own (t : Option Addr) (id : Int) (owner : Int) (K : Value → World → Prop) (w : World) : vcFn P tau rho pan ann_millpondref14_Table_Own Go.Proofs.Try.f17 #[(.pointer t), (.int .i64 id), (.int .i64 owner)] K (fun _ _ => False) w = sh_millpondref14_Table_Own t id owner K w := by kernel_rfl
theorem ok_millpondref14_Table_Own : okFn P ann_millpondref14_Table_Own Go.Proofs.Try.f17 3 = true := by kernel_rfl
theorem of_millpondref14_Table_Own (t : Option Addr) (id : Int) (owner : Int) {K : Value → World → Prop} {w : World} (h : sh_millpondref14_Table_Own t id owner K w) : Calls P fn_millpondref14_Table_Own #[(.pointer t), (.int .i64 id), (.int .i64 owner)] w (Ret K) := calls_of_vc mixed Go.Proofs.Try.func17 ok_millpondref14_Table_Own (by rw [vc_millpondref14_Table_Own]; exact h)

def ann_millpondref14_Table_Mark : Ann := {}
/-- (*millpond/millpondref14.Table).Mark -/
def sh_millpondref14_Table_Mark (t : Option Addr) (id : Int) (dirty : Bool) (K : Value → World → Prop) (w : World) : Prop :=
  Calls P fn_millpondref14_Table_Has #[(.pointer t), (.int .i64 id)] w fun e2 w1 => ∃ x3 : Bool, e2 = .returned (.bool x3) ∧ bif (!x3) then (K (.int .i64 2) w1) else (NN t fun a4 => ∃
    x5 : Sl, w1.cell? (a4.add 0) = some (.slice x5.p x5.n x5.c) ∧ elAt x5.p x5.n id 10 fun a6 => St ((a6.add 0).add 8) (.bool dirty) (fun w7 => K (.int .i64 0) w7) w1)
theorem vc_millpondref14_Table_Mark (t : Option Addr) (id : Int) (dirty : Bool) (K : Value → World → Prop) (w : World) : vcFn P tau rho pan ann_millpondref14_Table_Mark Go.Proofs.Try.f18 #[(.pointer t), (.int .i64 id), (.bool dirty)] K (fun _ _ => False) w = sh_millpondref14_Table_Mark t id dirty K w := by kernel_rfl
theorem ok_millpondref14_Table_Mark : okFn P ann_millpondref14_Table_Mark Go.Proofs.Try.f18 3 = true := by kernel_rfl
theorem of_millpondref14_Table_Mark (t : Option Addr) (id : Int) (dirty : Bool) {K : Value → World → Prop} {w : World} (h : sh_millpondref14_Table_Mark t id dirty K w) : Calls P fn_millpondref14_Table_Mark #[(.pointer t), (.int .i64 id), (.bool dirty)] w (Ret K) := calls_of_vc mixed Go.Proofs.Try.func18 ok_millpondref14_Table_Mark (by rw [vc_millpondref14_Table_Mark]; exact h)

def ann_pages_Table_Get : Ann := { quiet := fun d => [14].contains d }
/-- (*millpond/pages.Table).Get -/
def sh_pages_Table_Get (t : Option Addr) (id : Int) (K : Value → World → Prop) (w : World) : Prop :=
  Al (.cells #[(.int .i64 0), (.int .i64 0), (.int .i64 0), (.int .i64 0), (.int .i64 0), (.int .i64 0), (.int .i64 0), (.bool false), (.bool false)] 45) (fun p1 w2 => NN t fun a3 =>
    ∃ x4 : Option Nat, w2.cell? (a3.add 0) = some (.map x4) ∧ ∃ x5 : Option Addr, LookV P 62 (.map x4) (.int .i64 id) false w2 (.pointer x5) ∧ bif (!x5.isNone) then (NN x5 fun a6 =>
    ∃ x7 : Int, w2.cell? (a6.add 0) = some (.int .i64 x7) ∧ ∃ x8 : Int, w2.cell? (a6.add 1) = some (.int .i64 x8) ∧ ∃ x9 : Int, w2.cell? (a6.add 2) = some (.int .i64 x9) ∧ ∃ x10 :
    Int, w2.cell? (a6.add 3) = some (.int .i64 x10) ∧ ∃ x11 : Int, w2.cell? (a6.add 4) = some (.int .i64 x11) ∧ ∃ x12 : Int, w2.cell? (a6.add 5) = some (.int .i64 x12) ∧ ∃ x13 :
    Int, w2.cell? (a6.add 6) = some (.int .i64 x13) ∧ ∃ x14 : Bool, w2.cell? (a6.add 7) = some (.bool x14) ∧ ∃ x15 : Bool, w2.cell? (a6.add 8) = some (.bool x15) ∧ StN [(.int .i64
    x7), (.int .i64 x8), (.int .i64 x9), (.int .i64 x10), (.int .i64 x11), (.int .i64 x12), (.int .i64 x13), (.bool x14), (.bool x15)] p1 (fun w16 => ∃ r17 : Int, w16.cell? (p1.add
    0) = some (.int .i64 r17) ∧ ∃ r18 : Int, w16.cell? (p1.add 1) = some (.int .i64 r18) ∧ ∃ r19 : Int, w16.cell? (p1.add 2) = some (.int .i64 r19) ∧ ∃ r20 : Int, w16.cell? (p1.add
    3) = some (.int .i64 r20) ∧ ∃ r21 : Int, w16.cell? (p1.add 4) = some (.int .i64 r21) ∧ ∃ r22 : Int, w16.cell? (p1.add 5) = some (.int .i64 r22) ∧ ∃ r23 : Int, w16.cell? (p1.add
    6) = some (.int .i64 r23) ∧ ∃ r24 : Bool, w16.cell? (p1.add 7) = some (.bool r24) ∧ ∃ r25 : Bool, w16.cell? (p1.add 8) = some (.bool r25) ∧ K (.tuple #[(.agg #[(.int .i64 r17),
    (.int .i64 r18), (.int .i64 r19), (.int .i64 r20), (.int .i64 r21), (.int .i64 r22), (.int .i64 r23), (.bool r24), (.bool r25)]), (.int .i64 0)]) w16) w2) else (StN [(.int .i64
    0), (.int .i64 0), (.int .i64 0), (.int .i64 0), (.int .i64 0), (.int .i64 0), (.int .i64 0), (.bool false), (.bool false)] p1 (fun w26 => ∃ r27 : Int, w26.cell? (p1.add 0) =
    some (.int .i64 r27) ∧ ∃ r28 : Int, w26.cell? (p1.add 1) = some (.int .i64 r28) ∧ ∃ r29 : Int, w26.cell? (p1.add 2) = some (.int .i64 r29) ∧ ∃ r30 : Int, w26.cell? (p1.add 3) =
    some (.int .i64 r30) ∧ ∃ r31 : Int, w26.cell? (p1.add 4) = some (.int .i64 r31) ∧ ∃ r32 : Int, w26.cell? (p1.add 5) = some (.int .i64 r32) ∧ ∃ r33 : Int, w26.cell? (p1.add 6) =
    some (.int .i64 r33) ∧ ∃ r34 : Bool, w26.cell? (p1.add 7) = some (.bool r34) ∧ ∃ r35 : Bool, w26.cell? (p1.add 8) = some (.bool r35) ∧ K (.tuple #[(.agg #[(.int .i64 r27), (.int
    .i64 r28), (.int .i64 r29), (.int .i64 r30), (.int .i64 r31), (.int .i64 r32), (.int .i64 r33), (.bool r34), (.bool r35)]), (.int .i64 2)]) w26) w2)) w
theorem vc_pages_Table_Get (t : Option Addr) (id : Int) (K : Value → World → Prop) (w : World) : vcFn P tau rho pan ann_pages_Table_Get Go.Proofs.Try.f19 #[(.pointer t), (.int .i64 id)] K (fun _ _ => False) w = sh_pages_Table_Get t id K w := by kernel_rfl
theorem ok_pages_Table_Get : okFn P ann_pages_Table_Get Go.Proofs.Try.f19 2 = true := by kernel_rfl
theorem of_pages_Table_Get (t : Option Addr) (id : Int) {K : Value → World → Prop} {w : World} (h : sh_pages_Table_Get t id K w) : Calls P fn_pages_Table_Get #[(.pointer t), (.int .i64 id)] w (Ret K) := calls_of_vc mixed Go.Proofs.Try.func19 ok_pages_Table_Get (by rw [vc_pages_Table_Get]; exact h)

def ann_millpondref14_Table_Get : Ann := {}
/-- (*millpond/millpondref14.Table).Get -/
def sh_millpondref14_Table_Get (t : Option Addr) (id : Int) (K : Value → World → Prop) (w : World) : Prop :=
  Al (.cells #[(.int .i64 0), (.int .i64 0), (.int .i64 0), (.int .i64 0), (.int .i64 0), (.int .i64 0), (.int .i64 0), (.bool false), (.bool false)] 45) (fun p1 w2 => Calls P
    fn_millpondref14_Table_Has #[(.pointer t), (.int .i64 id)] w2 fun e4 w3 => ∃ x5 : Bool, e4 = .returned (.bool x5) ∧ bif (!x5) then (StN [(.int .i64 0), (.int .i64 0), (.int .i64
    0), (.int .i64 0), (.int .i64 0), (.int .i64 0), (.int .i64 0), (.bool false), (.bool false)] p1 (fun w6 => ∃ r7 : Int, w6.cell? (p1.add 0) = some (.int .i64 r7) ∧ ∃ r8 : Int,
    w6.cell? (p1.add 1) = some (.int .i64 r8) ∧ ∃ r9 : Int, w6.cell? (p1.add 2) = some (.int .i64 r9) ∧ ∃ r10 : Int, w6.cell? (p1.add 3) = some (.int .i64 r10) ∧ ∃ r11 : Int,
    w6.cell? (p1.add 4) = some (.int .i64 r11) ∧ ∃ r12 : Int, w6.cell? (p1.add 5) = some (.int .i64 r12) ∧ ∃ r13 : Int, w6.cell? (p1.add 6) = some (.int .i64 r13) ∧ ∃ r14 : Bool,
    w6.cell? (p1.add 7) = some (.bool r14) ∧ ∃ r15 : Bool, w6.cell? (p1.add 8) = some (.bool r15) ∧ K (.tuple #[(.agg #[(.int .i64 r7), (.int .i64 r8), (.int .i64 r9), (.int .i64
    r10), (.int .i64 r11), (.int .i64 r12), (.int .i64 r13), (.bool r14), (.bool r15)]), (.int .i64 2)]) w6) w3) else (NN t fun a16 => ∃ x17 : Sl, w3.cell? (a16.add 0) = some
    (.slice x17.p x17.n x17.c) ∧ elAt x17.p x17.n id 10 fun a18 => ∃ x19 : Int, w3.cell? ((a18.add 0).add 0) = some (.int .i64 x19) ∧ ∃ x20 : Int, w3.cell? ((a18.add 0).add 1) =
    some (.int .i64 x20) ∧ ∃ x21 : Int, w3.cell? ((a18.add 0).add 2) = some (.int .i64 x21) ∧ ∃ x22 : Int, w3.cell? ((a18.add 0).add 3) = some (.int .i64 x22) ∧ ∃ x23 : Int,
    w3.cell? ((a18.add 0).add 4) = some (.int .i64 x23) ∧ ∃ x24 : Int, w3.cell? ((a18.add 0).add 5) = some (.int .i64 x24) ∧ ∃ x25 : Int, w3.cell? ((a18.add 0).add 6) = some (.int
    .i64 x25) ∧ ∃ x26 : Bool, w3.cell? ((a18.add 0).add 7) = some (.bool x26) ∧ ∃ x27 : Bool, w3.cell? ((a18.add 0).add 8) = some (.bool x27) ∧ StN [(.int .i64 x19), (.int .i64
    x20), (.int .i64 x21), (.int .i64 x22), (.int .i64 x23), (.int .i64 x24), (.int .i64 x25), (.bool x26), (.bool x27)] p1 (fun w28 => ∃ r29 : Int, w28.cell? (p1.add 0) = some
    (.int .i64 r29) ∧ ∃ r30 : Int, w28.cell? (p1.add 1) = some (.int .i64 r30) ∧ ∃ r31 : Int, w28.cell? (p1.add 2) = some (.int .i64 r31) ∧ ∃ r32 : Int, w28.cell? (p1.add 3) = some
    (.int .i64 r32) ∧ ∃ r33 : Int, w28.cell? (p1.add 4) = some (.int .i64 r33) ∧ ∃ r34 : Int, w28.cell? (p1.add 5) = some (.int .i64 r34) ∧ ∃ r35 : Int, w28.cell? (p1.add 6) = some
    (.int .i64 r35) ∧ ∃ r36 : Bool, w28.cell? (p1.add 7) = some (.bool r36) ∧ ∃ r37 : Bool, w28.cell? (p1.add 8) = some (.bool r37) ∧ K (.tuple #[(.agg #[(.int .i64 r29), (.int .i64
    r30), (.int .i64 r31), (.int .i64 r32), (.int .i64 r33), (.int .i64 r34), (.int .i64 r35), (.bool r36), (.bool r37)]), (.int .i64 0)]) w28) w3)) w
theorem vc_millpondref14_Table_Get (t : Option Addr) (id : Int) (K : Value → World → Prop) (w : World) : vcFn P tau rho pan ann_millpondref14_Table_Get Go.Proofs.Try.f20 #[(.pointer t), (.int .i64 id)] K (fun _ _ => False) w = sh_millpondref14_Table_Get t id K w := by kernel_rfl
theorem ok_millpondref14_Table_Get : okFn P ann_millpondref14_Table_Get Go.Proofs.Try.f20 2 = true := by kernel_rfl
theorem of_millpondref14_Table_Get (t : Option Addr) (id : Int) {K : Value → World → Prop} {w : World} (h : sh_millpondref14_Table_Get t id K w) : Calls P fn_millpondref14_Table_Get #[(.pointer t), (.int .i64 id)] w (Ret K) := calls_of_vc mixed Go.Proofs.Try.func20 ok_millpondref14_Table_Get (by rw [vc_millpondref14_Table_Get]; exact h)

def ann_pages_Table_Of : Ann := { head := fun r => (bif r == 1 then 11 else 0) }
/-- (*millpond/pages.Table).Of -/
def sh_pages_Table_Of (t : Option Addr) (key_0 : Int) (key_1 : Int) (K : Value → World → Prop) (w : World) : Prop :=
  Al (.cells #[(.int .i64 key_0), (.int .i64 key_1)] 24) (fun p1 w2 => Dr (fun w3 => NN t fun a4 => ∃ x5 : Option Nat, w3.cell? (a4.add 1) = some (.map x5) ∧ ∃ x6 : Int, w3.cell?
    (p1.add 0) = some (.int .i64 x6) ∧ ∃ x7 : Int, w3.cell? (p1.add 1) = some (.int .i64 x7) ∧ ∃ x8 : Int, ∃ x9 : Bool, LookV P 63 (.map x5) (.agg #[(.int .i64 x6), (.int .i64 x7)])
    true w3 (.tuple #[(.int .i64 x8), (.bool x9)]) ∧ bif x9 then (K (.int .i64 x8) w3) else (K (.int .i64 (-1)) w3)) w2) w
theorem vc_pages_Table_Of (t : Option Addr) (key_0 : Int) (key_1 : Int) (K : Value → World → Prop) (w : World) : vcFn P tau rho pan ann_pages_Table_Of Go.Proofs.Try.f21 #[(.pointer t), (.agg #[(.int .i64 key_0), (.int .i64 key_1)])] K (fun _ _ => False) w = sh_pages_Table_Of t key_0 key_1 K w := by kernel_rfl
theorem ok_pages_Table_Of : okFn P ann_pages_Table_Of Go.Proofs.Try.f21 2 = true := by kernel_rfl
theorem of_pages_Table_Of (t : Option Addr) (key_0 : Int) (key_1 : Int) {K : Value → World → Prop} {w : World} (h : sh_pages_Table_Of t key_0 key_1 K w) : Calls P fn_pages_Table_Of #[(.pointer t), (.agg #[(.int .i64 key_0), (.int .i64 key_1)])] w (Ret K) := calls_of_vc mixed Go.Proofs.Try.func21 ok_pages_Table_Of (by rw [vc_pages_Table_Of]; exact h)

def ann_millpondref14_Table_Of : Ann := { quiet := fun d => [11, 12, 16, 19, 34].contains d, sig := fun r => (bif r == 4 then some ([0, 1, 2, 3, 4, 5, 6, 7, 8, 9, 10, 11, 12, 13, 14, 15], [2]) else none), loop := fun r => (bif r == 2 then [(5, .int .i64)] else []) }
/-- (*millpond/millpondref14.Table).Of -/
def sh_millpondref14_Table_Of (t : Option Addr) (k_0 : Int) (k_1 : Int) (K : Value → World → Prop) (w : World) : Prop :=
  Al (.cells #[(.int .i64 k_0), (.int .i64 k_1)] 24) (fun p1 w2 => ∃ (I3 : Int → World → Prop) (M4 : Int → World → Nat), I3 0 w2 ∧ ∀ _u6 : Nat → Value, ∀ i7 : Int, ∀ w5 : World, I3 i7
    w5 → NN t fun a8 => ∃ x9 : Sl, w5.cell? (a8.add 0) = some (.slice x9.p x9.n x9.c) ∧ bif (decide (i7 < ((x9.n : Nat) : Int))) then (∃ x10 : Int, w5.cell? (p1.add 0) = some (.int
    .i64 x10) ∧ bif (decide (x10 ≥ 0)) then (Dr (fun w11 => Calls P fn_millpondref14_Table_Has #[(.pointer t), (.int .i64 i7)] w11 fun e13 w12 => ∃ x14 : Bool, e13 = .returned
    (.bool x14) ∧ bif x14 then (NN t fun a15 => ∃ x16 : Sl, w12.cell? (a15.add 0) = some (.slice x16.p x16.n x16.c) ∧ elAt x16.p x16.n i7 10 fun a17 => ∃ x18 : Int, w12.cell?
    (((a17.add 0).add 0).add 0) = some (.int .i64 x18) ∧ ∃ x19 : Int, w12.cell? (((a17.add 0).add 0).add 1) = some (.int .i64 x19) ∧ ∃ x20 : Int, w12.cell? (p1.add 0) = some (.int
    .i64 x20) ∧ ∃ x21 : Int, w12.cell? (p1.add 1) = some (.int .i64 x21) ∧ ∃ q22 : Bool, EqV P .eql 24 (.agg #[(.int .i64 x18), (.int .i64 x19)]) (.agg #[(.int .i64 x20), (.int .i64
    x21)]) q22 ∧ bif q22 then (K (.int .i64 i7) w12) else ((I3 (IntKind.i64.wrap (i7 + 1)) w12 ∧ M4 (IntKind.i64.wrap (i7 + 1)) w12 < M4 i7 w5))) else ((I3 (IntKind.i64.wrap (i7 +
    1)) w12 ∧ M4 (IntKind.i64.wrap (i7 + 1)) w12 < M4 i7 w5))) w5) else (K (.int .i64 (-1)) w5)) else (K (.int .i64 (-1)) w5)) w
theorem vc_millpondref14_Table_Of (t : Option Addr) (k_0 : Int) (k_1 : Int) (K : Value → World → Prop) (w : World) : vcFn P tau rho pan ann_millpondref14_Table_Of Go.Proofs.Try.f22 #[(.pointer t), (.agg #[(.int .i64 k_0), (.int .i64 k_1)])] K (fun _ _ => False) w = sh_millpondref14_Table_Of t k_0 k_1 K w := by kernel_rfl
theorem ok_millpondref14_Table_Of : okFn P ann_millpondref14_Table_Of Go.Proofs.Try.f22 2 = true := by kernel_rfl
theorem of_millpondref14_Table_Of (t : Option Addr) (k_0 : Int) (k_1 : Int) {K : Value → World → Prop} {w : World} (h : sh_millpondref14_Table_Of t k_0 k_1 K w) : Calls P fn_millpondref14_Table_Of #[(.pointer t), (.agg #[(.int .i64 k_0), (.int .i64 k_1)])] w (Ret K) := calls_of_vc mixed Go.Proofs.Try.func22 ok_millpondref14_Table_Of (by rw [vc_millpondref14_Table_Of]; exact h)

def ann_pages_Table_At : Ann := {}
/-- (*millpond/pages.Table).At -/
def sh_pages_Table_At (t : Option Addr) (place : Int) (atA : Int) (K : Value → World → Prop) (w : World) : Prop :=
  NN t fun a1 => ∃ x2 : Option Nat, w.cell? (a1.add 2) = some (.map x2) ∧ ∃ x3 : Int, ∃ x4 : Bool, LookV P 64 (.map x2) (.agg #[(.int .i64 place), (.int .i64 atA)]) true w (.tuple
    #[(.int .i64 x3), (.bool x4)]) ∧ bif x4 then (K (.int .i64 x3) w) else (K (.int .i64 (-1)) w)
theorem vc_pages_Table_At (t : Option Addr) (place : Int) (atA : Int) (K : Value → World → Prop) (w : World) : vcFn P tau rho pan ann_pages_Table_At Go.Proofs.Try.f23 #[(.pointer t), (.int .i64 place), (.int .i64 atA)] K (fun _ _ => False) w = sh_pages_Table_At t place atA K w := by kernel_rfl
theorem ok_pages_Table_At : okFn P ann_pages_Table_At Go.Proofs.Try.f23 3 = true := by kernel_rfl
theorem of_pages_Table_At (t : Option Addr) (place : Int) (atA : Int) {K : Value → World → Prop} {w : World} (h : sh_pages_Table_At t place atA K w) : Calls P fn_pages_Table_At #[(.pointer t), (.int .i64 place), (.int .i64 atA)] w (Ret K) := calls_of_vc mixed Go.Proofs.Try.func23 ok_pages_Table_At (by rw [vc_pages_Table_At]; exact h)

def ann_millpondref14_Table_At : Ann := { quiet := fun d => [13, 14, 17, 20, 35, 48].contains d, loop := fun r => (bif r == 2 then [(7, .int .i64)] else []) }
/-- (*millpond/millpondref14.Table).At -/
def sh_millpondref14_Table_At (t : Option Addr) (place : Int) (atA : Int) (K : Value → World → Prop) (w : World) : Prop :=
  ∃ (I1 : Int → World → Prop) (M2 : Int → World → Nat), I1 0 w ∧ ∀ _u4 : Nat → Value, ∀ i5 : Int, ∀ w3 : World, I1 i5 w3 → NN t fun a6 => ∃ x7 : Sl, w3.cell? (a6.add 0) = some (.slice
    x7.p x7.n x7.c) ∧ bif (decide (i5 < ((x7.n : Nat) : Int))) then (bif (place != 0) then (Calls P fn_millpondref14_Table_Has #[(.pointer t), (.int .i64 i5)] w3 fun e9 w8 => ∃ x10
    : Bool, e9 = .returned (.bool x10) ∧ bif x10 then (NN t fun a11 => ∃ x12 : Sl, w8.cell? (a11.add 0) = some (.slice x12.p x12.n x12.c) ∧ elAt x12.p x12.n i5 10 fun a13 => ∃ x14 :
    Int, w8.cell? ((a13.add 0).add 2) = some (.int .i64 x14) ∧ bif (x14 == place) then (NN t fun a15 => ∃ x16 : Sl, w8.cell? (a15.add 0) = some (.slice x16.p x16.n x16.c) ∧ elAt
    x16.p x16.n i5 10 fun a17 => ∃ x18 : Int, w8.cell? ((a17.add 0).add 3) = some (.int .i64 x18) ∧ bif (x18 == atA) then (K (.int .i64 i5) w8) else ((I1 (IntKind.i64.wrap (i5 + 1))
    w8 ∧ M2 (IntKind.i64.wrap (i5 + 1)) w8 < M2 i5 w3))) else ((I1 (IntKind.i64.wrap (i5 + 1)) w8 ∧ M2 (IntKind.i64.wrap (i5 + 1)) w8 < M2 i5 w3))) else ((I1 (IntKind.i64.wrap (i5 +
    1)) w8 ∧ M2 (IntKind.i64.wrap (i5 + 1)) w8 < M2 i5 w3))) else (K (.int .i64 (-1)) w3)) else (K (.int .i64 (-1)) w3)
theorem vc_millpondref14_Table_At (t : Option Addr) (place : Int) (atA : Int) (K : Value → World → Prop) (w : World) : vcFn P tau rho pan ann_millpondref14_Table_At Go.Proofs.Try.f24 #[(.pointer t), (.int .i64 place), (.int .i64 atA)] K (fun _ _ => False) w = sh_millpondref14_Table_At t place atA K w := by kernel_rfl
theorem ok_millpondref14_Table_At : okFn P ann_millpondref14_Table_At Go.Proofs.Try.f24 3 = true := by kernel_rfl
theorem of_millpondref14_Table_At (t : Option Addr) (place : Int) (atA : Int) {K : Value → World → Prop} {w : World} (h : sh_millpondref14_Table_At t place atA K w) : Calls P fn_millpondref14_Table_At #[(.pointer t), (.int .i64 place), (.int .i64 atA)] w (Ret K) := calls_of_vc mixed Go.Proofs.Try.func24 ok_millpondref14_Table_At (by rw [vc_millpondref14_Table_At]; exact h)

def ann_millpondlaw14_row : Ann := { quiet := fun d => [7, 9, 10, 13, 14, 16, 25].contains d, head := fun r => (bif r == 6 then 9 else 0), loop := fun r => (bif r == 4 then [(5, .int .i64)] else []) }
/-- millpond/millpondlaw14.row -/
def sh_millpondlaw14_row (a : Sl) (b : Sl) (K : Value → World → Prop) (w : World) : Prop :=
  bif (((a.n : Nat) : Int) != ((b.n : Nat) : Int)) then (K (.bool false) w) else (∃ (I1 : Int → World → Prop) (M2 : Int → World → Nat), I1 0 w ∧ ∀ _u4 : Nat → Value, ∀ i5 : Int, ∀ w3
    : World, I1 i5 w3 → bif (decide (i5 < ((a.n : Nat) : Int))) then (Dr (fun w6 => elAt a.p a.n i5 1 fun a7 => ∃ x8 : Int, w6.cell? a7 = some (.int .i64 x8) ∧ elAt b.p b.n i5 1 fun
    a9 => ∃ x10 : Int, w6.cell? a9 = some (.int .i64 x10) ∧ bif (x8 != x10) then (K (.bool false) w6) else ((I1 (IntKind.i64.wrap (i5 + 1)) w6 ∧ M2 (IntKind.i64.wrap (i5 + 1)) w6 <
    M2 i5 w3))) w3) else (K (.bool true) w3))
theorem vc_millpondlaw14_row (a : Sl) (b : Sl) (K : Value → World → Prop) (w : World) : vcFn P tau rho pan ann_millpondlaw14_row Go.Proofs.Try.f25 #[(.slice a.p a.n a.c), (.slice b.p b.n b.c)] K (fun _ _ => False) w = sh_millpondlaw14_row a b K w := by kernel_rfl
theorem ok_millpondlaw14_row : okFn P ann_millpondlaw14_row Go.Proofs.Try.f25 2 = true := by kernel_rfl
theorem of_millpondlaw14_row (a : Sl) (b : Sl) {K : Value → World → Prop} {w : World} (h : sh_millpondlaw14_row a b K w) : Calls P fn_millpondlaw14_row #[(.slice a.p a.n a.c), (.slice b.p b.n b.c)] w (Ret K) := calls_of_vc mixed Go.Proofs.Try.func25 ok_millpondlaw14_row (by rw [vc_millpondlaw14_row]; exact h)

def ann_pages_Table_All : Ann := {}
/-- (*millpond/pages.Table).All -/
def sh_pages_Table_All (t : Option Addr) (K : Value → World → Prop) (w : World) : Prop :=
  NN t fun a1 => ∃ x2 : Option Nat, w.cell? (a1.add 0) = some (.map x2) ∧ Calls P fn_maps_Keys_map_int_api_Page_int_api_Page #[(.map x2)] w fun e4 w3 => ∃ x5 : Value, e4 = .returned
    x5 ∧ Calls P fn_slices_Sorted_int #[x5] w3 fun e7 w6 => ∃ x8 : Sl, e7 = .returned (.slice x8.p x8.n x8.c) ∧ K (.slice x8.p x8.n x8.c) w6
theorem vc_pages_Table_All (t : Option Addr) (K : Value → World → Prop) (w : World) : vcFn P tau rho pan ann_pages_Table_All Go.Proofs.Try.f26 #[(.pointer t)] K (fun _ _ => False) w = sh_pages_Table_All t K w := by kernel_rfl
theorem ok_pages_Table_All : okFn P ann_pages_Table_All Go.Proofs.Try.f26 1 = true := by kernel_rfl
theorem of_pages_Table_All (t : Option Addr) {K : Value → World → Prop} {w : World} (h : sh_pages_Table_All t K w) : Calls P fn_pages_Table_All #[(.pointer t)] w (Ret K) := calls_of_vc mixed Go.Proofs.Try.func26 ok_pages_Table_All (by rw [vc_pages_Table_All]; exact h)

def ann_millpondref14_Table_Those : Ann := { quiet := fun d => [14, 15, 17, 34].contains d, loop := fun r => (bif r == 3 then [(7, .slice), (8, .int .i64)] else []) }
/-- (*millpond/millpondref14.Table).Those -/
def sh_millpondref14_Table_Those (t : Option Addr) (owner : Int) (any : Bool) (K : Value → World → Prop) (w : World) : Prop :=
  ∃ (I1 : Sl → Int → World → Prop) (M2 : Sl → Int → World → Nat), I1 ⟨none, 0, 0⟩ 0 w ∧ ∀ _u4 : Nat → Value, ∀ l5 : Sl, ∀ i6 : Int, ∀ w3 : World, I1 l5 i6 w3 → NN t fun a7 => ∃ x8 :
    Sl, w3.cell? (a7.add 0) = some (.slice x8.p x8.n x8.c) ∧ bif (decide (i6 < ((x8.n : Nat) : Int))) then (Calls P fn_millpondref14_Table_Has #[(.pointer t), (.int .i64 i6)] w3 fun
    e10 w9 => ∃ x11 : Bool, e10 = .returned (.bool x11) ∧ bif x11 then (bif any then (Al (.cells #[(.int .i64 i6)] 3) (fun p12 w13 => ∃ x15 : Sl, ∃ w14 : World, Sem.run P
    (Builtin.append_ #[51, 51] 51 #[(.slice l5.p l5.n l5.c), (.slice (some p12) 1 1)]) w13 = .ok (.slice x15.p x15.n x15.c) w14 ∧ (I1 x15 (IntKind.i64.wrap (i6 + 1)) w14 ∧ M2 x15
    (IntKind.i64.wrap (i6 + 1)) w14 < M2 l5 i6 w3)) w9) else (NN t fun a16 => ∃ x17 : Sl, w9.cell? (a16.add 0) = some (.slice x17.p x17.n x17.c) ∧ elAt x17.p x17.n i6 10 fun a18 =>
    ∃ x19 : Int, w9.cell? ((a18.add 0).add 4) = some (.int .i64 x19) ∧ bif (x19 == owner) then (Al (.cells #[(.int .i64 i6)] 3) (fun p20 w21 => ∃ x23 : Sl, ∃ w22 : World, Sem.run P
    (Builtin.append_ #[51, 51] 51 #[(.slice l5.p l5.n l5.c), (.slice (some p20) 1 1)]) w21 = .ok (.slice x23.p x23.n x23.c) w22 ∧ (I1 x23 (IntKind.i64.wrap (i6 + 1)) w22 ∧ M2 x23
    (IntKind.i64.wrap (i6 + 1)) w22 < M2 l5 i6 w3)) w9) else ((I1 l5 (IntKind.i64.wrap (i6 + 1)) w9 ∧ M2 l5 (IntKind.i64.wrap (i6 + 1)) w9 < M2 l5 i6 w3)))) else ((I1 l5
    (IntKind.i64.wrap (i6 + 1)) w9 ∧ M2 l5 (IntKind.i64.wrap (i6 + 1)) w9 < M2 l5 i6 w3))) else (K (.slice l5.p l5.n l5.c) w3)
theorem vc_millpondref14_Table_Those (t : Option Addr) (owner : Int) (any : Bool) (K : Value → World → Prop) (w : World) : vcFn P tau rho pan ann_millpondref14_Table_Those Go.Proofs.Try.f27 #[(.pointer t), (.int .i64 owner), (.bool any)] K (fun _ _ => False) w = sh_millpondref14_Table_Those t owner any K w := by kernel_rfl
theorem ok_millpondref14_Table_Those : okFn P ann_millpondref14_Table_Those Go.Proofs.Try.f27 3 = true := by kernel_rfl
theorem of_millpondref14_Table_Those (t : Option Addr) (owner : Int) (any : Bool) {K : Value → World → Prop} {w : World} (h : sh_millpondref14_Table_Those t owner any K w) : Calls P fn_millpondref14_Table_Those #[(.pointer t), (.int .i64 owner), (.bool any)] w (Ret K) := calls_of_vc mixed Go.Proofs.Try.func27 ok_millpondref14_Table_Those (by rw [vc_millpondref14_Table_Those]; exact h)

def ann_pages_Table_Those : Ann := {}
/-- (*millpond/pages.Table).Those -/
def sh_pages_Table_Those (t : Option Addr) (owner : Int) (K : Value → World → Prop) (w : World) : Prop :=
  Al (.cells #[(.pointer t)] 27) (fun p1 w2 => Al (.cells #[(.int .i64 owner)] 3) (fun p3 w4 => ∃ x5 : Option Addr, w4.cell? p1 = some (.pointer x5) ∧ Calls P fn_pages_Table_All
    #[(.pointer x5)] w4 fun e7 w6 => ∃ x8 : Sl, e7 = .returned (.slice x8.p x8.n x8.c) ∧ Calls P fn_slices_DeleteFunc_int_int #[(.slice x8.p x8.n x8.c), (.func (.func
    fn_pages_Table_Those_1) #[] #[(.pointer (some p1)), (.pointer (some p3))])] w6 fun e10 w9 => ∃ x11 : Sl, e10 = .returned (.slice x11.p x11.n x11.c) ∧ K (.slice x11.p x11.n
    x11.c) w9) w2) w
theorem vc_pages_Table_Those (t : Option Addr) (owner : Int) (K : Value → World → Prop) (w : World) : vcFn P tau rho pan ann_pages_Table_Those Go.Proofs.Try.f28 #[(.pointer t), (.int .i64 owner)] K (fun _ _ => False) w = sh_pages_Table_Those t owner K w := by kernel_rfl
theorem ok_pages_Table_Those : okFn P ann_pages_Table_Those Go.Proofs.Try.f28 2 = true := by kernel_rfl
theorem of_pages_Table_Those (t : Option Addr) (owner : Int) {K : Value → World → Prop} {w : World} (h : sh_pages_Table_Those t owner K w) : Calls P fn_pages_Table_Those #[(.pointer t), (.int .i64 owner)] w (Ret K) := calls_of_vc mixed Go.Proofs.Try.func28 ok_pages_Table_Those (by rw [vc_pages_Table_Those]; exact h)

def ann_pages_Table_Put : Ann := { quiet := fun d => [19, 22, 25, 29, 33, 36, 44, 48, 72].contains d, sig := fun r => (bif r == 9 then some ([0, 1, 2, 3, 4, 5, 6, 7, 8, 9, 10, 11, 12, 13], [13]) else none) }
/-- (*millpond/pages.Table).Put -/
def sh_pages_Table_Put (t : Option Addr) (id : Int) (place : Int) (atA : Int) (K : Value → World → Prop) (w : World) : Prop :=
  NN t fun a1 => ∃ x2 : Option Nat, w.cell? (a1.add 0) = some (.map x2) ∧ ∃ x3 : Option Addr, LookV P 62 (.map x2) (.int .i64 id) false w (.pointer x3) ∧ bif x3.isNone then (K (.int
    .i64 2) w) else (bif (decide (place < 0)) then (K (.int .i64 1) w) else (bif (decide (place > 2)) then (K (.int .i64 1) w) else (bif (decide (atA < 0)) then (K (.int .i64 1) w)
    else (bif (place == 0) then (bif (atA != 0) then (K (.int .i64 1) w) else (Calls P fn_pages_Table_At #[(.pointer t), (.int .i64 place), (.int .i64 atA)] w fun e5 w4 => ∃ x6 :
    Int, e5 = .returned (.int .i64 x6) ∧ bif (decide (x6 ≥ 0)) then (bif (x6 != id) then (K (.int .i64 4) w4) else (Dr (fun w7 => NN t fun a8 => ∃ x9 : Option Nat, w7.cell? (a8.add
    2) = some (.map x9) ∧ NN x3 fun a10 => ∃ x11 : Int, w7.cell? (a10.add 2) = some (.int .i64 x11) ∧ NN x3 fun a12 => ∃ x13 : Int, w7.cell? (a12.add 3) = some (.int .i64 x13) ∧ ∃
    w14 : World, Sem.run P (Builtin.delete_ #[64, 73] 0 #[(.map x9), (.agg #[(.int .i64 x11), (.int .i64 x13)])]) w7 = .ok (.tuple #[]) w14 ∧ NN x3 fun a15 => St (a15.add 2) (.int
    .i64 place) (fun w16 => NN x3 fun a17 => St (a17.add 3) (.int .i64 atA) (fun w18 => bif (place != 0) then (NN t fun a19 => ∃ x20 : Option Nat, w18.cell? (a19.add 2) = some (.map
    x20) ∧ ∃ w21 : World, Sem.run P (Instr.mapUpdate 64 (.map x20) (.agg #[(.int .i64 place), (.int .i64 atA)]) (.int .i64 id)) w18 = .ok () w21 ∧ K (.int .i64 0) w21) else (K (.int
    .i64 0) w18)) w16) w14) w4)) else (Dr (fun w22 => NN t fun a23 => ∃ x24 : Option Nat, w22.cell? (a23.add 2) = some (.map x24) ∧ NN x3 fun a25 => ∃ x26 : Int, w22.cell? (a25.add
    2) = some (.int .i64 x26) ∧ NN x3 fun a27 => ∃ x28 : Int, w22.cell? (a27.add 3) = some (.int .i64 x28) ∧ ∃ w29 : World, Sem.run P (Builtin.delete_ #[64, 73] 0 #[(.map x24),
    (.agg #[(.int .i64 x26), (.int .i64 x28)])]) w22 = .ok (.tuple #[]) w29 ∧ NN x3 fun a30 => St (a30.add 2) (.int .i64 place) (fun w31 => NN x3 fun a32 => St (a32.add 3) (.int
    .i64 atA) (fun w33 => bif (place != 0) then (NN t fun a34 => ∃ x35 : Option Nat, w33.cell? (a34.add 2) = some (.map x35) ∧ ∃ w36 : World, Sem.run P (Instr.mapUpdate 64 (.map
    x35) (.agg #[(.int .i64 place), (.int .i64 atA)]) (.int .i64 id)) w33 = .ok () w36 ∧ K (.int .i64 0) w36) else (K (.int .i64 0) w33)) w31) w29) w4))) else (Calls P
    fn_pages_Table_At #[(.pointer t), (.int .i64 place), (.int .i64 atA)] w fun e38 w37 => ∃ x39 : Int, e38 = .returned (.int .i64 x39) ∧ bif (decide (x39 ≥ 0)) then (bif (x39 !=
    id) then (K (.int .i64 4) w37) else (Dr (fun w40 => NN t fun a41 => ∃ x42 : Option Nat, w40.cell? (a41.add 2) = some (.map x42) ∧ NN x3 fun a43 => ∃ x44 : Int, w40.cell?
    (a43.add 2) = some (.int .i64 x44) ∧ NN x3 fun a45 => ∃ x46 : Int, w40.cell? (a45.add 3) = some (.int .i64 x46) ∧ ∃ w47 : World, Sem.run P (Builtin.delete_ #[64, 73] 0 #[(.map
    x42), (.agg #[(.int .i64 x44), (.int .i64 x46)])]) w40 = .ok (.tuple #[]) w47 ∧ NN x3 fun a48 => St (a48.add 2) (.int .i64 place) (fun w49 => NN x3 fun a50 => St (a50.add 3)
    (.int .i64 atA) (fun w51 => bif (place != 0) then (NN t fun a52 => ∃ x53 : Option Nat, w51.cell? (a52.add 2) = some (.map x53) ∧ ∃ w54 : World, Sem.run P (Instr.mapUpdate 64
    (.map x53) (.agg #[(.int .i64 place), (.int .i64 atA)]) (.int .i64 id)) w51 = .ok () w54 ∧ K (.int .i64 0) w54) else (K (.int .i64 0) w51)) w49) w47) w37)) else (Dr (fun w55 =>
    NN t fun a56 => ∃ x57 : Option Nat, w55.cell? (a56.add 2) = some (.map x57) ∧ NN x3 fun a58 => ∃ x59 : Int, w55.cell? (a58.add 2) = some (.int .i64 x59) ∧ NN x3 fun a60 => ∃ x61
    : Int, w55.cell? (a60.add 3) = some (.int .i64 x61) ∧ ∃ w62 : World, Sem.run P (Builtin.delete_ #[64, 73] 0 #[(.map x57), (.agg #[(.int .i64 x59), (.int .i64 x61)])]) w55 = .ok
    (.tuple #[]) w62 ∧ NN x3 fun a63 => St (a63.add 2) (.int .i64 place) (fun w64 => NN x3 fun a65 => St (a65.add 3) (.int .i64 atA) (fun w66 => bif (place != 0) then (NN t fun a67
    => ∃ x68 : Option Nat, w66.cell? (a67.add 2) = some (.map x68) ∧ ∃ w69 : World, Sem.run P (Instr.mapUpdate 64 (.map x68) (.agg #[(.int .i64 place), (.int .i64 atA)]) (.int .i64
    id)) w66 = .ok () w69 ∧ K (.int .i64 0) w69) else (K (.int .i64 0) w66)) w64) w62) w37))))))
theorem vc_pages_Table_Put (t : Option Addr) (id : Int) (place : Int) (atA : Int) (K : Value → World → Prop) (w : World) : vcFn P tau rho pan ann_pages_Table_Put Go.Proofs.Try.f29 #[(.pointer t), (.int .i64 id), (.int .i64 place), (.int .i64 atA)] K (fun _ _ => False) w = sh_pages_Table_Put t id place atA K w := by kernel_rfl
theorem ok_pages_Table_Put : okFn P ann_pages_Table_Put Go.Proofs.Try.f29 4 = true := by kernel_rfl
theorem of_pages_Table_Put (t : Option Addr) (id : Int) (place : Int) (atA : Int) {K : Value → World → Prop} {w : World} (h : sh_pages_Table_Put t id place atA K w) : Calls P fn_pages_Table_Put #[(.pointer t), (.int .i64 id), (.int .i64 place), (.int .i64 atA)] w (Ret K) := calls_of_vc mixed Go.Proofs.Try.func29 ok_pages_Table_Put (by rw [vc_pages_Table_Put]; exact h)

def ann_pages_Table_Make : Ann := { quiet := fun d => [22, 29, 34].contains d, sig := fun r => (bif r == 2 then some ([0, 1, 2, 3, 4, 5, 6], [6]) else bif r == 8 then some ([0, 1, 2, 3, 4, 5, 6, 7, 8, 9], [8, 9]) else none) }
/-- (*millpond/pages.Table).Make -/
def sh_pages_Table_Make (t : Option Addr) (key_0 : Int) (key_1 : Int) (owner : Int) (K : Value → World → Prop) (w : World) : Prop :=
  Al (.cells #[(.int .i64 key_0), (.int .i64 key_1)] 24) (fun p1 w2 => NN t fun a3 => ∃ x4 : Int, w2.cell? (a3.add 3) = some (.int .i64 x4) ∧ ∃ x5 : Int, w2.cell? (p1.add 0) = some
    (.int .i64 x5) ∧ bif (decide (x5 < 0)) then (StN [(.int .i64 (-1)), (.int .i64 x4)] p1 (fun w6 => NN t fun a7 => ∃ x8 : Int, w6.cell? (a7.add 3) = some (.int .i64 x8) ∧ NN t fun
    a9 => St (a9.add 3) (.int .i64 (IntKind.i64.wrap (x8 + 1))) (fun w10 => Dr (fun w11 => NN t fun a12 => ∃ x13 : Option Nat, w11.cell? (a12.add 0) = some (.map x13) ∧ ∃ x14 : Int,
    w11.cell? (p1.add 0) = some (.int .i64 x14) ∧ ∃ x15 : Int, w11.cell? (p1.add 1) = some (.int .i64 x15) ∧ Al (.cells #[(.int .i64 x14), (.int .i64 x15), (.int .i64 0), (.int .i64
    0), (.int .i64 owner), (.int .i64 0), (.int .i64 0), (.bool false), (.bool false)] 45) (fun p16 w17 => ∃ x18 : Option Nat, w17.cell? (a12.add 0) = some (.map x18) ∧ ((.map x18)
    : Value) = (.map x13) ∧ ∃ w19 : World, Sem.run P (Instr.mapUpdate 62 (.map x13) (.int .i64 x4) (.pointer (some p16))) w17 = .ok () w19 ∧ K (.tuple #[(.int .i64 x4), (.int .i64
    0)]) w19) w11) w10) w6) w2) else (∃ x20 : Int, w2.cell? (p1.add 0) = some (.int .i64 x20) ∧ ∃ x21 : Int, w2.cell? (p1.add 1) = some (.int .i64 x21) ∧ Calls P fn_pages_Table_Of
    #[(.pointer t), (.agg #[(.int .i64 x20), (.int .i64 x21)])] w2 fun e23 w22 => ∃ x24 : Int, e23 = .returned (.int .i64 x24) ∧ bif (decide (x24 ≥ 0)) then (K (.tuple #[(.int .i64
    (-1)), (.int .i64 4)]) w22) else (Dr (fun w25 => NN t fun a26 => ∃ x27 : Option Nat, w25.cell? (a26.add 1) = some (.map x27) ∧ ∃ x28 : Int, w25.cell? (p1.add 0) = some (.int
    .i64 x28) ∧ ∃ x29 : Int, w25.cell? (p1.add 1) = some (.int .i64 x29) ∧ ∃ w30 : World, Sem.run P (Instr.mapUpdate 63 (.map x27) (.agg #[(.int .i64 x28), (.int .i64 x29)]) (.int
    .i64 x4)) w25 = .ok () w30 ∧ NN t fun a31 => ∃ x32 : Int, w30.cell? (a31.add 3) = some (.int .i64 x32) ∧ NN t fun a33 => St (a33.add 3) (.int .i64 (IntKind.i64.wrap (x32 + 1)))
    (fun w34 => Dr (fun w35 => NN t fun a36 => ∃ x37 : Option Nat, w35.cell? (a36.add 0) = some (.map x37) ∧ ∃ x38 : Int, w35.cell? (p1.add 0) = some (.int .i64 x38) ∧ ∃ x39 : Int,
    w35.cell? (p1.add 1) = some (.int .i64 x39) ∧ Al (.cells #[(.int .i64 x38), (.int .i64 x39), (.int .i64 0), (.int .i64 0), (.int .i64 owner), (.int .i64 0), (.int .i64 0),
    (.bool false), (.bool false)] 45) (fun p40 w41 => ∃ x42 : Option Nat, w41.cell? (a36.add 0) = some (.map x42) ∧ ((.map x42) : Value) = (.map x37) ∧ ∃ w43 : World, Sem.run P
    (Instr.mapUpdate 62 (.map x37) (.int .i64 x4) (.pointer (some p40))) w41 = .ok () w43 ∧ K (.tuple #[(.int .i64 x4), (.int .i64 0)]) w43) w35) w34) w30) w22))) w
theorem vc_pages_Table_Make (t : Option Addr) (key_0 : Int) (key_1 : Int) (owner : Int) (K : Value → World → Prop) (w : World) : vcFn P tau rho pan ann_pages_Table_Make Go.Proofs.Try.f30 #[(.pointer t), (.agg #[(.int .i64 key_0), (.int .i64 key_1)]), (.int .i64 owner)] K (fun _ _ => False) w = sh_pages_Table_Make t key_0 key_1 owner K w := by kernel_rfl
theorem ok_pages_Table_Make : okFn P ann_pages_Table_Make Go.Proofs.Try.f30 3 = true := by kernel_rfl
theorem of_pages_Table_Make (t : Option Addr) (key_0 : Int) (key_1 : Int) (owner : Int) {K : Value → World → Prop} {w : World} (h : sh_pages_Table_Make t key_0 key_1 owner K w) : Calls P fn_pages_Table_Make #[(.pointer t), (.agg #[(.int .i64 key_0), (.int .i64 key_1)]), (.int .i64 owner)] w (Ret K) := calls_of_vc mixed Go.Proofs.Try.func30 ok_pages_Table_Make (by rw [vc_pages_Table_Make]; exact h)

def ann_pages_Table_Refer : Ann := { quiet := fun d => [17, 20, 23, 31, 32, 39].contains d }
/-- (*millpond/pages.Table).Refer -/
def sh_pages_Table_Refer (t : Option Addr) (id : Int) (n : Int) (K : Value → World → Prop) (w : World) : Prop :=
  NN t fun a1 => ∃ x2 : Option Nat, w.cell? (a1.add 0) = some (.map x2) ∧ ∃ x3 : Option Addr, LookV P 62 (.map x2) (.int .i64 id) false w (.pointer x3) ∧ bif x3.isNone then (K (.tuple
    #[(.int .i64 0), (.int .i64 2)]) w) else (bif (decide (n < (-1000))) then (K (.tuple #[(.int .i64 0), (.int .i64 1)]) w) else (bif (decide (n > 1000)) then (K (.tuple #[(.int
    .i64 0), (.int .i64 1)]) w) else (NN x3 fun a4 => ∃ x5 : Int, w.cell? (a4.add 5) = some (.int .i64 x5) ∧ bif (decide ((IntKind.i64.wrap (x5 + n)) < 0)) then (K (.tuple #[(.int
    .i64 0), (.int .i64 1)]) w) else (NN x3 fun a6 => ∃ x7 : Int, w.cell? (a6.add 5) = some (.int .i64 x7) ∧ NN x3 fun a8 => St (a8.add 5) (.int .i64 (IntKind.i64.wrap (x7 + n)))
    (fun w9 => NN x3 fun a10 => ∃ x11 : Int, w9.cell? (a10.add 5) = some (.int .i64 x11) ∧ K (.tuple #[(.int .i64 x11), (.int .i64 0)]) w9) w))))
theorem vc_pages_Table_Refer (t : Option Addr) (id : Int) (n : Int) (K : Value → World → Prop) (w : World) : vcFn P tau rho pan ann_pages_Table_Refer Go.Proofs.Try.f31 #[(.pointer t), (.int .i64 id), (.int .i64 n)] K (fun _ _ => False) w = sh_pages_Table_Refer t id n K w := by kernel_rfl
theorem ok_pages_Table_Refer : okFn P ann_pages_Table_Refer Go.Proofs.Try.f31 3 = true := by kernel_rfl
theorem of_pages_Table_Refer (t : Option Addr) (id : Int) (n : Int) {K : Value → World → Prop} {w : World} (h : sh_pages_Table_Refer t id n K w) : Calls P fn_pages_Table_Refer #[(.pointer t), (.int .i64 id), (.int .i64 n)] w (Ret K) := calls_of_vc mixed Go.Proofs.Try.func31 ok_pages_Table_Refer (by rw [vc_pages_Table_Refer]; exact h)

def ann_pages_Table_Drop : Ann := { quiet := fun d => [14, 20, 26].contains d, sig := fun r => (bif r == 6 then some ([0, 1, 2, 3, 4, 5, 6, 7, 8], [8]) else none) }
/-- (*millpond/pages.Table).Drop -/
def sh_pages_Table_Drop (t : Option Addr) (id : Int) (K : Value → World → Prop) (w : World) : Prop :=
  NN t fun a1 => ∃ x2 : Option Nat, w.cell? (a1.add 0) = some (.map x2) ∧ ∃ x3 : Option Addr, LookV P 62 (.map x2) (.int .i64 id) false w (.pointer x3) ∧ bif x3.isNone then (K (.int
    .i64 2) w) else (NN x3 fun a4 => ∃ x5 : Int, w.cell? (a4.add 5) = some (.int .i64 x5) ∧ bif (decide (x5 > 0)) then (K (.int .i64 4) w) else (NN x3 fun a6 => ∃ x7 : Int, w.cell?
    (a6.add 2) = some (.int .i64 x7) ∧ bif (x7 != 0) then (K (.int .i64 4) w) else (Dr (fun w8 => NN t fun a9 => ∃ x10 : Option Nat, w8.cell? (a9.add 1) = some (.map x10) ∧ NN x3
    fun a11 => ∃ x12 : Int, w8.cell? ((a11.add 0).add 0) = some (.int .i64 x12) ∧ ∃ x13 : Int, w8.cell? ((a11.add 0).add 1) = some (.int .i64 x13) ∧ ∃ w14 : World, Sem.run P
    (Builtin.delete_ #[63, 24] 0 #[(.map x10), (.agg #[(.int .i64 x12), (.int .i64 x13)])]) w8 = .ok (.tuple #[]) w14 ∧ NN t fun a15 => ∃ x16 : Option Nat, w14.cell? (a15.add 0) =
    some (.map x16) ∧ ∃ w17 : World, Sem.run P (Builtin.delete_ #[62, 3] 0 #[(.map x16), (.int .i64 id)]) w14 = .ok (.tuple #[]) w17 ∧ K (.int .i64 0) w17) w)))
theorem vc_pages_Table_Drop (t : Option Addr) (id : Int) (K : Value → World → Prop) (w : World) : vcFn P tau rho pan ann_pages_Table_Drop Go.Proofs.Try.f32 #[(.pointer t), (.int .i64 id)] K (fun _ _ => False) w = sh_pages_Table_Drop t id K w := by kernel_rfl
theorem ok_pages_Table_Drop : okFn P ann_pages_Table_Drop Go.Proofs.Try.f32 2 = true := by kernel_rfl
theorem of_pages_Table_Drop (t : Option Addr) (id : Int) {K : Value → World → Prop} {w : World} (h : sh_pages_Table_Drop t id K w) : Calls P fn_pages_Table_Drop #[(.pointer t), (.int .i64 id)] w (Ret K) := calls_of_vc mixed Go.Proofs.Try.func32 ok_pages_Table_Drop (by rw [vc_pages_Table_Drop]; exact h)

def ann_pages_Table_Own : Ann := {}
/-- (*millpond/pages.Table).Own -/
def sh_pages_Table_Own (t : Option Addr) (id : Int) (owner : Int) (K : Value → World → Prop) (w : World) : Prop :=
  Al (.cells #[(.int .i64 owner)] 3) (fun p1 w2 => Calls P fn_pages_Table_change #[(.pointer t), (.int .i64 id), (.func (.func fn_pages_Table_Own_1) #[] #[(.pointer (some p1))])] w2
    fun e4 w3 => ∃ x5 : Int, e4 = .returned (.int .i64 x5) ∧ K (.int .i64 x5) w3) w
theorem vc_pages_Table_Own (t : Option Addr) (id : Int) (owner : Int) (K : Value → World → Prop) (w : World) : vcFn P tau rho pan ann_pages_Table_Own Go.Proofs.Try.f33 #[(.pointer t), (.int .i64 id), (.int .i64 owner)] K (fun _ _ => False) w = sh_pages_Table_Own t id owner K w := by kernel_rfl
theorem ok_pages_Table_Own : okFn P ann_pages_Table_Own Go.Proofs.Try.f33 3 = true := by kernel_rfl
theorem of_pages_Table_Own (t : Option Addr) (id : Int) (owner : Int) {K : Value → World → Prop} {w : World} (h : sh_pages_Table_Own t id owner K w) : Calls P fn_pages_Table_Own #[(.pointer t), (.int .i64 id), (.int .i64 owner)] w (Ret K) := calls_of_vc mixed Go.Proofs.Try.func33 ok_pages_Table_Own (by rw [vc_pages_Table_Own]; exact h)

def ann_pages_Table_Mark : Ann := {}
/-- (*millpond/pages.Table).Mark -/
def sh_pages_Table_Mark (t : Option Addr) (id : Int) (dirty : Bool) (K : Value → World → Prop) (w : World) : Prop :=
  Al (.cells #[(.bool dirty)] 4) (fun p1 w2 => Calls P fn_pages_Table_change #[(.pointer t), (.int .i64 id), (.func (.func fn_pages_Table_Mark_1) #[] #[(.pointer (some p1))])] w2 fun
    e4 w3 => ∃ x5 : Int, e4 = .returned (.int .i64 x5) ∧ K (.int .i64 x5) w3) w
theorem vc_pages_Table_Mark (t : Option Addr) (id : Int) (dirty : Bool) (K : Value → World → Prop) (w : World) : vcFn P tau rho pan ann_pages_Table_Mark Go.Proofs.Try.f34 #[(.pointer t), (.int .i64 id), (.bool dirty)] K (fun _ _ => False) w = sh_pages_Table_Mark t id dirty K w := by kernel_rfl
theorem ok_pages_Table_Mark : okFn P ann_pages_Table_Mark Go.Proofs.Try.f34 3 = true := by kernel_rfl
theorem of_pages_Table_Mark (t : Option Addr) (id : Int) (dirty : Bool) {K : Value → World → Prop} {w : World} (h : sh_pages_Table_Mark t id dirty K w) : Calls P fn_pages_Table_Mark #[(.pointer t), (.int .i64 id), (.bool dirty)] w (Ret K) := calls_of_vc mixed Go.Proofs.Try.func34 ok_pages_Table_Mark (by rw [vc_pages_Table_Mark]; exact h)

def ann_millpondref14_Table_Has : Ann := { quiet := fun d => [6, 13, 14].contains d }
/-- (*millpond/millpondref14.Table).Has -/
def sh_millpondref14_Table_Has (t : Option Addr) (id : Int) (K : Value → World → Prop) (w : World) : Prop :=
  bif (decide (id ≥ 0)) then (NN t fun a1 => ∃ x2 : Sl, w.cell? (a1.add 0) = some (.slice x2.p x2.n x2.c) ∧ bif (decide (id < ((x2.n : Nat) : Int))) then (NN t fun a3 => ∃ x4 : Sl,
    w.cell? (a3.add 0) = some (.slice x4.p x4.n x4.c) ∧ elAt x4.p x4.n id 10 fun a5 => ∃ x6 : Bool, w.cell? (a5.add 9) = some (.bool x6) ∧ K (.bool (!x6)) w) else (K (.bool false)
    w)) else (K (.bool false) w)
theorem vc_millpondref14_Table_Has (t : Option Addr) (id : Int) (K : Value → World → Prop) (w : World) : vcFn P tau rho pan ann_millpondref14_Table_Has Go.Proofs.Try.f35 #[(.pointer t), (.int .i64 id)] K (fun _ _ => False) w = sh_millpondref14_Table_Has t id K w := by kernel_rfl
theorem ok_millpondref14_Table_Has : okFn P ann_millpondref14_Table_Has Go.Proofs.Try.f35 2 = true := by kernel_rfl
theorem of_millpondref14_Table_Has (t : Option Addr) (id : Int) {K : Value → World → Prop} {w : World} (h : sh_millpondref14_Table_Has t id K w) : Calls P fn_millpondref14_Table_Has #[(.pointer t), (.int .i64 id)] w (Ret K) := calls_of_vc mixed Go.Proofs.Try.func35 ok_millpondref14_Table_Has (by rw [vc_millpondref14_Table_Has]; exact h)

def ann_slices_DeleteFunc_int_int : Ann := { quiet := fun d => [12, 15, 18, 19, 21, 35].contains d, dyn := fun d => [28].contains d, loop := fun r => (bif r == 5 then [(5, .int .i64), (6, .int .i64)] else []) }
/-- slices.DeleteFunc[[]int,int] -/
def sh_slices_DeleteFunc_int_int (s : Sl) (del : Value) (K : Value → World → Prop) (w : World) : Prop :=
  Calls P fn_slices_IndexFunc_int_int #[(.slice s.p s.n s.c), del] w fun e2 w1 => ∃ x3 : Int, e2 = .returned (.int .i64 x3) ∧ bif (x3 == (-1)) then (K (.slice s.p s.n s.c) w1) else (∃
    (I4 : Int → Int → World → Prop) (M5 : Int → Int → World → Nat), I4 x3 (IntKind.i64.wrap (x3 + 1)) w1 ∧ ∀ _u7 : Nat → Value, ∀ i8 : Int, ∀ j9 : Int, ∀ w6 : World, I4 i8 j9 w6 →
    bif (decide (j9 < ((s.n : Nat) : Int))) then (elAt s.p s.n j9 1 fun a10 => ∃ x11 : Int, w6.cell? a10 = some (.int .i64 x11) ∧ callD P del #[(.int .i64 x11)] w6 fun e13 w12 => ∃
    x14 : Bool, e13 = .returned (.bool x14) ∧ bif (!x14) then (elAt s.p s.n i8 1 fun a15 => St a15 (.int .i64 x11) (fun w16 => (I4 (IntKind.i64.wrap (i8 + 1)) (IntKind.i64.wrap (j9
    + 1)) w16 ∧ M5 (IntKind.i64.wrap (i8 + 1)) (IntKind.i64.wrap (j9 + 1)) w16 < M5 i8 j9 w6)) w12) else ((I4 i8 (IntKind.i64.wrap (j9 + 1)) w12 ∧ M5 i8 (IntKind.i64.wrap (j9 + 1))
    w12 < M5 i8 j9 w6))) else ((0 ≤ i8 ∧ i8 ≤ ((s.n : Nat) : Int)) ∧ ∃ w17 : World, Sem.run P (Builtin.clear_ #[51] 0 #[(.slice (slA s.p i8.toNat s.c 1) (s.n - i8.toNat) (s.c -
    i8.toNat))]) w6 = .ok (.tuple #[]) w17 ∧ (0 ≤ i8 ∧ i8 ≤ ((s.c : Nat) : Int)) ∧ K (.slice (slA s.p 0 s.c 1) (i8.toNat - 0) (s.c - 0)) w17))
theorem vc_slices_DeleteFunc_int_int (s : Sl) (del : Value) (K : Value → World → Prop) (w : World) : vcFn P tau rho pan ann_slices_DeleteFunc_int_int Go.Proofs.Try.f38 #[(.slice s.p s.n s.c), del] K (fun _ _ => False) w = sh_slices_DeleteFunc_int_int s del K w := by kernel_rfl
theorem ok_slices_DeleteFunc_int_int : okFn P ann_slices_DeleteFunc_int_int Go.Proofs.Try.f38 2 = true := by kernel_rfl
theorem of_slices_DeleteFunc_int_int (s : Sl) (del : Value) {K : Value → World → Prop} {w : World} (h : sh_slices_DeleteFunc_int_int s del K w) : Calls P fn_slices_DeleteFunc_int_int #[(.slice s.p s.n s.c), del] w (Ret K) := calls_of_vc mixed Go.Proofs.Try.func38 ok_slices_DeleteFunc_int_int (by rw [vc_slices_DeleteFunc_int_int]; exact h)

def ann_pages_Table_Those_1 : Ann := { quiet := fun d => [15].contains d, head := fun r => (bif r == 1 then 12 else 0) }
/-- (*millpond/pages.Table).Those$1 -/
def sh_pages_Table_Those_1 (id : Int) (c_f : Addr) (c_fq : Addr) (K : Value → World → Prop) (w : World) : Prop :=
  Dr (fun w1 => ∃ x2 : Option Addr, w1.cell? c_f = some (.pointer x2) ∧ NN x2 fun a3 => ∃ x4 : Option Nat, w1.cell? (a3.add 0) = some (.map x4) ∧ ∃ x5 : Option Addr, LookV P 62 (.map
    x4) (.int .i64 id) false w1 (.pointer x5) ∧ NN x5 fun a6 => ∃ x7 : Int, w1.cell? (a6.add 4) = some (.int .i64 x7) ∧ ∃ x8 : Int, w1.cell? c_fq = some (.int .i64 x8) ∧ K (.bool
    (x7 != x8)) w1) w
theorem vc_pages_Table_Those_1 (id : Int) (c_f : Addr) (c_fq : Addr) (K : Value → World → Prop) (w : World) : vcFn P tau rho pan ann_pages_Table_Those_1 Go.Proofs.Try.f39 #[(.int .i64 id), (.pointer (some c_f)), (.pointer (some c_fq))] K (fun _ _ => False) w = sh_pages_Table_Those_1 id c_f c_fq K w := by kernel_rfl
theorem ok_pages_Table_Those_1 : okFn P ann_pages_Table_Those_1 Go.Proofs.Try.f39 3 = true := by kernel_rfl
theorem of_pages_Table_Those_1 (id : Int) (c_f : Addr) (c_fq : Addr) {K : Value → World → Prop} {w : World} (h : sh_pages_Table_Those_1 id c_f c_fq K w) : Calls P fn_pages_Table_Those_1 #[(.int .i64 id), (.pointer (some c_f)), (.pointer (some c_fq))] w (Ret K) := calls_of_vc mixed Go.Proofs.Try.func39 ok_pages_Table_Those_1 (by rw [vc_pages_Table_Those_1]; exact h)

def ann_pages_Table_change : Ann := { quiet := fun d => [15].contains d, dyn := fun d => [18].contains d }
/-- (*millpond/pages.Table).change -/
def sh_pages_Table_change (t : Option Addr) (id : Int) (doA : Value) (K : Value → World → Prop) (w : World) : Prop :=
  NN t fun a1 => ∃ x2 : Option Nat, w.cell? (a1.add 0) = some (.map x2) ∧ ∃ x3 : Option Addr, LookV P 62 (.map x2) (.int .i64 id) false w (.pointer x3) ∧ bif x3.isNone then (K (.int
    .i64 2) w) else (callD P doA #[(.pointer x3)] w fun e5 w4 => e5 = .returned (.tuple #[]) ∧ K (.int .i64 0) w4)
theorem vc_pages_Table_change (t : Option Addr) (id : Int) (doA : Value) (K : Value → World → Prop) (w : World) : vcFn P tau rho pan ann_pages_Table_change Go.Proofs.Try.f40 #[(.pointer t), (.int .i64 id), doA] K (fun _ _ => False) w = sh_pages_Table_change t id doA K w := by kernel_rfl
theorem ok_pages_Table_change : okFn P ann_pages_Table_change Go.Proofs.Try.f40 3 = true := by kernel_rfl
theorem of_pages_Table_change (t : Option Addr) (id : Int) (doA : Value) {K : Value → World → Prop} {w : World} (h : sh_pages_Table_change t id doA K w) : Calls P fn_pages_Table_change #[(.pointer t), (.int .i64 id), doA] w (Ret K) := calls_of_vc mixed Go.Proofs.Try.func40 ok_pages_Table_change (by rw [vc_pages_Table_change]; exact h)

def ann_pages_Table_Own_1 : Ann := {}
/-- (*millpond/pages.Table).Own$1 -/
def sh_pages_Table_Own_1 (p : Option Addr) (c_f : Addr) (K : Value → World → Prop) (w : World) : Prop :=
  ∃ x1 : Int, w.cell? c_f = some (.int .i64 x1) ∧ NN p fun a2 => St (a2.add 4) (.int .i64 x1) (fun w3 => K (.tuple #[]) w3) w
theorem vc_pages_Table_Own_1 (p : Option Addr) (c_f : Addr) (K : Value → World → Prop) (w : World) : vcFn P tau rho pan ann_pages_Table_Own_1 Go.Proofs.Try.f41 #[(.pointer p), (.pointer (some c_f))] K (fun _ _ => False) w = sh_pages_Table_Own_1 p c_f K w := by kernel_rfl
theorem ok_pages_Table_Own_1 : okFn P ann_pages_Table_Own_1 Go.Proofs.Try.f41 2 = true := by kernel_rfl
theorem of_pages_Table_Own_1 (p : Option Addr) (c_f : Addr) {K : Value → World → Prop} {w : World} (h : sh_pages_Table_Own_1 p c_f K w) : Calls P fn_pages_Table_Own_1 #[(.pointer p), (.pointer (some c_f))] w (Ret K) := calls_of_vc mixed Go.Proofs.Try.func41 ok_pages_Table_Own_1 (by rw [vc_pages_Table_Own_1]; exact h)

def ann_pages_Table_Mark_1 : Ann := {}
/-- (*millpond/pages.Table).Mark$1 -/
def sh_pages_Table_Mark_1 (p : Option Addr) (c_f : Addr) (K : Value → World → Prop) (w : World) : Prop :=
  ∃ x1 : Bool, w.cell? c_f = some (.bool x1) ∧ NN p fun a2 => St (a2.add 8) (.bool x1) (fun w3 => K (.tuple #[]) w3) w
theorem vc_pages_Table_Mark_1 (p : Option Addr) (c_f : Addr) (K : Value → World → Prop) (w : World) : vcFn P tau rho pan ann_pages_Table_Mark_1 Go.Proofs.Try.f42 #[(.pointer p), (.pointer (some c_f))] K (fun _ _ => False) w = sh_pages_Table_Mark_1 p c_f K w := by kernel_rfl
theorem ok_pages_Table_Mark_1 : okFn P ann_pages_Table_Mark_1 Go.Proofs.Try.f42 2 = true := by kernel_rfl
theorem of_pages_Table_Mark_1 (p : Option Addr) (c_f : Addr) {K : Value → World → Prop} {w : World} (h : sh_pages_Table_Mark_1 p c_f K w) : Calls P fn_pages_Table_Mark_1 #[(.pointer p), (.pointer (some c_f))] w (Ret K) := calls_of_vc mixed Go.Proofs.Try.func42 ok_pages_Table_Mark_1 (by rw [vc_pages_Table_Mark_1]; exact h)

def ann_slices_IndexFunc_int_int : Ann := { quiet := fun d => [7, 9, 18].contains d, dyn := fun d => [16].contains d, loop := fun r => (bif r == 2 then [(8, .int .i64)] else []) }
/-- slices.IndexFunc[[]int,int] -/
def sh_slices_IndexFunc_int_int (s : Sl) (f : Value) (K : Value → World → Prop) (w : World) : Prop :=
  ∃ (I1 : Int → World → Prop) (M2 : Int → World → Nat), I1 0 w ∧ ∀ _u4 : Nat → Value, ∀ x5 : Int, ∀ w3 : World, I1 x5 w3 → bif (decide (x5 < ((s.n : Nat) : Int))) then (elAt s.p s.n
    x5 1 fun a6 => ∃ x7 : Int, w3.cell? a6 = some (.int .i64 x7) ∧ callD P f #[(.int .i64 x7)] w3 fun e9 w8 => ∃ x10 : Bool, e9 = .returned (.bool x10) ∧ bif x10 then (K (.int .i64
    x5) w8) else ((I1 (IntKind.i64.wrap (x5 + 1)) w8 ∧ M2 (IntKind.i64.wrap (x5 + 1)) w8 < M2 x5 w3))) else (K (.int .i64 (-1)) w3)
theorem vc_slices_IndexFunc_int_int (s : Sl) (f : Value) (K : Value → World → Prop) (w : World) : vcFn P tau rho pan ann_slices_IndexFunc_int_int Go.Proofs.Try.f46 #[(.slice s.p s.n s.c), f] K (fun _ _ => False) w = sh_slices_IndexFunc_int_int s f K w := by kernel_rfl
theorem ok_slices_IndexFunc_int_int : okFn P ann_slices_IndexFunc_int_int Go.Proofs.Try.f46 2 = true := by kernel_rfl
theorem of_slices_IndexFunc_int_int (s : Sl) (f : Value) {K : Value → World → Prop} {w : World} (h : sh_slices_IndexFunc_int_int s f K w) : Calls P fn_slices_IndexFunc_int_int #[(.slice s.p s.n s.c), f] w (Ret K) := calls_of_vc mixed Go.Proofs.Try.func46 ok_slices_IndexFunc_int_int (by rw [vc_slices_IndexFunc_int_int]; exact h)

end Go.Mp
