/- What is asked of each function. Printed by vcprint.py. -/
import Derived.Test.YtkheedbjhboclaaGnN
set_option maxRecDepth 100000
namespace Go.Mp
open Go Go.Vc

def ann_millpondlaw12_GensOld : Ann := { quiet := fun d => [20, 21, 24, 26, 27, 33, 34, 36, 39, 41, 52, 68, 74, 78, 79, 86, 87, 91, 93, 105, 111, 112, 114, 118, 128, 132, 134, 140].contains d, sig := fun r => (bif r == 16 then some ([0, 1, 2, 3, 4, 5, 6, 7, 8, 9, 10], [9]) else bif r == 31 then some ([0, 1, 2, 3, 4, 5, 7, 8, 9, 10, 11, 6, 12, 13], [6, 12]) else none), head := fun r => (bif r == 15 then 13 else 0), loop := fun r => (bif r == 9 then [(7, .int .i64), (8, .int .i64)] else bif r == 13 then [(9, .bool), (10, .int .i64)] else bif r == 29 then [(15, .int .i64)] else []), join := fun r => (bif r == 6 then some [] else bif r == 18 then some [(12, .bool)] else bif r == 20 then some [] else bif r == 25 then some [(13, .int .i64)] else none) }
/-- millpond/millpondlaw12.GensOld -/
def sh_millpondlaw12_GensOld (ids : Sl) (olds : Sl) (K : Value → World → Prop) (w : World) : Prop :=
  Calls P fn_millpondlaw12_works #[] w fun e2 w1 => ∃ x3 : Bool, e2 = .returned (.bool x3) ∧ bif (!x3) then (K (.bool false) w1) else (∃ J4 : World → Prop, (bif (decide (((ids.n :
    Nat) : Int) > 40)) then (K (.bool x3) w1) else (bif (decide (((olds.n : Nat) : Int) < ((ids.n : Nat) : Int))) then (K (.bool x3) w1) else (J4 w1))) ∧ (∀ _u6 : Nat → Value, ∀ w5
    : World, J4 w5 → Calls P fn_gens_New #[] w5 fun e8 w7 => ∃ x9 : Option Addr, e8 = .returned (.pointer x9) ∧ ∃ (I10 : Int → Int → World → Prop) (M11 : Int → Int → World → Nat),
    I10 0 0 w7 ∧ ∀ _u13 : Nat → Value, ∀ n14 : Int, ∀ i15 : Int, ∀ w12 : World, I10 n14 i15 w12 → bif (decide (i15 < ((ids.n : Nat) : Int))) then (∃ (I16 : Bool → Int → World →
    Prop) (M17 : Bool → Int → World → Nat), I16 false 0 w12 ∧ ∀ _u19 : Nat → Value, ∀ again20 : Bool, ∀ k21 : Int, ∀ w18 : World, I16 again20 k21 w18 → bif (decide (k21 < i15)) then
    (Dr (fun w22 => bif again20 then ((I16 true (IntKind.i64.wrap (k21 + 1)) w22 ∧ M17 true (IntKind.i64.wrap (k21 + 1)) w22 < M17 again20 k21 w18)) else (elAt ids.p ids.n k21 1 fun
    a23 => ∃ x24 : Int, w22.cell? a23 = some (.int .i64 x24) ∧ elAt ids.p ids.n i15 1 fun a25 => ∃ x26 : Int, w22.cell? a25 = some (.int .i64 x26) ∧ (I16 (x24 == x26)
    (IntKind.i64.wrap (k21 + 1)) w22 ∧ M17 (x24 == x26) (IntKind.i64.wrap (k21 + 1)) w22 < M17 again20 k21 w18))) w18) else (Dr (fun w27 => elAt ids.p ids.n i15 1 fun a28 => ∃ x29 :
    Int, w27.cell? a28 = some (.int .i64 x29) ∧ elAt olds.p olds.n i15 1 fun a30 => ∃ x31 : Bool, w27.cell? a30 = some (.bool x31) ∧ Calls P fn_gens_Lists_Add #[(.pointer x9), (.int
    .i64 x29), (.int .i64 1), (.bool x31)] w27 fun e33 w32 => ∃ x34 : Int, e33 = .returned (.int .i64 x34) ∧ ∃ J35 : Bool → World → Prop, (elAt ids.p ids.n i15 1 fun a39 => ∃ x40 :
    Int, w32.cell? a39 = some (.int .i64 x40) ∧ bif (decide (x40 < 0)) then (J35 true w32) else (elAt ids.p ids.n i15 1 fun a41 => ∃ x42 : Int, w32.cell? a41 = some (.int .i64 x42)
    ∧ J35 (decide (x42 > 16777216)) w32)) ∧ (∀ _u37 : Nat → Value, ∀ bad38 : Bool, ∀ w36 : World, J35 bad38 w36 → ∃ J43 : World → Prop, (bif (!(bad38 == (x34 == 1))) then (K (.bool
    false) w36) else (bif (!bad38) then (bif (!(again20 == (x34 == 4))) then (K (.bool false) w36) else (J43 w36)) else (J43 w36))) ∧ (∀ _u45 : Nat → Value, ∀ w44 : World, J43 w44 →
    bif (x34 == 0) then (∃ J46 : Int → World → Prop, (elAt olds.p olds.n i15 1 fun a50 => ∃ x51 : Bool, w44.cell? a50 = some (.bool x51) ∧ bif x51 then (J46 1 w44) else (J46 0 w44))
    ∧ (∀ _u48 : Nat → Value, ∀ want49 : Int, ∀ w47 : World, J46 want49 w47 → elAt ids.p ids.n i15 1 fun a52 => ∃ x53 : Int, w47.cell? a52 = some (.int .i64 x53) ∧ Calls P
    fn_gens_Lists_Oldness #[(.pointer x9), (.int .i64 x53)] w47 fun e55 w54 => ∃ x56 : Int, e55 = .returned (.int .i64 x56) ∧ bif (x56 != want49) then (K (.bool false) w54) else
    ((I10 (IntKind.i64.wrap (n14 + 1)) (IntKind.i64.wrap (i15 + 1)) w54 ∧ M11 (IntKind.i64.wrap (n14 + 1)) (IntKind.i64.wrap (i15 + 1)) w54 < M11 n14 i15 w12)))) else ((I10 n14
    (IntKind.i64.wrap (i15 + 1)) w44 ∧ M11 n14 (IntKind.i64.wrap (i15 + 1)) w44 < M11 n14 i15 w12))))) w18)) else (Al (.cells #[(.int .i64 1)] 3) (fun p57 w58 => Calls P
    fn_gens_Lists_Order #[(.pointer x9), (.slice (some p57) 1 1)] w58 fun e60 w59 => ∃ x61 : Sl, e60 = .returned (.slice x61.p x61.n x61.c) ∧ ∃ (I62 : Int → World → Prop) (M63 : Int
    → World → Nat), I62 1 w59 ∧ ∀ _u65 : Nat → Value, ∀ i66 : Int, ∀ w64 : World, I62 i66 w64 → bif (decide (i66 < ((x61.n : Nat) : Int))) then (Dr (fun w67 => elAt x61.p x61.n
    (IntKind.i64.wrap (i66 - 1)) 1 fun a68 => ∃ x69 : Int, w67.cell? a68 = some (.int .i64 x69) ∧ elAt x61.p x61.n i66 1 fun a70 => ∃ x71 : Int, w67.cell? a70 = some (.int .i64 x71)
    ∧ Calls P fn_gens_Lists_Oldness #[(.pointer x9), (.int .i64 x69)] w67 fun e73 w72 => ∃ x74 : Int, e73 = .returned (.int .i64 x74) ∧ ∃ x75 : Int, w72.cell? a70 = some (.int .i64
    x75) ∧ ((.int .i64 x75) : Value) = (.int .i64 x71) ∧ Calls P fn_gens_Lists_Oldness #[(.pointer x9), (.int .i64 x71)] w72 fun e77 w76 => ∃ x78 : Int, e77 = .returned (.int .i64
    x78) ∧ bif (decide (x74 < x78)) then (K (.bool false) w76) else ((I62 (IntKind.i64.wrap (i66 + 1)) w76 ∧ M63 (IntKind.i64.wrap (i66 + 1)) w76 < M63 i66 w64))) w64) else (bif x3
    then (bif (((x61.n : Nat) : Int) == n14) then (Calls P fn_gens_Lists_Count #[(.pointer x9), (.int .i64 1)] w64 fun e80 w79 => ∃ x81 : Int, e80 = .returned (.int .i64 x81) ∧ K
    (.bool (x81 == n14)) w79) else (K (.bool false) w64)) else (K (.bool false) w64))) w12)))
theorem vc_millpondlaw12_GensOld (ids : Sl) (olds : Sl) (K : Value → World → Prop) (w : World) : vcFn P tau rho pan ann_millpondlaw12_GensOld Go.Proofs.Try.f3 #[(.slice ids.p ids.n ids.c), (.slice olds.p olds.n olds.c)] K (fun _ _ => False) w = sh_millpondlaw12_GensOld ids olds K w := by kernel_rfl
theorem ok_millpondlaw12_GensOld : okFn P ann_millpondlaw12_GensOld Go.Proofs.Try.f3 2 = true := by kernel_rfl
theorem of_millpondlaw12_GensOld (ids : Sl) (olds : Sl) {K : Value → World → Prop} {w : World} (h : sh_millpondlaw12_GensOld ids olds K w) : Calls P fn_millpondlaw12_GensOld #[(.slice ids.p ids.n ids.c), (.slice olds.p olds.n olds.c)] w (Ret K) := calls_of_vc mixed Go.Proofs.Try.func3 ok_millpondlaw12_GensOld (by rw [vc_millpondlaw12_GensOld]; exact h)

def ann_millpondlaw12_GensDoes : Ann := { quiet := fun d => [18, 19, 22, 23, 31, 32, 34, 47, 56, 57, 59, 72, 88, 95].contains d, sig := fun r => (bif r == 11 then some ([0, 1, 2, 3, 4, 6, 7, 8, 9, 10, 5, 11, 12], [5, 11]) else bif r == 17 then some ([0, 1, 2, 3, 4, 6, 7, 8, 9, 10, 5, 11, 12], [5, 11]) else none), loop := fun r => (bif r == 9 then [(10, .int .i64)] else bif r == 15 then [(13, .int .i64)] else []), join := fun r => (bif r == 6 then some [] else none) }
/-- millpond/millpondlaw12.GensDoes -/
def sh_millpondlaw12_GensDoes (l : Sl) (id : Int) (groups : Sl) (K : Value → World → Prop) (w : World) : Prop :=
  Calls P fn_millpondlaw12_works #[] w fun e2 w1 => ∃ x3 : Bool, e2 = .returned (.bool x3) ∧ bif (!x3) then (K (.bool false) w1) else (∃ J4 : World → Prop, (bif (decide (((l.n : Nat)
    : Int) > 80)) then (K (.bool x3) w1) else (bif (decide (((groups.n : Nat) : Int) > 80)) then (K (.bool x3) w1) else (J4 w1))) ∧ (∀ _u6 : Nat → Value, ∀ w5 : World, J4 w5 → Calls
    P fn_gens_New #[] w5 fun e8 w7 => ∃ x9 : Option Addr, e8 = .returned (.pointer x9) ∧ Al (.cells #[(.slice none 0 0)] 36) (fun p10 w11 => ∃ (I12 : Int → World → Prop) (M13 : Int
    → World → Nat), I12 0 w11 ∧ ∀ _u15 : Nat → Value, ∀ i16 : Int, ∀ w14 : World, I12 i16 w14 → bif (decide (i16 < ((l.n : Nat) : Int))) then (Dr (fun w17 => elAt l.p l.n i16 4 fun
    a18 => ∃ x19 : Int, w17.cell? (a18.add 0) = some (.int .i64 x19) ∧ ∃ x20 : Int, w17.cell? (a18.add 1) = some (.int .i64 x20) ∧ ∃ x21 : Int, w17.cell? (a18.add 2) = some (.int
    .i64 x21) ∧ ∃ x22 : Bool, w17.cell? (a18.add 3) = some (.bool x22) ∧ elAt l.p l.n i16 4 fun a23 => ∃ x24 : Int, w17.cell? (a23.add 0) = some (.int .i64 x24) ∧ ∃ x25 : Int,
    w17.cell? (a23.add 1) = some (.int .i64 x25) ∧ ∃ x26 : Int, w17.cell? (a23.add 2) = some (.int .i64 x26) ∧ ∃ x27 : Bool, w17.cell? (a23.add 3) = some (.bool x27) ∧ Calls P
    fn_millpondlaw12_do #[(.pointer x9), (.agg #[(.int .i64 x19), (.int .i64 x20), (.int .i64 x21), (.bool x22)])] w17 fun e29 w28 => ∃ x30 : Int, e29 = .returned (.int .i64 x30) ∧
    ∃ x31 : Int, w28.cell? (a23.add 0) = some (.int .i64 x31) ∧ ∃ x32 : Int, w28.cell? (a23.add 1) = some (.int .i64 x32) ∧ ∃ x33 : Int, w28.cell? (a23.add 2) = some (.int .i64 x33)
    ∧ ∃ x34 : Bool, w28.cell? (a23.add 3) = some (.bool x34) ∧ ((.agg #[(.int .i64 x31), (.int .i64 x32), (.int .i64 x33), (.bool x34)]) : Value) = (.agg #[(.int .i64 x24), (.int
    .i64 x25), (.int .i64 x26), (.bool x27)]) ∧ Calls P fn_millpondlaw12_same #[(.pointer (some p10)), (.agg #[(.int .i64 x24), (.int .i64 x25), (.int .i64 x26), (.bool x27)])] w28
    fun e36 w35 => ∃ x37 : Int, e36 = .returned (.int .i64 x37) ∧ bif (x30 != x37) then (K (.bool false) w35) else ((I12 (IntKind.i64.wrap (i16 + 1)) w35 ∧ M13 (IntKind.i64.wrap
    (i16 + 1)) w35 < M13 i16 w14))) w14) else (Calls P fn_millpondref12_Lists_Get #[(.pointer (some p10)), (.int .i64 id)] w14 fun e39 w38 => ∃ x40 : Int, ∃ x41 : Int, e39 =
    .returned (.tuple #[(.int .i64 x40), (.int .i64 x41)]) ∧ ∃ (I42 : Int → World → Prop) (M43 : Int → World → Nat), I42 0 w38 ∧ ∀ _u45 : Nat → Value, ∀ i46 : Int, ∀ w44 : World,
    I42 i46 w44 → bif (decide (i46 < ((groups.n : Nat) : Int))) then (Dr (fun w47 => elAt groups.p groups.n i46 1 fun a48 => ∃ x49 : Int, w47.cell? a48 = some (.int .i64 x49) ∧ elAt
    groups.p groups.n i46 1 fun a50 => ∃ x51 : Int, w47.cell? a50 = some (.int .i64 x51) ∧ Calls P fn_gens_Lists_Count #[(.pointer x9), (.int .i64 x49)] w47 fun e53 w52 => ∃ x54 :
    Int, e53 = .returned (.int .i64 x54) ∧ ∃ x55 : Int, w52.cell? a50 = some (.int .i64 x55) ∧ ((.int .i64 x55) : Value) = (.int .i64 x51) ∧ Calls P fn_millpondref12_Lists_Count
    #[(.pointer (some p10)), (.int .i64 x51)] w52 fun e57 w56 => ∃ x58 : Int, e57 = .returned (.int .i64 x58) ∧ bif (x54 != x58) then (K (.bool false) w56) else ((I42
    (IntKind.i64.wrap (i46 + 1)) w56 ∧ M43 (IntKind.i64.wrap (i46 + 1)) w56 < M43 i46 w44))) w44) else (bif x3 then (Calls P fn_gens_Lists_Order #[(.pointer x9), (.slice groups.p
    groups.n groups.c)] w44 fun e60 w59 => ∃ x61 : Sl, e60 = .returned (.slice x61.p x61.n x61.c) ∧ Calls P fn_millpondref12_Lists_Order #[(.pointer (some p10)), (.slice groups.p
    groups.n groups.c)] w59 fun e63 w62 => ∃ x64 : Sl, e63 = .returned (.slice x64.p x64.n x64.c) ∧ Calls P fn_millpondlaw12_row #[(.slice x61.p x61.n x61.c), (.slice x64.p x64.n
    x64.c)] w62 fun e66 w65 => ∃ x67 : Bool, e66 = .returned (.bool x67) ∧ bif x67 then (Calls P fn_gens_Lists_Group #[(.pointer x9), (.int .i64 id)] w65 fun e69 w68 => ∃ x70 : Int,
    e69 = .returned (.int .i64 x70) ∧ bif (x70 == x40) then (Calls P fn_gens_Lists_Oldness #[(.pointer x9), (.int .i64 id)] w68 fun e72 w71 => ∃ x73 : Int, e72 = .returned (.int
    .i64 x73) ∧ K (.bool (x73 == x41)) w71) else (K (.bool false) w68)) else (K (.bool false) w65)) else (K (.bool false) w44)))) w7))
theorem vc_millpondlaw12_GensDoes (l : Sl) (id : Int) (groups : Sl) (K : Value → World → Prop) (w : World) : vcFn P tau rho pan ann_millpondlaw12_GensDoes Go.Proofs.Try.f4 #[(.slice l.p l.n l.c), (.int .i64 id), (.slice groups.p groups.n groups.c)] K (fun _ _ => False) w = sh_millpondlaw12_GensDoes l id groups K w := by kernel_rfl
theorem ok_millpondlaw12_GensDoes : okFn P ann_millpondlaw12_GensDoes Go.Proofs.Try.f4 3 = true := by kernel_rfl
theorem of_millpondlaw12_GensDoes (l : Sl) (id : Int) (groups : Sl) {K : Value → World → Prop} {w : World} (h : sh_millpondlaw12_GensDoes l id groups K w) : Calls P fn_millpondlaw12_GensDoes #[(.slice l.p l.n l.c), (.int .i64 id), (.slice groups.p groups.n groups.c)] w (Ret K) := calls_of_vc mixed Go.Proofs.Try.func4 ok_millpondlaw12_GensDoes (by rw [vc_millpondlaw12_GensDoes]; exact h)

def ann_millpondlaw12_GensOrder : Ann := { quiet := fun d => [23, 24, 27, 28, 34, 35, 37, 52, 53, 55, 58, 60, 71, 81, 84, 85, 87, 90, 91, 93, 106, 118, 122, 130, 133, 137, 142, 147, 152, 157, 161, 168, 175, 177].contains d, sig := fun r => (bif r == 31 then some ([0, 1, 2, 3, 4, 5, 6, 7, 8, 9, 10, 11, 12, 13, 14], [11]) else bif r == 35 then some ([0, 1, 2, 3, 4, 5, 6, 7, 8, 10, 9, 11, 12, 13, 14, 15, 16, 17, 18, 20, 19, 21, 22, 23, 24, 25, 26, 27, 28, 29, 30, 31, 32, 33, 34, 35], [9, 19]) else none), head := fun r => (bif r == 21 then 13 else 0), loop := fun r => (bif r == 8 then [(9, .int .i64)] else bif r == 15 then [(11, .int .i64), (12, .int .i64)] else bif r == 19 then [(13, .bool), (14, .int .i64)] else bif r == 25 then [(15, .int .i64)] else bif r == 29 then [(16, .bool), (17, .int .i64)] else []), join := fun r => (bif r == 6 then some [] else bif r == 35 then some [] else none) }
/-- millpond/millpondlaw12.GensOrder -/
def sh_millpondlaw12_GensOrder (l : Sl) (groups : Sl) (id : Int) (K : Value → World → Prop) (w : World) : Prop :=
  Calls P fn_millpondlaw12_works #[] w fun e2 w1 => ∃ x3 : Bool, e2 = .returned (.bool x3) ∧ bif (!x3) then (K (.bool false) w1) else (∃ J4 : World → Prop, (bif (decide (((l.n : Nat)
    : Int) > 80)) then (K (.bool x3) w1) else (bif (decide (((groups.n : Nat) : Int) > 80)) then (K (.bool x3) w1) else (J4 w1))) ∧ (∀ _u6 : Nat → Value, ∀ w5 : World, J4 w5 → Calls
    P fn_gens_New #[] w5 fun e8 w7 => ∃ x9 : Option Addr, e8 = .returned (.pointer x9) ∧ ∃ (I10 : Int → World → Prop) (M11 : Int → World → Nat), I10 0 w7 ∧ ∀ _u13 : Nat → Value, ∀
    i14 : Int, ∀ w12 : World, I10 i14 w12 → bif (decide (i14 < ((l.n : Nat) : Int))) then (elAt l.p l.n i14 4 fun a15 => ∃ x16 : Int, w12.cell? (a15.add 0) = some (.int .i64 x16) ∧
    ∃ x17 : Int, w12.cell? (a15.add 1) = some (.int .i64 x17) ∧ ∃ x18 : Int, w12.cell? (a15.add 2) = some (.int .i64 x18) ∧ ∃ x19 : Bool, w12.cell? (a15.add 3) = some (.bool x19) ∧
    Calls P fn_millpondlaw12_do #[(.pointer x9), (.agg #[(.int .i64 x16), (.int .i64 x17), (.int .i64 x18), (.bool x19)])] w12 fun e21 w20 => ∃ x22 : Int, e21 = .returned (.int .i64
    x22) ∧ (I10 (IntKind.i64.wrap (i14 + 1)) w20 ∧ M11 (IntKind.i64.wrap (i14 + 1)) w20 < M11 i14 w12)) else (Calls P fn_gens_Lists_Touch #[(.pointer x9), (.int .i64 id)] w12 fun
    e24 w23 => ∃ x25 : Int, e24 = .returned (.int .i64 x25) ∧ Calls P fn_gens_Lists_Order #[(.pointer x9), (.slice groups.p groups.n groups.c)] w23 fun e27 w26 => ∃ x28 : Sl, e27 =
    .returned (.slice x28.p x28.n x28.c) ∧ ∃ (I29 : Int → Int → World → Prop) (M30 : Int → Int → World → Nat), I29 0 0 w26 ∧ ∀ _u32 : Nat → Value, ∀ all33 : Int, ∀ i34 : Int, ∀ w31
    : World, I29 all33 i34 w31 → bif (decide (i34 < ((groups.n : Nat) : Int))) then (∃ (I35 : Bool → Int → World → Prop) (M36 : Bool → Int → World → Nat), I35 true 0 w31 ∧ ∀ _u38 :
    Nat → Value, ∀ once39 : Bool, ∀ k40 : Int, ∀ w37 : World, I35 once39 k40 w37 → bif (decide (k40 < i34)) then (Dr (fun w41 => bif once39 then (elAt groups.p groups.n k40 1 fun
    a42 => ∃ x43 : Int, w41.cell? a42 = some (.int .i64 x43) ∧ elAt groups.p groups.n i34 1 fun a44 => ∃ x45 : Int, w41.cell? a44 = some (.int .i64 x45) ∧ (I35 (x43 != x45)
    (IntKind.i64.wrap (k40 + 1)) w41 ∧ M36 (x43 != x45) (IntKind.i64.wrap (k40 + 1)) w41 < M36 once39 k40 w37)) else ((I35 false (IntKind.i64.wrap (k40 + 1)) w41 ∧ M36 false
    (IntKind.i64.wrap (k40 + 1)) w41 < M36 once39 k40 w37))) w37) else (bif once39 then (elAt groups.p groups.n i34 1 fun a46 => ∃ x47 : Int, w37.cell? a46 = some (.int .i64 x47) ∧
    Calls P fn_gens_Lists_Count #[(.pointer x9), (.int .i64 x47)] w37 fun e49 w48 => ∃ x50 : Int, e49 = .returned (.int .i64 x50) ∧ (I29 (IntKind.i64.wrap (all33 + x50))
    (IntKind.i64.wrap (i34 + 1)) w48 ∧ M30 (IntKind.i64.wrap (all33 + x50)) (IntKind.i64.wrap (i34 + 1)) w48 < M30 all33 i34 w31)) else ((I29 all33 (IntKind.i64.wrap (i34 + 1)) w37
    ∧ M30 all33 (IntKind.i64.wrap (i34 + 1)) w37 < M30 all33 i34 w31)))) else (∃ (I51 : Int → World → Prop) (M52 : Int → World → Nat), I51 0 w31 ∧ ∀ _u54 : Nat → Value, ∀ i55 : Int,
    ∀ w53 : World, I51 i55 w53 → bif (decide (i55 < ((x28.n : Nat) : Int))) then (∃ (I56 : Bool → Int → World → Prop) (M57 : Bool → Int → World → Nat), I56 false 0 w53 ∧ ∀ _u59 :
    Nat → Value, ∀ in60 : Bool, ∀ k61 : Int, ∀ w58 : World, I56 in60 k61 w58 → bif (decide (k61 < ((groups.n : Nat) : Int))) then (Dr (fun w62 => bif in60 then ((I56 true
    (IntKind.i64.wrap (k61 + 1)) w62 ∧ M57 true (IntKind.i64.wrap (k61 + 1)) w62 < M57 in60 k61 w58)) else (elAt groups.p groups.n k61 1 fun a63 => ∃ x64 : Int, w62.cell? a63 = some
    (.int .i64 x64) ∧ elAt x28.p x28.n i55 1 fun a65 => ∃ x66 : Int, w62.cell? a65 = some (.int .i64 x66) ∧ Calls P fn_gens_Lists_Group #[(.pointer x9), (.int .i64 x66)] w62 fun e68
    w67 => ∃ x69 : Int, e68 = .returned (.int .i64 x69) ∧ ∃ x70 : Int, w67.cell? a63 = some (.int .i64 x70) ∧ ((.int .i64 x70) : Value) = (.int .i64 x64) ∧ (I56 (x64 == x69)
    (IntKind.i64.wrap (k61 + 1)) w67 ∧ M57 (x64 == x69) (IntKind.i64.wrap (k61 + 1)) w67 < M57 in60 k61 w58))) w58) else (elAt x28.p x28.n i55 1 fun a71 => ∃ x72 : Int, w58.cell?
    a71 = some (.int .i64 x72) ∧ Calls P fn_gens_Lists_Oldness #[(.pointer x9), (.int .i64 x72)] w58 fun e74 w73 => ∃ x75 : Int, e74 = .returned (.int .i64 x75) ∧ ∃ J76 : World →
    Prop, (bif (!in60) then (K (.bool false) w73) else (bif (decide (x75 < 0)) then (K (.bool false) w73) else (bif (decide (x75 > 3)) then (K (.bool false) w73) else (elAt x28.p
    x28.n i55 1 fun a79 => ∃ x80 : Int, w73.cell? a79 = some (.int .i64 x80) ∧ bif (x80 == id) then (bif (x75 != 0) then (K (.bool false) w73) else (J76 w73)) else (J76 w73))))) ∧
    (∀ _u78 : Nat → Value, ∀ w77 : World, J76 w77 → Dr (fun w81 => bif (decide (i55 > 0)) then (elAt x28.p x28.n (IntKind.i64.wrap (i55 - 1)) 1 fun a82 => ∃ x83 : Int, w81.cell? a82
    = some (.int .i64 x83) ∧ Calls P fn_gens_Lists_Oldness #[(.pointer x9), (.int .i64 x83)] w81 fun e85 w84 => ∃ x86 : Int, e85 = .returned (.int .i64 x86) ∧ bif (decide (x86 <
    x75)) then (K (.bool false) w84) else (elAt x28.p x28.n (IntKind.i64.wrap (i55 - 1)) 1 fun a87 => ∃ x88 : Int, w84.cell? a87 = some (.int .i64 x88) ∧ Calls P
    fn_gens_Lists_Oldness #[(.pointer x9), (.int .i64 x88)] w84 fun e90 w89 => ∃ x91 : Int, e90 = .returned (.int .i64 x91) ∧ bif (x91 == x75) then (elAt x28.p x28.n
    (IntKind.i64.wrap (i55 - 1)) 1 fun a92 => ∃ x93 : Int, w89.cell? a92 = some (.int .i64 x93) ∧ elAt x28.p x28.n i55 1 fun a94 => ∃ x95 : Int, w89.cell? a94 = some (.int .i64 x95)
    ∧ bif (decide (x93 ≥ x95)) then (K (.bool false) w89) else ((I51 (IntKind.i64.wrap (i55 + 1)) w89 ∧ M52 (IntKind.i64.wrap (i55 + 1)) w89 < M52 i55 w53))) else ((I51
    (IntKind.i64.wrap (i55 + 1)) w89 ∧ M52 (IntKind.i64.wrap (i55 + 1)) w89 < M52 i55 w53)))) else ((I51 (IntKind.i64.wrap (i55 + 1)) w81 ∧ M52 (IntKind.i64.wrap (i55 + 1)) w81 <
    M52 i55 w53))) w77))) else (bif x3 then (K (.bool (((x28.n : Nat) : Int) == all33)) w53) else (K (.bool false) w53))))))
theorem vc_millpondlaw12_GensOrder (l : Sl) (groups : Sl) (id : Int) (K : Value → World → Prop) (w : World) : vcFn P tau rho pan ann_millpondlaw12_GensOrder Go.Proofs.Try.f5 #[(.slice l.p l.n l.c), (.slice groups.p groups.n groups.c), (.int .i64 id)] K (fun _ _ => False) w = sh_millpondlaw12_GensOrder l groups id K w := by kernel_rfl
theorem ok_millpondlaw12_GensOrder : okFn P ann_millpondlaw12_GensOrder Go.Proofs.Try.f5 3 = true := by kernel_rfl
theorem of_millpondlaw12_GensOrder (l : Sl) (groups : Sl) (id : Int) {K : Value → World → Prop} {w : World} (h : sh_millpondlaw12_GensOrder l groups id K w) : Calls P fn_millpondlaw12_GensOrder #[(.slice l.p l.n l.c), (.slice groups.p groups.n groups.c), (.int .i64 id)] w (Ret K) := calls_of_vc mixed Go.Proofs.Try.func5 ok_millpondlaw12_GensOrder (by rw [vc_millpondlaw12_GensOrder]; exact h)

def ann_millpondlaw12_GensAges : Ann := { quiet := fun d => [24, 25, 28, 32, 37, 43, 44, 46, 60, 62, 74, 77, 81, 86, 90, 95, 111, 117, 125, 126, 133].contains d, loop := fun r => (bif r == 8 then [(11, .int .i64)] else bif r == 14 then [(14, .int .i64)] else []), join := fun r => (bif r == 6 then some [] else bif r == 21 then some [] else none) }
/-- millpond/millpondlaw12.GensAges -/
def sh_millpondlaw12_GensAges (l : Sl) (group : Int) (other : Int) (id : Int) (K : Value → World → Prop) (w : World) : Prop :=
  Calls P fn_millpondlaw12_works #[] w fun e2 w1 => ∃ x3 : Bool, e2 = .returned (.bool x3) ∧ bif (!x3) then (K (.bool false) w1) else (∃ J4 : World → Prop, (bif (decide (((l.n : Nat)
    : Int) > 80)) then (K (.bool x3) w1) else (bif (decide (other < 0)) then (K (.bool x3) w1) else (bif (decide (other > 16777216)) then (K (.bool x3) w1) else (bif (group ==
    other) then (K (.bool x3) w1) else (J4 w1))))) ∧ (∀ _u6 : Nat → Value, ∀ w5 : World, J4 w5 → Calls P fn_gens_New #[] w5 fun e8 w7 => ∃ x9 : Option Addr, e8 = .returned (.pointer
    x9) ∧ ∃ (I10 : Int → World → Prop) (M11 : Int → World → Nat), I10 0 w7 ∧ ∀ _u13 : Nat → Value, ∀ i14 : Int, ∀ w12 : World, I10 i14 w12 → bif (decide (i14 < ((l.n : Nat) : Int)))
    then (elAt l.p l.n i14 4 fun a15 => ∃ x16 : Int, w12.cell? (a15.add 0) = some (.int .i64 x16) ∧ ∃ x17 : Int, w12.cell? (a15.add 1) = some (.int .i64 x17) ∧ ∃ x18 : Int,
    w12.cell? (a15.add 2) = some (.int .i64 x18) ∧ ∃ x19 : Bool, w12.cell? (a15.add 3) = some (.bool x19) ∧ Calls P fn_millpondlaw12_do #[(.pointer x9), (.agg #[(.int .i64 x16),
    (.int .i64 x17), (.int .i64 x18), (.bool x19)])] w12 fun e21 w20 => ∃ x22 : Int, e21 = .returned (.int .i64 x22) ∧ (I10 (IntKind.i64.wrap (i14 + 1)) w20 ∧ M11 (IntKind.i64.wrap
    (i14 + 1)) w20 < M11 i14 w12)) else (Calls P fn_gens_Lists_Oldness #[(.pointer x9), (.int .i64 id)] w12 fun e24 w23 => ∃ x25 : Int, e24 = .returned (.int .i64 x25) ∧ Calls P
    fn_gens_Lists_Group #[(.pointer x9), (.int .i64 id)] w23 fun e27 w26 => ∃ x28 : Int, e27 = .returned (.int .i64 x28) ∧ ∃ (I29 : Int → World → Prop) (M30 : Int → World → Nat),
    I29 0 w26 ∧ ∀ _u32 : Nat → Value, ∀ i33 : Int, ∀ w31 : World, I29 i33 w31 → bif (decide (i33 < 3)) then (Calls P fn_gens_Lists_Age #[(.pointer x9), (.int .i64 group)] w31 fun
    e35 w34 => ∃ x36 : Int, e35 = .returned (.int .i64 x36) ∧ (I29 (IntKind.i64.wrap (i33 + 1)) w34 ∧ M30 (IntKind.i64.wrap (i33 + 1)) w34 < M30 i33 w31)) else (Calls P
    fn_gens_Lists_Oldness #[(.pointer x9), (.int .i64 id)] w31 fun e38 w37 => ∃ x39 : Int, e38 = .returned (.int .i64 x39) ∧ Calls P fn_gens_Lists_Age #[(.pointer x9), (.int .i64
    group)] w37 fun e41 w40 => ∃ x42 : Int, e41 = .returned (.int .i64 x42) ∧ ∃ J43 : World → Prop, (bif (x28 == group) then (bif (decide (x28 ≥ 0)) then (bif (x39 != 3) then (K
    (.bool false) w40) else (bif (x28 != group) then (bif (x39 != x25) then (K (.bool false) w40) else (bif (x42 != 0) then (K (.bool false) w40) else (J43 w40))) else (bif (x42 !=
    0) then (K (.bool false) w40) else (J43 w40)))) else (bif (x28 != group) then (bif (x39 != x25) then (K (.bool false) w40) else (bif (x42 != 0) then (K (.bool false) w40) else
    (J43 w40))) else (bif (x42 != 0) then (K (.bool false) w40) else (J43 w40)))) else (bif (x28 != group) then (bif (x39 != x25) then (K (.bool false) w40) else (bif (x42 != 0)
    then (K (.bool false) w40) else (J43 w40))) else (bif (x42 != 0) then (K (.bool false) w40) else (J43 w40)))) ∧ (∀ _u45 : Nat → Value, ∀ w44 : World, J43 w44 → Calls P
    fn_gens_Lists_Count #[(.pointer x9), (.int .i64 group)] w44 fun e47 w46 => ∃ x48 : Int, e47 = .returned (.int .i64 x48) ∧ Calls P fn_gens_Lists_Count #[(.pointer x9), (.int .i64
    other)] w46 fun e50 w49 => ∃ x51 : Int, e50 = .returned (.int .i64 x51) ∧ Calls P fn_gens_Lists_Move #[(.pointer x9), (.int .i64 group), (.int .i64 other)] w49 fun e53 w52 => ∃
    x54 : Int, e53 = .returned (.int .i64 x54) ∧ bif x3 then (bif (x54 == x48) then (Calls P fn_gens_Lists_Count #[(.pointer x9), (.int .i64 group)] w52 fun e56 w55 => ∃ x57 : Int,
    e56 = .returned (.int .i64 x57) ∧ bif (x57 == 0) then (Calls P fn_gens_Lists_Count #[(.pointer x9), (.int .i64 other)] w55 fun e59 w58 => ∃ x60 : Int, e59 = .returned (.int .i64
    x60) ∧ bif (x60 == (IntKind.i64.wrap (x51 + x48))) then (Calls P fn_gens_Lists_Oldness #[(.pointer x9), (.int .i64 id)] w58 fun e62 w61 => ∃ x63 : Int, e62 = .returned (.int
    .i64 x63) ∧ K (.bool (x63 == x39)) w61) else (K (.bool false) w58)) else (K (.bool false) w55)) else (K (.bool false) w52)) else (K (.bool false) w52))))))
theorem vc_millpondlaw12_GensAges (l : Sl) (group : Int) (other : Int) (id : Int) (K : Value → World → Prop) (w : World) : vcFn P tau rho pan ann_millpondlaw12_GensAges Go.Proofs.Try.f6 #[(.slice l.p l.n l.c), (.int .i64 group), (.int .i64 other), (.int .i64 id)] K (fun _ _ => False) w = sh_millpondlaw12_GensAges l group other id K w := by kernel_rfl
theorem ok_millpondlaw12_GensAges : okFn P ann_millpondlaw12_GensAges Go.Proofs.Try.f6 4 = true := by kernel_rfl
theorem of_millpondlaw12_GensAges (l : Sl) (group : Int) (other : Int) (id : Int) {K : Value → World → Prop} {w : World} (h : sh_millpondlaw12_GensAges l group other id K w) : Calls P fn_millpondlaw12_GensAges #[(.slice l.p l.n l.c), (.int .i64 group), (.int .i64 other), (.int .i64 id)] w (Ret K) := calls_of_vc mixed Go.Proofs.Try.func6 ok_millpondlaw12_GensAges (by rw [vc_millpondlaw12_GensAges]; exact h)

def ann_millpondlaw12_GensTouch : Ann := { quiet := fun d => [24, 25, 28, 29, 35, 36, 38, 55, 57, 58, 62, 68, 73, 78, 84, 91, 94, 95, 97, 105, 111, 119, 125, 131, 137, 140, 141].contains d, loop := fun r => (bif r == 8 then [(11, .int .i64)] else bif r == 19 then [(16, .bool), (17, .int .i64)] else []), join := fun r => (bif r == 6 then some [] else bif r == 16 then some [] else bif r == 26 then some [(19, .int .i64)] else none) }
/-- millpond/millpondlaw12.GensTouch -/
def sh_millpondlaw12_GensTouch (l : Sl) (id : Int) (other : Int) (groups : Sl) (K : Value → World → Prop) (w : World) : Prop :=
  Calls P fn_millpondlaw12_works #[] w fun e2 w1 => ∃ x3 : Bool, e2 = .returned (.bool x3) ∧ bif (!x3) then (K (.bool false) w1) else (∃ J4 : World → Prop, (bif (decide (((l.n : Nat)
    : Int) > 80)) then (K (.bool x3) w1) else (bif (decide (((groups.n : Nat) : Int) > 80)) then (K (.bool x3) w1) else (J4 w1))) ∧ (∀ _u6 : Nat → Value, ∀ w5 : World, J4 w5 → Calls
    P fn_gens_New #[] w5 fun e8 w7 => ∃ x9 : Option Addr, e8 = .returned (.pointer x9) ∧ ∃ (I10 : Int → World → Prop) (M11 : Int → World → Nat), I10 0 w7 ∧ ∀ _u13 : Nat → Value, ∀
    i14 : Int, ∀ w12 : World, I10 i14 w12 → bif (decide (i14 < ((l.n : Nat) : Int))) then (elAt l.p l.n i14 4 fun a15 => ∃ x16 : Int, w12.cell? (a15.add 0) = some (.int .i64 x16) ∧
    ∃ x17 : Int, w12.cell? (a15.add 1) = some (.int .i64 x17) ∧ ∃ x18 : Int, w12.cell? (a15.add 2) = some (.int .i64 x18) ∧ ∃ x19 : Bool, w12.cell? (a15.add 3) = some (.bool x19) ∧
    Calls P fn_millpondlaw12_do #[(.pointer x9), (.agg #[(.int .i64 x16), (.int .i64 x17), (.int .i64 x18), (.bool x19)])] w12 fun e21 w20 => ∃ x22 : Int, e21 = .returned (.int .i64
    x22) ∧ (I10 (IntKind.i64.wrap (i14 + 1)) w20 ∧ M11 (IntKind.i64.wrap (i14 + 1)) w20 < M11 i14 w12)) else (Calls P fn_gens_Lists_Oldness #[(.pointer x9), (.int .i64 other)] w12
    fun e24 w23 => ∃ x25 : Int, e24 = .returned (.int .i64 x25) ∧ Calls P fn_gens_Lists_Group #[(.pointer x9), (.int .i64 id)] w23 fun e27 w26 => ∃ x28 : Int, e27 = .returned (.int
    .i64 x28) ∧ Calls P fn_gens_Lists_Touch #[(.pointer x9), (.int .i64 id)] w26 fun e30 w29 => ∃ x31 : Int, e30 = .returned (.int .i64 x31) ∧ ∃ J32 : World → Prop, (bif (!((x31 ==
    0) == (decide (x28 ≥ 0)))) then (K (.bool false) w29) else (bif (other != id) then (Calls P fn_gens_Lists_Oldness #[(.pointer x9), (.int .i64 other)] w29 fun e36 w35 => ∃ x37 :
    Int, e36 = .returned (.int .i64 x37) ∧ bif (x37 != x25) then (K (.bool false) w35) else (bif (x31 == 0) then (Calls P fn_gens_Lists_Oldness #[(.pointer x9), (.int .i64 id)] w35
    fun e39 w38 => ∃ x40 : Int, e39 = .returned (.int .i64 x40) ∧ bif (x40 != 0) then (K (.bool false) w38) else (Calls P fn_gens_Lists_Group #[(.pointer x9), (.int .i64 id)] w38
    fun e42 w41 => ∃ x43 : Int, e42 = .returned (.int .i64 x43) ∧ bif (x43 != x28) then (K (.bool false) w41) else (J32 w41))) else (J32 w35))) else (bif (x31 == 0) then (Calls P
    fn_gens_Lists_Oldness #[(.pointer x9), (.int .i64 id)] w29 fun e45 w44 => ∃ x46 : Int, e45 = .returned (.int .i64 x46) ∧ bif (x46 != 0) then (K (.bool false) w44) else (Calls P
    fn_gens_Lists_Group #[(.pointer x9), (.int .i64 id)] w44 fun e48 w47 => ∃ x49 : Int, e48 = .returned (.int .i64 x49) ∧ bif (x49 != x28) then (K (.bool false) w47) else (J32
    w47))) else (J32 w29)))) ∧ (∀ _u34 : Nat → Value, ∀ w33 : World, J32 w33 → Calls P fn_gens_Lists_Order #[(.pointer x9), (.slice groups.p groups.n groups.c)] w33 fun e51 w50 => ∃
    x52 : Sl, e51 = .returned (.slice x52.p x52.n x52.c) ∧ ∃ (I53 : Bool → Int → World → Prop) (M54 : Bool → Int → World → Nat), I53 false 0 w50 ∧ ∀ _u56 : Nat → Value, ∀ in57 :
    Bool, ∀ i58 : Int, ∀ w55 : World, I53 in57 i58 w55 → bif (decide (i58 < ((groups.n : Nat) : Int))) then (bif in57 then ((I53 true (IntKind.i64.wrap (i58 + 1)) w55 ∧ M54 true
    (IntKind.i64.wrap (i58 + 1)) w55 < M54 in57 i58 w55)) else (elAt groups.p groups.n i58 1 fun a59 => ∃ x60 : Int, w55.cell? a59 = some (.int .i64 x60) ∧ (I53 (x60 == x28)
    (IntKind.i64.wrap (i58 + 1)) w55 ∧ M54 (x60 == x28) (IntKind.i64.wrap (i58 + 1)) w55 < M54 in57 i58 w55))) else (Calls P fn_gens_Lists_Drop #[(.pointer x9), (.int .i64 id)] w55
    fun e62 w61 => ∃ x63 : Int, e62 = .returned (.int .i64 x63) ∧ ∃ J64 : Int → World → Prop, (bif (x63 == 0) then (bif in57 then (J64 1 w61) else (J64 0 w61)) else (J64 0 w61)) ∧
    (∀ _u66 : Nat → Value, ∀ less67 : Int, ∀ w65 : World, J64 less67 w65 → bif x3 then (bif (x31 == x63) then (Calls P fn_gens_Lists_Group #[(.pointer x9), (.int .i64 id)] w65 fun
    e69 w68 => ∃ x70 : Int, e69 = .returned (.int .i64 x70) ∧ bif (x70 == (-1)) then (Calls P fn_gens_Lists_Oldness #[(.pointer x9), (.int .i64 id)] w68 fun e72 w71 => ∃ x73 : Int,
    e72 = .returned (.int .i64 x73) ∧ bif (x73 == (-1)) then (Calls P fn_gens_Lists_Order #[(.pointer x9), (.slice groups.p groups.n groups.c)] w71 fun e75 w74 => ∃ x76 : Sl, e75 =
    .returned (.slice x76.p x76.n x76.c) ∧ K (.bool (((x76.n : Nat) : Int) == (IntKind.i64.wrap (((x52.n : Nat) : Int) - less67)))) w74) else (K (.bool false) w71)) else (K (.bool
    false) w68)) else (K (.bool false) w65)) else (K (.bool false) w65)))))))
theorem vc_millpondlaw12_GensTouch (l : Sl) (id : Int) (other : Int) (groups : Sl) (K : Value → World → Prop) (w : World) : vcFn P tau rho pan ann_millpondlaw12_GensTouch Go.Proofs.Try.f7 #[(.slice l.p l.n l.c), (.int .i64 id), (.int .i64 other), (.slice groups.p groups.n groups.c)] K (fun _ _ => False) w = sh_millpondlaw12_GensTouch l id other groups K w := by kernel_rfl
theorem ok_millpondlaw12_GensTouch : okFn P ann_millpondlaw12_GensTouch Go.Proofs.Try.f7 4 = true := by kernel_rfl
theorem of_millpondlaw12_GensTouch (l : Sl) (id : Int) (other : Int) (groups : Sl) {K : Value → World → Prop} {w : World} (h : sh_millpondlaw12_GensTouch l id other groups K w) : Calls P fn_millpondlaw12_GensTouch #[(.slice l.p l.n l.c), (.int .i64 id), (.int .i64 other), (.slice groups.p groups.n groups.c)] w (Ret K) := calls_of_vc mixed Go.Proofs.Try.func7 ok_millpondlaw12_GensTouch (by rw [vc_millpondlaw12_GensTouch]; exact h)

def ann_millpondlaw12_GensMoves : Ann := { quiet := fun d => [22, 23, 26, 30, 34, 38, 43, 49, 50, 52, 62, 81, 85, 88, 95, 101, 107, 113, 114, 127, 142].contains d, loop := fun r => (bif r == 8 then [(11, .int .i64)] else []), join := fun r => (bif r == 6 then some [] else bif r == 18 then some [] else none) }
/-- millpond/millpondlaw12.GensMoves -/
def sh_millpondlaw12_GensMoves (l : Sl) (fromA : Int) (toA : Int) (id : Int) (K : Value → World → Prop) (w : World) : Prop :=
  Calls P fn_millpondlaw12_works #[] w fun e2 w1 => ∃ x3 : Bool, e2 = .returned (.bool x3) ∧ bif (!x3) then (K (.bool false) w1) else (∃ J4 : World → Prop, (bif (decide (((l.n : Nat)
    : Int) > 80)) then (K (.bool x3) w1) else (bif (decide (fromA < 0)) then (K (.bool x3) w1) else (bif (decide (fromA > 16777216)) then (K (.bool x3) w1) else (bif (decide (toA <
    0)) then (K (.bool x3) w1) else (bif (decide (toA > 16777216)) then (K (.bool x3) w1) else (bif (fromA == toA) then (K (.bool x3) w1) else (J4 w1))))))) ∧ (∀ _u6 : Nat → Value,
    ∀ w5 : World, J4 w5 → Calls P fn_gens_New #[] w5 fun e8 w7 => ∃ x9 : Option Addr, e8 = .returned (.pointer x9) ∧ ∃ (I10 : Int → World → Prop) (M11 : Int → World → Nat), I10 0 w7
    ∧ ∀ _u13 : Nat → Value, ∀ i14 : Int, ∀ w12 : World, I10 i14 w12 → bif (decide (i14 < ((l.n : Nat) : Int))) then (elAt l.p l.n i14 4 fun a15 => ∃ x16 : Int, w12.cell? (a15.add 0)
    = some (.int .i64 x16) ∧ ∃ x17 : Int, w12.cell? (a15.add 1) = some (.int .i64 x17) ∧ ∃ x18 : Int, w12.cell? (a15.add 2) = some (.int .i64 x18) ∧ ∃ x19 : Bool, w12.cell? (a15.add
    3) = some (.bool x19) ∧ Calls P fn_millpondlaw12_do #[(.pointer x9), (.agg #[(.int .i64 x16), (.int .i64 x17), (.int .i64 x18), (.bool x19)])] w12 fun e21 w20 => ∃ x22 : Int,
    e21 = .returned (.int .i64 x22) ∧ (I10 (IntKind.i64.wrap (i14 + 1)) w20 ∧ M11 (IntKind.i64.wrap (i14 + 1)) w20 < M11 i14 w12)) else (Calls P fn_gens_Lists_Count #[(.pointer x9),
    (.int .i64 toA)] w12 fun e24 w23 => ∃ x25 : Int, e24 = .returned (.int .i64 x25) ∧ Calls P fn_gens_Lists_Oldness #[(.pointer x9), (.int .i64 id)] w23 fun e27 w26 => ∃ x28 : Int,
    e27 = .returned (.int .i64 x28) ∧ Calls P fn_gens_Lists_Group #[(.pointer x9), (.int .i64 id)] w26 fun e30 w29 => ∃ x31 : Int, e30 = .returned (.int .i64 x31) ∧ Al (.cells
    #[(.int .i64 fromA)] 3) (fun p32 w33 => Calls P fn_gens_Lists_Order #[(.pointer x9), (.slice (some p32) 1 1)] w33 fun e35 w34 => ∃ x36 : Sl, e35 = .returned (.slice x36.p x36.n
    x36.c) ∧ Calls P fn_gens_Lists_Move #[(.pointer x9), (.int .i64 fromA), (.int .i64 toA)] w34 fun e38 w37 => ∃ x39 : Int, e38 = .returned (.int .i64 x39) ∧ ∃ J40 : World → Prop,
    (Calls P fn_gens_Lists_Oldness #[(.pointer x9), (.int .i64 id)] w37 fun e44 w43 => ∃ x45 : Int, e44 = .returned (.int .i64 x45) ∧ bif (x45 != x28) then (K (.bool false) w43)
    else (bif (x31 == fromA) then (bif (decide (x31 ≥ 0)) then (Calls P fn_gens_Lists_Group #[(.pointer x9), (.int .i64 id)] w43 fun e47 w46 => ∃ x48 : Int, e47 = .returned (.int
    .i64 x48) ∧ bif (x48 != toA) then (K (.bool false) w46) else (bif (x31 != fromA) then (Calls P fn_gens_Lists_Group #[(.pointer x9), (.int .i64 id)] w46 fun e50 w49 => ∃ x51 :
    Int, e50 = .returned (.int .i64 x51) ∧ bif (x51 != x31) then (K (.bool false) w49) else (bif (x39 != ((x36.n : Nat) : Int)) then (K (.bool false) w49) else (J40 w49))) else (bif
    (x39 != ((x36.n : Nat) : Int)) then (K (.bool false) w46) else (J40 w46)))) else (bif (x31 != fromA) then (Calls P fn_gens_Lists_Group #[(.pointer x9), (.int .i64 id)] w43 fun
    e53 w52 => ∃ x54 : Int, e53 = .returned (.int .i64 x54) ∧ bif (x54 != x31) then (K (.bool false) w52) else (bif (x39 != ((x36.n : Nat) : Int)) then (K (.bool false) w52) else
    (J40 w52))) else (bif (x39 != ((x36.n : Nat) : Int)) then (K (.bool false) w43) else (J40 w43)))) else (bif (x31 != fromA) then (Calls P fn_gens_Lists_Group #[(.pointer x9),
    (.int .i64 id)] w43 fun e56 w55 => ∃ x57 : Int, e56 = .returned (.int .i64 x57) ∧ bif (x57 != x31) then (K (.bool false) w55) else (bif (x39 != ((x36.n : Nat) : Int)) then (K
    (.bool false) w55) else (J40 w55))) else (bif (x39 != ((x36.n : Nat) : Int)) then (K (.bool false) w43) else (J40 w43))))) ∧ (∀ _u42 : Nat → Value, ∀ w41 : World, J40 w41 → bif
    (!(x25 == 0)) then (K (.bool x3) w41) else (Calls P fn_gens_Lists_Move #[(.pointer x9), (.int .i64 toA), (.int .i64 fromA)] w41 fun e59 w58 => ∃ x60 : Int, e59 = .returned (.int
    .i64 x60) ∧ bif x3 then (bif (x60 == x39) then (Al (.cells #[(.int .i64 fromA)] 3) (fun p61 w62 => Calls P fn_gens_Lists_Order #[(.pointer x9), (.slice (some p61) 1 1)] w62 fun
    e64 w63 => ∃ x65 : Sl, e64 = .returned (.slice x65.p x65.n x65.c) ∧ Calls P fn_millpondlaw12_row #[(.slice x65.p x65.n x65.c), (.slice x36.p x36.n x36.c)] w63 fun e67 w66 => ∃
    x68 : Bool, e67 = .returned (.bool x68) ∧ bif x68 then (Calls P fn_gens_Lists_Group #[(.pointer x9), (.int .i64 id)] w66 fun e70 w69 => ∃ x71 : Int, e70 = .returned (.int .i64
    x71) ∧ K (.bool (x71 == x31)) w69) else (K (.bool false) w66)) w58) else (K (.bool false) w58)) else (K (.bool false) w58)))) w29)))
theorem vc_millpondlaw12_GensMoves (l : Sl) (fromA : Int) (toA : Int) (id : Int) (K : Value → World → Prop) (w : World) : vcFn P tau rho pan ann_millpondlaw12_GensMoves Go.Proofs.Try.f8 #[(.slice l.p l.n l.c), (.int .i64 fromA), (.int .i64 toA), (.int .i64 id)] K (fun _ _ => False) w = sh_millpondlaw12_GensMoves l fromA toA id K w := by kernel_rfl
theorem ok_millpondlaw12_GensMoves : okFn P ann_millpondlaw12_GensMoves Go.Proofs.Try.f8 4 = true := by kernel_rfl
theorem of_millpondlaw12_GensMoves (l : Sl) (fromA : Int) (toA : Int) (id : Int) {K : Value → World → Prop} {w : World} (h : sh_millpondlaw12_GensMoves l fromA toA id K w) : Calls P fn_millpondlaw12_GensMoves #[(.slice l.p l.n l.c), (.int .i64 fromA), (.int .i64 toA), (.int .i64 id)] w (Ret K) := calls_of_vc mixed Go.Proofs.Try.func8 ok_millpondlaw12_GensMoves (by rw [vc_millpondlaw12_GensMoves]; exact h)

def ann_millpondlaw12_works : Ann := { quiet := fun d => [9, 22, 25, 29, 33, 37, 38, 44, 50, 56, 61, 66, 71, 76].contains d }
/-- millpond/millpondlaw12.works -/
def sh_millpondlaw12_works (K : Value → World → Prop) (w : World) : Prop :=
  Calls P fn_gens_New #[] w fun e2 w1 => ∃ x3 : Option Addr, e2 = .returned (.pointer x3) ∧ bif x3.isNone then (K (.bool false) w1) else (Calls P fn_gens_Lists_Add #[(.pointer x3),
    (.int .i64 5), (.int .i64 1), (.bool false)] w1 fun e5 w4 => ∃ x6 : Int, e5 = .returned (.int .i64 x6) ∧ Calls P fn_gens_Lists_Add #[(.pointer x3), (.int .i64 3), (.int .i64 1),
    (.bool false)] w4 fun e8 w7 => ∃ x9 : Int, e8 = .returned (.int .i64 x9) ∧ Calls P fn_gens_Lists_Age #[(.pointer x3), (.int .i64 1)] w7 fun e11 w10 => ∃ x12 : Int, e11 =
    .returned (.int .i64 x12) ∧ Calls P fn_gens_Lists_Add #[(.pointer x3), (.int .i64 4), (.int .i64 1), (.bool false)] w10 fun e14 w13 => ∃ x15 : Int, e14 = .returned (.int .i64
    x15) ∧ Al (.cells #[(.int .i64 1)] 3) (fun p16 w17 => Calls P fn_gens_Lists_Order #[(.pointer x3), (.slice (some p16) 1 1)] w17 fun e19 w18 => ∃ x20 : Sl, e19 = .returned
    (.slice x20.p x20.n x20.c) ∧ bif (x6 == 0) then (bif (x9 == 0) then (bif (x12 == 2) then (bif (x15 == 0) then (bif (((x20.n : Nat) : Int) == 3) then (elAt x20.p x20.n 0 1 fun
    a21 => ∃ x22 : Int, w18.cell? a21 = some (.int .i64 x22) ∧ bif (x22 == 3) then (elAt x20.p x20.n 1 1 fun a23 => ∃ x24 : Int, w18.cell? a23 = some (.int .i64 x24) ∧ bif (x24 ==
    5) then (elAt x20.p x20.n 2 1 fun a25 => ∃ x26 : Int, w18.cell? a25 = some (.int .i64 x26) ∧ bif (x26 == 4) then (Calls P fn_gens_Lists_Oldness #[(.pointer x3), (.int .i64 5)]
    w18 fun e28 w27 => ∃ x29 : Int, e28 = .returned (.int .i64 x29) ∧ bif (x29 == 1) then (Calls P fn_gens_Lists_Group #[(.pointer x3), (.int .i64 5)] w27 fun e31 w30 => ∃ x32 :
    Int, e31 = .returned (.int .i64 x32) ∧ bif (x32 == 1) then (Calls P fn_gens_Lists_Count #[(.pointer x3), (.int .i64 1)] w30 fun e34 w33 => ∃ x35 : Int, e34 = .returned (.int
    .i64 x35) ∧ bif (x35 == 3) then (Calls P fn_gens_Lists_Touch #[(.pointer x3), (.int .i64 9)] w33 fun e37 w36 => ∃ x38 : Int, e37 = .returned (.int .i64 x38) ∧ K (.bool (x38 ==
    2)) w36) else (K (.bool false) w33)) else (K (.bool false) w30)) else (K (.bool false) w27)) else (K (.bool false) w18)) else (K (.bool false) w18)) else (K (.bool false) w18))
    else (K (.bool false) w18)) else (K (.bool false) w18)) else (K (.bool false) w18)) else (K (.bool false) w18)) else (K (.bool false) w18)) w13)
theorem vc_millpondlaw12_works (K : Value → World → Prop) (w : World) : vcFn P tau rho pan ann_millpondlaw12_works Go.Proofs.Try.f9 #[] K (fun _ _ => False) w = sh_millpondlaw12_works K w := by kernel_rfl
theorem ok_millpondlaw12_works : okFn P ann_millpondlaw12_works Go.Proofs.Try.f9 0 = true := by kernel_rfl
theorem of_millpondlaw12_works {K : Value → World → Prop} {w : World} (h : sh_millpondlaw12_works K w) : Calls P fn_millpondlaw12_works #[] w (Ret K) := calls_of_vc mixed Go.Proofs.Try.func9 ok_millpondlaw12_works (by rw [vc_millpondlaw12_works]; exact h)

def ann_gens_New : Ann := {}
/-- millpond/gens.New -/
def sh_gens_New (K : Value → World → Prop) (w : World) : Prop :=
  AlM (fun m1 w2 => Al (.cells #[(.map (some m1))] 52) (fun p3 w4 => K (.pointer (some p3)) w4) w2) w
theorem vc_gens_New (K : Value → World → Prop) (w : World) : vcFn P tau rho pan ann_gens_New Go.Proofs.Try.f10 #[] K (fun _ _ => False) w = sh_gens_New K w := by kernel_rfl
theorem ok_gens_New : okFn P ann_gens_New Go.Proofs.Try.f10 0 = true := by kernel_rfl
theorem of_gens_New {K : Value → World → Prop} {w : World} (h : sh_gens_New K w) : Calls P fn_gens_New #[] w (Ret K) := calls_of_vc mixed Go.Proofs.Try.func10 ok_gens_New (by rw [vc_gens_New]; exact h)

def ann_gens_Lists_Add : Ann := { quiet := fun d => [13, 16, 20, 24, 41].contains d, sig := fun r => (bif r == 9 then some ([0, 1, 2, 3, 4, 5, 6], [6]) else none), join := fun r => (bif r == 3 then some [] else bif r == 9 then some [] else none) }
/-- (*millpond/gens.Lists).Add -/
def sh_gens_Lists_Add (l : Option Addr) (id : Int) (group : Int) (old : Bool) (K : Value → World → Prop) (w : World) : Prop :=
  ∃ J1 : World → Prop, (bif (decide (id < 0)) then (K (.int .i64 1) w) else (bif (decide (id > 16777216)) then (K (.int .i64 1) w) else (bif (decide (group < 0)) then (K (.int .i64 1)
    w) else (bif (decide (group > 16777216)) then (K (.int .i64 1) w) else (J1 w))))) ∧ (∀ _u3 : Nat → Value, ∀ w2 : World, J1 w2 → NN l fun a4 => ∃ x5 : Option Nat, w2.cell?
    (a4.add 0) = some (.map x5) ∧ ∃ x6 : Int, ∃ x7 : Int, ∃ x8 : Bool, LookV P 50 (.map x5) (.int .i64 id) true w2 (.tuple #[(.agg #[(.int .i64 x6), (.int .i64 x7)]), (.bool x8)]) ∧
    Al (.cells #[(.int .i64 0), (.int .i64 0)] 54) (fun p9 w10 => StN [(.int .i64 x6), (.int .i64 x7)] p9 (fun w11 => bif x8 then (K (.int .i64 4) w11) else (Al (.cells #[(.int .i64
    0), (.int .i64 0)] 54) (fun p12 w13 => StN [(.int .i64 group), (.int .i64 0)] p12 (fun w14 => ∃ J15 : World → Prop, (bif old then (∃ x18 : Int, w14.cell? (p12.add 1) = some
    (.int .i64 x18) ∧ St (p12.add 1) (.int .i64 (IntKind.i64.wrap (x18 + 1))) (fun w19 => J15 w19) w14) else (J15 w14)) ∧ (∀ _u17 : Nat → Value, ∀ w16 : World, J15 w16 → Dr (fun w20
    => NN l fun a21 => ∃ x22 : Option Nat, w20.cell? (a21.add 0) = some (.map x22) ∧ ∃ x23 : Int, w20.cell? (p12.add 0) = some (.int .i64 x23) ∧ ∃ x24 : Int, w20.cell? (p12.add 1) =
    some (.int .i64 x24) ∧ ∃ w25 : World, Sem.run P (Instr.mapUpdate 50 (.map x22) (.int .i64 id) (.agg #[(.int .i64 x23), (.int .i64 x24)])) w20 = .ok () w25 ∧ K (.int .i64 0) w25)
    w16)) w13) w11)) w10) w2)
theorem vc_gens_Lists_Add (l : Option Addr) (id : Int) (group : Int) (old : Bool) (K : Value → World → Prop) (w : World) : vcFn P tau rho pan ann_gens_Lists_Add Go.Proofs.Try.f11 #[(.pointer l), (.int .i64 id), (.int .i64 group), (.bool old)] K (fun _ _ => False) w = sh_gens_Lists_Add l id group old K w := by kernel_rfl
theorem ok_gens_Lists_Add : okFn P ann_gens_Lists_Add Go.Proofs.Try.f11 4 = true := by kernel_rfl
theorem of_gens_Lists_Add (l : Option Addr) (id : Int) (group : Int) (old : Bool) {K : Value → World → Prop} {w : World} (h : sh_gens_Lists_Add l id group old K w) : Calls P fn_gens_Lists_Add #[(.pointer l), (.int .i64 id), (.int .i64 group), (.bool old)] w (Ret K) := calls_of_vc mixed Go.Proofs.Try.func11 ok_gens_Lists_Add (by rw [vc_gens_Lists_Add]; exact h)

def ann_gens_Lists_Oldness : Ann := {}
/-- (*millpond/gens.Lists).Oldness -/
def sh_gens_Lists_Oldness (l : Option Addr) (id : Int) (K : Value → World → Prop) (w : World) : Prop :=
  NN l fun a1 => ∃ x2 : Option Nat, w.cell? (a1.add 0) = some (.map x2) ∧ ∃ x3 : Int, ∃ x4 : Int, ∃ x5 : Bool, LookV P 50 (.map x2) (.int .i64 id) true w (.tuple #[(.agg #[(.int .i64
    x3), (.int .i64 x4)]), (.bool x5)]) ∧ Al (.cells #[(.int .i64 0), (.int .i64 0)] 54) (fun p6 w7 => StN [(.int .i64 x3), (.int .i64 x4)] p6 (fun w8 => bif x5 then (∃ x9 : Int,
    w8.cell? (p6.add 1) = some (.int .i64 x9) ∧ K (.int .i64 x9) w8) else (K (.int .i64 (-1)) w8)) w7) w
theorem vc_gens_Lists_Oldness (l : Option Addr) (id : Int) (K : Value → World → Prop) (w : World) : vcFn P tau rho pan ann_gens_Lists_Oldness Go.Proofs.Try.f12 #[(.pointer l), (.int .i64 id)] K (fun _ _ => False) w = sh_gens_Lists_Oldness l id K w := by kernel_rfl
theorem ok_gens_Lists_Oldness : okFn P ann_gens_Lists_Oldness Go.Proofs.Try.f12 2 = true := by kernel_rfl
theorem of_gens_Lists_Oldness (l : Option Addr) (id : Int) {K : Value → World → Prop} {w : World} (h : sh_gens_Lists_Oldness l id K w) : Calls P fn_gens_Lists_Oldness #[(.pointer l), (.int .i64 id)] w (Ret K) := calls_of_vc mixed Go.Proofs.Try.func12 ok_gens_Lists_Oldness (by rw [vc_gens_Lists_Oldness]; exact h)

def ann_gens_Lists_Order : Ann := {}
/-- (*millpond/gens.Lists).Order -/
def sh_gens_Lists_Order (l : Option Addr) (groups : Sl) (K : Value → World → Prop) (w : World) : Prop :=
  Al (.cells #[(.pointer l)] 25) (fun p1 w2 => Al (.cells #[(.slice groups.p groups.n groups.c)] 22) (fun p3 w4 => ∃ x5 : Option Addr, w4.cell? p1 = some (.pointer x5) ∧ NN x5 fun a6
    => ∃ x7 : Option Nat, w4.cell? (a6.add 0) = some (.map x7) ∧ Calls P fn_maps_Keys_map_int_gens_one_int_gens_one #[(.map x7)] w4 fun e9 w8 => ∃ x10 : Value, e9 = .returned x10 ∧
    Calls P fn_slices_Sorted_int #[x10] w8 fun e12 w11 => ∃ x13 : Sl, e12 = .returned (.slice x13.p x13.n x13.c) ∧ Calls P fn_slices_DeleteFunc_int_int #[(.slice x13.p x13.n x13.c),
    (.func (.func fn_gens_Lists_Order_1) #[] #[(.pointer (some p3)), (.pointer (some p1))])] w11 fun e15 w14 => ∃ x16 : Sl, e15 = .returned (.slice x16.p x16.n x16.c) ∧ Calls P
    fn_slices_SortStableFunc_int_int #[(.slice x16.p x16.n x16.c), (.func (.func fn_gens_Lists_Order_2) #[] #[(.pointer (some p1))])] w14 fun e18 w17 => e18 = .returned (.tuple #[])
    ∧ K (.slice x16.p x16.n x16.c) w17) w2) w
theorem vc_gens_Lists_Order (l : Option Addr) (groups : Sl) (K : Value → World → Prop) (w : World) : vcFn P tau rho pan ann_gens_Lists_Order Go.Proofs.Try.f13 #[(.pointer l), (.slice groups.p groups.n groups.c)] K (fun _ _ => False) w = sh_gens_Lists_Order l groups K w := by kernel_rfl
theorem ok_gens_Lists_Order : okFn P ann_gens_Lists_Order Go.Proofs.Try.f13 2 = true := by kernel_rfl
theorem of_gens_Lists_Order (l : Option Addr) (groups : Sl) {K : Value → World → Prop} {w : World} (h : sh_gens_Lists_Order l groups K w) : Calls P fn_gens_Lists_Order #[(.pointer l), (.slice groups.p groups.n groups.c)] w (Ret K) := calls_of_vc mixed Go.Proofs.Try.func13 ok_gens_Lists_Order (by rw [vc_gens_Lists_Order]; exact h)

def ann_gens_Lists_Count : Ann := { quiet := fun d => [20, 22].contains d, ent := fun d => (bif d == 15 then [.one .raw, .agg [.int .i64, .int .i64]] else [.one .raw, .one .raw]), loop := fun r => (bif r == 3 then [(5, .int .i64)] else []) }
/-- (*millpond/gens.Lists).Count -/
def sh_gens_Lists_Count (l : Option Addr) (group : Int) (K : Value → World → Prop) (w : World) : Prop :=
  NN l fun a1 => ∃ x2 : Option Nat, w.cell? (a1.add 0) = some (.map x2) ∧ ∃ x4 : Option Addr, ∃ w3 : World, Sem.run P (Instr.range 50 (.map x2)) w = .ok (.pointer x4) w3 ∧ ∃ (I5 : Int
    → World → Prop) (M6 : Int → World → Nat), I5 0 w3 ∧ ∀ _u8 : Nat → Value, ∀ n9 : Int, ∀ w7 : World, I5 n9 w7 → (∃ w10 : World, Sem.run P (Instr.next (.pointer x4) false 0) w7 =
    .ok (.tuple #[(.bool false)]) w10 ∧ K (.int .i64 n9) w10) ∨ (∃ k12 : Value, ∃ v13 : Value, ∃ w11 : World, Sem.run P (Instr.next (.pointer x4) false 0) w7 = .ok (.tuple #[(.bool
    true), k12, v13]) w11 ∧ ∃ k14 : Value, ∃ v15 : Int, ∃ v16 : Int, ∃ w17 : World, Sem.run P (Instr.entry (.pointer x4)) w11 = .ok (.tuple #[k14, (.agg #[(.int .i64 v15), (.int
    .i64 v16)])]) w17 ∧ Al (.cells #[(.int .i64 0), (.int .i64 0)] 54) (fun p18 w19 => StN [(.int .i64 v15), (.int .i64 v16)] p18 (fun w20 => ∃ x21 : Int, w20.cell? (p18.add 0) =
    some (.int .i64 x21) ∧ bif (x21 == group) then ((I5 (IntKind.i64.wrap (n9 + 1)) w20 ∧ M6 (IntKind.i64.wrap (n9 + 1)) w20 < M6 n9 w7)) else ((I5 n9 w20 ∧ M6 n9 w20 < M6 n9 w7)))
    w19) w17)
theorem vc_gens_Lists_Count (l : Option Addr) (group : Int) (K : Value → World → Prop) (w : World) : vcFn P tau rho pan ann_gens_Lists_Count Go.Proofs.Try.f14 #[(.pointer l), (.int .i64 group)] K (fun _ _ => False) w = sh_gens_Lists_Count l group K w := by kernel_rfl
theorem ok_gens_Lists_Count : okFn P ann_gens_Lists_Count Go.Proofs.Try.f14 2 = true := by kernel_rfl
theorem of_gens_Lists_Count (l : Option Addr) (group : Int) {K : Value → World → Prop} {w : World} (h : sh_gens_Lists_Count l group K w) : Calls P fn_gens_Lists_Count #[(.pointer l), (.int .i64 group)] w (Ret K) := calls_of_vc mixed Go.Proofs.Try.func14 ok_gens_Lists_Count (by rw [vc_gens_Lists_Count]; exact h)

def ann_millpondlaw12_do : Ann := { quiet := fun d => [7, 9, 15, 21, 27].contains d }
/-- millpond/millpondlaw12.do -/
def sh_millpondlaw12_do (l : Option Addr) (a_0 : Int) (a_1 : Int) (a_2 : Int) (a_3 : Bool) (K : Value → World → Prop) (w : World) : Prop :=
  Al (.cells #[(.int .i64 a_0), (.int .i64 a_1), (.int .i64 a_2), (.bool a_3)] 39) (fun p1 w2 => ∃ x3 : Int, w2.cell? (p1.add 0) = some (.int .i64 x3) ∧ (6 : Int) ≠ 0 ∧ bif ((x3.tmod
    6) == 1) then (∃ x4 : Int, w2.cell? (p1.add 1) = some (.int .i64 x4) ∧ Calls P fn_gens_Lists_Drop #[(.pointer l), (.int .i64 x4)] w2 fun e6 w5 => ∃ x7 : Int, e6 = .returned
    (.int .i64 x7) ∧ K (.int .i64 x7) w5) else (bif ((x3.tmod 6) == 2) then (∃ x8 : Int, w2.cell? (p1.add 1) = some (.int .i64 x8) ∧ Calls P fn_gens_Lists_Touch #[(.pointer l),
    (.int .i64 x8)] w2 fun e10 w9 => ∃ x11 : Int, e10 = .returned (.int .i64 x11) ∧ K (.int .i64 x11) w9) else (bif ((x3.tmod 6) == 3) then (∃ x12 : Int, w2.cell? (p1.add 2) = some
    (.int .i64 x12) ∧ Calls P fn_gens_Lists_Age #[(.pointer l), (.int .i64 x12)] w2 fun e14 w13 => ∃ x15 : Int, e14 = .returned (.int .i64 x15) ∧ K (.int .i64 x15) w13) else (bif
    ((x3.tmod 6) == 4) then (∃ x16 : Int, w2.cell? (p1.add 1) = some (.int .i64 x16) ∧ ∃ x17 : Int, w2.cell? (p1.add 2) = some (.int .i64 x17) ∧ Calls P fn_gens_Lists_Move
    #[(.pointer l), (.int .i64 x16), (.int .i64 x17)] w2 fun e19 w18 => ∃ x20 : Int, e19 = .returned (.int .i64 x20) ∧ K (.int .i64 x20) w18) else (∃ x21 : Int, w2.cell? (p1.add 1)
    = some (.int .i64 x21) ∧ ∃ x22 : Int, w2.cell? (p1.add 2) = some (.int .i64 x22) ∧ ∃ x23 : Bool, w2.cell? (p1.add 3) = some (.bool x23) ∧ Calls P fn_gens_Lists_Add #[(.pointer
    l), (.int .i64 x21), (.int .i64 x22), (.bool x23)] w2 fun e25 w24 => ∃ x26 : Int, e25 = .returned (.int .i64 x26) ∧ K (.int .i64 x26) w24))))) w
theorem vc_millpondlaw12_do (l : Option Addr) (a_0 : Int) (a_1 : Int) (a_2 : Int) (a_3 : Bool) (K : Value → World → Prop) (w : World) : vcFn P tau rho pan ann_millpondlaw12_do Go.Proofs.Try.f15 #[(.pointer l), (.agg #[(.int .i64 a_0), (.int .i64 a_1), (.int .i64 a_2), (.bool a_3)])] K (fun _ _ => False) w = sh_millpondlaw12_do l a_0 a_1 a_2 a_3 K w := by kernel_rfl
theorem ok_millpondlaw12_do : okFn P ann_millpondlaw12_do Go.Proofs.Try.f15 2 = true := by kernel_rfl
theorem of_millpondlaw12_do (l : Option Addr) (a_0 : Int) (a_1 : Int) (a_2 : Int) (a_3 : Bool) {K : Value → World → Prop} {w : World} (h : sh_millpondlaw12_do l a_0 a_1 a_2 a_3 K w) : Calls P fn_millpondlaw12_do #[(.pointer l), (.agg #[(.int .i64 a_0), (.int .i64 a_1), (.int .i64 a_2), (.bool a_3)])] w (Ret K) := calls_of_vc mixed Go.Proofs.Try.func15 ok_millpondlaw12_do (by rw [vc_millpondlaw12_do]; exact h)

def ann_millpondlaw12_same : Ann := { quiet := fun d => [7, 9, 15, 21, 27].contains d }
/-- millpond/millpondlaw12.same -/
def sh_millpondlaw12_same (l : Option Addr) (a_0 : Int) (a_1 : Int) (a_2 : Int) (a_3 : Bool) (K : Value → World → Prop) (w : World) : Prop :=
  Al (.cells #[(.int .i64 a_0), (.int .i64 a_1), (.int .i64 a_2), (.bool a_3)] 39) (fun p1 w2 => ∃ x3 : Int, w2.cell? (p1.add 0) = some (.int .i64 x3) ∧ (6 : Int) ≠ 0 ∧ bif ((x3.tmod
    6) == 1) then (∃ x4 : Int, w2.cell? (p1.add 1) = some (.int .i64 x4) ∧ Calls P fn_millpondref12_Lists_Drop #[(.pointer l), (.int .i64 x4)] w2 fun e6 w5 => ∃ x7 : Int, e6 =
    .returned (.int .i64 x7) ∧ K (.int .i64 x7) w5) else (bif ((x3.tmod 6) == 2) then (∃ x8 : Int, w2.cell? (p1.add 1) = some (.int .i64 x8) ∧ Calls P fn_millpondref12_Lists_Touch
    #[(.pointer l), (.int .i64 x8)] w2 fun e10 w9 => ∃ x11 : Int, e10 = .returned (.int .i64 x11) ∧ K (.int .i64 x11) w9) else (bif ((x3.tmod 6) == 3) then (∃ x12 : Int, w2.cell?
    (p1.add 2) = some (.int .i64 x12) ∧ Calls P fn_millpondref12_Lists_Age #[(.pointer l), (.int .i64 x12)] w2 fun e14 w13 => ∃ x15 : Int, e14 = .returned (.int .i64 x15) ∧ K (.int
    .i64 x15) w13) else (bif ((x3.tmod 6) == 4) then (∃ x16 : Int, w2.cell? (p1.add 1) = some (.int .i64 x16) ∧ ∃ x17 : Int, w2.cell? (p1.add 2) = some (.int .i64 x17) ∧ Calls P
    fn_millpondref12_Lists_Move #[(.pointer l), (.int .i64 x16), (.int .i64 x17)] w2 fun e19 w18 => ∃ x20 : Int, e19 = .returned (.int .i64 x20) ∧ K (.int .i64 x20) w18) else (∃ x21
    : Int, w2.cell? (p1.add 1) = some (.int .i64 x21) ∧ ∃ x22 : Int, w2.cell? (p1.add 2) = some (.int .i64 x22) ∧ ∃ x23 : Bool, w2.cell? (p1.add 3) = some (.bool x23) ∧ Calls P
    fn_millpondref12_Lists_Add #[(.pointer l), (.int .i64 x21), (.int .i64 x22), (.bool x23)] w2 fun e25 w24 => ∃ x26 : Int, e25 = .returned (.int .i64 x26) ∧ K (.int .i64 x26)
    w24))))) w
theorem vc_millpondlaw12_same (l : Option Addr) (a_0 : Int) (a_1 : Int) (a_2 : Int) (a_3 : Bool) (K : Value → World → Prop) (w : World) : vcFn P tau rho pan ann_millpondlaw12_same Go.Proofs.Try.f16 #[(.pointer l), (.agg #[(.int .i64 a_0), (.int .i64 a_1), (.int .i64 a_2), (.bool a_3)])] K (fun _ _ => False) w = sh_millpondlaw12_same l a_0 a_1 a_2 a_3 K w := by kernel_rfl
theorem ok_millpondlaw12_same : okFn P ann_millpondlaw12_same Go.Proofs.Try.f16 2 = true := by kernel_rfl
theorem of_millpondlaw12_same (l : Option Addr) (a_0 : Int) (a_1 : Int) (a_2 : Int) (a_3 : Bool) {K : Value → World → Prop} {w : World} (h : sh_millpondlaw12_same l a_0 a_1 a_2 a_3 K w) : Calls P fn_millpondlaw12_same #[(.pointer l), (.agg #[(.int .i64 a_0), (.int .i64 a_1), (.int .i64 a_2), (.bool a_3)])] w (Ret K) := calls_of_vc mixed Go.Proofs.Try.func16 ok_millpondlaw12_same (by rw [vc_millpondlaw12_same]; exact h)

def ann_millpondref12_Lists_Get : Ann := { quiet := fun d => [11].contains d, head := fun r => (bif r == 4 then 18 else 0) }
/-- (*millpond/millpondref12.Lists).Get -/
def sh_millpondref12_Lists_Get (l : Option Addr) (id : Int) (K : Value → World → Prop) (w : World) : Prop :=
  Calls P fn_millpondref12_Lists_Find #[(.pointer l), (.int .i64 id)] w fun e2 w1 => ∃ x3 : Int, e2 = .returned (.int .i64 x3) ∧ bif (decide (x3 < 0)) then (K (.tuple #[(.int .i64
    (-1)), (.int .i64 (-1))]) w1) else (Dr (fun w4 => NN l fun a5 => ∃ x6 : Sl, w4.cell? (a5.add 0) = some (.slice x6.p x6.n x6.c) ∧ elAt x6.p x6.n x3 3 fun a7 => ∃ x8 : Int,
    w4.cell? (a7.add 1) = some (.int .i64 x8) ∧ NN l fun a9 => ∃ x10 : Sl, w4.cell? (a9.add 0) = some (.slice x10.p x10.n x10.c) ∧ elAt x10.p x10.n x3 3 fun a11 => ∃ x12 : Int,
    w4.cell? (a11.add 2) = some (.int .i64 x12) ∧ K (.tuple #[(.int .i64 x8), (.int .i64 x12)]) w4) w1)
theorem vc_millpondref12_Lists_Get (l : Option Addr) (id : Int) (K : Value → World → Prop) (w : World) : vcFn P tau rho pan ann_millpondref12_Lists_Get Go.Proofs.Try.f17 #[(.pointer l), (.int .i64 id)] K (fun _ _ => False) w = sh_millpondref12_Lists_Get l id K w := by kernel_rfl
theorem ok_millpondref12_Lists_Get : okFn P ann_millpondref12_Lists_Get Go.Proofs.Try.f17 2 = true := by kernel_rfl
theorem of_millpondref12_Lists_Get (l : Option Addr) (id : Int) {K : Value → World → Prop} {w : World} (h : sh_millpondref12_Lists_Get l id K w) : Calls P fn_millpondref12_Lists_Get #[(.pointer l), (.int .i64 id)] w (Ret K) := calls_of_vc mixed Go.Proofs.Try.func17 ok_millpondref12_Lists_Get (by rw [vc_millpondref12_Lists_Get]; exact h)

def ann_millpondref12_Lists_Count : Ann := { quiet := fun d => [12, 13, 15, 25, 27].contains d, loop := fun r => (bif r == 3 then [(5, .int .i64), (6, .int .i64)] else []) }
/-- (*millpond/millpondref12.Lists).Count -/
def sh_millpondref12_Lists_Count (l : Option Addr) (group : Int) (K : Value → World → Prop) (w : World) : Prop :=
  ∃ (I1 : Int → Int → World → Prop) (M2 : Int → Int → World → Nat), I1 0 0 w ∧ ∀ _u4 : Nat → Value, ∀ n5 : Int, ∀ i6 : Int, ∀ w3 : World, I1 n5 i6 w3 → NN l fun a7 => ∃ x8 : Sl,
    w3.cell? (a7.add 0) = some (.slice x8.p x8.n x8.c) ∧ bif (decide (i6 < ((x8.n : Nat) : Int))) then (NN l fun a9 => ∃ x10 : Sl, w3.cell? (a9.add 0) = some (.slice x10.p x10.n
    x10.c) ∧ elAt x10.p x10.n i6 3 fun a11 => ∃ x12 : Int, w3.cell? (a11.add 1) = some (.int .i64 x12) ∧ bif (x12 == group) then ((I1 (IntKind.i64.wrap (n5 + 1)) (IntKind.i64.wrap
    (i6 + 1)) w3 ∧ M2 (IntKind.i64.wrap (n5 + 1)) (IntKind.i64.wrap (i6 + 1)) w3 < M2 n5 i6 w3)) else ((I1 n5 (IntKind.i64.wrap (i6 + 1)) w3 ∧ M2 n5 (IntKind.i64.wrap (i6 + 1)) w3 <
    M2 n5 i6 w3))) else (K (.int .i64 n5) w3)
theorem vc_millpondref12_Lists_Count (l : Option Addr) (group : Int) (K : Value → World → Prop) (w : World) : vcFn P tau rho pan ann_millpondref12_Lists_Count Go.Proofs.Try.f18 #[(.pointer l), (.int .i64 group)] K (fun _ _ => False) w = sh_millpondref12_Lists_Count l group K w := by kernel_rfl
theorem ok_millpondref12_Lists_Count : okFn P ann_millpondref12_Lists_Count Go.Proofs.Try.f18 2 = true := by kernel_rfl
theorem of_millpondref12_Lists_Count (l : Option Addr) (group : Int) {K : Value → World → Prop} {w : World} (h : sh_millpondref12_Lists_Count l group K w) : Calls P fn_millpondref12_Lists_Count #[(.pointer l), (.int .i64 group)] w (Ret K) := calls_of_vc mixed Go.Proofs.Try.func18 ok_millpondref12_Lists_Count (by rw [vc_millpondref12_Lists_Count]; exact h)

def ann_millpondlaw12_row : Ann := { quiet := fun d => [7, 9, 10, 13, 14, 16, 25].contains d, head := fun r => (bif r == 6 then 9 else 0), loop := fun r => (bif r == 4 then [(5, .int .i64)] else []) }
/-- millpond/millpondlaw12.row -/
def sh_millpondlaw12_row (a : Sl) (b : Sl) (K : Value → World → Prop) (w : World) : Prop :=
  bif (((a.n : Nat) : Int) != ((b.n : Nat) : Int)) then (K (.bool false) w) else (∃ (I1 : Int → World → Prop) (M2 : Int → World → Nat), I1 0 w ∧ ∀ _u4 : Nat → Value, ∀ i5 : Int, ∀ w3
    : World, I1 i5 w3 → bif (decide (i5 < ((a.n : Nat) : Int))) then (Dr (fun w6 => elAt a.p a.n i5 1 fun a7 => ∃ x8 : Int, w6.cell? a7 = some (.int .i64 x8) ∧ elAt b.p b.n i5 1 fun
    a9 => ∃ x10 : Int, w6.cell? a9 = some (.int .i64 x10) ∧ bif (x8 != x10) then (K (.bool false) w6) else ((I1 (IntKind.i64.wrap (i5 + 1)) w6 ∧ M2 (IntKind.i64.wrap (i5 + 1)) w6 <
    M2 i5 w3))) w3) else (K (.bool true) w3))
theorem vc_millpondlaw12_row (a : Sl) (b : Sl) (K : Value → World → Prop) (w : World) : vcFn P tau rho pan ann_millpondlaw12_row Go.Proofs.Try.f19 #[(.slice a.p a.n a.c), (.slice b.p b.n b.c)] K (fun _ _ => False) w = sh_millpondlaw12_row a b K w := by kernel_rfl
theorem ok_millpondlaw12_row : okFn P ann_millpondlaw12_row Go.Proofs.Try.f19 2 = true := by kernel_rfl
theorem of_millpondlaw12_row (a : Sl) (b : Sl) {K : Value → World → Prop} {w : World} (h : sh_millpondlaw12_row a b K w) : Calls P fn_millpondlaw12_row #[(.slice a.p a.n a.c), (.slice b.p b.n b.c)] w (Ret K) := calls_of_vc mixed Go.Proofs.Try.func19 ok_millpondlaw12_row (by rw [vc_millpondlaw12_row]; exact h)

def ann_millpondref12_Lists_Order : Ann := { quiet := fun d => [11, 13, 19, 20, 22, 25, 26, 28, 43, 56].contains d, head := fun r => (bif r == 12 then 17 else 0), loop := fun r => (bif r == 3 then [(5, .slice), (6, .int .i64)] else bif r == 6 then [(5, .slice), (7, .int .i64)] else bif r == 10 then [(8, .bool), (9, .int .i64)] else []), join := fun r => (bif r == 14 then some [(57, .bool)] else none) }
/-- (*millpond/millpondref12.Lists).Order -/
def sh_millpondref12_Lists_Order (l : Option Addr) (groups : Sl) (K : Value → World → Prop) (w : World) : Prop :=
  ∃ (I1 : Sl → Int → World → Prop) (M2 : Sl → Int → World → Nat), I1 ⟨none, 0, 0⟩ 3 w ∧ ∀ _u4 : Nat → Value, ∀ out5 : Sl, ∀ age6 : Int, ∀ w3 : World, I1 out5 age6 w3 → bif (decide
    (age6 ≥ 0)) then (∃ (I7 : Sl → Int → World → Prop) (M8 : Sl → Int → World → Nat), I7 out5 0 w3 ∧ ∀ _u10 : Nat → Value, ∀ out11 : Sl, ∀ i12 : Int, ∀ w9 : World, I7 out11 i12 w9 →
    NN l fun a13 => ∃ x14 : Sl, w9.cell? (a13.add 0) = some (.slice x14.p x14.n x14.c) ∧ bif (decide (i12 < ((x14.n : Nat) : Int))) then (∃ (I15 : Bool → Int → World → Prop) (M16 :
    Bool → Int → World → Nat), I15 false 0 w9 ∧ ∀ _u18 : Nat → Value, ∀ in19 : Bool, ∀ k20 : Int, ∀ w17 : World, I15 in19 k20 w17 → bif (decide (k20 < ((groups.n : Nat) : Int)))
    then (Dr (fun w21 => bif in19 then ((I15 true (IntKind.i64.wrap (k20 + 1)) w21 ∧ M16 true (IntKind.i64.wrap (k20 + 1)) w21 < M16 in19 k20 w17)) else (elAt groups.p groups.n k20
    1 fun a22 => ∃ x23 : Int, w21.cell? a22 = some (.int .i64 x23) ∧ NN l fun a24 => ∃ x25 : Sl, w21.cell? (a24.add 0) = some (.slice x25.p x25.n x25.c) ∧ elAt x25.p x25.n i12 3 fun
    a26 => ∃ x27 : Int, w21.cell? (a26.add 1) = some (.int .i64 x27) ∧ (I15 (x23 == x27) (IntKind.i64.wrap (k20 + 1)) w21 ∧ M16 (x23 == x27) (IntKind.i64.wrap (k20 + 1)) w21 < M16
    in19 k20 w17))) w17) else (∃ J28 : Bool → World → Prop, (bif in19 then (NN l fun a32 => ∃ x33 : Sl, w17.cell? (a32.add 0) = some (.slice x33.p x33.n x33.c) ∧ elAt x33.p x33.n
    i12 3 fun a34 => ∃ x35 : Int, w17.cell? (a34.add 2) = some (.int .i64 x35) ∧ J28 (x35 == age6) w17) else (J28 false w17)) ∧ (∀ _u30 : Nat → Value, ∀ x31 : Bool, ∀ w29 : World,
    J28 x31 w29 → bif x31 then (NN l fun a36 => ∃ x37 : Sl, w29.cell? (a36.add 0) = some (.slice x37.p x37.n x37.c) ∧ elAt x37.p x37.n i12 3 fun a38 => ∃ x39 : Int, w29.cell?
    (a38.add 0) = some (.int .i64 x39) ∧ Al (.cells #[(.int .i64 x39)] 3) (fun p40 w41 => ∃ x43 : Sl, ∃ w42 : World, Sem.run P (Builtin.append_ #[22, 22] 22 #[(.slice out11.p
    out11.n out11.c), (.slice (some p40) 1 1)]) w41 = .ok (.slice x43.p x43.n x43.c) w42 ∧ (I7 x43 (IntKind.i64.wrap (i12 + 1)) w42 ∧ M8 x43 (IntKind.i64.wrap (i12 + 1)) w42 < M8
    out11 i12 w9)) w29) else ((I7 out11 (IntKind.i64.wrap (i12 + 1)) w29 ∧ M8 out11 (IntKind.i64.wrap (i12 + 1)) w29 < M8 out11 i12 w9))))) else ((I1 out11 (IntKind.i64.wrap (age6 -
    1)) w9 ∧ M2 out11 (IntKind.i64.wrap (age6 - 1)) w9 < M2 out5 age6 w3))) else (K (.slice out5.p out5.n out5.c) w3)
theorem vc_millpondref12_Lists_Order (l : Option Addr) (groups : Sl) (K : Value → World → Prop) (w : World) : vcFn P tau rho pan ann_millpondref12_Lists_Order Go.Proofs.Try.f20 #[(.pointer l), (.slice groups.p groups.n groups.c)] K (fun _ _ => False) w = sh_millpondref12_Lists_Order l groups K w := by kernel_rfl
theorem ok_millpondref12_Lists_Order : okFn P ann_millpondref12_Lists_Order Go.Proofs.Try.f20 2 = true := by kernel_rfl
theorem of_millpondref12_Lists_Order (l : Option Addr) (groups : Sl) {K : Value → World → Prop} {w : World} (h : sh_millpondref12_Lists_Order l groups K w) : Calls P fn_millpondref12_Lists_Order #[(.pointer l), (.slice groups.p groups.n groups.c)] w (Ret K) := calls_of_vc mixed Go.Proofs.Try.func20 ok_millpondref12_Lists_Order (by rw [vc_millpondref12_Lists_Order]; exact h)

def ann_gens_Lists_Group : Ann := {}
/-- (*millpond/gens.Lists).Group -/
def sh_gens_Lists_Group (l : Option Addr) (id : Int) (K : Value → World → Prop) (w : World) : Prop :=
  NN l fun a1 => ∃ x2 : Option Nat, w.cell? (a1.add 0) = some (.map x2) ∧ ∃ x3 : Int, ∃ x4 : Int, ∃ x5 : Bool, LookV P 50 (.map x2) (.int .i64 id) true w (.tuple #[(.agg #[(.int .i64
    x3), (.int .i64 x4)]), (.bool x5)]) ∧ Al (.cells #[(.int .i64 0), (.int .i64 0)] 54) (fun p6 w7 => StN [(.int .i64 x3), (.int .i64 x4)] p6 (fun w8 => bif x5 then (∃ x9 : Int,
    w8.cell? (p6.add 0) = some (.int .i64 x9) ∧ K (.int .i64 x9) w8) else (K (.int .i64 (-1)) w8)) w7) w
theorem vc_gens_Lists_Group (l : Option Addr) (id : Int) (K : Value → World → Prop) (w : World) : vcFn P tau rho pan ann_gens_Lists_Group Go.Proofs.Try.f21 #[(.pointer l), (.int .i64 id)] K (fun _ _ => False) w = sh_gens_Lists_Group l id K w := by kernel_rfl
theorem ok_gens_Lists_Group : okFn P ann_gens_Lists_Group Go.Proofs.Try.f21 2 = true := by kernel_rfl
theorem of_gens_Lists_Group (l : Option Addr) (id : Int) {K : Value → World → Prop} {w : World} (h : sh_gens_Lists_Group l id K w) : Calls P fn_gens_Lists_Group #[(.pointer l), (.int .i64 id)] w (Ret K) := calls_of_vc mixed Go.Proofs.Try.func21 ok_gens_Lists_Group (by rw [vc_gens_Lists_Group]; exact h)

def ann_gens_Lists_Touch : Ann := { sig := fun r => (bif r == 4 then some ([0, 1, 2, 3, 4, 5, 6, 7, 8], [8]) else none) }
/-- (*millpond/gens.Lists).Touch -/
def sh_gens_Lists_Touch (l : Option Addr) (id : Int) (K : Value → World → Prop) (w : World) : Prop :=
  NN l fun a1 => ∃ x2 : Option Nat, w.cell? (a1.add 0) = some (.map x2) ∧ ∃ x3 : Int, ∃ x4 : Int, ∃ x5 : Bool, LookV P 50 (.map x2) (.int .i64 id) true w (.tuple #[(.agg #[(.int .i64
    x3), (.int .i64 x4)]), (.bool x5)]) ∧ Al (.cells #[(.int .i64 0), (.int .i64 0)] 54) (fun p6 w7 => StN [(.int .i64 x3), (.int .i64 x4)] p6 (fun w8 => bif (!x5) then (K (.int
    .i64 2) w8) else (Dr (fun w9 => NN l fun a10 => ∃ x11 : Option Nat, w9.cell? (a10.add 0) = some (.map x11) ∧ ∃ x12 : Int, w9.cell? (p6.add 0) = some (.int .i64 x12) ∧ ∃ w13 :
    World, Sem.run P (Instr.mapUpdate 50 (.map x11) (.int .i64 id) (.agg #[(.int .i64 x12), (.int .i64 0)])) w9 = .ok () w13 ∧ K (.int .i64 0) w13) w8)) w7) w
theorem vc_gens_Lists_Touch (l : Option Addr) (id : Int) (K : Value → World → Prop) (w : World) : vcFn P tau rho pan ann_gens_Lists_Touch Go.Proofs.Try.f22 #[(.pointer l), (.int .i64 id)] K (fun _ _ => False) w = sh_gens_Lists_Touch l id K w := by kernel_rfl
theorem ok_gens_Lists_Touch : okFn P ann_gens_Lists_Touch Go.Proofs.Try.f22 2 = true := by kernel_rfl
theorem of_gens_Lists_Touch (l : Option Addr) (id : Int) {K : Value → World → Prop} {w : World} (h : sh_gens_Lists_Touch l id K w) : Calls P fn_gens_Lists_Touch #[(.pointer l), (.int .i64 id)] w (Ret K) := calls_of_vc mixed Go.Proofs.Try.func22 ok_gens_Lists_Touch (by rw [vc_gens_Lists_Touch]; exact h)

def ann_gens_Lists_Age : Ann := {}
/-- (*millpond/gens.Lists).Age -/
def sh_gens_Lists_Age (l : Option Addr) (group : Int) (K : Value → World → Prop) (w : World) : Prop :=
  Calls P fn_gens_Lists_each #[(.pointer l), (.int .i64 group), (.func (.func fn_gens_Lists_Age_1) #[] #[])] w fun e2 w1 => ∃ x3 : Int, e2 = .returned (.int .i64 x3) ∧ K (.int .i64
    x3) w1
theorem vc_gens_Lists_Age (l : Option Addr) (group : Int) (K : Value → World → Prop) (w : World) : vcFn P tau rho pan ann_gens_Lists_Age Go.Proofs.Try.f23 #[(.pointer l), (.int .i64 group)] K (fun _ _ => False) w = sh_gens_Lists_Age l group K w := by kernel_rfl
theorem ok_gens_Lists_Age : okFn P ann_gens_Lists_Age Go.Proofs.Try.f23 2 = true := by kernel_rfl
theorem of_gens_Lists_Age (l : Option Addr) (group : Int) {K : Value → World → Prop} {w : World} (h : sh_gens_Lists_Age l group K w) : Calls P fn_gens_Lists_Age #[(.pointer l), (.int .i64 group)] w (Ret K) := calls_of_vc mixed Go.Proofs.Try.func23 ok_gens_Lists_Age (by rw [vc_gens_Lists_Age]; exact h)

def ann_gens_Lists_Move : Ann := { quiet := fun d => [8, 11].contains d, join := fun r => (bif r == 3 then some [] else none) }
/-- (*millpond/gens.Lists).Move -/
def sh_gens_Lists_Move (l : Option Addr) (fromA : Int) (toA : Int) (K : Value → World → Prop) (w : World) : Prop :=
  Al (.cells #[(.int .i64 toA)] 3) (fun p1 w2 => ∃ J3 : World → Prop, (∃ x6 : Int, w2.cell? p1 = some (.int .i64 x6) ∧ bif (decide (x6 < 0)) then (K (.int .i64 0) w2) else (∃ x7 :
    Int, w2.cell? p1 = some (.int .i64 x7) ∧ bif (decide (x7 > 16777216)) then (K (.int .i64 0) w2) else (J3 w2))) ∧ (∀ _u5 : Nat → Value, ∀ w4 : World, J3 w4 → Calls P
    fn_gens_Lists_each #[(.pointer l), (.int .i64 fromA), (.func (.func fn_gens_Lists_Move_1) #[] #[(.pointer (some p1))])] w4 fun e9 w8 => ∃ x10 : Int, e9 = .returned (.int .i64
    x10) ∧ K (.int .i64 x10) w8)) w
theorem vc_gens_Lists_Move (l : Option Addr) (fromA : Int) (toA : Int) (K : Value → World → Prop) (w : World) : vcFn P tau rho pan ann_gens_Lists_Move Go.Proofs.Try.f24 #[(.pointer l), (.int .i64 fromA), (.int .i64 toA)] K (fun _ _ => False) w = sh_gens_Lists_Move l fromA toA K w := by kernel_rfl
theorem ok_gens_Lists_Move : okFn P ann_gens_Lists_Move Go.Proofs.Try.f24 3 = true := by kernel_rfl
theorem of_gens_Lists_Move (l : Option Addr) (fromA : Int) (toA : Int) {K : Value → World → Prop} {w : World} (h : sh_gens_Lists_Move l fromA toA K w) : Calls P fn_gens_Lists_Move #[(.pointer l), (.int .i64 fromA), (.int .i64 toA)] w (Ret K) := calls_of_vc mixed Go.Proofs.Try.func24 ok_gens_Lists_Move (by rw [vc_gens_Lists_Move]; exact h)

def ann_gens_Lists_Drop : Ann := {}
/-- (*millpond/gens.Lists).Drop -/
def sh_gens_Lists_Drop (l : Option Addr) (id : Int) (K : Value → World → Prop) (w : World) : Prop :=
  NN l fun a1 => ∃ x2 : Option Nat, w.cell? (a1.add 0) = some (.map x2) ∧ ∃ x3 : Int, ∃ x4 : Int, ∃ x5 : Bool, LookV P 50 (.map x2) (.int .i64 id) true w (.tuple #[(.agg #[(.int .i64
    x3), (.int .i64 x4)]), (.bool x5)]) ∧ Al (.cells #[(.int .i64 0), (.int .i64 0)] 54) (fun p6 w7 => StN [(.int .i64 x3), (.int .i64 x4)] p6 (fun w8 => bif (!x5) then (K (.int
    .i64 2) w8) else (NN l fun a9 => ∃ x10 : Option Nat, w8.cell? (a9.add 0) = some (.map x10) ∧ ∃ w11 : World, Sem.run P (Builtin.delete_ #[50, 3] 0 #[(.map x10), (.int .i64 id)])
    w8 = .ok (.tuple #[]) w11 ∧ K (.int .i64 0) w11)) w7) w
theorem vc_gens_Lists_Drop (l : Option Addr) (id : Int) (K : Value → World → Prop) (w : World) : vcFn P tau rho pan ann_gens_Lists_Drop Go.Proofs.Try.f25 #[(.pointer l), (.int .i64 id)] K (fun _ _ => False) w = sh_gens_Lists_Drop l id K w := by kernel_rfl
theorem ok_gens_Lists_Drop : okFn P ann_gens_Lists_Drop Go.Proofs.Try.f25 2 = true := by kernel_rfl
theorem of_gens_Lists_Drop (l : Option Addr) (id : Int) {K : Value → World → Prop} {w : World} (h : sh_gens_Lists_Drop l id K w) : Calls P fn_gens_Lists_Drop #[(.pointer l), (.int .i64 id)] w (Ret K) := calls_of_vc mixed Go.Proofs.Try.func25 ok_gens_Lists_Drop (by rw [vc_gens_Lists_Drop]; exact h)

def ann_slices_DeleteFunc_int_int : Ann := { quiet := fun d => [12, 15, 18, 19, 21, 35].contains d, dyn := fun d => [28].contains d, loop := fun r => (bif r == 5 then [(5, .int .i64), (6, .int .i64)] else []) }
/-- slices.DeleteFunc[[]int,int] -/
def sh_slices_DeleteFunc_int_int (s : Sl) (del : Value) (K : Value → World → Prop) (w : World) : Prop :=
  Calls P fn_slices_IndexFunc_int_int #[(.slice s.p s.n s.c), del] w fun e2 w1 => ∃ x3 : Int, e2 = .returned (.int .i64 x3) ∧ bif (x3 == (-1)) then (K (.slice s.p s.n s.c) w1) else (∃
    (I4 : Int → Int → World → Prop) (M5 : Int → Int → World → Nat), I4 x3 (IntKind.i64.wrap (x3 + 1)) w1 ∧ ∀ _u7 : Nat → Value, ∀ i8 : Int, ∀ j9 : Int, ∀ w6 : World, I4 i8 j9 w6 →
    bif (decide (j9 < ((s.n : Nat) : Int))) then (elAt s.p s.n j9 1 fun a10 => ∃ x11 : Int, w6.cell? a10 = some (.int .i64 x11) ∧ callD P del #[(.int .i64 x11)] w6 fun e13 w12 => ∃
    x14 : Bool, e13 = .returned (.bool x14) ∧ bif (!x14) then (elAt s.p s.n i8 1 fun a15 => St a15 (.int .i64 x11) (fun w16 => (I4 (IntKind.i64.wrap (i8 + 1)) (IntKind.i64.wrap (j9
    + 1)) w16 ∧ M5 (IntKind.i64.wrap (i8 + 1)) (IntKind.i64.wrap (j9 + 1)) w16 < M5 i8 j9 w6)) w12) else ((I4 i8 (IntKind.i64.wrap (j9 + 1)) w12 ∧ M5 i8 (IntKind.i64.wrap (j9 + 1))
    w12 < M5 i8 j9 w6))) else ((0 ≤ i8 ∧ i8 ≤ ((s.n : Nat) : Int)) ∧ ∃ w17 : World, Sem.run P (Builtin.clear_ #[22] 0 #[(.slice (slA s.p i8.toNat s.c 1) (s.n - i8.toNat) (s.c -
    i8.toNat))]) w6 = .ok (.tuple #[]) w17 ∧ (0 ≤ i8 ∧ i8 ≤ ((s.c : Nat) : Int)) ∧ K (.slice (slA s.p 0 s.c 1) (i8.toNat - 0) (s.c - 0)) w17))
theorem vc_slices_DeleteFunc_int_int (s : Sl) (del : Value) (K : Value → World → Prop) (w : World) : vcFn P tau rho pan ann_slices_DeleteFunc_int_int Go.Proofs.Try.f26 #[(.slice s.p s.n s.c), del] K (fun _ _ => False) w = sh_slices_DeleteFunc_int_int s del K w := by kernel_rfl
theorem ok_slices_DeleteFunc_int_int : okFn P ann_slices_DeleteFunc_int_int Go.Proofs.Try.f26 2 = true := by kernel_rfl
theorem of_slices_DeleteFunc_int_int (s : Sl) (del : Value) {K : Value → World → Prop} {w : World} (h : sh_slices_DeleteFunc_int_int s del K w) : Calls P fn_slices_DeleteFunc_int_int #[(.slice s.p s.n s.c), del] w (Ret K) := calls_of_vc mixed Go.Proofs.Try.func26 ok_slices_DeleteFunc_int_int (by rw [vc_slices_DeleteFunc_int_int]; exact h)

def ann_gens_Lists_Order_1 : Ann := { sig := fun r => (bif r == 1 then some ([0, 1, 2, 3, 4, 5, 6, 7, 8, 9, 10], [8]) else none) }
/-- (*millpond/gens.Lists).Order$1 -/
def sh_gens_Lists_Order_1 (id : Int) (c_f : Addr) (c_fq : Addr) (K : Value → World → Prop) (w : World) : Prop :=
  Dr (fun w1 => ∃ x2 : Sl, w1.cell? c_f = some (.slice x2.p x2.n x2.c) ∧ ∃ x3 : Option Addr, w1.cell? c_fq = some (.pointer x3) ∧ NN x3 fun a4 => ∃ x5 : Option Nat, w1.cell? (a4.add
    0) = some (.map x5) ∧ ∃ x6 : Int, ∃ x7 : Int, LookV P 50 (.map x5) (.int .i64 id) false w1 (.agg #[(.int .i64 x6), (.int .i64 x7)]) ∧ Calls P fn_slices_Contains_int_int
    #[(.slice x2.p x2.n x2.c), (.int .i64 x6)] w1 fun e9 w8 => ∃ x10 : Bool, e9 = .returned (.bool x10) ∧ K (.bool (!x10)) w8) w
theorem vc_gens_Lists_Order_1 (id : Int) (c_f : Addr) (c_fq : Addr) (K : Value → World → Prop) (w : World) : vcFn P tau rho pan ann_gens_Lists_Order_1 Go.Proofs.Try.f29 #[(.int .i64 id), (.pointer (some c_f)), (.pointer (some c_fq))] K (fun _ _ => False) w = sh_gens_Lists_Order_1 id c_f c_fq K w := by kernel_rfl
theorem ok_gens_Lists_Order_1 : okFn P ann_gens_Lists_Order_1 Go.Proofs.Try.f29 3 = true := by kernel_rfl
theorem of_gens_Lists_Order_1 (id : Int) (c_f : Addr) (c_fq : Addr) {K : Value → World → Prop} {w : World} (h : sh_gens_Lists_Order_1 id c_f c_fq K w) : Calls P fn_gens_Lists_Order_1 #[(.int .i64 id), (.pointer (some c_f)), (.pointer (some c_fq))] w (Ret K) := calls_of_vc mixed Go.Proofs.Try.func29 ok_gens_Lists_Order_1 (by rw [vc_gens_Lists_Order_1]; exact h)

def ann_slices_Contains_int_int : Ann := { quiet := fun d => [8].contains d }
/-- slices.Contains[[]int,int] -/
def sh_slices_Contains_int_int (s : Sl) (v : Int) (K : Value → World → Prop) (w : World) : Prop :=
  Calls P fn_slices_Index_int_int #[(.slice s.p s.n s.c), (.int .i64 v)] w fun e2 w1 => ∃ x3 : Int, e2 = .returned (.int .i64 x3) ∧ K (.bool (decide (x3 ≥ 0))) w1
theorem vc_slices_Contains_int_int (s : Sl) (v : Int) (K : Value → World → Prop) (w : World) : vcFn P tau rho pan ann_slices_Contains_int_int Go.Proofs.Try.f30 #[(.slice s.p s.n s.c), (.int .i64 v)] K (fun _ _ => False) w = sh_slices_Contains_int_int s v K w := by kernel_rfl
theorem ok_slices_Contains_int_int : okFn P ann_slices_Contains_int_int Go.Proofs.Try.f30 2 = true := by kernel_rfl
theorem of_slices_Contains_int_int (s : Sl) (v : Int) {K : Value → World → Prop} {w : World} (h : sh_slices_Contains_int_int s v K w) : Calls P fn_slices_Contains_int_int #[(.slice s.p s.n s.c), (.int .i64 v)] w (Ret K) := calls_of_vc mixed Go.Proofs.Try.func30 ok_slices_Contains_int_int (by rw [vc_slices_Contains_int_int]; exact h)

def ann_slices_SortStableFunc_int_int : Ann := { quiet := fun d => [6].contains d }
/-- slices.SortStableFunc[[]int,int] -/
def sh_slices_SortStableFunc_int_int (x : Sl) (cmp : Value) (K : Value → World → Prop) (w : World) : Prop :=
  Calls P fn_slices_stableCmpFunc_int #[(.slice x.p x.n x.c), (.int .i64 ((x.n : Nat) : Int)), cmp] w fun e2 w1 => e2 = .returned (.tuple #[]) ∧ K (.tuple #[]) w1
theorem vc_slices_SortStableFunc_int_int (x : Sl) (cmp : Value) (K : Value → World → Prop) (w : World) : vcFn P tau rho pan ann_slices_SortStableFunc_int_int Go.Proofs.Try.f31 #[(.slice x.p x.n x.c), cmp] K (fun _ _ => False) w = sh_slices_SortStableFunc_int_int x cmp K w := by kernel_rfl
theorem ok_slices_SortStableFunc_int_int : okFn P ann_slices_SortStableFunc_int_int Go.Proofs.Try.f31 2 = true := by kernel_rfl
theorem of_slices_SortStableFunc_int_int (x : Sl) (cmp : Value) {K : Value → World → Prop} {w : World} (h : sh_slices_SortStableFunc_int_int x cmp K w) : Calls P fn_slices_SortStableFunc_int_int #[(.slice x.p x.n x.c), cmp] w (Ret K) := calls_of_vc mixed Go.Proofs.Try.func31 ok_slices_SortStableFunc_int_int (by rw [vc_slices_SortStableFunc_int_int]; exact h)

def ann_gens_Lists_Order_2 : Ann := { sig := fun r => (bif r == 1 then some ([0, 1, 2, 3, 4, 5, 6, 7, 8, 9, 10, 11, 12, 13, 14, 15], [14]) else none) }
/-- (*millpond/gens.Lists).Order$2 -/
def sh_gens_Lists_Order_2 (a : Int) (b : Int) (c_f : Addr) (K : Value → World → Prop) (w : World) : Prop :=
  Dr (fun w1 => ∃ x2 : Option Addr, w1.cell? c_f = some (.pointer x2) ∧ NN x2 fun a3 => ∃ x4 : Option Nat, w1.cell? (a3.add 0) = some (.map x4) ∧ ∃ x5 : Int, ∃ x6 : Int, LookV P 50
    (.map x4) (.int .i64 b) false w1 (.agg #[(.int .i64 x5), (.int .i64 x6)]) ∧ ∃ x7 : Option Addr, w1.cell? c_f = some (.pointer x7) ∧ NN x7 fun a8 => ∃ x9 : Option Nat, w1.cell?
    (a8.add 0) = some (.map x9) ∧ ∃ x10 : Int, ∃ x11 : Int, LookV P 50 (.map x9) (.int .i64 a) false w1 (.agg #[(.int .i64 x10), (.int .i64 x11)]) ∧ Calls P fn_cmp_Compare_int
    #[(.int .i64 x6), (.int .i64 x11)] w1 fun e13 w12 => ∃ x14 : Int, e13 = .returned (.int .i64 x14) ∧ K (.int .i64 x14) w12) w
theorem vc_gens_Lists_Order_2 (a : Int) (b : Int) (c_f : Addr) (K : Value → World → Prop) (w : World) : vcFn P tau rho pan ann_gens_Lists_Order_2 Go.Proofs.Try.f32 #[(.int .i64 a), (.int .i64 b), (.pointer (some c_f))] K (fun _ _ => False) w = sh_gens_Lists_Order_2 a b c_f K w := by kernel_rfl
theorem ok_gens_Lists_Order_2 : okFn P ann_gens_Lists_Order_2 Go.Proofs.Try.f32 3 = true := by kernel_rfl
theorem of_gens_Lists_Order_2 (a : Int) (b : Int) (c_f : Addr) {K : Value → World → Prop} {w : World} (h : sh_gens_Lists_Order_2 a b c_f K w) : Calls P fn_gens_Lists_Order_2 #[(.int .i64 a), (.int .i64 b), (.pointer (some c_f))] w (Ret K) := calls_of_vc mixed Go.Proofs.Try.func32 ok_gens_Lists_Order_2 (by rw [vc_gens_Lists_Order_2]; exact h)

def ann_cmp_Compare_int : Ann := { quiet := fun d => [16, 19].contains d }
/-- cmp.Compare[int] -/
def sh_cmp_Compare_int (x : Int) (y : Int) (K : Value → World → Prop) (w : World) : Prop :=
  Calls P fn_cmp_isNaN_int #[(.int .i64 x)] w fun e2 w1 => ∃ x3 : Bool, e2 = .returned (.bool x3) ∧ Calls P fn_cmp_isNaN_int #[(.int .i64 y)] w1 fun e5 w4 => ∃ x6 : Bool, e5 =
    .returned (.bool x6) ∧ bif x3 then (bif x6 then (K (.int .i64 0) w4) else (K (.int .i64 (-1)) w4)) else (bif x6 then (K (.int .i64 1) w4) else (bif (decide (x < y)) then (K
    (.int .i64 (-1)) w4) else (bif (decide (x > y)) then (K (.int .i64 1) w4) else (K (.int .i64 0) w4))))
theorem vc_cmp_Compare_int (x : Int) (y : Int) (K : Value → World → Prop) (w : World) : vcFn P tau rho pan ann_cmp_Compare_int Go.Proofs.Try.f33 #[(.int .i64 x), (.int .i64 y)] K (fun _ _ => False) w = sh_cmp_Compare_int x y K w := by kernel_rfl
theorem ok_cmp_Compare_int : okFn P ann_cmp_Compare_int Go.Proofs.Try.f33 2 = true := by kernel_rfl
theorem of_cmp_Compare_int (x : Int) (y : Int) {K : Value → World → Prop} {w : World} (h : sh_cmp_Compare_int x y K w) : Calls P fn_cmp_Compare_int #[(.int .i64 x), (.int .i64 y)] w (Ret K) := calls_of_vc mixed Go.Proofs.Try.func33 ok_cmp_Compare_int (by rw [vc_cmp_Compare_int]; exact h)

def ann_millpondref12_Lists_Drop : Ann := { quiet := fun d => [11, 26].contains d }
/-- (*millpond/millpondref12.Lists).Drop -/
def sh_millpondref12_Lists_Drop (l : Option Addr) (id : Int) (K : Value → World → Prop) (w : World) : Prop :=
  Calls P fn_millpondref12_Lists_Find #[(.pointer l), (.int .i64 id)] w fun e2 w1 => ∃ x3 : Int, e2 = .returned (.int .i64 x3) ∧ bif (decide (x3 < 0)) then (K (.int .i64 2) w1) else
    (NN l fun a4 => ∃ x5 : Sl, w1.cell? (a4.add 0) = some (.slice x5.p x5.n x5.c) ∧ (0 ≤ x3 ∧ x3 ≤ ((x5.c : Nat) : Int)) ∧ ∃ x7 : Sl, ∃ w6 : World, Sem.run P (Builtin.append_ #[34,
    34] 34 #[(.slice none 0 0), (.slice (slA x5.p 0 x5.c 3) (x3.toNat - 0) (x5.c - 0))]) w1 = .ok (.slice x7.p x7.n x7.c) w6 ∧ NN l fun a8 => ∃ x9 : Sl, w6.cell? (a8.add 0) = some
    (.slice x9.p x9.n x9.c) ∧ (0 ≤ (IntKind.i64.wrap (x3 + 1)) ∧ (IntKind.i64.wrap (x3 + 1)) ≤ ((x9.n : Nat) : Int)) ∧ ∃ x11 : Sl, ∃ w10 : World, Sem.run P (Builtin.append_ #[34,
    34] 34 #[(.slice x7.p x7.n x7.c), (.slice (slA x9.p ((IntKind.i64.wrap (x3 + 1)).toNat) x9.c 3) (x9.n - (IntKind.i64.wrap (x3 + 1)).toNat) (x9.c - (IntKind.i64.wrap (x3 +
    1)).toNat))]) w6 = .ok (.slice x11.p x11.n x11.c) w10 ∧ NN l fun a12 => St (a12.add 0) (.slice x11.p x11.n x11.c) (fun w13 => K (.int .i64 0) w13) w10)
theorem vc_millpondref12_Lists_Drop (l : Option Addr) (id : Int) (K : Value → World → Prop) (w : World) : vcFn P tau rho pan ann_millpondref12_Lists_Drop Go.Proofs.Try.f34 #[(.pointer l), (.int .i64 id)] K (fun _ _ => False) w = sh_millpondref12_Lists_Drop l id K w := by kernel_rfl
theorem ok_millpondref12_Lists_Drop : okFn P ann_millpondref12_Lists_Drop Go.Proofs.Try.f34 2 = true := by kernel_rfl
theorem of_millpondref12_Lists_Drop (l : Option Addr) (id : Int) {K : Value → World → Prop} {w : World} (h : sh_millpondref12_Lists_Drop l id K w) : Calls P fn_millpondref12_Lists_Drop #[(.pointer l), (.int .i64 id)] w (Ret K) := calls_of_vc mixed Go.Proofs.Try.func34 ok_millpondref12_Lists_Drop (by rw [vc_millpondref12_Lists_Drop]; exact h)

def ann_millpondref12_Lists_Touch : Ann := { quiet := fun d => [10].contains d }
/-- (*millpond/millpondref12.Lists).Touch -/
def sh_millpondref12_Lists_Touch (l : Option Addr) (id : Int) (K : Value → World → Prop) (w : World) : Prop :=
  Calls P fn_millpondref12_Lists_Find #[(.pointer l), (.int .i64 id)] w fun e2 w1 => ∃ x3 : Int, e2 = .returned (.int .i64 x3) ∧ bif (decide (x3 < 0)) then (K (.int .i64 2) w1) else
    (NN l fun a4 => ∃ x5 : Sl, w1.cell? (a4.add 0) = some (.slice x5.p x5.n x5.c) ∧ elAt x5.p x5.n x3 3 fun a6 => St (a6.add 2) (.int .i64 0) (fun w7 => K (.int .i64 0) w7) w1)
theorem vc_millpondref12_Lists_Touch (l : Option Addr) (id : Int) (K : Value → World → Prop) (w : World) : vcFn P tau rho pan ann_millpondref12_Lists_Touch Go.Proofs.Try.f35 #[(.pointer l), (.int .i64 id)] K (fun _ _ => False) w = sh_millpondref12_Lists_Touch l id K w := by kernel_rfl
theorem ok_millpondref12_Lists_Touch : okFn P ann_millpondref12_Lists_Touch Go.Proofs.Try.f35 2 = true := by kernel_rfl
theorem of_millpondref12_Lists_Touch (l : Option Addr) (id : Int) {K : Value → World → Prop} {w : World} (h : sh_millpondref12_Lists_Touch l id K w) : Calls P fn_millpondref12_Lists_Touch #[(.pointer l), (.int .i64 id)] w (Ret K) := calls_of_vc mixed Go.Proofs.Try.func35 ok_millpondref12_Lists_Touch (by rw [vc_millpondref12_Lists_Touch]; exact h)

def ann_millpondref12_Lists_Age : Ann := { quiet := fun d => [12, 13, 15, 25, 35, 45, 49].contains d, loop := fun r => (bif r == 3 then [(5, .int .i64), (6, .int .i64)] else []), join := fun r => (bif r == 6 then some [(36, .bool)] else none) }
/-- (*millpond/millpondref12.Lists).Age -/
def sh_millpondref12_Lists_Age (l : Option Addr) (group : Int) (K : Value → World → Prop) (w : World) : Prop :=
  ∃ (I1 : Int → Int → World → Prop) (M2 : Int → Int → World → Nat), I1 0 0 w ∧ ∀ _u4 : Nat → Value, ∀ n5 : Int, ∀ i6 : Int, ∀ w3 : World, I1 n5 i6 w3 → NN l fun a7 => ∃ x8 : Sl,
    w3.cell? (a7.add 0) = some (.slice x8.p x8.n x8.c) ∧ bif (decide (i6 < ((x8.n : Nat) : Int))) then (∃ J9 : Bool → World → Prop, (NN l fun a13 => ∃ x14 : Sl, w3.cell? (a13.add 0)
    = some (.slice x14.p x14.n x14.c) ∧ elAt x14.p x14.n i6 3 fun a15 => ∃ x16 : Int, w3.cell? (a15.add 1) = some (.int .i64 x16) ∧ bif (x16 == group) then (NN l fun a17 => ∃ x18 :
    Sl, w3.cell? (a17.add 0) = some (.slice x18.p x18.n x18.c) ∧ elAt x18.p x18.n i6 3 fun a19 => ∃ x20 : Int, w3.cell? (a19.add 2) = some (.int .i64 x20) ∧ J9 (decide (x20 < 3))
    w3) else (J9 false w3)) ∧ (∀ _u11 : Nat → Value, ∀ x12 : Bool, ∀ w10 : World, J9 x12 w10 → bif x12 then (NN l fun a21 => ∃ x22 : Sl, w10.cell? (a21.add 0) = some (.slice x22.p
    x22.n x22.c) ∧ elAt x22.p x22.n i6 3 fun a23 => ∃ x24 : Int, w10.cell? (a23.add 2) = some (.int .i64 x24) ∧ elAt x22.p x22.n i6 3 fun a25 => St (a25.add 2) (.int .i64
    (IntKind.i64.wrap (x24 + 1))) (fun w26 => (I1 (IntKind.i64.wrap (n5 + 1)) (IntKind.i64.wrap (i6 + 1)) w26 ∧ M2 (IntKind.i64.wrap (n5 + 1)) (IntKind.i64.wrap (i6 + 1)) w26 < M2
    n5 i6 w3)) w10) else ((I1 n5 (IntKind.i64.wrap (i6 + 1)) w10 ∧ M2 n5 (IntKind.i64.wrap (i6 + 1)) w10 < M2 n5 i6 w3)))) else (K (.int .i64 n5) w3)
theorem vc_millpondref12_Lists_Age (l : Option Addr) (group : Int) (K : Value → World → Prop) (w : World) : vcFn P tau rho pan ann_millpondref12_Lists_Age Go.Proofs.Try.f36 #[(.pointer l), (.int .i64 group)] K (fun _ _ => False) w = sh_millpondref12_Lists_Age l group K w := by kernel_rfl
theorem ok_millpondref12_Lists_Age : okFn P ann_millpondref12_Lists_Age Go.Proofs.Try.f36 2 = true := by kernel_rfl
theorem of_millpondref12_Lists_Age (l : Option Addr) (group : Int) {K : Value → World → Prop} {w : World} (h : sh_millpondref12_Lists_Age l group K w) : Calls P fn_millpondref12_Lists_Age #[(.pointer l), (.int .i64 group)] w (Ret K) := calls_of_vc mixed Go.Proofs.Try.func36 ok_millpondref12_Lists_Age (by rw [vc_millpondref12_Lists_Age]; exact h)

def ann_millpondref12_Lists_Move : Ann := { quiet := fun d => [14, 15, 17, 27, 30, 34, 39, 50].contains d, loop := fun r => (bif r == 3 then [(7, .int .i64), (8, .int .i64)] else []), join := fun r => (bif r == 6 then some [(40, .bool)] else none) }
/-- (*millpond/millpondref12.Lists).Move -/
def sh_millpondref12_Lists_Move (l : Option Addr) (fromA : Int) (toA : Int) (K : Value → World → Prop) (w : World) : Prop :=
  ∃ (I1 : Int → Int → World → Prop) (M2 : Int → Int → World → Nat), I1 0 0 w ∧ ∀ _u4 : Nat → Value, ∀ n5 : Int, ∀ i6 : Int, ∀ w3 : World, I1 n5 i6 w3 → NN l fun a7 => ∃ x8 : Sl,
    w3.cell? (a7.add 0) = some (.slice x8.p x8.n x8.c) ∧ bif (decide (i6 < ((x8.n : Nat) : Int))) then (∃ J9 : Bool → World → Prop, (NN l fun a13 => ∃ x14 : Sl, w3.cell? (a13.add 0)
    = some (.slice x14.p x14.n x14.c) ∧ elAt x14.p x14.n i6 3 fun a15 => ∃ x16 : Int, w3.cell? (a15.add 1) = some (.int .i64 x16) ∧ bif (x16 == fromA) then (bif (decide (toA ≥ 0))
    then (bif (decide (toA ≤ 16777216)) then (J9 (fromA != toA) w3) else (J9 false w3)) else (J9 false w3)) else (J9 false w3)) ∧ (∀ _u11 : Nat → Value, ∀ x12 : Bool, ∀ w10 : World,
    J9 x12 w10 → bif x12 then (NN l fun a17 => ∃ x18 : Sl, w10.cell? (a17.add 0) = some (.slice x18.p x18.n x18.c) ∧ elAt x18.p x18.n i6 3 fun a19 => St (a19.add 1) (.int .i64 toA)
    (fun w20 => (I1 (IntKind.i64.wrap (n5 + 1)) (IntKind.i64.wrap (i6 + 1)) w20 ∧ M2 (IntKind.i64.wrap (n5 + 1)) (IntKind.i64.wrap (i6 + 1)) w20 < M2 n5 i6 w3)) w10) else ((I1 n5
    (IntKind.i64.wrap (i6 + 1)) w10 ∧ M2 n5 (IntKind.i64.wrap (i6 + 1)) w10 < M2 n5 i6 w3)))) else (K (.int .i64 n5) w3)
theorem vc_millpondref12_Lists_Move (l : Option Addr) (fromA : Int) (toA : Int) (K : Value → World → Prop) (w : World) : vcFn P tau rho pan ann_millpondref12_Lists_Move Go.Proofs.Try.f37 #[(.pointer l), (.int .i64 fromA), (.int .i64 toA)] K (fun _ _ => False) w = sh_millpondref12_Lists_Move l fromA toA K w := by kernel_rfl
theorem ok_millpondref12_Lists_Move : okFn P ann_millpondref12_Lists_Move Go.Proofs.Try.f37 3 = true := by kernel_rfl
theorem of_millpondref12_Lists_Move (l : Option Addr) (fromA : Int) (toA : Int) {K : Value → World → Prop} {w : World} (h : sh_millpondref12_Lists_Move l fromA toA K w) : Calls P fn_millpondref12_Lists_Move #[(.pointer l), (.int .i64 fromA), (.int .i64 toA)] w (Ret K) := calls_of_vc mixed Go.Proofs.Try.func37 ok_millpondref12_Lists_Move (by rw [vc_millpondref12_Lists_Move]; exact h)

def ann_millpondref12_Lists_Add : Ann := { quiet := fun d => [14, 17, 21, 25, 30, 41, 42, 44, 57].contains d, loop := fun r => (bif r == 11 then [(10, .slice), (11, .bool), (12, .int .i64)] else []), join := fun r => (bif r == 3 then some [] else bif r == 8 then some [] else bif r == 14 then some [(58, .bool)] else bif r == 16 then some [(10, .slice), (11, .bool)] else none) }
/-- (*millpond/millpondref12.Lists).Add -/
def sh_millpondref12_Lists_Add (l : Option Addr) (id : Int) (group : Int) (old : Bool) (K : Value → World → Prop) (w : World) : Prop :=
  ∃ J1 : World → Prop, (bif (decide (id < 0)) then (K (.int .i64 1) w) else (bif (decide (id > 16777216)) then (K (.int .i64 1) w) else (bif (decide (group < 0)) then (K (.int .i64 1)
    w) else (bif (decide (group > 16777216)) then (K (.int .i64 1) w) else (J1 w))))) ∧ (∀ _u3 : Nat → Value, ∀ w2 : World, J1 w2 → Calls P fn_millpondref12_Lists_Find #[(.pointer
    l), (.int .i64 id)] w2 fun e5 w4 => ∃ x6 : Int, e5 = .returned (.int .i64 x6) ∧ bif (decide (x6 ≥ 0)) then (K (.int .i64 4) w4) else (Al (.cells #[(.int .i64 0), (.int .i64 0),
    (.int .i64 0)] 65) (fun p7 w8 => StN [(.int .i64 id), (.int .i64 group), (.int .i64 0)] p7 (fun w9 => ∃ J10 : World → Prop, (bif old then (St (p7.add 2) (.int .i64 1) (fun w13
    => J10 w13) w9) else (J10 w9)) ∧ (∀ _u12 : Nat → Value, ∀ w11 : World, J10 w11 → ∃ (I14 : Sl → Bool → Int → World → Prop) (M15 : Sl → Bool → Int → World → Nat), I14 ⟨none, 0, 0⟩
    false 0 w11 ∧ ∀ _u17 : Nat → Value, ∀ out18 : Sl, ∀ put19 : Bool, ∀ i20 : Int, ∀ w16 : World, I14 out18 put19 i20 w16 → NN l fun a21 => ∃ x22 : Sl, w16.cell? (a21.add 0) = some
    (.slice x22.p x22.n x22.c) ∧ bif (decide (i20 < ((x22.n : Nat) : Int))) then (∃ J23 : Sl → Bool → World → Prop, (∃ J28 : Bool → World → Prop, (bif (!put19) then (NN l fun a32 =>
    ∃ x33 : Sl, w16.cell? (a32.add 0) = some (.slice x33.p x33.n x33.c) ∧ elAt x33.p x33.n i20 3 fun a34 => ∃ x35 : Int, w16.cell? (a34.add 0) = some (.int .i64 x35) ∧ J28 (decide
    (x35 > id)) w16) else (J28 false w16)) ∧ (∀ _u30 : Nat → Value, ∀ x31 : Bool, ∀ w29 : World, J28 x31 w29 → bif x31 then (∃ x36 : Int, w29.cell? (p7.add 0) = some (.int .i64 x36)
    ∧ ∃ x37 : Int, w29.cell? (p7.add 1) = some (.int .i64 x37) ∧ ∃ x38 : Int, w29.cell? (p7.add 2) = some (.int .i64 x38) ∧ Al (.cells #[(.int .i64 x36), (.int .i64 x37), (.int .i64
    x38)] 65) (fun p39 w40 => ∃ x42 : Sl, ∃ w41 : World, Sem.run P (Builtin.append_ #[34, 34] 34 #[(.slice out18.p out18.n out18.c), (.slice (some p39) 1 1)]) w40 = .ok (.slice
    x42.p x42.n x42.c) w41 ∧ J23 x42 true w41) w29) else (J23 out18 put19 w29))) ∧ (∀ _u25 : Nat → Value, ∀ out26 : Sl, ∀ put27 : Bool, ∀ w24 : World, J23 out26 put27 w24 → NN l fun
    a43 => ∃ x44 : Sl, w24.cell? (a43.add 0) = some (.slice x44.p x44.n x44.c) ∧ elAt x44.p x44.n i20 3 fun a45 => ∃ x46 : Int, w24.cell? (a45.add 0) = some (.int .i64 x46) ∧ ∃ x47
    : Int, w24.cell? (a45.add 1) = some (.int .i64 x47) ∧ ∃ x48 : Int, w24.cell? (a45.add 2) = some (.int .i64 x48) ∧ Al (.cells #[(.int .i64 x46), (.int .i64 x47), (.int .i64 x48)]
    65) (fun p49 w50 => ∃ x52 : Sl, ∃ w51 : World, Sem.run P (Builtin.append_ #[34, 34] 34 #[(.slice out26.p out26.n out26.c), (.slice (some p49) 1 1)]) w50 = .ok (.slice x52.p
    x52.n x52.c) w51 ∧ (I14 x52 put27 (IntKind.i64.wrap (i20 + 1)) w51 ∧ M15 x52 put27 (IntKind.i64.wrap (i20 + 1)) w51 < M15 out18 put19 i20 w16)) w24)) else (bif (!put19) then (∃
    x53 : Int, w16.cell? (p7.add 0) = some (.int .i64 x53) ∧ ∃ x54 : Int, w16.cell? (p7.add 1) = some (.int .i64 x54) ∧ ∃ x55 : Int, w16.cell? (p7.add 2) = some (.int .i64 x55) ∧ Al
    (.cells #[(.int .i64 x53), (.int .i64 x54), (.int .i64 x55)] 65) (fun p56 w57 => ∃ x59 : Sl, ∃ w58 : World, Sem.run P (Builtin.append_ #[34, 34] 34 #[(.slice out18.p out18.n
    out18.c), (.slice (some p56) 1 1)]) w57 = .ok (.slice x59.p x59.n x59.c) w58 ∧ NN l fun a60 => St (a60.add 0) (.slice x59.p x59.n x59.c) (fun w61 => K (.int .i64 0) w61) w58)
    w16) else (NN l fun a62 => St (a62.add 0) (.slice out18.p out18.n out18.c) (fun w63 => K (.int .i64 0) w63) w16)))) w8) w4))
theorem vc_millpondref12_Lists_Add (l : Option Addr) (id : Int) (group : Int) (old : Bool) (K : Value → World → Prop) (w : World) : vcFn P tau rho pan ann_millpondref12_Lists_Add Go.Proofs.Try.f38 #[(.pointer l), (.int .i64 id), (.int .i64 group), (.bool old)] K (fun _ _ => False) w = sh_millpondref12_Lists_Add l id group old K w := by kernel_rfl
theorem ok_millpondref12_Lists_Add : okFn P ann_millpondref12_Lists_Add Go.Proofs.Try.f38 4 = true := by kernel_rfl
theorem of_millpondref12_Lists_Add (l : Option Addr) (id : Int) (group : Int) (old : Bool) {K : Value → World → Prop} {w : World} (h : sh_millpondref12_Lists_Add l id group old K w) : Calls P fn_millpondref12_Lists_Add #[(.pointer l), (.int .i64 id), (.int .i64 group), (.bool old)] w (Ret K) := calls_of_vc mixed Go.Proofs.Try.func38 ok_millpondref12_Lists_Add (by rw [vc_millpondref12_Lists_Add]; exact h)

def ann_millpondref12_Lists_Find : Ann := { quiet := fun d => [11, 12, 14, 24].contains d, loop := fun r => (bif r == 2 then [(5, .int .i64)] else []) }
/-- (*millpond/millpondref12.Lists).Find -/
def sh_millpondref12_Lists_Find (l : Option Addr) (id : Int) (K : Value → World → Prop) (w : World) : Prop :=
  ∃ (I1 : Int → World → Prop) (M2 : Int → World → Nat), I1 0 w ∧ ∀ _u4 : Nat → Value, ∀ i5 : Int, ∀ w3 : World, I1 i5 w3 → NN l fun a6 => ∃ x7 : Sl, w3.cell? (a6.add 0) = some (.slice
    x7.p x7.n x7.c) ∧ bif (decide (i5 < ((x7.n : Nat) : Int))) then (NN l fun a8 => ∃ x9 : Sl, w3.cell? (a8.add 0) = some (.slice x9.p x9.n x9.c) ∧ elAt x9.p x9.n i5 3 fun a10 => ∃
    x11 : Int, w3.cell? (a10.add 0) = some (.int .i64 x11) ∧ bif (x11 == id) then (K (.int .i64 i5) w3) else ((I1 (IntKind.i64.wrap (i5 + 1)) w3 ∧ M2 (IntKind.i64.wrap (i5 + 1)) w3
    < M2 i5 w3))) else (K (.int .i64 (-1)) w3)
theorem vc_millpondref12_Lists_Find (l : Option Addr) (id : Int) (K : Value → World → Prop) (w : World) : vcFn P tau rho pan ann_millpondref12_Lists_Find Go.Proofs.Try.f39 #[(.pointer l), (.int .i64 id)] K (fun _ _ => False) w = sh_millpondref12_Lists_Find l id K w := by kernel_rfl
theorem ok_millpondref12_Lists_Find : okFn P ann_millpondref12_Lists_Find Go.Proofs.Try.f39 2 = true := by kernel_rfl
theorem of_millpondref12_Lists_Find (l : Option Addr) (id : Int) {K : Value → World → Prop} {w : World} (h : sh_millpondref12_Lists_Find l id K w) : Calls P fn_millpondref12_Lists_Find #[(.pointer l), (.int .i64 id)] w (Ret K) := calls_of_vc mixed Go.Proofs.Try.func39 ok_millpondref12_Lists_Find (by rw [vc_millpondref12_Lists_Find]; exact h)

def ann_gens_Lists_each : Ann := { quiet := fun d => [27, 31, 40].contains d, dyn := fun d => [23].contains d, ent := fun d => (bif d == 18 then [.one (.int .i64), .agg [.int .i64, .int .i64]] else [.one .raw, .one .raw]), sig := fun r => (bif r == 7 then some ([0, 1, 2, 3, 4, 5, 6], [6]) else none), loop := fun r => (bif r == 3 then [(7, .int .i64)] else []), join := fun r => (bif r == 7 then some [(32, .bool)] else none) }
/-- (*millpond/gens.Lists).each -/
def sh_gens_Lists_each (l : Option Addr) (group : Int) (change : Value) (K : Value → World → Prop) (w : World) : Prop :=
  NN l fun a1 => ∃ x2 : Option Nat, w.cell? (a1.add 0) = some (.map x2) ∧ ∃ x4 : Option Addr, ∃ w3 : World, Sem.run P (Instr.range 50 (.map x2)) w = .ok (.pointer x4) w3 ∧ ∃ (I5 : Int
    → World → Prop) (M6 : Int → World → Nat), I5 0 w3 ∧ ∀ _u8 : Nat → Value, ∀ n9 : Int, ∀ w7 : World, I5 n9 w7 → (∃ w10 : World, Sem.run P (Instr.next (.pointer x4) false 0) w7 =
    .ok (.tuple #[(.bool false)]) w10 ∧ K (.int .i64 n9) w10) ∨ (∃ k12 : Value, ∃ v13 : Value, ∃ w11 : World, Sem.run P (Instr.next (.pointer x4) false 0) w7 = .ok (.tuple #[(.bool
    true), k12, v13]) w11 ∧ ∃ k14 : Int, ∃ v15 : Int, ∃ v16 : Int, ∃ w17 : World, Sem.run P (Instr.entry (.pointer x4)) w11 = .ok (.tuple #[(.int .i64 k14), (.agg #[(.int .i64 v15),
    (.int .i64 v16)])]) w17 ∧ Al (.cells #[(.int .i64 0), (.int .i64 0)] 54) (fun p18 w19 => StN [(.int .i64 v15), (.int .i64 v16)] p18 (fun w20 => ∃ x21 : Int, w20.cell? (p18.add
    0) = some (.int .i64 x21) ∧ ∃ x22 : Int, w20.cell? (p18.add 1) = some (.int .i64 x22) ∧ callD P change #[(.agg #[(.int .i64 x21), (.int .i64 x22)])] w20 fun e24 w23 => ∃ x25 :
    Int, ∃ x26 : Int, e24 = .returned (.agg #[(.int .i64 x25), (.int .i64 x26)]) ∧ Al (.cells #[(.int .i64 0), (.int .i64 0)] 54) (fun p27 w28 => StN [(.int .i64 x25), (.int .i64
    x26)] p27 (fun w29 => ∃ J30 : Bool → World → Prop, (∃ x34 : Int, w29.cell? (p18.add 0) = some (.int .i64 x34) ∧ bif (x34 == group) then (∃ x35 : Int, w29.cell? (p18.add 0) =
    some (.int .i64 x35) ∧ ∃ x36 : Int, w29.cell? (p18.add 1) = some (.int .i64 x36) ∧ ∃ x37 : Int, w29.cell? (p27.add 0) = some (.int .i64 x37) ∧ ∃ x38 : Int, w29.cell? (p27.add 1)
    = some (.int .i64 x38) ∧ ∃ q39 : Bool, EqV P .neq 54 (.agg #[(.int .i64 x35), (.int .i64 x36)]) (.agg #[(.int .i64 x37), (.int .i64 x38)]) q39 ∧ J30 q39 w29) else (J30 false
    w29)) ∧ (∀ _u32 : Nat → Value, ∀ x33 : Bool, ∀ w31 : World, J30 x33 w31 → bif x33 then (Dr (fun w40 => NN l fun a41 => ∃ x42 : Option Nat, w40.cell? (a41.add 0) = some (.map
    x42) ∧ ∃ x43 : Int, w40.cell? (p27.add 0) = some (.int .i64 x43) ∧ ∃ x44 : Int, w40.cell? (p27.add 1) = some (.int .i64 x44) ∧ ∃ w45 : World, Sem.run P (Instr.mapUpdate 50 (.map
    x42) (.int .i64 k14) (.agg #[(.int .i64 x43), (.int .i64 x44)])) w40 = .ok () w45 ∧ (I5 (IntKind.i64.wrap (n9 + 1)) w45 ∧ M6 (IntKind.i64.wrap (n9 + 1)) w45 < M6 n9 w7)) w31)
    else ((I5 n9 w31 ∧ M6 n9 w31 < M6 n9 w7)))) w28) w23) w19) w17)
theorem vc_gens_Lists_each (l : Option Addr) (group : Int) (change : Value) (K : Value → World → Prop) (w : World) : vcFn P tau rho pan ann_gens_Lists_each Go.Proofs.Try.f40 #[(.pointer l), (.int .i64 group), change] K (fun _ _ => False) w = sh_gens_Lists_each l group change K w := by kernel_rfl
theorem ok_gens_Lists_each : okFn P ann_gens_Lists_each Go.Proofs.Try.f40 3 = true := by kernel_rfl
theorem of_gens_Lists_each (l : Option Addr) (group : Int) (change : Value) {K : Value → World → Prop} {w : World} (h : sh_gens_Lists_each l group change K w) : Calls P fn_gens_Lists_each #[(.pointer l), (.int .i64 group), change] w (Ret K) := calls_of_vc mixed Go.Proofs.Try.func40 ok_gens_Lists_each (by rw [vc_gens_Lists_each]; exact h)

def ann_gens_Lists_Age_1 : Ann := { quiet := fun d => [7, 8].contains d }
/-- (*millpond/gens.Lists).Age$1 -/
def sh_gens_Lists_Age_1 (x_0 : Int) (x_1 : Int) (K : Value → World → Prop) (w : World) : Prop :=
  Al (.cells #[(.int .i64 x_0), (.int .i64 x_1)] 54) (fun p1 w2 => Al (.cells #[(.int .i64 0), (.int .i64 0)] 54) (fun p3 w4 => ∃ x5 : Int, w4.cell? (p1.add 0) = some (.int .i64 x5) ∧
    ∃ x6 : Int, w4.cell? (p1.add 1) = some (.int .i64 x6) ∧ StN [(.int .i64 x5), (.int .i64 (min1 (IntKind.i64.wrap (x6 + 1)) 3))] p3 (fun w7 => ∃ r8 : Int, w7.cell? (p3.add 0) =
    some (.int .i64 r8) ∧ ∃ r9 : Int, w7.cell? (p3.add 1) = some (.int .i64 r9) ∧ K (.agg #[(.int .i64 r8), (.int .i64 r9)]) w7) w4) w2) w
theorem vc_gens_Lists_Age_1 (x_0 : Int) (x_1 : Int) (K : Value → World → Prop) (w : World) : vcFn P tau rho pan ann_gens_Lists_Age_1 Go.Proofs.Try.f41 #[(.agg #[(.int .i64 x_0), (.int .i64 x_1)])] K (fun _ _ => False) w = sh_gens_Lists_Age_1 x_0 x_1 K w := by kernel_rfl
theorem ok_gens_Lists_Age_1 : okFn P ann_gens_Lists_Age_1 Go.Proofs.Try.f41 1 = true := by kernel_rfl
theorem of_gens_Lists_Age_1 (x_0 : Int) (x_1 : Int) {K : Value → World → Prop} {w : World} (h : sh_gens_Lists_Age_1 x_0 x_1 K w) : Calls P fn_gens_Lists_Age_1 #[(.agg #[(.int .i64 x_0), (.int .i64 x_1)])] w (Ret K) := calls_of_vc mixed Go.Proofs.Try.func41 ok_gens_Lists_Age_1 (by rw [vc_gens_Lists_Age_1]; exact h)

def ann_gens_Lists_Move_1 : Ann := {}
/-- (*millpond/gens.Lists).Move$1 -/
def sh_gens_Lists_Move_1 (x_0 : Int) (x_1 : Int) (c_f : Addr) (K : Value → World → Prop) (w : World) : Prop :=
  Al (.cells #[(.int .i64 x_0), (.int .i64 x_1)] 54) (fun p1 w2 => Al (.cells #[(.int .i64 0), (.int .i64 0)] 54) (fun p3 w4 => ∃ x5 : Int, w4.cell? c_f = some (.int .i64 x5) ∧ ∃ x6 :
    Int, w4.cell? (p1.add 1) = some (.int .i64 x6) ∧ StN [(.int .i64 x5), (.int .i64 x6)] p3 (fun w7 => ∃ r8 : Int, w7.cell? (p3.add 0) = some (.int .i64 r8) ∧ ∃ r9 : Int, w7.cell?
    (p3.add 1) = some (.int .i64 r9) ∧ K (.agg #[(.int .i64 r8), (.int .i64 r9)]) w7) w4) w2) w
theorem vc_gens_Lists_Move_1 (x_0 : Int) (x_1 : Int) (c_f : Addr) (K : Value → World → Prop) (w : World) : vcFn P tau rho pan ann_gens_Lists_Move_1 Go.Proofs.Try.f42 #[(.agg #[(.int .i64 x_0), (.int .i64 x_1)]), (.pointer (some c_f))] K (fun _ _ => False) w = sh_gens_Lists_Move_1 x_0 x_1 c_f K w := by kernel_rfl
theorem ok_gens_Lists_Move_1 : okFn P ann_gens_Lists_Move_1 Go.Proofs.Try.f42 2 = true := by kernel_rfl
theorem of_gens_Lists_Move_1 (x_0 : Int) (x_1 : Int) (c_f : Addr) {K : Value → World → Prop} {w : World} (h : sh_gens_Lists_Move_1 x_0 x_1 c_f K w) : Calls P fn_gens_Lists_Move_1 #[(.agg #[(.int .i64 x_0), (.int .i64 x_1)]), (.pointer (some c_f))] w (Ret K) := calls_of_vc mixed Go.Proofs.Try.func42 ok_gens_Lists_Move_1 (by rw [vc_gens_Lists_Move_1]; exact h)

def ann_slices_IndexFunc_int_int : Ann := { quiet := fun d => [7, 9, 18].contains d, dyn := fun d => [16].contains d, loop := fun r => (bif r == 2 then [(8, .int .i64)] else []) }
/-- slices.IndexFunc[[]int,int] -/
def sh_slices_IndexFunc_int_int (s : Sl) (f : Value) (K : Value → World → Prop) (w : World) : Prop :=
  ∃ (I1 : Int → World → Prop) (M2 : Int → World → Nat), I1 0 w ∧ ∀ _u4 : Nat → Value, ∀ x5 : Int, ∀ w3 : World, I1 x5 w3 → bif (decide (x5 < ((s.n : Nat) : Int))) then (elAt s.p s.n
    x5 1 fun a6 => ∃ x7 : Int, w3.cell? a6 = some (.int .i64 x7) ∧ callD P f #[(.int .i64 x7)] w3 fun e9 w8 => ∃ x10 : Bool, e9 = .returned (.bool x10) ∧ bif x10 then (K (.int .i64
    x5) w8) else ((I1 (IntKind.i64.wrap (x5 + 1)) w8 ∧ M2 (IntKind.i64.wrap (x5 + 1)) w8 < M2 x5 w3))) else (K (.int .i64 (-1)) w3)
theorem vc_slices_IndexFunc_int_int (s : Sl) (f : Value) (K : Value → World → Prop) (w : World) : vcFn P tau rho pan ann_slices_IndexFunc_int_int Go.Proofs.Try.f43 #[(.slice s.p s.n s.c), f] K (fun _ _ => False) w = sh_slices_IndexFunc_int_int s f K w := by kernel_rfl
theorem ok_slices_IndexFunc_int_int : okFn P ann_slices_IndexFunc_int_int Go.Proofs.Try.f43 2 = true := by kernel_rfl
theorem of_slices_IndexFunc_int_int (s : Sl) (f : Value) {K : Value → World → Prop} {w : World} (h : sh_slices_IndexFunc_int_int s f K w) : Calls P fn_slices_IndexFunc_int_int #[(.slice s.p s.n s.c), f] w (Ret K) := calls_of_vc mixed Go.Proofs.Try.func43 ok_slices_IndexFunc_int_int (by rw [vc_slices_IndexFunc_int_int]; exact h)

def ann_slices_Index_int_int : Ann := { quiet := fun d => [7, 9, 16, 18].contains d, loop := fun r => (bif r == 2 then [(8, .int .i64)] else []) }
/-- slices.Index[[]int,int] -/
def sh_slices_Index_int_int (s : Sl) (v : Int) (K : Value → World → Prop) (w : World) : Prop :=
  ∃ (I1 : Int → World → Prop) (M2 : Int → World → Nat), I1 0 w ∧ ∀ _u4 : Nat → Value, ∀ x5 : Int, ∀ w3 : World, I1 x5 w3 → bif (decide (x5 < ((s.n : Nat) : Int))) then (elAt s.p s.n
    x5 1 fun a6 => ∃ x7 : Int, w3.cell? a6 = some (.int .i64 x7) ∧ bif (v == x7) then (K (.int .i64 x5) w3) else ((I1 (IntKind.i64.wrap (x5 + 1)) w3 ∧ M2 (IntKind.i64.wrap (x5 + 1))
    w3 < M2 x5 w3))) else (K (.int .i64 (-1)) w3)
theorem vc_slices_Index_int_int (s : Sl) (v : Int) (K : Value → World → Prop) (w : World) : vcFn P tau rho pan ann_slices_Index_int_int Go.Proofs.Try.f47 #[(.slice s.p s.n s.c), (.int .i64 v)] K (fun _ _ => False) w = sh_slices_Index_int_int s v K w := by kernel_rfl
theorem ok_slices_Index_int_int : okFn P ann_slices_Index_int_int Go.Proofs.Try.f47 2 = true := by kernel_rfl
theorem of_slices_Index_int_int (s : Sl) (v : Int) {K : Value → World → Prop} {w : World} (h : sh_slices_Index_int_int s v K w) : Calls P fn_slices_Index_int_int #[(.slice s.p s.n s.c), (.int .i64 v)] w (Ret K) := calls_of_vc mixed Go.Proofs.Try.func47 ok_slices_Index_int_int (by rw [vc_slices_Index_int_int]; exact h)

end Go.Mp
