/- What is asked of each function. Printed by vcprint.py. -/
import Derived.Test.YtejlkhhomnoagaaDoorCnN
set_option maxRecDepth 100000
namespace Go.Mp
open Go Go.Vc

def ann_millpondlaw11_ControlReads : Ann := { quiet := fun d => [18, 19, 39, 44, 49, 56].contains d }
/-- millpond/millpondlaw11.ControlReads -/
def sh_millpondlaw11_ControlReads (name : ByteArray) (text : ByteArray) (n : Int) (K : Value → World → Prop) (w : World) : Prop :=
  Calls P fn_millpondlaw11_works #[] w fun e2 w1 => ∃ x3 : Bool, e2 = .returned (.bool x3) ∧ bif (!x3) then (K (.bool false) w1) else (bif (decide (((text.size : Nat) : Int) > 1000))
    then (K (.bool x3) w1) else (Calls P fn_control_Read #[(.string name), (.string text)] w1 fun e5 w4 => ∃ x6 : Int, ∃ x7 : Int, ∃ x8 : Int, e5 = .returned (.tuple #[(.int .i64
    x6), (.int .i64 x7), (.int .i64 x8)]) ∧ Calls P fn_millpondref11_Read #[(.string name), (.string text)] w4 fun e10 w9 => ∃ x11 : Int, ∃ x12 : Int, ∃ x13 : Int, e10 = .returned
    (.tuple #[(.int .i64 x11), (.int .i64 x12), (.int .i64 x13)]) ∧ bif x3 then (bif (x6 == x11) then (bif (x7 == x12) then (bif (x8 == x13) then (Calls P fn_control_Show #[(.int
    .i64 n)] w9 fun e15 w14 => ∃ x16 : ByteArray, e15 = .returned (.string x16) ∧ Calls P fn_millpondref11_Show #[(.int .i64 n)] w14 fun e18 w17 => ∃ x19 : ByteArray, e18 =
    .returned (.string x19) ∧ K (.bool (x16.toList == x19.toList)) w17) else (K (.bool false) w9)) else (K (.bool false) w9)) else (K (.bool false) w9)) else (K (.bool false) w9)))
theorem vc_millpondlaw11_ControlReads (name : ByteArray) (text : ByteArray) (n : Int) (K : Value → World → Prop) (w : World) : vcFn P tau rho pan ann_millpondlaw11_ControlReads Go.Proofs.Tryd.f3 #[(.string name), (.string text), (.int .i64 n)] K (fun _ _ => False) w = sh_millpondlaw11_ControlReads name text n K w := by kernel_rfl
theorem ok_millpondlaw11_ControlReads : okFn P ann_millpondlaw11_ControlReads Go.Proofs.Tryd.f3 3 = true := by kernel_rfl
theorem of_millpondlaw11_ControlReads (name : ByteArray) (text : ByteArray) (n : Int) {K : Value → World → Prop} {w : World} (h : sh_millpondlaw11_ControlReads name text n K w) : Calls P fn_millpondlaw11_ControlReads #[(.string name), (.string text), (.int .i64 n)] w (Ret K) := calls_of_vc mixed Go.Proofs.Tryd.func3 ok_millpondlaw11_ControlReads (by rw [vc_millpondlaw11_ControlReads]; exact h)

def ann_millpondlaw11_ControlStats : Ann := { quiet := fun d => [25, 26, 30, 31, 62, 67, 82, 89].contains d, join := fun r => (bif r == 6 then some [] else none) }
/-- millpond/millpondlaw11.ControlStats -/
def sh_millpondlaw11_ControlStats (names : Sl) (values : Sl) (text : ByteArray) (K : Value → World → Prop) (w : World) : Prop :=
  Calls P fn_millpondlaw11_works #[] w fun e2 w1 => ∃ x3 : Bool, e2 = .returned (.bool x3) ∧ bif (!x3) then (K (.bool false) w1) else (∃ J4 : World → Prop, (Calls P
    fn_millpondlaw11_over #[(.slice names.p names.n names.c)] w1 fun e8 w7 => ∃ x9 : Bool, e8 = .returned (.bool x9) ∧ bif x9 then (K (.bool x3) w7) else (bif (decide (((values.n :
    Nat) : Int) > 120)) then (K (.bool x3) w7) else (bif (decide (((text.size : Nat) : Int) > 1000)) then (K (.bool x3) w7) else (J4 w7)))) ∧ (∀ _u6 : Nat → Value, ∀ w5 : World, J4
    w5 → Calls P fn_control_Stat #[(.slice names.p names.n names.c), (.slice values.p values.n values.c)] w5 fun e11 w10 => ∃ x12 : ByteArray, ∃ x13 : Int, e11 = .returned (.tuple
    #[(.string x12), (.int .i64 x13)]) ∧ Calls P fn_millpondref11_Stat #[(.slice names.p names.n names.c), (.slice values.p values.n values.c)] w10 fun e15 w14 => ∃ x16 : ByteArray,
    ∃ x17 : Int, e15 = .returned (.tuple #[(.string x16), (.int .i64 x17)]) ∧ Calls P fn_control_Parse #[(.string text)] w14 fun e19 w18 => ∃ x20 : Sl, ∃ x21 : Sl, ∃ x22 : Int, e19
    = .returned (.tuple #[(.slice x20.p x20.n x20.c), (.slice x21.p x21.n x21.c), (.int .i64 x22)]) ∧ Calls P fn_millpondref11_Parse #[(.string text)] w18 fun e24 w23 => ∃ x25 : Sl,
    ∃ x26 : Sl, ∃ x27 : Int, e24 = .returned (.tuple #[(.slice x25.p x25.n x25.c), (.slice x26.p x26.n x26.c), (.int .i64 x27)]) ∧ bif x3 then (bif (x12.toList == x16.toList) then
    (bif (x13 == x17) then (Calls P fn_millpondlaw11_texts #[(.slice x20.p x20.n x20.c), (.slice x25.p x25.n x25.c)] w23 fun e29 w28 => ∃ x30 : Bool, e29 = .returned (.bool x30) ∧
    bif x30 then (Calls P fn_millpondlaw11_row #[(.slice x21.p x21.n x21.c), (.slice x26.p x26.n x26.c)] w28 fun e32 w31 => ∃ x33 : Bool, e32 = .returned (.bool x33) ∧ bif x33 then
    (bif (x22 == x27) then (Calls P fn_control_Word #[(.string text)] w31 fun e35 w34 => ∃ x36 : Bool, e35 = .returned (.bool x36) ∧ Calls P fn_millpondref11_Word #[(.string text)]
    w34 fun e38 w37 => ∃ x39 : Bool, e38 = .returned (.bool x39) ∧ K (.bool (x36 == x39)) w37) else (K (.bool false) w31)) else (K (.bool false) w31)) else (K (.bool false) w28))
    else (K (.bool false) w23)) else (K (.bool false) w23)) else (K (.bool false) w23)))
theorem vc_millpondlaw11_ControlStats (names : Sl) (values : Sl) (text : ByteArray) (K : Value → World → Prop) (w : World) : vcFn P tau rho pan ann_millpondlaw11_ControlStats Go.Proofs.Tryd.f4 #[(.slice names.p names.n names.c), (.slice values.p values.n values.c), (.string text)] K (fun _ _ => False) w = sh_millpondlaw11_ControlStats names values text K w := by kernel_rfl
theorem ok_millpondlaw11_ControlStats : okFn P ann_millpondlaw11_ControlStats Go.Proofs.Tryd.f4 3 = true := by kernel_rfl
theorem of_millpondlaw11_ControlStats (names : Sl) (values : Sl) (text : ByteArray) {K : Value → World → Prop} {w : World} (h : sh_millpondlaw11_ControlStats names values text K w) : Calls P fn_millpondlaw11_ControlStats #[(.slice names.p names.n names.c), (.slice values.p values.n values.c), (.string text)] w (Ret K) := calls_of_vc mixed Go.Proofs.Tryd.func4 ok_millpondlaw11_ControlStats (by rw [vc_millpondlaw11_ControlStats]; exact h)

def ann_millpondlaw11_ControlBack : Ann := { quiet := fun d => [30, 31, 35, 36, 47, 49, 52, 54, 57, 60, 64, 75, 83, 103, 107, 108, 112, 113, 124, 129].contains d, join := fun r => (bif r == 6 then some [] else bif r == 9 then some [] else bif r == 14 then some [] else none) }
/-- millpond/millpondlaw11.ControlBack -/
def sh_millpondlaw11_ControlBack (n : Int) (names : Sl) (values : Sl) (text : ByteArray) (K : Value → World → Prop) (w : World) : Prop :=
  Calls P fn_millpondlaw11_works #[] w fun e2 w1 => ∃ x3 : Bool, e2 = .returned (.bool x3) ∧ bif (!x3) then (K (.bool false) w1) else (∃ J4 : World → Prop, (Calls P
    fn_millpondlaw11_over #[(.slice names.p names.n names.c)] w1 fun e8 w7 => ∃ x9 : Bool, e8 = .returned (.bool x9) ∧ bif x9 then (K (.bool x3) w7) else (bif (decide (((values.n :
    Nat) : Int) > 120)) then (K (.bool x3) w7) else (bif (decide (((text.size : Nat) : Int) > 1000)) then (K (.bool x3) w7) else (J4 w7)))) ∧ (∀ _u6 : Nat → Value, ∀ w5 : World, J4
    w5 → Calls P fn_control_Show #[(.int .i64 n)] w5 fun e11 w10 => ∃ x12 : ByteArray, e11 = .returned (.string x12) ∧ Calls P fn_control_Read #[(.string (ByteArray.mk #[109, 101,
    109, 111, 114, 121, 46, 108, 111, 119])), (.string x12)] w10 fun e14 w13 => ∃ x15 : Int, ∃ x16 : Int, ∃ x17 : Int, e14 = .returned (.tuple #[(.int .i64 x15), (.int .i64 x16),
    (.int .i64 x17)]) ∧ ∃ J18 : World → Prop, (bif (decide (n ≥ 0)) then (bif (!((x17 == 0) == (decide (n ≤ 1099511627776)))) then (K (.bool false) w13) else (bif (x17 == 0) then
    (bif (x15 != 1) then (K (.bool false) w13) else (bif (x16 != n) then (K (.bool false) w13) else (J18 w13))) else (J18 w13))) else (bif (!((x17 == 0) == false)) then (K (.bool
    false) w13) else (bif (x17 == 0) then (bif (x15 != 1) then (K (.bool false) w13) else (bif (x16 != n) then (K (.bool false) w13) else (J18 w13))) else (J18 w13)))) ∧ (∀ _u20 :
    Nat → Value, ∀ w19 : World, J18 w19 → Calls P fn_control_Stat #[(.slice names.p names.n names.c), (.slice values.p values.n values.c)] w19 fun e22 w21 => ∃ x23 : ByteArray, ∃
    x24 : Int, e22 = .returned (.tuple #[(.string x23), (.int .i64 x24)]) ∧ ∃ J25 : World → Prop, (bif (x24 == 0) then (Calls P fn_control_Parse #[(.string x23)] w21 fun e29 w28 =>
    ∃ x30 : Sl, ∃ x31 : Sl, ∃ x32 : Int, e29 = .returned (.tuple #[(.slice x30.p x30.n x30.c), (.slice x31.p x31.n x31.c), (.int .i64 x32)]) ∧ bif (x32 != 0) then (K (.bool false)
    w28) else (Calls P fn_millpondlaw11_texts #[(.slice x30.p x30.n x30.c), (.slice names.p names.n names.c)] w28 fun e34 w33 => ∃ x35 : Bool, e34 = .returned (.bool x35) ∧ bif
    (!x35) then (K (.bool false) w33) else (Calls P fn_millpondlaw11_row #[(.slice x31.p x31.n x31.c), (.slice values.p values.n values.c)] w33 fun e37 w36 => ∃ x38 : Bool, e37 =
    .returned (.bool x38) ∧ bif (!x38) then (K (.bool false) w36) else (J25 w36)))) else (J25 w21)) ∧ (∀ _u27 : Nat → Value, ∀ w26 : World, J25 w26 → Calls P fn_control_Parse
    #[(.string text)] w26 fun e40 w39 => ∃ x41 : Sl, ∃ x42 : Sl, ∃ x43 : Int, e40 = .returned (.tuple #[(.slice x41.p x41.n x41.c), (.slice x42.p x42.n x42.c), (.int .i64 x43)]) ∧
    bif (x43 != 0) then (bif x3 then (bif (((x41.n : Nat) : Int) == 0) then (K (.bool (((x42.n : Nat) : Int) == 0)) w39) else (K (.bool false) w39)) else (K (.bool false) w39)) else
    (Calls P fn_control_Stat #[(.slice x41.p x41.n x41.c), (.slice x42.p x42.n x42.c)] w39 fun e45 w44 => ∃ x46 : ByteArray, ∃ x47 : Int, e45 = .returned (.tuple #[(.string x46),
    (.int .i64 x47)]) ∧ bif x3 then (bif (x47 == 0) then (K (.bool (x46.toList == text.toList)) w44) else (K (.bool false) w44)) else (K (.bool false) w44))))))
theorem vc_millpondlaw11_ControlBack (n : Int) (names : Sl) (values : Sl) (text : ByteArray) (K : Value → World → Prop) (w : World) : vcFn P tau rho pan ann_millpondlaw11_ControlBack Go.Proofs.Tryd.f5 #[(.int .i64 n), (.slice names.p names.n names.c), (.slice values.p values.n values.c), (.string text)] K (fun _ _ => False) w = sh_millpondlaw11_ControlBack n names values text K w := by kernel_rfl
theorem ok_millpondlaw11_ControlBack : okFn P ann_millpondlaw11_ControlBack Go.Proofs.Tryd.f5 4 = true := by kernel_rfl
theorem of_millpondlaw11_ControlBack (n : Int) (names : Sl) (values : Sl) (text : ByteArray) {K : Value → World → Prop} {w : World} (h : sh_millpondlaw11_ControlBack n names values text K w) : Calls P fn_millpondlaw11_ControlBack #[(.int .i64 n), (.slice names.p names.n names.c), (.slice values.p values.n values.c), (.string text)] w (Ret K) := calls_of_vc mixed Go.Proofs.Tryd.func5 ok_millpondlaw11_ControlBack (by rw [vc_millpondlaw11_ControlBack]; exact h)

def ann_millpondlaw11_ControlKilo : Ann := { quiet := fun d => [19, 22, 29, 37, 46, 48, 54, 58, 62, 64, 65, 70, 76, 81, 86, 91, 96, 101, 105, 109, 110].contains d, join := fun r => (bif r == 6 then some [] else none) }
/-- millpond/millpondlaw11.ControlKilo -/
def sh_millpondlaw11_ControlKilo (n : Int) (file : ByteArray) (K : Value → World → Prop) (w : World) : Prop :=
  Calls P fn_millpondlaw11_works #[] w fun e2 w1 => ∃ x3 : Bool, e2 = .returned (.bool x3) ∧ bif (!x3) then (K (.bool false) w1) else (∃ J4 : World → Prop, (bif (decide (n < 0)) then
    (K (.bool x3) w1) else (bif (decide (n > 1073741824)) then (K (.bool x3) w1) else (J4 w1))) ∧ (∀ _u6 : Nat → Value, ∀ w5 : World, J4 w5 → Calls P fn_control_Show #[(.int .i64
    n)] w5 fun e8 w7 => ∃ x9 : ByteArray, e8 = .returned (.string x9) ∧ x9.size + (ByteArray.mk #[75]).size ≤ 9223372036854775807 ∧ Calls P fn_control_Read #[(.string file),
    (.string (x9 ++ (ByteArray.mk #[75])))] w7 fun e11 w10 => ∃ x12 : Int, ∃ x13 : Int, ∃ x14 : Int, e11 = .returned (.tuple #[(.int .i64 x12), (.int .i64 x13), (.int .i64 x14)]) ∧
    Calls P fn_control_Show #[(.int .i64 (IntKind.i64.wrap (1024 * n)))] w10 fun e16 w15 => ∃ x17 : ByteArray, e16 = .returned (.string x17) ∧ Calls P fn_control_Read #[(.string
    file), (.string x17)] w15 fun e19 w18 => ∃ x20 : Int, ∃ x21 : Int, ∃ x22 : Int, e19 = .returned (.tuple #[(.int .i64 x20), (.int .i64 x21), (.int .i64 x22)]) ∧ Calls P
    fn_control_Show #[(.int .i64 (IntKind.i64.wrap (1024 * n)))] w18 fun e24 w23 => ∃ x25 : ByteArray, e24 = .returned (.string x25) ∧ x25.size + (ByteArray.mk #[10]).size ≤
    9223372036854775807 ∧ Calls P fn_control_Read #[(.string file), (.string (x25 ++ (ByteArray.mk #[10])))] w23 fun e27 w26 => ∃ x28 : Int, ∃ x29 : Int, ∃ x30 : Int, e27 =
    .returned (.tuple #[(.int .i64 x28), (.int .i64 x29), (.int .i64 x30)]) ∧ bif (file.toList == (ByteArray.mk #[109, 101, 109, 111, 114, 121, 46, 111, 111, 109, 46, 103, 114, 111,
    117, 112]).toList) then (bif x3 then (bif (x14 == 20) then (bif ((x22 == 0) == (n == 0)) then (K (.bool (x30 == x22)) w26) else (K (.bool false) w26)) else (K (.bool false)
    w26)) else (K (.bool false) w26)) else (bif x3 then (bif (x12 == x20) then (bif (x13 == x21) then (bif (x14 == x22) then (bif (x28 == x20) then (bif (x29 == x21) then (bif (x30
    == x22) then (bif (x14 != 0) then (K (.bool true) w26) else (K (.bool (x13 == (IntKind.i64.wrap (1024 * n)))) w26)) else (K (.bool false) w26)) else (K (.bool false) w26)) else
    (K (.bool false) w26)) else (K (.bool false) w26)) else (K (.bool false) w26)) else (K (.bool false) w26)) else (K (.bool false) w26))))
theorem vc_millpondlaw11_ControlKilo (n : Int) (file : ByteArray) (K : Value → World → Prop) (w : World) : vcFn P tau rho pan ann_millpondlaw11_ControlKilo Go.Proofs.Tryd.f6 #[(.int .i64 n), (.string file)] K (fun _ _ => False) w = sh_millpondlaw11_ControlKilo n file K w := by kernel_rfl
theorem ok_millpondlaw11_ControlKilo : okFn P ann_millpondlaw11_ControlKilo Go.Proofs.Tryd.f6 2 = true := by kernel_rfl
theorem of_millpondlaw11_ControlKilo (n : Int) (file : ByteArray) {K : Value → World → Prop} {w : World} (h : sh_millpondlaw11_ControlKilo n file K w) : Calls P fn_millpondlaw11_ControlKilo #[(.int .i64 n), (.string file)] w (Ret K) := calls_of_vc mixed Go.Proofs.Tryd.func6 ok_millpondlaw11_ControlKilo (by rw [vc_millpondlaw11_ControlKilo]; exact h)

def ann_millpondlaw11_ControlNames : Ann := { quiet := fun d => [25, 26, 30, 31, 35, 36, 46, 50, 74, 75, 77, 85, 96, 101, 105, 107, 108, 113, 116].contains d, loop := fun r => (bif r == 18 then [(16, .bool), (17, .int .i64)] else []), join := fun r => (bif r == 6 then some [] else bif r == 23 then some [] else none) }
/-- millpond/millpondlaw11.ControlNames -/
def sh_millpondlaw11_ControlNames (names : Sl) (values : Sl) (name : ByteArray) (n : Int) (K : Value → World → Prop) (w : World) : Prop :=
  Calls P fn_millpondlaw11_works #[] w fun e2 w1 => ∃ x3 : Bool, e2 = .returned (.bool x3) ∧ bif (!x3) then (K (.bool false) w1) else (∃ J4 : World → Prop, (Calls P
    fn_millpondlaw11_over #[(.slice names.p names.n names.c)] w1 fun e8 w7 => ∃ x9 : Bool, e8 = .returned (.bool x9) ∧ bif x9 then (K (.bool x3) w7) else (bif (decide (((values.n :
    Nat) : Int) > 120)) then (K (.bool x3) w7) else (bif (decide (((name.size : Nat) : Int) > 120)) then (K (.bool x3) w7) else (bif (decide (((names.n : Nat) : Int) > 90)) then (K
    (.bool x3) w7) else (J4 w7))))) ∧ (∀ _u6 : Nat → Value, ∀ w5 : World, J4 w5 → Calls P fn_control_Stat #[(.slice names.p names.n names.c), (.slice values.p values.n values.c)] w5
    fun e11 w10 => ∃ x12 : ByteArray, ∃ x13 : Int, e11 = .returned (.tuple #[(.string x12), (.int .i64 x13)]) ∧ bif (x13 != 0) then (bif x3 then (K (.bool (x12.toList ==
    (ByteArray.mk #[]).toList)) w10) else (K (.bool false) w10)) else (∃ x15 : Sl, ∃ w14 : World, Sem.run P (Builtin.append_ #[28, 28] 28 #[(.slice none 0 0), (.slice names.p
    names.n names.c)]) w10 = .ok (.slice x15.p x15.n x15.c) w14 ∧ Al (.cells #[(.string name)] 9) (fun p16 w17 => ∃ x19 : Sl, ∃ w18 : World, Sem.run P (Builtin.append_ #[28, 28] 28
    #[(.slice x15.p x15.n x15.c), (.slice (some p16) 1 1)]) w17 = .ok (.slice x19.p x19.n x19.c) w18 ∧ ∃ x21 : Sl, ∃ w20 : World, Sem.run P (Builtin.append_ #[29, 29] 29 #[(.slice
    none 0 0), (.slice values.p values.n values.c)]) w18 = .ok (.slice x21.p x21.n x21.c) w20 ∧ Al (.cells #[(.int .i64 n)] 3) (fun p22 w23 => ∃ x25 : Sl, ∃ w24 : World, Sem.run P
    (Builtin.append_ #[29, 29] 29 #[(.slice x21.p x21.n x21.c), (.slice (some p22) 1 1)]) w23 = .ok (.slice x25.p x25.n x25.c) w24 ∧ Calls P fn_control_Stat #[(.slice x19.p x19.n
    x19.c), (.slice x25.p x25.n x25.c)] w24 fun e27 w26 => ∃ x28 : ByteArray, ∃ x29 : Int, e27 = .returned (.tuple #[(.string x28), (.int .i64 x29)]) ∧ ∃ (I30 : Bool → Int → World →
    Prop) (M31 : Bool → Int → World → Nat), I30 false 0 w26 ∧ ∀ _u33 : Nat → Value, ∀ in34 : Bool, ∀ i35 : Int, ∀ w32 : World, I30 in34 i35 w32 → bif (decide (i35 < ((names.n : Nat)
    : Int))) then (bif in34 then ((I30 true (IntKind.i64.wrap (i35 + 1)) w32 ∧ M31 true (IntKind.i64.wrap (i35 + 1)) w32 < M31 in34 i35 w32)) else (elAt names.p names.n i35 1 fun
    a36 => ∃ x37 : ByteArray, w32.cell? a36 = some (.string x37) ∧ (I30 (x37.toList == name.toList) (IntKind.i64.wrap (i35 + 1)) w32 ∧ M31 (x37.toList == name.toList)
    (IntKind.i64.wrap (i35 + 1)) w32 < M31 in34 i35 w32))) else (∃ J38 : World → Prop, (bif in34 then (bif x3 then (K (.bool (x29 == 1)) w32) else (K (.bool false) w32)) else (Calls
    P fn_control_Word #[(.string name)] w32 fun e42 w41 => ∃ x43 : Bool, e42 = .returned (.bool x43) ∧ bif (!x43) then (bif x3 then (K (.bool (x29 == 1)) w41) else (K (.bool false)
    w41)) else (J38 w41))) ∧ (∀ _u40 : Nat → Value, ∀ w39 : World, J38 w39 → bif x3 then (bif (x29 == 0) then (bif (decide (((x28.size : Nat) : Int) > ((x12.size : Nat) : Int)))
    then ((0 ≤ ((x12.size : Nat) : Int) ∧ ((x12.size : Nat) : Int) ≤ ((x28.size : Nat) : Int)) ∧ K (.bool ((x28.extract 0 (((x12.size : Nat) : Int).toNat)).toList == x12.toList))
    w39) else (K (.bool false) w39)) else (K (.bool false) w39)) else (K (.bool false) w39)))) w20) w14)))
theorem vc_millpondlaw11_ControlNames (names : Sl) (values : Sl) (name : ByteArray) (n : Int) (K : Value → World → Prop) (w : World) : vcFn P tau rho pan ann_millpondlaw11_ControlNames Go.Proofs.Tryd.f7 #[(.slice names.p names.n names.c), (.slice values.p values.n values.c), (.string name), (.int .i64 n)] K (fun _ _ => False) w = sh_millpondlaw11_ControlNames names values name n K w := by kernel_rfl
theorem ok_millpondlaw11_ControlNames : okFn P ann_millpondlaw11_ControlNames Go.Proofs.Tryd.f7 4 = true := by kernel_rfl
theorem of_millpondlaw11_ControlNames (names : Sl) (values : Sl) (name : ByteArray) (n : Int) {K : Value → World → Prop} {w : World} (h : sh_millpondlaw11_ControlNames names values name n K w) : Calls P fn_millpondlaw11_ControlNames #[(.slice names.p names.n names.c), (.slice values.p values.n values.c), (.string name), (.int .i64 n)] w (Ret K) := calls_of_vc mixed Go.Proofs.Tryd.func7 ok_millpondlaw11_ControlNames (by rw [vc_millpondlaw11_ControlNames]; exact h)

def ann_millpondlaw11_ControlWords : Ann := { quiet := fun d => [15, 16, 19, 20, 34, 37, 39, 40, 41, 42, 45, 48, 52, 55, 60, 70, 72].contains d, join := fun r => (bif r == 6 then some [] else bif r == 10 then some [] else bif r == 11 then some [(10, .bool)] else none) }
/-- millpond/millpondlaw11.ControlWords -/
def sh_millpondlaw11_ControlWords (a : ByteArray) (b : ByteArray) (c : Int) (K : Value → World → Prop) (w : World) : Prop :=
  Calls P fn_millpondlaw11_works #[] w fun e2 w1 => ∃ x3 : Bool, e2 = .returned (.bool x3) ∧ bif (!x3) then (K (.bool false) w1) else (∃ J4 : World → Prop, (bif (decide (((a.size :
    Nat) : Int) > 120)) then (K (.bool x3) w1) else (bif (decide (((b.size : Nat) : Int) > 120)) then (K (.bool x3) w1) else (J4 w1))) ∧ (∀ _u6 : Nat → Value, ∀ w5 : World, J4 w5 →
    Calls P fn_control_Word #[(.string a)] w5 fun e8 w7 => ∃ x9 : Bool, e8 = .returned (.bool x9) ∧ Calls P fn_control_Word #[(.string b)] w7 fun e11 w10 => ∃ x12 : Bool, e11 =
    .returned (.bool x12) ∧ ∃ J13 : World → Prop, (bif x9 then (bif x12 then (a.size + b.size ≤ 9223372036854775807 ∧ Calls P fn_control_Word #[(.string (a ++ b))] w10 fun e17 w16
    => ∃ x18 : Bool, e17 = .returned (.bool x18) ∧ bif (!(x18 == (decide ((IntKind.i64.wrap (((a.size : Nat) : Int) + ((b.size : Nat) : Int))) ≤ 40)))) then (K (.bool false) w16)
    else (J13 w16)) else (J13 w10)) else (J13 w10)) ∧ (∀ _u15 : Nat → Value, ∀ w14 : World, J13 w14 → ∃ J19 : Bool → World → Prop, (bif (decide (c ≥ 97)) then (bif (decide (c ≤
    122)) then (J19 true w14) else (bif (decide (c ≥ 48)) then (bif (decide (c ≤ 57)) then (J19 true w14) else (J19 (c == 95) w14)) else (J19 (c == 95) w14))) else (bif (decide (c ≥
    48)) then (bif (decide (c ≤ 57)) then (J19 true w14) else (J19 (c == 95) w14)) else (J19 (c == 95) w14))) ∧ (∀ _u21 : Nat → Value, ∀ ok22 : Bool, ∀ w20 : World, J19 ok22 w20 →
    bif x3 then (bif ok22 then (Calls P fn_control_Word #[(.string (ByteArray.mk #[]))] w20 fun e24 w23 => ∃ x25 : Bool, e24 = .returned (.bool x25) ∧ K (.bool (!x25)) w23) else (Al
    (.cells #[(.int .u8 c)] 5) (fun p26 w27 => ∃ x29 : ByteArray, ∃ w28 : World, Sem.run P (convert 42 9 (.slice (some p26) 1 1)) w27 = .ok (.string x29) w28 ∧ a.size + x29.size ≤
    9223372036854775807 ∧ (a ++ x29).size + b.size ≤ 9223372036854775807 ∧ Calls P fn_control_Word #[(.string ((a ++ x29) ++ b))] w28 fun e31 w30 => ∃ x32 : Bool, e31 = .returned
    (.bool x32) ∧ bif (!x32) then (Calls P fn_control_Word #[(.string (ByteArray.mk #[]))] w30 fun e34 w33 => ∃ x35 : Bool, e34 = .returned (.bool x35) ∧ K (.bool (!x35)) w33) else
    (K (.bool false) w30)) w20)) else (K (.bool false) w20)))))
theorem vc_millpondlaw11_ControlWords (a : ByteArray) (b : ByteArray) (c : Int) (K : Value → World → Prop) (w : World) : vcFn P tau rho pan ann_millpondlaw11_ControlWords Go.Proofs.Tryd.f8 #[(.string a), (.string b), (.int .u8 c)] K (fun _ _ => False) w = sh_millpondlaw11_ControlWords a b c K w := by kernel_rfl
theorem ok_millpondlaw11_ControlWords : okFn P ann_millpondlaw11_ControlWords Go.Proofs.Tryd.f8 3 = true := by kernel_rfl
theorem of_millpondlaw11_ControlWords (a : ByteArray) (b : ByteArray) (c : Int) {K : Value → World → Prop} {w : World} (h : sh_millpondlaw11_ControlWords a b c K w) : Calls P fn_millpondlaw11_ControlWords #[(.string a), (.string b), (.int .u8 c)] w (Ret K) := calls_of_vc mixed Go.Proofs.Tryd.func8 ok_millpondlaw11_ControlWords (by rw [vc_millpondlaw11_ControlWords]; exact h)

def ann_millpondlaw11_works : Ann := { quiet := fun d => [27, 30, 34, 38, 42, 46, 47, 51, 52, 58, 62, 66].contains d }
/-- millpond/millpondlaw11.works -/
def sh_millpondlaw11_works (K : Value → World → Prop) (w : World) : Prop :=
  Calls P fn_control_Read #[(.string (ByteArray.mk #[109, 101, 109, 111, 114, 121, 46, 109, 97, 120])), (.string (ByteArray.mk #[52, 75, 10]))] w fun e2 w1 => ∃ x3 : Int, ∃ x4 : Int,
    ∃ x5 : Int, e2 = .returned (.tuple #[(.int .i64 x3), (.int .i64 x4), (.int .i64 x5)]) ∧ Al (.cells #[(.string (ByteArray.mk #[97, 110, 111, 110])), (.string (ByteArray.mk #[102,
    105, 108, 101, 95, 49]))] 9) (fun p6 w7 => Al (.cells #[(.int .i64 5), (.int .i64 (-7))] 3) (fun p8 w9 => Calls P fn_control_Stat #[(.slice (some p6) 2 2), (.slice (some p8) 2
    2)] w9 fun e11 w10 => ∃ x12 : ByteArray, ∃ x13 : Int, e11 = .returned (.tuple #[(.string x12), (.int .i64 x13)]) ∧ Calls P fn_control_Parse #[(.string x12)] w10 fun e15 w14 => ∃
    x16 : Sl, ∃ x17 : Sl, ∃ x18 : Int, e15 = .returned (.tuple #[(.slice x16.p x16.n x16.c), (.slice x17.p x17.n x17.c), (.int .i64 x18)]) ∧ bif (x3 == 2) then (bif (x4 == 4096)
    then (bif (x5 == 0) then (bif (x12.toList == (ByteArray.mk #[97, 110, 111, 110, 32, 53, 10, 102, 105, 108, 101, 95, 49, 32, 45, 55, 10]).toList) then (bif (x13 == 0) then (bif
    (((x16.n : Nat) : Int) == 2) then (bif (((x17.n : Nat) : Int) == 2) then (elAt x17.p x17.n 1 1 fun a19 => ∃ x20 : Int, w14.cell? a19 = some (.int .i64 x20) ∧ bif (x20 == (-7))
    then (bif (x18 == 0) then (Calls P fn_control_Show #[(.int .i64 1099511627776)] w14 fun e22 w21 => ∃ x23 : ByteArray, e22 = .returned (.string x23) ∧ bif (x23.toList ==
    (ByteArray.mk #[109, 97, 120]).toList) then (Calls P fn_control_Word #[(.string (ByteArray.mk #[97, 95, 49]))] w21 fun e25 w24 => ∃ x26 : Bool, e25 = .returned (.bool x26) ∧ K
    (.bool x26) w24) else (K (.bool false) w21)) else (K (.bool false) w14)) else (K (.bool false) w14)) else (K (.bool false) w14)) else (K (.bool false) w14)) else (K (.bool
    false) w14)) else (K (.bool false) w14)) else (K (.bool false) w14)) else (K (.bool false) w14)) else (K (.bool false) w14)) w7) w1
theorem vc_millpondlaw11_works (K : Value → World → Prop) (w : World) : vcFn P tau rho pan ann_millpondlaw11_works Go.Proofs.Tryd.f9 #[] K (fun _ _ => False) w = sh_millpondlaw11_works K w := by kernel_rfl
theorem ok_millpondlaw11_works : okFn P ann_millpondlaw11_works Go.Proofs.Tryd.f9 0 = true := by kernel_rfl
theorem of_millpondlaw11_works {K : Value → World → Prop} {w : World} (h : sh_millpondlaw11_works K w) : Calls P fn_millpondlaw11_works #[] w (Ret K) := calls_of_vc mixed Go.Proofs.Tryd.func9 ok_millpondlaw11_works (by rw [vc_millpondlaw11_works]; exact h)

def ann_control_Read : Ann := { quiet := fun d => [13, 25, 28, 32].contains d }
/-- millpond/control.Read -/
def sh_control_Read (name : ByteArray) (text : ByteArray) (K : Value → World → Prop) (w : World) : Prop :=
  Calls P fn_control_file #[(.string name)] w fun e2 w1 => ∃ x3 : Int, e2 = .returned (.int .i64 x3) ∧ bif (decide (x3 < 0)) then (K (.tuple #[(.int .i64 (-1)), (.int .i64 0), (.int
    .i64 2)]) w1) else (Calls P fn_strings_TrimSuffix #[(.string text), (.string (ByteArray.mk #[10]))] w1 fun e5 w4 => ∃ x6 : ByteArray, e5 = .returned (.string x6) ∧ Calls P
    fn_control_limit #[(.string x6)] w4 fun e8 w7 => ∃ x9 : Int, ∃ x10 : Bool, e8 = .returned (.tuple #[(.int .i64 x9), (.bool x10)]) ∧ bif (!x10) then (K (.tuple #[(.int .i64
    (-1)), (.int .i64 0), (.int .i64 20)]) w7) else (bif (x3 == 4) then (bif (!(x6.toList == (ByteArray.mk #[48]).toList)) then (bif (!(x6.toList == (ByteArray.mk #[49]).toList))
    then (K (.tuple #[(.int .i64 (-1)), (.int .i64 0), (.int .i64 20)]) w7) else (K (.tuple #[(.int .i64 x3), (.int .i64 x9), (.int .i64 0)]) w7)) else (K (.tuple #[(.int .i64 x3),
    (.int .i64 x9), (.int .i64 0)]) w7)) else (K (.tuple #[(.int .i64 x3), (.int .i64 x9), (.int .i64 0)]) w7)))
theorem vc_control_Read (name : ByteArray) (text : ByteArray) (K : Value → World → Prop) (w : World) : vcFn P tau rho pan ann_control_Read Go.Proofs.Tryd.f10 #[(.string name), (.string text)] K (fun _ _ => False) w = sh_control_Read name text K w := by kernel_rfl
theorem ok_control_Read : okFn P ann_control_Read Go.Proofs.Tryd.f10 2 = true := by kernel_rfl
theorem of_control_Read (name : ByteArray) (text : ByteArray) {K : Value → World → Prop} {w : World} (h : sh_control_Read name text K w) : Calls P fn_control_Read #[(.string name), (.string text)] w (Ret K) := calls_of_vc mixed Go.Proofs.Tryd.func10 ok_control_Read (by rw [vc_control_Read]; exact h)

def ann_millpondref11_Read : Ann := { quiet := fun d => [14, 15, 17, 23, 26, 28, 29, 33, 34, 35, 36, 40, 41, 46, 49, 53, 57].contains d, loop := fun r => (bif r == 4 then [(8, .int .i64), (9, .int .i64)] else []), join := fun r => (bif r == 11 then some [(37, .bool)] else bif r == 12 then some [(1, .str)] else none) }
/-- millpond/millpondref11.Read -/
def sh_millpondref11_Read (name : ByteArray) (text : ByteArray) (K : Value → World → Prop) (w : World) : Prop :=
  Al (.cells #[(.string (ByteArray.mk #[109, 101, 109, 111, 114, 121, 46, 109, 105, 110])), (.string (ByteArray.mk #[109, 101, 109, 111, 114, 121, 46, 108, 111, 119])), (.string
    (ByteArray.mk #[109, 101, 109, 111, 114, 121, 46, 109, 97, 120])), (.string (ByteArray.mk #[115, 119, 97, 112, 46, 109, 97, 120])), (.string (ByteArray.mk #[109, 101, 109, 111,
    114, 121, 46, 111, 111, 109, 46, 103, 114, 111, 117, 112]))] 9) (fun p1 w2 => ∃ (I3 : Int → Int → World → Prop) (M4 : Int → Int → World → Nat), I3 (-1) 0 w2 ∧ ∀ _u6 : Nat →
    Value, ∀ at7 : Int, ∀ i8 : Int, ∀ w5 : World, I3 at7 i8 w5 → bif (decide (i8 < ((5 : Nat) : Int))) then (elAt (some p1) 5 i8 1 fun a9 => ∃ x10 : ByteArray, w5.cell? a9 = some
    (.string x10) ∧ bif (x10.toList == name.toList) then ((I3 i8 (IntKind.i64.wrap (i8 + 1)) w5 ∧ M4 i8 (IntKind.i64.wrap (i8 + 1)) w5 < M4 at7 i8 w5)) else ((I3 at7
    (IntKind.i64.wrap (i8 + 1)) w5 ∧ M4 at7 (IntKind.i64.wrap (i8 + 1)) w5 < M4 at7 i8 w5))) else (bif (decide (at7 < 0)) then (K (.tuple #[(.int .i64 (-1)), (.int .i64 0), (.int
    .i64 2)]) w5) else (∃ J11 : ByteArray → World → Prop, (∃ J15 : Bool → World → Prop, (bif (decide (((text.size : Nat) : Int) > 0)) then (strAt text (IntKind.i64.wrap (((text.size
    : Nat) : Int) - 1)) fun b19 => J15 (b19 == 10) w5) else (J15 false w5)) ∧ (∀ _u17 : Nat → Value, ∀ x18 : Bool, ∀ w16 : World, J15 x18 w16 → bif x18 then ((0 ≤ (IntKind.i64.wrap
    (((text.size : Nat) : Int) - 1)) ∧ (IntKind.i64.wrap (((text.size : Nat) : Int) - 1)) ≤ ((text.size : Nat) : Int)) ∧ J11 (text.extract 0 ((IntKind.i64.wrap (((text.size : Nat) :
    Int) - 1)).toNat)) w16) else (J11 text w16))) ∧ (∀ _u13 : Nat → Value, ∀ text14 : ByteArray, ∀ w12 : World, J11 text14 w12 → Calls P fn_millpondref11_limit #[(.string text14)]
    w12 fun e21 w20 => ∃ x22 : Int, e21 = .returned (.int .i64 x22) ∧ bif (at7 == 4) then (bif (!(text14.toList == (ByteArray.mk #[48]).toList)) then (bif (!(text14.toList ==
    (ByteArray.mk #[49]).toList)) then (K (.tuple #[(.int .i64 (-1)), (.int .i64 0), (.int .i64 20)]) w20) else (bif (decide (x22 < 0)) then (K (.tuple #[(.int .i64 (-1)), (.int
    .i64 0), (.int .i64 20)]) w20) else (K (.tuple #[(.int .i64 at7), (.int .i64 x22), (.int .i64 0)]) w20))) else (bif (decide (x22 < 0)) then (K (.tuple #[(.int .i64 (-1)), (.int
    .i64 0), (.int .i64 20)]) w20) else (K (.tuple #[(.int .i64 at7), (.int .i64 x22), (.int .i64 0)]) w20))) else (bif (decide (x22 < 0)) then (K (.tuple #[(.int .i64 (-1)), (.int
    .i64 0), (.int .i64 20)]) w20) else (K (.tuple #[(.int .i64 at7), (.int .i64 x22), (.int .i64 0)]) w20)))))) w
theorem vc_millpondref11_Read (name : ByteArray) (text : ByteArray) (K : Value → World → Prop) (w : World) : vcFn P tau rho pan ann_millpondref11_Read Go.Proofs.Tryd.f11 #[(.string name), (.string text)] K (fun _ _ => False) w = sh_millpondref11_Read name text K w := by kernel_rfl
theorem ok_millpondref11_Read : okFn P ann_millpondref11_Read Go.Proofs.Tryd.f11 2 = true := by kernel_rfl
theorem of_millpondref11_Read (name : ByteArray) (text : ByteArray) {K : Value → World → Prop} {w : World} (h : sh_millpondref11_Read name text K w) : Calls P fn_millpondref11_Read #[(.string name), (.string text)] w (Ret K) := calls_of_vc mixed Go.Proofs.Tryd.func11 ok_millpondref11_Read (by rw [vc_millpondref11_Read]; exact h)

def ann_control_Show : Ann := { quiet := fun d => [4].contains d }
/-- millpond/control.Show -/
def sh_control_Show (n : Int) (K : Value → World → Prop) (w : World) : Prop :=
  bif (n == 1099511627776) then (K (.string (ByteArray.mk #[109, 97, 120])) w) else (Calls P fn_strconv_Itoa #[(.int .i64 n)] w fun e2 w1 => ∃ x3 : ByteArray, e2 = .returned (.string
    x3) ∧ K (.string x3) w1)
theorem vc_control_Show (n : Int) (K : Value → World → Prop) (w : World) : vcFn P tau rho pan ann_control_Show Go.Proofs.Tryd.f12 #[(.int .i64 n)] K (fun _ _ => False) w = sh_control_Show n K w := by kernel_rfl
theorem ok_control_Show : okFn P ann_control_Show Go.Proofs.Tryd.f12 1 = true := by kernel_rfl
theorem of_control_Show (n : Int) {K : Value → World → Prop} {w : World} (h : sh_control_Show n K w) : Calls P fn_control_Show #[(.int .i64 n)] w (Ret K) := calls_of_vc mixed Go.Proofs.Tryd.func12 ok_control_Show (by rw [vc_control_Show]; exact h)

def ann_millpondref11_Show : Ann := { quiet := fun d => [4].contains d }
/-- millpond/millpondref11.Show -/
def sh_millpondref11_Show (n : Int) (K : Value → World → Prop) (w : World) : Prop :=
  bif (n == 1099511627776) then (K (.string (ByteArray.mk #[109, 97, 120])) w) else (Calls P fn_millpondref11_Digits #[(.int .i64 n)] w fun e2 w1 => ∃ x3 : ByteArray, e2 = .returned
    (.string x3) ∧ K (.string x3) w1)
theorem vc_millpondref11_Show (n : Int) (K : Value → World → Prop) (w : World) : vcFn P tau rho pan ann_millpondref11_Show Go.Proofs.Tryd.f13 #[(.int .i64 n)] K (fun _ _ => False) w = sh_millpondref11_Show n K w := by kernel_rfl
theorem ok_millpondref11_Show : okFn P ann_millpondref11_Show Go.Proofs.Tryd.f13 1 = true := by kernel_rfl
theorem of_millpondref11_Show (n : Int) {K : Value → World → Prop} {w : World} (h : sh_millpondref11_Show n K w) : Calls P fn_millpondref11_Show #[(.int .i64 n)] w (Ret K) := calls_of_vc mixed Go.Proofs.Tryd.func13 ok_millpondref11_Show (by rw [vc_millpondref11_Show]; exact h)

def ann_millpondlaw11_over : Ann := { quiet := fun d => [6, 7, 10, 13, 18, 19, 21, 22].contains d, loop := fun r => (bif r == 2 then [(3, .int .i64)] else []), join := fun r => (bif r == 4 then some [] else none) }
/-- millpond/millpondlaw11.over -/
def sh_millpondlaw11_over (names : Sl) (K : Value → World → Prop) (w : World) : Prop :=
  ∃ (I1 : Int → World → Prop) (M2 : Int → World → Nat), I1 0 w ∧ ∀ _u4 : Nat → Value, ∀ i5 : Int, ∀ w3 : World, I1 i5 w3 → ∃ J6 : World → Prop, (bif (decide (i5 < ((names.n : Nat) :
    Int))) then (bif (decide (i5 ≤ 120)) then (J6 w3) else (K (.bool (decide (((names.n : Nat) : Int) > 120))) w3)) else (K (.bool (decide (((names.n : Nat) : Int) > 120))) w3)) ∧
    (∀ _u8 : Nat → Value, ∀ w7 : World, J6 w7 → elAt names.p names.n i5 1 fun a9 => ∃ x10 : ByteArray, w7.cell? a9 = some (.string x10) ∧ bif (decide (((x10.size : Nat) : Int) >
    120)) then (K (.bool true) w7) else ((I1 (IntKind.i64.wrap (i5 + 1)) w7 ∧ M2 (IntKind.i64.wrap (i5 + 1)) w7 < M2 i5 w3)))
theorem vc_millpondlaw11_over (names : Sl) (K : Value → World → Prop) (w : World) : vcFn P tau rho pan ann_millpondlaw11_over Go.Proofs.Tryd.f14 #[(.slice names.p names.n names.c)] K (fun _ _ => False) w = sh_millpondlaw11_over names K w := by kernel_rfl
theorem ok_millpondlaw11_over : okFn P ann_millpondlaw11_over Go.Proofs.Tryd.f14 1 = true := by kernel_rfl
theorem of_millpondlaw11_over (names : Sl) {K : Value → World → Prop} {w : World} (h : sh_millpondlaw11_over names K w) : Calls P fn_millpondlaw11_over #[(.slice names.p names.n names.c)] w (Ret K) := calls_of_vc mixed Go.Proofs.Tryd.func14 ok_millpondlaw11_over (by rw [vc_millpondlaw11_over]; exact h)

def ann_control_Stat : Ann := { quiet := fun d => [11, 13, 14, 17, 18, 22, 24, 39, 45, 46, 48].contains d, loop := fun r => (bif r == 6 then [(23, .int .i64)] else []), join := fun r => (bif r == 3 then some [] else bif r == 10 then some [] else none) }
/-- millpond/control.Stat -/
def sh_control_Stat (names : Sl) (values : Sl) (K : Value → World → Prop) (w : World) : Prop :=
  ∃ J1 : World → Prop, (bif (((names.n : Nat) : Int) != ((values.n : Nat) : Int)) then (K (.tuple #[(.string (ByteArray.mk #[])), (.int .i64 1)]) w) else (bif (decide (((names.n :
    Nat) : Int) > 100)) then (K (.tuple #[(.string (ByteArray.mk #[])), (.int .i64 1)]) w) else (J1 w))) ∧ (∀ _u3 : Nat → Value, ∀ w2 : World, J1 w2 → Al (.cells #[(.pointer none),
    (.slice none 0 0)] 50) (fun p4 w5 => AlM (fun m6 w7 => ∃ (I8 : Int → World → Prop) (M9 : Int → World → Nat), I8 0 w7 ∧ ∀ _u11 : Nat → Value, ∀ x12 : Int, ∀ w10 : World, I8 x12
    w10 → bif (decide (x12 < ((names.n : Nat) : Int))) then (elAt names.p names.n x12 1 fun a13 => ∃ x14 : ByteArray, w10.cell? a13 = some (.string x14) ∧ ∃ J15 : World → Prop,
    (Calls P fn_control_Word #[(.string x14)] w10 fun e19 w18 => ∃ x20 : Bool, e19 = .returned (.bool x20) ∧ bif (!x20) then (K (.tuple #[(.string (ByteArray.mk #[])), (.int .i64
    1)]) w18) else (∃ x21 : Bool, LookV P 51 (.map (some m6)) (.string x14) false w18 (.bool x21) ∧ bif x21 then (K (.tuple #[(.string (ByteArray.mk #[])), (.int .i64 1)]) w18) else
    (J15 w18))) ∧ (∀ _u17 : Nat → Value, ∀ w16 : World, J15 w16 → ∃ w22 : World, Sem.run P (Instr.mapUpdate 51 (.map (some m6)) (.string x14) (.bool true)) w16 = .ok () w22 ∧
    x14.size + (ByteArray.mk #[32]).size ≤ 9223372036854775807 ∧ elAt values.p values.n x12 1 fun a23 => ∃ x24 : Int, w22.cell? a23 = some (.int .i64 x24) ∧ Calls P fn_strconv_Itoa
    #[(.int .i64 x24)] w22 fun e26 w25 => ∃ x27 : ByteArray, e26 = .returned (.string x27) ∧ (x14 ++ (ByteArray.mk #[32])).size + x27.size ≤ 9223372036854775807 ∧ ((x14 ++
    (ByteArray.mk #[32])) ++ x27).size + (ByteArray.mk #[10]).size ≤ 9223372036854775807 ∧ Calls P fn_strings_Builder_WriteString #[(.pointer (some p4)), (.string (((x14 ++
    (ByteArray.mk #[32])) ++ x27) ++ (ByteArray.mk #[10])))] w25 fun e29 w28 => ∃ x30 : Int, ∃ x31 : Value, e29 = .returned (.tuple #[(.int .i64 x30), x31]) ∧ (I8 (IntKind.i64.wrap
    (x12 + 1)) w28 ∧ M9 (IntKind.i64.wrap (x12 + 1)) w28 < M9 x12 w10))) else (Calls P fn_strings_Builder_String #[(.pointer (some p4))] w10 fun e33 w32 => ∃ x34 : ByteArray, e33 =
    .returned (.string x34) ∧ K (.tuple #[(.string x34), (.int .i64 0)]) w32)) w5) w2)
theorem vc_control_Stat (names : Sl) (values : Sl) (K : Value → World → Prop) (w : World) : vcFn P tau rho pan ann_control_Stat Go.Proofs.Tryd.f15 #[(.slice names.p names.n names.c), (.slice values.p values.n values.c)] K (fun _ _ => False) w = sh_control_Stat names values K w := by kernel_rfl
theorem ok_control_Stat : okFn P ann_control_Stat Go.Proofs.Tryd.f15 2 = true := by kernel_rfl
theorem of_control_Stat (names : Sl) (values : Sl) {K : Value → World → Prop} {w : World} (h : sh_control_Stat names values K w) : Calls P fn_control_Stat #[(.slice names.p names.n names.c), (.slice values.p values.n values.c)] w (Ret K) := calls_of_vc mixed Go.Proofs.Tryd.func15 ok_control_Stat (by rw [vc_control_Stat]; exact h)

def ann_millpondref11_Stat : Ann := { quiet := fun d => [10, 12, 13, 16, 17, 21, 22, 24, 33, 35, 44, 50, 51, 57, 58].contains d, sig := fun r => (bif r == 14 then some ([0, 1, 2, 3, 4, 5, 6, 7, 8, 9, 10, 11, 12, 13, 14], [11]) else none), head := fun r => (bif r == 12 then 9 else 0), loop := fun r => (bif r == 5 then [(6, .str), (7, .int .i64)] else bif r == 10 then [(8, .int .i64)] else []), join := fun r => (bif r == 3 then some [] else none) }
/-- millpond/millpondref11.Stat -/
def sh_millpondref11_Stat (names : Sl) (values : Sl) (K : Value → World → Prop) (w : World) : Prop :=
  ∃ J1 : World → Prop, (bif (((names.n : Nat) : Int) != ((values.n : Nat) : Int)) then (K (.tuple #[(.string (ByteArray.mk #[])), (.int .i64 1)]) w) else (bif (decide (((names.n :
    Nat) : Int) > 100)) then (K (.tuple #[(.string (ByteArray.mk #[])), (.int .i64 1)]) w) else (J1 w))) ∧ (∀ _u3 : Nat → Value, ∀ w2 : World, J1 w2 → ∃ (I4 : ByteArray → Int →
    World → Prop) (M5 : ByteArray → Int → World → Nat), I4 (ByteArray.mk #[]) 0 w2 ∧ ∀ _u7 : Nat → Value, ∀ s8 : ByteArray, ∀ i9 : Int, ∀ w6 : World, I4 s8 i9 w6 → bif (decide (i9 <
    ((names.n : Nat) : Int))) then (elAt names.p names.n i9 1 fun a10 => ∃ x11 : ByteArray, w6.cell? a10 = some (.string x11) ∧ Calls P fn_millpondref11_Word #[(.string x11)] w6 fun
    e13 w12 => ∃ x14 : Bool, e13 = .returned (.bool x14) ∧ bif (!x14) then (K (.tuple #[(.string (ByteArray.mk #[])), (.int .i64 1)]) w12) else (∃ (I15 : Int → World → Prop) (M16 :
    Int → World → Nat), I15 0 w12 ∧ ∀ _u18 : Nat → Value, ∀ k19 : Int, ∀ w17 : World, I15 k19 w17 → bif (decide (k19 < i9)) then (Dr (fun w20 => elAt names.p names.n k19 1 fun a21
    => ∃ x22 : ByteArray, w20.cell? a21 = some (.string x22) ∧ elAt names.p names.n i9 1 fun a23 => ∃ x24 : ByteArray, w20.cell? a23 = some (.string x24) ∧ bif (x22.toList ==
    x24.toList) then (K (.tuple #[(.string (ByteArray.mk #[])), (.int .i64 1)]) w20) else ((I15 (IntKind.i64.wrap (k19 + 1)) w20 ∧ M16 (IntKind.i64.wrap (k19 + 1)) w20 < M16 k19
    w17))) w17) else (Dr (fun w25 => elAt names.p names.n i9 1 fun a26 => ∃ x27 : ByteArray, w25.cell? a26 = some (.string x27) ∧ s8.size + x27.size ≤ 9223372036854775807 ∧ (s8 ++
    x27).size + (ByteArray.mk #[32]).size ≤ 9223372036854775807 ∧ elAt values.p values.n i9 1 fun a28 => ∃ x29 : Int, w25.cell? a28 = some (.int .i64 x29) ∧ Calls P
    fn_millpondref11_Digits #[(.int .i64 x29)] w25 fun e31 w30 => ∃ x32 : ByteArray, e31 = .returned (.string x32) ∧ ∃ x33 : ByteArray, w30.cell? a26 = some (.string x33) ∧
    ((.string x33) : Value) = (.string x27) ∧ ((s8 ++ x27) ++ (ByteArray.mk #[32])).size + x32.size ≤ 9223372036854775807 ∧ (((s8 ++ x27) ++ (ByteArray.mk #[32])) ++ x32).size +
    (ByteArray.mk #[10]).size ≤ 9223372036854775807 ∧ (I4 ((((s8 ++ x27) ++ (ByteArray.mk #[32])) ++ x32) ++ (ByteArray.mk #[10])) (IntKind.i64.wrap (i9 + 1)) w30 ∧ M5 ((((s8 ++
    x27) ++ (ByteArray.mk #[32])) ++ x32) ++ (ByteArray.mk #[10])) (IntKind.i64.wrap (i9 + 1)) w30 < M5 s8 i9 w6)) w17))) else (K (.tuple #[(.string s8), (.int .i64 0)]) w6))
theorem vc_millpondref11_Stat (names : Sl) (values : Sl) (K : Value → World → Prop) (w : World) : vcFn P tau rho pan ann_millpondref11_Stat Go.Proofs.Tryd.f16 #[(.slice names.p names.n names.c), (.slice values.p values.n values.c)] K (fun _ _ => False) w = sh_millpondref11_Stat names values K w := by kernel_rfl
theorem ok_millpondref11_Stat : okFn P ann_millpondref11_Stat Go.Proofs.Tryd.f16 2 = true := by kernel_rfl
theorem of_millpondref11_Stat (names : Sl) (values : Sl) {K : Value → World → Prop} {w : World} (h : sh_millpondref11_Stat names values K w) : Calls P fn_millpondref11_Stat #[(.slice names.p names.n names.c), (.slice values.p values.n values.c)] w (Ret K) := calls_of_vc mixed Go.Proofs.Tryd.func16 ok_millpondref11_Stat (by rw [vc_millpondref11_Stat]; exact h)

def ann_control_Parse : Ann := { quiet := fun d => [20, 58, 62, 63].contains d, loop := fun r => (bif r == 5 then [(5, .slice), (6, .slice), (8, .str)] else []) }
/-- millpond/control.Parse -/
def sh_control_Parse (text : ByteArray) (K : Value → World → Prop) (w : World) : Prop :=
  AlM (fun m1 w2 => ∃ (I3 : Sl → Sl → ByteArray → World → Prop) (M4 : Sl → Sl → ByteArray → World → Nat), I3 ⟨none, 0, 0⟩ ⟨none, 0, 0⟩ text w2 ∧ ∀ _u6 : Nat → Value, ∀ names7 : Sl, ∀
    values8 : Sl, ∀ rest9 : ByteArray, ∀ w5 : World, I3 names7 values8 rest9 w5 → bif (!(rest9.toList == (ByteArray.mk #[]).toList)) then (Calls P fn_strings_Cut #[(.string rest9),
    (.string (ByteArray.mk #[10]))] w5 fun e11 w10 => ∃ x12 : ByteArray, ∃ x13 : ByteArray, ∃ x14 : Bool, e11 = .returned (.tuple #[(.string x12), (.string x13), (.bool x14)]) ∧
    Calls P fn_strings_Cut #[(.string x12), (.string (ByteArray.mk #[32]))] w10 fun e16 w15 => ∃ x17 : ByteArray, ∃ x18 : ByteArray, ∃ x19 : Bool, e16 = .returned (.tuple #[(.string
    x17), (.string x18), (.bool x19)]) ∧ Calls P fn_strconv_Atoi #[(.string x18)] w15 fun e21 w20 => ∃ x22 : Int, ∃ x23 : Value, e21 = .returned (.tuple #[(.int .i64 x22), x23]) ∧
    bif (!x14) then (K (.tuple #[(.slice none 0 0), (.slice none 0 0), (.int .i64 20)]) w20) else (Calls P fn_control_Word #[(.string x17)] w20 fun e25 w24 => ∃ x26 : Bool, e25 =
    .returned (.bool x26) ∧ bif (!x26) then (K (.tuple #[(.slice none 0 0), (.slice none 0 0), (.int .i64 20)]) w24) else (∃ x27 : Bool, LookV P 51 (.map (some m1)) (.string x17)
    false w24 (.bool x27) ∧ bif x27 then (K (.tuple #[(.slice none 0 0), (.slice none 0 0), (.int .i64 20)]) w24) else (∃ x29 : Bool, ∃ w28 : World, Sem.run P (eqGuard .neq 53 (.tmp
    51) (.const .nilIface) x23 .nilIface >>= fun _ => binOp .neq 53 x23 .nilIface) w24 = .ok (.bool x29) w28 ∧ bif x29 then (K (.tuple #[(.slice none 0 0), (.slice none 0 0), (.int
    .i64 20)]) w28) else (Calls P fn_strconv_Itoa #[(.int .i64 x22)] w28 fun e31 w30 => ∃ x32 : ByteArray, e31 = .returned (.string x32) ∧ bif (!(x32.toList == x18.toList)) then (K
    (.tuple #[(.slice none 0 0), (.slice none 0 0), (.int .i64 20)]) w30) else (bif (decide (((names7.n : Nat) : Int) ≥ 100)) then (K (.tuple #[(.slice none 0 0), (.slice none 0 0),
    (.int .i64 20)]) w30) else (∃ w33 : World, Sem.run P (Instr.mapUpdate 51 (.map (some m1)) (.string x17) (.bool true)) w30 = .ok () w33 ∧ Al (.cells #[(.string x17)] 9) (fun p34
    w35 => ∃ x37 : Sl, ∃ w36 : World, Sem.run P (Builtin.append_ #[28, 28] 28 #[(.slice names7.p names7.n names7.c), (.slice (some p34) 1 1)]) w35 = .ok (.slice x37.p x37.n x37.c)
    w36 ∧ Al (.cells #[(.int .i64 x22)] 3) (fun p38 w39 => ∃ x41 : Sl, ∃ w40 : World, Sem.run P (Builtin.append_ #[29, 29] 29 #[(.slice values8.p values8.n values8.c), (.slice (some
    p38) 1 1)]) w39 = .ok (.slice x41.p x41.n x41.c) w40 ∧ (I3 x37 x41 x13 w40 ∧ M4 x37 x41 x13 w40 < M4 names7 values8 rest9 w5)) w36) w33))))))) else (K (.tuple #[(.slice names7.p
    names7.n names7.c), (.slice values8.p values8.n values8.c), (.int .i64 0)]) w5)) w
theorem vc_control_Parse (text : ByteArray) (K : Value → World → Prop) (w : World) : vcFn P tau rho pan ann_control_Parse Go.Proofs.Tryd.f17 #[(.string text)] K (fun _ _ => False) w = sh_control_Parse text K w := by kernel_rfl
theorem ok_control_Parse : okFn P ann_control_Parse Go.Proofs.Tryd.f17 1 = true := by kernel_rfl
theorem of_control_Parse (text : ByteArray) {K : Value → World → Prop} {w : World} (h : sh_control_Parse text K w) : Calls P fn_control_Parse #[(.string text)] w (Ret K) := calls_of_vc mixed Go.Proofs.Tryd.func17 ok_control_Parse (by rw [vc_control_Parse]; exact h)

def ann_millpondref11_Parse : Ann := { quiet := fun d => [14, 15, 17, 20, 21, 25, 26, 40, 42, 50, 54].contains d, loop := fun r => (bif r == 6 then [(5, .slice), (6, .slice), (7, .str), (8, .str), (9, .int .i64)] else []) }
/-- millpond/millpondref11.Parse -/
def sh_millpondref11_Parse (text : ByteArray) (K : Value → World → Prop) (w : World) : Prop :=
  ∃ (I1 : Sl → Sl → ByteArray → ByteArray → Int → World → Prop) (M2 : Sl → Sl → ByteArray → ByteArray → Int → World → Nat), I1 ⟨none, 0, 0⟩ ⟨none, 0, 0⟩ (ByteArray.mk #[])
    (ByteArray.mk #[]) 0 w ∧ ∀ _u4 : Nat → Value, ∀ names5 : Sl, ∀ values6 : Sl, ∀ line7 : ByteArray, ∀ name8 : ByteArray, ∀ i9 : Int, ∀ w3 : World, I1 names5 values6 line7 name8 i9
    w3 → bif (decide (i9 < ((text.size : Nat) : Int))) then (strAt text i9 fun b10 => bif (b10 == 32) then ((I1 names5 values6 (ByteArray.mk #[]) line7 (IntKind.i64.wrap (i9 + 1))
    w3 ∧ M2 names5 values6 (ByteArray.mk #[]) line7 (IntKind.i64.wrap (i9 + 1)) w3 < M2 names5 values6 line7 name8 i9 w3)) else (strAt text i9 fun b11 => bif (b11 == 10) then (Al
    (.cells #[(.string name8)] 9) (fun p12 w13 => ∃ x15 : Sl, ∃ w14 : World, Sem.run P (Builtin.append_ #[28, 28] 28 #[(.slice names5.p names5.n names5.c), (.slice (some p12) 1 1)])
    w13 = .ok (.slice x15.p x15.n x15.c) w14 ∧ Calls P fn_millpondref11_value #[(.string line7)] w14 fun e17 w16 => ∃ x18 : Int, e17 = .returned (.int .i64 x18) ∧ Al (.cells #[(.int
    .i64 x18)] 3) (fun p19 w20 => ∃ x22 : Sl, ∃ w21 : World, Sem.run P (Builtin.append_ #[29, 29] 29 #[(.slice values6.p values6.n values6.c), (.slice (some p19) 1 1)]) w20 = .ok
    (.slice x22.p x22.n x22.c) w21 ∧ (I1 x15 x22 (ByteArray.mk #[]) (ByteArray.mk #[]) (IntKind.i64.wrap (i9 + 1)) w21 ∧ M2 x15 x22 (ByteArray.mk #[]) (ByteArray.mk #[])
    (IntKind.i64.wrap (i9 + 1)) w21 < M2 names5 values6 line7 name8 i9 w3)) w16) w3) else ((0 ≤ (IntKind.i64.wrap (i9 + 1)) ∧ (IntKind.i64.wrap (i9 + 1)) ≤ ((text.size : Nat) :
    Int)) ∧ (0 ≤ i9 ∧ i9 ≤ (((IntKind.i64.wrap (i9 + 1)).toNat : Nat) : Int)) ∧ line7.size + (text.extract i9.toNat ((IntKind.i64.wrap (i9 + 1)).toNat)).size ≤ 9223372036854775807 ∧
    (I1 names5 values6 (line7 ++ (text.extract i9.toNat ((IntKind.i64.wrap (i9 + 1)).toNat))) name8 (IntKind.i64.wrap (i9 + 1)) w3 ∧ M2 names5 values6 (line7 ++ (text.extract
    i9.toNat ((IntKind.i64.wrap (i9 + 1)).toNat))) name8 (IntKind.i64.wrap (i9 + 1)) w3 < M2 names5 values6 line7 name8 i9 w3)))) else (Calls P fn_millpondref11_Stat #[(.slice
    names5.p names5.n names5.c), (.slice values6.p values6.n values6.c)] w3 fun e24 w23 => ∃ x25 : ByteArray, ∃ x26 : Int, e24 = .returned (.tuple #[(.string x25), (.int .i64 x26)])
    ∧ bif (x26 != 0) then (K (.tuple #[(.slice none 0 0), (.slice none 0 0), (.int .i64 20)]) w23) else (bif (!(x25.toList == text.toList)) then (K (.tuple #[(.slice none 0 0),
    (.slice none 0 0), (.int .i64 20)]) w23) else (K (.tuple #[(.slice names5.p names5.n names5.c), (.slice values6.p values6.n values6.c), (.int .i64 0)]) w23)))
theorem vc_millpondref11_Parse (text : ByteArray) (K : Value → World → Prop) (w : World) : vcFn P tau rho pan ann_millpondref11_Parse Go.Proofs.Tryd.f18 #[(.string text)] K (fun _ _ => False) w = sh_millpondref11_Parse text K w := by kernel_rfl
theorem ok_millpondref11_Parse : okFn P ann_millpondref11_Parse Go.Proofs.Tryd.f18 1 = true := by kernel_rfl
theorem of_millpondref11_Parse (text : ByteArray) {K : Value → World → Prop} {w : World} (h : sh_millpondref11_Parse text K w) : Calls P fn_millpondref11_Parse #[(.string text)] w (Ret K) := calls_of_vc mixed Go.Proofs.Tryd.func18 ok_millpondref11_Parse (by rw [vc_millpondref11_Parse]; exact h)

def ann_millpondlaw11_texts : Ann := { quiet := fun d => [7, 9, 10, 13, 14, 16, 25].contains d, head := fun r => (bif r == 6 then 9 else 0), loop := fun r => (bif r == 4 then [(5, .int .i64)] else []) }
/-- millpond/millpondlaw11.texts -/
def sh_millpondlaw11_texts (a : Sl) (b : Sl) (K : Value → World → Prop) (w : World) : Prop :=
  bif (((a.n : Nat) : Int) != ((b.n : Nat) : Int)) then (K (.bool false) w) else (∃ (I1 : Int → World → Prop) (M2 : Int → World → Nat), I1 0 w ∧ ∀ _u4 : Nat → Value, ∀ i5 : Int, ∀ w3
    : World, I1 i5 w3 → bif (decide (i5 < ((a.n : Nat) : Int))) then (Dr (fun w6 => elAt a.p a.n i5 1 fun a7 => ∃ x8 : ByteArray, w6.cell? a7 = some (.string x8) ∧ elAt b.p b.n i5 1
    fun a9 => ∃ x10 : ByteArray, w6.cell? a9 = some (.string x10) ∧ bif (!(x8.toList == x10.toList)) then (K (.bool false) w6) else ((I1 (IntKind.i64.wrap (i5 + 1)) w6 ∧ M2
    (IntKind.i64.wrap (i5 + 1)) w6 < M2 i5 w3))) w3) else (K (.bool true) w3))
theorem vc_millpondlaw11_texts (a : Sl) (b : Sl) (K : Value → World → Prop) (w : World) : vcFn P tau rho pan ann_millpondlaw11_texts Go.Proofs.Tryd.f19 #[(.slice a.p a.n a.c), (.slice b.p b.n b.c)] K (fun _ _ => False) w = sh_millpondlaw11_texts a b K w := by kernel_rfl
theorem ok_millpondlaw11_texts : okFn P ann_millpondlaw11_texts Go.Proofs.Tryd.f19 2 = true := by kernel_rfl
theorem of_millpondlaw11_texts (a : Sl) (b : Sl) {K : Value → World → Prop} {w : World} (h : sh_millpondlaw11_texts a b K w) : Calls P fn_millpondlaw11_texts #[(.slice a.p a.n a.c), (.slice b.p b.n b.c)] w (Ret K) := calls_of_vc mixed Go.Proofs.Tryd.func19 ok_millpondlaw11_texts (by rw [vc_millpondlaw11_texts]; exact h)

def ann_millpondlaw11_row : Ann := { quiet := fun d => [7, 9, 10, 13, 14, 16, 25].contains d, head := fun r => (bif r == 6 then 9 else 0), loop := fun r => (bif r == 4 then [(5, .int .i64)] else []) }
/-- millpond/millpondlaw11.row -/
def sh_millpondlaw11_row (a : Sl) (b : Sl) (K : Value → World → Prop) (w : World) : Prop :=
  bif (((a.n : Nat) : Int) != ((b.n : Nat) : Int)) then (K (.bool false) w) else (∃ (I1 : Int → World → Prop) (M2 : Int → World → Nat), I1 0 w ∧ ∀ _u4 : Nat → Value, ∀ i5 : Int, ∀ w3
    : World, I1 i5 w3 → bif (decide (i5 < ((a.n : Nat) : Int))) then (Dr (fun w6 => elAt a.p a.n i5 1 fun a7 => ∃ x8 : Int, w6.cell? a7 = some (.int .i64 x8) ∧ elAt b.p b.n i5 1 fun
    a9 => ∃ x10 : Int, w6.cell? a9 = some (.int .i64 x10) ∧ bif (x8 != x10) then (K (.bool false) w6) else ((I1 (IntKind.i64.wrap (i5 + 1)) w6 ∧ M2 (IntKind.i64.wrap (i5 + 1)) w6 <
    M2 i5 w3))) w3) else (K (.bool true) w3))
theorem vc_millpondlaw11_row (a : Sl) (b : Sl) (K : Value → World → Prop) (w : World) : vcFn P tau rho pan ann_millpondlaw11_row Go.Proofs.Tryd.f20 #[(.slice a.p a.n a.c), (.slice b.p b.n b.c)] K (fun _ _ => False) w = sh_millpondlaw11_row a b K w := by kernel_rfl
theorem ok_millpondlaw11_row : okFn P ann_millpondlaw11_row Go.Proofs.Tryd.f20 2 = true := by kernel_rfl
theorem of_millpondlaw11_row (a : Sl) (b : Sl) {K : Value → World → Prop} {w : World} (h : sh_millpondlaw11_row a b K w) : Calls P fn_millpondlaw11_row #[(.slice a.p a.n a.c), (.slice b.p b.n b.c)] w (Ret K) := calls_of_vc mixed Go.Proofs.Tryd.func20 ok_millpondlaw11_row (by rw [vc_millpondlaw11_row]; exact h)

def ann_control_Word : Ann := { quiet := fun d => [6, 8, 12, 14, 17, 21, 24, 29, 31, 33, 34, 37, 38].contains d, loop := fun r => (bif r == 2 then [(7, .int .i64)] else []) }
/-- millpond/control.Word -/
def sh_control_Word (s : ByteArray) (K : Value → World → Prop) (w : World) : Prop :=
  ∃ (I1 : Int → World → Prop) (M2 : Int → World → Nat), I1 0 w ∧ ∀ _u4 : Nat → Value, ∀ x5 : Int, ∀ w3 : World, I1 x5 w3 → bif (decide (x5 < ((s.size : Nat) : Int))) then (strAt s x5
    fun b6 => bif (decide (b6 < 97)) then (bif (decide (b6 < 48)) then (bif (b6 != 95) then (K (.bool false) w3) else ((I1 (IntKind.i64.wrap (x5 + 1)) w3 ∧ M2 (IntKind.i64.wrap (x5
    + 1)) w3 < M2 x5 w3))) else (bif (decide (b6 > 57)) then (bif (b6 != 95) then (K (.bool false) w3) else ((I1 (IntKind.i64.wrap (x5 + 1)) w3 ∧ M2 (IntKind.i64.wrap (x5 + 1)) w3 <
    M2 x5 w3))) else ((I1 (IntKind.i64.wrap (x5 + 1)) w3 ∧ M2 (IntKind.i64.wrap (x5 + 1)) w3 < M2 x5 w3)))) else (bif (decide (b6 > 122)) then (bif (decide (b6 < 48)) then (bif (b6
    != 95) then (K (.bool false) w3) else ((I1 (IntKind.i64.wrap (x5 + 1)) w3 ∧ M2 (IntKind.i64.wrap (x5 + 1)) w3 < M2 x5 w3))) else (bif (decide (b6 > 57)) then (bif (b6 != 95)
    then (K (.bool false) w3) else ((I1 (IntKind.i64.wrap (x5 + 1)) w3 ∧ M2 (IntKind.i64.wrap (x5 + 1)) w3 < M2 x5 w3))) else ((I1 (IntKind.i64.wrap (x5 + 1)) w3 ∧ M2
    (IntKind.i64.wrap (x5 + 1)) w3 < M2 x5 w3)))) else ((I1 (IntKind.i64.wrap (x5 + 1)) w3 ∧ M2 (IntKind.i64.wrap (x5 + 1)) w3 < M2 x5 w3)))) else (bif (decide ((1 : Int) ≤ ((s.size
    : Nat) : Int))) then (K (.bool (decide (((s.size : Nat) : Int) ≤ 40))) w3) else (K (.bool false) w3))
theorem vc_control_Word (s : ByteArray) (K : Value → World → Prop) (w : World) : vcFn P tau rho pan ann_control_Word Go.Proofs.Tryd.f21 #[(.string s)] K (fun _ _ => False) w = sh_control_Word s K w := by kernel_rfl
theorem ok_control_Word : okFn P ann_control_Word Go.Proofs.Tryd.f21 1 = true := by kernel_rfl
theorem of_control_Word (s : ByteArray) {K : Value → World → Prop} {w : World} (h : sh_control_Word s K w) : Calls P fn_control_Word #[(.string s)] w (Ret K) := calls_of_vc mixed Go.Proofs.Tryd.func21 ok_control_Word (by rw [vc_control_Word]; exact h)

def ann_millpondref11_Word : Ann := { quiet := fun d => [7, 8, 10, 13, 15, 18, 22, 25, 30, 34, 35, 38, 39].contains d, loop := fun r => (bif r == 2 then [(3, .int .i64)] else []) }
/-- millpond/millpondref11.Word -/
def sh_millpondref11_Word (s : ByteArray) (K : Value → World → Prop) (w : World) : Prop :=
  ∃ (I1 : Int → World → Prop) (M2 : Int → World → Nat), I1 0 w ∧ ∀ _u4 : Nat → Value, ∀ i5 : Int, ∀ w3 : World, I1 i5 w3 → bif (decide (i5 < ((s.size : Nat) : Int))) then (strAt s i5
    fun b6 => bif (decide (b6 ≥ 97)) then (bif (decide (b6 ≤ 122)) then ((I1 (IntKind.i64.wrap (i5 + 1)) w3 ∧ M2 (IntKind.i64.wrap (i5 + 1)) w3 < M2 i5 w3)) else (bif (decide (b6 ≥
    48)) then (bif (decide (b6 ≤ 57)) then ((I1 (IntKind.i64.wrap (i5 + 1)) w3 ∧ M2 (IntKind.i64.wrap (i5 + 1)) w3 < M2 i5 w3)) else (bif (!(b6 == 95)) then (K (.bool false) w3)
    else ((I1 (IntKind.i64.wrap (i5 + 1)) w3 ∧ M2 (IntKind.i64.wrap (i5 + 1)) w3 < M2 i5 w3)))) else (bif (!(b6 == 95)) then (K (.bool false) w3) else ((I1 (IntKind.i64.wrap (i5 +
    1)) w3 ∧ M2 (IntKind.i64.wrap (i5 + 1)) w3 < M2 i5 w3))))) else (bif (decide (b6 ≥ 48)) then (bif (decide (b6 ≤ 57)) then ((I1 (IntKind.i64.wrap (i5 + 1)) w3 ∧ M2
    (IntKind.i64.wrap (i5 + 1)) w3 < M2 i5 w3)) else (bif (!(b6 == 95)) then (K (.bool false) w3) else ((I1 (IntKind.i64.wrap (i5 + 1)) w3 ∧ M2 (IntKind.i64.wrap (i5 + 1)) w3 < M2
    i5 w3)))) else (bif (!(b6 == 95)) then (K (.bool false) w3) else ((I1 (IntKind.i64.wrap (i5 + 1)) w3 ∧ M2 (IntKind.i64.wrap (i5 + 1)) w3 < M2 i5 w3))))) else (bif (decide
    (((s.size : Nat) : Int) ≥ 1)) then (K (.bool (decide (((s.size : Nat) : Int) ≤ 40))) w3) else (K (.bool false) w3))
theorem vc_millpondref11_Word (s : ByteArray) (K : Value → World → Prop) (w : World) : vcFn P tau rho pan ann_millpondref11_Word Go.Proofs.Tryd.f22 #[(.string s)] K (fun _ _ => False) w = sh_millpondref11_Word s K w := by kernel_rfl
theorem ok_millpondref11_Word : okFn P ann_millpondref11_Word Go.Proofs.Tryd.f22 1 = true := by kernel_rfl
theorem of_millpondref11_Word (s : ByteArray) {K : Value → World → Prop} {w : World} (h : sh_millpondref11_Word s K w) : Calls P fn_millpondref11_Word #[(.string s)] w (Ret K) := calls_of_vc mixed Go.Proofs.Tryd.func22 ok_millpondref11_Word (by rw [vc_millpondref11_Word]; exact h)

def ann_control_file : Ann := { quiet := fun d => [5, 7, 9, 11, 13].contains d }
/-- millpond/control.file -/
def sh_control_file (name : ByteArray) (K : Value → World → Prop) (w : World) : Prop :=
  bif (name.toList == (ByteArray.mk #[109, 101, 109, 111, 114, 121, 46, 109, 105, 110]).toList) then (K (.int .i64 0) w) else (bif (name.toList == (ByteArray.mk #[109, 101, 109, 111,
    114, 121, 46, 108, 111, 119]).toList) then (K (.int .i64 1) w) else (bif (name.toList == (ByteArray.mk #[109, 101, 109, 111, 114, 121, 46, 109, 97, 120]).toList) then (K (.int
    .i64 2) w) else (bif (name.toList == (ByteArray.mk #[115, 119, 97, 112, 46, 109, 97, 120]).toList) then (K (.int .i64 3) w) else (bif (name.toList == (ByteArray.mk #[109, 101,
    109, 111, 114, 121, 46, 111, 111, 109, 46, 103, 114, 111, 117, 112]).toList) then (K (.int .i64 4) w) else (K (.int .i64 (-1)) w)))))
theorem vc_control_file (name : ByteArray) (K : Value → World → Prop) (w : World) : vcFn P tau rho pan ann_control_file Go.Proofs.Tryd.f23 #[(.string name)] K (fun _ _ => False) w = sh_control_file name K w := by kernel_rfl
theorem ok_control_file : okFn P ann_control_file Go.Proofs.Tryd.f23 1 = true := by kernel_rfl
theorem of_control_file (name : ByteArray) {K : Value → World → Prop} {w : World} (h : sh_control_file name K w) : Calls P fn_control_file #[(.string name)] w (Ret K) := calls_of_vc mixed Go.Proofs.Tryd.func23 ok_control_file (by rw [vc_control_file]; exact h)

def ann_control_limit : Ann := { quiet := fun d => [9, 16, 19, 20, 24, 25, 28, 29, 34, 35, 38, 39, 41, 43, 45, 46, 48, 51, 54].contains d, goto := fun l => (bif l == 0 then some [(0, .str), (4, .bool), (5, .int .i64), (6, .int .i64)] else none) }
/-- millpond/control.limit -/
def sh_control_limit (s : ByteArray) (K : Value → World → Prop) (w : World) : Prop :=
  ∃ (I1 : ByteArray → Bool → Int → Int → World → Prop) (M2 : ByteArray → Bool → Int → Int → World → Nat), (bif (s.toList == (ByteArray.mk #[109, 97, 120]).toList) then (K (.tuple
    #[(.int .i64 1099511627776), (.bool true)]) w) else (Calls P fn_strings_CutSuffix #[(.string s), (.string (ByteArray.mk #[75]))] w fun e10 w9 => ∃ x11 : ByteArray, ∃ x12 : Bool,
    e10 = .returned (.tuple #[(.string x11), (.bool x12)]) ∧ bif (x11.toList == (ByteArray.mk #[]).toList) then (K (.tuple #[(.int .i64 0), (.bool false)]) w9) else (bif (decide
    (((x11.size : Nat) : Int) > 13)) then (K (.tuple #[(.int .i64 0), (.bool false)]) w9) else (strAt x11 0 fun b13 => bif (b13 == 48) then (bif (decide (((x11.size : Nat) : Int) >
    1)) then (K (.tuple #[(.int .i64 0), (.bool false)]) w9) else (bif (decide ((0 : Int) < ((x11.size : Nat) : Int))) then (strAt x11 0 fun b14 => bif (decide ((IntKind.u8.wrap
    (b14 - 48)) > 9)) then (K (.tuple #[(.int .i64 0), (.bool false)]) w9) else (I1 x11 x12 (IntKind.i64.wrap ((IntKind.i64.wrap (0 * 10)) + (IntKind.i64.wrap (IntKind.u8.wrap (b14
    - 48))))) (IntKind.i64.wrap (0 + 1)) w9)) else (bif x12 then (K (.tuple #[(.int .i64 (IntKind.i64.wrap (0 * 1024))), (.bool (decide ((IntKind.i64.wrap (0 * 1024)) ≤
    1099511627776)))]) w9) else (K (.tuple #[(.int .i64 0), (.bool (decide ((0 : Int) ≤ 1099511627776)))]) w9)))) else (bif (decide ((0 : Int) < ((x11.size : Nat) : Int))) then
    (strAt x11 0 fun b15 => bif (decide ((IntKind.u8.wrap (b15 - 48)) > 9)) then (K (.tuple #[(.int .i64 0), (.bool false)]) w9) else (I1 x11 x12 (IntKind.i64.wrap
    ((IntKind.i64.wrap (0 * 10)) + (IntKind.i64.wrap (IntKind.u8.wrap (b15 - 48))))) (IntKind.i64.wrap (0 + 1)) w9)) else (bif x12 then (K (.tuple #[(.int .i64 (IntKind.i64.wrap (0
    * 1024))), (.bool (decide ((IntKind.i64.wrap (0 * 1024)) ≤ 1099511627776)))]) w9) else (K (.tuple #[(.int .i64 0), (.bool (decide ((0 : Int) ≤ 1099511627776)))]) w9))))))) ∧ ∀
    _u4 : Nat → Value, ∀ s5 : ByteArray, ∀ k6 : Bool, ∀ n7 : Int, ∀ i8 : Int, ∀ w3 : World, I1 s5 k6 n7 i8 w3 → bif (decide (i8 < ((s5.size : Nat) : Int))) then (strAt s5 i8 fun b16
    => bif (decide ((IntKind.u8.wrap (b16 - 48)) > 9)) then (K (.tuple #[(.int .i64 0), (.bool false)]) w3) else ((I1 s5 k6 (IntKind.i64.wrap ((IntKind.i64.wrap (n7 * 10)) +
    (IntKind.i64.wrap (IntKind.u8.wrap (b16 - 48))))) (IntKind.i64.wrap (i8 + 1)) w3 ∧ M2 s5 k6 (IntKind.i64.wrap ((IntKind.i64.wrap (n7 * 10)) + (IntKind.i64.wrap (IntKind.u8.wrap
    (b16 - 48))))) (IntKind.i64.wrap (i8 + 1)) w3 < M2 s5 k6 n7 i8 w3))) else (bif k6 then (K (.tuple #[(.int .i64 (IntKind.i64.wrap (n7 * 1024))), (.bool (decide ((IntKind.i64.wrap
    (n7 * 1024)) ≤ 1099511627776)))]) w3) else (K (.tuple #[(.int .i64 n7), (.bool (decide (n7 ≤ 1099511627776)))]) w3))
theorem vc_control_limit (s : ByteArray) (K : Value → World → Prop) (w : World) : vcFn P tau rho pan ann_control_limit Go.Proofs.Tryd.f25 #[(.string s)] K (fun _ _ => False) w = sh_control_limit s K w := by kernel_rfl
theorem ok_control_limit : okFn P ann_control_limit Go.Proofs.Tryd.f25 1 = true := by kernel_rfl
theorem of_control_limit (s : ByteArray) {K : Value → World → Prop} {w : World} (h : sh_control_limit s K w) : Calls P fn_control_limit #[(.string s)] w (Ret K) := calls_of_vc mixed Go.Proofs.Tryd.func25 ok_control_limit (by rw [vc_control_limit]; exact h)

def ann_millpondref11_limit : Ann := { quiet := fun d => [7, 9, 10, 14, 15, 16, 17, 21, 22, 25, 28, 29, 33, 34, 37, 38, 43, 44, 46, 49, 50, 54, 55, 58, 61, 62, 63, 64, 67, 68, 71].contains d, loop := fun r => (bif r == 11 then [(4, .int .i64), (5, .int .i64)] else []), join := fun r => (bif r == 5 then some [(18, .bool)] else bif r == 7 then some [(0, .str), (3, .int .i64)] else bif r == 9 then some [] else none) }
/-- millpond/millpondref11.limit -/
def sh_millpondref11_limit (s : ByteArray) (K : Value → World → Prop) (w : World) : Prop :=
  bif (s.toList == (ByteArray.mk #[109, 97, 120]).toList) then (K (.int .i64 1099511627776) w) else (∃ J1 : ByteArray → Int → World → Prop, (∃ J6 : Bool → World → Prop, (bif (decide
    (((s.size : Nat) : Int) > 0)) then (strAt s (IntKind.i64.wrap (((s.size : Nat) : Int) - 1)) fun b10 => J6 (b10 == 75) w) else (J6 false w)) ∧ (∀ _u8 : Nat → Value, ∀ x9 : Bool,
    ∀ w7 : World, J6 x9 w7 → bif x9 then ((0 ≤ (IntKind.i64.wrap (((s.size : Nat) : Int) - 1)) ∧ (IntKind.i64.wrap (((s.size : Nat) : Int) - 1)) ≤ ((s.size : Nat) : Int)) ∧ J1
    (s.extract 0 ((IntKind.i64.wrap (((s.size : Nat) : Int) - 1)).toNat)) 1024 w7) else (J1 s 1 w7))) ∧ (∀ _u3 : Nat → Value, ∀ s4 : ByteArray, ∀ k5 : Int, ∀ w2 : World, J1 s4 k5 w2
    → ∃ J11 : World → Prop, (bif (s4.toList == (ByteArray.mk #[]).toList) then (K (.int .i64 (-1)) w2) else (bif (decide (((s4.size : Nat) : Int) > 13)) then (K (.int .i64 (-1)) w2)
    else (strAt s4 0 fun b14 => bif (b14 == 48) then (bif (decide (((s4.size : Nat) : Int) > 1)) then (K (.int .i64 (-1)) w2) else (J11 w2)) else (J11 w2)))) ∧ (∀ _u13 : Nat →
    Value, ∀ w12 : World, J11 w12 → ∃ (I15 : Int → Int → World → Prop) (M16 : Int → Int → World → Nat), I15 0 0 w12 ∧ ∀ _u18 : Nat → Value, ∀ n19 : Int, ∀ i20 : Int, ∀ w17 : World,
    I15 n19 i20 w17 → bif (decide (i20 < ((s4.size : Nat) : Int))) then (strAt s4 i20 fun b21 => bif (decide (b21 < 48)) then (K (.int .i64 (-1)) w17) else (strAt s4 i20 fun b22 =>
    bif (decide (b22 > 57)) then (K (.int .i64 (-1)) w17) else (strAt s4 i20 fun b23 => (I15 (IntKind.i64.wrap ((IntKind.i64.wrap (n19 * 10)) + (IntKind.i64.wrap (IntKind.u8.wrap
    (b23 - 48))))) (IntKind.i64.wrap (i20 + 1)) w17 ∧ M16 (IntKind.i64.wrap ((IntKind.i64.wrap (n19 * 10)) + (IntKind.i64.wrap (IntKind.u8.wrap (b23 - 48))))) (IntKind.i64.wrap (i20
    + 1)) w17 < M16 n19 i20 w17)))) else (bif (decide ((IntKind.i64.wrap (n19 * k5)) > 1099511627776)) then (K (.int .i64 (-1)) w17) else (K (.int .i64 (IntKind.i64.wrap (n19 *
    k5))) w17)))))
theorem vc_millpondref11_limit (s : ByteArray) (K : Value → World → Prop) (w : World) : vcFn P tau rho pan ann_millpondref11_limit Go.Proofs.Tryd.f26 #[(.string s)] K (fun _ _ => False) w = sh_millpondref11_limit s K w := by kernel_rfl
theorem ok_millpondref11_limit : okFn P ann_millpondref11_limit Go.Proofs.Tryd.f26 1 = true := by kernel_rfl
theorem of_millpondref11_limit (s : ByteArray) {K : Value → World → Prop} {w : World} (h : sh_millpondref11_limit s K w) : Calls P fn_millpondref11_limit #[(.string s)] w (Ret K) := calls_of_vc mixed Go.Proofs.Tryd.func26 ok_millpondref11_limit (by rw [vc_millpondref11_limit]; exact h)

def ann_millpondref11_Digits : Ann := { quiet := fun d => [5, 7, 11, 13, 16, 19, 20, 21, 25, 27].contains d, loop := fun r => (bif r == 6 then [(0, .int .i64), (3, .str)] else []), join := fun r => (bif r == 7 then some [] else none) }
/-- millpond/millpondref11.Digits -/
def sh_millpondref11_Digits (n : Int) (K : Value → World → Prop) (w : World) : Prop :=
  bif (n == (-9223372036854775808)) then (K (.string (ByteArray.mk #[45, 57, 50, 50, 51, 51, 55, 50, 48, 51, 54, 56, 53, 52, 55, 55, 53, 56, 48, 56])) w) else (bif (decide (n < 0))
    then (Calls P fn_millpondref11_Digits #[(.int .i64 (IntKind.i64.wrap (0 - n)))] w fun e2 w1 => ∃ x3 : ByteArray, e2 = .returned (.string x3) ∧ (ByteArray.mk #[45]).size +
    x3.size ≤ 9223372036854775807 ∧ K (.string ((ByteArray.mk #[45]) ++ x3)) w1) else (∃ (I4 : Int → ByteArray → World → Prop) (M5 : Int → ByteArray → World → Nat), I4 n
    (ByteArray.mk #[]) w ∧ ∀ _u7 : Nat → Value, ∀ n8 : Int, ∀ s9 : ByteArray, ∀ w6 : World, I4 n8 s9 w6 → ∃ J10 : World → Prop, (bif (decide (n8 > 0)) then (J10 w6) else (bif
    (s9.toList == (ByteArray.mk #[]).toList) then (J10 w6) else (K (.string s9) w6))) ∧ (∀ _u12 : Nat → Value, ∀ w11 : World, J10 w11 → (10 : Int) ≠ 0 ∧ Al (.cells #[(.int .u8
    (IntKind.u8.wrap (IntKind.i64.wrap (48 + (n8.tmod 10)))))] 5) (fun p13 w14 => ∃ x16 : ByteArray, ∃ w15 : World, Sem.run P (convert 42 9 (.slice (some p13) 1 1)) w14 = .ok
    (.string x16) w15 ∧ x16.size + s9.size ≤ 9223372036854775807 ∧ (10 : Int) ≠ 0 ∧ (I4 (IntKind.i64.wrap (n8.tdiv 10)) (x16 ++ s9) w15 ∧ M5 (IntKind.i64.wrap (n8.tdiv 10)) (x16 ++
    s9) w15 < M5 n8 s9 w6)) w11)))
theorem vc_millpondref11_Digits (n : Int) (K : Value → World → Prop) (w : World) : vcFn P tau rho pan ann_millpondref11_Digits Go.Proofs.Tryd.f28 #[(.int .i64 n)] K (fun _ _ => False) w = sh_millpondref11_Digits n K w := by kernel_rfl
theorem ok_millpondref11_Digits : okFn P ann_millpondref11_Digits Go.Proofs.Tryd.f28 1 = true := by kernel_rfl
theorem of_millpondref11_Digits (n : Int) {K : Value → World → Prop} {w : World} (h : sh_millpondref11_Digits n K w) : Calls P fn_millpondref11_Digits #[(.int .i64 n)] w (Ret K) := calls_of_vc mixed Go.Proofs.Tryd.func28 ok_millpondref11_Digits (by rw [vc_millpondref11_Digits]; exact h)

def ann_millpondref11_value : Ann := { quiet := fun d => [7, 8, 10, 13, 14, 18, 19, 22, 25, 26, 27, 28, 30, 31, 34, 35].contains d, loop := fun r => (bif r == 3 then [(3, .int .i64), (4, .int .i64)] else []), join := fun r => (bif r == 6 then some [(20, .bool)] else none) }
/-- millpond/millpondref11.value -/
def sh_millpondref11_value (s : ByteArray) (K : Value → World → Prop) (w : World) : Prop :=
  ∃ (I1 : Int → Int → World → Prop) (M2 : Int → Int → World → Nat), I1 0 0 w ∧ ∀ _u4 : Nat → Value, ∀ n5 : Int, ∀ i6 : Int, ∀ w3 : World, I1 n5 i6 w3 → bif (decide (i6 < ((s.size :
    Nat) : Int))) then (∃ J7 : Bool → World → Prop, (strAt s i6 fun b11 => bif (decide (b11 ≥ 48)) then (strAt s i6 fun b12 => J7 (decide (b12 ≤ 57)) w3) else (J7 false w3)) ∧ (∀
    _u9 : Nat → Value, ∀ x10 : Bool, ∀ w8 : World, J7 x10 w8 → bif x10 then (strAt s i6 fun b13 => (I1 (IntKind.i64.wrap ((IntKind.i64.wrap (n5 * 10)) + (IntKind.i64.wrap
    (IntKind.u8.wrap (b13 - 48))))) (IntKind.i64.wrap (i6 + 1)) w8 ∧ M2 (IntKind.i64.wrap ((IntKind.i64.wrap (n5 * 10)) + (IntKind.i64.wrap (IntKind.u8.wrap (b13 - 48)))))
    (IntKind.i64.wrap (i6 + 1)) w8 < M2 n5 i6 w3)) else ((I1 n5 (IntKind.i64.wrap (i6 + 1)) w8 ∧ M2 n5 (IntKind.i64.wrap (i6 + 1)) w8 < M2 n5 i6 w3)))) else (bif (decide (((s.size :
    Nat) : Int) > 0)) then (strAt s 0 fun b14 => bif (b14 == 45) then (K (.int .i64 (IntKind.i64.wrap (0 - n5))) w3) else (K (.int .i64 n5) w3)) else (K (.int .i64 n5) w3))
theorem vc_millpondref11_value (s : ByteArray) (K : Value → World → Prop) (w : World) : vcFn P tau rho pan ann_millpondref11_value Go.Proofs.Tryd.f33 #[(.string s)] K (fun _ _ => False) w = sh_millpondref11_value s K w := by kernel_rfl
theorem ok_millpondref11_value : okFn P ann_millpondref11_value Go.Proofs.Tryd.f33 1 = true := by kernel_rfl
theorem of_millpondref11_value (s : ByteArray) {K : Value → World → Prop} {w : World} (h : sh_millpondref11_value s K w) : Calls P fn_millpondref11_value #[(.string s)] w (Ret K) := calls_of_vc mixed Go.Proofs.Tryd.func33 ok_millpondref11_value (by rw [vc_millpondref11_value]; exact h)

end Go.Mp
