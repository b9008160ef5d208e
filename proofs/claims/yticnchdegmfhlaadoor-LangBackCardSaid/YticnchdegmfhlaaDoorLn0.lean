/- What is asked of each function. Printed by vcprint.py. -/
import Derived.Test.YticnchdegmfhlaaDoorLnN
set_option maxRecDepth 100000
namespace Go.Mp
open Go Go.Vc

def ann_millpondlaw21_LangPrints : Ann := { quiet := fun d => [21, 22, 25, 26, 47, 52, 53, 55, 64, 69, 74, 79, 84].contains d, head := fun r => (bif r == 18 then 9 else 0), loop := fun r => (bif r == 16 then [(16, .int .i64)] else []), join := fun r => (bif r == 6 then some [] else bif r == 13 then some [(13, .int .i64)] else none) }
/-- millpond/millpondlaw21.LangPrints -/
def sh_millpondlaw21_LangPrints (l : Sl) (o_0 : Int) (o_1 : Int) (o_2 : Int) (o_3 : Int) (o_4 : Int) (K : Value → World → Prop) (w : World) : Prop :=
  Al (.cells #[(.int .i64 o_0), (.int .i64 o_1), (.int .i64 o_2), (.int .i64 o_3), (.int .i64 o_4)] 25) (fun p1 w2 => Calls P fn_millpondlaw21_works #[] w2 fun e4 w3 => ∃ x5 : Bool,
    e4 = .returned (.bool x5) ∧ bif (!x5) then (K (.bool false) w3) else (∃ J6 : World → Prop, (bif (decide (((l.n : Nat) : Int) > 200)) then (bif (decide (((l.n : Nat) : Int) ≤
    1000)) then (K (.bool x5) w3) else (J6 w3)) else (J6 w3)) ∧ (∀ _u8 : Nat → Value, ∀ w7 : World, J6 w7 → Calls P fn_lang_Print #[(.slice l.p l.n l.c)] w7 fun e10 w9 => ∃ x11 :
    ByteArray, ∃ x12 : Int, e10 = .returned (.tuple #[(.string x11), (.int .i64 x12)]) ∧ Calls P fn_millpondref21_Print #[(.slice l.p l.n l.c)] w9 fun e14 w13 => ∃ x15 : ByteArray,
    ∃ x16 : Int, e14 = .returned (.tuple #[(.string x15), (.int .i64 x16)]) ∧ ∃ x17 : Int, w13.cell? (p1.add 0) = some (.int .i64 x17) ∧ ∃ x18 : Int, w13.cell? (p1.add 1) = some
    (.int .i64 x18) ∧ ∃ x19 : Int, w13.cell? (p1.add 2) = some (.int .i64 x19) ∧ ∃ x20 : Int, w13.cell? (p1.add 3) = some (.int .i64 x20) ∧ ∃ x21 : Int, w13.cell? (p1.add 4) = some
    (.int .i64 x21) ∧ Calls P fn_lang_Line #[(.agg #[(.int .i64 x17), (.int .i64 x18), (.int .i64 x19), (.int .i64 x20), (.int .i64 x21)])] w13 fun e23 w22 => ∃ x24 : ByteArray, ∃
    x25 : Int, e23 = .returned (.tuple #[(.string x24), (.int .i64 x25)]) ∧ ∃ x26 : Int, w22.cell? (p1.add 0) = some (.int .i64 x26) ∧ ∃ x27 : Int, w22.cell? (p1.add 1) = some (.int
    .i64 x27) ∧ ∃ x28 : Int, w22.cell? (p1.add 2) = some (.int .i64 x28) ∧ ∃ x29 : Int, w22.cell? (p1.add 3) = some (.int .i64 x29) ∧ ∃ x30 : Int, w22.cell? (p1.add 4) = some (.int
    .i64 x30) ∧ Calls P fn_millpondref21_Line #[(.agg #[(.int .i64 x26), (.int .i64 x27), (.int .i64 x28), (.int .i64 x29), (.int .i64 x30)])] w22 fun e32 w31 => ∃ x33 : ByteArray,
    e32 = .returned (.string x33) ∧ ∃ J34 : Int → World → Prop, (bif (x33.toList == (ByteArray.mk #[]).toList) then (J34 1 w31) else (J34 0 w31)) ∧ (∀ _u36 : Nat → Value, ∀ h37 :
    Int, ∀ w35 : World, J34 h37 w35 → Calls P fn_lang_Words #[] w35 fun e39 w38 => ∃ x40 : Sl, e39 = .returned (.slice x40.p x40.n x40.c) ∧ Calls P fn_millpondref21_Words #[] w38
    fun e42 w41 => ∃ x43 : Sl, e42 = .returned (.slice x43.p x43.n x43.c) ∧ ∃ (I44 : Int → World → Prop) (M45 : Int → World → Nat), I44 0 w41 ∧ ∀ _u47 : Nat → Value, ∀ i48 : Int, ∀
    w46 : World, I44 i48 w46 → bif (decide (i48 < ((x43.n : Nat) : Int))) then (Dr (fun w49 => elAt x40.p x40.n i48 1 fun a50 => ∃ x51 : ByteArray, w49.cell? a50 = some (.string
    x51) ∧ elAt x43.p x43.n i48 1 fun a52 => ∃ x53 : ByteArray, w49.cell? a52 = some (.string x53) ∧ bif (!(x51.toList == x53.toList)) then (K (.bool false) w49) else ((I44
    (IntKind.i64.wrap (i48 + 1)) w49 ∧ M45 (IntKind.i64.wrap (i48 + 1)) w49 < M45 i48 w46))) w46) else (bif x5 then (bif (x11.toList == x15.toList) then (bif (x12 == x16) then (bif
    (x24.toList == x33.toList) then (K (.bool (x25 == h37)) w46) else (K (.bool false) w46)) else (K (.bool false) w46)) else (K (.bool false) w46)) else (K (.bool false) w46))))))
    w
theorem vc_millpondlaw21_LangPrints (l : Sl) (o_0 : Int) (o_1 : Int) (o_2 : Int) (o_3 : Int) (o_4 : Int) (K : Value → World → Prop) (w : World) : vcFn P tau rho pan ann_millpondlaw21_LangPrints Go.Proofs.Tryd.f3 #[(.slice l.p l.n l.c), (.agg #[(.int .i64 o_0), (.int .i64 o_1), (.int .i64 o_2), (.int .i64 o_3), (.int .i64 o_4)])] K (fun _ _ => False) w = sh_millpondlaw21_LangPrints l o_0 o_1 o_2 o_3 o_4 K w := by kernel_rfl
theorem ok_millpondlaw21_LangPrints : okFn P ann_millpondlaw21_LangPrints Go.Proofs.Tryd.f3 2 = true := by kernel_rfl
theorem of_millpondlaw21_LangPrints (l : Sl) (o_0 : Int) (o_1 : Int) (o_2 : Int) (o_3 : Int) (o_4 : Int) {K : Value → World → Prop} {w : World} (h : sh_millpondlaw21_LangPrints l o_0 o_1 o_2 o_3 o_4 K w) : Calls P fn_millpondlaw21_LangPrints #[(.slice l.p l.n l.c), (.agg #[(.int .i64 o_0), (.int .i64 o_1), (.int .i64 o_2), (.int .i64 o_3), (.int .i64 o_4)])] w (Ret K) := calls_of_vc mixed Go.Proofs.Tryd.func3 ok_millpondlaw21_LangPrints (by rw [vc_millpondlaw21_LangPrints]; exact h)

def ann_millpondlaw21_LangParses : Ann := { quiet := fun d => [14, 15, 38, 43].contains d }
/-- millpond/millpondlaw21.LangParses -/
def sh_millpondlaw21_LangParses (text : ByteArray) (K : Value → World → Prop) (w : World) : Prop :=
  Calls P fn_millpondlaw21_works #[] w fun e2 w1 => ∃ x3 : Bool, e2 = .returned (.bool x3) ∧ bif (!x3) then (K (.bool false) w1) else (bif (decide (((text.size : Nat) : Int) > 2000))
    then (K (.bool x3) w1) else (Calls P fn_lang_Parse #[(.string text)] w1 fun e5 w4 => ∃ x6 : Sl, ∃ x7 : Int, ∃ x8 : Int, e5 = .returned (.tuple #[(.slice x6.p x6.n x6.c), (.int
    .i64 x7), (.int .i64 x8)]) ∧ Calls P fn_millpondref21_Parse #[(.string text)] w4 fun e10 w9 => ∃ x11 : Sl, ∃ x12 : Int, ∃ x13 : Int, e10 = .returned (.tuple #[(.slice x11.p
    x11.n x11.c), (.int .i64 x12), (.int .i64 x13)]) ∧ bif x3 then (Calls P fn_millpondlaw21_same #[(.slice x6.p x6.n x6.c), (.slice x11.p x11.n x11.c)] w9 fun e15 w14 => ∃ x16 :
    Bool, e15 = .returned (.bool x16) ∧ bif x16 then (bif (x7 == x12) then (K (.bool (x8 == x13)) w14) else (K (.bool false) w14)) else (K (.bool false) w14)) else (K (.bool false)
    w9)))
theorem vc_millpondlaw21_LangParses (text : ByteArray) (K : Value → World → Prop) (w : World) : vcFn P tau rho pan ann_millpondlaw21_LangParses Go.Proofs.Tryd.f4 #[(.string text)] K (fun _ _ => False) w = sh_millpondlaw21_LangParses text K w := by kernel_rfl
theorem ok_millpondlaw21_LangParses : okFn P ann_millpondlaw21_LangParses Go.Proofs.Tryd.f4 1 = true := by kernel_rfl
theorem of_millpondlaw21_LangParses (text : ByteArray) {K : Value → World → Prop} {w : World} (h : sh_millpondlaw21_LangParses text K w) : Calls P fn_millpondlaw21_LangParses #[(.string text)] w (Ret K) := calls_of_vc mixed Go.Proofs.Tryd.func4 ok_millpondlaw21_LangParses (by rw [vc_millpondlaw21_LangParses]; exact h)

def ann_millpondlaw21_LangBack : Ann := { quiet := fun d => [25, 26, 29, 30, 34, 39, 40, 45, 46, 48, 51, 52, 60, 64, 88, 90, 91, 93, 101, 105, 110, 112, 116, 125].contains d, loop := fun r => (bif r == 7 then [(8, .int .i64)] else []), join := fun r => (bif r == 6 then some [] else none) }
/-- millpond/millpondlaw21.LangBack -/
def sh_millpondlaw21_LangBack (l : Sl) (k : Int) (note : ByteArray) (K : Value → World → Prop) (w : World) : Prop :=
  Calls P fn_millpondlaw21_works #[] w fun e2 w1 => ∃ x3 : Bool, e2 = .returned (.bool x3) ∧ bif (!x3) then (K (.bool false) w1) else (∃ J4 : World → Prop, (bif (decide (((l.n : Nat)
    : Int) > 200)) then (K (.bool x3) w1) else (bif (decide (((note.size : Nat) : Int) > 100)) then (K (.bool x3) w1) else (bif (decide (k < 0)) then (K (.bool x3) w1) else (bif
    (decide (k > ((l.n : Nat) : Int))) then (K (.bool x3) w1) else (J4 w1))))) ∧ (∀ _u6 : Nat → Value, ∀ w5 : World, J4 w5 → ∃ (I7 : Int → World → Prop) (M8 : Int → World → Nat), I7
    0 w5 ∧ ∀ _u10 : Nat → Value, ∀ i11 : Int, ∀ w9 : World, I7 i11 w9 → bif (decide (i11 < ((note.size : Nat) : Int))) then (strAt note i11 fun b12 => bif (b12 == 10) then (K (.bool
    x3) w9) else ((I7 (IntKind.i64.wrap (i11 + 1)) w9 ∧ M8 (IntKind.i64.wrap (i11 + 1)) w9 < M8 i11 w9))) else (Calls P fn_lang_Print #[(.slice l.p l.n l.c)] w9 fun e14 w13 => ∃ x15
    : ByteArray, ∃ x16 : Int, e14 = .returned (.tuple #[(.string x15), (.int .i64 x16)]) ∧ bif (x16 != 0) then (bif x3 then (K (.bool (x15.toList == (ByteArray.mk #[]).toList)) w13)
    else (K (.bool false) w13)) else ((0 ≤ k ∧ k ≤ ((l.c : Nat) : Int)) ∧ Calls P fn_lang_Print #[(.slice (slA l.p 0 l.c 5) (k.toNat - 0) (l.c - 0))] w13 fun e18 w17 => ∃ x19 :
    ByteArray, ∃ x20 : Int, e18 = .returned (.tuple #[(.string x19), (.int .i64 x20)]) ∧ (0 ≤ k ∧ k ≤ ((l.n : Nat) : Int)) ∧ Calls P fn_lang_Print #[(.slice (slA l.p k.toNat l.c 5)
    (l.n - k.toNat) (l.c - k.toNat))] w17 fun e22 w21 => ∃ x23 : ByteArray, ∃ x24 : Int, e22 = .returned (.tuple #[(.string x23), (.int .i64 x24)]) ∧ Calls P fn_lang_Parse
    #[(.string x15)] w21 fun e26 w25 => ∃ x27 : Sl, ∃ x28 : Int, ∃ x29 : Int, e26 = .returned (.tuple #[(.slice x27.p x27.n x27.c), (.int .i64 x28), (.int .i64 x29)]) ∧ x19.size +
    (ByteArray.mk #[10, 35]).size ≤ 9223372036854775807 ∧ (x19 ++ (ByteArray.mk #[10, 35])).size + note.size ≤ 9223372036854775807 ∧ ((x19 ++ (ByteArray.mk #[10, 35])) ++ note).size
    + (ByteArray.mk #[10]).size ≤ 9223372036854775807 ∧ (((x19 ++ (ByteArray.mk #[10, 35])) ++ note) ++ (ByteArray.mk #[10])).size + x23.size ≤ 9223372036854775807 ∧ Calls P
    fn_lang_Parse #[(.string ((((x19 ++ (ByteArray.mk #[10, 35])) ++ note) ++ (ByteArray.mk #[10])) ++ x23))] w25 fun e31 w30 => ∃ x32 : Sl, ∃ x33 : Int, ∃ x34 : Int, e31 =
    .returned (.tuple #[(.slice x32.p x32.n x32.c), (.int .i64 x33), (.int .i64 x34)]) ∧ bif x3 then (bif (x20 == 0) then (bif (x24 == 0) then (x19.size + x23.size ≤
    9223372036854775807 ∧ bif ((x19 ++ x23).toList == x15.toList) then (bif (x28 == 0) then (Calls P fn_millpondlaw21_same #[(.slice x27.p x27.n x27.c), (.slice l.p l.n l.c)] w30
    fun e36 w35 => ∃ x37 : Bool, e36 = .returned (.bool x37) ∧ bif x37 then (bif (x33 == 0) then (Calls P fn_millpondlaw21_same #[(.slice x32.p x32.n x32.c), (.slice l.p l.n l.c)]
    w35 fun e39 w38 => ∃ x40 : Bool, e39 = .returned (.bool x40) ∧ K (.bool x40) w38) else (K (.bool false) w35)) else (K (.bool false) w35)) else (K (.bool false) w30)) else (K
    (.bool false) w30)) else (K (.bool false) w30)) else (K (.bool false) w30)) else (K (.bool false) w30)))))
theorem vc_millpondlaw21_LangBack (l : Sl) (k : Int) (note : ByteArray) (K : Value → World → Prop) (w : World) : vcFn P tau rho pan ann_millpondlaw21_LangBack Go.Proofs.Tryd.f5 #[(.slice l.p l.n l.c), (.int .i64 k), (.string note)] K (fun _ _ => False) w = sh_millpondlaw21_LangBack l k note K w := by kernel_rfl
theorem ok_millpondlaw21_LangBack : okFn P ann_millpondlaw21_LangBack Go.Proofs.Tryd.f5 3 = true := by kernel_rfl
theorem of_millpondlaw21_LangBack (l : Sl) (k : Int) (note : ByteArray) {K : Value → World → Prop} {w : World} (h : sh_millpondlaw21_LangBack l k note K w) : Calls P fn_millpondlaw21_LangBack #[(.slice l.p l.n l.c), (.int .i64 k), (.string note)] w (Ret K) := calls_of_vc mixed Go.Proofs.Tryd.func5 ok_millpondlaw21_LangBack (by rw [vc_millpondlaw21_LangBack]; exact h)

def ann_millpondlaw21_LangOnce : Ann := { quiet := fun d => [24, 25, 38, 41, 46, 49, 50, 59, 63, 64, 68, 69, 71, 74, 75, 78, 82, 83, 89, 91, 93, 102, 107].contains d, loop := fun r => (bif r == 16 then [(15, .str), (16, .int .i64), (17, .int .i64)] else []), join := fun r => (bif r == 10 then some [] else none) }
/-- millpond/millpondlaw21.LangOnce -/
def sh_millpondlaw21_LangOnce (a_0 : Int) (a_1 : Int) (a_2 : Int) (a_3 : Int) (a_4 : Int) (b_0 : Int) (b_1 : Int) (b_2 : Int) (b_3 : Int) (b_4 : Int) (text : ByteArray) (K : Value → World → Prop) (w : World) : Prop :=
  Al (.cells #[(.int .i64 a_0), (.int .i64 a_1), (.int .i64 a_2), (.int .i64 a_3), (.int .i64 a_4)] 25) (fun p1 w2 => Al (.cells #[(.int .i64 b_0), (.int .i64 b_1), (.int .i64 b_2),
    (.int .i64 b_3), (.int .i64 b_4)] 25) (fun p3 w4 => Calls P fn_millpondlaw21_works #[] w4 fun e6 w5 => ∃ x7 : Bool, e6 = .returned (.bool x7) ∧ bif (!x7) then (K (.bool false)
    w5) else (bif (decide (((text.size : Nat) : Int) > 2000)) then (K (.bool x7) w5) else (∃ x8 : Int, w5.cell? (p1.add 0) = some (.int .i64 x8) ∧ ∃ x9 : Int, w5.cell? (p1.add 1) =
    some (.int .i64 x9) ∧ ∃ x10 : Int, w5.cell? (p1.add 2) = some (.int .i64 x10) ∧ ∃ x11 : Int, w5.cell? (p1.add 3) = some (.int .i64 x11) ∧ ∃ x12 : Int, w5.cell? (p1.add 4) = some
    (.int .i64 x12) ∧ Calls P fn_lang_Line #[(.agg #[(.int .i64 x8), (.int .i64 x9), (.int .i64 x10), (.int .i64 x11), (.int .i64 x12)])] w5 fun e14 w13 => ∃ x15 : ByteArray, ∃ x16
    : Int, e14 = .returned (.tuple #[(.string x15), (.int .i64 x16)]) ∧ ∃ x17 : Int, w13.cell? (p3.add 0) = some (.int .i64 x17) ∧ ∃ x18 : Int, w13.cell? (p3.add 1) = some (.int
    .i64 x18) ∧ ∃ x19 : Int, w13.cell? (p3.add 2) = some (.int .i64 x19) ∧ ∃ x20 : Int, w13.cell? (p3.add 3) = some (.int .i64 x20) ∧ ∃ x21 : Int, w13.cell? (p3.add 4) = some (.int
    .i64 x21) ∧ Calls P fn_lang_Line #[(.agg #[(.int .i64 x17), (.int .i64 x18), (.int .i64 x19), (.int .i64 x20), (.int .i64 x21)])] w13 fun e23 w22 => ∃ x24 : ByteArray, ∃ x25 :
    Int, e23 = .returned (.tuple #[(.string x24), (.int .i64 x25)]) ∧ ∃ J26 : World → Prop, (bif (x16 == 0) then (bif (x25 == 0) then (∃ x29 : Int, w22.cell? (p1.add 0) = some (.int
    .i64 x29) ∧ ∃ x30 : Int, w22.cell? (p1.add 1) = some (.int .i64 x30) ∧ ∃ x31 : Int, w22.cell? (p1.add 2) = some (.int .i64 x31) ∧ ∃ x32 : Int, w22.cell? (p1.add 3) = some (.int
    .i64 x32) ∧ ∃ x33 : Int, w22.cell? (p1.add 4) = some (.int .i64 x33) ∧ ∃ x34 : Int, w22.cell? (p3.add 0) = some (.int .i64 x34) ∧ ∃ x35 : Int, w22.cell? (p3.add 1) = some (.int
    .i64 x35) ∧ ∃ x36 : Int, w22.cell? (p3.add 2) = some (.int .i64 x36) ∧ ∃ x37 : Int, w22.cell? (p3.add 3) = some (.int .i64 x37) ∧ ∃ x38 : Int, w22.cell? (p3.add 4) = some (.int
    .i64 x38) ∧ ∃ q39 : Bool, EqV P .eql 25 (.agg #[(.int .i64 x29), (.int .i64 x30), (.int .i64 x31), (.int .i64 x32), (.int .i64 x33)]) (.agg #[(.int .i64 x34), (.int .i64 x35),
    (.int .i64 x36), (.int .i64 x37), (.int .i64 x38)]) q39 ∧ bif (!((x15.toList == x24.toList) == q39)) then (K (.bool false) w22) else (J26 w22)) else (J26 w22)) else (J26 w22)) ∧
    (∀ _u28 : Nat → Value, ∀ w27 : World, J26 w27 → Calls P fn_lang_Parse #[(.string text)] w27 fun e41 w40 => ∃ x42 : Sl, ∃ x43 : Int, ∃ x44 : Int, e41 = .returned (.tuple
    #[(.slice x42.p x42.n x42.c), (.int .i64 x43), (.int .i64 x44)]) ∧ bif (x43 != 0) then (bif x7 then (K (.bool (((x42.n : Nat) : Int) == 0)) w40) else (K (.bool false) w40)) else
    (∃ (I45 : ByteArray → Int → Int → World → Prop) (M46 : ByteArray → Int → Int → World → Nat), I45 (ByteArray.mk #[]) 0 0 w40 ∧ ∀ _u48 : Nat → Value, ∀ want49 : ByteArray, ∀
    from50 : Int, ∀ i51 : Int, ∀ w47 : World, I45 want49 from50 i51 w47 → bif (decide (i51 < ((text.size : Nat) : Int))) then (strAt text i51 fun b52 => bif (b52 == 10) then (bif
    (decide (i51 > from50)) then (strAt text from50 fun b53 => bif (b53 != 35) then ((0 ≤ (IntKind.i64.wrap (i51 + 1)) ∧ (IntKind.i64.wrap (i51 + 1)) ≤ ((text.size : Nat) : Int)) ∧
    (0 ≤ from50 ∧ from50 ≤ (((IntKind.i64.wrap (i51 + 1)).toNat : Nat) : Int)) ∧ want49.size + (text.extract from50.toNat ((IntKind.i64.wrap (i51 + 1)).toNat)).size ≤
    9223372036854775807 ∧ (I45 (want49 ++ (text.extract from50.toNat ((IntKind.i64.wrap (i51 + 1)).toNat))) (IntKind.i64.wrap (i51 + 1)) (IntKind.i64.wrap (i51 + 1)) w47 ∧ M46
    (want49 ++ (text.extract from50.toNat ((IntKind.i64.wrap (i51 + 1)).toNat))) (IntKind.i64.wrap (i51 + 1)) (IntKind.i64.wrap (i51 + 1)) w47 < M46 want49 from50 i51 w47)) else
    ((I45 want49 (IntKind.i64.wrap (i51 + 1)) (IntKind.i64.wrap (i51 + 1)) w47 ∧ M46 want49 (IntKind.i64.wrap (i51 + 1)) (IntKind.i64.wrap (i51 + 1)) w47 < M46 want49 from50 i51
    w47))) else ((I45 want49 (IntKind.i64.wrap (i51 + 1)) (IntKind.i64.wrap (i51 + 1)) w47 ∧ M46 want49 (IntKind.i64.wrap (i51 + 1)) (IntKind.i64.wrap (i51 + 1)) w47 < M46 want49
    from50 i51 w47))) else ((I45 want49 from50 (IntKind.i64.wrap (i51 + 1)) w47 ∧ M46 want49 from50 (IntKind.i64.wrap (i51 + 1)) w47 < M46 want49 from50 i51 w47))) else (Calls P
    fn_lang_Print #[(.slice x42.p x42.n x42.c)] w47 fun e55 w54 => ∃ x56 : ByteArray, ∃ x57 : Int, e55 = .returned (.tuple #[(.string x56), (.int .i64 x57)]) ∧ bif x7 then (bif (x57
    == 0) then (K (.bool (x56.toList == want49.toList)) w54) else (K (.bool false) w54)) else (K (.bool false) w54))))))) w2) w
theorem vc_millpondlaw21_LangOnce (a_0 : Int) (a_1 : Int) (a_2 : Int) (a_3 : Int) (a_4 : Int) (b_0 : Int) (b_1 : Int) (b_2 : Int) (b_3 : Int) (b_4 : Int) (text : ByteArray) (K : Value → World → Prop) (w : World) : vcFn P tau rho pan ann_millpondlaw21_LangOnce Go.Proofs.Tryd.f6 #[(.agg #[(.int .i64 a_0), (.int .i64 a_1), (.int .i64 a_2), (.int .i64 a_3), (.int .i64 a_4)]), (.agg #[(.int .i64 b_0), (.int .i64 b_1), (.int .i64 b_2), (.int .i64 b_3), (.int .i64 b_4)]), (.string text)] K (fun _ _ => False) w = sh_millpondlaw21_LangOnce a_0 a_1 a_2 a_3 a_4 b_0 b_1 b_2 b_3 b_4 text K w := by kernel_rfl
theorem ok_millpondlaw21_LangOnce : okFn P ann_millpondlaw21_LangOnce Go.Proofs.Tryd.f6 3 = true := by kernel_rfl
theorem of_millpondlaw21_LangOnce (a_0 : Int) (a_1 : Int) (a_2 : Int) (a_3 : Int) (a_4 : Int) (b_0 : Int) (b_1 : Int) (b_2 : Int) (b_3 : Int) (b_4 : Int) (text : ByteArray) {K : Value → World → Prop} {w : World} (h : sh_millpondlaw21_LangOnce a_0 a_1 a_2 a_3 a_4 b_0 b_1 b_2 b_3 b_4 text K w) : Calls P fn_millpondlaw21_LangOnce #[(.agg #[(.int .i64 a_0), (.int .i64 a_1), (.int .i64 a_2), (.int .i64 a_3), (.int .i64 a_4)]), (.agg #[(.int .i64 b_0), (.int .i64 b_1), (.int .i64 b_2), (.int .i64 b_3), (.int .i64 b_4)]), (.string text)] w (Ret K) := calls_of_vc mixed Go.Proofs.Tryd.func6 ok_millpondlaw21_LangOnce (by rw [vc_millpondlaw21_LangOnce]; exact h)

def ann_millpondlaw21_works : Ann := { quiet := fun d => [34, 37, 41, 42, 49, 53, 57, 61, 65, 69, 73, 77, 78, 84].contains d }
/-- millpond/millpondlaw21.works -/
def sh_millpondlaw21_works (K : Value → World → Prop) (w : World) : Prop :=
  Calls P fn_lang_Line #[(.agg #[(.int .i64 2), (.int .i64 1), (.int .i64 2), (.int .i64 1099511627776), (.int .i64 0)])] w fun e2 w1 => ∃ x3 : ByteArray, ∃ x4 : Int, e2 = .returned
    (.tuple #[(.string x3), (.int .i64 x4)]) ∧ Calls P fn_lang_Parse #[(.string (ByteArray.mk #[35, 32, 120, 10, 10, 108, 105, 109, 105, 116, 32, 49, 32, 109, 97, 120, 32, 109, 97,
    120, 10, 108, 111, 97, 100, 32, 48, 32, 50, 48, 10]))] w1 fun e6 w5 => ∃ x7 : Sl, ∃ x8 : Int, ∃ x9 : Int, e6 = .returned (.tuple #[(.slice x7.p x7.n x7.c), (.int .i64 x8), (.int
    .i64 x9)]) ∧ Calls P fn_lang_Print #[(.slice x7.p x7.n x7.c)] w5 fun e11 w10 => ∃ x12 : ByteArray, ∃ x13 : Int, e11 = .returned (.tuple #[(.string x12), (.int .i64 x13)]) ∧
    Calls P fn_lang_Parse #[(.string (ByteArray.mk #[108, 111, 97, 100, 32, 48, 10]))] w10 fun e15 w14 => ∃ x16 : Sl, ∃ x17 : Int, ∃ x18 : Int, e15 = .returned (.tuple #[(.slice
    x16.p x16.n x16.c), (.int .i64 x17), (.int .i64 x18)]) ∧ Calls P fn_lang_Words #[] w14 fun e20 w19 => ∃ x21 : Sl, e20 = .returned (.slice x21.p x21.n x21.c) ∧ bif (x3.toList ==
    (ByteArray.mk #[108, 105, 109, 105, 116, 32, 49, 32, 109, 97, 120, 32, 109, 97, 120]).toList) then (bif (x4 == 0) then (bif (((x7.n : Nat) : Int) == 2) then (elAt x7.p x7.n 1 5
    fun a22 => ∃ x23 : Int, w19.cell? (a22.add 2) = some (.int .i64 x23) ∧ bif (x23 == 20) then (bif (x8 == 0) then (bif (x9 == 0) then (bif (x12.toList == (ByteArray.mk #[108, 105,
    109, 105, 116, 32, 49, 32, 109, 97, 120, 32, 109, 97, 120, 10, 108, 111, 97, 100, 32, 48, 32, 50, 48, 10]).toList) then (bif (x13 == 0) then (bif (x17 == 20) then (bif (x18 ==
    1) then (bif (((x21.n : Nat) : Int) == 14) then (elAt x21.p x21.n 8 1 fun a24 => ∃ x25 : ByteArray, w19.cell? a24 = some (.string x25) ∧ K (.bool (x25.toList == (ByteArray.mk
    #[108, 111, 97, 100]).toList)) w19) else (K (.bool false) w19)) else (K (.bool false) w19)) else (K (.bool false) w19)) else (K (.bool false) w19)) else (K (.bool false) w19))
    else (K (.bool false) w19)) else (K (.bool false) w19)) else (K (.bool false) w19)) else (K (.bool false) w19)) else (K (.bool false) w19)) else (K (.bool false) w19)
theorem vc_millpondlaw21_works (K : Value → World → Prop) (w : World) : vcFn P tau rho pan ann_millpondlaw21_works Go.Proofs.Tryd.f7 #[] K (fun _ _ => False) w = sh_millpondlaw21_works K w := by kernel_rfl
theorem ok_millpondlaw21_works : okFn P ann_millpondlaw21_works Go.Proofs.Tryd.f7 0 = true := by kernel_rfl
theorem of_millpondlaw21_works {K : Value → World → Prop} {w : World} (h : sh_millpondlaw21_works K w) : Calls P fn_millpondlaw21_works #[] w (Ret K) := calls_of_vc mixed Go.Proofs.Tryd.func7 ok_millpondlaw21_works (by rw [vc_millpondlaw21_works]; exact h)

def ann_lang_Print : Ann := {}
/-- millpond/lang.Print -/
def sh_lang_Print (l : Sl) (K : Value → World → Prop) (w : World) : Prop :=
  Al (.cells #[(.slice l.p l.n l.c)] 22) (fun p1 w2 => Al (.cells #[(.pointer none), (.slice none 0 0)] 44) (fun p3 w4 => Calls P fn_lang_caught #[(.func (.func fn_lang_Print_1) #[]
    #[(.pointer (some p1)), (.pointer (some p3))])] w4 fun e6 w5 => ∃ x7 : Bool, e6 = .returned (.bool x7) ∧ bif (!x7) then (K (.tuple #[(.string (ByteArray.mk #[])), (.int .i64
    1)]) w5) else (Calls P fn_strings_Builder_String #[(.pointer (some p3))] w5 fun e9 w8 => ∃ x10 : ByteArray, e9 = .returned (.string x10) ∧ K (.tuple #[(.string x10), (.int .i64
    0)]) w8)) w2) w
theorem vc_lang_Print (l : Sl) (K : Value → World → Prop) (w : World) : vcFn P tau rho pan ann_lang_Print Go.Proofs.Tryd.f8 #[(.slice l.p l.n l.c)] K (fun _ _ => False) w = sh_lang_Print l K w := by kernel_rfl
theorem ok_lang_Print : okFn P ann_lang_Print Go.Proofs.Tryd.f8 1 = true := by kernel_rfl
theorem of_lang_Print (l : Sl) {K : Value → World → Prop} {w : World} (h : sh_lang_Print l K w) : Calls P fn_lang_Print #[(.slice l.p l.n l.c)] w (Ret K) := calls_of_vc mixed Go.Proofs.Tryd.func8 ok_lang_Print (by rw [vc_lang_Print]; exact h)

def ann_millpondref21_Print : Ann := { quiet := fun d => [9, 10, 12, 19, 22, 23, 27, 28].contains d, loop := fun r => (bif r == 3 then [(4, .str), (5, .int .i64)] else []) }
/-- millpond/millpondref21.Print -/
def sh_millpondref21_Print (l : Sl) (K : Value → World → Prop) (w : World) : Prop :=
  ∃ (I1 : ByteArray → Int → World → Prop) (M2 : ByteArray → Int → World → Nat), I1 (ByteArray.mk #[]) 0 w ∧ ∀ _u4 : Nat → Value, ∀ s5 : ByteArray, ∀ i6 : Int, ∀ w3 : World, I1 s5 i6
    w3 → bif (decide (i6 < ((l.n : Nat) : Int))) then (elAt l.p l.n i6 5 fun a7 => ∃ x8 : Int, w3.cell? (a7.add 0) = some (.int .i64 x8) ∧ ∃ x9 : Int, w3.cell? (a7.add 1) = some
    (.int .i64 x9) ∧ ∃ x10 : Int, w3.cell? (a7.add 2) = some (.int .i64 x10) ∧ ∃ x11 : Int, w3.cell? (a7.add 3) = some (.int .i64 x11) ∧ ∃ x12 : Int, w3.cell? (a7.add 4) = some
    (.int .i64 x12) ∧ Calls P fn_millpondref21_Line #[(.agg #[(.int .i64 x8), (.int .i64 x9), (.int .i64 x10), (.int .i64 x11), (.int .i64 x12)])] w3 fun e14 w13 => ∃ x15 :
    ByteArray, e14 = .returned (.string x15) ∧ bif (x15.toList == (ByteArray.mk #[]).toList) then (K (.tuple #[(.string (ByteArray.mk #[])), (.int .i64 1)]) w13) else (bif (decide
    (((l.n : Nat) : Int) > 1000)) then (K (.tuple #[(.string (ByteArray.mk #[])), (.int .i64 1)]) w13) else (s5.size + x15.size ≤ 9223372036854775807 ∧ (s5 ++ x15).size +
    (ByteArray.mk #[10]).size ≤ 9223372036854775807 ∧ (I1 ((s5 ++ x15) ++ (ByteArray.mk #[10])) (IntKind.i64.wrap (i6 + 1)) w13 ∧ M2 ((s5 ++ x15) ++ (ByteArray.mk #[10]))
    (IntKind.i64.wrap (i6 + 1)) w13 < M2 s5 i6 w3)))) else (K (.tuple #[(.string s5), (.int .i64 0)]) w3)
theorem vc_millpondref21_Print (l : Sl) (K : Value → World → Prop) (w : World) : vcFn P tau rho pan ann_millpondref21_Print Go.Proofs.Tryd.f9 #[(.slice l.p l.n l.c)] K (fun _ _ => False) w = sh_millpondref21_Print l K w := by kernel_rfl
theorem ok_millpondref21_Print : okFn P ann_millpondref21_Print Go.Proofs.Tryd.f9 1 = true := by kernel_rfl
theorem of_millpondref21_Print (l : Sl) {K : Value → World → Prop} {w : World} (h : sh_millpondref21_Print l K w) : Calls P fn_millpondref21_Print #[(.slice l.p l.n l.c)] w (Ret K) := calls_of_vc mixed Go.Proofs.Tryd.func9 ok_millpondref21_Print (by rw [vc_millpondref21_Print]; exact h)

def ann_lang_Line : Ann := {}
/-- millpond/lang.Line -/
def sh_lang_Line (o_0 : Int) (o_1 : Int) (o_2 : Int) (o_3 : Int) (o_4 : Int) (K : Value → World → Prop) (w : World) : Prop :=
  Al (.cells #[(.int .i64 o_0), (.int .i64 o_1), (.int .i64 o_2), (.int .i64 o_3), (.int .i64 o_4)] 25) (fun p1 w2 => Al (.cells #[(.string (ByteArray.mk #[]))] 9) (fun p3 w4 => Calls
    P fn_lang_caught #[(.func (.func fn_lang_Line_1) #[] #[(.pointer (some p1)), (.pointer (some p3))])] w4 fun e6 w5 => ∃ x7 : Bool, e6 = .returned (.bool x7) ∧ bif (!x7) then (K
    (.tuple #[(.string (ByteArray.mk #[])), (.int .i64 1)]) w5) else (∃ x8 : ByteArray, w5.cell? p3 = some (.string x8) ∧ K (.tuple #[(.string x8), (.int .i64 0)]) w5)) w2) w
theorem vc_lang_Line (o_0 : Int) (o_1 : Int) (o_2 : Int) (o_3 : Int) (o_4 : Int) (K : Value → World → Prop) (w : World) : vcFn P tau rho pan ann_lang_Line Go.Proofs.Tryd.f10 #[(.agg #[(.int .i64 o_0), (.int .i64 o_1), (.int .i64 o_2), (.int .i64 o_3), (.int .i64 o_4)])] K (fun _ _ => False) w = sh_lang_Line o_0 o_1 o_2 o_3 o_4 K w := by kernel_rfl
theorem ok_lang_Line : okFn P ann_lang_Line Go.Proofs.Tryd.f10 1 = true := by kernel_rfl
theorem of_lang_Line (o_0 : Int) (o_1 : Int) (o_2 : Int) (o_3 : Int) (o_4 : Int) {K : Value → World → Prop} {w : World} (h : sh_lang_Line o_0 o_1 o_2 o_3 o_4 K w) : Calls P fn_lang_Line #[(.agg #[(.int .i64 o_0), (.int .i64 o_1), (.int .i64 o_2), (.int .i64 o_3), (.int .i64 o_4)])] w (Ret K) := calls_of_vc mixed Go.Proofs.Tryd.func10 ok_lang_Line (by rw [vc_lang_Line]; exact h)

def ann_millpondref21_Line : Ann := { quiet := fun d => [8, 12, 29, 31, 36, 41, 44, 47, 52, 57, 60, 67, 70, 73, 78, 83, 89, 94, 98, 103, 108, 114, 117, 123].contains d, sig := fun r => (bif r == 4 then some ([1, 2, 0, 3, 4, 5], [0]) else none), loop := fun r => (bif r == 6 then [(4, .str), (5, .int .i64)] else []), join := fun r => (bif r == 3 then some [] else bif r == 12 then some [(48, .bool)] else bif r == 14 then some [] else bif r == 16 then some [(74, .bool)] else bif r == 18 then some [] else bif r == 21 then some [] else none) }
/-- millpond/millpondref21.Line -/
def sh_millpondref21_Line (o_0 : Int) (o_1 : Int) (o_2 : Int) (o_3 : Int) (o_4 : Int) (K : Value → World → Prop) (w : World) : Prop :=
  Al (.cells #[(.int .i64 o_0), (.int .i64 o_1), (.int .i64 o_2), (.int .i64 o_3), (.int .i64 o_4)] 25) (fun p1 w2 => ∃ J3 : World → Prop, (∃ x6 : Int, w2.cell? (p1.add 0) = some
    (.int .i64 x6) ∧ bif (decide (x6 < 0)) then (K (.string (ByteArray.mk #[])) w2) else (∃ x7 : Int, w2.cell? (p1.add 0) = some (.int .i64 x7) ∧ bif (decide (x7 > 13)) then (K
    (.string (ByteArray.mk #[])) w2) else (J3 w2))) ∧ (∀ _u5 : Nat → Value, ∀ w4 : World, J3 w4 → ∃ x8 : Int, w4.cell? (p1.add 1) = some (.int .i64 x8) ∧ ∃ x9 : Int, w4.cell?
    (p1.add 2) = some (.int .i64 x9) ∧ ∃ x10 : Int, w4.cell? (p1.add 3) = some (.int .i64 x10) ∧ ∃ x11 : Int, w4.cell? (p1.add 4) = some (.int .i64 x11) ∧ Al (.cells #[(.int .i64
    x8), (.int .i64 x9), (.int .i64 x10), (.int .i64 x11)] 3) (fun p12 w13 => Dr (fun w14 => ∃ x15 : Int, w14.cell? (p1.add 0) = some (.int .i64 x15) ∧ Calls P
    fn_millpondref21_Words #[] w14 fun e17 w16 => ∃ x18 : Sl, e17 = .returned (.slice x18.p x18.n x18.c) ∧ ∃ x19 : Int, w16.cell? (p1.add 0) = some (.int .i64 x19) ∧ ((.int .i64
    x19) : Value) = (.int .i64 x15) ∧ elAt x18.p x18.n x15 1 fun a20 => ∃ x21 : ByteArray, w16.cell? a20 = some (.string x21) ∧ ∃ (I22 : ByteArray → Int → World → Prop) (M23 :
    ByteArray → Int → World → Nat), I22 x21 0 w16 ∧ ∀ _u25 : Nat → Value, ∀ s26 : ByteArray, ∀ i27 : Int, ∀ w24 : World, I22 s26 i27 w24 → bif (decide (i27 < 4)) then (∃ x28 : Int,
    w24.cell? (p1.add 0) = some (.int .i64 x28) ∧ Calls P fn_millpondref21_told #[(.int .i64 x28)] w24 fun e30 w29 => ∃ x31 : Int, e30 = .returned (.int .i64 x31) ∧ bif (decide (i27
    ≥ x31)) then (elAt (some p12) 4 i27 1 fun a32 => ∃ x33 : Int, w29.cell? a32 = some (.int .i64 x33) ∧ bif (x33 != 0) then (K (.string (ByteArray.mk #[])) w29) else ((I22 s26
    (IntKind.i64.wrap (i27 + 1)) w29 ∧ M23 s26 (IntKind.i64.wrap (i27 + 1)) w29 < M23 s26 i27 w24))) else (∃ J34 : Bool → World → Prop, (∃ x38 : Int, w29.cell? (p1.add 0) = some
    (.int .i64 x38) ∧ bif (x38 == 2) then (J34 (i27 == 1) w29) else (J34 false w29)) ∧ (∀ _u36 : Nat → Value, ∀ x37 : Bool, ∀ w35 : World, J34 x37 w35 → bif x37 then (∃ J39 : World
    → Prop, (elAt (some p12) 4 1 1 fun a42 => ∃ x43 : Int, w35.cell? a42 = some (.int .i64 x43) ∧ bif (decide (x43 < 0)) then (K (.string (ByteArray.mk #[])) w35) else (elAt (some
    p12) 4 1 1 fun a44 => ∃ x45 : Int, w35.cell? a44 = some (.int .i64 x45) ∧ bif (decide (x45 > 4)) then (K (.string (ByteArray.mk #[])) w35) else (J39 w35))) ∧ (∀ _u41 : Nat →
    Value, ∀ w40 : World, J39 w40 → s26.size + (ByteArray.mk #[32]).size ≤ 9223372036854775807 ∧ Al (.cells #[(.string (ByteArray.mk #[109, 105, 110])), (.string (ByteArray.mk
    #[108, 111, 119])), (.string (ByteArray.mk #[109, 97, 120])), (.string (ByteArray.mk #[115, 119, 97, 112])), (.string (ByteArray.mk #[119, 104, 111, 108, 101]))] 9) (fun p46 w47
    => elAt (some p12) 4 1 1 fun a48 => ∃ x49 : Int, w47.cell? a48 = some (.int .i64 x49) ∧ elAt (some p46) 5 x49 1 fun a50 => ∃ x51 : ByteArray, w47.cell? a50 = some (.string x51)
    ∧ (s26 ++ (ByteArray.mk #[32])).size + x51.size ≤ 9223372036854775807 ∧ (I22 ((s26 ++ (ByteArray.mk #[32])) ++ x51) (IntKind.i64.wrap (i27 + 1)) w47 ∧ M23 ((s26 ++ (ByteArray.mk
    #[32])) ++ x51) (IntKind.i64.wrap (i27 + 1)) w47 < M23 s26 i27 w24)) w40)) else (∃ J52 : Bool → World → Prop, (∃ x56 : Int, w35.cell? (p1.add 0) = some (.int .i64 x56) ∧ bif
    (x56 == 2) then (J52 (i27 == 2) w35) else (J52 false w35)) ∧ (∀ _u54 : Nat → Value, ∀ x55 : Bool, ∀ w53 : World, J52 x55 w53 → bif x55 then (∃ J57 : World → Prop, (elAt (some
    p12) 4 2 1 fun a60 => ∃ x61 : Int, w53.cell? a60 = some (.int .i64 x61) ∧ bif (decide (x61 < 0)) then (K (.string (ByteArray.mk #[])) w53) else (elAt (some p12) 4 2 1 fun a62 =>
    ∃ x63 : Int, w53.cell? a62 = some (.int .i64 x63) ∧ bif (decide (x63 > 1099511627776)) then (K (.string (ByteArray.mk #[])) w53) else (elAt (some p12) 4 1 1 fun a64 => ∃ x65 :
    Int, w53.cell? a64 = some (.int .i64 x65) ∧ bif (x65 == 4) then (elAt (some p12) 4 2 1 fun a66 => ∃ x67 : Int, w53.cell? a66 = some (.int .i64 x67) ∧ bif (decide (x67 > 1)) then
    (K (.string (ByteArray.mk #[])) w53) else (J57 w53)) else (J57 w53)))) ∧ (∀ _u59 : Nat → Value, ∀ w58 : World, J57 w58 → s26.size + (ByteArray.mk #[32]).size ≤
    9223372036854775807 ∧ elAt (some p12) 4 2 1 fun a68 => ∃ x69 : Int, w58.cell? a68 = some (.int .i64 x69) ∧ Calls P fn_millpondref11_Show #[(.int .i64 x69)] w58 fun e71 w70 => ∃
    x72 : ByteArray, e71 = .returned (.string x72) ∧ (s26 ++ (ByteArray.mk #[32])).size + x72.size ≤ 9223372036854775807 ∧ (I22 ((s26 ++ (ByteArray.mk #[32])) ++ x72)
    (IntKind.i64.wrap (i27 + 1)) w70 ∧ M23 ((s26 ++ (ByteArray.mk #[32])) ++ x72) (IntKind.i64.wrap (i27 + 1)) w70 < M23 s26 i27 w24))) else (∃ J73 : World → Prop, (elAt (some p12)
    4 i27 1 fun a76 => ∃ x77 : Int, w53.cell? a76 = some (.int .i64 x77) ∧ bif (decide (x77 < 0)) then (K (.string (ByteArray.mk #[])) w53) else (elAt (some p12) 4 i27 1 fun a78 =>
    ∃ x79 : Int, w53.cell? a78 = some (.int .i64 x79) ∧ bif (decide (x79 ≥ 2097152)) then (K (.string (ByteArray.mk #[])) w53) else (J73 w53))) ∧ (∀ _u75 : Nat → Value, ∀ w74 :
    World, J73 w74 → s26.size + (ByteArray.mk #[32]).size ≤ 9223372036854775807 ∧ elAt (some p12) 4 i27 1 fun a80 => ∃ x81 : Int, w74.cell? a80 = some (.int .i64 x81) ∧ Calls P
    fn_millpondref11_Digits #[(.int .i64 x81)] w74 fun e83 w82 => ∃ x84 : ByteArray, e83 = .returned (.string x84) ∧ (s26 ++ (ByteArray.mk #[32])).size + x84.size ≤
    9223372036854775807 ∧ (I22 ((s26 ++ (ByteArray.mk #[32])) ++ x84) (IntKind.i64.wrap (i27 + 1)) w82 ∧ M23 ((s26 ++ (ByteArray.mk #[32])) ++ x84) (IntKind.i64.wrap (i27 + 1)) w82
    < M23 s26 i27 w24)))))))) else (K (.string s26) w24)) w13) w4)) w
theorem vc_millpondref21_Line (o_0 : Int) (o_1 : Int) (o_2 : Int) (o_3 : Int) (o_4 : Int) (K : Value → World → Prop) (w : World) : vcFn P tau rho pan ann_millpondref21_Line Go.Proofs.Tryd.f11 #[(.agg #[(.int .i64 o_0), (.int .i64 o_1), (.int .i64 o_2), (.int .i64 o_3), (.int .i64 o_4)])] K (fun _ _ => False) w = sh_millpondref21_Line o_0 o_1 o_2 o_3 o_4 K w := by kernel_rfl
theorem ok_millpondref21_Line : okFn P ann_millpondref21_Line Go.Proofs.Tryd.f11 1 = true := by kernel_rfl
theorem of_millpondref21_Line (o_0 : Int) (o_1 : Int) (o_2 : Int) (o_3 : Int) (o_4 : Int) {K : Value → World → Prop} {w : World} (h : sh_millpondref21_Line o_0 o_1 o_2 o_3 o_4 K w) : Calls P fn_millpondref21_Line #[(.agg #[(.int .i64 o_0), (.int .i64 o_1), (.int .i64 o_2), (.int .i64 o_3), (.int .i64 o_4)])] w (Ret K) := calls_of_vc mixed Go.Proofs.Tryd.func11 ok_millpondref21_Line (by rw [vc_millpondref21_Line]; exact h)

def ann_lang_Words : Ann := {}
/-- millpond/lang.Words -/
def sh_lang_Words (K : Value → World → Prop) (w : World) : Prop :=
  Calls P fn_lang_forms #[] w fun e2 w1 => ∃ x3 : Sl, e2 = .returned (.slice x3.p x3.n x3.c) ∧ Calls P fn_lang_of_lang_form_string #[(.slice x3.p x3.n x3.c), (.func (.func
    fn_lang_Words_1) #[] #[])] w1 fun e5 w4 => ∃ x6 : Sl, e5 = .returned (.slice x6.p x6.n x6.c) ∧ K (.slice x6.p x6.n x6.c) w4
theorem vc_lang_Words (K : Value → World → Prop) (w : World) : vcFn P tau rho pan ann_lang_Words Go.Proofs.Tryd.f12 #[] K (fun _ _ => False) w = sh_lang_Words K w := by kernel_rfl
theorem ok_lang_Words : okFn P ann_lang_Words Go.Proofs.Tryd.f12 0 = true := by kernel_rfl
theorem of_lang_Words {K : Value → World → Prop} {w : World} (h : sh_lang_Words K w) : Calls P fn_lang_Words #[] w (Ret K) := calls_of_vc mixed Go.Proofs.Tryd.func12 ok_lang_Words (by rw [vc_lang_Words]; exact h)

def ann_millpondref21_Words : Ann := {}
/-- millpond/millpondref21.Words -/
def sh_millpondref21_Words (K : Value → World → Prop) (w : World) : Prop :=
  Al (.cells #[(.string (ByteArray.mk #[103, 114, 111, 117, 112])), (.string (ByteArray.mk #[114, 101, 109, 111, 118, 101])), (.string (ByteArray.mk #[108, 105, 109, 105, 116])),
    (.string (ByteArray.mk #[115, 112, 97, 119, 110])), (.string (ByteArray.mk #[97, 116, 116, 97, 99, 104])), (.string (ByteArray.mk #[109, 97, 112])), (.string (ByteArray.mk
    #[102, 105, 108, 101])), (.string (ByteArray.mk #[117, 110, 109, 97, 112])), (.string (ByteArray.mk #[108, 111, 97, 100])), (.string (ByteArray.mk #[115, 116, 111, 114, 101])),
    (.string (ByteArray.mk #[102, 111, 114, 107])), (.string (ByteArray.mk #[101, 120, 105, 116])), (.string (ByteArray.mk #[97, 103, 101])), (.string (ByteArray.mk #[115, 104, 114,
    105, 110, 107]))] 9) (fun p1 w2 => K (.slice (some p1) 14 14) w2) w
theorem vc_millpondref21_Words (K : Value → World → Prop) (w : World) : vcFn P tau rho pan ann_millpondref21_Words Go.Proofs.Tryd.f13 #[] K (fun _ _ => False) w = sh_millpondref21_Words K w := by kernel_rfl
theorem ok_millpondref21_Words : okFn P ann_millpondref21_Words Go.Proofs.Tryd.f13 0 = true := by kernel_rfl
theorem of_millpondref21_Words {K : Value → World → Prop} {w : World} (h : sh_millpondref21_Words K w) : Calls P fn_millpondref21_Words #[] w (Ret K) := calls_of_vc mixed Go.Proofs.Tryd.func13 ok_millpondref21_Words (by rw [vc_millpondref21_Words]; exact h)

def ann_lang_Parse : Ann := { quiet := fun d => [12, 14, 25, 28, 29].contains d, loop := fun r => (bif r == 3 then [(0, .str), (6, .int .i64)] else []), join := fun r => (bif r == 8 then some [] else none) }
/-- millpond/lang.Parse -/
def sh_lang_Parse (text : ByteArray) (K : Value → World → Prop) (w : World) : Prop :=
  Al (.cells #[(.slice none 0 0)] 22) (fun p1 w2 => ∃ (I3 : ByteArray → Int → World → Prop) (M4 : ByteArray → Int → World → Nat), I3 text 1 w2 ∧ ∀ _u6 : Nat → Value, ∀ text7 :
    ByteArray, ∀ no8 : Int, ∀ w5 : World, I3 text7 no8 w5 → bif (!(text7.toList == (ByteArray.mk #[]).toList)) then (Calls P fn_strings_Cut #[(.string text7), (.string (ByteArray.mk
    #[10]))] w5 fun e10 w9 => ∃ x11 : ByteArray, ∃ x12 : ByteArray, ∃ x13 : Bool, e10 = .returned (.tuple #[(.string x11), (.string x12), (.bool x13)]) ∧ Al (.cells #[(.string
    (ByteArray.mk #[]))] 9) (fun p14 w15 => Al (.cells #[(.bool false)] 4) (fun p16 w17 => St p14 (.string x11) (fun w18 => St p16 (.bool x13) (fun w19 => ∃ J20 : World → Prop, (∃
    x23 : Bool, w19.cell? p16 = some (.bool x23) ∧ bif x23 then (∃ x24 : ByteArray, w19.cell? p14 = some (.string x24) ∧ bif (x24.toList == (ByteArray.mk #[]).toList) then ((I3 x12
    (IntKind.i64.wrap (no8 + 1)) w19 ∧ M4 x12 (IntKind.i64.wrap (no8 + 1)) w19 < M4 text7 no8 w5)) else (∃ x25 : ByteArray, w19.cell? p14 = some (.string x25) ∧ strAt x25 0 fun b26
    => bif (b26 == 35) then ((I3 x12 (IntKind.i64.wrap (no8 + 1)) w19 ∧ M4 x12 (IntKind.i64.wrap (no8 + 1)) w19 < M4 text7 no8 w5)) else (J20 w19))) else (J20 w19)) ∧ (∀ _u22 : Nat
    → Value, ∀ w21 : World, J20 w21 → Calls P fn_lang_caught #[(.func (.func fn_lang_Parse_1) #[] #[(.pointer (some p16)), (.pointer (some p1)), (.pointer (some p14))])] w21 fun e28
    w27 => ∃ x29 : Bool, e28 = .returned (.bool x29) ∧ bif (!x29) then (K (.tuple #[(.slice none 0 0), (.int .i64 20), (.int .i64 no8)]) w27) else ((I3 x12 (IntKind.i64.wrap (no8 +
    1)) w27 ∧ M4 x12 (IntKind.i64.wrap (no8 + 1)) w27 < M4 text7 no8 w5)))) w18) w17) w15) w9) else (∃ x30 : Sl, w5.cell? p1 = some (.slice x30.p x30.n x30.c) ∧ K (.tuple #[(.slice
    x30.p x30.n x30.c), (.int .i64 0), (.int .i64 0)]) w5)) w
theorem vc_lang_Parse (text : ByteArray) (K : Value → World → Prop) (w : World) : vcFn P tau rho pan ann_lang_Parse Go.Proofs.Tryd.f14 #[(.string text)] K (fun _ _ => False) w = sh_lang_Parse text K w := by kernel_rfl
theorem ok_lang_Parse : okFn P ann_lang_Parse Go.Proofs.Tryd.f14 1 = true := by kernel_rfl
theorem of_lang_Parse (text : ByteArray) {K : Value → World → Prop} {w : World} (h : sh_lang_Parse text K w) : Calls P fn_lang_Parse #[(.string text)] w (Ret K) := calls_of_vc mixed Go.Proofs.Tryd.func14 ok_lang_Parse (by rw [vc_lang_Parse]; exact h)

def ann_millpondref21_Parse : Ann := { quiet := fun d => [13, 14, 16, 19, 20, 25, 27, 29, 32, 33, 44, 45, 53, 55].contains d, loop := fun r => (bif r == 5 then [(5, .slice), (6, .str), (7, .int .i64), (8, .int .i64)] else []), join := fun r => (bif r == 10 then some [(34, .bool)] else bif r == 13 then some [] else none) }
/-- millpond/millpondref21.Parse -/
def sh_millpondref21_Parse (text : ByteArray) (K : Value → World → Prop) (w : World) : Prop :=
  ∃ (I1 : Sl → ByteArray → Int → Int → World → Prop) (M2 : Sl → ByteArray → Int → Int → World → Nat), I1 ⟨none, 0, 0⟩ (ByteArray.mk #[]) 1 0 w ∧ ∀ _u4 : Nat → Value, ∀ l5 : Sl, ∀
    line6 : ByteArray, ∀ no7 : Int, ∀ i8 : Int, ∀ w3 : World, I1 l5 line6 no7 i8 w3 → bif (decide (i8 < ((text.size : Nat) : Int))) then (strAt text i8 fun b9 => bif (b9 != 10) then
    ((0 ≤ (IntKind.i64.wrap (i8 + 1)) ∧ (IntKind.i64.wrap (i8 + 1)) ≤ ((text.size : Nat) : Int)) ∧ (0 ≤ i8 ∧ i8 ≤ (((IntKind.i64.wrap (i8 + 1)).toNat : Nat) : Int)) ∧ line6.size +
    (text.extract i8.toNat ((IntKind.i64.wrap (i8 + 1)).toNat)).size ≤ 9223372036854775807 ∧ (I1 l5 (line6 ++ (text.extract i8.toNat ((IntKind.i64.wrap (i8 + 1)).toNat))) no7
    (IntKind.i64.wrap (i8 + 1)) w3 ∧ M2 l5 (line6 ++ (text.extract i8.toNat ((IntKind.i64.wrap (i8 + 1)).toNat))) no7 (IntKind.i64.wrap (i8 + 1)) w3 < M2 l5 line6 no7 i8 w3)) else
    (∃ J10 : Bool → World → Prop, (bif (!(line6.toList == (ByteArray.mk #[]).toList)) then (strAt line6 0 fun b14 => J10 (b14 != 35) w3) else (J10 false w3)) ∧ (∀ _u12 : Nat →
    Value, ∀ x13 : Bool, ∀ w11 : World, J10 x13 w11 → bif x13 then (Calls P fn_millpondref21_read #[(.string line6)] w11 fun e16 w15 => ∃ x17 : Int, ∃ x18 : Int, ∃ x19 : Int, ∃ x20
    : Int, ∃ x21 : Int, ∃ x22 : Bool, e16 = .returned (.tuple #[(.agg #[(.int .i64 x17), (.int .i64 x18), (.int .i64 x19), (.int .i64 x20), (.int .i64 x21)]), (.bool x22)]) ∧ Al
    (.cells #[(.int .i64 0), (.int .i64 0), (.int .i64 0), (.int .i64 0), (.int .i64 0)] 25) (fun p23 w24 => StN [(.int .i64 x17), (.int .i64 x18), (.int .i64 x19), (.int .i64 x20),
    (.int .i64 x21)] p23 (fun w25 => ∃ J26 : World → Prop, (bif (!x22) then (K (.tuple #[(.slice none 0 0), (.int .i64 20), (.int .i64 no7)]) w25) else (bif (decide (((l5.n : Nat) :
    Int) ≥ 1000)) then (K (.tuple #[(.slice none 0 0), (.int .i64 20), (.int .i64 no7)]) w25) else (J26 w25))) ∧ (∀ _u28 : Nat → Value, ∀ w27 : World, J26 w27 → ∃ x29 : Int,
    w27.cell? (p23.add 0) = some (.int .i64 x29) ∧ ∃ x30 : Int, w27.cell? (p23.add 1) = some (.int .i64 x30) ∧ ∃ x31 : Int, w27.cell? (p23.add 2) = some (.int .i64 x31) ∧ ∃ x32 :
    Int, w27.cell? (p23.add 3) = some (.int .i64 x32) ∧ ∃ x33 : Int, w27.cell? (p23.add 4) = some (.int .i64 x33) ∧ Al (.cells #[(.int .i64 x29), (.int .i64 x30), (.int .i64 x31),
    (.int .i64 x32), (.int .i64 x33)] 25) (fun p34 w35 => ∃ x37 : Sl, ∃ w36 : World, Sem.run P (Builtin.append_ #[22, 22] 22 #[(.slice l5.p l5.n l5.c), (.slice (some p34) 1 1)]) w35
    = .ok (.slice x37.p x37.n x37.c) w36 ∧ (I1 x37 (ByteArray.mk #[]) (IntKind.i64.wrap (no7 + 1)) (IntKind.i64.wrap (i8 + 1)) w36 ∧ M2 x37 (ByteArray.mk #[]) (IntKind.i64.wrap (no7
    + 1)) (IntKind.i64.wrap (i8 + 1)) w36 < M2 l5 line6 no7 i8 w3)) w27)) w24) w15) else ((I1 l5 (ByteArray.mk #[]) (IntKind.i64.wrap (no7 + 1)) (IntKind.i64.wrap (i8 + 1)) w11 ∧ M2
    l5 (ByteArray.mk #[]) (IntKind.i64.wrap (no7 + 1)) (IntKind.i64.wrap (i8 + 1)) w11 < M2 l5 line6 no7 i8 w3))))) else (bif (!(line6.toList == (ByteArray.mk #[]).toList)) then (K
    (.tuple #[(.slice none 0 0), (.int .i64 20), (.int .i64 no7)]) w3) else (K (.tuple #[(.slice l5.p l5.n l5.c), (.int .i64 0), (.int .i64 0)]) w3))
theorem vc_millpondref21_Parse (text : ByteArray) (K : Value → World → Prop) (w : World) : vcFn P tau rho pan ann_millpondref21_Parse Go.Proofs.Tryd.f15 #[(.string text)] K (fun _ _ => False) w = sh_millpondref21_Parse text K w := by kernel_rfl
theorem ok_millpondref21_Parse : okFn P ann_millpondref21_Parse Go.Proofs.Tryd.f15 1 = true := by kernel_rfl
theorem of_millpondref21_Parse (text : ByteArray) {K : Value → World → Prop} {w : World} (h : sh_millpondref21_Parse text K w) : Calls P fn_millpondref21_Parse #[(.string text)] w (Ret K) := calls_of_vc mixed Go.Proofs.Tryd.func15 ok_millpondref21_Parse (by rw [vc_millpondref21_Parse]; exact h)

def ann_millpondlaw21_same : Ann := { quiet := fun d => [7, 9, 10, 13, 14, 16, 25].contains d, head := fun r => (bif r == 6 then 9 else 0), loop := fun r => (bif r == 4 then [(5, .int .i64)] else []) }
/-- millpond/millpondlaw21.same -/
def sh_millpondlaw21_same (a : Sl) (b : Sl) (K : Value → World → Prop) (w : World) : Prop :=
  bif (((a.n : Nat) : Int) != ((b.n : Nat) : Int)) then (K (.bool false) w) else (∃ (I1 : Int → World → Prop) (M2 : Int → World → Nat), I1 0 w ∧ ∀ _u4 : Nat → Value, ∀ i5 : Int, ∀ w3
    : World, I1 i5 w3 → bif (decide (i5 < ((a.n : Nat) : Int))) then (Dr (fun w6 => elAt a.p a.n i5 5 fun a7 => ∃ x8 : Int, w6.cell? (a7.add 0) = some (.int .i64 x8) ∧ ∃ x9 : Int,
    w6.cell? (a7.add 1) = some (.int .i64 x9) ∧ ∃ x10 : Int, w6.cell? (a7.add 2) = some (.int .i64 x10) ∧ ∃ x11 : Int, w6.cell? (a7.add 3) = some (.int .i64 x11) ∧ ∃ x12 : Int,
    w6.cell? (a7.add 4) = some (.int .i64 x12) ∧ elAt b.p b.n i5 5 fun a13 => ∃ x14 : Int, w6.cell? (a13.add 0) = some (.int .i64 x14) ∧ ∃ x15 : Int, w6.cell? (a13.add 1) = some
    (.int .i64 x15) ∧ ∃ x16 : Int, w6.cell? (a13.add 2) = some (.int .i64 x16) ∧ ∃ x17 : Int, w6.cell? (a13.add 3) = some (.int .i64 x17) ∧ ∃ x18 : Int, w6.cell? (a13.add 4) = some
    (.int .i64 x18) ∧ ∃ q19 : Bool, EqV P .neq 25 (.agg #[(.int .i64 x8), (.int .i64 x9), (.int .i64 x10), (.int .i64 x11), (.int .i64 x12)]) (.agg #[(.int .i64 x14), (.int .i64
    x15), (.int .i64 x16), (.int .i64 x17), (.int .i64 x18)]) q19 ∧ bif q19 then (K (.bool false) w6) else ((I1 (IntKind.i64.wrap (i5 + 1)) w6 ∧ M2 (IntKind.i64.wrap (i5 + 1)) w6 <
    M2 i5 w3))) w3) else (K (.bool true) w3))
theorem vc_millpondlaw21_same (a : Sl) (b : Sl) (K : Value → World → Prop) (w : World) : vcFn P tau rho pan ann_millpondlaw21_same Go.Proofs.Tryd.f16 #[(.slice a.p a.n a.c), (.slice b.p b.n b.c)] K (fun _ _ => False) w = sh_millpondlaw21_same a b K w := by kernel_rfl
theorem ok_millpondlaw21_same : okFn P ann_millpondlaw21_same Go.Proofs.Tryd.f16 2 = true := by kernel_rfl
theorem of_millpondlaw21_same (a : Sl) (b : Sl) {K : Value → World → Prop} {w : World} (h : sh_millpondlaw21_same a b K w) : Calls P fn_millpondlaw21_same #[(.slice a.p a.n a.c), (.slice b.p b.n b.c)] w (Ret K) := calls_of_vc mixed Go.Proofs.Tryd.func16 ok_millpondlaw21_same (by rw [vc_millpondlaw21_same]; exact h)

def ann_lang_Print_1 : Ann := { quiet := fun d => [5, 6, 9, 11, 16, 18].contains d, loop := fun r => (bif r == 2 then [(10, .int .i64)] else []) }
/-- millpond/lang.Print$1 -/
def sh_lang_Print_1 (c_f : Addr) (c_fq : Addr) (K : Value → World → Prop) (Kp : List PanicEntry → World → Prop) (w : World) : Prop :=
  ∃ x1 : Sl, w.cell? c_f = some (.slice x1.p x1.n x1.c) ∧ Calls P fn_lang_must #[(.bool (decide (((x1.n : Nat) : Int) ≤ 1000)))] w fun e3 w2 => (e3 = .returned (.tuple #[]) ∧ ∃ x5 :
    Sl, w2.cell? c_f = some (.slice x5.p x5.n x5.c) ∧ ∃ (I6 : Int → World → Prop) (M7 : Int → World → Nat), I6 0 w2 ∧ ∀ _u9 : Nat → Value, ∀ x10 : Int, ∀ w8 : World, I6 x10 w8 → bif
    (decide (x10 < ((x5.n : Nat) : Int))) then (elAt x5.p x5.n x10 5 fun a11 => ∃ x12 : Int, w8.cell? (a11.add 0) = some (.int .i64 x12) ∧ ∃ x13 : Int, w8.cell? (a11.add 1) = some
    (.int .i64 x13) ∧ ∃ x14 : Int, w8.cell? (a11.add 2) = some (.int .i64 x14) ∧ ∃ x15 : Int, w8.cell? (a11.add 3) = some (.int .i64 x15) ∧ ∃ x16 : Int, w8.cell? (a11.add 4) = some
    (.int .i64 x16) ∧ Al (.cells #[(.int .i64 0), (.int .i64 0), (.int .i64 0), (.int .i64 0), (.int .i64 0)] 25) (fun p17 w18 => StN [(.int .i64 x12), (.int .i64 x13), (.int .i64
    x14), (.int .i64 x15), (.int .i64 x16)] p17 (fun w19 => ∃ x20 : Int, w19.cell? (p17.add 0) = some (.int .i64 x20) ∧ ∃ x21 : Int, w19.cell? (p17.add 1) = some (.int .i64 x21) ∧ ∃
    x22 : Int, w19.cell? (p17.add 2) = some (.int .i64 x22) ∧ ∃ x23 : Int, w19.cell? (p17.add 3) = some (.int .i64 x23) ∧ ∃ x24 : Int, w19.cell? (p17.add 4) = some (.int .i64 x24) ∧
    Calls P fn_lang_line #[(.agg #[(.int .i64 x20), (.int .i64 x21), (.int .i64 x22), (.int .i64 x23), (.int .i64 x24)])] w19 fun e26 w25 => (∃ x28 : ByteArray, e26 = .returned
    (.string x28) ∧ x28.size + (ByteArray.mk #[10]).size ≤ 9223372036854775807 ∧ Calls P fn_strings_Builder_WriteString #[(.pointer (some c_fq)), (.string (x28 ++ (ByteArray.mk
    #[10])))] w25 fun e30 w29 => ∃ x31 : Int, ∃ x32 : Value, e30 = .returned (.tuple #[(.int .i64 x31), x32]) ∧ (I6 (IntKind.i64.wrap (x10 + 1)) w29 ∧ M7 (IntKind.i64.wrap (x10 +
    1)) w29 < M7 x10 w8)) ∨ (∃ ch27, e26 = .panicked ch27 ∧ Kp ch27 w25)) w18) w8) else (K (.tuple #[]) w8)) ∨ (∃ ch4, e3 = .panicked ch4 ∧ Kp ch4 w2)
theorem vc_lang_Print_1 (c_f : Addr) (c_fq : Addr) (K : Value → World → Prop) (Kp : List PanicEntry → World → Prop) (w : World) : vcFn P tau rho pan ann_lang_Print_1 Go.Proofs.Tryd.f18 #[(.pointer (some c_f)), (.pointer (some c_fq))] K Kp w = sh_lang_Print_1 c_f c_fq K Kp w := by kernel_rfl
theorem ok_lang_Print_1 : okFn P ann_lang_Print_1 Go.Proofs.Tryd.f18 2 = true := by kernel_rfl
theorem of_lang_Print_1 (c_f : Addr) (c_fq : Addr) {K : Value → World → Prop} {Kp : List PanicEntry → World → Prop} {w : World} (h : sh_lang_Print_1 c_f c_fq K Kp w) : Calls P fn_lang_Print_1 #[(.pointer (some c_f)), (.pointer (some c_fq))] w (RetP K Kp) := callsP_of_vc mixed Go.Proofs.Tryd.func18 ok_lang_Print_1 (by rw [vc_lang_Print_1]; exact h)

def ann_lang_must : Ann := {}
/-- millpond/lang.must -/
def sh_lang_must (is : Bool) (K : Value → World → Prop) (Kp : List PanicEntry → World → Prop) (w : World) : Prop :=
  bif (!is) then (Kp [pe (.iface 68 (.agg #[]))] w) else (K (.tuple #[]) w)
theorem vc_lang_must (is : Bool) (K : Value → World → Prop) (Kp : List PanicEntry → World → Prop) (w : World) : vcFn P tau rho pan ann_lang_must Go.Proofs.Tryd.f19 #[(.bool is)] K Kp w = sh_lang_must is K Kp w := by kernel_rfl
theorem ok_lang_must : okFn P ann_lang_must Go.Proofs.Tryd.f19 1 = true := by kernel_rfl
theorem of_lang_must (is : Bool) {K : Value → World → Prop} {Kp : List PanicEntry → World → Prop} {w : World} (h : sh_lang_must is K Kp w) : Calls P fn_lang_must #[(.bool is)] w (RetP K Kp) := callsP_of_vc mixed Go.Proofs.Tryd.func19 ok_lang_must (by rw [vc_lang_must]; exact h)

def ann_lang_line : Ann := { quiet := fun d => [10, 14, 28, 30, 45, 50].contains d, fork := fun r => [2].contains r, loop := fun r => (bif r == 6 then [(5, .slice), (29, .int .i64)] else []), join := fun r => (bif r == 2 then some [] else none) }
/-- millpond/lang.line -/
def sh_lang_line (o_0 : Int) (o_1 : Int) (o_2 : Int) (o_3 : Int) (o_4 : Int) (K : Value → World → Prop) (Kp : List PanicEntry → World → Prop) (w : World) : Prop :=
  Al (.cells #[(.int .i64 o_0), (.int .i64 o_1), (.int .i64 o_2), (.int .i64 o_3), (.int .i64 o_4)] 25) (fun p1 w2 => ∃ J3 : World → Prop, (∃ x6 : Int, w2.cell? (p1.add 0) = some
    (.int .i64 x6) ∧ bif (decide ((0 : Int) ≤ x6)) then (∃ x7 : Int, w2.cell? (p1.add 0) = some (.int .i64 x7) ∧ Calls P fn_lang_must #[(.bool (decide (x7 ≤ 13)))] w2 fun e9 w8 =>
    (e9 = .returned (.tuple #[]) ∧ J3 w8) ∨ (∃ ch10, e9 = .panicked ch10 ∧ Kp ch10 w8)) else (Calls P fn_lang_must #[(.bool false)] w2 fun e12 w11 => (e12 = .returned (.tuple #[]) ∧
    J3 w11) ∨ (∃ ch13, e12 = .panicked ch13 ∧ Kp ch13 w11))) ∧ (∀ _u5 : Nat → Value, ∀ w4 : World, J3 w4 → Dr (fun w14 => (Calls P fn_lang_forms #[] w14 fun e16 w15 => ∃ x17 : Sl,
    e16 = .returned (.slice x17.p x17.n x17.c) ∧ ((∃ x18 : Int, w15.cell? (p1.add 0) = some (.int .i64 x18) ∧ (elAt x17.p x17.n x18 2 fun a19 => (∃ x20 : ByteArray, w15.cell?
    (a19.add 0) = some (.string x20) ∧ ∃ x21 : Sl, w15.cell? (a19.add 1) = some (.slice x21.p x21.n x21.c) ∧ (Al (.cells #[(.string (ByteArray.mk #[])), (.slice none 0 0)] 58) (fun
    p22 w23 => (StN [(.string x20), (.slice x21.p x21.n x21.c)] p22 (fun w24 => ∃ x25 : Int, w24.cell? (p1.add 0) = some (.int .i64 x25) ∧ ∃ x26 : Int, w24.cell? (p1.add 1) = some
    (.int .i64 x26) ∧ ∃ x27 : Int, w24.cell? (p1.add 2) = some (.int .i64 x27) ∧ ∃ x28 : Int, w24.cell? (p1.add 3) = some (.int .i64 x28) ∧ ∃ x29 : Int, w24.cell? (p1.add 4) = some
    (.int .i64 x29) ∧ Al (.cells #[(.int .i64 0), (.int .i64 0), (.int .i64 0), (.int .i64 0), (.int .i64 0)] 25) (fun p30 w31 => StN [(.int .i64 x25), (.int .i64 x26), (.int .i64
    x27), (.int .i64 x28), (.int .i64 x29)] p30 (fun w32 => ∃ x33 : ByteArray, w32.cell? (p22.add 0) = some (.string x33) ∧ Al (.cells #[(.string x33)] 9) (fun p34 w35 => ∃ x36 :
    Sl, w35.cell? (p22.add 1) = some (.slice x36.p x36.n x36.c) ∧ ∃ (I37 : Sl → Int → World → Prop) (M38 : Sl → Int → World → Nat), I37 ⟨(some p34), 1, 1⟩ 0 w35 ∧ ∀ _u40 : Nat →
    Value, ∀ words41 : Sl, ∀ x42 : Int, ∀ w39 : World, I37 words41 x42 w39 → bif (decide (x42 < ((x36.n : Nat) : Int))) then (elAt x36.p x36.n x42 1 fun a43 => ∃ x44 : Int,
    w39.cell? a43 = some (.int .i64 x44) ∧ Calls P fn_lang_field_place #[(.int .i64 x44), (.pointer (some p1))] w39 fun e46 w45 => ∃ x47 : Option Addr, e46 = .returned (.pointer
    x47) ∧ NN x47 fun a48 => ∃ x49 : Int, w45.cell? a48 = some (.int .i64 x49) ∧ Calls P fn_lang_field_show #[(.int .i64 x44), (.int .i64 x49)] w45 fun e51 w50 => (∃ x53 :
    ByteArray, e51 = .returned (.string x53) ∧ Al (.cells #[(.string x53)] 9) (fun p54 w55 => ∃ x57 : Sl, ∃ w56 : World, Sem.run P (Builtin.append_ #[32, 32] 32 #[(.slice words41.p
    words41.n words41.c), (.slice (some p54) 1 1)]) w55 = .ok (.slice x57.p x57.n x57.c) w56 ∧ Calls P fn_lang_field_place #[(.int .i64 x44), (.pointer (some p30))] w56 fun e59 w58
    => ∃ x60 : Option Addr, e59 = .returned (.pointer x60) ∧ NN x60 fun a61 => St a61 (.int .i64 0) (fun w62 => (I37 x57 (IntKind.i64.wrap (x42 + 1)) w62 ∧ M38 x57 (IntKind.i64.wrap
    (x42 + 1)) w62 < M38 words41 x42 w39)) w58) w50) ∨ (∃ ch52, e51 = .panicked ch52 ∧ Kp ch52 w50)) else (∃ x63 : Int, w39.cell? (p30.add 0) = some (.int .i64 x63) ∧ ∃ x64 : Int,
    w39.cell? (p30.add 1) = some (.int .i64 x64) ∧ ∃ x65 : Int, w39.cell? (p30.add 2) = some (.int .i64 x65) ∧ ∃ x66 : Int, w39.cell? (p30.add 3) = some (.int .i64 x66) ∧ ∃ x67 :
    Int, w39.cell? (p30.add 4) = some (.int .i64 x67) ∧ ∃ x68 : Int, w39.cell? (p1.add 0) = some (.int .i64 x68) ∧ ∃ q69 : Bool, EqV P .eql 25 (.agg #[(.int .i64 x63), (.int .i64
    x64), (.int .i64 x65), (.int .i64 x66), (.int .i64 x67)]) (.agg #[(.int .i64 x68), (.int .i64 0), (.int .i64 0), (.int .i64 0), (.int .i64 0)]) q69 ∧ Calls P fn_lang_must
    #[(.bool q69)] w39 fun e71 w70 => (e71 = .returned (.tuple #[]) ∧ ∃ x73 : Int, w70.cell? (p1.add 0) = some (.int .i64 x73) ∧ ∃ x74 : Int, w70.cell? (p1.add 1) = some (.int .i64
    x74) ∧ ∃ x75 : Int, w70.cell? (p1.add 2) = some (.int .i64 x75) ∧ ∃ x76 : Int, w70.cell? (p1.add 3) = some (.int .i64 x76) ∧ ∃ x77 : Int, w70.cell? (p1.add 4) = some (.int .i64
    x77) ∧ Calls P fn_lang_right #[(.agg #[(.int .i64 x73), (.int .i64 x74), (.int .i64 x75), (.int .i64 x76), (.int .i64 x77)])] w70 fun e79 w78 => (e79 = .returned (.tuple #[]) ∧
    Calls P fn_strings_Join #[(.slice words41.p words41.n words41.c), (.string (ByteArray.mk #[32]))] w78 fun e82 w81 => ∃ x83 : ByteArray, e82 = .returned (.string x83) ∧ K
    (.string x83) w81) ∨ (∃ ch80, e79 = .panicked ch80 ∧ Kp ch80 w78)) ∨ (∃ ch72, e71 = .panicked ch72 ∧ Kp ch72 w70))) w32) w31) w24) w23) ∧ True) w15) ∧ True) ∧ ((Al (.cells
    #[(.string (ByteArray.mk #[])), (.slice none 0 0)] 58) (fun p84 w85 => (∃ x86 : ByteArray, w85.cell? (a19.add 0) = some (.string x86) ∧ ∃ x87 : Sl, w85.cell? (a19.add 1) = some
    (.slice x87.p x87.n x87.c) ∧ (StN [(.string x86), (.slice x87.p x87.n x87.c)] p84 (fun w88 => ∃ x89 : Int, w88.cell? (p1.add 0) = some (.int .i64 x89) ∧ ∃ x90 : Int, w88.cell?
    (p1.add 1) = some (.int .i64 x90) ∧ ∃ x91 : Int, w88.cell? (p1.add 2) = some (.int .i64 x91) ∧ ∃ x92 : Int, w88.cell? (p1.add 3) = some (.int .i64 x92) ∧ ∃ x93 : Int, w88.cell?
    (p1.add 4) = some (.int .i64 x93) ∧ Al (.cells #[(.int .i64 0), (.int .i64 0), (.int .i64 0), (.int .i64 0), (.int .i64 0)] 25) (fun p94 w95 => StN [(.int .i64 x89), (.int .i64
    x90), (.int .i64 x91), (.int .i64 x92), (.int .i64 x93)] p94 (fun w96 => ∃ x97 : ByteArray, w96.cell? (p84.add 0) = some (.string x97) ∧ Al (.cells #[(.string x97)] 9) (fun p98
    w99 => ∃ x100 : Sl, w99.cell? (p84.add 1) = some (.slice x100.p x100.n x100.c) ∧ ∃ (I101 : Sl → Int → World → Prop) (M102 : Sl → Int → World → Nat), I101 ⟨(some p98), 1, 1⟩ 0
    w99 ∧ ∀ _u104 : Nat → Value, ∀ words105 : Sl, ∀ x106 : Int, ∀ w103 : World, I101 words105 x106 w103 → bif (decide (x106 < ((x100.n : Nat) : Int))) then (elAt x100.p x100.n x106
    1 fun a107 => ∃ x108 : Int, w103.cell? a107 = some (.int .i64 x108) ∧ Calls P fn_lang_field_place #[(.int .i64 x108), (.pointer (some p1))] w103 fun e110 w109 => ∃ x111 : Option
    Addr, e110 = .returned (.pointer x111) ∧ NN x111 fun a112 => ∃ x113 : Int, w109.cell? a112 = some (.int .i64 x113) ∧ Calls P fn_lang_field_show #[(.int .i64 x108), (.int .i64
    x113)] w109 fun e115 w114 => (∃ x117 : ByteArray, e115 = .returned (.string x117) ∧ Al (.cells #[(.string x117)] 9) (fun p118 w119 => ∃ x121 : Sl, ∃ w120 : World, Sem.run P
    (Builtin.append_ #[32, 32] 32 #[(.slice words105.p words105.n words105.c), (.slice (some p118) 1 1)]) w119 = .ok (.slice x121.p x121.n x121.c) w120 ∧ Calls P fn_lang_field_place
    #[(.int .i64 x108), (.pointer (some p94))] w120 fun e123 w122 => ∃ x124 : Option Addr, e123 = .returned (.pointer x124) ∧ NN x124 fun a125 => St a125 (.int .i64 0) (fun w126 =>
    (I101 x121 (IntKind.i64.wrap (x106 + 1)) w126 ∧ M102 x121 (IntKind.i64.wrap (x106 + 1)) w126 < M102 words105 x106 w103)) w122) w114) ∨ (∃ ch116, e115 = .panicked ch116 ∧ Kp
    ch116 w114)) else (∃ x127 : Int, w103.cell? (p94.add 0) = some (.int .i64 x127) ∧ ∃ x128 : Int, w103.cell? (p94.add 1) = some (.int .i64 x128) ∧ ∃ x129 : Int, w103.cell?
    (p94.add 2) = some (.int .i64 x129) ∧ ∃ x130 : Int, w103.cell? (p94.add 3) = some (.int .i64 x130) ∧ ∃ x131 : Int, w103.cell? (p94.add 4) = some (.int .i64 x131) ∧ ∃ x132 : Int,
    w103.cell? (p1.add 0) = some (.int .i64 x132) ∧ ∃ q133 : Bool, EqV P .eql 25 (.agg #[(.int .i64 x127), (.int .i64 x128), (.int .i64 x129), (.int .i64 x130), (.int .i64 x131)])
    (.agg #[(.int .i64 x132), (.int .i64 0), (.int .i64 0), (.int .i64 0), (.int .i64 0)]) q133 ∧ Calls P fn_lang_must #[(.bool q133)] w103 fun e135 w134 => (e135 = .returned
    (.tuple #[]) ∧ ∃ x137 : Int, w134.cell? (p1.add 0) = some (.int .i64 x137) ∧ ∃ x138 : Int, w134.cell? (p1.add 1) = some (.int .i64 x138) ∧ ∃ x139 : Int, w134.cell? (p1.add 2) =
    some (.int .i64 x139) ∧ ∃ x140 : Int, w134.cell? (p1.add 3) = some (.int .i64 x140) ∧ ∃ x141 : Int, w134.cell? (p1.add 4) = some (.int .i64 x141) ∧ Calls P fn_lang_right #[(.agg
    #[(.int .i64 x137), (.int .i64 x138), (.int .i64 x139), (.int .i64 x140), (.int .i64 x141)])] w134 fun e143 w142 => (e143 = .returned (.tuple #[]) ∧ Calls P fn_strings_Join
    #[(.slice words105.p words105.n words105.c), (.string (ByteArray.mk #[32]))] w142 fun e146 w145 => ∃ x147 : ByteArray, e146 = .returned (.string x147) ∧ K (.string x147) w145) ∨
    (∃ ch144, e143 = .panicked ch144 ∧ Kp ch144 w142)) ∨ (∃ ch136, e135 = .panicked ch136 ∧ Kp ch136 w134))) w96) w95) w88) w85) ∧ True) ∧ True) w15) ∧ True)) ∧ ((Al (.cells
    #[(.string (ByteArray.mk #[])), (.slice none 0 0)] 58) (fun p148 w149 => (elAt x17.p x17.n x18 2 fun a150 => (∃ x151 : ByteArray, w149.cell? (a150.add 0) = some (.string x151) ∧
    ∃ x152 : Sl, w149.cell? (a150.add 1) = some (.slice x152.p x152.n x152.c) ∧ (StN [(.string x151), (.slice x152.p x152.n x152.c)] p148 (fun w153 => ∃ x154 : Int, w153.cell?
    (p1.add 0) = some (.int .i64 x154) ∧ ∃ x155 : Int, w153.cell? (p1.add 1) = some (.int .i64 x155) ∧ ∃ x156 : Int, w153.cell? (p1.add 2) = some (.int .i64 x156) ∧ ∃ x157 : Int,
    w153.cell? (p1.add 3) = some (.int .i64 x157) ∧ ∃ x158 : Int, w153.cell? (p1.add 4) = some (.int .i64 x158) ∧ Al (.cells #[(.int .i64 0), (.int .i64 0), (.int .i64 0), (.int
    .i64 0), (.int .i64 0)] 25) (fun p159 w160 => StN [(.int .i64 x154), (.int .i64 x155), (.int .i64 x156), (.int .i64 x157), (.int .i64 x158)] p159 (fun w161 => ∃ x162 :
    ByteArray, w161.cell? (p148.add 0) = some (.string x162) ∧ Al (.cells #[(.string x162)] 9) (fun p163 w164 => ∃ x165 : Sl, w164.cell? (p148.add 1) = some (.slice x165.p x165.n
    x165.c) ∧ ∃ (I166 : Sl → Int → World → Prop) (M167 : Sl → Int → World → Nat), I166 ⟨(some p163), 1, 1⟩ 0 w164 ∧ ∀ _u169 : Nat → Value, ∀ words170 : Sl, ∀ x171 : Int, ∀ w168 :
    World, I166 words170 x171 w168 → bif (decide (x171 < ((x165.n : Nat) : Int))) then (elAt x165.p x165.n x171 1 fun a172 => ∃ x173 : Int, w168.cell? a172 = some (.int .i64 x173) ∧
    Calls P fn_lang_field_place #[(.int .i64 x173), (.pointer (some p1))] w168 fun e175 w174 => ∃ x176 : Option Addr, e175 = .returned (.pointer x176) ∧ NN x176 fun a177 => ∃ x178 :
    Int, w174.cell? a177 = some (.int .i64 x178) ∧ Calls P fn_lang_field_show #[(.int .i64 x173), (.int .i64 x178)] w174 fun e180 w179 => (∃ x182 : ByteArray, e180 = .returned
    (.string x182) ∧ Al (.cells #[(.string x182)] 9) (fun p183 w184 => ∃ x186 : Sl, ∃ w185 : World, Sem.run P (Builtin.append_ #[32, 32] 32 #[(.slice words170.p words170.n
    words170.c), (.slice (some p183) 1 1)]) w184 = .ok (.slice x186.p x186.n x186.c) w185 ∧ Calls P fn_lang_field_place #[(.int .i64 x173), (.pointer (some p159))] w185 fun e188
    w187 => ∃ x189 : Option Addr, e188 = .returned (.pointer x189) ∧ NN x189 fun a190 => St a190 (.int .i64 0) (fun w191 => (I166 x186 (IntKind.i64.wrap (x171 + 1)) w191 ∧ M167 x186
    (IntKind.i64.wrap (x171 + 1)) w191 < M167 words170 x171 w168)) w187) w179) ∨ (∃ ch181, e180 = .panicked ch181 ∧ Kp ch181 w179)) else (∃ x192 : Int, w168.cell? (p159.add 0) =
    some (.int .i64 x192) ∧ ∃ x193 : Int, w168.cell? (p159.add 1) = some (.int .i64 x193) ∧ ∃ x194 : Int, w168.cell? (p159.add 2) = some (.int .i64 x194) ∧ ∃ x195 : Int, w168.cell?
    (p159.add 3) = some (.int .i64 x195) ∧ ∃ x196 : Int, w168.cell? (p159.add 4) = some (.int .i64 x196) ∧ ∃ x197 : Int, w168.cell? (p1.add 0) = some (.int .i64 x197) ∧ ∃ q198 :
    Bool, EqV P .eql 25 (.agg #[(.int .i64 x192), (.int .i64 x193), (.int .i64 x194), (.int .i64 x195), (.int .i64 x196)]) (.agg #[(.int .i64 x197), (.int .i64 0), (.int .i64 0),
    (.int .i64 0), (.int .i64 0)]) q198 ∧ Calls P fn_lang_must #[(.bool q198)] w168 fun e200 w199 => (e200 = .returned (.tuple #[]) ∧ ∃ x202 : Int, w199.cell? (p1.add 0) = some
    (.int .i64 x202) ∧ ∃ x203 : Int, w199.cell? (p1.add 1) = some (.int .i64 x203) ∧ ∃ x204 : Int, w199.cell? (p1.add 2) = some (.int .i64 x204) ∧ ∃ x205 : Int, w199.cell? (p1.add
    3) = some (.int .i64 x205) ∧ ∃ x206 : Int, w199.cell? (p1.add 4) = some (.int .i64 x206) ∧ Calls P fn_lang_right #[(.agg #[(.int .i64 x202), (.int .i64 x203), (.int .i64 x204),
    (.int .i64 x205), (.int .i64 x206)])] w199 fun e208 w207 => (e208 = .returned (.tuple #[]) ∧ Calls P fn_strings_Join #[(.slice words170.p words170.n words170.c), (.string
    (ByteArray.mk #[32]))] w207 fun e211 w210 => ∃ x212 : ByteArray, e211 = .returned (.string x212) ∧ K (.string x212) w210) ∨ (∃ ch209, e208 = .panicked ch209 ∧ Kp ch209 w207)) ∨
    (∃ ch201, e200 = .panicked ch201 ∧ Kp ch201 w199))) w161) w160) w153) w149) ∧ True) ∧ True) ∧ True) w15) ∧ True)) ∧ ((Al (.cells #[(.string (ByteArray.mk #[])), (.slice none 0
    0)] 58) (fun p213 w214 => (∃ x215 : Int, w214.cell? (p1.add 0) = some (.int .i64 x215) ∧ (elAt x17.p x17.n x215 2 fun a216 => (∃ x217 : ByteArray, w214.cell? (a216.add 0) = some
    (.string x217) ∧ ∃ x218 : Sl, w214.cell? (a216.add 1) = some (.slice x218.p x218.n x218.c) ∧ (StN [(.string x217), (.slice x218.p x218.n x218.c)] p213 (fun w219 => ∃ x220 : Int,
    w219.cell? (p1.add 0) = some (.int .i64 x220) ∧ ∃ x221 : Int, w219.cell? (p1.add 1) = some (.int .i64 x221) ∧ ∃ x222 : Int, w219.cell? (p1.add 2) = some (.int .i64 x222) ∧ ∃
    x223 : Int, w219.cell? (p1.add 3) = some (.int .i64 x223) ∧ ∃ x224 : Int, w219.cell? (p1.add 4) = some (.int .i64 x224) ∧ Al (.cells #[(.int .i64 0), (.int .i64 0), (.int .i64
    0), (.int .i64 0), (.int .i64 0)] 25) (fun p225 w226 => StN [(.int .i64 x220), (.int .i64 x221), (.int .i64 x222), (.int .i64 x223), (.int .i64 x224)] p225 (fun w227 => ∃ x228 :
    ByteArray, w227.cell? (p213.add 0) = some (.string x228) ∧ Al (.cells #[(.string x228)] 9) (fun p229 w230 => ∃ x231 : Sl, w230.cell? (p213.add 1) = some (.slice x231.p x231.n
    x231.c) ∧ ∃ (I232 : Sl → Int → World → Prop) (M233 : Sl → Int → World → Nat), I232 ⟨(some p229), 1, 1⟩ 0 w230 ∧ ∀ _u235 : Nat → Value, ∀ words236 : Sl, ∀ x237 : Int, ∀ w234 :
    World, I232 words236 x237 w234 → bif (decide (x237 < ((x231.n : Nat) : Int))) then (elAt x231.p x231.n x237 1 fun a238 => ∃ x239 : Int, w234.cell? a238 = some (.int .i64 x239) ∧
    Calls P fn_lang_field_place #[(.int .i64 x239), (.pointer (some p1))] w234 fun e241 w240 => ∃ x242 : Option Addr, e241 = .returned (.pointer x242) ∧ NN x242 fun a243 => ∃ x244 :
    Int, w240.cell? a243 = some (.int .i64 x244) ∧ Calls P fn_lang_field_show #[(.int .i64 x239), (.int .i64 x244)] w240 fun e246 w245 => (∃ x248 : ByteArray, e246 = .returned
    (.string x248) ∧ Al (.cells #[(.string x248)] 9) (fun p249 w250 => ∃ x252 : Sl, ∃ w251 : World, Sem.run P (Builtin.append_ #[32, 32] 32 #[(.slice words236.p words236.n
    words236.c), (.slice (some p249) 1 1)]) w250 = .ok (.slice x252.p x252.n x252.c) w251 ∧ Calls P fn_lang_field_place #[(.int .i64 x239), (.pointer (some p225))] w251 fun e254
    w253 => ∃ x255 : Option Addr, e254 = .returned (.pointer x255) ∧ NN x255 fun a256 => St a256 (.int .i64 0) (fun w257 => (I232 x252 (IntKind.i64.wrap (x237 + 1)) w257 ∧ M233 x252
    (IntKind.i64.wrap (x237 + 1)) w257 < M233 words236 x237 w234)) w253) w245) ∨ (∃ ch247, e246 = .panicked ch247 ∧ Kp ch247 w245)) else (∃ x258 : Int, w234.cell? (p225.add 0) =
    some (.int .i64 x258) ∧ ∃ x259 : Int, w234.cell? (p225.add 1) = some (.int .i64 x259) ∧ ∃ x260 : Int, w234.cell? (p225.add 2) = some (.int .i64 x260) ∧ ∃ x261 : Int, w234.cell?
    (p225.add 3) = some (.int .i64 x261) ∧ ∃ x262 : Int, w234.cell? (p225.add 4) = some (.int .i64 x262) ∧ ∃ x263 : Int, w234.cell? (p1.add 0) = some (.int .i64 x263) ∧ ∃ q264 :
    Bool, EqV P .eql 25 (.agg #[(.int .i64 x258), (.int .i64 x259), (.int .i64 x260), (.int .i64 x261), (.int .i64 x262)]) (.agg #[(.int .i64 x263), (.int .i64 0), (.int .i64 0),
    (.int .i64 0), (.int .i64 0)]) q264 ∧ Calls P fn_lang_must #[(.bool q264)] w234 fun e266 w265 => (e266 = .returned (.tuple #[]) ∧ ∃ x268 : Int, w265.cell? (p1.add 0) = some
    (.int .i64 x268) ∧ ∃ x269 : Int, w265.cell? (p1.add 1) = some (.int .i64 x269) ∧ ∃ x270 : Int, w265.cell? (p1.add 2) = some (.int .i64 x270) ∧ ∃ x271 : Int, w265.cell? (p1.add
    3) = some (.int .i64 x271) ∧ ∃ x272 : Int, w265.cell? (p1.add 4) = some (.int .i64 x272) ∧ Calls P fn_lang_right #[(.agg #[(.int .i64 x268), (.int .i64 x269), (.int .i64 x270),
    (.int .i64 x271), (.int .i64 x272)])] w265 fun e274 w273 => (e274 = .returned (.tuple #[]) ∧ Calls P fn_strings_Join #[(.slice words236.p words236.n words236.c), (.string
    (ByteArray.mk #[32]))] w273 fun e277 w276 => ∃ x278 : ByteArray, e277 = .returned (.string x278) ∧ K (.string x278) w276) ∨ (∃ ch275, e274 = .panicked ch275 ∧ Kp ch275 w273)) ∨
    (∃ ch267, e266 = .panicked ch267 ∧ Kp ch267 w265))) w227) w226) w219) w214) ∧ True) ∧ True) ∧ True) ∧ True) w15) ∧ True)) ∧ ((Al (.cells #[(.string (ByteArray.mk #[])), (.slice
    none 0 0)] 58) (fun p279 w280 => ((∃ x281 : Int, w280.cell? (p1.add 0) = some (.int .i64 x281) ∧ (elAt x17.p x17.n x281 2 fun a282 => (∃ x283 : ByteArray, w280.cell? (a282.add
    0) = some (.string x283) ∧ ∃ x284 : Sl, w280.cell? (a282.add 1) = some (.slice x284.p x284.n x284.c) ∧ (StN [(.string x283), (.slice x284.p x284.n x284.c)] p279 (fun w285 => ∃
    x286 : Int, w285.cell? (p1.add 0) = some (.int .i64 x286) ∧ ∃ x287 : Int, w285.cell? (p1.add 1) = some (.int .i64 x287) ∧ ∃ x288 : Int, w285.cell? (p1.add 2) = some (.int .i64
    x288) ∧ ∃ x289 : Int, w285.cell? (p1.add 3) = some (.int .i64 x289) ∧ ∃ x290 : Int, w285.cell? (p1.add 4) = some (.int .i64 x290) ∧ Al (.cells #[(.int .i64 0), (.int .i64 0),
    (.int .i64 0), (.int .i64 0), (.int .i64 0)] 25) (fun p291 w292 => StN [(.int .i64 x286), (.int .i64 x287), (.int .i64 x288), (.int .i64 x289), (.int .i64 x290)] p291 (fun w293
    => ∃ x294 : ByteArray, w293.cell? (p279.add 0) = some (.string x294) ∧ Al (.cells #[(.string x294)] 9) (fun p295 w296 => ∃ x297 : Sl, w296.cell? (p279.add 1) = some (.slice
    x297.p x297.n x297.c) ∧ ∃ (I298 : Sl → Int → World → Prop) (M299 : Sl → Int → World → Nat), I298 ⟨(some p295), 1, 1⟩ 0 w296 ∧ ∀ _u301 : Nat → Value, ∀ words302 : Sl, ∀ x303 :
    Int, ∀ w300 : World, I298 words302 x303 w300 → bif (decide (x303 < ((x297.n : Nat) : Int))) then (elAt x297.p x297.n x303 1 fun a304 => ∃ x305 : Int, w300.cell? a304 = some
    (.int .i64 x305) ∧ Calls P fn_lang_field_place #[(.int .i64 x305), (.pointer (some p1))] w300 fun e307 w306 => ∃ x308 : Option Addr, e307 = .returned (.pointer x308) ∧ NN x308
    fun a309 => ∃ x310 : Int, w306.cell? a309 = some (.int .i64 x310) ∧ Calls P fn_lang_field_show #[(.int .i64 x305), (.int .i64 x310)] w306 fun e312 w311 => (∃ x314 : ByteArray,
    e312 = .returned (.string x314) ∧ Al (.cells #[(.string x314)] 9) (fun p315 w316 => ∃ x318 : Sl, ∃ w317 : World, Sem.run P (Builtin.append_ #[32, 32] 32 #[(.slice words302.p
    words302.n words302.c), (.slice (some p315) 1 1)]) w316 = .ok (.slice x318.p x318.n x318.c) w317 ∧ Calls P fn_lang_field_place #[(.int .i64 x305), (.pointer (some p291))] w317
    fun e320 w319 => ∃ x321 : Option Addr, e320 = .returned (.pointer x321) ∧ NN x321 fun a322 => St a322 (.int .i64 0) (fun w323 => (I298 x318 (IntKind.i64.wrap (x303 + 1)) w323 ∧
    M299 x318 (IntKind.i64.wrap (x303 + 1)) w323 < M299 words302 x303 w300)) w319) w311) ∨ (∃ ch313, e312 = .panicked ch313 ∧ Kp ch313 w311)) else (∃ x324 : Int, w300.cell?
    (p291.add 0) = some (.int .i64 x324) ∧ ∃ x325 : Int, w300.cell? (p291.add 1) = some (.int .i64 x325) ∧ ∃ x326 : Int, w300.cell? (p291.add 2) = some (.int .i64 x326) ∧ ∃ x327 :
    Int, w300.cell? (p291.add 3) = some (.int .i64 x327) ∧ ∃ x328 : Int, w300.cell? (p291.add 4) = some (.int .i64 x328) ∧ ∃ x329 : Int, w300.cell? (p1.add 0) = some (.int .i64
    x329) ∧ ∃ q330 : Bool, EqV P .eql 25 (.agg #[(.int .i64 x324), (.int .i64 x325), (.int .i64 x326), (.int .i64 x327), (.int .i64 x328)]) (.agg #[(.int .i64 x329), (.int .i64 0),
    (.int .i64 0), (.int .i64 0), (.int .i64 0)]) q330 ∧ Calls P fn_lang_must #[(.bool q330)] w300 fun e332 w331 => (e332 = .returned (.tuple #[]) ∧ ∃ x334 : Int, w331.cell? (p1.add
    0) = some (.int .i64 x334) ∧ ∃ x335 : Int, w331.cell? (p1.add 1) = some (.int .i64 x335) ∧ ∃ x336 : Int, w331.cell? (p1.add 2) = some (.int .i64 x336) ∧ ∃ x337 : Int, w331.cell?
    (p1.add 3) = some (.int .i64 x337) ∧ ∃ x338 : Int, w331.cell? (p1.add 4) = some (.int .i64 x338) ∧ Calls P fn_lang_right #[(.agg #[(.int .i64 x334), (.int .i64 x335), (.int .i64
    x336), (.int .i64 x337), (.int .i64 x338)])] w331 fun e340 w339 => (e340 = .returned (.tuple #[]) ∧ Calls P fn_strings_Join #[(.slice words302.p words302.n words302.c), (.string
    (ByteArray.mk #[32]))] w339 fun e343 w342 => ∃ x344 : ByteArray, e343 = .returned (.string x344) ∧ K (.string x344) w342) ∨ (∃ ch341, e340 = .panicked ch341 ∧ Kp ch341 w339)) ∨
    (∃ ch333, e332 = .panicked ch333 ∧ Kp ch333 w331))) w293) w292) w285) w280) ∧ True) ∧ True) ∧ True) ∧ True) ∧ True) w15) ∧ True)) ∧ (((Calls P fn_lang_forms #[] w14 fun e346
    w345 => ∃ x347 : Sl, e346 = .returned (.slice x347.p x347.n x347.c) ∧ (∃ x348 : Int, w345.cell? (p1.add 0) = some (.int .i64 x348) ∧ (elAt x347.p x347.n x348 2 fun a349 => (∃
    x350 : ByteArray, w345.cell? (a349.add 0) = some (.string x350) ∧ ∃ x351 : Sl, w345.cell? (a349.add 1) = some (.slice x351.p x351.n x351.c) ∧ (Al (.cells #[(.string
    (ByteArray.mk #[])), (.slice none 0 0)] 58) (fun p352 w353 => (StN [(.string x350), (.slice x351.p x351.n x351.c)] p352 (fun w354 => ∃ x355 : Int, w354.cell? (p1.add 0) = some
    (.int .i64 x355) ∧ ∃ x356 : Int, w354.cell? (p1.add 1) = some (.int .i64 x356) ∧ ∃ x357 : Int, w354.cell? (p1.add 2) = some (.int .i64 x357) ∧ ∃ x358 : Int, w354.cell? (p1.add
    3) = some (.int .i64 x358) ∧ ∃ x359 : Int, w354.cell? (p1.add 4) = some (.int .i64 x359) ∧ Al (.cells #[(.int .i64 0), (.int .i64 0), (.int .i64 0), (.int .i64 0), (.int .i64
    0)] 25) (fun p360 w361 => StN [(.int .i64 x355), (.int .i64 x356), (.int .i64 x357), (.int .i64 x358), (.int .i64 x359)] p360 (fun w362 => ∃ x363 : ByteArray, w362.cell?
    (p352.add 0) = some (.string x363) ∧ Al (.cells #[(.string x363)] 9) (fun p364 w365 => ∃ x366 : Sl, w365.cell? (p352.add 1) = some (.slice x366.p x366.n x366.c) ∧ ∃ (I367 : Sl →
    Int → World → Prop) (M368 : Sl → Int → World → Nat), I367 ⟨(some p364), 1, 1⟩ 0 w365 ∧ ∀ _u370 : Nat → Value, ∀ words371 : Sl, ∀ x372 : Int, ∀ w369 : World, I367 words371 x372
    w369 → bif (decide (x372 < ((x366.n : Nat) : Int))) then (elAt x366.p x366.n x372 1 fun a373 => ∃ x374 : Int, w369.cell? a373 = some (.int .i64 x374) ∧ Calls P
    fn_lang_field_place #[(.int .i64 x374), (.pointer (some p1))] w369 fun e376 w375 => ∃ x377 : Option Addr, e376 = .returned (.pointer x377) ∧ NN x377 fun a378 => ∃ x379 : Int,
    w375.cell? a378 = some (.int .i64 x379) ∧ Calls P fn_lang_field_show #[(.int .i64 x374), (.int .i64 x379)] w375 fun e381 w380 => (∃ x383 : ByteArray, e381 = .returned (.string
    x383) ∧ Al (.cells #[(.string x383)] 9) (fun p384 w385 => ∃ x387 : Sl, ∃ w386 : World, Sem.run P (Builtin.append_ #[32, 32] 32 #[(.slice words371.p words371.n words371.c),
    (.slice (some p384) 1 1)]) w385 = .ok (.slice x387.p x387.n x387.c) w386 ∧ Calls P fn_lang_field_place #[(.int .i64 x374), (.pointer (some p360))] w386 fun e389 w388 => ∃ x390 :
    Option Addr, e389 = .returned (.pointer x390) ∧ NN x390 fun a391 => St a391 (.int .i64 0) (fun w392 => (I367 x387 (IntKind.i64.wrap (x372 + 1)) w392 ∧ M368 x387
    (IntKind.i64.wrap (x372 + 1)) w392 < M368 words371 x372 w369)) w388) w380) ∨ (∃ ch382, e381 = .panicked ch382 ∧ Kp ch382 w380)) else (∃ x393 : Int, w369.cell? (p360.add 0) =
    some (.int .i64 x393) ∧ ∃ x394 : Int, w369.cell? (p360.add 1) = some (.int .i64 x394) ∧ ∃ x395 : Int, w369.cell? (p360.add 2) = some (.int .i64 x395) ∧ ∃ x396 : Int, w369.cell?
    (p360.add 3) = some (.int .i64 x396) ∧ ∃ x397 : Int, w369.cell? (p360.add 4) = some (.int .i64 x397) ∧ ∃ x398 : Int, w369.cell? (p1.add 0) = some (.int .i64 x398) ∧ ∃ q399 :
    Bool, EqV P .eql 25 (.agg #[(.int .i64 x393), (.int .i64 x394), (.int .i64 x395), (.int .i64 x396), (.int .i64 x397)]) (.agg #[(.int .i64 x398), (.int .i64 0), (.int .i64 0),
    (.int .i64 0), (.int .i64 0)]) q399 ∧ Calls P fn_lang_must #[(.bool q399)] w369 fun e401 w400 => (e401 = .returned (.tuple #[]) ∧ ∃ x403 : Int, w400.cell? (p1.add 0) = some
    (.int .i64 x403) ∧ ∃ x404 : Int, w400.cell? (p1.add 1) = some (.int .i64 x404) ∧ ∃ x405 : Int, w400.cell? (p1.add 2) = some (.int .i64 x405) ∧ ∃ x406 : Int, w400.cell? (p1.add
    3) = some (.int .i64 x406) ∧ ∃ x407 : Int, w400.cell? (p1.add 4) = some (.int .i64 x407) ∧ Calls P fn_lang_right #[(.agg #[(.int .i64 x403), (.int .i64 x404), (.int .i64 x405),
    (.int .i64 x406), (.int .i64 x407)])] w400 fun e409 w408 => (e409 = .returned (.tuple #[]) ∧ Calls P fn_strings_Join #[(.slice words371.p words371.n words371.c), (.string
    (ByteArray.mk #[32]))] w408 fun e412 w411 => ∃ x413 : ByteArray, e412 = .returned (.string x413) ∧ K (.string x413) w411) ∨ (∃ ch410, e409 = .panicked ch410 ∧ Kp ch410 w408)) ∨
    (∃ ch402, e401 = .panicked ch402 ∧ Kp ch402 w400))) w362) w361) w354) w353) ∧ True) w345) ∧ True) ∧ ((Al (.cells #[(.string (ByteArray.mk #[])), (.slice none 0 0)] 58) (fun p414
    w415 => (∃ x416 : ByteArray, w415.cell? (a349.add 0) = some (.string x416) ∧ ∃ x417 : Sl, w415.cell? (a349.add 1) = some (.slice x417.p x417.n x417.c) ∧ (StN [(.string x416),
    (.slice x417.p x417.n x417.c)] p414 (fun w418 => ∃ x419 : Int, w418.cell? (p1.add 0) = some (.int .i64 x419) ∧ ∃ x420 : Int, w418.cell? (p1.add 1) = some (.int .i64 x420) ∧ ∃
    x421 : Int, w418.cell? (p1.add 2) = some (.int .i64 x421) ∧ ∃ x422 : Int, w418.cell? (p1.add 3) = some (.int .i64 x422) ∧ ∃ x423 : Int, w418.cell? (p1.add 4) = some (.int .i64
    x423) ∧ Al (.cells #[(.int .i64 0), (.int .i64 0), (.int .i64 0), (.int .i64 0), (.int .i64 0)] 25) (fun p424 w425 => StN [(.int .i64 x419), (.int .i64 x420), (.int .i64 x421),
    (.int .i64 x422), (.int .i64 x423)] p424 (fun w426 => ∃ x427 : ByteArray, w426.cell? (p414.add 0) = some (.string x427) ∧ Al (.cells #[(.string x427)] 9) (fun p428 w429 => ∃
    x430 : Sl, w429.cell? (p414.add 1) = some (.slice x430.p x430.n x430.c) ∧ ∃ (I431 : Sl → Int → World → Prop) (M432 : Sl → Int → World → Nat), I431 ⟨(some p428), 1, 1⟩ 0 w429 ∧ ∀
    _u434 : Nat → Value, ∀ words435 : Sl, ∀ x436 : Int, ∀ w433 : World, I431 words435 x436 w433 → bif (decide (x436 < ((x430.n : Nat) : Int))) then (elAt x430.p x430.n x436 1 fun
    a437 => ∃ x438 : Int, w433.cell? a437 = some (.int .i64 x438) ∧ Calls P fn_lang_field_place #[(.int .i64 x438), (.pointer (some p1))] w433 fun e440 w439 => ∃ x441 : Option Addr,
    e440 = .returned (.pointer x441) ∧ NN x441 fun a442 => ∃ x443 : Int, w439.cell? a442 = some (.int .i64 x443) ∧ Calls P fn_lang_field_show #[(.int .i64 x438), (.int .i64 x443)]
    w439 fun e445 w444 => (∃ x447 : ByteArray, e445 = .returned (.string x447) ∧ Al (.cells #[(.string x447)] 9) (fun p448 w449 => ∃ x451 : Sl, ∃ w450 : World, Sem.run P
    (Builtin.append_ #[32, 32] 32 #[(.slice words435.p words435.n words435.c), (.slice (some p448) 1 1)]) w449 = .ok (.slice x451.p x451.n x451.c) w450 ∧ Calls P fn_lang_field_place
    #[(.int .i64 x438), (.pointer (some p424))] w450 fun e453 w452 => ∃ x454 : Option Addr, e453 = .returned (.pointer x454) ∧ NN x454 fun a455 => St a455 (.int .i64 0) (fun w456 =>
    (I431 x451 (IntKind.i64.wrap (x436 + 1)) w456 ∧ M432 x451 (IntKind.i64.wrap (x436 + 1)) w456 < M432 words435 x436 w433)) w452) w444) ∨ (∃ ch446, e445 = .panicked ch446 ∧ Kp
    ch446 w444)) else (∃ x457 : Int, w433.cell? (p424.add 0) = some (.int .i64 x457) ∧ ∃ x458 : Int, w433.cell? (p424.add 1) = some (.int .i64 x458) ∧ ∃ x459 : Int, w433.cell?
    (p424.add 2) = some (.int .i64 x459) ∧ ∃ x460 : Int, w433.cell? (p424.add 3) = some (.int .i64 x460) ∧ ∃ x461 : Int, w433.cell? (p424.add 4) = some (.int .i64 x461) ∧ ∃ x462 :
    Int, w433.cell? (p1.add 0) = some (.int .i64 x462) ∧ ∃ q463 : Bool, EqV P .eql 25 (.agg #[(.int .i64 x457), (.int .i64 x458), (.int .i64 x459), (.int .i64 x460), (.int .i64
    x461)]) (.agg #[(.int .i64 x462), (.int .i64 0), (.int .i64 0), (.int .i64 0), (.int .i64 0)]) q463 ∧ Calls P fn_lang_must #[(.bool q463)] w433 fun e465 w464 => (e465 =
    .returned (.tuple #[]) ∧ ∃ x467 : Int, w464.cell? (p1.add 0) = some (.int .i64 x467) ∧ ∃ x468 : Int, w464.cell? (p1.add 1) = some (.int .i64 x468) ∧ ∃ x469 : Int, w464.cell?
    (p1.add 2) = some (.int .i64 x469) ∧ ∃ x470 : Int, w464.cell? (p1.add 3) = some (.int .i64 x470) ∧ ∃ x471 : Int, w464.cell? (p1.add 4) = some (.int .i64 x471) ∧ Calls P
    fn_lang_right #[(.agg #[(.int .i64 x467), (.int .i64 x468), (.int .i64 x469), (.int .i64 x470), (.int .i64 x471)])] w464 fun e473 w472 => (e473 = .returned (.tuple #[]) ∧ Calls
    P fn_strings_Join #[(.slice words435.p words435.n words435.c), (.string (ByteArray.mk #[32]))] w472 fun e476 w475 => ∃ x477 : ByteArray, e476 = .returned (.string x477) ∧ K
    (.string x477) w475) ∨ (∃ ch474, e473 = .panicked ch474 ∧ Kp ch474 w472)) ∨ (∃ ch466, e465 = .panicked ch466 ∧ Kp ch466 w464))) w426) w425) w418) w415) ∧ True) ∧ True) w345) ∧
    True)) ∧ ((Al (.cells #[(.string (ByteArray.mk #[])), (.slice none 0 0)] 58) (fun p478 w479 => (elAt x347.p x347.n x348 2 fun a480 => (∃ x481 : ByteArray, w479.cell? (a480.add
    0) = some (.string x481) ∧ ∃ x482 : Sl, w479.cell? (a480.add 1) = some (.slice x482.p x482.n x482.c) ∧ (StN [(.string x481), (.slice x482.p x482.n x482.c)] p478 (fun w483 => ∃
    x484 : Int, w483.cell? (p1.add 0) = some (.int .i64 x484) ∧ ∃ x485 : Int, w483.cell? (p1.add 1) = some (.int .i64 x485) ∧ ∃ x486 : Int, w483.cell? (p1.add 2) = some (.int .i64
    x486) ∧ ∃ x487 : Int, w483.cell? (p1.add 3) = some (.int .i64 x487) ∧ ∃ x488 : Int, w483.cell? (p1.add 4) = some (.int .i64 x488) ∧ Al (.cells #[(.int .i64 0), (.int .i64 0),
    (.int .i64 0), (.int .i64 0), (.int .i64 0)] 25) (fun p489 w490 => StN [(.int .i64 x484), (.int .i64 x485), (.int .i64 x486), (.int .i64 x487), (.int .i64 x488)] p489 (fun w491
    => ∃ x492 : ByteArray, w491.cell? (p478.add 0) = some (.string x492) ∧ Al (.cells #[(.string x492)] 9) (fun p493 w494 => ∃ x495 : Sl, w494.cell? (p478.add 1) = some (.slice
    x495.p x495.n x495.c) ∧ ∃ (I496 : Sl → Int → World → Prop) (M497 : Sl → Int → World → Nat), I496 ⟨(some p493), 1, 1⟩ 0 w494 ∧ ∀ _u499 : Nat → Value, ∀ words500 : Sl, ∀ x501 :
    Int, ∀ w498 : World, I496 words500 x501 w498 → bif (decide (x501 < ((x495.n : Nat) : Int))) then (elAt x495.p x495.n x501 1 fun a502 => ∃ x503 : Int, w498.cell? a502 = some
    (.int .i64 x503) ∧ Calls P fn_lang_field_place #[(.int .i64 x503), (.pointer (some p1))] w498 fun e505 w504 => ∃ x506 : Option Addr, e505 = .returned (.pointer x506) ∧ NN x506
    fun a507 => ∃ x508 : Int, w504.cell? a507 = some (.int .i64 x508) ∧ Calls P fn_lang_field_show #[(.int .i64 x503), (.int .i64 x508)] w504 fun e510 w509 => (∃ x512 : ByteArray,
    e510 = .returned (.string x512) ∧ Al (.cells #[(.string x512)] 9) (fun p513 w514 => ∃ x516 : Sl, ∃ w515 : World, Sem.run P (Builtin.append_ #[32, 32] 32 #[(.slice words500.p
    words500.n words500.c), (.slice (some p513) 1 1)]) w514 = .ok (.slice x516.p x516.n x516.c) w515 ∧ Calls P fn_lang_field_place #[(.int .i64 x503), (.pointer (some p489))] w515
    fun e518 w517 => ∃ x519 : Option Addr, e518 = .returned (.pointer x519) ∧ NN x519 fun a520 => St a520 (.int .i64 0) (fun w521 => (I496 x516 (IntKind.i64.wrap (x501 + 1)) w521 ∧
    M497 x516 (IntKind.i64.wrap (x501 + 1)) w521 < M497 words500 x501 w498)) w517) w509) ∨ (∃ ch511, e510 = .panicked ch511 ∧ Kp ch511 w509)) else (∃ x522 : Int, w498.cell?
    (p489.add 0) = some (.int .i64 x522) ∧ ∃ x523 : Int, w498.cell? (p489.add 1) = some (.int .i64 x523) ∧ ∃ x524 : Int, w498.cell? (p489.add 2) = some (.int .i64 x524) ∧ ∃ x525 :
    Int, w498.cell? (p489.add 3) = some (.int .i64 x525) ∧ ∃ x526 : Int, w498.cell? (p489.add 4) = some (.int .i64 x526) ∧ ∃ x527 : Int, w498.cell? (p1.add 0) = some (.int .i64
    x527) ∧ ∃ q528 : Bool, EqV P .eql 25 (.agg #[(.int .i64 x522), (.int .i64 x523), (.int .i64 x524), (.int .i64 x525), (.int .i64 x526)]) (.agg #[(.int .i64 x527), (.int .i64 0),
    (.int .i64 0), (.int .i64 0), (.int .i64 0)]) q528 ∧ Calls P fn_lang_must #[(.bool q528)] w498 fun e530 w529 => (e530 = .returned (.tuple #[]) ∧ ∃ x532 : Int, w529.cell? (p1.add
    0) = some (.int .i64 x532) ∧ ∃ x533 : Int, w529.cell? (p1.add 1) = some (.int .i64 x533) ∧ ∃ x534 : Int, w529.cell? (p1.add 2) = some (.int .i64 x534) ∧ ∃ x535 : Int, w529.cell?
    (p1.add 3) = some (.int .i64 x535) ∧ ∃ x536 : Int, w529.cell? (p1.add 4) = some (.int .i64 x536) ∧ Calls P fn_lang_right #[(.agg #[(.int .i64 x532), (.int .i64 x533), (.int .i64
    x534), (.int .i64 x535), (.int .i64 x536)])] w529 fun e538 w537 => (e538 = .returned (.tuple #[]) ∧ Calls P fn_strings_Join #[(.slice words500.p words500.n words500.c), (.string
    (ByteArray.mk #[32]))] w537 fun e541 w540 => ∃ x542 : ByteArray, e541 = .returned (.string x542) ∧ K (.string x542) w540) ∨ (∃ ch539, e538 = .panicked ch539 ∧ Kp ch539 w537)) ∨
    (∃ ch531, e530 = .panicked ch531 ∧ Kp ch531 w529))) w491) w490) w483) w479) ∧ True) ∧ True) ∧ True) w345) ∧ True)) ∧ ((Al (.cells #[(.string (ByteArray.mk #[])), (.slice none 0
    0)] 58) (fun p543 w544 => (∃ x545 : Int, w544.cell? (p1.add 0) = some (.int .i64 x545) ∧ (elAt x347.p x347.n x545 2 fun a546 => (∃ x547 : ByteArray, w544.cell? (a546.add 0) =
    some (.string x547) ∧ ∃ x548 : Sl, w544.cell? (a546.add 1) = some (.slice x548.p x548.n x548.c) ∧ (StN [(.string x547), (.slice x548.p x548.n x548.c)] p543 (fun w549 => ∃ x550 :
    Int, w549.cell? (p1.add 0) = some (.int .i64 x550) ∧ ∃ x551 : Int, w549.cell? (p1.add 1) = some (.int .i64 x551) ∧ ∃ x552 : Int, w549.cell? (p1.add 2) = some (.int .i64 x552) ∧
    ∃ x553 : Int, w549.cell? (p1.add 3) = some (.int .i64 x553) ∧ ∃ x554 : Int, w549.cell? (p1.add 4) = some (.int .i64 x554) ∧ Al (.cells #[(.int .i64 0), (.int .i64 0), (.int .i64
    0), (.int .i64 0), (.int .i64 0)] 25) (fun p555 w556 => StN [(.int .i64 x550), (.int .i64 x551), (.int .i64 x552), (.int .i64 x553), (.int .i64 x554)] p555 (fun w557 => ∃ x558 :
    ByteArray, w557.cell? (p543.add 0) = some (.string x558) ∧ Al (.cells #[(.string x558)] 9) (fun p559 w560 => ∃ x561 : Sl, w560.cell? (p543.add 1) = some (.slice x561.p x561.n
    x561.c) ∧ ∃ (I562 : Sl → Int → World → Prop) (M563 : Sl → Int → World → Nat), I562 ⟨(some p559), 1, 1⟩ 0 w560 ∧ ∀ _u565 : Nat → Value, ∀ words566 : Sl, ∀ x567 : Int, ∀ w564 :
    World, I562 words566 x567 w564 → bif (decide (x567 < ((x561.n : Nat) : Int))) then (elAt x561.p x561.n x567 1 fun a568 => ∃ x569 : Int, w564.cell? a568 = some (.int .i64 x569) ∧
    Calls P fn_lang_field_place #[(.int .i64 x569), (.pointer (some p1))] w564 fun e571 w570 => ∃ x572 : Option Addr, e571 = .returned (.pointer x572) ∧ NN x572 fun a573 => ∃ x574 :
    Int, w570.cell? a573 = some (.int .i64 x574) ∧ Calls P fn_lang_field_show #[(.int .i64 x569), (.int .i64 x574)] w570 fun e576 w575 => (∃ x578 : ByteArray, e576 = .returned
    (.string x578) ∧ Al (.cells #[(.string x578)] 9) (fun p579 w580 => ∃ x582 : Sl, ∃ w581 : World, Sem.run P (Builtin.append_ #[32, 32] 32 #[(.slice words566.p words566.n
    words566.c), (.slice (some p579) 1 1)]) w580 = .ok (.slice x582.p x582.n x582.c) w581 ∧ Calls P fn_lang_field_place #[(.int .i64 x569), (.pointer (some p555))] w581 fun e584
    w583 => ∃ x585 : Option Addr, e584 = .returned (.pointer x585) ∧ NN x585 fun a586 => St a586 (.int .i64 0) (fun w587 => (I562 x582 (IntKind.i64.wrap (x567 + 1)) w587 ∧ M563 x582
    (IntKind.i64.wrap (x567 + 1)) w587 < M563 words566 x567 w564)) w583) w575) ∨ (∃ ch577, e576 = .panicked ch577 ∧ Kp ch577 w575)) else (∃ x588 : Int, w564.cell? (p555.add 0) =
    some (.int .i64 x588) ∧ ∃ x589 : Int, w564.cell? (p555.add 1) = some (.int .i64 x589) ∧ ∃ x590 : Int, w564.cell? (p555.add 2) = some (.int .i64 x590) ∧ ∃ x591 : Int, w564.cell?
    (p555.add 3) = some (.int .i64 x591) ∧ ∃ x592 : Int, w564.cell? (p555.add 4) = some (.int .i64 x592) ∧ ∃ x593 : Int, w564.cell? (p1.add 0) = some (.int .i64 x593) ∧ ∃ q594 :
    Bool, EqV P .eql 25 (.agg #[(.int .i64 x588), (.int .i64 x589), (.int .i64 x590), (.int .i64 x591), (.int .i64 x592)]) (.agg #[(.int .i64 x593), (.int .i64 0), (.int .i64 0),
    (.int .i64 0), (.int .i64 0)]) q594 ∧ Calls P fn_lang_must #[(.bool q594)] w564 fun e596 w595 => (e596 = .returned (.tuple #[]) ∧ ∃ x598 : Int, w595.cell? (p1.add 0) = some
    (.int .i64 x598) ∧ ∃ x599 : Int, w595.cell? (p1.add 1) = some (.int .i64 x599) ∧ ∃ x600 : Int, w595.cell? (p1.add 2) = some (.int .i64 x600) ∧ ∃ x601 : Int, w595.cell? (p1.add
    3) = some (.int .i64 x601) ∧ ∃ x602 : Int, w595.cell? (p1.add 4) = some (.int .i64 x602) ∧ Calls P fn_lang_right #[(.agg #[(.int .i64 x598), (.int .i64 x599), (.int .i64 x600),
    (.int .i64 x601), (.int .i64 x602)])] w595 fun e604 w603 => (e604 = .returned (.tuple #[]) ∧ Calls P fn_strings_Join #[(.slice words566.p words566.n words566.c), (.string
    (ByteArray.mk #[32]))] w603 fun e607 w606 => ∃ x608 : ByteArray, e607 = .returned (.string x608) ∧ K (.string x608) w606) ∨ (∃ ch605, e604 = .panicked ch605 ∧ Kp ch605 w603)) ∨
    (∃ ch597, e596 = .panicked ch597 ∧ Kp ch597 w595))) w557) w556) w549) w544) ∧ True) ∧ True) ∧ True) ∧ True) w345) ∧ True)) ∧ ((∃ x609 : Int, w14.cell? (p1.add 0) = some (.int
    .i64 x609) ∧ (Calls P fn_lang_forms #[] w14 fun e611 w610 => ∃ x612 : Sl, e611 = .returned (.slice x612.p x612.n x612.c) ∧ (elAt x612.p x612.n x609 2 fun a613 => (∃ x614 :
    ByteArray, w610.cell? (a613.add 0) = some (.string x614) ∧ ∃ x615 : Sl, w610.cell? (a613.add 1) = some (.slice x615.p x615.n x615.c) ∧ (Al (.cells #[(.string (ByteArray.mk
    #[])), (.slice none 0 0)] 58) (fun p616 w617 => (StN [(.string x614), (.slice x615.p x615.n x615.c)] p616 (fun w618 => ∃ x619 : Int, w618.cell? (p1.add 0) = some (.int .i64
    x619) ∧ ∃ x620 : Int, w618.cell? (p1.add 1) = some (.int .i64 x620) ∧ ∃ x621 : Int, w618.cell? (p1.add 2) = some (.int .i64 x621) ∧ ∃ x622 : Int, w618.cell? (p1.add 3) = some
    (.int .i64 x622) ∧ ∃ x623 : Int, w618.cell? (p1.add 4) = some (.int .i64 x623) ∧ Al (.cells #[(.int .i64 0), (.int .i64 0), (.int .i64 0), (.int .i64 0), (.int .i64 0)] 25) (fun
    p624 w625 => StN [(.int .i64 x619), (.int .i64 x620), (.int .i64 x621), (.int .i64 x622), (.int .i64 x623)] p624 (fun w626 => ∃ x627 : ByteArray, w626.cell? (p616.add 0) = some
    (.string x627) ∧ Al (.cells #[(.string x627)] 9) (fun p628 w629 => ∃ x630 : Sl, w629.cell? (p616.add 1) = some (.slice x630.p x630.n x630.c) ∧ ∃ (I631 : Sl → Int → World → Prop)
    (M632 : Sl → Int → World → Nat), I631 ⟨(some p628), 1, 1⟩ 0 w629 ∧ ∀ _u634 : Nat → Value, ∀ words635 : Sl, ∀ x636 : Int, ∀ w633 : World, I631 words635 x636 w633 → bif (decide
    (x636 < ((x630.n : Nat) : Int))) then (elAt x630.p x630.n x636 1 fun a637 => ∃ x638 : Int, w633.cell? a637 = some (.int .i64 x638) ∧ Calls P fn_lang_field_place #[(.int .i64
    x638), (.pointer (some p1))] w633 fun e640 w639 => ∃ x641 : Option Addr, e640 = .returned (.pointer x641) ∧ NN x641 fun a642 => ∃ x643 : Int, w639.cell? a642 = some (.int .i64
    x643) ∧ Calls P fn_lang_field_show #[(.int .i64 x638), (.int .i64 x643)] w639 fun e645 w644 => (∃ x647 : ByteArray, e645 = .returned (.string x647) ∧ Al (.cells #[(.string
    x647)] 9) (fun p648 w649 => ∃ x651 : Sl, ∃ w650 : World, Sem.run P (Builtin.append_ #[32, 32] 32 #[(.slice words635.p words635.n words635.c), (.slice (some p648) 1 1)]) w649 =
    .ok (.slice x651.p x651.n x651.c) w650 ∧ Calls P fn_lang_field_place #[(.int .i64 x638), (.pointer (some p624))] w650 fun e653 w652 => ∃ x654 : Option Addr, e653 = .returned
    (.pointer x654) ∧ NN x654 fun a655 => St a655 (.int .i64 0) (fun w656 => (I631 x651 (IntKind.i64.wrap (x636 + 1)) w656 ∧ M632 x651 (IntKind.i64.wrap (x636 + 1)) w656 < M632
    words635 x636 w633)) w652) w644) ∨ (∃ ch646, e645 = .panicked ch646 ∧ Kp ch646 w644)) else (∃ x657 : Int, w633.cell? (p624.add 0) = some (.int .i64 x657) ∧ ∃ x658 : Int,
    w633.cell? (p624.add 1) = some (.int .i64 x658) ∧ ∃ x659 : Int, w633.cell? (p624.add 2) = some (.int .i64 x659) ∧ ∃ x660 : Int, w633.cell? (p624.add 3) = some (.int .i64 x660) ∧
    ∃ x661 : Int, w633.cell? (p624.add 4) = some (.int .i64 x661) ∧ ∃ x662 : Int, w633.cell? (p1.add 0) = some (.int .i64 x662) ∧ ∃ q663 : Bool, EqV P .eql 25 (.agg #[(.int .i64
    x657), (.int .i64 x658), (.int .i64 x659), (.int .i64 x660), (.int .i64 x661)]) (.agg #[(.int .i64 x662), (.int .i64 0), (.int .i64 0), (.int .i64 0), (.int .i64 0)]) q663 ∧
    Calls P fn_lang_must #[(.bool q663)] w633 fun e665 w664 => (e665 = .returned (.tuple #[]) ∧ ∃ x667 : Int, w664.cell? (p1.add 0) = some (.int .i64 x667) ∧ ∃ x668 : Int,
    w664.cell? (p1.add 1) = some (.int .i64 x668) ∧ ∃ x669 : Int, w664.cell? (p1.add 2) = some (.int .i64 x669) ∧ ∃ x670 : Int, w664.cell? (p1.add 3) = some (.int .i64 x670) ∧ ∃
    x671 : Int, w664.cell? (p1.add 4) = some (.int .i64 x671) ∧ Calls P fn_lang_right #[(.agg #[(.int .i64 x667), (.int .i64 x668), (.int .i64 x669), (.int .i64 x670), (.int .i64
    x671)])] w664 fun e673 w672 => (e673 = .returned (.tuple #[]) ∧ Calls P fn_strings_Join #[(.slice words635.p words635.n words635.c), (.string (ByteArray.mk #[32]))] w672 fun
    e676 w675 => ∃ x677 : ByteArray, e676 = .returned (.string x677) ∧ K (.string x677) w675) ∨ (∃ ch674, e673 = .panicked ch674 ∧ Kp ch674 w672)) ∨ (∃ ch666, e665 = .panicked ch666
    ∧ Kp ch666 w664))) w626) w625) w618) w617) ∧ True) w610) ∧ True) ∧ ((Al (.cells #[(.string (ByteArray.mk #[])), (.slice none 0 0)] 58) (fun p678 w679 => (∃ x680 : ByteArray,
    w679.cell? (a613.add 0) = some (.string x680) ∧ ∃ x681 : Sl, w679.cell? (a613.add 1) = some (.slice x681.p x681.n x681.c) ∧ (StN [(.string x680), (.slice x681.p x681.n x681.c)]
    p678 (fun w682 => ∃ x683 : Int, w682.cell? (p1.add 0) = some (.int .i64 x683) ∧ ∃ x684 : Int, w682.cell? (p1.add 1) = some (.int .i64 x684) ∧ ∃ x685 : Int, w682.cell? (p1.add 2)
    = some (.int .i64 x685) ∧ ∃ x686 : Int, w682.cell? (p1.add 3) = some (.int .i64 x686) ∧ ∃ x687 : Int, w682.cell? (p1.add 4) = some (.int .i64 x687) ∧ Al (.cells #[(.int .i64 0),
    (.int .i64 0), (.int .i64 0), (.int .i64 0), (.int .i64 0)] 25) (fun p688 w689 => StN [(.int .i64 x683), (.int .i64 x684), (.int .i64 x685), (.int .i64 x686), (.int .i64 x687)]
    p688 (fun w690 => ∃ x691 : ByteArray, w690.cell? (p678.add 0) = some (.string x691) ∧ Al (.cells #[(.string x691)] 9) (fun p692 w693 => ∃ x694 : Sl, w693.cell? (p678.add 1) =
    some (.slice x694.p x694.n x694.c) ∧ ∃ (I695 : Sl → Int → World → Prop) (M696 : Sl → Int → World → Nat), I695 ⟨(some p692), 1, 1⟩ 0 w693 ∧ ∀ _u698 : Nat → Value, ∀ words699 :
    Sl, ∀ x700 : Int, ∀ w697 : World, I695 words699 x700 w697 → bif (decide (x700 < ((x694.n : Nat) : Int))) then (elAt x694.p x694.n x700 1 fun a701 => ∃ x702 : Int, w697.cell?
    a701 = some (.int .i64 x702) ∧ Calls P fn_lang_field_place #[(.int .i64 x702), (.pointer (some p1))] w697 fun e704 w703 => ∃ x705 : Option Addr, e704 = .returned (.pointer x705)
    ∧ NN x705 fun a706 => ∃ x707 : Int, w703.cell? a706 = some (.int .i64 x707) ∧ Calls P fn_lang_field_show #[(.int .i64 x702), (.int .i64 x707)] w703 fun e709 w708 => (∃ x711 :
    ByteArray, e709 = .returned (.string x711) ∧ Al (.cells #[(.string x711)] 9) (fun p712 w713 => ∃ x715 : Sl, ∃ w714 : World, Sem.run P (Builtin.append_ #[32, 32] 32 #[(.slice
    words699.p words699.n words699.c), (.slice (some p712) 1 1)]) w713 = .ok (.slice x715.p x715.n x715.c) w714 ∧ Calls P fn_lang_field_place #[(.int .i64 x702), (.pointer (some
    p688))] w714 fun e717 w716 => ∃ x718 : Option Addr, e717 = .returned (.pointer x718) ∧ NN x718 fun a719 => St a719 (.int .i64 0) (fun w720 => (I695 x715 (IntKind.i64.wrap (x700
    + 1)) w720 ∧ M696 x715 (IntKind.i64.wrap (x700 + 1)) w720 < M696 words699 x700 w697)) w716) w708) ∨ (∃ ch710, e709 = .panicked ch710 ∧ Kp ch710 w708)) else (∃ x721 : Int,
    w697.cell? (p688.add 0) = some (.int .i64 x721) ∧ ∃ x722 : Int, w697.cell? (p688.add 1) = some (.int .i64 x722) ∧ ∃ x723 : Int, w697.cell? (p688.add 2) = some (.int .i64 x723) ∧
    ∃ x724 : Int, w697.cell? (p688.add 3) = some (.int .i64 x724) ∧ ∃ x725 : Int, w697.cell? (p688.add 4) = some (.int .i64 x725) ∧ ∃ x726 : Int, w697.cell? (p1.add 0) = some (.int
    .i64 x726) ∧ ∃ q727 : Bool, EqV P .eql 25 (.agg #[(.int .i64 x721), (.int .i64 x722), (.int .i64 x723), (.int .i64 x724), (.int .i64 x725)]) (.agg #[(.int .i64 x726), (.int .i64
    0), (.int .i64 0), (.int .i64 0), (.int .i64 0)]) q727 ∧ Calls P fn_lang_must #[(.bool q727)] w697 fun e729 w728 => (e729 = .returned (.tuple #[]) ∧ ∃ x731 : Int, w728.cell?
    (p1.add 0) = some (.int .i64 x731) ∧ ∃ x732 : Int, w728.cell? (p1.add 1) = some (.int .i64 x732) ∧ ∃ x733 : Int, w728.cell? (p1.add 2) = some (.int .i64 x733) ∧ ∃ x734 : Int,
    w728.cell? (p1.add 3) = some (.int .i64 x734) ∧ ∃ x735 : Int, w728.cell? (p1.add 4) = some (.int .i64 x735) ∧ Calls P fn_lang_right #[(.agg #[(.int .i64 x731), (.int .i64 x732),
    (.int .i64 x733), (.int .i64 x734), (.int .i64 x735)])] w728 fun e737 w736 => (e737 = .returned (.tuple #[]) ∧ Calls P fn_strings_Join #[(.slice words699.p words699.n
    words699.c), (.string (ByteArray.mk #[32]))] w736 fun e740 w739 => ∃ x741 : ByteArray, e740 = .returned (.string x741) ∧ K (.string x741) w739) ∨ (∃ ch738, e737 = .panicked
    ch738 ∧ Kp ch738 w736)) ∨ (∃ ch730, e729 = .panicked ch730 ∧ Kp ch730 w728))) w690) w689) w682) w679) ∧ True) ∧ True) w610) ∧ True)) ∧ ((Al (.cells #[(.string (ByteArray.mk
    #[])), (.slice none 0 0)] 58) (fun p742 w743 => (elAt x612.p x612.n x609 2 fun a744 => (∃ x745 : ByteArray, w743.cell? (a744.add 0) = some (.string x745) ∧ ∃ x746 : Sl,
    w743.cell? (a744.add 1) = some (.slice x746.p x746.n x746.c) ∧ (StN [(.string x745), (.slice x746.p x746.n x746.c)] p742 (fun w747 => ∃ x748 : Int, w747.cell? (p1.add 0) = some
    (.int .i64 x748) ∧ ∃ x749 : Int, w747.cell? (p1.add 1) = some (.int .i64 x749) ∧ ∃ x750 : Int, w747.cell? (p1.add 2) = some (.int .i64 x750) ∧ ∃ x751 : Int, w747.cell? (p1.add
    3) = some (.int .i64 x751) ∧ ∃ x752 : Int, w747.cell? (p1.add 4) = some (.int .i64 x752) ∧ Al (.cells #[(.int .i64 0), (.int .i64 0), (.int .i64 0), (.int .i64 0), (.int .i64
    0)] 25) (fun p753 w754 => StN [(.int .i64 x748), (.int .i64 x749), (.int .i64 x750), (.int .i64 x751), (.int .i64 x752)] p753 (fun w755 => ∃ x756 : ByteArray, w755.cell?
    (p742.add 0) = some (.string x756) ∧ Al (.cells #[(.string x756)] 9) (fun p757 w758 => ∃ x759 : Sl, w758.cell? (p742.add 1) = some (.slice x759.p x759.n x759.c) ∧ ∃ (I760 : Sl →
    Int → World → Prop) (M761 : Sl → Int → World → Nat), I760 ⟨(some p757), 1, 1⟩ 0 w758 ∧ ∀ _u763 : Nat → Value, ∀ words764 : Sl, ∀ x765 : Int, ∀ w762 : World, I760 words764 x765
    w762 → bif (decide (x765 < ((x759.n : Nat) : Int))) then (elAt x759.p x759.n x765 1 fun a766 => ∃ x767 : Int, w762.cell? a766 = some (.int .i64 x767) ∧ Calls P
    fn_lang_field_place #[(.int .i64 x767), (.pointer (some p1))] w762 fun e769 w768 => ∃ x770 : Option Addr, e769 = .returned (.pointer x770) ∧ NN x770 fun a771 => ∃ x772 : Int,
    w768.cell? a771 = some (.int .i64 x772) ∧ Calls P fn_lang_field_show #[(.int .i64 x767), (.int .i64 x772)] w768 fun e774 w773 => (∃ x776 : ByteArray, e774 = .returned (.string
    x776) ∧ Al (.cells #[(.string x776)] 9) (fun p777 w778 => ∃ x780 : Sl, ∃ w779 : World, Sem.run P (Builtin.append_ #[32, 32] 32 #[(.slice words764.p words764.n words764.c),
    (.slice (some p777) 1 1)]) w778 = .ok (.slice x780.p x780.n x780.c) w779 ∧ Calls P fn_lang_field_place #[(.int .i64 x767), (.pointer (some p753))] w779 fun e782 w781 => ∃ x783 :
    Option Addr, e782 = .returned (.pointer x783) ∧ NN x783 fun a784 => St a784 (.int .i64 0) (fun w785 => (I760 x780 (IntKind.i64.wrap (x765 + 1)) w785 ∧ M761 x780
    (IntKind.i64.wrap (x765 + 1)) w785 < M761 words764 x765 w762)) w781) w773) ∨ (∃ ch775, e774 = .panicked ch775 ∧ Kp ch775 w773)) else (∃ x786 : Int, w762.cell? (p753.add 0) =
    some (.int .i64 x786) ∧ ∃ x787 : Int, w762.cell? (p753.add 1) = some (.int .i64 x787) ∧ ∃ x788 : Int, w762.cell? (p753.add 2) = some (.int .i64 x788) ∧ ∃ x789 : Int, w762.cell?
    (p753.add 3) = some (.int .i64 x789) ∧ ∃ x790 : Int, w762.cell? (p753.add 4) = some (.int .i64 x790) ∧ ∃ x791 : Int, w762.cell? (p1.add 0) = some (.int .i64 x791) ∧ ∃ q792 :
    Bool, EqV P .eql 25 (.agg #[(.int .i64 x786), (.int .i64 x787), (.int .i64 x788), (.int .i64 x789), (.int .i64 x790)]) (.agg #[(.int .i64 x791), (.int .i64 0), (.int .i64 0),
    (.int .i64 0), (.int .i64 0)]) q792 ∧ Calls P fn_lang_must #[(.bool q792)] w762 fun e794 w793 => (e794 = .returned (.tuple #[]) ∧ ∃ x796 : Int, w793.cell? (p1.add 0) = some
    (.int .i64 x796) ∧ ∃ x797 : Int, w793.cell? (p1.add 1) = some (.int .i64 x797) ∧ ∃ x798 : Int, w793.cell? (p1.add 2) = some (.int .i64 x798) ∧ ∃ x799 : Int, w793.cell? (p1.add
    3) = some (.int .i64 x799) ∧ ∃ x800 : Int, w793.cell? (p1.add 4) = some (.int .i64 x800) ∧ Calls P fn_lang_right #[(.agg #[(.int .i64 x796), (.int .i64 x797), (.int .i64 x798),
    (.int .i64 x799), (.int .i64 x800)])] w793 fun e802 w801 => (e802 = .returned (.tuple #[]) ∧ Calls P fn_strings_Join #[(.slice words764.p words764.n words764.c), (.string
    (ByteArray.mk #[32]))] w801 fun e805 w804 => ∃ x806 : ByteArray, e805 = .returned (.string x806) ∧ K (.string x806) w804) ∨ (∃ ch803, e802 = .panicked ch803 ∧ Kp ch803 w801)) ∨
    (∃ ch795, e794 = .panicked ch795 ∧ Kp ch795 w793))) w755) w754) w747) w743) ∧ True) ∧ True) ∧ True) w610) ∧ True)) ∧ ((Al (.cells #[(.string (ByteArray.mk #[])), (.slice none 0
    0)] 58) (fun p807 w808 => (Calls P fn_lang_forms #[] w808 fun e810 w809 => ∃ x811 : Sl, e810 = .returned (.slice x811.p x811.n x811.c) ∧ (elAt x811.p x811.n x609 2 fun a812 =>
    (∃ x813 : ByteArray, w809.cell? (a812.add 0) = some (.string x813) ∧ ∃ x814 : Sl, w809.cell? (a812.add 1) = some (.slice x814.p x814.n x814.c) ∧ (StN [(.string x813), (.slice
    x814.p x814.n x814.c)] p807 (fun w815 => ∃ x816 : Int, w815.cell? (p1.add 0) = some (.int .i64 x816) ∧ ∃ x817 : Int, w815.cell? (p1.add 1) = some (.int .i64 x817) ∧ ∃ x818 :
    Int, w815.cell? (p1.add 2) = some (.int .i64 x818) ∧ ∃ x819 : Int, w815.cell? (p1.add 3) = some (.int .i64 x819) ∧ ∃ x820 : Int, w815.cell? (p1.add 4) = some (.int .i64 x820) ∧
    Al (.cells #[(.int .i64 0), (.int .i64 0), (.int .i64 0), (.int .i64 0), (.int .i64 0)] 25) (fun p821 w822 => StN [(.int .i64 x816), (.int .i64 x817), (.int .i64 x818), (.int
    .i64 x819), (.int .i64 x820)] p821 (fun w823 => ∃ x824 : ByteArray, w823.cell? (p807.add 0) = some (.string x824) ∧ Al (.cells #[(.string x824)] 9) (fun p825 w826 => ∃ x827 :
    Sl, w826.cell? (p807.add 1) = some (.slice x827.p x827.n x827.c) ∧ ∃ (I828 : Sl → Int → World → Prop) (M829 : Sl → Int → World → Nat), I828 ⟨(some p825), 1, 1⟩ 0 w826 ∧ ∀ _u831
    : Nat → Value, ∀ words832 : Sl, ∀ x833 : Int, ∀ w830 : World, I828 words832 x833 w830 → bif (decide (x833 < ((x827.n : Nat) : Int))) then (elAt x827.p x827.n x833 1 fun a834 =>
    ∃ x835 : Int, w830.cell? a834 = some (.int .i64 x835) ∧ Calls P fn_lang_field_place #[(.int .i64 x835), (.pointer (some p1))] w830 fun e837 w836 => ∃ x838 : Option Addr, e837 =
    .returned (.pointer x838) ∧ NN x838 fun a839 => ∃ x840 : Int, w836.cell? a839 = some (.int .i64 x840) ∧ Calls P fn_lang_field_show #[(.int .i64 x835), (.int .i64 x840)] w836 fun
    e842 w841 => (∃ x844 : ByteArray, e842 = .returned (.string x844) ∧ Al (.cells #[(.string x844)] 9) (fun p845 w846 => ∃ x848 : Sl, ∃ w847 : World, Sem.run P (Builtin.append_
    #[32, 32] 32 #[(.slice words832.p words832.n words832.c), (.slice (some p845) 1 1)]) w846 = .ok (.slice x848.p x848.n x848.c) w847 ∧ Calls P fn_lang_field_place #[(.int .i64
    x835), (.pointer (some p821))] w847 fun e850 w849 => ∃ x851 : Option Addr, e850 = .returned (.pointer x851) ∧ NN x851 fun a852 => St a852 (.int .i64 0) (fun w853 => (I828 x848
    (IntKind.i64.wrap (x833 + 1)) w853 ∧ M829 x848 (IntKind.i64.wrap (x833 + 1)) w853 < M829 words832 x833 w830)) w849) w841) ∨ (∃ ch843, e842 = .panicked ch843 ∧ Kp ch843 w841))
    else (∃ x854 : Int, w830.cell? (p821.add 0) = some (.int .i64 x854) ∧ ∃ x855 : Int, w830.cell? (p821.add 1) = some (.int .i64 x855) ∧ ∃ x856 : Int, w830.cell? (p821.add 2) =
    some (.int .i64 x856) ∧ ∃ x857 : Int, w830.cell? (p821.add 3) = some (.int .i64 x857) ∧ ∃ x858 : Int, w830.cell? (p821.add 4) = some (.int .i64 x858) ∧ ∃ x859 : Int, w830.cell?
    (p1.add 0) = some (.int .i64 x859) ∧ ∃ q860 : Bool, EqV P .eql 25 (.agg #[(.int .i64 x854), (.int .i64 x855), (.int .i64 x856), (.int .i64 x857), (.int .i64 x858)]) (.agg
    #[(.int .i64 x859), (.int .i64 0), (.int .i64 0), (.int .i64 0), (.int .i64 0)]) q860 ∧ Calls P fn_lang_must #[(.bool q860)] w830 fun e862 w861 => (e862 = .returned (.tuple #[])
    ∧ ∃ x864 : Int, w861.cell? (p1.add 0) = some (.int .i64 x864) ∧ ∃ x865 : Int, w861.cell? (p1.add 1) = some (.int .i64 x865) ∧ ∃ x866 : Int, w861.cell? (p1.add 2) = some (.int
    .i64 x866) ∧ ∃ x867 : Int, w861.cell? (p1.add 3) = some (.int .i64 x867) ∧ ∃ x868 : Int, w861.cell? (p1.add 4) = some (.int .i64 x868) ∧ Calls P fn_lang_right #[(.agg #[(.int
    .i64 x864), (.int .i64 x865), (.int .i64 x866), (.int .i64 x867), (.int .i64 x868)])] w861 fun e870 w869 => (e870 = .returned (.tuple #[]) ∧ Calls P fn_strings_Join #[(.slice
    words832.p words832.n words832.c), (.string (ByteArray.mk #[32]))] w869 fun e873 w872 => ∃ x874 : ByteArray, e873 = .returned (.string x874) ∧ K (.string x874) w872) ∨ (∃ ch871,
    e870 = .panicked ch871 ∧ Kp ch871 w869)) ∨ (∃ ch863, e862 = .panicked ch863 ∧ Kp ch863 w861))) w823) w822) w815) w809) ∧ True) ∧ True) ∧ True) ∧ True) w14) ∧ True)) ∧ ((Al
    (.cells #[(.string (ByteArray.mk #[])), (.slice none 0 0)] 58) (fun p875 w876 => (Calls P fn_lang_forms #[] w876 fun e878 w877 => ∃ x879 : Sl, e878 = .returned (.slice x879.p
    x879.n x879.c) ∧ (∃ x880 : Int, w877.cell? (p1.add 0) = some (.int .i64 x880) ∧ (elAt x879.p x879.n x880 2 fun a881 => (∃ x882 : ByteArray, w877.cell? (a881.add 0) = some
    (.string x882) ∧ ∃ x883 : Sl, w877.cell? (a881.add 1) = some (.slice x883.p x883.n x883.c) ∧ (StN [(.string x882), (.slice x883.p x883.n x883.c)] p875 (fun w884 => ∃ x885 : Int,
    w884.cell? (p1.add 0) = some (.int .i64 x885) ∧ ∃ x886 : Int, w884.cell? (p1.add 1) = some (.int .i64 x886) ∧ ∃ x887 : Int, w884.cell? (p1.add 2) = some (.int .i64 x887) ∧ ∃
    x888 : Int, w884.cell? (p1.add 3) = some (.int .i64 x888) ∧ ∃ x889 : Int, w884.cell? (p1.add 4) = some (.int .i64 x889) ∧ Al (.cells #[(.int .i64 0), (.int .i64 0), (.int .i64
    0), (.int .i64 0), (.int .i64 0)] 25) (fun p890 w891 => StN [(.int .i64 x885), (.int .i64 x886), (.int .i64 x887), (.int .i64 x888), (.int .i64 x889)] p890 (fun w892 => ∃ x893 :
    ByteArray, w892.cell? (p875.add 0) = some (.string x893) ∧ Al (.cells #[(.string x893)] 9) (fun p894 w895 => ∃ x896 : Sl, w895.cell? (p875.add 1) = some (.slice x896.p x896.n
    x896.c) ∧ ∃ (I897 : Sl → Int → World → Prop) (M898 : Sl → Int → World → Nat), I897 ⟨(some p894), 1, 1⟩ 0 w895 ∧ ∀ _u900 : Nat → Value, ∀ words901 : Sl, ∀ x902 : Int, ∀ w899 :
    World, I897 words901 x902 w899 → bif (decide (x902 < ((x896.n : Nat) : Int))) then (elAt x896.p x896.n x902 1 fun a903 => ∃ x904 : Int, w899.cell? a903 = some (.int .i64 x904) ∧
    Calls P fn_lang_field_place #[(.int .i64 x904), (.pointer (some p1))] w899 fun e906 w905 => ∃ x907 : Option Addr, e906 = .returned (.pointer x907) ∧ NN x907 fun a908 => ∃ x909 :
    Int, w905.cell? a908 = some (.int .i64 x909) ∧ Calls P fn_lang_field_show #[(.int .i64 x904), (.int .i64 x909)] w905 fun e911 w910 => (∃ x913 : ByteArray, e911 = .returned
    (.string x913) ∧ Al (.cells #[(.string x913)] 9) (fun p914 w915 => ∃ x917 : Sl, ∃ w916 : World, Sem.run P (Builtin.append_ #[32, 32] 32 #[(.slice words901.p words901.n
    words901.c), (.slice (some p914) 1 1)]) w915 = .ok (.slice x917.p x917.n x917.c) w916 ∧ Calls P fn_lang_field_place #[(.int .i64 x904), (.pointer (some p890))] w916 fun e919
    w918 => ∃ x920 : Option Addr, e919 = .returned (.pointer x920) ∧ NN x920 fun a921 => St a921 (.int .i64 0) (fun w922 => (I897 x917 (IntKind.i64.wrap (x902 + 1)) w922 ∧ M898 x917
    (IntKind.i64.wrap (x902 + 1)) w922 < M898 words901 x902 w899)) w918) w910) ∨ (∃ ch912, e911 = .panicked ch912 ∧ Kp ch912 w910)) else (∃ x923 : Int, w899.cell? (p890.add 0) =
    some (.int .i64 x923) ∧ ∃ x924 : Int, w899.cell? (p890.add 1) = some (.int .i64 x924) ∧ ∃ x925 : Int, w899.cell? (p890.add 2) = some (.int .i64 x925) ∧ ∃ x926 : Int, w899.cell?
    (p890.add 3) = some (.int .i64 x926) ∧ ∃ x927 : Int, w899.cell? (p890.add 4) = some (.int .i64 x927) ∧ ∃ x928 : Int, w899.cell? (p1.add 0) = some (.int .i64 x928) ∧ ∃ q929 :
    Bool, EqV P .eql 25 (.agg #[(.int .i64 x923), (.int .i64 x924), (.int .i64 x925), (.int .i64 x926), (.int .i64 x927)]) (.agg #[(.int .i64 x928), (.int .i64 0), (.int .i64 0),
    (.int .i64 0), (.int .i64 0)]) q929 ∧ Calls P fn_lang_must #[(.bool q929)] w899 fun e931 w930 => (e931 = .returned (.tuple #[]) ∧ ∃ x933 : Int, w930.cell? (p1.add 0) = some
    (.int .i64 x933) ∧ ∃ x934 : Int, w930.cell? (p1.add 1) = some (.int .i64 x934) ∧ ∃ x935 : Int, w930.cell? (p1.add 2) = some (.int .i64 x935) ∧ ∃ x936 : Int, w930.cell? (p1.add
    3) = some (.int .i64 x936) ∧ ∃ x937 : Int, w930.cell? (p1.add 4) = some (.int .i64 x937) ∧ Calls P fn_lang_right #[(.agg #[(.int .i64 x933), (.int .i64 x934), (.int .i64 x935),
    (.int .i64 x936), (.int .i64 x937)])] w930 fun e939 w938 => (e939 = .returned (.tuple #[]) ∧ Calls P fn_strings_Join #[(.slice words901.p words901.n words901.c), (.string
    (ByteArray.mk #[32]))] w938 fun e942 w941 => ∃ x943 : ByteArray, e942 = .returned (.string x943) ∧ K (.string x943) w941) ∨ (∃ ch940, e939 = .panicked ch940 ∧ Kp ch940 w938)) ∨
    (∃ ch932, e931 = .panicked ch932 ∧ Kp ch932 w930))) w892) w891) w884) w877) ∧ True) ∧ True) ∧ True) ∧ True) ∧ ((∃ x944 : Int, w876.cell? (p1.add 0) = some (.int .i64 x944) ∧
    (Calls P fn_lang_forms #[] w876 fun e946 w945 => ∃ x947 : Sl, e946 = .returned (.slice x947.p x947.n x947.c) ∧ (elAt x947.p x947.n x944 2 fun a948 => (∃ x949 : ByteArray,
    w945.cell? (a948.add 0) = some (.string x949) ∧ ∃ x950 : Sl, w945.cell? (a948.add 1) = some (.slice x950.p x950.n x950.c) ∧ (StN [(.string x949), (.slice x950.p x950.n x950.c)]
    p875 (fun w951 => ∃ x952 : Int, w951.cell? (p1.add 0) = some (.int .i64 x952) ∧ ∃ x953 : Int, w951.cell? (p1.add 1) = some (.int .i64 x953) ∧ ∃ x954 : Int, w951.cell? (p1.add 2)
    = some (.int .i64 x954) ∧ ∃ x955 : Int, w951.cell? (p1.add 3) = some (.int .i64 x955) ∧ ∃ x956 : Int, w951.cell? (p1.add 4) = some (.int .i64 x956) ∧ Al (.cells #[(.int .i64 0),
    (.int .i64 0), (.int .i64 0), (.int .i64 0), (.int .i64 0)] 25) (fun p957 w958 => StN [(.int .i64 x952), (.int .i64 x953), (.int .i64 x954), (.int .i64 x955), (.int .i64 x956)]
    p957 (fun w959 => ∃ x960 : ByteArray, w959.cell? (p875.add 0) = some (.string x960) ∧ Al (.cells #[(.string x960)] 9) (fun p961 w962 => ∃ x963 : Sl, w962.cell? (p875.add 1) =
    some (.slice x963.p x963.n x963.c) ∧ ∃ (I964 : Sl → Int → World → Prop) (M965 : Sl → Int → World → Nat), I964 ⟨(some p961), 1, 1⟩ 0 w962 ∧ ∀ _u967 : Nat → Value, ∀ words968 :
    Sl, ∀ x969 : Int, ∀ w966 : World, I964 words968 x969 w966 → bif (decide (x969 < ((x963.n : Nat) : Int))) then (elAt x963.p x963.n x969 1 fun a970 => ∃ x971 : Int, w966.cell?
    a970 = some (.int .i64 x971) ∧ Calls P fn_lang_field_place #[(.int .i64 x971), (.pointer (some p1))] w966 fun e973 w972 => ∃ x974 : Option Addr, e973 = .returned (.pointer x974)
    ∧ NN x974 fun a975 => ∃ x976 : Int, w972.cell? a975 = some (.int .i64 x976) ∧ Calls P fn_lang_field_show #[(.int .i64 x971), (.int .i64 x976)] w972 fun e978 w977 => (∃ x980 :
    ByteArray, e978 = .returned (.string x980) ∧ Al (.cells #[(.string x980)] 9) (fun p981 w982 => ∃ x984 : Sl, ∃ w983 : World, Sem.run P (Builtin.append_ #[32, 32] 32 #[(.slice
    words968.p words968.n words968.c), (.slice (some p981) 1 1)]) w982 = .ok (.slice x984.p x984.n x984.c) w983 ∧ Calls P fn_lang_field_place #[(.int .i64 x971), (.pointer (some
    p957))] w983 fun e986 w985 => ∃ x987 : Option Addr, e986 = .returned (.pointer x987) ∧ NN x987 fun a988 => St a988 (.int .i64 0) (fun w989 => (I964 x984 (IntKind.i64.wrap (x969
    + 1)) w989 ∧ M965 x984 (IntKind.i64.wrap (x969 + 1)) w989 < M965 words968 x969 w966)) w985) w977) ∨ (∃ ch979, e978 = .panicked ch979 ∧ Kp ch979 w977)) else (∃ x990 : Int,
    w966.cell? (p957.add 0) = some (.int .i64 x990) ∧ ∃ x991 : Int, w966.cell? (p957.add 1) = some (.int .i64 x991) ∧ ∃ x992 : Int, w966.cell? (p957.add 2) = some (.int .i64 x992) ∧
    ∃ x993 : Int, w966.cell? (p957.add 3) = some (.int .i64 x993) ∧ ∃ x994 : Int, w966.cell? (p957.add 4) = some (.int .i64 x994) ∧ ∃ x995 : Int, w966.cell? (p1.add 0) = some (.int
    .i64 x995) ∧ ∃ q996 : Bool, EqV P .eql 25 (.agg #[(.int .i64 x990), (.int .i64 x991), (.int .i64 x992), (.int .i64 x993), (.int .i64 x994)]) (.agg #[(.int .i64 x995), (.int .i64
    0), (.int .i64 0), (.int .i64 0), (.int .i64 0)]) q996 ∧ Calls P fn_lang_must #[(.bool q996)] w966 fun e998 w997 => (e998 = .returned (.tuple #[]) ∧ ∃ x1000 : Int, w997.cell?
    (p1.add 0) = some (.int .i64 x1000) ∧ ∃ x1001 : Int, w997.cell? (p1.add 1) = some (.int .i64 x1001) ∧ ∃ x1002 : Int, w997.cell? (p1.add 2) = some (.int .i64 x1002) ∧ ∃ x1003 :
    Int, w997.cell? (p1.add 3) = some (.int .i64 x1003) ∧ ∃ x1004 : Int, w997.cell? (p1.add 4) = some (.int .i64 x1004) ∧ Calls P fn_lang_right #[(.agg #[(.int .i64 x1000), (.int
    .i64 x1001), (.int .i64 x1002), (.int .i64 x1003), (.int .i64 x1004)])] w997 fun e1006 w1005 => (e1006 = .returned (.tuple #[]) ∧ Calls P fn_strings_Join #[(.slice words968.p
    words968.n words968.c), (.string (ByteArray.mk #[32]))] w1005 fun e1009 w1008 => ∃ x1010 : ByteArray, e1009 = .returned (.string x1010) ∧ K (.string x1010) w1008) ∨ (∃ ch1007,
    e1006 = .panicked ch1007 ∧ Kp ch1007 w1005)) ∨ (∃ ch999, e998 = .panicked ch999 ∧ Kp ch999 w997))) w959) w958) w951) w945) ∧ True) ∧ True) ∧ True) ∧ True) ∧ True)) w14) ∧
    True))) ∧ ((Al (.cells #[(.string (ByteArray.mk #[])), (.slice none 0 0)] 58) (fun p1011 w1012 => (Calls P fn_lang_forms #[] w1012 fun e1014 w1013 => ∃ x1015 : Sl, e1014 =
    .returned (.slice x1015.p x1015.n x1015.c) ∧ ((∃ x1016 : Int, w1013.cell? (p1.add 0) = some (.int .i64 x1016) ∧ (elAt x1015.p x1015.n x1016 2 fun a1017 => (∃ x1018 : ByteArray,
    w1013.cell? (a1017.add 0) = some (.string x1018) ∧ ∃ x1019 : Sl, w1013.cell? (a1017.add 1) = some (.slice x1019.p x1019.n x1019.c) ∧ (StN [(.string x1018), (.slice x1019.p
    x1019.n x1019.c)] p1011 (fun w1020 => ∃ x1021 : Int, w1020.cell? (p1.add 0) = some (.int .i64 x1021) ∧ ∃ x1022 : Int, w1020.cell? (p1.add 1) = some (.int .i64 x1022) ∧ ∃ x1023 :
    Int, w1020.cell? (p1.add 2) = some (.int .i64 x1023) ∧ ∃ x1024 : Int, w1020.cell? (p1.add 3) = some (.int .i64 x1024) ∧ ∃ x1025 : Int, w1020.cell? (p1.add 4) = some (.int .i64
    x1025) ∧ Al (.cells #[(.int .i64 0), (.int .i64 0), (.int .i64 0), (.int .i64 0), (.int .i64 0)] 25) (fun p1026 w1027 => StN [(.int .i64 x1021), (.int .i64 x1022), (.int .i64
    x1023), (.int .i64 x1024), (.int .i64 x1025)] p1026 (fun w1028 => ∃ x1029 : ByteArray, w1028.cell? (p1011.add 0) = some (.string x1029) ∧ Al (.cells #[(.string x1029)] 9) (fun
    p1030 w1031 => ∃ x1032 : Sl, w1031.cell? (p1011.add 1) = some (.slice x1032.p x1032.n x1032.c) ∧ ∃ (I1033 : Sl → Int → World → Prop) (M1034 : Sl → Int → World → Nat), I1033
    ⟨(some p1030), 1, 1⟩ 0 w1031 ∧ ∀ _u1036 : Nat → Value, ∀ words1037 : Sl, ∀ x1038 : Int, ∀ w1035 : World, I1033 words1037 x1038 w1035 → bif (decide (x1038 < ((x1032.n : Nat) :
    Int))) then (elAt x1032.p x1032.n x1038 1 fun a1039 => ∃ x1040 : Int, w1035.cell? a1039 = some (.int .i64 x1040) ∧ Calls P fn_lang_field_place #[(.int .i64 x1040), (.pointer
    (some p1))] w1035 fun e1042 w1041 => ∃ x1043 : Option Addr, e1042 = .returned (.pointer x1043) ∧ NN x1043 fun a1044 => ∃ x1045 : Int, w1041.cell? a1044 = some (.int .i64 x1045)
    ∧ Calls P fn_lang_field_show #[(.int .i64 x1040), (.int .i64 x1045)] w1041 fun e1047 w1046 => (∃ x1049 : ByteArray, e1047 = .returned (.string x1049) ∧ Al (.cells #[(.string
    x1049)] 9) (fun p1050 w1051 => ∃ x1053 : Sl, ∃ w1052 : World, Sem.run P (Builtin.append_ #[32, 32] 32 #[(.slice words1037.p words1037.n words1037.c), (.slice (some p1050) 1 1)])
    w1051 = .ok (.slice x1053.p x1053.n x1053.c) w1052 ∧ Calls P fn_lang_field_place #[(.int .i64 x1040), (.pointer (some p1026))] w1052 fun e1055 w1054 => ∃ x1056 : Option Addr,
    e1055 = .returned (.pointer x1056) ∧ NN x1056 fun a1057 => St a1057 (.int .i64 0) (fun w1058 => (I1033 x1053 (IntKind.i64.wrap (x1038 + 1)) w1058 ∧ M1034 x1053 (IntKind.i64.wrap
    (x1038 + 1)) w1058 < M1034 words1037 x1038 w1035)) w1054) w1046) ∨ (∃ ch1048, e1047 = .panicked ch1048 ∧ Kp ch1048 w1046)) else (∃ x1059 : Int, w1035.cell? (p1026.add 0) = some
    (.int .i64 x1059) ∧ ∃ x1060 : Int, w1035.cell? (p1026.add 1) = some (.int .i64 x1060) ∧ ∃ x1061 : Int, w1035.cell? (p1026.add 2) = some (.int .i64 x1061) ∧ ∃ x1062 : Int,
    w1035.cell? (p1026.add 3) = some (.int .i64 x1062) ∧ ∃ x1063 : Int, w1035.cell? (p1026.add 4) = some (.int .i64 x1063) ∧ ∃ x1064 : Int, w1035.cell? (p1.add 0) = some (.int .i64
    x1064) ∧ ∃ q1065 : Bool, EqV P .eql 25 (.agg #[(.int .i64 x1059), (.int .i64 x1060), (.int .i64 x1061), (.int .i64 x1062), (.int .i64 x1063)]) (.agg #[(.int .i64 x1064), (.int
    .i64 0), (.int .i64 0), (.int .i64 0), (.int .i64 0)]) q1065 ∧ Calls P fn_lang_must #[(.bool q1065)] w1035 fun e1067 w1066 => (e1067 = .returned (.tuple #[]) ∧ ∃ x1069 : Int,
    w1066.cell? (p1.add 0) = some (.int .i64 x1069) ∧ ∃ x1070 : Int, w1066.cell? (p1.add 1) = some (.int .i64 x1070) ∧ ∃ x1071 : Int, w1066.cell? (p1.add 2) = some (.int .i64 x1071)
    ∧ ∃ x1072 : Int, w1066.cell? (p1.add 3) = some (.int .i64 x1072) ∧ ∃ x1073 : Int, w1066.cell? (p1.add 4) = some (.int .i64 x1073) ∧ Calls P fn_lang_right #[(.agg #[(.int .i64
    x1069), (.int .i64 x1070), (.int .i64 x1071), (.int .i64 x1072), (.int .i64 x1073)])] w1066 fun e1075 w1074 => (e1075 = .returned (.tuple #[]) ∧ Calls P fn_strings_Join
    #[(.slice words1037.p words1037.n words1037.c), (.string (ByteArray.mk #[32]))] w1074 fun e1078 w1077 => ∃ x1079 : ByteArray, e1078 = .returned (.string x1079) ∧ K (.string
    x1079) w1077) ∨ (∃ ch1076, e1075 = .panicked ch1076 ∧ Kp ch1076 w1074)) ∨ (∃ ch1068, e1067 = .panicked ch1068 ∧ Kp ch1068 w1066))) w1028) w1027) w1020) w1013) ∧ True) ∧ True) ∧
    True) ∧ True) ∧ True) ∧ (((Calls P fn_lang_forms #[] w1012 fun e1081 w1080 => ∃ x1082 : Sl, e1081 = .returned (.slice x1082.p x1082.n x1082.c) ∧ (∃ x1083 : Int, w1080.cell?
    (p1.add 0) = some (.int .i64 x1083) ∧ (elAt x1082.p x1082.n x1083 2 fun a1084 => (∃ x1085 : ByteArray, w1080.cell? (a1084.add 0) = some (.string x1085) ∧ ∃ x1086 : Sl,
    w1080.cell? (a1084.add 1) = some (.slice x1086.p x1086.n x1086.c) ∧ (StN [(.string x1085), (.slice x1086.p x1086.n x1086.c)] p1011 (fun w1087 => ∃ x1088 : Int, w1087.cell?
    (p1.add 0) = some (.int .i64 x1088) ∧ ∃ x1089 : Int, w1087.cell? (p1.add 1) = some (.int .i64 x1089) ∧ ∃ x1090 : Int, w1087.cell? (p1.add 2) = some (.int .i64 x1090) ∧ ∃ x1091 :
    Int, w1087.cell? (p1.add 3) = some (.int .i64 x1091) ∧ ∃ x1092 : Int, w1087.cell? (p1.add 4) = some (.int .i64 x1092) ∧ Al (.cells #[(.int .i64 0), (.int .i64 0), (.int .i64 0),
    (.int .i64 0), (.int .i64 0)] 25) (fun p1093 w1094 => StN [(.int .i64 x1088), (.int .i64 x1089), (.int .i64 x1090), (.int .i64 x1091), (.int .i64 x1092)] p1093 (fun w1095 => ∃
    x1096 : ByteArray, w1095.cell? (p1011.add 0) = some (.string x1096) ∧ Al (.cells #[(.string x1096)] 9) (fun p1097 w1098 => ∃ x1099 : Sl, w1098.cell? (p1011.add 1) = some (.slice
    x1099.p x1099.n x1099.c) ∧ ∃ (I1100 : Sl → Int → World → Prop) (M1101 : Sl → Int → World → Nat), I1100 ⟨(some p1097), 1, 1⟩ 0 w1098 ∧ ∀ _u1103 : Nat → Value, ∀ words1104 : Sl, ∀
    x1105 : Int, ∀ w1102 : World, I1100 words1104 x1105 w1102 → bif (decide (x1105 < ((x1099.n : Nat) : Int))) then (elAt x1099.p x1099.n x1105 1 fun a1106 => ∃ x1107 : Int,
    w1102.cell? a1106 = some (.int .i64 x1107) ∧ Calls P fn_lang_field_place #[(.int .i64 x1107), (.pointer (some p1))] w1102 fun e1109 w1108 => ∃ x1110 : Option Addr, e1109 =
    .returned (.pointer x1110) ∧ NN x1110 fun a1111 => ∃ x1112 : Int, w1108.cell? a1111 = some (.int .i64 x1112) ∧ Calls P fn_lang_field_show #[(.int .i64 x1107), (.int .i64 x1112)]
    w1108 fun e1114 w1113 => (∃ x1116 : ByteArray, e1114 = .returned (.string x1116) ∧ Al (.cells #[(.string x1116)] 9) (fun p1117 w1118 => ∃ x1120 : Sl, ∃ w1119 : World, Sem.run P
    (Builtin.append_ #[32, 32] 32 #[(.slice words1104.p words1104.n words1104.c), (.slice (some p1117) 1 1)]) w1118 = .ok (.slice x1120.p x1120.n x1120.c) w1119 ∧ Calls P
    fn_lang_field_place #[(.int .i64 x1107), (.pointer (some p1093))] w1119 fun e1122 w1121 => ∃ x1123 : Option Addr, e1122 = .returned (.pointer x1123) ∧ NN x1123 fun a1124 => St
    a1124 (.int .i64 0) (fun w1125 => (I1100 x1120 (IntKind.i64.wrap (x1105 + 1)) w1125 ∧ M1101 x1120 (IntKind.i64.wrap (x1105 + 1)) w1125 < M1101 words1104 x1105 w1102)) w1121)
    w1113) ∨ (∃ ch1115, e1114 = .panicked ch1115 ∧ Kp ch1115 w1113)) else (∃ x1126 : Int, w1102.cell? (p1093.add 0) = some (.int .i64 x1126) ∧ ∃ x1127 : Int, w1102.cell? (p1093.add
    1) = some (.int .i64 x1127) ∧ ∃ x1128 : Int, w1102.cell? (p1093.add 2) = some (.int .i64 x1128) ∧ ∃ x1129 : Int, w1102.cell? (p1093.add 3) = some (.int .i64 x1129) ∧ ∃ x1130 :
    Int, w1102.cell? (p1093.add 4) = some (.int .i64 x1130) ∧ ∃ x1131 : Int, w1102.cell? (p1.add 0) = some (.int .i64 x1131) ∧ ∃ q1132 : Bool, EqV P .eql 25 (.agg #[(.int .i64
    x1126), (.int .i64 x1127), (.int .i64 x1128), (.int .i64 x1129), (.int .i64 x1130)]) (.agg #[(.int .i64 x1131), (.int .i64 0), (.int .i64 0), (.int .i64 0), (.int .i64 0)])
    q1132 ∧ Calls P fn_lang_must #[(.bool q1132)] w1102 fun e1134 w1133 => (e1134 = .returned (.tuple #[]) ∧ ∃ x1136 : Int, w1133.cell? (p1.add 0) = some (.int .i64 x1136) ∧ ∃ x1137
    : Int, w1133.cell? (p1.add 1) = some (.int .i64 x1137) ∧ ∃ x1138 : Int, w1133.cell? (p1.add 2) = some (.int .i64 x1138) ∧ ∃ x1139 : Int, w1133.cell? (p1.add 3) = some (.int .i64
    x1139) ∧ ∃ x1140 : Int, w1133.cell? (p1.add 4) = some (.int .i64 x1140) ∧ Calls P fn_lang_right #[(.agg #[(.int .i64 x1136), (.int .i64 x1137), (.int .i64 x1138), (.int .i64
    x1139), (.int .i64 x1140)])] w1133 fun e1142 w1141 => (e1142 = .returned (.tuple #[]) ∧ Calls P fn_strings_Join #[(.slice words1104.p words1104.n words1104.c), (.string
    (ByteArray.mk #[32]))] w1141 fun e1145 w1144 => ∃ x1146 : ByteArray, e1145 = .returned (.string x1146) ∧ K (.string x1146) w1144) ∨ (∃ ch1143, e1142 = .panicked ch1143 ∧ Kp
    ch1143 w1141)) ∨ (∃ ch1135, e1134 = .panicked ch1135 ∧ Kp ch1135 w1133))) w1095) w1094) w1087) w1080) ∧ True) ∧ True) ∧ True) ∧ True) ∧ ((∃ x1147 : Int, w1012.cell? (p1.add 0) =
    some (.int .i64 x1147) ∧ (Calls P fn_lang_forms #[] w1012 fun e1149 w1148 => ∃ x1150 : Sl, e1149 = .returned (.slice x1150.p x1150.n x1150.c) ∧ (elAt x1150.p x1150.n x1147 2 fun
    a1151 => (∃ x1152 : ByteArray, w1148.cell? (a1151.add 0) = some (.string x1152) ∧ ∃ x1153 : Sl, w1148.cell? (a1151.add 1) = some (.slice x1153.p x1153.n x1153.c) ∧ (StN
    [(.string x1152), (.slice x1153.p x1153.n x1153.c)] p1011 (fun w1154 => ∃ x1155 : Int, w1154.cell? (p1.add 0) = some (.int .i64 x1155) ∧ ∃ x1156 : Int, w1154.cell? (p1.add 1) =
    some (.int .i64 x1156) ∧ ∃ x1157 : Int, w1154.cell? (p1.add 2) = some (.int .i64 x1157) ∧ ∃ x1158 : Int, w1154.cell? (p1.add 3) = some (.int .i64 x1158) ∧ ∃ x1159 : Int,
    w1154.cell? (p1.add 4) = some (.int .i64 x1159) ∧ Al (.cells #[(.int .i64 0), (.int .i64 0), (.int .i64 0), (.int .i64 0), (.int .i64 0)] 25) (fun p1160 w1161 => StN [(.int .i64
    x1155), (.int .i64 x1156), (.int .i64 x1157), (.int .i64 x1158), (.int .i64 x1159)] p1160 (fun w1162 => ∃ x1163 : ByteArray, w1162.cell? (p1011.add 0) = some (.string x1163) ∧
    Al (.cells #[(.string x1163)] 9) (fun p1164 w1165 => ∃ x1166 : Sl, w1165.cell? (p1011.add 1) = some (.slice x1166.p x1166.n x1166.c) ∧ ∃ (I1167 : Sl → Int → World → Prop) (M1168
    : Sl → Int → World → Nat), I1167 ⟨(some p1164), 1, 1⟩ 0 w1165 ∧ ∀ _u1170 : Nat → Value, ∀ words1171 : Sl, ∀ x1172 : Int, ∀ w1169 : World, I1167 words1171 x1172 w1169 → bif
    (decide (x1172 < ((x1166.n : Nat) : Int))) then (elAt x1166.p x1166.n x1172 1 fun a1173 => ∃ x1174 : Int, w1169.cell? a1173 = some (.int .i64 x1174) ∧ Calls P
    fn_lang_field_place #[(.int .i64 x1174), (.pointer (some p1))] w1169 fun e1176 w1175 => ∃ x1177 : Option Addr, e1176 = .returned (.pointer x1177) ∧ NN x1177 fun a1178 => ∃ x1179
    : Int, w1175.cell? a1178 = some (.int .i64 x1179) ∧ Calls P fn_lang_field_show #[(.int .i64 x1174), (.int .i64 x1179)] w1175 fun e1181 w1180 => (∃ x1183 : ByteArray, e1181 =
    .returned (.string x1183) ∧ Al (.cells #[(.string x1183)] 9) (fun p1184 w1185 => ∃ x1187 : Sl, ∃ w1186 : World, Sem.run P (Builtin.append_ #[32, 32] 32 #[(.slice words1171.p
    words1171.n words1171.c), (.slice (some p1184) 1 1)]) w1185 = .ok (.slice x1187.p x1187.n x1187.c) w1186 ∧ Calls P fn_lang_field_place #[(.int .i64 x1174), (.pointer (some
    p1160))] w1186 fun e1189 w1188 => ∃ x1190 : Option Addr, e1189 = .returned (.pointer x1190) ∧ NN x1190 fun a1191 => St a1191 (.int .i64 0) (fun w1192 => (I1167 x1187
    (IntKind.i64.wrap (x1172 + 1)) w1192 ∧ M1168 x1187 (IntKind.i64.wrap (x1172 + 1)) w1192 < M1168 words1171 x1172 w1169)) w1188) w1180) ∨ (∃ ch1182, e1181 = .panicked ch1182 ∧ Kp
    ch1182 w1180)) else (∃ x1193 : Int, w1169.cell? (p1160.add 0) = some (.int .i64 x1193) ∧ ∃ x1194 : Int, w1169.cell? (p1160.add 1) = some (.int .i64 x1194) ∧ ∃ x1195 : Int,
    w1169.cell? (p1160.add 2) = some (.int .i64 x1195) ∧ ∃ x1196 : Int, w1169.cell? (p1160.add 3) = some (.int .i64 x1196) ∧ ∃ x1197 : Int, w1169.cell? (p1160.add 4) = some (.int
    .i64 x1197) ∧ ∃ x1198 : Int, w1169.cell? (p1.add 0) = some (.int .i64 x1198) ∧ ∃ q1199 : Bool, EqV P .eql 25 (.agg #[(.int .i64 x1193), (.int .i64 x1194), (.int .i64 x1195),
    (.int .i64 x1196), (.int .i64 x1197)]) (.agg #[(.int .i64 x1198), (.int .i64 0), (.int .i64 0), (.int .i64 0), (.int .i64 0)]) q1199 ∧ Calls P fn_lang_must #[(.bool q1199)]
    w1169 fun e1201 w1200 => (e1201 = .returned (.tuple #[]) ∧ ∃ x1203 : Int, w1200.cell? (p1.add 0) = some (.int .i64 x1203) ∧ ∃ x1204 : Int, w1200.cell? (p1.add 1) = some (.int
    .i64 x1204) ∧ ∃ x1205 : Int, w1200.cell? (p1.add 2) = some (.int .i64 x1205) ∧ ∃ x1206 : Int, w1200.cell? (p1.add 3) = some (.int .i64 x1206) ∧ ∃ x1207 : Int, w1200.cell?
    (p1.add 4) = some (.int .i64 x1207) ∧ Calls P fn_lang_right #[(.agg #[(.int .i64 x1203), (.int .i64 x1204), (.int .i64 x1205), (.int .i64 x1206), (.int .i64 x1207)])] w1200 fun
    e1209 w1208 => (e1209 = .returned (.tuple #[]) ∧ Calls P fn_strings_Join #[(.slice words1171.p words1171.n words1171.c), (.string (ByteArray.mk #[32]))] w1208 fun e1212 w1211 =>
    ∃ x1213 : ByteArray, e1212 = .returned (.string x1213) ∧ K (.string x1213) w1211) ∨ (∃ ch1210, e1209 = .panicked ch1210 ∧ Kp ch1210 w1208)) ∨ (∃ ch1202, e1201 = .panicked ch1202
    ∧ Kp ch1202 w1200))) w1162) w1161) w1154) w1148) ∧ True) ∧ True) ∧ True) ∧ True) ∧ True)) ∧ True)) w14) ∧ True))) w4)) w
theorem vc_lang_line (o_0 : Int) (o_1 : Int) (o_2 : Int) (o_3 : Int) (o_4 : Int) (K : Value → World → Prop) (Kp : List PanicEntry → World → Prop) (w : World) : vcFn P tau rho pan ann_lang_line Go.Proofs.Tryd.f21 #[(.agg #[(.int .i64 o_0), (.int .i64 o_1), (.int .i64 o_2), (.int .i64 o_3), (.int .i64 o_4)])] K Kp w = sh_lang_line o_0 o_1 o_2 o_3 o_4 K Kp w := by kernel_rfl
theorem ok_lang_line : okFn P ann_lang_line Go.Proofs.Tryd.f21 1 = true := by kernel_rfl
theorem of_lang_line (o_0 : Int) (o_1 : Int) (o_2 : Int) (o_3 : Int) (o_4 : Int) {K : Value → World → Prop} {Kp : List PanicEntry → World → Prop} {w : World} (h : sh_lang_line o_0 o_1 o_2 o_3 o_4 K Kp w) : Calls P fn_lang_line #[(.agg #[(.int .i64 o_0), (.int .i64 o_1), (.int .i64 o_2), (.int .i64 o_3), (.int .i64 o_4)])] w (RetP K Kp) := callsP_of_vc mixed Go.Proofs.Tryd.func21 ok_lang_line (by rw [vc_lang_line]; exact h)

def ann_lang_Line_1 : Ann := {}
/-- millpond/lang.Line$1 -/
def sh_lang_Line_1 (c_f : Addr) (c_fq : Addr) (K : Value → World → Prop) (Kp : List PanicEntry → World → Prop) (w : World) : Prop :=
  ∃ x1 : Int, w.cell? (c_f.add 0) = some (.int .i64 x1) ∧ ∃ x2 : Int, w.cell? (c_f.add 1) = some (.int .i64 x2) ∧ ∃ x3 : Int, w.cell? (c_f.add 2) = some (.int .i64 x3) ∧ ∃ x4 : Int,
    w.cell? (c_f.add 3) = some (.int .i64 x4) ∧ ∃ x5 : Int, w.cell? (c_f.add 4) = some (.int .i64 x5) ∧ Calls P fn_lang_line #[(.agg #[(.int .i64 x1), (.int .i64 x2), (.int .i64
    x3), (.int .i64 x4), (.int .i64 x5)])] w fun e7 w6 => (∃ x9 : ByteArray, e7 = .returned (.string x9) ∧ St c_fq (.string x9) (fun w10 => K (.tuple #[]) w10) w6) ∨ (∃ ch8, e7 =
    .panicked ch8 ∧ Kp ch8 w6)
theorem vc_lang_Line_1 (c_f : Addr) (c_fq : Addr) (K : Value → World → Prop) (Kp : List PanicEntry → World → Prop) (w : World) : vcFn P tau rho pan ann_lang_Line_1 Go.Proofs.Tryd.f23 #[(.pointer (some c_f)), (.pointer (some c_fq))] K Kp w = sh_lang_Line_1 c_f c_fq K Kp w := by kernel_rfl
theorem ok_lang_Line_1 : okFn P ann_lang_Line_1 Go.Proofs.Tryd.f23 2 = true := by kernel_rfl
theorem of_lang_Line_1 (c_f : Addr) (c_fq : Addr) {K : Value → World → Prop} {Kp : List PanicEntry → World → Prop} {w : World} (h : sh_lang_Line_1 c_f c_fq K Kp w) : Calls P fn_lang_Line_1 #[(.pointer (some c_f)), (.pointer (some c_fq))] w (RetP K Kp) := callsP_of_vc mixed Go.Proofs.Tryd.func23 ok_lang_Line_1 (by rw [vc_lang_Line_1]; exact h)

def ann_millpondref21_told : Ann := {}
/-- millpond/millpondref21.told -/
def sh_millpondref21_told (k : Int) (K : Value → World → Prop) (w : World) : Prop :=
  Al (.cells #[(.int .i64 1), (.int .i64 1), (.int .i64 3), (.int .i64 1), (.int .i64 2), (.int .i64 3), (.int .i64 4), (.int .i64 3), (.int .i64 2), (.int .i64 3), (.int .i64 1),
    (.int .i64 1), (.int .i64 1), (.int .i64 2)] 3) (fun p1 w2 => elAt (some p1) 14 k 1 fun a3 => ∃ x4 : Int, w2.cell? a3 = some (.int .i64 x4) ∧ K (.int .i64 x4) w2) w
theorem vc_millpondref21_told (k : Int) (K : Value → World → Prop) (w : World) : vcFn P tau rho pan ann_millpondref21_told Go.Proofs.Tryd.f24 #[(.int .i64 k)] K (fun _ _ => False) w = sh_millpondref21_told k K w := by kernel_rfl
theorem ok_millpondref21_told : okFn P ann_millpondref21_told Go.Proofs.Tryd.f24 1 = true := by kernel_rfl
theorem of_millpondref21_told (k : Int) {K : Value → World → Prop} {w : World} (h : sh_millpondref21_told k K w) : Calls P fn_millpondref21_told #[(.int .i64 k)] w (Ret K) := calls_of_vc mixed Go.Proofs.Tryd.func24 ok_millpondref21_told (by rw [vc_millpondref21_told]; exact h)

def ann_millpondref11_Show : Ann := { quiet := fun d => [4].contains d }
/-- millpond/millpondref11.Show -/
def sh_millpondref11_Show (n : Int) (K : Value → World → Prop) (w : World) : Prop :=
  bif (n == 1099511627776) then (K (.string (ByteArray.mk #[109, 97, 120])) w) else (Calls P fn_millpondref11_Digits #[(.int .i64 n)] w fun e2 w1 => ∃ x3 : ByteArray, e2 = .returned
    (.string x3) ∧ K (.string x3) w1)
theorem vc_millpondref11_Show (n : Int) (K : Value → World → Prop) (w : World) : vcFn P tau rho pan ann_millpondref11_Show Go.Proofs.Tryd.f25 #[(.int .i64 n)] K (fun _ _ => False) w = sh_millpondref11_Show n K w := by kernel_rfl
theorem ok_millpondref11_Show : okFn P ann_millpondref11_Show Go.Proofs.Tryd.f25 1 = true := by kernel_rfl
theorem of_millpondref11_Show (n : Int) {K : Value → World → Prop} {w : World} (h : sh_millpondref11_Show n K w) : Calls P fn_millpondref11_Show #[(.int .i64 n)] w (Ret K) := calls_of_vc mixed Go.Proofs.Tryd.func25 ok_millpondref11_Show (by rw [vc_millpondref11_Show]; exact h)

def ann_millpondref11_Digits : Ann := { quiet := fun d => [5, 7, 11, 13, 16, 19, 20, 21, 25, 27].contains d, loop := fun r => (bif r == 6 then [(0, .int .i64), (3, .str)] else []), join := fun r => (bif r == 7 then some [] else none) }
/-- millpond/millpondref11.Digits -/
def sh_millpondref11_Digits (n : Int) (K : Value → World → Prop) (w : World) : Prop :=
  bif (n == (-9223372036854775808)) then (K (.string (ByteArray.mk #[45, 57, 50, 50, 51, 51, 55, 50, 48, 51, 54, 56, 53, 52, 55, 55, 53, 56, 48, 56])) w) else (bif (decide (n < 0))
    then (Calls P fn_millpondref11_Digits #[(.int .i64 (IntKind.i64.wrap (0 - n)))] w fun e2 w1 => ∃ x3 : ByteArray, e2 = .returned (.string x3) ∧ (ByteArray.mk #[45]).size +
    x3.size ≤ 9223372036854775807 ∧ K (.string ((ByteArray.mk #[45]) ++ x3)) w1) else (∃ (I4 : Int → ByteArray → World → Prop) (M5 : Int → ByteArray → World → Nat), I4 n
    (ByteArray.mk #[]) w ∧ ∀ _u7 : Nat → Value, ∀ n8 : Int, ∀ s9 : ByteArray, ∀ w6 : World, I4 n8 s9 w6 → ∃ J10 : World → Prop, (bif (decide (n8 > 0)) then (J10 w6) else (bif
    (s9.toList == (ByteArray.mk #[]).toList) then (J10 w6) else (K (.string s9) w6))) ∧ (∀ _u12 : Nat → Value, ∀ w11 : World, J10 w11 → (10 : Int) ≠ 0 ∧ Al (.cells #[(.int .u8
    (IntKind.u8.wrap (IntKind.i64.wrap (48 + (n8.tmod 10)))))] 5) (fun p13 w14 => ∃ x16 : ByteArray, ∃ w15 : World, Sem.run P (convert 42 9 (.slice (some p13) 1 1)) w14 = .ok
    (.string x16) w15 ∧ x16.size + s9.size ≤ 9223372036854775807 ∧ (10 : Int) ≠ 0 ∧ (I4 (IntKind.i64.wrap (n8.tdiv 10)) (x16 ++ s9) w15 ∧ M5 (IntKind.i64.wrap (n8.tdiv 10)) (x16 ++
    s9) w15 < M5 n8 s9 w6)) w11)))
theorem vc_millpondref11_Digits (n : Int) (K : Value → World → Prop) (w : World) : vcFn P tau rho pan ann_millpondref11_Digits Go.Proofs.Tryd.f26 #[(.int .i64 n)] K (fun _ _ => False) w = sh_millpondref11_Digits n K w := by kernel_rfl
theorem ok_millpondref11_Digits : okFn P ann_millpondref11_Digits Go.Proofs.Tryd.f26 1 = true := by kernel_rfl
theorem of_millpondref11_Digits (n : Int) {K : Value → World → Prop} {w : World} (h : sh_millpondref11_Digits n K w) : Calls P fn_millpondref11_Digits #[(.int .i64 n)] w (Ret K) := calls_of_vc mixed Go.Proofs.Tryd.func26 ok_millpondref11_Digits (by rw [vc_millpondref11_Digits]; exact h)

def ann_lang_of_lang_form_string : Ann := { quiet := fun d => [9, 11, 20].contains d, dyn := fun d => [17].contains d, loop := fun r => (bif r == 3 then [(5, .slice), (10, .int .i64)] else []) }
/-- millpond/lang.of[millpond/lang.form,string] -/
def sh_lang_of_lang_form_string (l : Sl) (f : Value) (K : Value → World → Prop) (w : World) : Prop :=
  ∃ (I1 : Sl → Int → World → Prop) (M2 : Sl → Int → World → Nat), I1 ⟨none, 0, 0⟩ 0 w ∧ ∀ _u4 : Nat → Value, ∀ out5 : Sl, ∀ x6 : Int, ∀ w3 : World, I1 out5 x6 w3 → bif (decide (x6 <
    ((l.n : Nat) : Int))) then (elAt l.p l.n x6 2 fun a7 => ∃ x8 : ByteArray, w3.cell? (a7.add 0) = some (.string x8) ∧ ∃ x9 : Sl, w3.cell? (a7.add 1) = some (.slice x9.p x9.n x9.c)
    ∧ Al (.cells #[(.string (ByteArray.mk #[])), (.slice none 0 0)] 58) (fun p10 w11 => StN [(.string x8), (.slice x9.p x9.n x9.c)] p10 (fun w12 => ∃ x13 : ByteArray, w12.cell?
    (p10.add 0) = some (.string x13) ∧ ∃ x14 : Sl, w12.cell? (p10.add 1) = some (.slice x14.p x14.n x14.c) ∧ callD P f #[(.agg #[(.string x13), (.slice x14.p x14.n x14.c)])] w12 fun
    e16 w15 => ∃ x17 : ByteArray, e16 = .returned (.string x17) ∧ Al (.cells #[(.string x17)] 9) (fun p18 w19 => ∃ x21 : Sl, ∃ w20 : World, Sem.run P (Builtin.append_ #[32, 32] 32
    #[(.slice out5.p out5.n out5.c), (.slice (some p18) 1 1)]) w19 = .ok (.slice x21.p x21.n x21.c) w20 ∧ (I1 x21 (IntKind.i64.wrap (x6 + 1)) w20 ∧ M2 x21 (IntKind.i64.wrap (x6 +
    1)) w20 < M2 out5 x6 w3)) w15) w11) w3) else (K (.slice out5.p out5.n out5.c) w3)
theorem vc_lang_of_lang_form_string (l : Sl) (f : Value) (K : Value → World → Prop) (w : World) : vcFn P tau rho pan ann_lang_of_lang_form_string Go.Proofs.Tryd.f27 #[(.slice l.p l.n l.c), f] K (fun _ _ => False) w = sh_lang_of_lang_form_string l f K w := by kernel_rfl
theorem ok_lang_of_lang_form_string : okFn P ann_lang_of_lang_form_string Go.Proofs.Tryd.f27 2 = true := by kernel_rfl
theorem of_lang_of_lang_form_string (l : Sl) (f : Value) {K : Value → World → Prop} {w : World} (h : sh_lang_of_lang_form_string l f K w) : Calls P fn_lang_of_lang_form_string #[(.slice l.p l.n l.c), f] w (Ret K) := calls_of_vc mixed Go.Proofs.Tryd.func27 ok_lang_of_lang_form_string (by rw [vc_lang_of_lang_form_string]; exact h)

def ann_lang_forms : Ann := {}
/-- millpond/lang.forms -/
def sh_lang_forms (K : Value → World → Prop) (w : World) : Prop :=
  Al (.cells #[(.int .i64 0)] 69) (fun p1 w2 => Calls P fn_lang_row #[(.string (ByteArray.mk #[103, 114, 111, 117, 112])), (.slice (some p1) 1 1)] w2 fun e4 w3 => ∃ x5 : ByteArray, ∃
    x6 : Sl, e4 = .returned (.agg #[(.string x5), (.slice x6.p x6.n x6.c)]) ∧ Al (.cells #[(.int .i64 0)] 69) (fun p7 w8 => Calls P fn_lang_row #[(.string (ByteArray.mk #[114, 101,
    109, 111, 118, 101])), (.slice (some p7) 1 1)] w8 fun e10 w9 => ∃ x11 : ByteArray, ∃ x12 : Sl, e10 = .returned (.agg #[(.string x11), (.slice x12.p x12.n x12.c)]) ∧ Al (.cells
    #[(.int .i64 0), (.int .i64 4), (.int .i64 5)] 69) (fun p13 w14 => Calls P fn_lang_row #[(.string (ByteArray.mk #[108, 105, 109, 105, 116])), (.slice (some p13) 3 3)] w14 fun
    e16 w15 => ∃ x17 : ByteArray, ∃ x18 : Sl, e16 = .returned (.agg #[(.string x17), (.slice x18.p x18.n x18.c)]) ∧ Al (.cells #[(.int .i64 0)] 69) (fun p19 w20 => Calls P
    fn_lang_row #[(.string (ByteArray.mk #[115, 112, 97, 119, 110])), (.slice (some p19) 1 1)] w20 fun e22 w21 => ∃ x23 : ByteArray, ∃ x24 : Sl, e22 = .returned (.agg #[(.string
    x23), (.slice x24.p x24.n x24.c)]) ∧ Al (.cells #[(.int .i64 0), (.int .i64 1)] 69) (fun p25 w26 => Calls P fn_lang_row #[(.string (ByteArray.mk #[97, 116, 116, 97, 99, 104])),
    (.slice (some p25) 2 2)] w26 fun e28 w27 => ∃ x29 : ByteArray, ∃ x30 : Sl, e28 = .returned (.agg #[(.string x29), (.slice x30.p x30.n x30.c)]) ∧ Al (.cells #[(.int .i64 0),
    (.int .i64 1), (.int .i64 2)] 69) (fun p31 w32 => Calls P fn_lang_row #[(.string (ByteArray.mk #[109, 97, 112])), (.slice (some p31) 3 3)] w32 fun e34 w33 => ∃ x35 : ByteArray,
    ∃ x36 : Sl, e34 = .returned (.agg #[(.string x35), (.slice x36.p x36.n x36.c)]) ∧ Al (.cells #[(.int .i64 0), (.int .i64 1), (.int .i64 2), (.int .i64 3)] 69) (fun p37 w38 =>
    Calls P fn_lang_row #[(.string (ByteArray.mk #[102, 105, 108, 101])), (.slice (some p37) 4 4)] w38 fun e40 w39 => ∃ x41 : ByteArray, ∃ x42 : Sl, e40 = .returned (.agg #[(.string
    x41), (.slice x42.p x42.n x42.c)]) ∧ Al (.cells #[(.int .i64 0), (.int .i64 1), (.int .i64 2)] 69) (fun p43 w44 => Calls P fn_lang_row #[(.string (ByteArray.mk #[117, 110, 109,
    97, 112])), (.slice (some p43) 3 3)] w44 fun e46 w45 => ∃ x47 : ByteArray, ∃ x48 : Sl, e46 = .returned (.agg #[(.string x47), (.slice x48.p x48.n x48.c)]) ∧ Al (.cells #[(.int
    .i64 0), (.int .i64 1)] 69) (fun p49 w50 => Calls P fn_lang_row #[(.string (ByteArray.mk #[108, 111, 97, 100])), (.slice (some p49) 2 2)] w50 fun e52 w51 => ∃ x53 : ByteArray, ∃
    x54 : Sl, e52 = .returned (.agg #[(.string x53), (.slice x54.p x54.n x54.c)]) ∧ Al (.cells #[(.int .i64 0), (.int .i64 1), (.int .i64 2)] 69) (fun p55 w56 => Calls P fn_lang_row
    #[(.string (ByteArray.mk #[115, 116, 111, 114, 101])), (.slice (some p55) 3 3)] w56 fun e58 w57 => ∃ x59 : ByteArray, ∃ x60 : Sl, e58 = .returned (.agg #[(.string x59), (.slice
    x60.p x60.n x60.c)]) ∧ Al (.cells #[(.int .i64 0)] 69) (fun p61 w62 => Calls P fn_lang_row #[(.string (ByteArray.mk #[102, 111, 114, 107])), (.slice (some p61) 1 1)] w62 fun e64
    w63 => ∃ x65 : ByteArray, ∃ x66 : Sl, e64 = .returned (.agg #[(.string x65), (.slice x66.p x66.n x66.c)]) ∧ Al (.cells #[(.int .i64 0)] 69) (fun p67 w68 => Calls P fn_lang_row
    #[(.string (ByteArray.mk #[101, 120, 105, 116])), (.slice (some p67) 1 1)] w68 fun e70 w69 => ∃ x71 : ByteArray, ∃ x72 : Sl, e70 = .returned (.agg #[(.string x71), (.slice x72.p
    x72.n x72.c)]) ∧ Al (.cells #[(.int .i64 0)] 69) (fun p73 w74 => Calls P fn_lang_row #[(.string (ByteArray.mk #[97, 103, 101])), (.slice (some p73) 1 1)] w74 fun e76 w75 => ∃
    x77 : ByteArray, ∃ x78 : Sl, e76 = .returned (.agg #[(.string x77), (.slice x78.p x78.n x78.c)]) ∧ Al (.cells #[(.int .i64 0), (.int .i64 1)] 69) (fun p79 w80 => Calls P
    fn_lang_row #[(.string (ByteArray.mk #[115, 104, 114, 105, 110, 107])), (.slice (some p79) 2 2)] w80 fun e82 w81 => ∃ x83 : ByteArray, ∃ x84 : Sl, e82 = .returned (.agg
    #[(.string x83), (.slice x84.p x84.n x84.c)]) ∧ Al (.cells #[(.string x5), (.slice x6.p x6.n x6.c), (.string x11), (.slice x12.p x12.n x12.c), (.string x17), (.slice x18.p x18.n
    x18.c), (.string x23), (.slice x24.p x24.n x24.c), (.string x29), (.slice x30.p x30.n x30.c), (.string x35), (.slice x36.p x36.n x36.c), (.string x41), (.slice x42.p x42.n
    x42.c), (.string x47), (.slice x48.p x48.n x48.c), (.string x53), (.slice x54.p x54.n x54.c), (.string x59), (.slice x60.p x60.n x60.c), (.string x65), (.slice x66.p x66.n
    x66.c), (.string x71), (.slice x72.p x72.n x72.c), (.string x77), (.slice x78.p x78.n x78.c), (.string x83), (.slice x84.p x84.n x84.c)] 58) (fun p85 w86 => K (.slice (some p85)
    14 14) w86) w81) w75) w69) w63) w57) w51) w45) w39) w33) w27) w21) w15) w9) w3) w
theorem vc_lang_forms (K : Value → World → Prop) (w : World) : vcFn P tau rho pan ann_lang_forms Go.Proofs.Tryd.f28 #[] K (fun _ _ => False) w = sh_lang_forms K w := by kernel_rfl
theorem ok_lang_forms : okFn P ann_lang_forms Go.Proofs.Tryd.f28 0 = true := by kernel_rfl
theorem of_lang_forms {K : Value → World → Prop} {w : World} (h : sh_lang_forms K w) : Calls P fn_lang_forms #[] w (Ret K) := calls_of_vc mixed Go.Proofs.Tryd.func28 ok_lang_forms (by rw [vc_lang_forms]; exact h)

def ann_lang_Words_1 : Ann := {}
/-- millpond/lang.Words$1 -/
def sh_lang_Words_1 (f_0 : ByteArray) (f_1 : Sl) (K : Value → World → Prop) (w : World) : Prop :=
  Al (.cells #[(.string f_0), (.slice f_1.p f_1.n f_1.c)] 58) (fun p1 w2 => ∃ x3 : ByteArray, w2.cell? (p1.add 0) = some (.string x3) ∧ K (.string x3) w2) w
theorem vc_lang_Words_1 (f_0 : ByteArray) (f_1 : Sl) (K : Value → World → Prop) (w : World) : vcFn P tau rho pan ann_lang_Words_1 Go.Proofs.Tryd.f29 #[(.agg #[(.string f_0), (.slice f_1.p f_1.n f_1.c)])] K (fun _ _ => False) w = sh_lang_Words_1 f_0 f_1 K w := by kernel_rfl
theorem ok_lang_Words_1 : okFn P ann_lang_Words_1 Go.Proofs.Tryd.f29 1 = true := by kernel_rfl
theorem of_lang_Words_1 (f_0 : ByteArray) (f_1 : Sl) {K : Value → World → Prop} {w : World} (h : sh_lang_Words_1 f_0 f_1 K w) : Calls P fn_lang_Words_1 #[(.agg #[(.string f_0), (.slice f_1.p f_1.n f_1.c)])] w (Ret K) := calls_of_vc mixed Go.Proofs.Tryd.func29 ok_lang_Words_1 (by rw [vc_lang_Words_1]; exact h)

def ann_lang_Parse_1 : Ann := { quiet := fun d => [6, 7].contains d, sig := fun r => (bif r == 1 then some ([0, 1, 2, 3, 4, 5], [2, 3, 4, 5]) else none) }
/-- millpond/lang.Parse$1 -/
def sh_lang_Parse_1 (c_f : Addr) (c_fq : Addr) (c_fqq : Addr) (K : Value → World → Prop) (Kp : List PanicEntry → World → Prop) (w : World) : Prop :=
  ∃ x1 : Bool, w.cell? c_f = some (.bool x1) ∧ bif x1 then (∃ x2 : Sl, w.cell? c_fq = some (.slice x2.p x2.n x2.c) ∧ Calls P fn_lang_must #[(.bool (decide (((x2.n : Nat) : Int) <
    1000)))] w fun e4 w3 => (e4 = .returned (.tuple #[]) ∧ Dr (fun w6 => ∃ x7 : Sl, w6.cell? c_fq = some (.slice x7.p x7.n x7.c) ∧ ∃ x8 : ByteArray, w6.cell? c_fqq = some (.string
    x8) ∧ Calls P fn_lang_read #[(.string x8)] w6 fun e10 w9 => (∃ x12 : Int, ∃ x13 : Int, ∃ x14 : Int, ∃ x15 : Int, ∃ x16 : Int, e10 = .returned (.agg #[(.int .i64 x12), (.int .i64
    x13), (.int .i64 x14), (.int .i64 x15), (.int .i64 x16)]) ∧ ∃ x17 : Sl, w9.cell? c_fq = some (.slice x17.p x17.n x17.c) ∧ ((.slice x17.p x17.n x17.c) : Value) = (.slice x7.p
    x7.n x7.c) ∧ Al (.cells #[(.int .i64 x12), (.int .i64 x13), (.int .i64 x14), (.int .i64 x15), (.int .i64 x16)] 25) (fun p18 w19 => ∃ x20 : Sl, w19.cell? c_fq = some (.slice
    x20.p x20.n x20.c) ∧ ((.slice x20.p x20.n x20.c) : Value) = (.slice x7.p x7.n x7.c) ∧ ∃ x22 : Sl, ∃ w21 : World, Sem.run P (Builtin.append_ #[22, 22] 22 #[(.slice x7.p x7.n
    x7.c), (.slice (some p18) 1 1)]) w19 = .ok (.slice x22.p x22.n x22.c) w21 ∧ St c_fq (.slice x22.p x22.n x22.c) (fun w23 => K (.tuple #[]) w23) w21) w9) ∨ (∃ ch11, e10 =
    .panicked ch11 ∧ ∀ _ : Tr, Kp ch11 w9)) w3) ∨ (∃ ch5, e4 = .panicked ch5 ∧ Kp ch5 w3)) else (Calls P fn_lang_must #[(.bool false)] w fun e25 w24 => (e25 = .returned (.tuple #[])
    ∧ Dr (fun w27 => ∃ x28 : Sl, w27.cell? c_fq = some (.slice x28.p x28.n x28.c) ∧ ∃ x29 : ByteArray, w27.cell? c_fqq = some (.string x29) ∧ Calls P fn_lang_read #[(.string x29)]
    w27 fun e31 w30 => (∃ x33 : Int, ∃ x34 : Int, ∃ x35 : Int, ∃ x36 : Int, ∃ x37 : Int, e31 = .returned (.agg #[(.int .i64 x33), (.int .i64 x34), (.int .i64 x35), (.int .i64 x36),
    (.int .i64 x37)]) ∧ ∃ x38 : Sl, w30.cell? c_fq = some (.slice x38.p x38.n x38.c) ∧ ((.slice x38.p x38.n x38.c) : Value) = (.slice x28.p x28.n x28.c) ∧ Al (.cells #[(.int .i64
    x33), (.int .i64 x34), (.int .i64 x35), (.int .i64 x36), (.int .i64 x37)] 25) (fun p39 w40 => ∃ x41 : Sl, w40.cell? c_fq = some (.slice x41.p x41.n x41.c) ∧ ((.slice x41.p x41.n
    x41.c) : Value) = (.slice x28.p x28.n x28.c) ∧ ∃ x43 : Sl, ∃ w42 : World, Sem.run P (Builtin.append_ #[22, 22] 22 #[(.slice x28.p x28.n x28.c), (.slice (some p39) 1 1)]) w40 =
    .ok (.slice x43.p x43.n x43.c) w42 ∧ St c_fq (.slice x43.p x43.n x43.c) (fun w44 => K (.tuple #[]) w44) w42) w30) ∨ (∃ ch32, e31 = .panicked ch32 ∧ ∀ _ : Tr, Kp ch32 w30)) w24)
    ∨ (∃ ch26, e25 = .panicked ch26 ∧ Kp ch26 w24))
theorem vc_lang_Parse_1 (c_f : Addr) (c_fq : Addr) (c_fqq : Addr) (K : Value → World → Prop) (Kp : List PanicEntry → World → Prop) (w : World) : vcFn P tau rho pan ann_lang_Parse_1 Go.Proofs.Tryd.f31 #[(.pointer (some c_f)), (.pointer (some c_fq)), (.pointer (some c_fqq))] K Kp w = sh_lang_Parse_1 c_f c_fq c_fqq K Kp w := by kernel_rfl
theorem ok_lang_Parse_1 : okFn P ann_lang_Parse_1 Go.Proofs.Tryd.f31 3 = true := by kernel_rfl
theorem of_lang_Parse_1 (c_f : Addr) (c_fq : Addr) (c_fqq : Addr) {K : Value → World → Prop} {Kp : List PanicEntry → World → Prop} {w : World} (h : sh_lang_Parse_1 c_f c_fq c_fqq K Kp w) : Calls P fn_lang_Parse_1 #[(.pointer (some c_f)), (.pointer (some c_fq)), (.pointer (some c_fqq))] w (RetP K Kp) := callsP_of_vc mixed Go.Proofs.Tryd.func31 ok_lang_Parse_1 (by rw [vc_lang_Parse_1]; exact h)

def ann_lang_read : Ann := { quiet := fun d => [12, 14, 23, 25, 28, 29, 30, 36, 38, 47, 52, 56].contains d, sig := fun r => (bif r == 11 then some ([0, 2, 3, 4, 5, 6, 7, 1, 8, 9, 10], [1, 8, 10]) else none), head := fun r => (bif r == 5 then 6 else 0), loop := fun r => (bif r == 3 then [(13, .int .i64)] else bif r == 9 then [(37, .int .i64)] else []) }
/-- millpond/lang.read -/
def sh_lang_read (s : ByteArray) (K : Value → World → Prop) (Kp : List PanicEntry → World → Prop) (w : World) : Prop :=
  Al (.cells #[(.int .i64 0), (.int .i64 0), (.int .i64 0), (.int .i64 0), (.int .i64 0)] 25) (fun p1 w2 => Calls P fn_strings_Split #[(.string s), (.string (ByteArray.mk #[32]))] w2
    fun e4 w3 => ∃ x5 : Sl, e4 = .returned (.slice x5.p x5.n x5.c) ∧ Calls P fn_lang_forms #[] w3 fun e7 w6 => ∃ x8 : Sl, e7 = .returned (.slice x8.p x8.n x8.c) ∧ ∃ (I9 : Int →
    World → Prop) (M10 : Int → World → Nat), I9 0 w6 ∧ ∀ _u12 : Nat → Value, ∀ x13 : Int, ∀ w11 : World, I9 x13 w11 → bif (decide (x13 < ((x8.n : Nat) : Int))) then (elAt x8.p x8.n
    x13 2 fun a14 => ∃ x15 : ByteArray, w11.cell? (a14.add 0) = some (.string x15) ∧ ∃ x16 : Sl, w11.cell? (a14.add 1) = some (.slice x16.p x16.n x16.c) ∧ Al (.cells #[(.string
    (ByteArray.mk #[])), (.slice none 0 0)] 58) (fun p17 w18 => StN [(.string x15), (.slice x16.p x16.n x16.c)] p17 (fun w19 => Dr (fun w20 => ∃ x21 : ByteArray, w20.cell? (p17.add
    0) = some (.string x21) ∧ elAt x5.p x5.n 0 1 fun a22 => ∃ x23 : ByteArray, w20.cell? a22 = some (.string x23) ∧ bif (!(x21.toList == x23.toList)) then ((I9 (IntKind.i64.wrap
    (x13 + 1)) w20 ∧ M10 (IntKind.i64.wrap (x13 + 1)) w20 < M10 x13 w11)) else (∃ x24 : Sl, w20.cell? (p17.add 1) = some (.slice x24.p x24.n x24.c) ∧ Calls P fn_lang_must #[(.bool
    (((x5.n : Nat) : Int) == (IntKind.i64.wrap (1 + ((x24.n : Nat) : Int)))))] w20 fun e26 w25 => (e26 = .returned (.tuple #[]) ∧ Al (.cells #[(.int .i64 0), (.int .i64 0), (.int
    .i64 0), (.int .i64 0), (.int .i64 0)] 25) (fun p28 w29 => StN [(.int .i64 x13), (.int .i64 0), (.int .i64 0), (.int .i64 0), (.int .i64 0)] p28 (fun w30 => ∃ x31 : Sl,
    w30.cell? (p17.add 1) = some (.slice x31.p x31.n x31.c) ∧ ∃ (I32 : Int → World → Prop) (M33 : Int → World → Nat), I32 0 w30 ∧ ∀ _u35 : Nat → Value, ∀ x36 : Int, ∀ w34 : World,
    I32 x36 w34 → bif (decide (x36 < ((x31.n : Nat) : Int))) then (elAt x31.p x31.n x36 1 fun a37 => ∃ x38 : Int, w34.cell? a37 = some (.int .i64 x38) ∧ Dr (fun w39 => elAt x5.p
    x5.n (IntKind.i64.wrap (x36 + 1)) 1 fun a40 => ∃ x41 : ByteArray, w39.cell? a40 = some (.string x41) ∧ Calls P fn_lang_field_place #[(.int .i64 x38), (.pointer (some p28))] w39
    fun e43 w42 => ∃ x44 : Option Addr, e43 = .returned (.pointer x44) ∧ ∃ x45 : ByteArray, w42.cell? a40 = some (.string x45) ∧ ((.string x45) : Value) = (.string x41) ∧ Calls P
    fn_lang_field_value #[(.int .i64 x38), (.string x41)] w42 fun e47 w46 => (∃ x49 : Int, e47 = .returned (.int .i64 x49) ∧ NN x44 fun a50 => St a50 (.int .i64 x49) (fun w51 =>
    (I32 (IntKind.i64.wrap (x36 + 1)) w51 ∧ M33 (IntKind.i64.wrap (x36 + 1)) w51 < M33 x36 w34)) w46) ∨ (∃ ch48, e47 = .panicked ch48 ∧ ∀ _ : Tr, Kp ch48 w46)) w34) else (∃ x52 :
    Int, w34.cell? (p28.add 0) = some (.int .i64 x52) ∧ ∃ x53 : Int, w34.cell? (p28.add 1) = some (.int .i64 x53) ∧ ∃ x54 : Int, w34.cell? (p28.add 2) = some (.int .i64 x54) ∧ ∃ x55
    : Int, w34.cell? (p28.add 3) = some (.int .i64 x55) ∧ ∃ x56 : Int, w34.cell? (p28.add 4) = some (.int .i64 x56) ∧ Calls P fn_lang_right #[(.agg #[(.int .i64 x52), (.int .i64
    x53), (.int .i64 x54), (.int .i64 x55), (.int .i64 x56)])] w34 fun e58 w57 => (e58 = .returned (.tuple #[]) ∧ ∃ x60 : Int, w57.cell? (p28.add 0) = some (.int .i64 x60) ∧ ∃ x61 :
    Int, w57.cell? (p28.add 1) = some (.int .i64 x61) ∧ ∃ x62 : Int, w57.cell? (p28.add 2) = some (.int .i64 x62) ∧ ∃ x63 : Int, w57.cell? (p28.add 3) = some (.int .i64 x63) ∧ ∃ x64
    : Int, w57.cell? (p28.add 4) = some (.int .i64 x64) ∧ StN [(.int .i64 x60), (.int .i64 x61), (.int .i64 x62), (.int .i64 x63), (.int .i64 x64)] p1 (fun w65 => ∃ r66 : Int,
    w65.cell? (p1.add 0) = some (.int .i64 r66) ∧ ∃ r67 : Int, w65.cell? (p1.add 1) = some (.int .i64 r67) ∧ ∃ r68 : Int, w65.cell? (p1.add 2) = some (.int .i64 r68) ∧ ∃ r69 : Int,
    w65.cell? (p1.add 3) = some (.int .i64 r69) ∧ ∃ r70 : Int, w65.cell? (p1.add 4) = some (.int .i64 r70) ∧ K (.agg #[(.int .i64 r66), (.int .i64 r67), (.int .i64 r68), (.int .i64
    r69), (.int .i64 r70)]) w65) w57) ∨ (∃ ch59, e58 = .panicked ch59 ∧ Kp ch59 w57))) w29) w25) ∨ (∃ ch27, e26 = .panicked ch27 ∧ Kp ch27 w25))) w19) w18) w11) else (Kp [pe (.iface
    68 (.agg #[]))] w11)) w
theorem vc_lang_read (s : ByteArray) (K : Value → World → Prop) (Kp : List PanicEntry → World → Prop) (w : World) : vcFn P tau rho pan ann_lang_read Go.Proofs.Tryd.f32 #[(.string s)] K Kp w = sh_lang_read s K Kp w := by kernel_rfl
theorem ok_lang_read : okFn P ann_lang_read Go.Proofs.Tryd.f32 1 = true := by kernel_rfl
theorem of_lang_read (s : ByteArray) {K : Value → World → Prop} {Kp : List PanicEntry → World → Prop} {w : World} (h : sh_lang_read s K Kp w) : Calls P fn_lang_read #[(.string s)] w (RetP K Kp) := callsP_of_vc mixed Go.Proofs.Tryd.func32 ok_lang_read (by rw [vc_lang_read]; exact h)

def ann_millpondref21_read : Ann := { quiet := fun d => [12, 13, 15, 18, 19, 23, 24, 34, 36, 38, 46, 50, 51, 58, 59, 66, 67, 74, 75, 83, 86, 87, 90, 92, 98, 105].contains d, sig := fun r => (bif r == 12 then some ([1, 4, 5, 6, 0, 2, 3, 7], [0]) else bif r == 30 then some ([0, 1, 3, 2, 4, 5, 6], [2, 5]) else none), loop := fun r => (bif r == 4 then [(4, .slice), (5, .int .i64), (6, .int .i64)] else bif r == 10 then [(7, .int .i64)] else bif r == 24 then [(9, .int .i64)] else []), join := fun r => (bif r == 7 then some [(25, .bool)] else bif r == 16 then some [] else bif r == 18 then some [] else bif r == 20 then some [] else bif r == 22 then some [] else bif r == 23 then some [(88, .bool)] else none) }
/-- millpond/millpondref21.read -/
def sh_millpondref21_read (line : ByteArray) (K : Value → World → Prop) (w : World) : Prop :=
  Al (.cells #[(.int .i64 0), (.int .i64 0), (.int .i64 0), (.int .i64 0), (.int .i64 0)] 25) (fun p1 w2 => ∃ (I3 : Sl → Int → Int → World → Prop) (M4 : Sl → Int → Int → World → Nat),
    I3 ⟨none, 0, 0⟩ 0 0 w2 ∧ ∀ _u6 : Nat → Value, ∀ w7 : Sl, ∀ from8 : Int, ∀ i9 : Int, ∀ w5 : World, I3 w7 from8 i9 w5 → bif (decide (i9 ≤ ((line.size : Nat) : Int))) then (∃ J10 :
    Bool → World → Prop, (bif (i9 == ((line.size : Nat) : Int)) then (J10 true w5) else (strAt line i9 fun b14 => J10 (b14 == 32) w5)) ∧ (∀ _u12 : Nat → Value, ∀ x13 : Bool, ∀ w11 :
    World, J10 x13 w11 → bif x13 then ((0 ≤ i9 ∧ i9 ≤ ((line.size : Nat) : Int)) ∧ (0 ≤ from8 ∧ from8 ≤ ((i9.toNat : Nat) : Int)) ∧ Al (.cells #[(.string (line.extract from8.toNat
    i9.toNat))] 9) (fun p15 w16 => ∃ x18 : Sl, ∃ w17 : World, Sem.run P (Builtin.append_ #[32, 32] 32 #[(.slice w7.p w7.n w7.c), (.slice (some p15) 1 1)]) w16 = .ok (.slice x18.p
    x18.n x18.c) w17 ∧ (I3 x18 (IntKind.i64.wrap (i9 + 1)) (IntKind.i64.wrap (i9 + 1)) w17 ∧ M4 x18 (IntKind.i64.wrap (i9 + 1)) (IntKind.i64.wrap (i9 + 1)) w17 < M4 w7 from8 i9 w5))
    w11) else ((I3 w7 from8 (IntKind.i64.wrap (i9 + 1)) w11 ∧ M4 w7 from8 (IntKind.i64.wrap (i9 + 1)) w11 < M4 w7 from8 i9 w5)))) else (∃ (I19 : Int → World → Prop) (M20 : Int →
    World → Nat), I19 0 w5 ∧ ∀ _u22 : Nat → Value, ∀ k23 : Int, ∀ w21 : World, I19 k23 w21 → bif (decide (k23 < 14)) then (Dr (fun w24 => elAt w7.p w7.n 0 1 fun a25 => ∃ x26 :
    ByteArray, w24.cell? a25 = some (.string x26) ∧ Calls P fn_millpondref21_Words #[] w24 fun e28 w27 => ∃ x29 : Sl, e28 = .returned (.slice x29.p x29.n x29.c) ∧ ∃ x30 : ByteArray,
    w27.cell? a25 = some (.string x30) ∧ ((.string x30) : Value) = (.string x26) ∧ elAt x29.p x29.n k23 1 fun a31 => ∃ x32 : ByteArray, w27.cell? a31 = some (.string x32) ∧ bif
    (!(x32.toList == x26.toList)) then ((I19 (IntKind.i64.wrap (k23 + 1)) w27 ∧ M20 (IntKind.i64.wrap (k23 + 1)) w27 < M20 k23 w21)) else (Al (.cells #[(.int .i64 0), (.int .i64 0),
    (.int .i64 0), (.int .i64 0), (.int .i64 0)] 25) (fun p33 w34 => StN [(.int .i64 k23), (.int .i64 0), (.int .i64 0), (.int .i64 0), (.int .i64 0)] p33 (fun w35 => ∃ J36 : World
    → Prop, (bif (decide (((w7.n : Nat) : Int) > 1)) then (elAt w7.p w7.n 1 1 fun a39 => ∃ x40 : ByteArray, w35.cell? a39 = some (.string x40) ∧ Calls P fn_millpondref21_digits
    #[(.string x40)] w35 fun e42 w41 => ∃ x43 : Int, e42 = .returned (.int .i64 x43) ∧ St (p33.add 1) (.int .i64 x43) (fun w44 => J36 w44) w41) else (J36 w35)) ∧ (∀ _u38 : Nat →
    Value, ∀ w37 : World, J36 w37 → ∃ J45 : World → Prop, (bif (decide (((w7.n : Nat) : Int) > 2)) then (elAt w7.p w7.n 2 1 fun a48 => ∃ x49 : ByteArray, w37.cell? a48 = some
    (.string x49) ∧ Calls P fn_millpondref21_digits #[(.string x49)] w37 fun e51 w50 => ∃ x52 : Int, e51 = .returned (.int .i64 x52) ∧ St (p33.add 2) (.int .i64 x52) (fun w53 => J45
    w53) w50) else (J45 w37)) ∧ (∀ _u47 : Nat → Value, ∀ w46 : World, J45 w46 → ∃ J54 : World → Prop, (bif (decide (((w7.n : Nat) : Int) > 3)) then (elAt w7.p w7.n 3 1 fun a57 => ∃
    x58 : ByteArray, w46.cell? a57 = some (.string x58) ∧ Calls P fn_millpondref21_digits #[(.string x58)] w46 fun e60 w59 => ∃ x61 : Int, e60 = .returned (.int .i64 x61) ∧ St
    (p33.add 3) (.int .i64 x61) (fun w62 => J54 w62) w59) else (J54 w46)) ∧ (∀ _u56 : Nat → Value, ∀ w55 : World, J54 w55 → ∃ J63 : World → Prop, (bif (decide (((w7.n : Nat) : Int)
    > 4)) then (elAt w7.p w7.n 4 1 fun a66 => ∃ x67 : ByteArray, w55.cell? a66 = some (.string x67) ∧ Calls P fn_millpondref21_digits #[(.string x67)] w55 fun e69 w68 => ∃ x70 :
    Int, e69 = .returned (.int .i64 x70) ∧ St (p33.add 4) (.int .i64 x70) (fun w71 => J63 w71) w68) else (J63 w55)) ∧ (∀ _u65 : Nat → Value, ∀ w64 : World, J63 w64 → ∃ J72 : Bool →
    World → Prop, (∃ x76 : Int, w64.cell? (p33.add 0) = some (.int .i64 x76) ∧ bif (x76 == 2) then (J72 (decide (((w7.n : Nat) : Int) > 2)) w64) else (J72 false w64)) ∧ (∀ _u74 :
    Nat → Value, ∀ x75 : Bool, ∀ w73 : World, J72 x75 w73 → bif x75 then (∃ (I77 : Int → World → Prop) (M78 : Int → World → Nat), I77 0 w73 ∧ ∀ _u80 : Nat → Value, ∀ b81 : Int, ∀
    w79 : World, I77 b81 w79 → bif (decide (b81 < 5)) then (St (p33.add 2) (.int .i64 b81) (fun w82 => ∃ x83 : Int, w82.cell? (p33.add 0) = some (.int .i64 x83) ∧ ∃ x84 : Int,
    w82.cell? (p33.add 1) = some (.int .i64 x84) ∧ ∃ x85 : Int, w82.cell? (p33.add 2) = some (.int .i64 x85) ∧ ∃ x86 : Int, w82.cell? (p33.add 3) = some (.int .i64 x86) ∧ ∃ x87 :
    Int, w82.cell? (p33.add 4) = some (.int .i64 x87) ∧ Calls P fn_millpondref21_Line #[(.agg #[(.int .i64 x83), (.int .i64 x84), (.int .i64 x85), (.int .i64 x86), (.int .i64
    x87)])] w82 fun e89 w88 => ∃ x90 : ByteArray, e89 = .returned (.string x90) ∧ bif (x90.toList == line.toList) then (∃ x91 : Int, w88.cell? (p33.add 0) = some (.int .i64 x91) ∧ ∃
    x92 : Int, w88.cell? (p33.add 1) = some (.int .i64 x92) ∧ ∃ x93 : Int, w88.cell? (p33.add 2) = some (.int .i64 x93) ∧ ∃ x94 : Int, w88.cell? (p33.add 3) = some (.int .i64 x94) ∧
    ∃ x95 : Int, w88.cell? (p33.add 4) = some (.int .i64 x95) ∧ StN [(.int .i64 x91), (.int .i64 x92), (.int .i64 x93), (.int .i64 x94), (.int .i64 x95)] p1 (fun w96 => ∃ r97 : Int,
    w96.cell? (p1.add 0) = some (.int .i64 r97) ∧ ∃ r98 : Int, w96.cell? (p1.add 1) = some (.int .i64 r98) ∧ ∃ r99 : Int, w96.cell? (p1.add 2) = some (.int .i64 r99) ∧ ∃ r100 : Int,
    w96.cell? (p1.add 3) = some (.int .i64 r100) ∧ ∃ r101 : Int, w96.cell? (p1.add 4) = some (.int .i64 r101) ∧ K (.tuple #[(.agg #[(.int .i64 r97), (.int .i64 r98), (.int .i64
    r99), (.int .i64 r100), (.int .i64 r101)]), (.bool true)]) w96) w88) else ((I77 (IntKind.i64.wrap (b81 + 1)) w88 ∧ M78 (IntKind.i64.wrap (b81 + 1)) w88 < M78 b81 w79))) w79)
    else (∃ x102 : Int, w79.cell? (p33.add 0) = some (.int .i64 x102) ∧ ∃ x103 : Int, w79.cell? (p33.add 1) = some (.int .i64 x103) ∧ ∃ x104 : Int, w79.cell? (p33.add 2) = some
    (.int .i64 x104) ∧ ∃ x105 : Int, w79.cell? (p33.add 3) = some (.int .i64 x105) ∧ ∃ x106 : Int, w79.cell? (p33.add 4) = some (.int .i64 x106) ∧ StN [(.int .i64 x102), (.int .i64
    x103), (.int .i64 x104), (.int .i64 x105), (.int .i64 x106)] p1 (fun w107 => ∃ r108 : Int, w107.cell? (p1.add 0) = some (.int .i64 r108) ∧ ∃ r109 : Int, w107.cell? (p1.add 1) =
    some (.int .i64 r109) ∧ ∃ r110 : Int, w107.cell? (p1.add 2) = some (.int .i64 r110) ∧ ∃ r111 : Int, w107.cell? (p1.add 3) = some (.int .i64 r111) ∧ ∃ r112 : Int, w107.cell?
    (p1.add 4) = some (.int .i64 r112) ∧ K (.tuple #[(.agg #[(.int .i64 r108), (.int .i64 r109), (.int .i64 r110), (.int .i64 r111), (.int .i64 r112)]), (.bool false)]) w107) w79))
    else (Dr (fun w113 => ∃ x114 : Int, w113.cell? (p33.add 0) = some (.int .i64 x114) ∧ ∃ x115 : Int, w113.cell? (p33.add 1) = some (.int .i64 x115) ∧ ∃ x116 : Int, w113.cell?
    (p33.add 2) = some (.int .i64 x116) ∧ ∃ x117 : Int, w113.cell? (p33.add 3) = some (.int .i64 x117) ∧ ∃ x118 : Int, w113.cell? (p33.add 4) = some (.int .i64 x118) ∧ ∃ x119 : Int,
    w113.cell? (p33.add 0) = some (.int .i64 x119) ∧ ∃ x120 : Int, w113.cell? (p33.add 1) = some (.int .i64 x120) ∧ ∃ x121 : Int, w113.cell? (p33.add 2) = some (.int .i64 x121) ∧ ∃
    x122 : Int, w113.cell? (p33.add 3) = some (.int .i64 x122) ∧ ∃ x123 : Int, w113.cell? (p33.add 4) = some (.int .i64 x123) ∧ Calls P fn_millpondref21_Line #[(.agg #[(.int .i64
    x119), (.int .i64 x120), (.int .i64 x121), (.int .i64 x122), (.int .i64 x123)])] w113 fun e125 w124 => ∃ x126 : ByteArray, e125 = .returned (.string x126) ∧ ∃ x127 : Int,
    w124.cell? (p33.add 0) = some (.int .i64 x127) ∧ ∃ x128 : Int, w124.cell? (p33.add 1) = some (.int .i64 x128) ∧ ∃ x129 : Int, w124.cell? (p33.add 2) = some (.int .i64 x129) ∧ ∃
    x130 : Int, w124.cell? (p33.add 3) = some (.int .i64 x130) ∧ ∃ x131 : Int, w124.cell? (p33.add 4) = some (.int .i64 x131) ∧ ((.agg #[(.int .i64 x127), (.int .i64 x128), (.int
    .i64 x129), (.int .i64 x130), (.int .i64 x131)]) : Value) = (.agg #[(.int .i64 x114), (.int .i64 x115), (.int .i64 x116), (.int .i64 x117), (.int .i64 x118)]) ∧ StN [(.int .i64
    x114), (.int .i64 x115), (.int .i64 x116), (.int .i64 x117), (.int .i64 x118)] p1 (fun w132 => ∃ r133 : Int, w132.cell? (p1.add 0) = some (.int .i64 r133) ∧ ∃ r134 : Int,
    w132.cell? (p1.add 1) = some (.int .i64 r134) ∧ ∃ r135 : Int, w132.cell? (p1.add 2) = some (.int .i64 r135) ∧ ∃ r136 : Int, w132.cell? (p1.add 3) = some (.int .i64 r136) ∧ ∃
    r137 : Int, w132.cell? (p1.add 4) = some (.int .i64 r137) ∧ K (.tuple #[(.agg #[(.int .i64 r133), (.int .i64 r134), (.int .i64 r135), (.int .i64 r136), (.int .i64 r137)]),
    (.bool (x126.toList == line.toList))]) w132) w124) w73))))))) w34) w27)) w21) else (StN [(.int .i64 0), (.int .i64 0), (.int .i64 0), (.int .i64 0), (.int .i64 0)] p1 (fun w138
    => ∃ r139 : Int, w138.cell? (p1.add 0) = some (.int .i64 r139) ∧ ∃ r140 : Int, w138.cell? (p1.add 1) = some (.int .i64 r140) ∧ ∃ r141 : Int, w138.cell? (p1.add 2) = some (.int
    .i64 r141) ∧ ∃ r142 : Int, w138.cell? (p1.add 3) = some (.int .i64 r142) ∧ ∃ r143 : Int, w138.cell? (p1.add 4) = some (.int .i64 r143) ∧ K (.tuple #[(.agg #[(.int .i64 r139),
    (.int .i64 r140), (.int .i64 r141), (.int .i64 r142), (.int .i64 r143)]), (.bool false)]) w138) w21))) w
theorem vc_millpondref21_read (line : ByteArray) (K : Value → World → Prop) (w : World) : vcFn P tau rho pan ann_millpondref21_read Go.Proofs.Tryd.f33 #[(.string line)] K (fun _ _ => False) w = sh_millpondref21_read line K w := by kernel_rfl
theorem ok_millpondref21_read : okFn P ann_millpondref21_read Go.Proofs.Tryd.f33 1 = true := by kernel_rfl
theorem of_millpondref21_read (line : ByteArray) {K : Value → World → Prop} {w : World} (h : sh_millpondref21_read line K w) : Calls P fn_millpondref21_read #[(.string line)] w (Ret K) := calls_of_vc mixed Go.Proofs.Tryd.func33 ok_millpondref21_read (by rw [vc_millpondref21_read]; exact h)

def ann_lang_field_show : Ann := { quiet := fun d => [7, 9, 13, 14, 22, 24, 27, 33, 36].contains d, join := fun r => (bif r == 4 then some [] else none) }
/-- (millpond/lang.field).show -/
def sh_lang_field_show (f : Int) (n : Int) (K : Value → World → Prop) (Kp : List PanicEntry → World → Prop) (w : World) : Prop :=
  bif (f == 4) then (∃ J1 : World → Prop, (bif (decide ((0 : Int) ≤ n)) then (Calls P fn_lang_limits #[] w fun e5 w4 => ∃ x6 : Sl, e5 = .returned (.slice x6.p x6.n x6.c) ∧ Calls P
    fn_lang_must #[(.bool (decide (n < ((x6.n : Nat) : Int))))] w4 fun e8 w7 => (e8 = .returned (.tuple #[]) ∧ J1 w7) ∨ (∃ ch9, e8 = .panicked ch9 ∧ Kp ch9 w7)) else (Calls P
    fn_lang_must #[(.bool false)] w fun e11 w10 => (e11 = .returned (.tuple #[]) ∧ J1 w10) ∨ (∃ ch12, e11 = .panicked ch12 ∧ Kp ch12 w10))) ∧ (∀ _u3 : Nat → Value, ∀ w2 : World, J1
    w2 → Calls P fn_lang_limits #[] w2 fun e14 w13 => ∃ x15 : Sl, e14 = .returned (.slice x15.p x15.n x15.c) ∧ elAt x15.p x15.n n 1 fun a16 => ∃ x17 : ByteArray, w13.cell? a16 =
    some (.string x17) ∧ K (.string x17) w13)) else (bif (f == 5) then (bif (decide ((0 : Int) ≤ n)) then (Calls P fn_lang_must #[(.bool (decide (n ≤ 1099511627776)))] w fun e19 w18
    => (e19 = .returned (.tuple #[]) ∧ Calls P fn_control_Show #[(.int .i64 n)] w18 fun e22 w21 => ∃ x23 : ByteArray, e22 = .returned (.string x23) ∧ K (.string x23) w21) ∨ (∃ ch20,
    e19 = .panicked ch20 ∧ Kp ch20 w18)) else (Calls P fn_lang_must #[(.bool false)] w fun e25 w24 => (e25 = .returned (.tuple #[]) ∧ Calls P fn_control_Show #[(.int .i64 n)] w24
    fun e28 w27 => ∃ x29 : ByteArray, e28 = .returned (.string x29) ∧ K (.string x29) w27) ∨ (∃ ch26, e25 = .panicked ch26 ∧ Kp ch26 w24))) else (bif (decide ((0 : Int) ≤ n)) then
    (Calls P fn_lang_must #[(.bool (decide (n < 2097152)))] w fun e31 w30 => (e31 = .returned (.tuple #[]) ∧ Calls P fn_strconv_Itoa #[(.int .i64 n)] w30 fun e34 w33 => ∃ x35 :
    ByteArray, e34 = .returned (.string x35) ∧ K (.string x35) w33) ∨ (∃ ch32, e31 = .panicked ch32 ∧ Kp ch32 w30)) else (Calls P fn_lang_must #[(.bool false)] w fun e37 w36 => (e37
    = .returned (.tuple #[]) ∧ Calls P fn_strconv_Itoa #[(.int .i64 n)] w36 fun e40 w39 => ∃ x41 : ByteArray, e40 = .returned (.string x41) ∧ K (.string x41) w39) ∨ (∃ ch38, e37 =
    .panicked ch38 ∧ Kp ch38 w36))))
theorem vc_lang_field_show (f : Int) (n : Int) (K : Value → World → Prop) (Kp : List PanicEntry → World → Prop) (w : World) : vcFn P tau rho pan ann_lang_field_show Go.Proofs.Tryd.f36 #[(.int .i64 f), (.int .i64 n)] K Kp w = sh_lang_field_show f n K Kp w := by kernel_rfl
theorem ok_lang_field_show : okFn P ann_lang_field_show Go.Proofs.Tryd.f36 2 = true := by kernel_rfl
theorem of_lang_field_show (f : Int) (n : Int) {K : Value → World → Prop} {Kp : List PanicEntry → World → Prop} {w : World} (h : sh_lang_field_show f n K Kp w) : Calls P fn_lang_field_show #[(.int .i64 f), (.int .i64 n)] w (RetP K Kp) := callsP_of_vc mixed Go.Proofs.Tryd.func36 ok_lang_field_show (by rw [vc_lang_field_show]; exact h)

def ann_lang_field_place : Ann := { quiet := fun d => [7, 12, 13, 18, 19].contains d, join := fun r => (bif r == 6 then some [(11, .bool)] else none) }
/-- (millpond/lang.field).place -/
def sh_lang_field_place (f : Int) (o : Option Addr) (K : Value → World → Prop) (w : World) : Prop :=
  bif (f == 0) then (NN o fun a1 => K (.pointer (some (a1.add 1))) w) else (∃ J2 : Bool → World → Prop, (bif (f == 1) then (J2 (f == 1) w) else (J2 (f == 4) w)) ∧ (∀ _u4 : Nat →
    Value, ∀ x5 : Bool, ∀ w3 : World, J2 x5 w3 → bif x5 then (NN o fun a6 => K (.pointer (some (a6.add 2))) w3) else (bif (f == 2) then (bif (f == 2) then (NN o fun a7 => K
    (.pointer (some (a7.add 3))) w3) else (NN o fun a8 => K (.pointer (some (a8.add 4))) w3)) else (bif (f == 5) then (NN o fun a9 => K (.pointer (some (a9.add 3))) w3) else (NN o
    fun a10 => K (.pointer (some (a10.add 4))) w3)))))
theorem vc_lang_field_place (f : Int) (o : Option Addr) (K : Value → World → Prop) (w : World) : vcFn P tau rho pan ann_lang_field_place Go.Proofs.Tryd.f37 #[(.int .i64 f), (.pointer o)] K (fun _ _ => False) w = sh_lang_field_place f o K w := by kernel_rfl
theorem ok_lang_field_place : okFn P ann_lang_field_place Go.Proofs.Tryd.f37 2 = true := by kernel_rfl
theorem of_lang_field_place (f : Int) (o : Option Addr) {K : Value → World → Prop} {w : World} (h : sh_lang_field_place f o K w) : Calls P fn_lang_field_place #[(.int .i64 f), (.pointer o)] w (Ret K) := calls_of_vc mixed Go.Proofs.Tryd.func37 ok_lang_field_place (by rw [vc_lang_field_place]; exact h)

def ann_lang_right : Ann := { quiet := fun d => [4, 8, 13].contains d }
/-- millpond/lang.right -/
def sh_lang_right (o_0 : Int) (o_1 : Int) (o_2 : Int) (o_3 : Int) (o_4 : Int) (K : Value → World → Prop) (Kp : List PanicEntry → World → Prop) (w : World) : Prop :=
  Al (.cells #[(.int .i64 o_0), (.int .i64 o_1), (.int .i64 o_2), (.int .i64 o_3), (.int .i64 o_4)] 25) (fun p1 w2 => ∃ x3 : Int, w2.cell? (p1.add 0) = some (.int .i64 x3) ∧ bif (x3
    != 2) then (Calls P fn_lang_must #[(.bool true)] w2 fun e5 w4 => (e5 = .returned (.tuple #[]) ∧ K (.tuple #[]) w4) ∨ (∃ ch6, e5 = .panicked ch6 ∧ Kp ch6 w4)) else (∃ x7 : Int,
    w2.cell? (p1.add 2) = some (.int .i64 x7) ∧ bif (x7 != 4) then (Calls P fn_lang_must #[(.bool true)] w2 fun e9 w8 => (e9 = .returned (.tuple #[]) ∧ K (.tuple #[]) w8) ∨ (∃ ch10,
    e9 = .panicked ch10 ∧ Kp ch10 w8)) else (∃ x11 : Int, w2.cell? (p1.add 3) = some (.int .i64 x11) ∧ Calls P fn_lang_must #[(.bool (decide (x11 ≤ 1)))] w2 fun e13 w12 => (e13 =
    .returned (.tuple #[]) ∧ K (.tuple #[]) w12) ∨ (∃ ch14, e13 = .panicked ch14 ∧ Kp ch14 w12)))) w
theorem vc_lang_right (o_0 : Int) (o_1 : Int) (o_2 : Int) (o_3 : Int) (o_4 : Int) (K : Value → World → Prop) (Kp : List PanicEntry → World → Prop) (w : World) : vcFn P tau rho pan ann_lang_right Go.Proofs.Tryd.f38 #[(.agg #[(.int .i64 o_0), (.int .i64 o_1), (.int .i64 o_2), (.int .i64 o_3), (.int .i64 o_4)])] K Kp w = sh_lang_right o_0 o_1 o_2 o_3 o_4 K Kp w := by kernel_rfl
theorem ok_lang_right : okFn P ann_lang_right Go.Proofs.Tryd.f38 1 = true := by kernel_rfl
theorem of_lang_right (o_0 : Int) (o_1 : Int) (o_2 : Int) (o_3 : Int) (o_4 : Int) {K : Value → World → Prop} {Kp : List PanicEntry → World → Prop} {w : World} (h : sh_lang_right o_0 o_1 o_2 o_3 o_4 K Kp w) : Calls P fn_lang_right #[(.agg #[(.int .i64 o_0), (.int .i64 o_1), (.int .i64 o_2), (.int .i64 o_3), (.int .i64 o_4)])] w (RetP K Kp) := callsP_of_vc mixed Go.Proofs.Tryd.func38 ok_lang_right (by rw [vc_lang_right]; exact h)

def ann_lang_row : Ann := {}
/-- millpond/lang.row -/
def sh_lang_row (word : ByteArray) (fields : Sl) (K : Value → World → Prop) (w : World) : Prop :=
  Al (.cells #[(.string (ByteArray.mk #[])), (.slice none 0 0)] 58) (fun p1 w2 => StN [(.string word), (.slice fields.p fields.n fields.c)] p1 (fun w3 => ∃ r4 : ByteArray, w3.cell?
    (p1.add 0) = some (.string r4) ∧ ∃ r5 : Sl, w3.cell? (p1.add 1) = some (.slice r5.p r5.n r5.c) ∧ K (.agg #[(.string r4), (.slice r5.p r5.n r5.c)]) w3) w2) w
theorem vc_lang_row (word : ByteArray) (fields : Sl) (K : Value → World → Prop) (w : World) : vcFn P tau rho pan ann_lang_row Go.Proofs.Tryd.f40 #[(.string word), (.slice fields.p fields.n fields.c)] K (fun _ _ => False) w = sh_lang_row word fields K w := by kernel_rfl
theorem ok_lang_row : okFn P ann_lang_row Go.Proofs.Tryd.f40 2 = true := by kernel_rfl
theorem of_lang_row (word : ByteArray) (fields : Sl) {K : Value → World → Prop} {w : World} (h : sh_lang_row word fields K w) : Calls P fn_lang_row #[(.string word), (.slice fields.p fields.n fields.c)] w (Ret K) := calls_of_vc mixed Go.Proofs.Tryd.func40 ok_lang_row (by rw [vc_lang_row]; exact h)

def ann_lang_field_value : Ann := { quiet := fun d => [11, 13, 15, 21, 23, 26, 29, 44].contains d, loop := fun r => (bif r == 3 then [(14, .int .i64)] else []), join := fun r => (bif r == 9 then some [] else bif r == 11 then some [(30, .bool)] else bif r == 14 then some [(7, .int .i64)] else none) }
/-- (millpond/lang.field).value -/
def sh_lang_field_value (f : Int) (s : ByteArray) (K : Value → World → Prop) (Kp : List PanicEntry → World → Prop) (w : World) : Prop :=
  ∃ J1 : World → Prop, (bif (f == 4) then (Calls P fn_lang_limits #[] w fun e5 w4 => ∃ x6 : Sl, e5 = .returned (.slice x6.p x6.n x6.c) ∧ ∃ (I7 : Int → World → Prop) (M8 : Int → World
    → Nat), I7 0 w4 ∧ ∀ _u10 : Nat → Value, ∀ x11 : Int, ∀ w9 : World, I7 x11 w9 → bif (decide (x11 < ((x6.n : Nat) : Int))) then (elAt x6.p x6.n x11 1 fun a12 => ∃ x13 : ByteArray,
    w9.cell? a12 = some (.string x13) ∧ bif (x13.toList == s.toList) then (K (.int .i64 x11) w9) else ((I7 (IntKind.i64.wrap (x11 + 1)) w9 ∧ M8 (IntKind.i64.wrap (x11 + 1)) w9 < M8
    x11 w9))) else (Calls P fn_lang_must #[(.bool false)] w9 fun e15 w14 => (e15 = .returned (.tuple #[]) ∧ J1 w14) ∨ (∃ ch16, e15 = .panicked ch16 ∧ Kp ch16 w14))) else (J1 w)) ∧
    (∀ _u3 : Nat → Value, ∀ w2 : World, J1 w2 → ∃ J17 : Int → World → Prop, (∃ J21 : Bool → World → Prop, (bif (f != 5) then (J21 true w2) else (J21 (!(s.toList == (ByteArray.mk
    #[109, 97, 120]).toList)) w2)) ∧ (∀ _u23 : Nat → Value, ∀ x24 : Bool, ∀ w22 : World, J21 x24 w22 → bif x24 then (Calls P fn_strconv_Atoi #[(.string s)] w22 fun e26 w25 => ∃ x27
    : Int, ∃ x28 : Value, e26 = .returned (.tuple #[(.int .i64 x27), x28]) ∧ ∃ x30 : Bool, ∃ w29 : World, Sem.run P (eqGuard .eql 48 (.tmp 36) (.const .nilIface) x28 .nilIface >>=
    fun _ => binOp .eql 48 x28 .nilIface) w25 = .ok (.bool x30) w29 ∧ Calls P fn_lang_must #[(.bool x30)] w29 fun e32 w31 => (e32 = .returned (.tuple #[]) ∧ J17 x27 w31) ∨ (∃ ch33,
    e32 = .panicked ch33 ∧ Kp ch33 w31)) else (J17 1099511627776 w22))) ∧ (∀ _u19 : Nat → Value, ∀ n20 : Int, ∀ w18 : World, J17 n20 w18 → Calls P fn_lang_field_show #[(.int .i64
    f), (.int .i64 n20)] w18 fun e35 w34 => (∃ x37 : ByteArray, e35 = .returned (.string x37) ∧ Calls P fn_lang_must #[(.bool (x37.toList == s.toList))] w34 fun e39 w38 => (e39 =
    .returned (.tuple #[]) ∧ K (.int .i64 n20) w38) ∨ (∃ ch40, e39 = .panicked ch40 ∧ Kp ch40 w38)) ∨ (∃ ch36, e35 = .panicked ch36 ∧ Kp ch36 w34)))
theorem vc_lang_field_value (f : Int) (s : ByteArray) (K : Value → World → Prop) (Kp : List PanicEntry → World → Prop) (w : World) : vcFn P tau rho pan ann_lang_field_value Go.Proofs.Tryd.f43 #[(.int .i64 f), (.string s)] K Kp w = sh_lang_field_value f s K Kp w := by kernel_rfl
theorem ok_lang_field_value : okFn P ann_lang_field_value Go.Proofs.Tryd.f43 2 = true := by kernel_rfl
theorem of_lang_field_value (f : Int) (s : ByteArray) {K : Value → World → Prop} {Kp : List PanicEntry → World → Prop} {w : World} (h : sh_lang_field_value f s K Kp w) : Calls P fn_lang_field_value #[(.int .i64 f), (.string s)] w (RetP K Kp) := callsP_of_vc mixed Go.Proofs.Tryd.func43 ok_lang_field_value (by rw [vc_lang_field_value]; exact h)

def ann_millpondref21_digits : Ann := { quiet := fun d => [7, 8, 11, 14, 17, 18, 22, 23, 26, 29, 30, 31, 32, 34].contains d, loop := fun r => (bif r == 3 then [(3, .int .i64), (4, .int .i64)] else []), join := fun r => (bif r == 5 then some [] else bif r == 6 then some [(24, .bool)] else none) }
/-- millpond/millpondref21.digits -/
def sh_millpondref21_digits (s : ByteArray) (K : Value → World → Prop) (w : World) : Prop :=
  ∃ (I1 : Int → Int → World → Prop) (M2 : Int → Int → World → Nat), I1 0 0 w ∧ ∀ _u4 : Nat → Value, ∀ n5 : Int, ∀ i6 : Int, ∀ w3 : World, I1 n5 i6 w3 → ∃ J7 : World → Prop, (bif
    (decide (i6 < ((s.size : Nat) : Int))) then (bif (decide (i6 < 14)) then (J7 w3) else (bif (s.toList == (ByteArray.mk #[109, 97, 120]).toList) then (K (.int .i64 1099511627776)
    w3) else (K (.int .i64 n5) w3))) else (bif (s.toList == (ByteArray.mk #[109, 97, 120]).toList) then (K (.int .i64 1099511627776) w3) else (K (.int .i64 n5) w3))) ∧ (∀ _u9 : Nat
    → Value, ∀ w8 : World, J7 w8 → ∃ J10 : Bool → World → Prop, (strAt s i6 fun b14 => bif (decide (b14 ≥ 48)) then (strAt s i6 fun b15 => J10 (decide (b15 ≤ 57)) w8) else (J10
    false w8)) ∧ (∀ _u12 : Nat → Value, ∀ x13 : Bool, ∀ w11 : World, J10 x13 w11 → bif x13 then (strAt s i6 fun b16 => (I1 (IntKind.i64.wrap ((IntKind.i64.wrap (n5 * 10)) +
    (IntKind.i64.wrap (IntKind.u8.wrap (b16 - 48))))) (IntKind.i64.wrap (i6 + 1)) w11 ∧ M2 (IntKind.i64.wrap ((IntKind.i64.wrap (n5 * 10)) + (IntKind.i64.wrap (IntKind.u8.wrap (b16
    - 48))))) (IntKind.i64.wrap (i6 + 1)) w11 < M2 n5 i6 w3)) else ((I1 n5 (IntKind.i64.wrap (i6 + 1)) w11 ∧ M2 n5 (IntKind.i64.wrap (i6 + 1)) w11 < M2 n5 i6 w3))))
theorem vc_millpondref21_digits (s : ByteArray) (K : Value → World → Prop) (w : World) : vcFn P tau rho pan ann_millpondref21_digits Go.Proofs.Tryd.f44 #[(.string s)] K (fun _ _ => False) w = sh_millpondref21_digits s K w := by kernel_rfl
theorem ok_millpondref21_digits : okFn P ann_millpondref21_digits Go.Proofs.Tryd.f44 1 = true := by kernel_rfl
theorem of_millpondref21_digits (s : ByteArray) {K : Value → World → Prop} {w : World} (h : sh_millpondref21_digits s K w) : Calls P fn_millpondref21_digits #[(.string s)] w (Ret K) := calls_of_vc mixed Go.Proofs.Tryd.func44 ok_millpondref21_digits (by rw [vc_millpondref21_digits]; exact h)

def ann_lang_limits : Ann := {}
/-- millpond/lang.limits -/
def sh_lang_limits (K : Value → World → Prop) (w : World) : Prop :=
  Al (.cells #[(.string (ByteArray.mk #[109, 105, 110])), (.string (ByteArray.mk #[108, 111, 119])), (.string (ByteArray.mk #[109, 97, 120])), (.string (ByteArray.mk #[115, 119, 97,
    112])), (.string (ByteArray.mk #[119, 104, 111, 108, 101]))] 9) (fun p1 w2 => K (.slice (some p1) 5 5) w2) w
theorem vc_lang_limits (K : Value → World → Prop) (w : World) : vcFn P tau rho pan ann_lang_limits Go.Proofs.Tryd.f46 #[] K (fun _ _ => False) w = sh_lang_limits K w := by kernel_rfl
theorem ok_lang_limits : okFn P ann_lang_limits Go.Proofs.Tryd.f46 0 = true := by kernel_rfl
theorem of_lang_limits {K : Value → World → Prop} {w : World} (h : sh_lang_limits K w) : Calls P fn_lang_limits #[] w (Ret K) := calls_of_vc mixed Go.Proofs.Tryd.func46 ok_lang_limits (by rw [vc_lang_limits]; exact h)

def ann_control_Show : Ann := { quiet := fun d => [4].contains d }
/-- millpond/control.Show -/
def sh_control_Show (n : Int) (K : Value → World → Prop) (w : World) : Prop :=
  bif (n == 1099511627776) then (K (.string (ByteArray.mk #[109, 97, 120])) w) else (Calls P fn_strconv_Itoa #[(.int .i64 n)] w fun e2 w1 => ∃ x3 : ByteArray, e2 = .returned (.string
    x3) ∧ K (.string x3) w1)
theorem vc_control_Show (n : Int) (K : Value → World → Prop) (w : World) : vcFn P tau rho pan ann_control_Show Go.Proofs.Tryd.f47 #[(.int .i64 n)] K (fun _ _ => False) w = sh_control_Show n K w := by kernel_rfl
theorem ok_control_Show : okFn P ann_control_Show Go.Proofs.Tryd.f47 1 = true := by kernel_rfl
theorem of_control_Show (n : Int) {K : Value → World → Prop} {w : World} (h : sh_control_Show n K w) : Calls P fn_control_Show #[(.int .i64 n)] w (Ret K) := calls_of_vc mixed Go.Proofs.Tryd.func47 ok_control_Show (by rw [vc_control_Show]; exact h)

def ann_unicode_utf8_RuneCountInString : Ann := { quiet := fun d => [8].contains d, loop := fun r => (bif r == 2 then [(2, .int .i64)] else []) }
/-- unicode/utf8.RuneCountInString -/
def sh_unicode_utf8_RuneCountInString (s : ByteArray) (K : Value → World → Prop) (w : World) : Prop :=
  ∃ x2 : Option Addr, ∃ w1 : World, Sem.run P (Instr.range 9 (.string s)) w = .ok (.pointer x2) w1 ∧ ∃ (I3 : Int → World → Prop) (M4 : Int → World → Nat), I3 0 w1 ∧ ∀ _u6 : Nat →
    Value, ∀ n7 : Int, ∀ w5 : World, I3 n7 w5 → (∃ w8 : World, Sem.run P (Instr.next (.pointer x2) true 0) w5 = .ok (.tuple #[(.bool false)]) w8 ∧ K (.int .i64 n7) w8) ∨ (∃ k10 :
    Int, ∃ v11 : Int, ∃ w9 : World, Sem.run P (Instr.next (.pointer x2) true 0) w5 = .ok (.tuple #[(.bool true), (.int .i64 k10), (.int .i32 v11)]) w9 ∧ (I3 (IntKind.i64.wrap (n7 +
    1)) w9 ∧ M4 (IntKind.i64.wrap (n7 + 1)) w9 < M4 n7 w5))
theorem vc_unicode_utf8_RuneCountInString (s : ByteArray) (K : Value → World → Prop) (w : World) : vcFn P tau rho pan ann_unicode_utf8_RuneCountInString Go.Proofs.Tryd.f68 #[(.string s)] K (fun _ _ => False) w = sh_unicode_utf8_RuneCountInString s K w := by kernel_rfl
theorem ok_unicode_utf8_RuneCountInString : okFn P ann_unicode_utf8_RuneCountInString Go.Proofs.Tryd.f68 1 = true := by kernel_rfl
theorem of_unicode_utf8_RuneCountInString (s : ByteArray) {K : Value → World → Prop} {w : World} (h : sh_unicode_utf8_RuneCountInString s K w) : Calls P fn_unicode_utf8_RuneCountInString #[(.string s)] w (Ret K) := calls_of_vc mixed Go.Proofs.Tryd.func68 ok_unicode_utf8_RuneCountInString (by rw [vc_unicode_utf8_RuneCountInString]; exact h)

def ann_unicode_utf8_DecodeRuneInString : Ann := { quiet := fun d => [5, 8, 9, 12, 13].contains d, join := fun r => (bif r == 2 then some [(10, .bool)] else none) }
/-- unicode/utf8.DecodeRuneInString -/
def sh_unicode_utf8_DecodeRuneInString (s : ByteArray) (K : Value → World → Prop) (w : World) : Prop :=
  ∃ J1 : Bool → World → Prop, (bif (!(s.toList == (ByteArray.mk #[]).toList)) then (strAt s 0 fun b5 => J1 (decide (b5 < 128)) w) else (J1 false w)) ∧ (∀ _u3 : Nat → Value, ∀ x4 :
    Bool, ∀ w2 : World, J1 x4 w2 → bif x4 then (strAt s 0 fun b6 => K (.tuple #[(.int .i32 (IntKind.i32.wrap b6)), (.int .i64 1)]) w2) else (Calls P
    fn_unicode_utf8_decodeRuneInStringSlow #[(.string s)] w2 fun e8 w7 => ∃ x9 : Int, ∃ x10 : Int, e8 = .returned (.tuple #[(.int .i32 x9), (.int .i64 x10)]) ∧ K (.tuple #[(.int
    .i32 x9), (.int .i64 x10)]) w7))
theorem vc_unicode_utf8_DecodeRuneInString (s : ByteArray) (K : Value → World → Prop) (w : World) : vcFn P tau rho pan ann_unicode_utf8_DecodeRuneInString Go.Proofs.Tryd.f69 #[(.string s)] K (fun _ _ => False) w = sh_unicode_utf8_DecodeRuneInString s K w := by kernel_rfl
theorem ok_unicode_utf8_DecodeRuneInString : okFn P ann_unicode_utf8_DecodeRuneInString Go.Proofs.Tryd.f69 1 = true := by kernel_rfl
theorem of_unicode_utf8_DecodeRuneInString (s : ByteArray) {K : Value → World → Prop} {w : World} (h : sh_unicode_utf8_DecodeRuneInString s K w) : Calls P fn_unicode_utf8_DecodeRuneInString #[(.string s)] w (Ret K) := calls_of_vc mixed Go.Proofs.Tryd.func69 ok_unicode_utf8_DecodeRuneInString (by rw [vc_unicode_utf8_DecodeRuneInString]; exact h)

def ann_unicode_utf8_decodeRuneInStringSlow : Ann := { quiet := fun d => [14, 16, 18, 23, 25, 26, 27, 29, 30, 32, 34, 35, 37, 38, 40, 45, 47, 51, 56, 59, 61, 62, 63, 65, 66, 67, 69, 71, 74, 77, 79, 80, 81, 83, 84, 85, 86, 88, 89, 90, 92, 94, 97, 100, 101, 102, 104, 105, 106, 107, 109, 110, 111, 112, 114, 115, 116].contains d, join := fun r => (bif r == 16 then some [] else bif r == 21 then some [] else bif r == 26 then some [] else none) }
/-- unicode/utf8.decodeRuneInStringSlow -/
def sh_unicode_utf8_decodeRuneInStringSlow (s : ByteArray) (K : Value → World → Prop) (w : World) : Prop :=
  bif (decide (((s.size : Nat) : Int) < 1)) then (K (.tuple #[(.int .i32 65533), (.int .i64 0)]) w) else (strAt s 0 fun b1 => elAt (some (⟨4, 0, none⟩ : Addr)) 256 b1 1 fun a2 => ∃ x3
    : Int, w.cell? a2 = some (.int .u8 x3) ∧ bif (decide (x3 ≥ 240)) then (0 ≤ (31 : Int) ∧ 0 ≤ (31 : Int) ∧ strAt s 0 fun b4 => K (.tuple #[(.int .i32 (orI .i32 (andNotI .i32
    (IntKind.i32.wrap b4) ((IntKind.i32.wrap ((IntKind.i32.wrap x3) * 2 ^ (min (31 : Int).toNat 32))).fdiv (2 ^ (min (31 : Int).toNat 32)))) (andI .i32 65533 ((IntKind.i32.wrap
    ((IntKind.i32.wrap x3) * 2 ^ (min (31 : Int).toNat 32))).fdiv (2 ^ (min (31 : Int).toNat 32)))))), (.int .i64 1)]) w) else (0 ≤ (4 : Int) ∧ elAt (some (⟨5, 0, none⟩ : Addr)) 16
    (x3.fdiv (2 ^ (min (4 : Int).toNat 8))) 2 fun a5 => ∃ x6 : Int, w.cell? (a5.add 0) = some (.int .u8 x6) ∧ ∃ x7 : Int, w.cell? (a5.add 1) = some (.int .u8 x7) ∧ Al (.cells
    #[(.int .u8 0), (.int .u8 0)] 121) (fun p8 w9 => StN [(.int .u8 x6), (.int .u8 x7)] p8 (fun w10 => bif (decide (((s.size : Nat) : Int) < (IntKind.i64.wrap (andI .u8 x3 7))))
    then (K (.tuple #[(.int .i32 65533), (.int .i64 1)]) w10) else (strAt s 1 fun b11 => ∃ J12 : World → Prop, (∃ x15 : Int, w10.cell? (p8.add 0) = some (.int .u8 x15) ∧ bif (decide
    (b11 < x15)) then (K (.tuple #[(.int .i32 65533), (.int .i64 1)]) w10) else (∃ x16 : Int, w10.cell? (p8.add 1) = some (.int .u8 x16) ∧ bif (decide (x16 < b11)) then (K (.tuple
    #[(.int .i32 65533), (.int .i64 1)]) w10) else (J12 w10))) ∧ (∀ _u14 : Nat → Value, ∀ w13 : World, J12 w13 → bif (decide ((IntKind.i64.wrap (andI .u8 x3 7)) ≤ 2)) then (0 ≤ (6 :
    Int) ∧ K (.tuple #[(.int .i32 (orI .i32 (IntKind.i32.wrap ((IntKind.i32.wrap (andI .u8 b1 31)) * 2 ^ (min (6 : Int).toNat 32))) (IntKind.i32.wrap (andI .u8 b11 63)))), (.int
    .i64 2)]) w13) else (strAt s 2 fun b17 => ∃ J18 : World → Prop, (bif (decide (b17 < 128)) then (K (.tuple #[(.int .i32 65533), (.int .i64 1)]) w13) else (bif (decide ((191 :
    Int) < b17)) then (K (.tuple #[(.int .i32 65533), (.int .i64 1)]) w13) else (J18 w13))) ∧ (∀ _u20 : Nat → Value, ∀ w19 : World, J18 w19 → bif (decide ((IntKind.i64.wrap (andI
    .u8 x3 7)) ≤ 3)) then (0 ≤ (12 : Int) ∧ 0 ≤ (6 : Int) ∧ K (.tuple #[(.int .i32 (orI .i32 (orI .i32 (IntKind.i32.wrap ((IntKind.i32.wrap (andI .u8 b1 15)) * 2 ^ (min (12 :
    Int).toNat 32))) (IntKind.i32.wrap ((IntKind.i32.wrap (andI .u8 b11 63)) * 2 ^ (min (6 : Int).toNat 32)))) (IntKind.i32.wrap (andI .u8 b17 63)))), (.int .i64 3)]) w19) else
    (strAt s 3 fun b21 => ∃ J22 : World → Prop, (bif (decide (b21 < 128)) then (K (.tuple #[(.int .i32 65533), (.int .i64 1)]) w19) else (bif (decide ((191 : Int) < b21)) then (K
    (.tuple #[(.int .i32 65533), (.int .i64 1)]) w19) else (J22 w19))) ∧ (∀ _u24 : Nat → Value, ∀ w23 : World, J22 w23 → 0 ≤ (18 : Int) ∧ 0 ≤ (12 : Int) ∧ 0 ≤ (6 : Int) ∧ K (.tuple
    #[(.int .i32 (orI .i32 (orI .i32 (orI .i32 (IntKind.i32.wrap ((IntKind.i32.wrap (andI .u8 b1 7)) * 2 ^ (min (18 : Int).toNat 32))) (IntKind.i32.wrap ((IntKind.i32.wrap (andI .u8
    b11 63)) * 2 ^ (min (12 : Int).toNat 32)))) (IntKind.i32.wrap ((IntKind.i32.wrap (andI .u8 b17 63)) * 2 ^ (min (6 : Int).toNat 32)))) (IntKind.i32.wrap (andI .u8 b21 63)))),
    (.int .i64 4)]) w23))))))) w9) w))
theorem vc_unicode_utf8_decodeRuneInStringSlow (s : ByteArray) (K : Value → World → Prop) (w : World) : vcFn P tau rho pan ann_unicode_utf8_decodeRuneInStringSlow Go.Proofs.Tryd.f80 #[(.string s)] K (fun _ _ => False) w = sh_unicode_utf8_decodeRuneInStringSlow s K w := by kernel_rfl
theorem ok_unicode_utf8_decodeRuneInStringSlow : okFn P ann_unicode_utf8_decodeRuneInStringSlow Go.Proofs.Tryd.f80 1 = true := by kernel_rfl
theorem of_unicode_utf8_decodeRuneInStringSlow (s : ByteArray) {K : Value → World → Prop} {w : World} (h : sh_unicode_utf8_decodeRuneInStringSlow s K w) : Calls P fn_unicode_utf8_decodeRuneInStringSlow #[(.string s)] w (Ret K) := calls_of_vc mixed Go.Proofs.Tryd.func80 ok_unicode_utf8_decodeRuneInStringSlow (by rw [vc_unicode_utf8_decodeRuneInStringSlow]; exact h)

end Go.Mp
