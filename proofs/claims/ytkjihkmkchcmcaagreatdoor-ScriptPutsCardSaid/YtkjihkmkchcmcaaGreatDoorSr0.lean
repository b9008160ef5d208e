/- What is asked of each function. Printed by vcprint.py. -/
import Derived.Test.YtkjihkmkchcmcaaGreatDoorSrN
set_option maxRecDepth 100000
namespace Go.Mp
open Go Go.Vc

def ann_millpondlaw20_ScriptPuts : Ann := { quiet := fun d => [14, 15, 18, 19, 35, 37, 42, 49, 50].contains d, sig := fun r => (bif r == 8 then some ([0, 1, 2, 3, 4, 5, 6, 7, 8, 9, 10, 11, 12, 13, 15, 14, 16, 17, 18, 19, 20], [14, 16]) else none), join := fun r => (bif r == 6 then some [] else none) }
/-- millpond/millpondlaw20.ScriptPuts -/
def sh_millpondlaw20_ScriptPuts (l : Sl) (o_0 : Int) (o_1 : Int) (o_2 : Int) (o_3 : Int) (o_4 : Int) (K : Value → World → Prop) (w : World) : Prop :=
  Al (.cells #[(.int .i64 o_0), (.int .i64 o_1), (.int .i64 o_2), (.int .i64 o_3), (.int .i64 o_4)] 25) (fun p1 w2 => Calls P fn_millpondlaw20_works #[] w2 fun e4 w3 => ∃ x5 : Bool,
    e4 = .returned (.bool x5) ∧ bif (!x5) then (K (.bool false) w3) else (∃ J6 : World → Prop, (bif (decide (((l.n : Nat) : Int) > 200)) then (bif (decide (((l.n : Nat) : Int) ≤
    1000)) then (K (.bool x5) w3) else (J6 w3)) else (J6 w3)) ∧ (∀ _u8 : Nat → Value, ∀ w7 : World, J6 w7 → Calls P fn_script_Put #[(.slice l.p l.n l.c)] w7 fun e10 w9 => ∃ x11 :
    Sl, ∃ x12 : Int, e10 = .returned (.tuple #[(.slice x11.p x11.n x11.c), (.int .i64 x12)]) ∧ Calls P fn_millpondref20_Put #[(.slice l.p l.n l.c)] w9 fun e14 w13 => ∃ x15 :
    ByteArray, ∃ x16 : Int, e14 = .returned (.tuple #[(.string x15), (.int .i64 x16)]) ∧ Dr (fun w17 => bif x5 then (∃ x18 : ByteArray, CvV P 27 9 (.slice x11.p x11.n x11.c) w17
    (.string x18) ∧ bif (x18.toList == x15.toList) then (bif (x12 == x16) then (∃ x19 : Int, w17.cell? (p1.add 0) = some (.int .i64 x19) ∧ ∃ x20 : Int, w17.cell? (p1.add 1) = some
    (.int .i64 x20) ∧ ∃ x21 : Int, w17.cell? (p1.add 2) = some (.int .i64 x21) ∧ ∃ x22 : Int, w17.cell? (p1.add 3) = some (.int .i64 x22) ∧ ∃ x23 : Int, w17.cell? (p1.add 4) = some
    (.int .i64 x23) ∧ ∃ x24 : Int, w17.cell? (p1.add 0) = some (.int .i64 x24) ∧ ∃ x25 : Int, w17.cell? (p1.add 1) = some (.int .i64 x25) ∧ ∃ x26 : Int, w17.cell? (p1.add 2) = some
    (.int .i64 x26) ∧ ∃ x27 : Int, w17.cell? (p1.add 3) = some (.int .i64 x27) ∧ ∃ x28 : Int, w17.cell? (p1.add 4) = some (.int .i64 x28) ∧ Calls P fn_script_Size #[(.agg #[(.int
    .i64 x19), (.int .i64 x20), (.int .i64 x21), (.int .i64 x22), (.int .i64 x23)])] w17 fun e30 w29 => ∃ x31 : Int, e30 = .returned (.int .i64 x31) ∧ ∃ x32 : Int, w29.cell? (p1.add
    0) = some (.int .i64 x32) ∧ ∃ x33 : Int, w29.cell? (p1.add 1) = some (.int .i64 x33) ∧ ∃ x34 : Int, w29.cell? (p1.add 2) = some (.int .i64 x34) ∧ ∃ x35 : Int, w29.cell? (p1.add
    3) = some (.int .i64 x35) ∧ ∃ x36 : Int, w29.cell? (p1.add 4) = some (.int .i64 x36) ∧ ((.agg #[(.int .i64 x32), (.int .i64 x33), (.int .i64 x34), (.int .i64 x35), (.int .i64
    x36)]) : Value) = (.agg #[(.int .i64 x24), (.int .i64 x25), (.int .i64 x26), (.int .i64 x27), (.int .i64 x28)]) ∧ Calls P fn_millpondref20_One #[(.agg #[(.int .i64 x24), (.int
    .i64 x25), (.int .i64 x26), (.int .i64 x27), (.int .i64 x28)])] w29 fun e38 w37 => ∃ x39 : ByteArray, e38 = .returned (.string x39) ∧ K (.bool (x31 == ((x39.size : Nat) : Int)))
    w37) else (K (.bool false) w17)) else (K (.bool false) w17)) else (K (.bool false) w17)) w13))) w
theorem vc_millpondlaw20_ScriptPuts (l : Sl) (o_0 : Int) (o_1 : Int) (o_2 : Int) (o_3 : Int) (o_4 : Int) (K : Value → World → Prop) (w : World) : vcFn P tau rho pan ann_millpondlaw20_ScriptPuts Go.Proofs.Tryz.f3 #[(.slice l.p l.n l.c), (.agg #[(.int .i64 o_0), (.int .i64 o_1), (.int .i64 o_2), (.int .i64 o_3), (.int .i64 o_4)])] K (fun _ _ => False) w = sh_millpondlaw20_ScriptPuts l o_0 o_1 o_2 o_3 o_4 K w := by kernel_rfl
theorem ok_millpondlaw20_ScriptPuts : okFn P ann_millpondlaw20_ScriptPuts Go.Proofs.Tryz.f3 2 = true := by kernel_rfl
theorem of_millpondlaw20_ScriptPuts (l : Sl) (o_0 : Int) (o_1 : Int) (o_2 : Int) (o_3 : Int) (o_4 : Int) {K : Value → World → Prop} {w : World} (h : sh_millpondlaw20_ScriptPuts l o_0 o_1 o_2 o_3 o_4 K w) : Calls P fn_millpondlaw20_ScriptPuts #[(.slice l.p l.n l.c), (.agg #[(.int .i64 o_0), (.int .i64 o_1), (.int .i64 o_2), (.int .i64 o_3), (.int .i64 o_4)])] w (Ret K) := calls_of_vc mixed Go.Proofs.Tryz.func3 ok_millpondlaw20_ScriptPuts (by rw [vc_millpondlaw20_ScriptPuts]; exact h)

def ann_millpondlaw20_ScriptGets : Ann := { quiet := fun d => [15, 16, 33, 35, 36, 40, 45, 49, 50, 52, 61].contains d, head := fun r => (bif r == 13 then 9 else 0), loop := fun r => (bif r == 11 then [(10, .int .i64)] else []), join := fun r => (bif r == 10 then some [] else none) }
/-- millpond/millpondlaw20.ScriptGets -/
def sh_millpondlaw20_ScriptGets (s : ByteArray) (K : Value → World → Prop) (w : World) : Prop :=
  Calls P fn_millpondlaw20_works #[] w fun e2 w1 => ∃ x3 : Bool, e2 = .returned (.bool x3) ∧ bif (!x3) then (K (.bool false) w1) else (bif (decide (((s.size : Nat) : Int) > 2000))
    then (K (.bool x3) w1) else (∃ x5 : Sl, ∃ w4 : World, Sem.run P (convert 9 27 (.string s)) w1 = .ok (.slice x5.p x5.n x5.c) w4 ∧ Calls P fn_script_Get #[(.slice x5.p x5.n x5.c)]
    w4 fun e7 w6 => ∃ x8 : Sl, ∃ x9 : Int, ∃ x10 : Int, e7 = .returned (.tuple #[(.slice x8.p x8.n x8.c), (.int .i64 x9), (.int .i64 x10)]) ∧ ∃ x12 : Sl, ∃ w11 : World, Sem.run P
    (convert 9 27 (.string s)) w6 = .ok (.slice x12.p x12.n x12.c) w11 ∧ Calls P fn_millpondref20_Get #[(.slice x12.p x12.n x12.c)] w11 fun e14 w13 => ∃ x15 : Sl, ∃ x16 : Int, ∃ x17
    : Int, e14 = .returned (.tuple #[(.slice x15.p x15.n x15.c), (.int .i64 x16), (.int .i64 x17)]) ∧ ∃ J18 : World → Prop, (bif (((x8.n : Nat) : Int) != ((x15.n : Nat) : Int)) then
    (K (.bool false) w13) else (bif (x9 != x16) then (K (.bool false) w13) else (bif (x10 != x17) then (K (.bool false) w13) else (J18 w13)))) ∧ (∀ _u20 : Nat → Value, ∀ w19 :
    World, J18 w19 → ∃ (I21 : Int → World → Prop) (M22 : Int → World → Nat), I21 0 w19 ∧ ∀ _u24 : Nat → Value, ∀ i25 : Int, ∀ w23 : World, I21 i25 w23 → bif (decide (i25 < ((x8.n :
    Nat) : Int))) then (Dr (fun w26 => elAt x8.p x8.n i25 5 fun a27 => ∃ x28 : Int, w26.cell? (a27.add 0) = some (.int .i64 x28) ∧ ∃ x29 : Int, w26.cell? (a27.add 1) = some (.int
    .i64 x29) ∧ ∃ x30 : Int, w26.cell? (a27.add 2) = some (.int .i64 x30) ∧ ∃ x31 : Int, w26.cell? (a27.add 3) = some (.int .i64 x31) ∧ ∃ x32 : Int, w26.cell? (a27.add 4) = some
    (.int .i64 x32) ∧ elAt x15.p x15.n i25 5 fun a33 => ∃ x34 : Int, w26.cell? (a33.add 0) = some (.int .i64 x34) ∧ ∃ x35 : Int, w26.cell? (a33.add 1) = some (.int .i64 x35) ∧ ∃ x36
    : Int, w26.cell? (a33.add 2) = some (.int .i64 x36) ∧ ∃ x37 : Int, w26.cell? (a33.add 3) = some (.int .i64 x37) ∧ ∃ x38 : Int, w26.cell? (a33.add 4) = some (.int .i64 x38) ∧ ∃
    q39 : Bool, EqV P .neq 25 (.agg #[(.int .i64 x28), (.int .i64 x29), (.int .i64 x30), (.int .i64 x31), (.int .i64 x32)]) (.agg #[(.int .i64 x34), (.int .i64 x35), (.int .i64
    x36), (.int .i64 x37), (.int .i64 x38)]) q39 ∧ bif q39 then (K (.bool false) w26) else ((I21 (IntKind.i64.wrap (i25 + 1)) w26 ∧ M22 (IntKind.i64.wrap (i25 + 1)) w26 < M22 i25
    w23))) w23) else (K (.bool x3) w23))))
theorem vc_millpondlaw20_ScriptGets (s : ByteArray) (K : Value → World → Prop) (w : World) : vcFn P tau rho pan ann_millpondlaw20_ScriptGets Go.Proofs.Tryz.f4 #[(.string s)] K (fun _ _ => False) w = sh_millpondlaw20_ScriptGets s K w := by kernel_rfl
theorem ok_millpondlaw20_ScriptGets : okFn P ann_millpondlaw20_ScriptGets Go.Proofs.Tryz.f4 1 = true := by kernel_rfl
theorem of_millpondlaw20_ScriptGets (s : ByteArray) {K : Value → World → Prop} {w : World} (h : sh_millpondlaw20_ScriptGets s K w) : Calls P fn_millpondlaw20_ScriptGets #[(.string s)] w (Ret K) := calls_of_vc mixed Go.Proofs.Tryz.func4 ok_millpondlaw20_ScriptGets (by rw [vc_millpondlaw20_ScriptGets]; exact h)

def ann_millpondlaw20_ScriptBack : Ann := { quiet := fun d => [21, 22, 25, 26, 35, 43, 46, 48, 49, 53, 54, 56, 65, 79, 81, 85, 89, 94, 95, 99, 103].contains d, head := fun r => (bif r == 14 then 9 else bif r == 20 then 24 else 0), loop := fun r => (bif r == 12 then [(11, .int .i64)] else []), join := fun r => (bif r == 6 then some [] else bif r == 11 then some [] else bif r == 16 then some [] else bif r == 20 then some [(14, .int .i64)] else none) }
/-- millpond/millpondlaw20.ScriptBack -/
def sh_millpondlaw20_ScriptBack (l : Sl) (s : ByteArray) (K : Value → World → Prop) (w : World) : Prop :=
  Calls P fn_millpondlaw20_works #[] w fun e2 w1 => ∃ x3 : Bool, e2 = .returned (.bool x3) ∧ bif (!x3) then (K (.bool false) w1) else (∃ J4 : World → Prop, (bif (decide (((l.n : Nat)
    : Int) > 200)) then (K (.bool x3) w1) else (bif (decide (((s.size : Nat) : Int) > 2000)) then (K (.bool x3) w1) else (J4 w1))) ∧ (∀ _u6 : Nat → Value, ∀ w5 : World, J4 w5 →
    Calls P fn_script_Put #[(.slice l.p l.n l.c)] w5 fun e8 w7 => ∃ x9 : Sl, ∃ x10 : Int, e8 = .returned (.tuple #[(.slice x9.p x9.n x9.c), (.int .i64 x10)]) ∧ ∃ J11 : World → Prop,
    (bif (x10 == 0) then (Calls P fn_script_Get #[(.slice x9.p x9.n x9.c)] w7 fun e15 w14 => ∃ x16 : Sl, ∃ x17 : Int, ∃ x18 : Int, e15 = .returned (.tuple #[(.slice x16.p x16.n
    x16.c), (.int .i64 x17), (.int .i64 x18)]) ∧ ∃ J19 : World → Prop, (bif (x17 != 0) then (K (.bool false) w14) else (bif (((x16.n : Nat) : Int) != ((l.n : Nat) : Int)) then (K
    (.bool false) w14) else (J19 w14))) ∧ (∀ _u21 : Nat → Value, ∀ w20 : World, J19 w20 → ∃ (I22 : Int → World → Prop) (M23 : Int → World → Nat), I22 0 w20 ∧ ∀ _u25 : Nat → Value, ∀
    i26 : Int, ∀ w24 : World, I22 i26 w24 → bif (decide (i26 < ((l.n : Nat) : Int))) then (Dr (fun w27 => elAt x16.p x16.n i26 5 fun a28 => ∃ x29 : Int, w27.cell? (a28.add 0) = some
    (.int .i64 x29) ∧ ∃ x30 : Int, w27.cell? (a28.add 1) = some (.int .i64 x30) ∧ ∃ x31 : Int, w27.cell? (a28.add 2) = some (.int .i64 x31) ∧ ∃ x32 : Int, w27.cell? (a28.add 3) =
    some (.int .i64 x32) ∧ ∃ x33 : Int, w27.cell? (a28.add 4) = some (.int .i64 x33) ∧ elAt l.p l.n i26 5 fun a34 => ∃ x35 : Int, w27.cell? (a34.add 0) = some (.int .i64 x35) ∧ ∃
    x36 : Int, w27.cell? (a34.add 1) = some (.int .i64 x36) ∧ ∃ x37 : Int, w27.cell? (a34.add 2) = some (.int .i64 x37) ∧ ∃ x38 : Int, w27.cell? (a34.add 3) = some (.int .i64 x38) ∧
    ∃ x39 : Int, w27.cell? (a34.add 4) = some (.int .i64 x39) ∧ ∃ q40 : Bool, EqV P .neq 25 (.agg #[(.int .i64 x29), (.int .i64 x30), (.int .i64 x31), (.int .i64 x32), (.int .i64
    x33)]) (.agg #[(.int .i64 x35), (.int .i64 x36), (.int .i64 x37), (.int .i64 x38), (.int .i64 x39)]) q40 ∧ bif q40 then (K (.bool false) w27) else ((I22 (IntKind.i64.wrap (i26 +
    1)) w27 ∧ M23 (IntKind.i64.wrap (i26 + 1)) w27 < M23 i26 w24))) w24) else (J11 w24))) else (J11 w7)) ∧ (∀ _u13 : Nat → Value, ∀ w12 : World, J11 w12 → ∃ x42 : Sl, ∃ w41 : World,
    Sem.run P (convert 9 27 (.string s)) w12 = .ok (.slice x42.p x42.n x42.c) w41 ∧ Calls P fn_script_Get #[(.slice x42.p x42.n x42.c)] w41 fun e44 w43 => ∃ x45 : Sl, ∃ x46 : Int, ∃
    x47 : Int, e44 = .returned (.tuple #[(.slice x45.p x45.n x45.c), (.int .i64 x46), (.int .i64 x47)]) ∧ Calls P fn_script_Put #[(.slice x45.p x45.n x45.c)] w43 fun e49 w48 => ∃
    x50 : Sl, ∃ x51 : Int, e49 = .returned (.tuple #[(.slice x50.p x50.n x50.c), (.int .i64 x51)]) ∧ ∃ J52 : Int → World → Prop, (bif (x46 == 0) then (J52 ((s.size : Nat) : Int)
    w48) else (J52 x47 w48)) ∧ (∀ _u54 : Nat → Value, ∀ at55 : Int, ∀ w53 : World, J52 at55 w53 → Dr (fun w56 => bif x3 then (bif (x51 == 0) then (bif (decide (at55 ≥ 0)) then (bif
    (decide (at55 ≤ ((s.size : Nat) : Int))) then (∃ x57 : ByteArray, CvV P 27 9 (.slice x50.p x50.n x50.c) w56 (.string x57) ∧ ((0 : Int) ≤ at55 ∧ at55 ≤ ((s.size : Nat) : Int)) ∧
    K (.bool (x57.toList == (s.extract 0 at55.toNat).toList)) w56) else (K (.bool false) w56)) else (K (.bool false) w56)) else (K (.bool false) w56)) else (K (.bool false) w56))
    w53))))
theorem vc_millpondlaw20_ScriptBack (l : Sl) (s : ByteArray) (K : Value → World → Prop) (w : World) : vcFn P tau rho pan ann_millpondlaw20_ScriptBack Go.Proofs.Tryz.f5 #[(.slice l.p l.n l.c), (.string s)] K (fun _ _ => False) w = sh_millpondlaw20_ScriptBack l s K w := by kernel_rfl
theorem ok_millpondlaw20_ScriptBack : okFn P ann_millpondlaw20_ScriptBack Go.Proofs.Tryz.f5 2 = true := by kernel_rfl
theorem of_millpondlaw20_ScriptBack (l : Sl) (s : ByteArray) {K : Value → World → Prop} {w : World} (h : sh_millpondlaw20_ScriptBack l s K w) : Calls P fn_millpondlaw20_ScriptBack #[(.slice l.p l.n l.c), (.string s)] w (Ret K) := calls_of_vc mixed Go.Proofs.Tryz.func5 ok_millpondlaw20_ScriptBack (by rw [vc_millpondlaw20_ScriptBack]; exact h)

def ann_millpondlaw20_ScriptSizes : Ann := { quiet := fun d => [19, 20, 23, 28, 29, 38, 42, 43, 47, 49, 56, 69, 70, 72, 79, 83, 87, 89, 94, 95].contains d, loop := fun r => (bif r == 11 then [(8, .int .i64), (9, .int .i64)] else bif r == 17 then [(13, .int .i64), (14, .int .i64)] else []), join := fun r => (bif r == 6 then some [] else none) }
/-- millpond/millpondlaw20.ScriptSizes -/
def sh_millpondlaw20_ScriptSizes (l : Sl) (k : Int) (K : Value → World → Prop) (w : World) : Prop :=
  Calls P fn_millpondlaw20_works #[] w fun e2 w1 => ∃ x3 : Bool, e2 = .returned (.bool x3) ∧ bif (!x3) then (K (.bool false) w1) else (∃ J4 : World → Prop, (bif (decide (((l.n : Nat)
    : Int) > 200)) then (K (.bool x3) w1) else (bif (decide (k < 0)) then (K (.bool x3) w1) else (bif (decide (k > ((l.n : Nat) : Int))) then (K (.bool x3) w1) else (J4 w1)))) ∧ (∀
    _u6 : Nat → Value, ∀ w5 : World, J4 w5 → Calls P fn_script_Put #[(.slice l.p l.n l.c)] w5 fun e8 w7 => ∃ x9 : Sl, ∃ x10 : Int, e8 = .returned (.tuple #[(.slice x9.p x9.n x9.c),
    (.int .i64 x10)]) ∧ bif (x10 != 0) then (bif x3 then (K (.bool (((x9.n : Nat) : Int) == 0)) w7) else (K (.bool false) w7)) else (∃ (I11 : Int → Int → World → Prop) (M12 : Int →
    Int → World → Nat), I11 0 0 w7 ∧ ∀ _u14 : Nat → Value, ∀ n15 : Int, ∀ i16 : Int, ∀ w13 : World, I11 n15 i16 w13 → bif (decide (i16 < k)) then (elAt l.p l.n i16 5 fun a17 => ∃
    x18 : Int, w13.cell? (a17.add 0) = some (.int .i64 x18) ∧ ∃ x19 : Int, w13.cell? (a17.add 1) = some (.int .i64 x19) ∧ ∃ x20 : Int, w13.cell? (a17.add 2) = some (.int .i64 x20) ∧
    ∃ x21 : Int, w13.cell? (a17.add 3) = some (.int .i64 x21) ∧ ∃ x22 : Int, w13.cell? (a17.add 4) = some (.int .i64 x22) ∧ Calls P fn_script_Size #[(.agg #[(.int .i64 x18), (.int
    .i64 x19), (.int .i64 x20), (.int .i64 x21), (.int .i64 x22)])] w13 fun e24 w23 => ∃ x25 : Int, e24 = .returned (.int .i64 x25) ∧ (I11 (IntKind.i64.wrap (n15 + x25))
    (IntKind.i64.wrap (i16 + 1)) w23 ∧ M12 (IntKind.i64.wrap (n15 + x25)) (IntKind.i64.wrap (i16 + 1)) w23 < M12 n15 i16 w13)) else (((0 : Int) ≤ n15 ∧ n15 ≤ ((x9.c : Nat) : Int)) ∧
    Calls P fn_script_Get #[(.slice (slA x9.p 0 x9.c 1) (n15.toNat - 0) (x9.c - 0))] w13 fun e27 w26 => ∃ x28 : Sl, ∃ x29 : Int, ∃ x30 : Int, e27 = .returned (.tuple #[(.slice x28.p
    x28.n x28.c), (.int .i64 x29), (.int .i64 x30)]) ∧ ∃ (I31 : Int → Int → World → Prop) (M32 : Int → Int → World → Nat), I31 n15 k w26 ∧ ∀ _u34 : Nat → Value, ∀ all35 : Int, ∀ i36
    : Int, ∀ w33 : World, I31 all35 i36 w33 → bif (decide (i36 < ((l.n : Nat) : Int))) then (elAt l.p l.n i36 5 fun a37 => ∃ x38 : Int, w33.cell? (a37.add 0) = some (.int .i64 x38)
    ∧ ∃ x39 : Int, w33.cell? (a37.add 1) = some (.int .i64 x39) ∧ ∃ x40 : Int, w33.cell? (a37.add 2) = some (.int .i64 x40) ∧ ∃ x41 : Int, w33.cell? (a37.add 3) = some (.int .i64
    x41) ∧ ∃ x42 : Int, w33.cell? (a37.add 4) = some (.int .i64 x42) ∧ Calls P fn_script_Size #[(.agg #[(.int .i64 x38), (.int .i64 x39), (.int .i64 x40), (.int .i64 x41), (.int
    .i64 x42)])] w33 fun e44 w43 => ∃ x45 : Int, e44 = .returned (.int .i64 x45) ∧ (I31 (IntKind.i64.wrap (all35 + x45)) (IntKind.i64.wrap (i36 + 1)) w43 ∧ M32 (IntKind.i64.wrap
    (all35 + x45)) (IntKind.i64.wrap (i36 + 1)) w43 < M32 all35 i36 w33)) else (bif x3 then (bif (x29 == 0) then (bif (((x28.n : Nat) : Int) == k) then (K (.bool (all35 == ((x9.n :
    Nat) : Int))) w33) else (K (.bool false) w33)) else (K (.bool false) w33)) else (K (.bool false) w33))))))
theorem vc_millpondlaw20_ScriptSizes (l : Sl) (k : Int) (K : Value → World → Prop) (w : World) : vcFn P tau rho pan ann_millpondlaw20_ScriptSizes Go.Proofs.Tryz.f6 #[(.slice l.p l.n l.c), (.int .i64 k)] K (fun _ _ => False) w = sh_millpondlaw20_ScriptSizes l k K w := by kernel_rfl
theorem ok_millpondlaw20_ScriptSizes : okFn P ann_millpondlaw20_ScriptSizes Go.Proofs.Tryz.f6 2 = true := by kernel_rfl
theorem of_millpondlaw20_ScriptSizes (l : Sl) (k : Int) {K : Value → World → Prop} {w : World} (h : sh_millpondlaw20_ScriptSizes l k K w) : Calls P fn_millpondlaw20_ScriptSizes #[(.slice l.p l.n l.c), (.int .i64 k)] w (Ret K) := calls_of_vc mixed Go.Proofs.Tryz.func6 ok_millpondlaw20_ScriptSizes (by rw [vc_millpondlaw20_ScriptSizes]; exact h)

def ann_millpondlaw20_ScriptBad : Ann := { quiet := fun d => [22, 23, 26, 27, 38, 42, 56, 59, 60, 64, 66, 67, 69, 70, 75, 80, 83, 87, 88, 102, 106, 110, 112, 113].contains d, join := fun r => (bif r == 6 then some [] else bif r == 12 then some [(11, .int .i64)] else bif r == 15 then some [] else none) }
/-- millpond/millpondlaw20.ScriptBad -/
def sh_millpondlaw20_ScriptBad (s : ByteArray) (t : ByteArray) (K : Value → World → Prop) (w : World) : Prop :=
  Calls P fn_millpondlaw20_works #[] w fun e2 w1 => ∃ x3 : Bool, e2 = .returned (.bool x3) ∧ bif (!x3) then (K (.bool false) w1) else (∃ J4 : World → Prop, (bif (decide (((s.size :
    Nat) : Int) > 1000)) then (K (.bool x3) w1) else (bif (decide (((t.size : Nat) : Int) > 1000)) then (K (.bool x3) w1) else (J4 w1))) ∧ (∀ _u6 : Nat → Value, ∀ w5 : World, J4 w5
    → ∃ x8 : Sl, ∃ w7 : World, Sem.run P (convert 9 27 (.string s)) w5 = .ok (.slice x8.p x8.n x8.c) w7 ∧ Calls P fn_script_Get #[(.slice x8.p x8.n x8.c)] w7 fun e10 w9 => ∃ x11 :
    Sl, ∃ x12 : Int, ∃ x13 : Int, e10 = .returned (.tuple #[(.slice x11.p x11.n x11.c), (.int .i64 x12), (.int .i64 x13)]) ∧ bif (x12 == 0) then (s.size + t.size ≤
    9223372036854775807 ∧ ∃ x15 : Sl, ∃ w14 : World, Sem.run P (convert 9 27 (.string (s ++ t))) w9 = .ok (.slice x15.p x15.n x15.c) w14 ∧ Calls P fn_script_Get #[(.slice x15.p
    x15.n x15.c)] w14 fun e17 w16 => ∃ x18 : Sl, ∃ x19 : Int, ∃ x20 : Int, e17 = .returned (.tuple #[(.slice x18.p x18.n x18.c), (.int .i64 x19), (.int .i64 x20)]) ∧ ∃ x22 : Sl, ∃
    w21 : World, Sem.run P (convert 9 27 (.string t)) w16 = .ok (.slice x22.p x22.n x22.c) w21 ∧ Calls P fn_script_Get #[(.slice x22.p x22.n x22.c)] w21 fun e24 w23 => ∃ x25 : Sl, ∃
    x26 : Int, ∃ x27 : Int, e24 = .returned (.tuple #[(.slice x25.p x25.n x25.c), (.int .i64 x26), (.int .i64 x27)]) ∧ ∃ J28 : Int → World → Prop, (bif (x19 != 0) then (J28
    (IntKind.i64.wrap (x20 - ((s.size : Nat) : Int))) w23) else (J28 x20 w23)) ∧ (∀ _u30 : Nat → Value, ∀ to31 : Int, ∀ w29 : World, J28 to31 w29 → bif x3 then (bif
    ((IntKind.i64.wrap (((x11.n : Nat) : Int) + ((x25.n : Nat) : Int))) == ((x18.n : Nat) : Int)) then (bif (x19 == x26) then (K (.bool (to31 == x27)) w29) else (K (.bool false)
    w29)) else (K (.bool false) w29)) else (K (.bool false) w29))) else (∃ J32 : World → Prop, (bif (decide (x13 < 0)) then (K (.bool false) w9) else (bif (decide (x13 > ((s.size :
    Nat) : Int))) then (K (.bool false) w9) else (J32 w9))) ∧ (∀ _u34 : Nat → Value, ∀ w33 : World, J32 w33 → ((0 : Int) ≤ x13 ∧ x13 ≤ ((s.size : Nat) : Int)) ∧ ∃ x36 : Sl, ∃ w35 :
    World, Sem.run P (convert 9 27 (.string (s.extract 0 x13.toNat))) w33 = .ok (.slice x36.p x36.n x36.c) w35 ∧ Calls P fn_script_Get #[(.slice x36.p x36.n x36.c)] w35 fun e38 w37
    => ∃ x39 : Sl, ∃ x40 : Int, ∃ x41 : Int, e38 = .returned (.tuple #[(.slice x39.p x39.n x39.c), (.int .i64 x40), (.int .i64 x41)]) ∧ bif x3 then (bif (x12 == 20) then (bif (x40
    == 0) then (K (.bool (((x39.n : Nat) : Int) == ((x11.n : Nat) : Int))) w37) else (K (.bool false) w37)) else (K (.bool false) w37)) else (K (.bool false) w37)))))
theorem vc_millpondlaw20_ScriptBad (s : ByteArray) (t : ByteArray) (K : Value → World → Prop) (w : World) : vcFn P tau rho pan ann_millpondlaw20_ScriptBad Go.Proofs.Tryz.f7 #[(.string s), (.string t)] K (fun _ _ => False) w = sh_millpondlaw20_ScriptBad s t K w := by kernel_rfl
theorem ok_millpondlaw20_ScriptBad : okFn P ann_millpondlaw20_ScriptBad Go.Proofs.Tryz.f7 2 = true := by kernel_rfl
theorem of_millpondlaw20_ScriptBad (s : ByteArray) (t : ByteArray) {K : Value → World → Prop} {w : World} (h : sh_millpondlaw20_ScriptBad s t K w) : Calls P fn_millpondlaw20_ScriptBad #[(.string s), (.string t)] w (Ret K) := calls_of_vc mixed Go.Proofs.Tryz.func7 ok_millpondlaw20_ScriptBad (by rw [vc_millpondlaw20_ScriptBad]; exact h)

def ann_millpondlaw20_works : Ann := { quiet := fun d => [26, 27, 30, 34, 35, 42, 46, 50, 54, 55, 62, 66, 73].contains d }
/-- millpond/millpondlaw20.works -/
def sh_millpondlaw20_works (K : Value → World → Prop) (w : World) : Prop :=
  Al (.cells #[(.int .i64 8), (.int .i64 0), (.int .i64 300), (.int .i64 0), (.int .i64 0)] 25) (fun p1 w2 => Calls P fn_script_Put #[(.slice (some p1) 1 1)] w2 fun e4 w3 => ∃ x5 :
    Sl, ∃ x6 : Int, e4 = .returned (.tuple #[(.slice x5.p x5.n x5.c), (.int .i64 x6)]) ∧ Calls P fn_script_Get #[(.slice x5.p x5.n x5.c)] w3 fun e8 w7 => ∃ x9 : Sl, ∃ x10 : Int, ∃
    x11 : Int, e8 = .returned (.tuple #[(.slice x9.p x9.n x9.c), (.int .i64 x10), (.int .i64 x11)]) ∧ Al (.cells #[(.int .u8 3), (.int .u8 0), (.int .u8 0), (.int .u8 0), (.int .u8
    0)] 5) (fun p12 w13 => Calls P fn_script_Play #[(.int .i64 2), (.int .i64 2), (.slice none 0 0), (.slice (some p12) 5 5)] w13 fun e15 w14 => ∃ x16 : Sl, ∃ x17 : Int, e15 =
    .returned (.tuple #[(.slice x16.p x16.n x16.c), (.int .i64 x17)]) ∧ ∃ x18 : ByteArray, CvV P 27 9 (.slice x5.p x5.n x5.c) w14 (.string x18) ∧ bif (x18.toList == (ByteArray.mk
    #[8, 0, 172, 2, 0, 0]).toList) then (bif (x6 == 0) then (bif (((x9.n : Nat) : Int) == 1) then (elAt x9.p x9.n 0 5 fun a19 => ∃ x20 : Int, w14.cell? (a19.add 2) = some (.int .i64
    x20) ∧ bif (x20 == 300) then (bif (x10 == 0) then (bif (x11 == 0) then (bif (((x16.n : Nat) : Int) == 1) then (elAt x16.p x16.n 0 3 fun a21 => ∃ x22 : Int, w14.cell? (a21.add 0)
    = some (.int .i64 x22) ∧ bif (x22 == 0) then (bif (x17 == 0) then (elAt x9.p x9.n 0 5 fun a23 => ∃ x24 : Int, w14.cell? (a23.add 0) = some (.int .i64 x24) ∧ ∃ x25 : Int,
    w14.cell? (a23.add 1) = some (.int .i64 x25) ∧ ∃ x26 : Int, w14.cell? (a23.add 2) = some (.int .i64 x26) ∧ ∃ x27 : Int, w14.cell? (a23.add 3) = some (.int .i64 x27) ∧ ∃ x28 :
    Int, w14.cell? (a23.add 4) = some (.int .i64 x28) ∧ Calls P fn_script_Size #[(.agg #[(.int .i64 x24), (.int .i64 x25), (.int .i64 x26), (.int .i64 x27), (.int .i64 x28)])] w14
    fun e30 w29 => ∃ x31 : Int, e30 = .returned (.int .i64 x31) ∧ K (.bool (x31 == 6)) w29) else (K (.bool false) w14)) else (K (.bool false) w14)) else (K (.bool false) w14)) else
    (K (.bool false) w14)) else (K (.bool false) w14)) else (K (.bool false) w14)) else (K (.bool false) w14)) else (K (.bool false) w14)) else (K (.bool false) w14)) w7) w
theorem vc_millpondlaw20_works (K : Value → World → Prop) (w : World) : vcFn P tau rho pan ann_millpondlaw20_works Go.Proofs.Tryz.f8 #[] K (fun _ _ => False) w = sh_millpondlaw20_works K w := by kernel_rfl
theorem ok_millpondlaw20_works : okFn P ann_millpondlaw20_works Go.Proofs.Tryz.f8 0 = true := by kernel_rfl
theorem of_millpondlaw20_works {K : Value → World → Prop} {w : World} (h : sh_millpondlaw20_works K w) : Calls P fn_millpondlaw20_works #[] w (Ret K) := calls_of_vc mixed Go.Proofs.Tryz.func8 ok_millpondlaw20_works (by rw [vc_millpondlaw20_works]; exact h)

def ann_script_Put : Ann := { quiet := fun d => [9, 11, 17, 20, 21, 26].contains d, loop := fun r => (bif r == 3 then [(4, .slice), (10, .int .i64)] else []) }
/-- millpond/script.Put -/
def sh_script_Put (l : Sl) (K : Value → World → Prop) (w : World) : Prop :=
  ∃ (I1 : Sl → Int → World → Prop) (M2 : Sl → Int → World → Nat), I1 ⟨none, 0, 0⟩ 0 w ∧ ∀ _u4 : Nat → Value, ∀ b5 : Sl, ∀ x6 : Int, ∀ w3 : World, I1 b5 x6 w3 → bif (decide (x6 < ((l.n
    : Nat) : Int))) then (elAt l.p l.n x6 5 fun a7 => ∃ x8 : Int, w3.cell? (a7.add 0) = some (.int .i64 x8) ∧ ∃ x9 : Int, w3.cell? (a7.add 1) = some (.int .i64 x9) ∧ ∃ x10 : Int,
    w3.cell? (a7.add 2) = some (.int .i64 x10) ∧ ∃ x11 : Int, w3.cell? (a7.add 3) = some (.int .i64 x11) ∧ ∃ x12 : Int, w3.cell? (a7.add 4) = some (.int .i64 x12) ∧ Al (.cells
    #[(.int .i64 0), (.int .i64 0), (.int .i64 0), (.int .i64 0), (.int .i64 0)] 25) (fun p13 w14 => StN [(.int .i64 x8), (.int .i64 x9), (.int .i64 x10), (.int .i64 x11), (.int
    .i64 x12)] p13 (fun w15 => ∃ x16 : Int, w15.cell? (p13.add 0) = some (.int .i64 x16) ∧ ∃ x17 : Int, w15.cell? (p13.add 1) = some (.int .i64 x17) ∧ ∃ x18 : Int, w15.cell?
    (p13.add 2) = some (.int .i64 x18) ∧ ∃ x19 : Int, w15.cell? (p13.add 3) = some (.int .i64 x19) ∧ ∃ x20 : Int, w15.cell? (p13.add 4) = some (.int .i64 x20) ∧ Calls P
    fn_script_one #[(.agg #[(.int .i64 x16), (.int .i64 x17), (.int .i64 x18), (.int .i64 x19), (.int .i64 x20)])] w15 fun e22 w21 => ∃ x23 : Sl, e22 = .returned (.slice x23.p x23.n
    x23.c) ∧ bif x23.p.isNone then (K (.tuple #[(.slice none 0 0), (.int .i64 1)]) w21) else (bif (decide (((l.n : Nat) : Int) > 1000)) then (K (.tuple #[(.slice none 0 0), (.int
    .i64 1)]) w21) else (∃ x25 : Sl, ∃ w24 : World, Sem.run P (Builtin.append_ #[27, 27] 27 #[(.slice b5.p b5.n b5.c), (.slice x23.p x23.n x23.c)]) w21 = .ok (.slice x25.p x25.n
    x25.c) w24 ∧ (I1 x25 (IntKind.i64.wrap (x6 + 1)) w24 ∧ M2 x25 (IntKind.i64.wrap (x6 + 1)) w24 < M2 b5 x6 w3)))) w14) w3) else (K (.tuple #[(.slice b5.p b5.n b5.c), (.int .i64
    0)]) w3)
theorem vc_script_Put (l : Sl) (K : Value → World → Prop) (w : World) : vcFn P tau rho pan ann_script_Put Go.Proofs.Tryz.f9 #[(.slice l.p l.n l.c)] K (fun _ _ => False) w = sh_script_Put l K w := by kernel_rfl
theorem ok_script_Put : okFn P ann_script_Put Go.Proofs.Tryz.f9 1 = true := by kernel_rfl
theorem of_script_Put (l : Sl) {K : Value → World → Prop} {w : World} (h : sh_script_Put l K w) : Calls P fn_script_Put #[(.slice l.p l.n l.c)] w (Ret K) := calls_of_vc mixed Go.Proofs.Tryz.func9 ok_script_Put (by rw [vc_script_Put]; exact h)

def ann_millpondref20_Put : Ann := { quiet := fun d => [9, 10, 12, 19, 22, 23, 27].contains d, loop := fun r => (bif r == 3 then [(4, .str), (5, .int .i64)] else []) }
/-- millpond/millpondref20.Put -/
def sh_millpondref20_Put (l : Sl) (K : Value → World → Prop) (w : World) : Prop :=
  ∃ (I1 : ByteArray → Int → World → Prop) (M2 : ByteArray → Int → World → Nat), I1 (ByteArray.mk #[]) 0 w ∧ ∀ _u4 : Nat → Value, ∀ s5 : ByteArray, ∀ i6 : Int, ∀ w3 : World, I1 s5 i6
    w3 → bif (decide (i6 < ((l.n : Nat) : Int))) then (elAt l.p l.n i6 5 fun a7 => ∃ x8 : Int, w3.cell? (a7.add 0) = some (.int .i64 x8) ∧ ∃ x9 : Int, w3.cell? (a7.add 1) = some
    (.int .i64 x9) ∧ ∃ x10 : Int, w3.cell? (a7.add 2) = some (.int .i64 x10) ∧ ∃ x11 : Int, w3.cell? (a7.add 3) = some (.int .i64 x11) ∧ ∃ x12 : Int, w3.cell? (a7.add 4) = some
    (.int .i64 x12) ∧ Calls P fn_millpondref20_One #[(.agg #[(.int .i64 x8), (.int .i64 x9), (.int .i64 x10), (.int .i64 x11), (.int .i64 x12)])] w3 fun e14 w13 => ∃ x15 :
    ByteArray, e14 = .returned (.string x15) ∧ bif (x15.toList == (ByteArray.mk #[]).toList) then (K (.tuple #[(.string (ByteArray.mk #[])), (.int .i64 1)]) w13) else (bif (decide
    (((l.n : Nat) : Int) > 1000)) then (K (.tuple #[(.string (ByteArray.mk #[])), (.int .i64 1)]) w13) else (s5.size + x15.size ≤ 9223372036854775807 ∧ (I1 (s5 ++ x15)
    (IntKind.i64.wrap (i6 + 1)) w13 ∧ M2 (s5 ++ x15) (IntKind.i64.wrap (i6 + 1)) w13 < M2 s5 i6 w3)))) else (K (.tuple #[(.string s5), (.int .i64 0)]) w3)
theorem vc_millpondref20_Put (l : Sl) (K : Value → World → Prop) (w : World) : vcFn P tau rho pan ann_millpondref20_Put Go.Proofs.Tryz.f10 #[(.slice l.p l.n l.c)] K (fun _ _ => False) w = sh_millpondref20_Put l K w := by kernel_rfl
theorem ok_millpondref20_Put : okFn P ann_millpondref20_Put Go.Proofs.Tryz.f10 1 = true := by kernel_rfl
theorem of_millpondref20_Put (l : Sl) {K : Value → World → Prop} {w : World} (h : sh_millpondref20_Put l K w) : Calls P fn_millpondref20_Put #[(.slice l.p l.n l.c)] w (Ret K) := calls_of_vc mixed Go.Proofs.Tryz.func10 ok_millpondref20_Put (by rw [vc_millpondref20_Put]; exact h)

def ann_script_Size : Ann := { quiet := fun d => [5].contains d }
/-- millpond/script.Size -/
def sh_script_Size (o_0 : Int) (o_1 : Int) (o_2 : Int) (o_3 : Int) (o_4 : Int) (K : Value → World → Prop) (w : World) : Prop :=
  Al (.cells #[(.int .i64 o_0), (.int .i64 o_1), (.int .i64 o_2), (.int .i64 o_3), (.int .i64 o_4)] 25) (fun p1 w2 => ∃ x3 : Int, w2.cell? (p1.add 0) = some (.int .i64 x3) ∧ ∃ x4 :
    Int, w2.cell? (p1.add 1) = some (.int .i64 x4) ∧ ∃ x5 : Int, w2.cell? (p1.add 2) = some (.int .i64 x5) ∧ ∃ x6 : Int, w2.cell? (p1.add 3) = some (.int .i64 x6) ∧ ∃ x7 : Int,
    w2.cell? (p1.add 4) = some (.int .i64 x7) ∧ Calls P fn_script_one #[(.agg #[(.int .i64 x3), (.int .i64 x4), (.int .i64 x5), (.int .i64 x6), (.int .i64 x7)])] w2 fun e9 w8 => ∃
    x10 : Sl, e9 = .returned (.slice x10.p x10.n x10.c) ∧ K (.int .i64 ((x10.n : Nat) : Int)) w8) w
theorem vc_script_Size (o_0 : Int) (o_1 : Int) (o_2 : Int) (o_3 : Int) (o_4 : Int) (K : Value → World → Prop) (w : World) : vcFn P tau rho pan ann_script_Size Go.Proofs.Tryz.f11 #[(.agg #[(.int .i64 o_0), (.int .i64 o_1), (.int .i64 o_2), (.int .i64 o_3), (.int .i64 o_4)])] K (fun _ _ => False) w = sh_script_Size o_0 o_1 o_2 o_3 o_4 K w := by kernel_rfl
theorem ok_script_Size : okFn P ann_script_Size Go.Proofs.Tryz.f11 1 = true := by kernel_rfl
theorem of_script_Size (o_0 : Int) (o_1 : Int) (o_2 : Int) (o_3 : Int) (o_4 : Int) {K : Value → World → Prop} {w : World} (h : sh_script_Size o_0 o_1 o_2 o_3 o_4 K w) : Calls P fn_script_Size #[(.agg #[(.int .i64 o_0), (.int .i64 o_1), (.int .i64 o_2), (.int .i64 o_3), (.int .i64 o_4)])] w (Ret K) := calls_of_vc mixed Go.Proofs.Tryz.func11 ok_script_Size (by rw [vc_script_Size]; exact h)

def ann_millpondref20_One : Ann := { quiet := fun d => [9, 13, 17, 19, 30, 32, 39, 42].contains d, loop := fun r => (bif r == 6 then [(3, .str), (5, .int .i64)] else []), join := fun r => (bif r == 3 then some [] else none) }
/-- millpond/millpondref20.One -/
def sh_millpondref20_One (o_0 : Int) (o_1 : Int) (o_2 : Int) (o_3 : Int) (o_4 : Int) (K : Value → World → Prop) (w : World) : Prop :=
  Al (.cells #[(.int .i64 o_0), (.int .i64 o_1), (.int .i64 o_2), (.int .i64 o_3), (.int .i64 o_4)] 25) (fun p1 w2 => ∃ J3 : World → Prop, (∃ x6 : Int, w2.cell? (p1.add 0) = some
    (.int .i64 x6) ∧ bif (decide (x6 < 0)) then (K (.string (ByteArray.mk #[])) w2) else (∃ x7 : Int, w2.cell? (p1.add 0) = some (.int .i64 x7) ∧ bif (decide (x7 > 13)) then (K
    (.string (ByteArray.mk #[])) w2) else (J3 w2))) ∧ (∀ _u5 : Nat → Value, ∀ w4 : World, J3 w4 → ∃ x8 : Int, w4.cell? (p1.add 0) = some (.int .i64 x8) ∧ Al (.cells #[(.int .u8
    (IntKind.u8.wrap x8))] 5) (fun p9 w10 => ∃ x11 : ByteArray, CvV P 27 9 (.slice (some p9) 1 1) w10 (.string x11) ∧ ∃ x12 : Int, w10.cell? (p1.add 1) = some (.int .i64 x12) ∧ ∃
    x13 : Int, w10.cell? (p1.add 2) = some (.int .i64 x13) ∧ ∃ x14 : Int, w10.cell? (p1.add 3) = some (.int .i64 x14) ∧ ∃ x15 : Int, w10.cell? (p1.add 4) = some (.int .i64 x15) ∧ Al
    (.cells #[(.int .i64 x12), (.int .i64 x13), (.int .i64 x14), (.int .i64 x15)] 3) (fun p16 w17 => ∃ (I18 : ByteArray → Int → World → Prop) (M19 : ByteArray → Int → World → Nat),
    I18 x11 0 w17 ∧ ∀ _u21 : Nat → Value, ∀ s22 : ByteArray, ∀ i23 : Int, ∀ w20 : World, I18 s22 i23 w20 → bif (decide (i23 < 4)) then (elAt (some p16) 4 i23 1 fun a24 => ∃ x25 :
    Int, w20.cell? a24 = some (.int .i64 x25) ∧ Calls P fn_millpondref20_number #[(.int .i64 x25)] w20 fun e27 w26 => ∃ x28 : ByteArray, e27 = .returned (.string x28) ∧ bif
    (x28.toList == (ByteArray.mk #[]).toList) then (K (.string (ByteArray.mk #[])) w26) else (s22.size + x28.size ≤ 9223372036854775807 ∧ (I18 (s22 ++ x28) (IntKind.i64.wrap (i23 +
    1)) w26 ∧ M19 (s22 ++ x28) (IntKind.i64.wrap (i23 + 1)) w26 < M19 s22 i23 w20))) else (K (.string s22) w20)) w10) w4)) w
theorem vc_millpondref20_One (o_0 : Int) (o_1 : Int) (o_2 : Int) (o_3 : Int) (o_4 : Int) (K : Value → World → Prop) (w : World) : vcFn P tau rho pan ann_millpondref20_One Go.Proofs.Tryz.f12 #[(.agg #[(.int .i64 o_0), (.int .i64 o_1), (.int .i64 o_2), (.int .i64 o_3), (.int .i64 o_4)])] K (fun _ _ => False) w = sh_millpondref20_One o_0 o_1 o_2 o_3 o_4 K w := by kernel_rfl
theorem ok_millpondref20_One : okFn P ann_millpondref20_One Go.Proofs.Tryz.f12 1 = true := by kernel_rfl
theorem of_millpondref20_One (o_0 : Int) (o_1 : Int) (o_2 : Int) (o_3 : Int) (o_4 : Int) {K : Value → World → Prop} {w : World} (h : sh_millpondref20_One o_0 o_1 o_2 o_3 o_4 K w) : Calls P fn_millpondref20_One #[(.agg #[(.int .i64 o_0), (.int .i64 o_1), (.int .i64 o_2), (.int .i64 o_3), (.int .i64 o_4)])] w (Ret K) := calls_of_vc mixed Go.Proofs.Tryz.func12 ok_millpondref20_One (by rw [vc_millpondref20_One]; exact h)

def ann_script_Get : Ann := { quiet := fun d => [12, 13, 24, 25, 29, 31, 32].contains d, loop := fun r => (bif r == 3 then [(5, .slice), (6, .slice)] else []), join := fun r => (bif r == 6 then some [(26, .bool)] else none) }
/-- millpond/script.Get -/
def sh_script_Get (b : Sl) (K : Value → World → Prop) (w : World) : Prop :=
  ∃ (I1 : Sl → Sl → World → Prop) (M2 : Sl → Sl → World → Nat), I1 ⟨none, 0, 0⟩ b w ∧ ∀ _u4 : Nat → Value, ∀ l5 : Sl, ∀ rest6 : Sl, ∀ w3 : World, I1 l5 rest6 w3 → bif (decide
    (((rest6.n : Nat) : Int) > 0)) then (Calls P fn_script_take #[(.slice rest6.p rest6.n rest6.c)] w3 fun e8 w7 => ∃ x9 : Int, ∃ x10 : Int, ∃ x11 : Int, ∃ x12 : Int, ∃ x13 : Int, ∃
    x14 : Sl, ∃ x15 : Bool, e8 = .returned (.tuple #[(.agg #[(.int .i64 x9), (.int .i64 x10), (.int .i64 x11), (.int .i64 x12), (.int .i64 x13)]), (.slice x14.p x14.n x14.c), (.bool
    x15)]) ∧ Al (.cells #[(.int .i64 0), (.int .i64 0), (.int .i64 0), (.int .i64 0), (.int .i64 0)] 25) (fun p16 w17 => StN [(.int .i64 x9), (.int .i64 x10), (.int .i64 x11), (.int
    .i64 x12), (.int .i64 x13)] p16 (fun w18 => ∃ J19 : Bool → World → Prop, (bif (!x15) then (J19 true w18) else (J19 (decide (((l5.n : Nat) : Int) ≥ 1000)) w18)) ∧ (∀ _u21 : Nat →
    Value, ∀ x22 : Bool, ∀ w20 : World, J19 x22 w20 → bif x22 then (K (.tuple #[(.slice l5.p l5.n l5.c), (.int .i64 20), (.int .i64 (IntKind.i64.wrap (((b.n : Nat) : Int) -
    ((rest6.n : Nat) : Int))))]) w20) else (∃ x23 : Int, w20.cell? (p16.add 0) = some (.int .i64 x23) ∧ ∃ x24 : Int, w20.cell? (p16.add 1) = some (.int .i64 x24) ∧ ∃ x25 : Int,
    w20.cell? (p16.add 2) = some (.int .i64 x25) ∧ ∃ x26 : Int, w20.cell? (p16.add 3) = some (.int .i64 x26) ∧ ∃ x27 : Int, w20.cell? (p16.add 4) = some (.int .i64 x27) ∧ Al (.cells
    #[(.int .i64 x23), (.int .i64 x24), (.int .i64 x25), (.int .i64 x26), (.int .i64 x27)] 25) (fun p28 w29 => ∃ x31 : Sl, ∃ w30 : World, Sem.run P (Builtin.append_ #[22, 22] 22
    #[(.slice l5.p l5.n l5.c), (.slice (some p28) 1 1)]) w29 = .ok (.slice x31.p x31.n x31.c) w30 ∧ (I1 x31 x14 w30 ∧ M2 x31 x14 w30 < M2 l5 rest6 w3)) w20))) w17) w7) else (K
    (.tuple #[(.slice l5.p l5.n l5.c), (.int .i64 0), (.int .i64 0)]) w3)
theorem vc_script_Get (b : Sl) (K : Value → World → Prop) (w : World) : vcFn P tau rho pan ann_script_Get Go.Proofs.Tryz.f13 #[(.slice b.p b.n b.c)] K (fun _ _ => False) w = sh_script_Get b K w := by kernel_rfl
theorem ok_script_Get : okFn P ann_script_Get Go.Proofs.Tryz.f13 1 = true := by kernel_rfl
theorem of_script_Get (b : Sl) {K : Value → World → Prop} {w : World} (h : sh_script_Get b K w) : Calls P fn_script_Get #[(.slice b.p b.n b.c)] w (Ret K) := calls_of_vc mixed Go.Proofs.Tryz.func13 ok_script_Get (by rw [vc_script_Get]; exact h)

def ann_millpondref20_Get : Ann := { quiet := fun d => [11, 12, 17, 20, 51, 52, 60, 61, 65, 66].contains d, sig := fun r => (bif r == 10 then some ([0, 1, 2, 3, 4, 5, 7, 8, 9, 10, 11, 6, 12, 13, 14, 15, 16, 17, 18], [6]) else none), loop := fun r => (bif r == 3 then [(5, .slice), (6, .int .i64)] else []), join := fun r => (bif r == 12 then some [] else none) }
/-- millpond/millpondref20.Get -/
def sh_millpondref20_Get (b : Sl) (K : Value → World → Prop) (w : World) : Prop :=
  ∃ (I1 : Sl → Int → World → Prop) (M2 : Sl → Int → World → Nat), I1 ⟨none, 0, 0⟩ 0 w ∧ ∀ _u4 : Nat → Value, ∀ l5 : Sl, ∀ at6 : Int, ∀ w3 : World, I1 l5 at6 w3 → bif (decide (at6 <
    ((b.n : Nat) : Int))) then (elAt b.p b.n at6 1 fun a7 => ∃ x8 : Int, w3.cell? a7 = some (.int .u8 x8) ∧ Al (.cells #[(.int .i64 0), (.int .i64 0), (.int .i64 0), (.int .i64 0),
    (.int .i64 0)] 25) (fun p9 w10 => StN [(.int .i64 (IntKind.i64.wrap x8)), (.int .i64 0), (.int .i64 0), (.int .i64 0), (.int .i64 0)] p9 (fun w11 => Calls P
    fn_millpondref20_take #[(.slice b.p b.n b.c), (.int .i64 (IntKind.i64.wrap (at6 + 1)))] w11 fun e13 w12 => ∃ x14 : Int, ∃ x15 : Int, e13 = .returned (.tuple #[(.int .i64 x14),
    (.int .i64 x15)]) ∧ St (p9.add 1) (.int .i64 x14) (fun w16 => Calls P fn_millpondref20_take #[(.slice b.p b.n b.c), (.int .i64 x15)] w16 fun e18 w17 => ∃ x19 : Int, ∃ x20 : Int,
    e18 = .returned (.tuple #[(.int .i64 x19), (.int .i64 x20)]) ∧ St (p9.add 2) (.int .i64 x19) (fun w21 => Calls P fn_millpondref20_take #[(.slice b.p b.n b.c), (.int .i64 x20)]
    w21 fun e23 w22 => ∃ x24 : Int, ∃ x25 : Int, e23 = .returned (.tuple #[(.int .i64 x24), (.int .i64 x25)]) ∧ St (p9.add 3) (.int .i64 x24) (fun w26 => Calls P
    fn_millpondref20_take #[(.slice b.p b.n b.c), (.int .i64 x25)] w26 fun e28 w27 => ∃ x29 : Int, ∃ x30 : Int, e28 = .returned (.tuple #[(.int .i64 x29), (.int .i64 x30)]) ∧ St
    (p9.add 4) (.int .i64 x29) (fun w31 => ∃ J32 : World → Prop, (Dr (fun w35 => bif (decide (x30 > ((b.n : Nat) : Int))) then (K (.tuple #[(.slice l5.p l5.n l5.c), (.int .i64 20),
    (.int .i64 at6)]) w35) else (∃ x36 : Int, w35.cell? (p9.add 0) = some (.int .i64 x36) ∧ ∃ x37 : Int, w35.cell? (p9.add 1) = some (.int .i64 x37) ∧ ∃ x38 : Int, w35.cell? (p9.add
    2) = some (.int .i64 x38) ∧ ∃ x39 : Int, w35.cell? (p9.add 3) = some (.int .i64 x39) ∧ ∃ x40 : Int, w35.cell? (p9.add 4) = some (.int .i64 x40) ∧ ((0 : Int) ≤ x30 ∧ x30 ≤ ((b.c
    : Nat) : Int)) ∧ ((0 : Int) ≤ at6 ∧ at6 ≤ ((x30.toNat : Nat) : Int)) ∧ ∃ x41 : ByteArray, CvV P 27 9 (.slice (slA b.p at6.toNat b.c 1) (x30.toNat - at6.toNat) (b.c - at6.toNat))
    w35 (.string x41) ∧ Calls P fn_millpondref20_One #[(.agg #[(.int .i64 x36), (.int .i64 x37), (.int .i64 x38), (.int .i64 x39), (.int .i64 x40)])] w35 fun e43 w42 => ∃ x44 :
    ByteArray, e43 = .returned (.string x44) ∧ ∃ x45 : ByteArray, CvV P 27 9 (.slice (slA b.p at6.toNat b.c 1) (x30.toNat - at6.toNat) (b.c - at6.toNat)) w42 (.string x45) ∧
    ((.string x45) : Value) = (.string x41) ∧ bif (!(x44.toList == x41.toList)) then (K (.tuple #[(.slice l5.p l5.n l5.c), (.int .i64 20), (.int .i64 at6)]) w42) else (bif (decide
    (((l5.n : Nat) : Int) ≥ 1000)) then (K (.tuple #[(.slice l5.p l5.n l5.c), (.int .i64 20), (.int .i64 at6)]) w42) else (J32 w42)))) w31) ∧ (∀ _u34 : Nat → Value, ∀ w33 : World,
    J32 w33 → ∃ x46 : Int, w33.cell? (p9.add 0) = some (.int .i64 x46) ∧ ∃ x47 : Int, w33.cell? (p9.add 1) = some (.int .i64 x47) ∧ ∃ x48 : Int, w33.cell? (p9.add 2) = some (.int
    .i64 x48) ∧ ∃ x49 : Int, w33.cell? (p9.add 3) = some (.int .i64 x49) ∧ ∃ x50 : Int, w33.cell? (p9.add 4) = some (.int .i64 x50) ∧ Al (.cells #[(.int .i64 x46), (.int .i64 x47),
    (.int .i64 x48), (.int .i64 x49), (.int .i64 x50)] 25) (fun p51 w52 => ∃ x54 : Sl, ∃ w53 : World, Sem.run P (Builtin.append_ #[22, 22] 22 #[(.slice l5.p l5.n l5.c), (.slice
    (some p51) 1 1)]) w52 = .ok (.slice x54.p x54.n x54.c) w53 ∧ (I1 x54 x30 w53 ∧ M2 x54 x30 w53 < M2 l5 at6 w3)) w33)) w27) w22) w17) w12) w10) w3) else (K (.tuple #[(.slice l5.p
    l5.n l5.c), (.int .i64 0), (.int .i64 0)]) w3)
theorem vc_millpondref20_Get (b : Sl) (K : Value → World → Prop) (w : World) : vcFn P tau rho pan ann_millpondref20_Get Go.Proofs.Tryz.f14 #[(.slice b.p b.n b.c)] K (fun _ _ => False) w = sh_millpondref20_Get b K w := by kernel_rfl
theorem ok_millpondref20_Get : okFn P ann_millpondref20_Get Go.Proofs.Tryz.f14 1 = true := by kernel_rfl
theorem of_millpondref20_Get (b : Sl) {K : Value → World → Prop} {w : World} (h : sh_millpondref20_Get b K w) : Calls P fn_millpondref20_Get #[(.slice b.p b.n b.c)] w (Ret K) := calls_of_vc mixed Go.Proofs.Tryz.func14 ok_millpondref20_Get (by rw [vc_millpondref20_Get]; exact h)

def ann_script_Play : Ann := {}
/-- millpond/script.Play -/
def sh_script_Play (frames : Int) (slots : Int) (sizes : Sl) (b : Sl) (K : Value → World → Prop) (w : World) : Prop :=
  Calls P fn_script_Get #[(.slice b.p b.n b.c)] w fun e2 w1 => ∃ x3 : Sl, ∃ x4 : Int, ∃ x5 : Int, e2 = .returned (.tuple #[(.slice x3.p x3.n x3.c), (.int .i64 x4), (.int .i64 x5)]) ∧
    Calls P fn_vm_Run #[(.int .i64 frames), (.int .i64 slots), (.slice sizes.p sizes.n sizes.c), (.slice x3.p x3.n x3.c)] w1 fun e7 w6 => ∃ x8 : Sl, e7 = .returned (.slice x8.p x8.n
    x8.c) ∧ K (.tuple #[(.slice x8.p x8.n x8.c), (.int .i64 x4)]) w6
theorem vc_script_Play (frames : Int) (slots : Int) (sizes : Sl) (b : Sl) (K : Value → World → Prop) (w : World) : vcFn P tau rho pan ann_script_Play Go.Proofs.Tryz.f15 #[(.int .i64 frames), (.int .i64 slots), (.slice sizes.p sizes.n sizes.c), (.slice b.p b.n b.c)] K (fun _ _ => False) w = sh_script_Play frames slots sizes b K w := by kernel_rfl
theorem ok_script_Play : okFn P ann_script_Play Go.Proofs.Tryz.f15 4 = true := by kernel_rfl
theorem of_script_Play (frames : Int) (slots : Int) (sizes : Sl) (b : Sl) {K : Value → World → Prop} {w : World} (h : sh_script_Play frames slots sizes b K w) : Calls P fn_script_Play #[(.int .i64 frames), (.int .i64 slots), (.slice sizes.p sizes.n sizes.c), (.slice b.p b.n b.c)] w (Ret K) := calls_of_vc mixed Go.Proofs.Tryz.func15 ok_script_Play (by rw [vc_script_Play]; exact h)

def ann_script_one : Ann := { quiet := fun d => [5, 9, 37].contains d, sig := fun r => (bif r == 3 then some ([0, 1, 2, 4, 5, 7, 8, 10, 11, 13, 14, 3, 6, 9, 12, 15, 16], [3, 6, 9, 12, 15]) else none), join := fun r => (bif r == 3 then some [] else none) }
/-- millpond/script.one -/
def sh_script_one (o_0 : Int) (o_1 : Int) (o_2 : Int) (o_3 : Int) (o_4 : Int) (K : Value → World → Prop) (w : World) : Prop :=
  Al (.cells #[(.int .i64 o_0), (.int .i64 o_1), (.int .i64 o_2), (.int .i64 o_3), (.int .i64 o_4)] 25) (fun p1 w2 => ∃ J3 : World → Prop, (∃ x6 : Int, w2.cell? (p1.add 0) = some
    (.int .i64 x6) ∧ bif (decide (x6 < 0)) then (K (.slice none 0 0) w2) else (∃ x7 : Int, w2.cell? (p1.add 0) = some (.int .i64 x7) ∧ bif (decide (x7 > 13)) then (K (.slice none 0
    0) w2) else (∃ x8 : Int, w2.cell? (p1.add 1) = some (.int .i64 x8) ∧ Calls P fn_script_number #[(.int .i64 x8)] w2 fun e10 w9 => ∃ x11 : Bool, e10 = .returned (.bool x11) ∧ bif
    (!x11) then (K (.slice none 0 0) w9) else (∃ x12 : Int, w9.cell? (p1.add 2) = some (.int .i64 x12) ∧ Calls P fn_script_number #[(.int .i64 x12)] w9 fun e14 w13 => ∃ x15 : Bool,
    e14 = .returned (.bool x15) ∧ bif (!x15) then (K (.slice none 0 0) w13) else (∃ x16 : Int, w13.cell? (p1.add 3) = some (.int .i64 x16) ∧ Calls P fn_script_number #[(.int .i64
    x16)] w13 fun e18 w17 => ∃ x19 : Bool, e18 = .returned (.bool x19) ∧ bif (!x19) then (K (.slice none 0 0) w17) else (∃ x20 : Int, w17.cell? (p1.add 4) = some (.int .i64 x20) ∧
    Calls P fn_script_number #[(.int .i64 x20)] w17 fun e22 w21 => ∃ x23 : Bool, e22 = .returned (.bool x23) ∧ bif (!x23) then (K (.slice none 0 0) w21) else (J3 w21))))))) ∧ (∀ _u5
    : Nat → Value, ∀ w4 : World, J3 w4 → Dr (fun w24 => ∃ x25 : Int, w24.cell? (p1.add 0) = some (.int .i64 x25) ∧ ∃ x26 : Int, w24.cell? (p1.add 1) = some (.int .i64 x26) ∧ ∃ x27 :
    Int, w24.cell? (p1.add 2) = some (.int .i64 x27) ∧ ∃ x28 : Int, w24.cell? (p1.add 3) = some (.int .i64 x28) ∧ ∃ x29 : Int, w24.cell? (p1.add 4) = some (.int .i64 x29) ∧ Al
    (.cells #[(.int .u8 (IntKind.u8.wrap x25))] 5) (fun p30 w31 => ∃ x32 : Int, w31.cell? (p1.add 4) = some (.int .i64 x32) ∧ ((.int .i64 x32) : Value) = (.int .i64 x29) ∧ ∃ x33 :
    Int, w31.cell? (p1.add 3) = some (.int .i64 x33) ∧ ((.int .i64 x33) : Value) = (.int .i64 x28) ∧ ∃ x34 : Int, w31.cell? (p1.add 2) = some (.int .i64 x34) ∧ ((.int .i64 x34) :
    Value) = (.int .i64 x27) ∧ ∃ x35 : Int, w31.cell? (p1.add 1) = some (.int .i64 x35) ∧ ((.int .i64 x35) : Value) = (.int .i64 x26) ∧ Calls P fn_script_put #[(.slice (some p30) 1
    1), (.int .i64 x26)] w31 fun e37 w36 => ∃ x38 : Sl, e37 = .returned (.slice x38.p x38.n x38.c) ∧ ∃ x39 : Int, w36.cell? (p1.add 4) = some (.int .i64 x39) ∧ ((.int .i64 x39) :
    Value) = (.int .i64 x29) ∧ ∃ x40 : Int, w36.cell? (p1.add 3) = some (.int .i64 x40) ∧ ((.int .i64 x40) : Value) = (.int .i64 x28) ∧ ∃ x41 : Int, w36.cell? (p1.add 2) = some
    (.int .i64 x41) ∧ ((.int .i64 x41) : Value) = (.int .i64 x27) ∧ Calls P fn_script_put #[(.slice x38.p x38.n x38.c), (.int .i64 x27)] w36 fun e43 w42 => ∃ x44 : Sl, e43 =
    .returned (.slice x44.p x44.n x44.c) ∧ ∃ x45 : Int, w42.cell? (p1.add 4) = some (.int .i64 x45) ∧ ((.int .i64 x45) : Value) = (.int .i64 x29) ∧ ∃ x46 : Int, w42.cell? (p1.add 3)
    = some (.int .i64 x46) ∧ ((.int .i64 x46) : Value) = (.int .i64 x28) ∧ Calls P fn_script_put #[(.slice x44.p x44.n x44.c), (.int .i64 x28)] w42 fun e48 w47 => ∃ x49 : Sl, e48 =
    .returned (.slice x49.p x49.n x49.c) ∧ ∃ x50 : Int, w47.cell? (p1.add 4) = some (.int .i64 x50) ∧ ((.int .i64 x50) : Value) = (.int .i64 x29) ∧ Calls P fn_script_put #[(.slice
    x49.p x49.n x49.c), (.int .i64 x29)] w47 fun e52 w51 => ∃ x53 : Sl, e52 = .returned (.slice x53.p x53.n x53.c) ∧ K (.slice x53.p x53.n x53.c) w51) w24) w4)) w
theorem vc_script_one (o_0 : Int) (o_1 : Int) (o_2 : Int) (o_3 : Int) (o_4 : Int) (K : Value → World → Prop) (w : World) : vcFn P tau rho pan ann_script_one Go.Proofs.Tryz.f16 #[(.agg #[(.int .i64 o_0), (.int .i64 o_1), (.int .i64 o_2), (.int .i64 o_3), (.int .i64 o_4)])] K (fun _ _ => False) w = sh_script_one o_0 o_1 o_2 o_3 o_4 K w := by kernel_rfl
theorem ok_script_one : okFn P ann_script_one Go.Proofs.Tryz.f16 1 = true := by kernel_rfl
theorem of_script_one (o_0 : Int) (o_1 : Int) (o_2 : Int) (o_3 : Int) (o_4 : Int) {K : Value → World → Prop} {w : World} (h : sh_script_one o_0 o_1 o_2 o_3 o_4 K w) : Calls P fn_script_one #[(.agg #[(.int .i64 o_0), (.int .i64 o_1), (.int .i64 o_2), (.int .i64 o_3), (.int .i64 o_4)])] w (Ret K) := calls_of_vc mixed Go.Proofs.Tryz.func16 ok_script_one (by rw [vc_script_one]; exact h)

def ann_millpondref20_number : Ann := { quiet := fun d => [4, 7, 10, 12, 14, 16, 17, 18, 20, 22, 24].contains d, fork := fun r => [5].contains r, join := fun r => (bif r == 3 then some [] else none) }
/-- millpond/millpondref20.number -/
def sh_millpondref20_number (n : Int) (K : Value → World → Prop) (w : World) : Prop :=
  ∃ J1 : World → Prop, (bif (decide (n < 0)) then (K (.string (ByteArray.mk #[])) w) else (bif (decide (n ≥ 2097152)) then (K (.string (ByteArray.mk #[])) w) else (J1 w))) ∧ (∀ _u3 :
    Nat → Value, ∀ w2 : World, J1 w2 → bif (decide (n < 128)) then (Al (.cells #[(.int .u8 (IntKind.u8.wrap n))] 5) (fun p4 w5 => ∃ x6 : ByteArray, CvV P 27 9 (.slice (some p4) 1 1)
    w5 (.string x6) ∧ K (.string x6) w5) w2) else (Dr (fun w7 => (((128 : Int) ≠ 0 ∧ (((Al (.cells #[(.int .u8 (IntKind.u8.wrap (IntKind.i64.wrap (128 + (n.tmod 128)))))] 5) (fun p8
    w9 => (∃ x10 : ByteArray, CvV P 27 9 (.slice (some p8) 1 1) w9 (.string x10) ∧ (((128 : Int) ≠ 0 ∧ (Calls P fn_millpondref20_number #[(.int .i64 (IntKind.i64.wrap (n.tdiv
    128)))] w9 fun e12 w11 => ∃ x13 : ByteArray, e12 = .returned (.string x13) ∧ (x10.size + x13.size ≤ 9223372036854775807 ∧ (K (.string (x10 ++ x13)) w11) ∧ True) ∧ True) ∧ True)
    ∧ True) ∧ True) ∧ (((∃ x14 : ByteArray, CvV P 27 9 (.slice (some p8) 1 1) w9 (.string x14) ∧ ((128 : Int) ≠ 0 ∧ (Calls P fn_millpondref20_number #[(.int .i64 (IntKind.i64.wrap
    (n.tdiv 128)))] w9 fun e16 w15 => ∃ x17 : ByteArray, e16 = .returned (.string x17) ∧ (x14.size + x17.size ≤ 9223372036854775807 ∧ (K (.string (x14 ++ x17)) w15) ∧ True) ∧ True)
    ∧ True) ∧ True) ∧ (((128 : Int) ≠ 0 ∧ (∃ x18 : ByteArray, CvV P 27 9 (.slice (some p8) 1 1) w9 (.string x18) ∧ (Calls P fn_millpondref20_number #[(.int .i64 (IntKind.i64.wrap
    (n.tdiv 128)))] w9 fun e20 w19 => ∃ x21 : ByteArray, e20 = .returned (.string x21) ∧ (x18.size + x21.size ≤ 9223372036854775807 ∧ (K (.string (x18 ++ x21)) w19) ∧ True) ∧ True)
    ∧ True) ∧ ((Calls P fn_millpondref20_number #[(.int .i64 (IntKind.i64.wrap (n.tdiv 128)))] w9 fun e23 w22 => ∃ x24 : ByteArray, e23 = .returned (.string x24) ∧ (∃ x25 :
    ByteArray, CvV P 27 9 (.slice (some p8) 1 1) w22 (.string x25) ∧ (x25.size + x24.size ≤ 9223372036854775807 ∧ (K (.string (x25 ++ x24)) w22) ∧ True) ∧ True) ∧ True) ∧ True)) ∧
    True)) ∧ True)) w7) ∧ (((Al (.cells #[(.int .u8 (IntKind.u8.wrap (IntKind.i64.wrap (128 + (n.tmod 128)))))] 5) (fun p26 w27 => (∃ x28 : ByteArray, CvV P 27 9 (.slice (some p26)
    1 1) w27 (.string x28) ∧ ((128 : Int) ≠ 0 ∧ (Calls P fn_millpondref20_number #[(.int .i64 (IntKind.i64.wrap (n.tdiv 128)))] w27 fun e30 w29 => ∃ x31 : ByteArray, e30 = .returned
    (.string x31) ∧ (x28.size + x31.size ≤ 9223372036854775807 ∧ (K (.string (x28 ++ x31)) w29) ∧ True) ∧ True) ∧ True) ∧ True) ∧ (((128 : Int) ≠ 0 ∧ (∃ x32 : ByteArray, CvV P 27 9
    (.slice (some p26) 1 1) w27 (.string x32) ∧ (Calls P fn_millpondref20_number #[(.int .i64 (IntKind.i64.wrap (n.tdiv 128)))] w27 fun e34 w33 => ∃ x35 : ByteArray, e34 = .returned
    (.string x35) ∧ (x32.size + x35.size ≤ 9223372036854775807 ∧ (K (.string (x32 ++ x35)) w33) ∧ True) ∧ True) ∧ True) ∧ ((Calls P fn_millpondref20_number #[(.int .i64
    (IntKind.i64.wrap (n.tdiv 128)))] w27 fun e37 w36 => ∃ x38 : ByteArray, e37 = .returned (.string x38) ∧ (∃ x39 : ByteArray, CvV P 27 9 (.slice (some p26) 1 1) w36 (.string x39)
    ∧ (x39.size + x38.size ≤ 9223372036854775807 ∧ (K (.string (x39 ++ x38)) w36) ∧ True) ∧ True) ∧ True) ∧ True)) ∧ True)) w7) ∧ (((128 : Int) ≠ 0 ∧ (Al (.cells #[(.int .u8
    (IntKind.u8.wrap (IntKind.i64.wrap (128 + (n.tmod 128)))))] 5) (fun p40 w41 => (∃ x42 : ByteArray, CvV P 27 9 (.slice (some p40) 1 1) w41 (.string x42) ∧ (Calls P
    fn_millpondref20_number #[(.int .i64 (IntKind.i64.wrap (n.tdiv 128)))] w41 fun e44 w43 => ∃ x45 : ByteArray, e44 = .returned (.string x45) ∧ (x42.size + x45.size ≤
    9223372036854775807 ∧ (K (.string (x42 ++ x45)) w43) ∧ True) ∧ True) ∧ True) ∧ ((Calls P fn_millpondref20_number #[(.int .i64 (IntKind.i64.wrap (n.tdiv 128)))] w41 fun e47 w46
    => ∃ x48 : ByteArray, e47 = .returned (.string x48) ∧ (∃ x49 : ByteArray, CvV P 27 9 (.slice (some p40) 1 1) w46 (.string x49) ∧ (x49.size + x48.size ≤ 9223372036854775807 ∧ (K
    (.string (x49 ++ x48)) w46) ∧ True) ∧ True) ∧ True) ∧ True)) w7) ∧ ((Calls P fn_millpondref20_number #[(.int .i64 (IntKind.i64.wrap (n.tdiv 128)))] w7 fun e51 w50 => ∃ x52 :
    ByteArray, e51 = .returned (.string x52) ∧ (Al (.cells #[(.int .u8 (IntKind.u8.wrap (IntKind.i64.wrap (128 + (n.tmod 128)))))] 5) (fun p53 w54 => (∃ x55 : ByteArray, CvV P 27 9
    (.slice (some p53) 1 1) w54 (.string x55) ∧ (x55.size + x52.size ≤ 9223372036854775807 ∧ (K (.string (x55 ++ x52)) w54) ∧ True) ∧ True) ∧ True) w50) ∧ True) ∧ True)) ∧ True)) ∧
    True)) ∧ ((((Al (.cells #[(.int .u8 (IntKind.u8.wrap (IntKind.i64.wrap (128 + (n.tmod 128)))))] 5) (fun p56 w57 => (∃ x58 : ByteArray, CvV P 27 9 (.slice (some p56) 1 1) w57
    (.string x58) ∧ ((128 : Int) ≠ 0 ∧ (Calls P fn_millpondref20_number #[(.int .i64 (IntKind.i64.wrap (n.tdiv 128)))] w57 fun e60 w59 => ∃ x61 : ByteArray, e60 = .returned (.string
    x61) ∧ (x58.size + x61.size ≤ 9223372036854775807 ∧ (K (.string (x58 ++ x61)) w59) ∧ True) ∧ True) ∧ True) ∧ True) ∧ (((128 : Int) ≠ 0 ∧ (∃ x62 : ByteArray, CvV P 27 9 (.slice
    (some p56) 1 1) w57 (.string x62) ∧ (Calls P fn_millpondref20_number #[(.int .i64 (IntKind.i64.wrap (n.tdiv 128)))] w57 fun e64 w63 => ∃ x65 : ByteArray, e64 = .returned
    (.string x65) ∧ (x62.size + x65.size ≤ 9223372036854775807 ∧ (K (.string (x62 ++ x65)) w63) ∧ True) ∧ True) ∧ True) ∧ ((Calls P fn_millpondref20_number #[(.int .i64
    (IntKind.i64.wrap (n.tdiv 128)))] w57 fun e67 w66 => ∃ x68 : ByteArray, e67 = .returned (.string x68) ∧ (∃ x69 : ByteArray, CvV P 27 9 (.slice (some p56) 1 1) w66 (.string x69)
    ∧ (x69.size + x68.size ≤ 9223372036854775807 ∧ (K (.string (x69 ++ x68)) w66) ∧ True) ∧ True) ∧ True) ∧ True)) ∧ True)) w7) ∧ (((128 : Int) ≠ 0 ∧ (Al (.cells #[(.int .u8
    (IntKind.u8.wrap (IntKind.i64.wrap (128 + (n.tmod 128)))))] 5) (fun p70 w71 => (∃ x72 : ByteArray, CvV P 27 9 (.slice (some p70) 1 1) w71 (.string x72) ∧ (Calls P
    fn_millpondref20_number #[(.int .i64 (IntKind.i64.wrap (n.tdiv 128)))] w71 fun e74 w73 => ∃ x75 : ByteArray, e74 = .returned (.string x75) ∧ (x72.size + x75.size ≤
    9223372036854775807 ∧ (K (.string (x72 ++ x75)) w73) ∧ True) ∧ True) ∧ True) ∧ ((Calls P fn_millpondref20_number #[(.int .i64 (IntKind.i64.wrap (n.tdiv 128)))] w71 fun e77 w76
    => ∃ x78 : ByteArray, e77 = .returned (.string x78) ∧ (∃ x79 : ByteArray, CvV P 27 9 (.slice (some p70) 1 1) w76 (.string x79) ∧ (x79.size + x78.size ≤ 9223372036854775807 ∧ (K
    (.string (x79 ++ x78)) w76) ∧ True) ∧ True) ∧ True) ∧ True)) w7) ∧ ((Calls P fn_millpondref20_number #[(.int .i64 (IntKind.i64.wrap (n.tdiv 128)))] w7 fun e81 w80 => ∃ x82 :
    ByteArray, e81 = .returned (.string x82) ∧ (Al (.cells #[(.int .u8 (IntKind.u8.wrap (IntKind.i64.wrap (128 + (n.tmod 128)))))] 5) (fun p83 w84 => (∃ x85 : ByteArray, CvV P 27 9
    (.slice (some p83) 1 1) w84 (.string x85) ∧ (x85.size + x82.size ≤ 9223372036854775807 ∧ (K (.string (x85 ++ x82)) w84) ∧ True) ∧ True) ∧ True) w80) ∧ True) ∧ True)) ∧ True)) ∧
    (((128 : Int) ≠ 0 ∧ ((Al (.cells #[(.int .u8 (IntKind.u8.wrap (IntKind.i64.wrap (128 + (n.tmod 128)))))] 5) (fun p86 w87 => (∃ x88 : ByteArray, CvV P 27 9 (.slice (some p86) 1
    1) w87 (.string x88) ∧ (Calls P fn_millpondref20_number #[(.int .i64 (IntKind.i64.wrap (n.tdiv 128)))] w87 fun e90 w89 => ∃ x91 : ByteArray, e90 = .returned (.string x91) ∧
    (x88.size + x91.size ≤ 9223372036854775807 ∧ (K (.string (x88 ++ x91)) w89) ∧ True) ∧ True) ∧ True) ∧ ((Calls P fn_millpondref20_number #[(.int .i64 (IntKind.i64.wrap (n.tdiv
    128)))] w87 fun e93 w92 => ∃ x94 : ByteArray, e93 = .returned (.string x94) ∧ (∃ x95 : ByteArray, CvV P 27 9 (.slice (some p86) 1 1) w92 (.string x95) ∧ (x95.size + x94.size ≤
    9223372036854775807 ∧ (K (.string (x95 ++ x94)) w92) ∧ True) ∧ True) ∧ True) ∧ True)) w7) ∧ ((Calls P fn_millpondref20_number #[(.int .i64 (IntKind.i64.wrap (n.tdiv 128)))] w7
    fun e97 w96 => ∃ x98 : ByteArray, e97 = .returned (.string x98) ∧ (Al (.cells #[(.int .u8 (IntKind.u8.wrap (IntKind.i64.wrap (128 + (n.tmod 128)))))] 5) (fun p99 w100 => (∃ x101
    : ByteArray, CvV P 27 9 (.slice (some p99) 1 1) w100 (.string x101) ∧ (x101.size + x98.size ≤ 9223372036854775807 ∧ (K (.string (x101 ++ x98)) w100) ∧ True) ∧ True) ∧ True) w96)
    ∧ True) ∧ True)) ∧ ((Calls P fn_millpondref20_number #[(.int .i64 (IntKind.i64.wrap (n.tdiv 128)))] w7 fun e103 w102 => ∃ x104 : ByteArray, e103 = .returned (.string x104) ∧
    ((Al (.cells #[(.int .u8 (IntKind.u8.wrap (IntKind.i64.wrap (128 + (n.tmod 128)))))] 5) (fun p105 w106 => (∃ x107 : ByteArray, CvV P 27 9 (.slice (some p105) 1 1) w106 (.string
    x107) ∧ (x107.size + x104.size ≤ 9223372036854775807 ∧ (K (.string (x107 ++ x104)) w106) ∧ True) ∧ True) ∧ True) w102) ∧ True) ∧ True) ∧ True)) ∧ True)) ∧ True)) ∧ (((((Al
    (.cells #[(.int .u8 (IntKind.u8.wrap (IntKind.i64.wrap (128 + (n.tmod 128)))))] 5) (fun p108 w109 => (∃ x110 : ByteArray, CvV P 27 9 (.slice (some p108) 1 1) w109 (.string x110)
    ∧ ((128 : Int) ≠ 0 ∧ (Calls P fn_millpondref20_number #[(.int .i64 (IntKind.i64.wrap (n.tdiv 128)))] w109 fun e112 w111 => ∃ x113 : ByteArray, e112 = .returned (.string x113) ∧
    (x110.size + x113.size ≤ 9223372036854775807 ∧ (K (.string (x110 ++ x113)) w111) ∧ True) ∧ True) ∧ True) ∧ True) ∧ (((128 : Int) ≠ 0 ∧ (∃ x114 : ByteArray, CvV P 27 9 (.slice
    (some p108) 1 1) w109 (.string x114) ∧ (Calls P fn_millpondref20_number #[(.int .i64 (IntKind.i64.wrap (n.tdiv 128)))] w109 fun e116 w115 => ∃ x117 : ByteArray, e116 = .returned
    (.string x117) ∧ (x114.size + x117.size ≤ 9223372036854775807 ∧ (K (.string (x114 ++ x117)) w115) ∧ True) ∧ True) ∧ True) ∧ ((Calls P fn_millpondref20_number #[(.int .i64
    (IntKind.i64.wrap (n.tdiv 128)))] w109 fun e119 w118 => ∃ x120 : ByteArray, e119 = .returned (.string x120) ∧ (∃ x121 : ByteArray, CvV P 27 9 (.slice (some p108) 1 1) w118
    (.string x121) ∧ (x121.size + x120.size ≤ 9223372036854775807 ∧ (K (.string (x121 ++ x120)) w118) ∧ True) ∧ True) ∧ True) ∧ True)) ∧ True)) w7) ∧ (((128 : Int) ≠ 0 ∧ (Al (.cells
    #[(.int .u8 (IntKind.u8.wrap (IntKind.i64.wrap (128 + (n.tmod 128)))))] 5) (fun p122 w123 => (∃ x124 : ByteArray, CvV P 27 9 (.slice (some p122) 1 1) w123 (.string x124) ∧
    (Calls P fn_millpondref20_number #[(.int .i64 (IntKind.i64.wrap (n.tdiv 128)))] w123 fun e126 w125 => ∃ x127 : ByteArray, e126 = .returned (.string x127) ∧ (x124.size +
    x127.size ≤ 9223372036854775807 ∧ (K (.string (x124 ++ x127)) w125) ∧ True) ∧ True) ∧ True) ∧ ((Calls P fn_millpondref20_number #[(.int .i64 (IntKind.i64.wrap (n.tdiv 128)))]
    w123 fun e129 w128 => ∃ x130 : ByteArray, e129 = .returned (.string x130) ∧ (∃ x131 : ByteArray, CvV P 27 9 (.slice (some p122) 1 1) w128 (.string x131) ∧ (x131.size + x130.size
    ≤ 9223372036854775807 ∧ (K (.string (x131 ++ x130)) w128) ∧ True) ∧ True) ∧ True) ∧ True)) w7) ∧ ((Calls P fn_millpondref20_number #[(.int .i64 (IntKind.i64.wrap (n.tdiv 128)))]
    w7 fun e133 w132 => ∃ x134 : ByteArray, e133 = .returned (.string x134) ∧ (Al (.cells #[(.int .u8 (IntKind.u8.wrap (IntKind.i64.wrap (128 + (n.tmod 128)))))] 5) (fun p135 w136
    => (∃ x137 : ByteArray, CvV P 27 9 (.slice (some p135) 1 1) w136 (.string x137) ∧ (x137.size + x134.size ≤ 9223372036854775807 ∧ (K (.string (x137 ++ x134)) w136) ∧ True) ∧
    True) ∧ True) w132) ∧ True) ∧ True)) ∧ True)) ∧ (((128 : Int) ≠ 0 ∧ ((Al (.cells #[(.int .u8 (IntKind.u8.wrap (IntKind.i64.wrap (128 + (n.tmod 128)))))] 5) (fun p138 w139 => (∃
    x140 : ByteArray, CvV P 27 9 (.slice (some p138) 1 1) w139 (.string x140) ∧ (Calls P fn_millpondref20_number #[(.int .i64 (IntKind.i64.wrap (n.tdiv 128)))] w139 fun e142 w141 =>
    ∃ x143 : ByteArray, e142 = .returned (.string x143) ∧ (x140.size + x143.size ≤ 9223372036854775807 ∧ (K (.string (x140 ++ x143)) w141) ∧ True) ∧ True) ∧ True) ∧ ((Calls P
    fn_millpondref20_number #[(.int .i64 (IntKind.i64.wrap (n.tdiv 128)))] w139 fun e145 w144 => ∃ x146 : ByteArray, e145 = .returned (.string x146) ∧ (∃ x147 : ByteArray, CvV P 27
    9 (.slice (some p138) 1 1) w144 (.string x147) ∧ (x147.size + x146.size ≤ 9223372036854775807 ∧ (K (.string (x147 ++ x146)) w144) ∧ True) ∧ True) ∧ True) ∧ True)) w7) ∧ ((Calls
    P fn_millpondref20_number #[(.int .i64 (IntKind.i64.wrap (n.tdiv 128)))] w7 fun e149 w148 => ∃ x150 : ByteArray, e149 = .returned (.string x150) ∧ (Al (.cells #[(.int .u8
    (IntKind.u8.wrap (IntKind.i64.wrap (128 + (n.tmod 128)))))] 5) (fun p151 w152 => (∃ x153 : ByteArray, CvV P 27 9 (.slice (some p151) 1 1) w152 (.string x153) ∧ (x153.size +
    x150.size ≤ 9223372036854775807 ∧ (K (.string (x153 ++ x150)) w152) ∧ True) ∧ True) ∧ True) w148) ∧ True) ∧ True)) ∧ ((Calls P fn_millpondref20_number #[(.int .i64
    (IntKind.i64.wrap (n.tdiv 128)))] w7 fun e155 w154 => ∃ x156 : ByteArray, e155 = .returned (.string x156) ∧ ((Al (.cells #[(.int .u8 (IntKind.u8.wrap (IntKind.i64.wrap (128 +
    (n.tmod 128)))))] 5) (fun p157 w158 => (∃ x159 : ByteArray, CvV P 27 9 (.slice (some p157) 1 1) w158 (.string x159) ∧ (x159.size + x156.size ≤ 9223372036854775807 ∧ (K (.string
    (x159 ++ x156)) w158) ∧ True) ∧ True) ∧ True) w154) ∧ True) ∧ True) ∧ True)) ∧ True)) ∧ (((128 : Int) ≠ 0 ∧ (((Al (.cells #[(.int .u8 (IntKind.u8.wrap (IntKind.i64.wrap (128 +
    (n.tmod 128)))))] 5) (fun p160 w161 => (∃ x162 : ByteArray, CvV P 27 9 (.slice (some p160) 1 1) w161 (.string x162) ∧ (Calls P fn_millpondref20_number #[(.int .i64
    (IntKind.i64.wrap (n.tdiv 128)))] w161 fun e164 w163 => ∃ x165 : ByteArray, e164 = .returned (.string x165) ∧ (x162.size + x165.size ≤ 9223372036854775807 ∧ (K (.string (x162 ++
    x165)) w163) ∧ True) ∧ True) ∧ True) ∧ ((Calls P fn_millpondref20_number #[(.int .i64 (IntKind.i64.wrap (n.tdiv 128)))] w161 fun e167 w166 => ∃ x168 : ByteArray, e167 =
    .returned (.string x168) ∧ (∃ x169 : ByteArray, CvV P 27 9 (.slice (some p160) 1 1) w166 (.string x169) ∧ (x169.size + x168.size ≤ 9223372036854775807 ∧ (K (.string (x169 ++
    x168)) w166) ∧ True) ∧ True) ∧ True) ∧ True)) w7) ∧ ((Calls P fn_millpondref20_number #[(.int .i64 (IntKind.i64.wrap (n.tdiv 128)))] w7 fun e171 w170 => ∃ x172 : ByteArray, e171
    = .returned (.string x172) ∧ (Al (.cells #[(.int .u8 (IntKind.u8.wrap (IntKind.i64.wrap (128 + (n.tmod 128)))))] 5) (fun p173 w174 => (∃ x175 : ByteArray, CvV P 27 9 (.slice
    (some p173) 1 1) w174 (.string x175) ∧ (x175.size + x172.size ≤ 9223372036854775807 ∧ (K (.string (x175 ++ x172)) w174) ∧ True) ∧ True) ∧ True) w170) ∧ True) ∧ True)) ∧ ((Calls
    P fn_millpondref20_number #[(.int .i64 (IntKind.i64.wrap (n.tdiv 128)))] w7 fun e177 w176 => ∃ x178 : ByteArray, e177 = .returned (.string x178) ∧ ((Al (.cells #[(.int .u8
    (IntKind.u8.wrap (IntKind.i64.wrap (128 + (n.tmod 128)))))] 5) (fun p179 w180 => (∃ x181 : ByteArray, CvV P 27 9 (.slice (some p179) 1 1) w180 (.string x181) ∧ (x181.size +
    x178.size ≤ 9223372036854775807 ∧ (K (.string (x181 ++ x178)) w180) ∧ True) ∧ True) ∧ True) w176) ∧ True) ∧ True) ∧ True)) ∧ ((Calls P fn_millpondref20_number #[(.int .i64
    (IntKind.i64.wrap (n.tdiv 128)))] w7 fun e183 w182 => ∃ x184 : ByteArray, e183 = .returned (.string x184) ∧ (((Al (.cells #[(.int .u8 (IntKind.u8.wrap (IntKind.i64.wrap (128 +
    (n.tmod 128)))))] 5) (fun p185 w186 => (∃ x187 : ByteArray, CvV P 27 9 (.slice (some p185) 1 1) w186 (.string x187) ∧ (x187.size + x184.size ≤ 9223372036854775807 ∧ (K (.string
    (x187 ++ x184)) w186) ∧ True) ∧ True) ∧ True) w182) ∧ True) ∧ True) ∧ True) ∧ True)) ∧ True)) ∧ True)) ∧ ((((128 : Int) ≠ 0 ∧ (((Al (.cells #[(.int .u8 (IntKind.u8.wrap
    (IntKind.i64.wrap (128 + (n.tmod 128)))))] 5) (fun p188 w189 => (∃ x190 : ByteArray, CvV P 27 9 (.slice (some p188) 1 1) w189 (.string x190) ∧ ((128 : Int) ≠ 0 ∧ (Calls P
    fn_millpondref20_number #[(.int .i64 (IntKind.i64.wrap (n.tdiv 128)))] w189 fun e192 w191 => ∃ x193 : ByteArray, e192 = .returned (.string x193) ∧ (x190.size + x193.size ≤
    9223372036854775807 ∧ (K (.string (x190 ++ x193)) w191) ∧ True) ∧ True) ∧ True) ∧ True) ∧ (((128 : Int) ≠ 0 ∧ (∃ x194 : ByteArray, CvV P 27 9 (.slice (some p188) 1 1) w189
    (.string x194) ∧ (Calls P fn_millpondref20_number #[(.int .i64 (IntKind.i64.wrap (n.tdiv 128)))] w189 fun e196 w195 => ∃ x197 : ByteArray, e196 = .returned (.string x197) ∧
    (x194.size + x197.size ≤ 9223372036854775807 ∧ (K (.string (x194 ++ x197)) w195) ∧ True) ∧ True) ∧ True) ∧ ((Calls P fn_millpondref20_number #[(.int .i64 (IntKind.i64.wrap
    (n.tdiv 128)))] w189 fun e199 w198 => ∃ x200 : ByteArray, e199 = .returned (.string x200) ∧ (∃ x201 : ByteArray, CvV P 27 9 (.slice (some p188) 1 1) w198 (.string x201) ∧
    (x201.size + x200.size ≤ 9223372036854775807 ∧ (K (.string (x201 ++ x200)) w198) ∧ True) ∧ True) ∧ True) ∧ True)) ∧ True)) w7) ∧ (((128 : Int) ≠ 0 ∧ (Al (.cells #[(.int .u8
    (IntKind.u8.wrap (IntKind.i64.wrap (128 + (n.tmod 128)))))] 5) (fun p202 w203 => (∃ x204 : ByteArray, CvV P 27 9 (.slice (some p202) 1 1) w203 (.string x204) ∧ (Calls P
    fn_millpondref20_number #[(.int .i64 (IntKind.i64.wrap (n.tdiv 128)))] w203 fun e206 w205 => ∃ x207 : ByteArray, e206 = .returned (.string x207) ∧ (x204.size + x207.size ≤
    9223372036854775807 ∧ (K (.string (x204 ++ x207)) w205) ∧ True) ∧ True) ∧ True) ∧ ((Calls P fn_millpondref20_number #[(.int .i64 (IntKind.i64.wrap (n.tdiv 128)))] w203 fun e209
    w208 => ∃ x210 : ByteArray, e209 = .returned (.string x210) ∧ (∃ x211 : ByteArray, CvV P 27 9 (.slice (some p202) 1 1) w208 (.string x211) ∧ (x211.size + x210.size ≤
    9223372036854775807 ∧ (K (.string (x211 ++ x210)) w208) ∧ True) ∧ True) ∧ True) ∧ True)) w7) ∧ ((Calls P fn_millpondref20_number #[(.int .i64 (IntKind.i64.wrap (n.tdiv 128)))]
    w7 fun e213 w212 => ∃ x214 : ByteArray, e213 = .returned (.string x214) ∧ (Al (.cells #[(.int .u8 (IntKind.u8.wrap (IntKind.i64.wrap (128 + (n.tmod 128)))))] 5) (fun p215 w216
    => (∃ x217 : ByteArray, CvV P 27 9 (.slice (some p215) 1 1) w216 (.string x217) ∧ (x217.size + x214.size ≤ 9223372036854775807 ∧ (K (.string (x217 ++ x214)) w216) ∧ True) ∧
    True) ∧ True) w212) ∧ True) ∧ True)) ∧ True)) ∧ (((128 : Int) ≠ 0 ∧ ((Al (.cells #[(.int .u8 (IntKind.u8.wrap (IntKind.i64.wrap (128 + (n.tmod 128)))))] 5) (fun p218 w219 => (∃
    x220 : ByteArray, CvV P 27 9 (.slice (some p218) 1 1) w219 (.string x220) ∧ (Calls P fn_millpondref20_number #[(.int .i64 (IntKind.i64.wrap (n.tdiv 128)))] w219 fun e222 w221 =>
    ∃ x223 : ByteArray, e222 = .returned (.string x223) ∧ (x220.size + x223.size ≤ 9223372036854775807 ∧ (K (.string (x220 ++ x223)) w221) ∧ True) ∧ True) ∧ True) ∧ ((Calls P
    fn_millpondref20_number #[(.int .i64 (IntKind.i64.wrap (n.tdiv 128)))] w219 fun e225 w224 => ∃ x226 : ByteArray, e225 = .returned (.string x226) ∧ (∃ x227 : ByteArray, CvV P 27
    9 (.slice (some p218) 1 1) w224 (.string x227) ∧ (x227.size + x226.size ≤ 9223372036854775807 ∧ (K (.string (x227 ++ x226)) w224) ∧ True) ∧ True) ∧ True) ∧ True)) w7) ∧ ((Calls
    P fn_millpondref20_number #[(.int .i64 (IntKind.i64.wrap (n.tdiv 128)))] w7 fun e229 w228 => ∃ x230 : ByteArray, e229 = .returned (.string x230) ∧ (Al (.cells #[(.int .u8
    (IntKind.u8.wrap (IntKind.i64.wrap (128 + (n.tmod 128)))))] 5) (fun p231 w232 => (∃ x233 : ByteArray, CvV P 27 9 (.slice (some p231) 1 1) w232 (.string x233) ∧ (x233.size +
    x230.size ≤ 9223372036854775807 ∧ (K (.string (x233 ++ x230)) w232) ∧ True) ∧ True) ∧ True) w228) ∧ True) ∧ True)) ∧ ((Calls P fn_millpondref20_number #[(.int .i64
    (IntKind.i64.wrap (n.tdiv 128)))] w7 fun e235 w234 => ∃ x236 : ByteArray, e235 = .returned (.string x236) ∧ ((Al (.cells #[(.int .u8 (IntKind.u8.wrap (IntKind.i64.wrap (128 +
    (n.tmod 128)))))] 5) (fun p237 w238 => (∃ x239 : ByteArray, CvV P 27 9 (.slice (some p237) 1 1) w238 (.string x239) ∧ (x239.size + x236.size ≤ 9223372036854775807 ∧ (K (.string
    (x239 ++ x236)) w238) ∧ True) ∧ True) ∧ True) w234) ∧ True) ∧ True) ∧ True)) ∧ True)) ∧ (((128 : Int) ≠ 0 ∧ (((Al (.cells #[(.int .u8 (IntKind.u8.wrap (IntKind.i64.wrap (128 +
    (n.tmod 128)))))] 5) (fun p240 w241 => (∃ x242 : ByteArray, CvV P 27 9 (.slice (some p240) 1 1) w241 (.string x242) ∧ (Calls P fn_millpondref20_number #[(.int .i64
    (IntKind.i64.wrap (n.tdiv 128)))] w241 fun e244 w243 => ∃ x245 : ByteArray, e244 = .returned (.string x245) ∧ (x242.size + x245.size ≤ 9223372036854775807 ∧ (K (.string (x242 ++
    x245)) w243) ∧ True) ∧ True) ∧ True) ∧ ((Calls P fn_millpondref20_number #[(.int .i64 (IntKind.i64.wrap (n.tdiv 128)))] w241 fun e247 w246 => ∃ x248 : ByteArray, e247 =
    .returned (.string x248) ∧ (∃ x249 : ByteArray, CvV P 27 9 (.slice (some p240) 1 1) w246 (.string x249) ∧ (x249.size + x248.size ≤ 9223372036854775807 ∧ (K (.string (x249 ++
    x248)) w246) ∧ True) ∧ True) ∧ True) ∧ True)) w7) ∧ ((Calls P fn_millpondref20_number #[(.int .i64 (IntKind.i64.wrap (n.tdiv 128)))] w7 fun e251 w250 => ∃ x252 : ByteArray, e251
    = .returned (.string x252) ∧ (Al (.cells #[(.int .u8 (IntKind.u8.wrap (IntKind.i64.wrap (128 + (n.tmod 128)))))] 5) (fun p253 w254 => (∃ x255 : ByteArray, CvV P 27 9 (.slice
    (some p253) 1 1) w254 (.string x255) ∧ (x255.size + x252.size ≤ 9223372036854775807 ∧ (K (.string (x255 ++ x252)) w254) ∧ True) ∧ True) ∧ True) w250) ∧ True) ∧ True)) ∧ ((Calls
    P fn_millpondref20_number #[(.int .i64 (IntKind.i64.wrap (n.tdiv 128)))] w7 fun e257 w256 => ∃ x258 : ByteArray, e257 = .returned (.string x258) ∧ ((Al (.cells #[(.int .u8
    (IntKind.u8.wrap (IntKind.i64.wrap (128 + (n.tmod 128)))))] 5) (fun p259 w260 => (∃ x261 : ByteArray, CvV P 27 9 (.slice (some p259) 1 1) w260 (.string x261) ∧ (x261.size +
    x258.size ≤ 9223372036854775807 ∧ (K (.string (x261 ++ x258)) w260) ∧ True) ∧ True) ∧ True) w256) ∧ True) ∧ True) ∧ True)) ∧ ((Calls P fn_millpondref20_number #[(.int .i64
    (IntKind.i64.wrap (n.tdiv 128)))] w7 fun e263 w262 => ∃ x264 : ByteArray, e263 = .returned (.string x264) ∧ (((Al (.cells #[(.int .u8 (IntKind.u8.wrap (IntKind.i64.wrap (128 +
    (n.tmod 128)))))] 5) (fun p265 w266 => (∃ x267 : ByteArray, CvV P 27 9 (.slice (some p265) 1 1) w266 (.string x267) ∧ (x267.size + x264.size ≤ 9223372036854775807 ∧ (K (.string
    (x267 ++ x264)) w266) ∧ True) ∧ True) ∧ True) w262) ∧ True) ∧ True) ∧ True) ∧ True)) ∧ True)) ∧ (((128 : Int) ≠ 0 ∧ ((128 : Int) ≠ 0 ∧ (((Al (.cells #[(.int .u8 (IntKind.u8.wrap
    (IntKind.i64.wrap (128 + (n.tmod 128)))))] 5) (fun p268 w269 => (∃ x270 : ByteArray, CvV P 27 9 (.slice (some p268) 1 1) w269 (.string x270) ∧ (Calls P fn_millpondref20_number
    #[(.int .i64 (IntKind.i64.wrap (n.tdiv 128)))] w269 fun e272 w271 => ∃ x273 : ByteArray, e272 = .returned (.string x273) ∧ (x270.size + x273.size ≤ 9223372036854775807 ∧ (K
    (.string (x270 ++ x273)) w271) ∧ True) ∧ True) ∧ True) ∧ ((Calls P fn_millpondref20_number #[(.int .i64 (IntKind.i64.wrap (n.tdiv 128)))] w269 fun e275 w274 => ∃ x276 :
    ByteArray, e275 = .returned (.string x276) ∧ (∃ x277 : ByteArray, CvV P 27 9 (.slice (some p268) 1 1) w274 (.string x277) ∧ (x277.size + x276.size ≤ 9223372036854775807 ∧ (K
    (.string (x277 ++ x276)) w274) ∧ True) ∧ True) ∧ True) ∧ True)) w7) ∧ ((Calls P fn_millpondref20_number #[(.int .i64 (IntKind.i64.wrap (n.tdiv 128)))] w7 fun e279 w278 => ∃ x280
    : ByteArray, e279 = .returned (.string x280) ∧ (Al (.cells #[(.int .u8 (IntKind.u8.wrap (IntKind.i64.wrap (128 + (n.tmod 128)))))] 5) (fun p281 w282 => (∃ x283 : ByteArray, CvV
    P 27 9 (.slice (some p281) 1 1) w282 (.string x283) ∧ (x283.size + x280.size ≤ 9223372036854775807 ∧ (K (.string (x283 ++ x280)) w282) ∧ True) ∧ True) ∧ True) w278) ∧ True) ∧
    True)) ∧ ((Calls P fn_millpondref20_number #[(.int .i64 (IntKind.i64.wrap (n.tdiv 128)))] w7 fun e285 w284 => ∃ x286 : ByteArray, e285 = .returned (.string x286) ∧ ((Al (.cells
    #[(.int .u8 (IntKind.u8.wrap (IntKind.i64.wrap (128 + (n.tmod 128)))))] 5) (fun p287 w288 => (∃ x289 : ByteArray, CvV P 27 9 (.slice (some p287) 1 1) w288 (.string x289) ∧
    (x289.size + x286.size ≤ 9223372036854775807 ∧ (K (.string (x289 ++ x286)) w288) ∧ True) ∧ True) ∧ True) w284) ∧ True) ∧ True) ∧ True)) ∧ ((Calls P fn_millpondref20_number
    #[(.int .i64 (IntKind.i64.wrap (n.tdiv 128)))] w7 fun e291 w290 => ∃ x292 : ByteArray, e291 = .returned (.string x292) ∧ (((Al (.cells #[(.int .u8 (IntKind.u8.wrap
    (IntKind.i64.wrap (128 + (n.tmod 128)))))] 5) (fun p293 w294 => (∃ x295 : ByteArray, CvV P 27 9 (.slice (some p293) 1 1) w294 (.string x295) ∧ (x295.size + x292.size ≤
    9223372036854775807 ∧ (K (.string (x295 ++ x292)) w294) ∧ True) ∧ True) ∧ True) w290) ∧ True) ∧ True) ∧ True) ∧ True)) ∧ ((Calls P fn_millpondref20_number #[(.int .i64
    (IntKind.i64.wrap (n.tdiv 128)))] w7 fun e297 w296 => ∃ x298 : ByteArray, e297 = .returned (.string x298) ∧ ((128 : Int) ≠ 0 ∧ (((Al (.cells #[(.int .u8 (IntKind.u8.wrap
    (IntKind.i64.wrap (128 + (n.tmod 128)))))] 5) (fun p299 w300 => (∃ x301 : ByteArray, CvV P 27 9 (.slice (some p299) 1 1) w300 (.string x301) ∧ (x301.size + x298.size ≤
    9223372036854775807 ∧ (K (.string (x301 ++ x298)) w300) ∧ True) ∧ True) ∧ True) w296) ∧ True) ∧ True) ∧ True) ∧ True) ∧ True)) ∧ True)) ∧ True)) ∧ (((((128 : Int) ≠ 0 ∧ (((Al
    (.cells #[(.int .u8 (IntKind.u8.wrap (IntKind.i64.wrap (128 + (n.tmod 128)))))] 5) (fun p302 w303 => (∃ x304 : ByteArray, CvV P 27 9 (.slice (some p302) 1 1) w303 (.string x304)
    ∧ ((128 : Int) ≠ 0 ∧ (Calls P fn_millpondref20_number #[(.int .i64 (IntKind.i64.wrap (n.tdiv 128)))] w303 fun e306 w305 => ∃ x307 : ByteArray, e306 = .returned (.string x307) ∧
    (x304.size + x307.size ≤ 9223372036854775807 ∧ (K (.string (x304 ++ x307)) w305) ∧ True) ∧ True) ∧ True) ∧ True) ∧ (((128 : Int) ≠ 0 ∧ (∃ x308 : ByteArray, CvV P 27 9 (.slice
    (some p302) 1 1) w303 (.string x308) ∧ (Calls P fn_millpondref20_number #[(.int .i64 (IntKind.i64.wrap (n.tdiv 128)))] w303 fun e310 w309 => ∃ x311 : ByteArray, e310 = .returned
    (.string x311) ∧ (x308.size + x311.size ≤ 9223372036854775807 ∧ (K (.string (x308 ++ x311)) w309) ∧ True) ∧ True) ∧ True) ∧ ((Calls P fn_millpondref20_number #[(.int .i64
    (IntKind.i64.wrap (n.tdiv 128)))] w303 fun e313 w312 => ∃ x314 : ByteArray, e313 = .returned (.string x314) ∧ (∃ x315 : ByteArray, CvV P 27 9 (.slice (some p302) 1 1) w312
    (.string x315) ∧ (x315.size + x314.size ≤ 9223372036854775807 ∧ (K (.string (x315 ++ x314)) w312) ∧ True) ∧ True) ∧ True) ∧ True)) ∧ True)) w7) ∧ (((128 : Int) ≠ 0 ∧ (Al (.cells
    #[(.int .u8 (IntKind.u8.wrap (IntKind.i64.wrap (128 + (n.tmod 128)))))] 5) (fun p316 w317 => (∃ x318 : ByteArray, CvV P 27 9 (.slice (some p316) 1 1) w317 (.string x318) ∧
    (Calls P fn_millpondref20_number #[(.int .i64 (IntKind.i64.wrap (n.tdiv 128)))] w317 fun e320 w319 => ∃ x321 : ByteArray, e320 = .returned (.string x321) ∧ (x318.size +
    x321.size ≤ 9223372036854775807 ∧ (K (.string (x318 ++ x321)) w319) ∧ True) ∧ True) ∧ True) ∧ ((Calls P fn_millpondref20_number #[(.int .i64 (IntKind.i64.wrap (n.tdiv 128)))]
    w317 fun e323 w322 => ∃ x324 : ByteArray, e323 = .returned (.string x324) ∧ (∃ x325 : ByteArray, CvV P 27 9 (.slice (some p316) 1 1) w322 (.string x325) ∧ (x325.size + x324.size
    ≤ 9223372036854775807 ∧ (K (.string (x325 ++ x324)) w322) ∧ True) ∧ True) ∧ True) ∧ True)) w7) ∧ ((Calls P fn_millpondref20_number #[(.int .i64 (IntKind.i64.wrap (n.tdiv 128)))]
    w7 fun e327 w326 => ∃ x328 : ByteArray, e327 = .returned (.string x328) ∧ (Al (.cells #[(.int .u8 (IntKind.u8.wrap (IntKind.i64.wrap (128 + (n.tmod 128)))))] 5) (fun p329 w330
    => (∃ x331 : ByteArray, CvV P 27 9 (.slice (some p329) 1 1) w330 (.string x331) ∧ (x331.size + x328.size ≤ 9223372036854775807 ∧ (K (.string (x331 ++ x328)) w330) ∧ True) ∧
    True) ∧ True) w326) ∧ True) ∧ True)) ∧ True)) ∧ (((128 : Int) ≠ 0 ∧ ((Al (.cells #[(.int .u8 (IntKind.u8.wrap (IntKind.i64.wrap (128 + (n.tmod 128)))))] 5) (fun p332 w333 => (∃
    x334 : ByteArray, CvV P 27 9 (.slice (some p332) 1 1) w333 (.string x334) ∧ (Calls P fn_millpondref20_number #[(.int .i64 (IntKind.i64.wrap (n.tdiv 128)))] w333 fun e336 w335 =>
    ∃ x337 : ByteArray, e336 = .returned (.string x337) ∧ (x334.size + x337.size ≤ 9223372036854775807 ∧ (K (.string (x334 ++ x337)) w335) ∧ True) ∧ True) ∧ True) ∧ ((Calls P
    fn_millpondref20_number #[(.int .i64 (IntKind.i64.wrap (n.tdiv 128)))] w333 fun e339 w338 => ∃ x340 : ByteArray, e339 = .returned (.string x340) ∧ (∃ x341 : ByteArray, CvV P 27
    9 (.slice (some p332) 1 1) w338 (.string x341) ∧ (x341.size + x340.size ≤ 9223372036854775807 ∧ (K (.string (x341 ++ x340)) w338) ∧ True) ∧ True) ∧ True) ∧ True)) w7) ∧ ((Calls
    P fn_millpondref20_number #[(.int .i64 (IntKind.i64.wrap (n.tdiv 128)))] w7 fun e343 w342 => ∃ x344 : ByteArray, e343 = .returned (.string x344) ∧ (Al (.cells #[(.int .u8
    (IntKind.u8.wrap (IntKind.i64.wrap (128 + (n.tmod 128)))))] 5) (fun p345 w346 => (∃ x347 : ByteArray, CvV P 27 9 (.slice (some p345) 1 1) w346 (.string x347) ∧ (x347.size +
    x344.size ≤ 9223372036854775807 ∧ (K (.string (x347 ++ x344)) w346) ∧ True) ∧ True) ∧ True) w342) ∧ True) ∧ True)) ∧ ((Calls P fn_millpondref20_number #[(.int .i64
    (IntKind.i64.wrap (n.tdiv 128)))] w7 fun e349 w348 => ∃ x350 : ByteArray, e349 = .returned (.string x350) ∧ ((Al (.cells #[(.int .u8 (IntKind.u8.wrap (IntKind.i64.wrap (128 +
    (n.tmod 128)))))] 5) (fun p351 w352 => (∃ x353 : ByteArray, CvV P 27 9 (.slice (some p351) 1 1) w352 (.string x353) ∧ (x353.size + x350.size ≤ 9223372036854775807 ∧ (K (.string
    (x353 ++ x350)) w352) ∧ True) ∧ True) ∧ True) w348) ∧ True) ∧ True) ∧ True)) ∧ True)) ∧ (((128 : Int) ≠ 0 ∧ (((Al (.cells #[(.int .u8 (IntKind.u8.wrap (IntKind.i64.wrap (128 +
    (n.tmod 128)))))] 5) (fun p354 w355 => (∃ x356 : ByteArray, CvV P 27 9 (.slice (some p354) 1 1) w355 (.string x356) ∧ (Calls P fn_millpondref20_number #[(.int .i64
    (IntKind.i64.wrap (n.tdiv 128)))] w355 fun e358 w357 => ∃ x359 : ByteArray, e358 = .returned (.string x359) ∧ (x356.size + x359.size ≤ 9223372036854775807 ∧ (K (.string (x356 ++
    x359)) w357) ∧ True) ∧ True) ∧ True) ∧ ((Calls P fn_millpondref20_number #[(.int .i64 (IntKind.i64.wrap (n.tdiv 128)))] w355 fun e361 w360 => ∃ x362 : ByteArray, e361 =
    .returned (.string x362) ∧ (∃ x363 : ByteArray, CvV P 27 9 (.slice (some p354) 1 1) w360 (.string x363) ∧ (x363.size + x362.size ≤ 9223372036854775807 ∧ (K (.string (x363 ++
    x362)) w360) ∧ True) ∧ True) ∧ True) ∧ True)) w7) ∧ ((Calls P fn_millpondref20_number #[(.int .i64 (IntKind.i64.wrap (n.tdiv 128)))] w7 fun e365 w364 => ∃ x366 : ByteArray, e365
    = .returned (.string x366) ∧ (Al (.cells #[(.int .u8 (IntKind.u8.wrap (IntKind.i64.wrap (128 + (n.tmod 128)))))] 5) (fun p367 w368 => (∃ x369 : ByteArray, CvV P 27 9 (.slice
    (some p367) 1 1) w368 (.string x369) ∧ (x369.size + x366.size ≤ 9223372036854775807 ∧ (K (.string (x369 ++ x366)) w368) ∧ True) ∧ True) ∧ True) w364) ∧ True) ∧ True)) ∧ ((Calls
    P fn_millpondref20_number #[(.int .i64 (IntKind.i64.wrap (n.tdiv 128)))] w7 fun e371 w370 => ∃ x372 : ByteArray, e371 = .returned (.string x372) ∧ ((Al (.cells #[(.int .u8
    (IntKind.u8.wrap (IntKind.i64.wrap (128 + (n.tmod 128)))))] 5) (fun p373 w374 => (∃ x375 : ByteArray, CvV P 27 9 (.slice (some p373) 1 1) w374 (.string x375) ∧ (x375.size +
    x372.size ≤ 9223372036854775807 ∧ (K (.string (x375 ++ x372)) w374) ∧ True) ∧ True) ∧ True) w370) ∧ True) ∧ True) ∧ True)) ∧ ((Calls P fn_millpondref20_number #[(.int .i64
    (IntKind.i64.wrap (n.tdiv 128)))] w7 fun e377 w376 => ∃ x378 : ByteArray, e377 = .returned (.string x378) ∧ (((Al (.cells #[(.int .u8 (IntKind.u8.wrap (IntKind.i64.wrap (128 +
    (n.tmod 128)))))] 5) (fun p379 w380 => (∃ x381 : ByteArray, CvV P 27 9 (.slice (some p379) 1 1) w380 (.string x381) ∧ (x381.size + x378.size ≤ 9223372036854775807 ∧ (K (.string
    (x381 ++ x378)) w380) ∧ True) ∧ True) ∧ True) w376) ∧ True) ∧ True) ∧ True) ∧ True)) ∧ True)) ∧ (((128 : Int) ≠ 0 ∧ ((128 : Int) ≠ 0 ∧ (((Al (.cells #[(.int .u8 (IntKind.u8.wrap
    (IntKind.i64.wrap (128 + (n.tmod 128)))))] 5) (fun p382 w383 => (∃ x384 : ByteArray, CvV P 27 9 (.slice (some p382) 1 1) w383 (.string x384) ∧ (Calls P fn_millpondref20_number
    #[(.int .i64 (IntKind.i64.wrap (n.tdiv 128)))] w383 fun e386 w385 => ∃ x387 : ByteArray, e386 = .returned (.string x387) ∧ (x384.size + x387.size ≤ 9223372036854775807 ∧ (K
    (.string (x384 ++ x387)) w385) ∧ True) ∧ True) ∧ True) ∧ ((Calls P fn_millpondref20_number #[(.int .i64 (IntKind.i64.wrap (n.tdiv 128)))] w383 fun e389 w388 => ∃ x390 :
    ByteArray, e389 = .returned (.string x390) ∧ (∃ x391 : ByteArray, CvV P 27 9 (.slice (some p382) 1 1) w388 (.string x391) ∧ (x391.size + x390.size ≤ 9223372036854775807 ∧ (K
    (.string (x391 ++ x390)) w388) ∧ True) ∧ True) ∧ True) ∧ True)) w7) ∧ ((Calls P fn_millpondref20_number #[(.int .i64 (IntKind.i64.wrap (n.tdiv 128)))] w7 fun e393 w392 => ∃ x394
    : ByteArray, e393 = .returned (.string x394) ∧ (Al (.cells #[(.int .u8 (IntKind.u8.wrap (IntKind.i64.wrap (128 + (n.tmod 128)))))] 5) (fun p395 w396 => (∃ x397 : ByteArray, CvV
    P 27 9 (.slice (some p395) 1 1) w396 (.string x397) ∧ (x397.size + x394.size ≤ 9223372036854775807 ∧ (K (.string (x397 ++ x394)) w396) ∧ True) ∧ True) ∧ True) w392) ∧ True) ∧
    True)) ∧ ((Calls P fn_millpondref20_number #[(.int .i64 (IntKind.i64.wrap (n.tdiv 128)))] w7 fun e399 w398 => ∃ x400 : ByteArray, e399 = .returned (.string x400) ∧ ((Al (.cells
    #[(.int .u8 (IntKind.u8.wrap (IntKind.i64.wrap (128 + (n.tmod 128)))))] 5) (fun p401 w402 => (∃ x403 : ByteArray, CvV P 27 9 (.slice (some p401) 1 1) w402 (.string x403) ∧
    (x403.size + x400.size ≤ 9223372036854775807 ∧ (K (.string (x403 ++ x400)) w402) ∧ True) ∧ True) ∧ True) w398) ∧ True) ∧ True) ∧ True)) ∧ ((Calls P fn_millpondref20_number
    #[(.int .i64 (IntKind.i64.wrap (n.tdiv 128)))] w7 fun e405 w404 => ∃ x406 : ByteArray, e405 = .returned (.string x406) ∧ (((Al (.cells #[(.int .u8 (IntKind.u8.wrap
    (IntKind.i64.wrap (128 + (n.tmod 128)))))] 5) (fun p407 w408 => (∃ x409 : ByteArray, CvV P 27 9 (.slice (some p407) 1 1) w408 (.string x409) ∧ (x409.size + x406.size ≤
    9223372036854775807 ∧ (K (.string (x409 ++ x406)) w408) ∧ True) ∧ True) ∧ True) w404) ∧ True) ∧ True) ∧ True) ∧ True)) ∧ ((Calls P fn_millpondref20_number #[(.int .i64
    (IntKind.i64.wrap (n.tdiv 128)))] w7 fun e411 w410 => ∃ x412 : ByteArray, e411 = .returned (.string x412) ∧ ((128 : Int) ≠ 0 ∧ (((Al (.cells #[(.int .u8 (IntKind.u8.wrap
    (IntKind.i64.wrap (128 + (n.tmod 128)))))] 5) (fun p413 w414 => (∃ x415 : ByteArray, CvV P 27 9 (.slice (some p413) 1 1) w414 (.string x415) ∧ (x415.size + x412.size ≤
    9223372036854775807 ∧ (K (.string (x415 ++ x412)) w414) ∧ True) ∧ True) ∧ True) w410) ∧ True) ∧ True) ∧ True) ∧ True) ∧ True)) ∧ True)) ∧ (((128 : Int) ≠ 0 ∧ (((128 : Int) ≠ 0 ∧
    (((Al (.cells #[(.int .u8 (IntKind.u8.wrap (IntKind.i64.wrap (128 + (n.tmod 128)))))] 5) (fun p416 w417 => (∃ x418 : ByteArray, CvV P 27 9 (.slice (some p416) 1 1) w417 (.string
    x418) ∧ (Calls P fn_millpondref20_number #[(.int .i64 (IntKind.i64.wrap (n.tdiv 128)))] w417 fun e420 w419 => ∃ x421 : ByteArray, e420 = .returned (.string x421) ∧ (x418.size +
    x421.size ≤ 9223372036854775807 ∧ (K (.string (x418 ++ x421)) w419) ∧ True) ∧ True) ∧ True) ∧ ((Calls P fn_millpondref20_number #[(.int .i64 (IntKind.i64.wrap (n.tdiv 128)))]
    w417 fun e423 w422 => ∃ x424 : ByteArray, e423 = .returned (.string x424) ∧ (∃ x425 : ByteArray, CvV P 27 9 (.slice (some p416) 1 1) w422 (.string x425) ∧ (x425.size + x424.size
    ≤ 9223372036854775807 ∧ (K (.string (x425 ++ x424)) w422) ∧ True) ∧ True) ∧ True) ∧ True)) w7) ∧ ((Calls P fn_millpondref20_number #[(.int .i64 (IntKind.i64.wrap (n.tdiv 128)))]
    w7 fun e427 w426 => ∃ x428 : ByteArray, e427 = .returned (.string x428) ∧ (Al (.cells #[(.int .u8 (IntKind.u8.wrap (IntKind.i64.wrap (128 + (n.tmod 128)))))] 5) (fun p429 w430
    => (∃ x431 : ByteArray, CvV P 27 9 (.slice (some p429) 1 1) w430 (.string x431) ∧ (x431.size + x428.size ≤ 9223372036854775807 ∧ (K (.string (x431 ++ x428)) w430) ∧ True) ∧
    True) ∧ True) w426) ∧ True) ∧ True)) ∧ ((Calls P fn_millpondref20_number #[(.int .i64 (IntKind.i64.wrap (n.tdiv 128)))] w7 fun e433 w432 => ∃ x434 : ByteArray, e433 = .returned
    (.string x434) ∧ ((Al (.cells #[(.int .u8 (IntKind.u8.wrap (IntKind.i64.wrap (128 + (n.tmod 128)))))] 5) (fun p435 w436 => (∃ x437 : ByteArray, CvV P 27 9 (.slice (some p435) 1
    1) w436 (.string x437) ∧ (x437.size + x434.size ≤ 9223372036854775807 ∧ (K (.string (x437 ++ x434)) w436) ∧ True) ∧ True) ∧ True) w432) ∧ True) ∧ True) ∧ True)) ∧ ((Calls P
    fn_millpondref20_number #[(.int .i64 (IntKind.i64.wrap (n.tdiv 128)))] w7 fun e439 w438 => ∃ x440 : ByteArray, e439 = .returned (.string x440) ∧ (((Al (.cells #[(.int .u8
    (IntKind.u8.wrap (IntKind.i64.wrap (128 + (n.tmod 128)))))] 5) (fun p441 w442 => (∃ x443 : ByteArray, CvV P 27 9 (.slice (some p441) 1 1) w442 (.string x443) ∧ (x443.size +
    x440.size ≤ 9223372036854775807 ∧ (K (.string (x443 ++ x440)) w442) ∧ True) ∧ True) ∧ True) w438) ∧ True) ∧ True) ∧ True) ∧ True)) ∧ ((Calls P fn_millpondref20_number #[(.int
    .i64 (IntKind.i64.wrap (n.tdiv 128)))] w7 fun e445 w444 => ∃ x446 : ByteArray, e445 = .returned (.string x446) ∧ ((128 : Int) ≠ 0 ∧ (((Al (.cells #[(.int .u8 (IntKind.u8.wrap
    (IntKind.i64.wrap (128 + (n.tmod 128)))))] 5) (fun p447 w448 => (∃ x449 : ByteArray, CvV P 27 9 (.slice (some p447) 1 1) w448 (.string x449) ∧ (x449.size + x446.size ≤
    9223372036854775807 ∧ (K (.string (x449 ++ x446)) w448) ∧ True) ∧ True) ∧ True) w444) ∧ True) ∧ True) ∧ True) ∧ True) ∧ True)) ∧ ((Calls P fn_millpondref20_number #[(.int .i64
    (IntKind.i64.wrap (n.tdiv 128)))] w7 fun e451 w450 => ∃ x452 : ByteArray, e451 = .returned (.string x452) ∧ (((128 : Int) ≠ 0 ∧ (((Al (.cells #[(.int .u8 (IntKind.u8.wrap
    (IntKind.i64.wrap (128 + (n.tmod 128)))))] 5) (fun p453 w454 => (∃ x455 : ByteArray, CvV P 27 9 (.slice (some p453) 1 1) w454 (.string x455) ∧ (x455.size + x452.size ≤
    9223372036854775807 ∧ (K (.string (x455 ++ x452)) w454) ∧ True) ∧ True) ∧ True) w450) ∧ True) ∧ True) ∧ True) ∧ True) ∧ True) ∧ True)) ∧ True)) ∧ True)) w2))
theorem vc_millpondref20_number (n : Int) (K : Value → World → Prop) (w : World) : vcFn P tau rho pan ann_millpondref20_number Go.Proofs.Tryz.f17 #[(.int .i64 n)] K (fun _ _ => False) w = sh_millpondref20_number n K w := by kernel_rfl
theorem ok_millpondref20_number : okFn P ann_millpondref20_number Go.Proofs.Tryz.f17 1 = true := by kernel_rfl
theorem of_millpondref20_number (n : Int) {K : Value → World → Prop} {w : World} (h : sh_millpondref20_number n K w) : Calls P fn_millpondref20_number #[(.int .i64 n)] w (Ret K) := calls_of_vc mixed Go.Proofs.Tryz.func17 ok_millpondref20_number (by rw [vc_millpondref20_number]; exact h)

def ann_script_take : Ann := { quiet := fun d => [13, 19, 26, 37].contains d, head := fun r => (bif r == 2 then 7 else 0), loop := fun r => (bif r == 4 then [(6, .slice), (7, .bool), (25, .int .i64)] else []) }
/-- millpond/script.take -/
def sh_script_take (b : Sl) (K : Value → World → Prop) (w : World) : Prop :=
  Al (.cells #[(.int .i64 0), (.int .i64 0), (.int .i64 0), (.int .i64 0), (.int .i64 0)] 25) (fun p1 w2 => elAt b.p b.n 0 1 fun a3 => ∃ x4 : Int, w2.cell? a3 = some (.int .u8 x4) ∧
    Al (.cells #[(.int .i64 0), (.int .i64 0), (.int .i64 0), (.int .i64 0), (.int .i64 0)] 25) (fun p5 w6 => StN [(.int .i64 (IntKind.i64.wrap x4)), (.int .i64 0), (.int .i64 0),
    (.int .i64 0), (.int .i64 0)] p5 (fun w7 => Dr (fun w8 => ((0 : Int) ≤ 1 ∧ 1 ≤ ((b.n : Nat) : Int)) ∧ ∃ x9 : Int, w8.cell? (p5.add 0) = some (.int .i64 x9) ∧ ∃ (I10 : Sl → Bool
    → Int → World → Prop) (M11 : Sl → Bool → Int → World → Nat), I10 ⟨(slA b.p ((1 : Int).toNat) b.c 1), (b.n - (1 : Int).toNat), (b.c - (1 : Int).toNat)⟩ (decide (x9 ≤ 13)) 0 w8 ∧
    ∀ _u13 : Nat → Value, ∀ rest14 : Sl, ∀ ok15 : Bool, ∀ x16 : Int, ∀ w12 : World, I10 rest14 ok15 x16 w12 → bif (decide (x16 < 4)) then (∃ x18 : Option Addr, ∃ w17 : World,
    Sem.run P (Instr.index 58 (.agg #[(.pointer (some (p5.add 1))), (.pointer (some (p5.add 2))), (.pointer (some (p5.add 3))), (.pointer (some (p5.add 4)))]) (.int .i64 x16)) w12 =
    .ok (.pointer x18) w17 ∧ bif ok15 then (Calls P fn_script_get #[(.slice rest14.p rest14.n rest14.c)] w17 fun e20 w19 => ∃ x21 : Int, ∃ x22 : Sl, ∃ x23 : Bool, e20 = .returned
    (.tuple #[(.int .i64 x21), (.slice x22.p x22.n x22.c), (.bool x23)]) ∧ NN x18 fun a24 => St a24 (.int .i64 x21) (fun w25 => (I10 x22 x23 (IntKind.i64.wrap (x16 + 1)) w25 ∧ M11
    x22 x23 (IntKind.i64.wrap (x16 + 1)) w25 < M11 rest14 ok15 x16 w12)) w19) else ((I10 rest14 ok15 (IntKind.i64.wrap (x16 + 1)) w17 ∧ M11 rest14 ok15 (IntKind.i64.wrap (x16 + 1))
    w17 < M11 rest14 ok15 x16 w12))) else (∃ x26 : Int, w12.cell? (p5.add 0) = some (.int .i64 x26) ∧ ∃ x27 : Int, w12.cell? (p5.add 1) = some (.int .i64 x27) ∧ ∃ x28 : Int,
    w12.cell? (p5.add 2) = some (.int .i64 x28) ∧ ∃ x29 : Int, w12.cell? (p5.add 3) = some (.int .i64 x29) ∧ ∃ x30 : Int, w12.cell? (p5.add 4) = some (.int .i64 x30) ∧ StN [(.int
    .i64 x26), (.int .i64 x27), (.int .i64 x28), (.int .i64 x29), (.int .i64 x30)] p1 (fun w31 => ∃ r32 : Int, w31.cell? (p1.add 0) = some (.int .i64 r32) ∧ ∃ r33 : Int, w31.cell?
    (p1.add 1) = some (.int .i64 r33) ∧ ∃ r34 : Int, w31.cell? (p1.add 2) = some (.int .i64 r34) ∧ ∃ r35 : Int, w31.cell? (p1.add 3) = some (.int .i64 r35) ∧ ∃ r36 : Int, w31.cell?
    (p1.add 4) = some (.int .i64 r36) ∧ K (.tuple #[(.agg #[(.int .i64 r32), (.int .i64 r33), (.int .i64 r34), (.int .i64 r35), (.int .i64 r36)]), (.slice rest14.p rest14.n
    rest14.c), (.bool ok15)]) w31) w12)) w7) w6) w2) w
theorem vc_script_take (b : Sl) (K : Value → World → Prop) (w : World) : vcFn P tau rho pan ann_script_take Go.Proofs.Tryz.f18 #[(.slice b.p b.n b.c)] K (fun _ _ => False) w = sh_script_take b K w := by delta sh_script_take; kernel_rfl
theorem ok_script_take : okFn P ann_script_take Go.Proofs.Tryz.f18 1 = true := by kernel_rfl
theorem of_script_take (b : Sl) {K : Value → World → Prop} {w : World} (h : sh_script_take b K w) : Calls P fn_script_take #[(.slice b.p b.n b.c)] w (Ret K) := calls_of_vc mixed Go.Proofs.Tryz.func18 ok_script_take (by rw [vc_script_take]; exact h)

def ann_millpondref20_take : Ann := { quiet := fun d => [12, 13, 17, 18, 21, 27, 28, 30, 31, 33, 38, 41, 43, 44].contains d, loop := fun r => (bif r == 4 then [(6, .int .i64), (7, .int .i64), (8, .int .i64)] else []), join := fun r => (bif r == 6 then some [] else bif r == 10 then some [] else none) }
/-- millpond/millpondref20.take -/
def sh_millpondref20_take (b : Sl) (atA : Int) (K : Value → World → Prop) (w : World) : Prop :=
  ∃ J1 : World → Prop, (∃ (I4 : Int → Int → Int → World → Prop) (M5 : Int → Int → Int → World → Nat), I4 0 1 atA w ∧ ∀ _u7 : Nat → Value, ∀ n8 : Int, ∀ weight9 : Int, ∀ i10 : Int, ∀
    w6 : World, I4 n8 weight9 i10 w6 → ∃ J11 : World → Prop, (bif (decide (i10 < ((b.n : Nat) : Int))) then (bif (decide (i10 < (IntKind.i64.wrap (atA + 3)))) then (J11 w6) else (J1
    w6)) else (J1 w6)) ∧ (∀ _u13 : Nat → Value, ∀ w12 : World, J11 w12 → elAt b.p b.n i10 1 fun a14 => ∃ x15 : Int, w12.cell? a14 = some (.int .u8 x15) ∧ (128 : Int) ≠ 0 ∧ elAt b.p
    b.n i10 1 fun a16 => ∃ x17 : Int, w12.cell? a16 = some (.int .u8 x17) ∧ bif (decide (x17 < 128)) then (K (.tuple #[(.int .i64 (IntKind.i64.wrap (n8 + (IntKind.i64.wrap
    (((IntKind.i64.wrap x15).tmod 128) * weight9))))), (.int .i64 (IntKind.i64.wrap (i10 + 1)))]) w12) else ((I4 (IntKind.i64.wrap (n8 + (IntKind.i64.wrap (((IntKind.i64.wrap
    x15).tmod 128) * weight9)))) (IntKind.i64.wrap (weight9 * 128)) (IntKind.i64.wrap (i10 + 1)) w12 ∧ M5 (IntKind.i64.wrap (n8 + (IntKind.i64.wrap (((IntKind.i64.wrap x15).tmod
    128) * weight9)))) (IntKind.i64.wrap (weight9 * 128)) (IntKind.i64.wrap (i10 + 1)) w12 < M5 n8 weight9 i10 w6)))) ∧ (∀ _u3 : Nat → Value, ∀ w2 : World, J1 w2 → K (.tuple #[(.int
    .i64 0), (.int .i64 (IntKind.i64.wrap (((b.n : Nat) : Int) + 1)))]) w2)
theorem vc_millpondref20_take (b : Sl) (atA : Int) (K : Value → World → Prop) (w : World) : vcFn P tau rho pan ann_millpondref20_take Go.Proofs.Tryz.f19 #[(.slice b.p b.n b.c), (.int .i64 atA)] K (fun _ _ => False) w = sh_millpondref20_take b atA K w := by kernel_rfl
theorem ok_millpondref20_take : okFn P ann_millpondref20_take Go.Proofs.Tryz.f19 2 = true := by kernel_rfl
theorem of_millpondref20_take (b : Sl) (atA : Int) {K : Value → World → Prop} {w : World} (h : sh_millpondref20_take b atA K w) : Calls P fn_millpondref20_take #[(.slice b.p b.n b.c), (.int .i64 atA)] w (Ret K) := calls_of_vc mixed Go.Proofs.Tryz.func19 ok_millpondref20_take (by rw [vc_millpondref20_take]; exact h)

def ann_vm_Run : Ann := { quiet := fun d => [18, 20, 29].contains d, loop := fun r => (bif r == 4 then [(10, .slice), (19, .int .i64)] else []) }
/-- millpond/vm.Run -/
def sh_vm_Run (frames : Int) (slots : Int) (sizes : Sl) (l : Sl) (K : Value → World → Prop) (w : World) : Prop :=
  Calls P fn_vm_New #[(.int .i64 frames), (.int .i64 slots), (.slice sizes.p sizes.n sizes.c)] w fun e2 w1 => ∃ x3 : Option Addr, e2 = .returned (.pointer x3) ∧ ∃ (I4 : Sl → Int →
    World → Prop) (M5 : Sl → Int → World → Nat), I4 ⟨none, 0, 0⟩ 0 w1 ∧ ∀ _u7 : Nat → Value, ∀ out8 : Sl, ∀ x9 : Int, ∀ w6 : World, I4 out8 x9 w6 → bif (decide (x9 < ((l.n : Nat) :
    Int))) then (elAt l.p l.n x9 5 fun a10 => ∃ x11 : Int, w6.cell? (a10.add 0) = some (.int .i64 x11) ∧ ∃ x12 : Int, w6.cell? (a10.add 1) = some (.int .i64 x12) ∧ ∃ x13 : Int,
    w6.cell? (a10.add 2) = some (.int .i64 x13) ∧ ∃ x14 : Int, w6.cell? (a10.add 3) = some (.int .i64 x14) ∧ ∃ x15 : Int, w6.cell? (a10.add 4) = some (.int .i64 x15) ∧ Al (.cells
    #[(.int .i64 0), (.int .i64 0), (.int .i64 0), (.int .i64 0), (.int .i64 0)] 25) (fun p16 w17 => StN [(.int .i64 x11), (.int .i64 x12), (.int .i64 x13), (.int .i64 x14), (.int
    .i64 x15)] p16 (fun w18 => ∃ x19 : Int, w18.cell? (p16.add 0) = some (.int .i64 x19) ∧ ∃ x20 : Int, w18.cell? (p16.add 1) = some (.int .i64 x20) ∧ ∃ x21 : Int, w18.cell?
    (p16.add 2) = some (.int .i64 x21) ∧ ∃ x22 : Int, w18.cell? (p16.add 3) = some (.int .i64 x22) ∧ ∃ x23 : Int, w18.cell? (p16.add 4) = some (.int .i64 x23) ∧ Calls P fn_vm_VM_Do
    #[(.pointer x3), (.agg #[(.int .i64 x19), (.int .i64 x20), (.int .i64 x21), (.int .i64 x22), (.int .i64 x23)])] w18 fun e25 w24 => ∃ x26 : Int, ∃ x27 : Int, ∃ x28 : Sl, e25 =
    .returned (.agg #[(.int .i64 x26), (.int .i64 x27), (.slice x28.p x28.n x28.c)]) ∧ Al (.cells #[(.int .i64 x26), (.int .i64 x27), (.slice x28.p x28.n x28.c)] 47) (fun p29 w30 =>
    ∃ x32 : Sl, ∃ w31 : World, Sem.run P (Builtin.append_ #[42, 42] 42 #[(.slice out8.p out8.n out8.c), (.slice (some p29) 1 1)]) w30 = .ok (.slice x32.p x32.n x32.c) w31 ∧ (I4 x32
    (IntKind.i64.wrap (x9 + 1)) w31 ∧ M5 x32 (IntKind.i64.wrap (x9 + 1)) w31 < M5 out8 x9 w6)) w24) w17) w6) else (K (.slice out8.p out8.n out8.c) w6)
theorem vc_vm_Run (frames : Int) (slots : Int) (sizes : Sl) (l : Sl) (K : Value → World → Prop) (w : World) : vcFn P tau rho pan ann_vm_Run Go.Proofs.Tryz.f20 #[(.int .i64 frames), (.int .i64 slots), (.slice sizes.p sizes.n sizes.c), (.slice l.p l.n l.c)] K (fun _ _ => False) w = sh_vm_Run frames slots sizes l K w := by kernel_rfl
theorem ok_vm_Run : okFn P ann_vm_Run Go.Proofs.Tryz.f20 4 = true := by kernel_rfl
theorem of_vm_Run (frames : Int) (slots : Int) (sizes : Sl) (l : Sl) {K : Value → World → Prop} {w : World} (h : sh_vm_Run frames slots sizes l K w) : Calls P fn_vm_Run #[(.int .i64 frames), (.int .i64 slots), (.slice sizes.p sizes.n sizes.c), (.slice l.p l.n l.c)] w (Ret K) := calls_of_vc mixed Go.Proofs.Tryz.func20 ok_vm_Run (by rw [vc_vm_Run]; exact h)

def ann_script_number : Ann := { quiet := fun d => [4, 7].contains d }
/-- millpond/script.number -/
def sh_script_number (n : Int) (K : Value → World → Prop) (w : World) : Prop :=
  bif (decide ((0 : Int) ≤ n)) then (K (.bool (decide (n < 2097152))) w) else (K (.bool false) w)
theorem vc_script_number (n : Int) (K : Value → World → Prop) (w : World) : vcFn P tau rho pan ann_script_number Go.Proofs.Tryz.f21 #[(.int .i64 n)] K (fun _ _ => False) w = sh_script_number n K w := by kernel_rfl
theorem ok_script_number : okFn P ann_script_number Go.Proofs.Tryz.f21 1 = true := by kernel_rfl
theorem of_script_number (n : Int) {K : Value → World → Prop} {w : World} (h : sh_script_number n K w) : Calls P fn_script_number #[(.int .i64 n)] w (Ret K) := calls_of_vc mixed Go.Proofs.Tryz.func21 ok_script_number (by rw [vc_script_number]; exact h)

def ann_script_put : Ann := { quiet := fun d => [6, 8, 11, 12, 17].contains d, loop := fun r => (bif r == 1 then [(0, .slice), (1, .int .i64)] else []) }
/-- millpond/script.put -/
def sh_script_put (b : Sl) (n : Int) (K : Value → World → Prop) (w : World) : Prop :=
  ∃ (I1 : Sl → Int → World → Prop) (M2 : Sl → Int → World → Nat), I1 b n w ∧ ∀ _u4 : Nat → Value, ∀ b5 : Sl, ∀ n6 : Int, ∀ w3 : World, I1 b5 n6 w3 → bif (decide (n6 ≥ 128)) then (Al
    (.cells #[(.int .u8 (orI .u8 (IntKind.u8.wrap n6) 128))] 5) (fun p7 w8 => ∃ x10 : Sl, ∃ w9 : World, Sem.run P (Builtin.append_ #[27, 27] 27 #[(.slice b5.p b5.n b5.c), (.slice
    (some p7) 1 1)]) w8 = .ok (.slice x10.p x10.n x10.c) w9 ∧ 0 ≤ (7 : Int) ∧ (I1 x10 (n6.fdiv (2 ^ (min (7 : Int).toNat 64))) w9 ∧ M2 x10 (n6.fdiv (2 ^ (min (7 : Int).toNat 64)))
    w9 < M2 b5 n6 w3)) w3) else (Al (.cells #[(.int .u8 (IntKind.u8.wrap n6))] 5) (fun p11 w12 => ∃ x14 : Sl, ∃ w13 : World, Sem.run P (Builtin.append_ #[27, 27] 27 #[(.slice b5.p
    b5.n b5.c), (.slice (some p11) 1 1)]) w12 = .ok (.slice x14.p x14.n x14.c) w13 ∧ K (.slice x14.p x14.n x14.c) w13) w3)
theorem vc_script_put (b : Sl) (n : Int) (K : Value → World → Prop) (w : World) : vcFn P tau rho pan ann_script_put Go.Proofs.Tryz.f22 #[(.slice b.p b.n b.c), (.int .i64 n)] K (fun _ _ => False) w = sh_script_put b n K w := by kernel_rfl
theorem ok_script_put : okFn P ann_script_put Go.Proofs.Tryz.f22 2 = true := by kernel_rfl
theorem of_script_put (b : Sl) (n : Int) {K : Value → World → Prop} {w : World} (h : sh_script_put b n K w) : Calls P fn_script_put #[(.slice b.p b.n b.c), (.int .i64 n)] w (Ret K) := calls_of_vc mixed Go.Proofs.Tryz.func22 ok_script_put (by rw [vc_script_put]; exact h)

def ann_script_get : Ann := { quiet := fun d => [10, 11, 14, 20, 23, 25, 26, 27, 28, 30, 32, 38, 41].contains d, head := fun r => (bif r == 8 then 13 else 0), goto := fun l => (bif l == 0 then some [(5, .int .i64), (6, .int .i64)] else none), join := fun r => (bif r == 4 then some [] else none) }
/-- millpond/script.get -/
def sh_script_get (b : Sl) (K : Value → World → Prop) (w : World) : Prop :=
  ∃ (I1 : Int → Int → World → Prop) (M2 : Int → Int → World → Nat), (∃ J7 : World → Prop, (bif (decide ((0 : Int) ≥ ((b.n : Nat) : Int))) then (K (.tuple #[(.int .i64 0), (.slice none
    0 0), (.bool false)]) w) else (bif (decide ((0 : Int) ≥ 3)) then (K (.tuple #[(.int .i64 0), (.slice none 0 0), (.bool false)]) w) else (J7 w))) ∧ (∀ _u9 : Nat → Value, ∀ w8 :
    World, J7 w8 → elAt b.p b.n 0 1 fun a10 => ∃ x11 : Int, w8.cell? a10 = some (.int .u8 x11) ∧ 0 ≤ (IntKind.u64.wrap (IntKind.i64.wrap (7 * 0))) ∧ bif (decide ((IntKind.i64.wrap
    x11) ≥ 128)) then (I1 (orI .i64 0 (IntKind.i64.wrap ((andI .i64 (IntKind.i64.wrap x11) 127) * 2 ^ (min (IntKind.u64.wrap (IntKind.i64.wrap (7 * 0))).toNat 64))))
    (IntKind.i64.wrap (0 + 1)) w8) else (Dr (fun w12 => ((0 : Int) ≤ (IntKind.i64.wrap (0 + 1)) ∧ (IntKind.i64.wrap (0 + 1)) ≤ ((b.n : Nat) : Int)) ∧ bif ((IntKind.i64.wrap (0 + 1))
    == 1) then (K (.tuple #[(.int .i64 (orI .i64 0 (IntKind.i64.wrap ((andI .i64 (IntKind.i64.wrap x11) 127) * 2 ^ (min (IntKind.u64.wrap (IntKind.i64.wrap (7 * 0))).toNat 64))))),
    (.slice (slA b.p ((IntKind.i64.wrap (0 + 1)).toNat) b.c 1) (b.n - (IntKind.i64.wrap (0 + 1)).toNat) (b.c - (IntKind.i64.wrap (0 + 1)).toNat)), (.bool true)]) w12) else (K
    (.tuple #[(.int .i64 (orI .i64 0 (IntKind.i64.wrap ((andI .i64 (IntKind.i64.wrap x11) 127) * 2 ^ (min (IntKind.u64.wrap (IntKind.i64.wrap (7 * 0))).toNat 64))))), (.slice (slA
    b.p ((IntKind.i64.wrap (0 + 1)).toNat) b.c 1) (b.n - (IntKind.i64.wrap (0 + 1)).toNat) (b.c - (IntKind.i64.wrap (0 + 1)).toNat)), (.bool (decide ((IntKind.i64.wrap x11) > 0)))])
    w12)) w8))) ∧ ∀ _u4 : Nat → Value, ∀ n5 : Int, ∀ i6 : Int, ∀ w3 : World, I1 n5 i6 w3 → ∃ J13 : World → Prop, (bif (decide (i6 ≥ ((b.n : Nat) : Int))) then (K (.tuple #[(.int
    .i64 0), (.slice none 0 0), (.bool false)]) w3) else (bif (decide (i6 ≥ 3)) then (K (.tuple #[(.int .i64 0), (.slice none 0 0), (.bool false)]) w3) else (J13 w3))) ∧ (∀ _u15 :
    Nat → Value, ∀ w14 : World, J13 w14 → elAt b.p b.n i6 1 fun a16 => ∃ x17 : Int, w14.cell? a16 = some (.int .u8 x17) ∧ 0 ≤ (IntKind.u64.wrap (IntKind.i64.wrap (7 * i6))) ∧ bif
    (decide ((IntKind.i64.wrap x17) ≥ 128)) then ((I1 (orI .i64 n5 (IntKind.i64.wrap ((andI .i64 (IntKind.i64.wrap x17) 127) * 2 ^ (min (IntKind.u64.wrap (IntKind.i64.wrap (7 *
    i6))).toNat 64)))) (IntKind.i64.wrap (i6 + 1)) w14 ∧ M2 (orI .i64 n5 (IntKind.i64.wrap ((andI .i64 (IntKind.i64.wrap x17) 127) * 2 ^ (min (IntKind.u64.wrap (IntKind.i64.wrap (7
    * i6))).toNat 64)))) (IntKind.i64.wrap (i6 + 1)) w14 < M2 n5 i6 w3)) else (Dr (fun w18 => ((0 : Int) ≤ (IntKind.i64.wrap (i6 + 1)) ∧ (IntKind.i64.wrap (i6 + 1)) ≤ ((b.n : Nat) :
    Int)) ∧ bif ((IntKind.i64.wrap (i6 + 1)) == 1) then (K (.tuple #[(.int .i64 (orI .i64 n5 (IntKind.i64.wrap ((andI .i64 (IntKind.i64.wrap x17) 127) * 2 ^ (min (IntKind.u64.wrap
    (IntKind.i64.wrap (7 * i6))).toNat 64))))), (.slice (slA b.p ((IntKind.i64.wrap (i6 + 1)).toNat) b.c 1) (b.n - (IntKind.i64.wrap (i6 + 1)).toNat) (b.c - (IntKind.i64.wrap (i6 +
    1)).toNat)), (.bool true)]) w18) else (K (.tuple #[(.int .i64 (orI .i64 n5 (IntKind.i64.wrap ((andI .i64 (IntKind.i64.wrap x17) 127) * 2 ^ (min (IntKind.u64.wrap
    (IntKind.i64.wrap (7 * i6))).toNat 64))))), (.slice (slA b.p ((IntKind.i64.wrap (i6 + 1)).toNat) b.c 1) (b.n - (IntKind.i64.wrap (i6 + 1)).toNat) (b.c - (IntKind.i64.wrap (i6 +
    1)).toNat)), (.bool (decide ((IntKind.i64.wrap x17) > 0)))]) w18)) w14))
theorem vc_script_get (b : Sl) (K : Value → World → Prop) (w : World) : vcFn P tau rho pan ann_script_get Go.Proofs.Tryz.f23 #[(.slice b.p b.n b.c)] K (fun _ _ => False) w = sh_script_get b K w := by kernel_rfl
theorem ok_script_get : okFn P ann_script_get Go.Proofs.Tryz.f23 1 = true := by kernel_rfl
theorem of_script_get (b : Sl) {K : Value → World → Prop} {w : World} (h : sh_script_get b K w) : Calls P fn_script_get #[(.slice b.p b.n b.c)] w (Ret K) := calls_of_vc mixed Go.Proofs.Tryz.func23 ok_script_get (by rw [vc_script_get]; exact h)

def ann_vm_New : Ann := {}
/-- millpond/vm.New -/
def sh_vm_New (frames : Int) (slots : Int) (sizes : Sl) (K : Value → World → Prop) (w : World) : Prop :=
  Calls P fn_core_New #[(.int .i64 frames), (.int .i64 slots), (.slice sizes.p sizes.n sizes.c)] w fun e2 w1 => ∃ x3 : Option Addr, e2 = .returned (.pointer x3) ∧ Al (.cells
    #[(.pointer x3), (.slice none 0 0)] 69) (fun p4 w5 => K (.pointer (some p4)) w5) w1
theorem vc_vm_New (frames : Int) (slots : Int) (sizes : Sl) (K : Value → World → Prop) (w : World) : vcFn P tau rho pan ann_vm_New Go.Proofs.Tryz.f24 #[(.int .i64 frames), (.int .i64 slots), (.slice sizes.p sizes.n sizes.c)] K (fun _ _ => False) w = sh_vm_New frames slots sizes K w := by kernel_rfl
theorem ok_vm_New : okFn P ann_vm_New Go.Proofs.Tryz.f24 3 = true := by kernel_rfl
theorem of_vm_New (frames : Int) (slots : Int) (sizes : Sl) {K : Value → World → Prop} {w : World} (h : sh_vm_New frames slots sizes K w) : Calls P fn_vm_New #[(.int .i64 frames), (.int .i64 slots), (.slice sizes.p sizes.n sizes.c)] w (Ret K) := calls_of_vc mixed Go.Proofs.Tryz.func24 ok_vm_New (by rw [vc_vm_New]; exact h)

def ann_vm_VM_Do : Ann := { quiet := fun d => [14, 29, 33].contains d, dyn := fun d => [18, 42].contains d, sig := fun r => (bif r == 1 then some ([1, 2, 0, 3, 4], [0]) else bif r == 4 then some ([1, 2, 4, 5, 6, 0, 3, 7, 8, 9], [0, 7]) else none) }
/-- (*millpond/vm.VM).Do -/
def sh_vm_VM_Do (v : Option Addr) (o_0 : Int) (o_1 : Int) (o_2 : Int) (o_3 : Int) (o_4 : Int) (K : Value → World → Prop) (w : World) : Prop :=
  Al (.cells #[(.int .i64 o_0), (.int .i64 o_1), (.int .i64 o_2), (.int .i64 o_3), (.int .i64 o_4)] 25) (fun p1 w2 => Al (.cells #[(.int .i64 0), (.int .i64 0), (.slice none 0 0)] 47)
    (fun p3 w4 => Dr (fun w5 => ∃ x6 : Int, w5.cell? (p1.add 0) = some (.int .i64 x6) ∧ Calls P fn_vm_machines #[] w5 fun e8 w7 => ∃ x9 : Option Nat, e8 = .returned (.map x9) ∧ ∃
    x10 : Int, w7.cell? (p1.add 0) = some (.int .i64 x10) ∧ ((.int .i64 x10) : Value) = (.int .i64 x6) ∧ ∃ x11 : Value, LookV P 71 (.map x9) (.int .i64 x6) false w7 x11 ∧ ∃ q12 :
    Bool, EqV P .neq 70 x11 .nilFunc q12 ∧ bif q12 then (∃ x13 : Int, w7.cell? (p1.add 0) = some (.int .i64 x13) ∧ ∃ x14 : Int, w7.cell? (p1.add 1) = some (.int .i64 x14) ∧ ∃ x15 :
    Int, w7.cell? (p1.add 2) = some (.int .i64 x15) ∧ ∃ x16 : Int, w7.cell? (p1.add 3) = some (.int .i64 x16) ∧ ∃ x17 : Int, w7.cell? (p1.add 4) = some (.int .i64 x17) ∧ callD P x11
    #[(.pointer v), (.agg #[(.int .i64 x13), (.int .i64 x14), (.int .i64 x15), (.int .i64 x16), (.int .i64 x17)])] w7 fun e19 w18 => ∃ x20 : Int, ∃ x21 : Int, ∃ x22 : Sl, e19 =
    .returned (.agg #[(.int .i64 x20), (.int .i64 x21), (.slice x22.p x22.n x22.c)]) ∧ StN [(.int .i64 x20), (.int .i64 x21), (.slice x22.p x22.n x22.c)] p3 (fun w23 => ∃ r24 : Int,
    w23.cell? (p3.add 0) = some (.int .i64 r24) ∧ ∃ r25 : Int, w23.cell? (p3.add 1) = some (.int .i64 r25) ∧ ∃ r26 : Sl, w23.cell? (p3.add 2) = some (.slice r26.p r26.n r26.c) ∧ K
    (.agg #[(.int .i64 r24), (.int .i64 r25), (.slice r26.p r26.n r26.c)]) w23) w18) else (Dr (fun w27 => ∃ x28 : Int, w27.cell? (p1.add 0) = some (.int .i64 x28) ∧ ∃ x29 : Int,
    w27.cell? (p1.add 1) = some (.int .i64 x29) ∧ Calls P fn_vm_calls #[] w27 fun e31 w30 => ∃ x32 : Option Nat, e31 = .returned (.map x32) ∧ ∃ x33 : Int, w30.cell? (p1.add 1) =
    some (.int .i64 x33) ∧ ((.int .i64 x33) : Value) = (.int .i64 x29) ∧ ∃ x34 : Int, w30.cell? (p1.add 0) = some (.int .i64 x34) ∧ ((.int .i64 x34) : Value) = (.int .i64 x28) ∧ ∃
    x35 : Value, LookV P 74 (.map x32) (.int .i64 x28) false w30 x35 ∧ Calls P fn_vm_VM_Space #[(.pointer v), (.int .i64 x29)] w30 fun e37 w36 => ∃ x38 : Option Addr, e37 =
    .returned (.pointer x38) ∧ ∃ x39 : Value, LookV P 74 (.map x32) (.int .i64 x28) false w36 x39 ∧ (x39 : Value) = x35 ∧ ∃ x40 : Int, w36.cell? (p1.add 0) = some (.int .i64 x40) ∧
    ((.int .i64 x40) : Value) = (.int .i64 x28) ∧ ∃ q41 : Bool, EqV P .eql 73 x35 .nilFunc q41 ∧ bif q41 then (StN [(.int .i64 1), (.int .i64 0), (.slice none 0 0)] p3 (fun w42 => ∃
    r43 : Int, w42.cell? (p3.add 0) = some (.int .i64 r43) ∧ ∃ r44 : Int, w42.cell? (p3.add 1) = some (.int .i64 r44) ∧ ∃ r45 : Sl, w42.cell? (p3.add 2) = some (.slice r45.p r45.n
    r45.c) ∧ K (.agg #[(.int .i64 r43), (.int .i64 r44), (.slice r45.p r45.n r45.c)]) w42) w36) else (bif x38.isNone then (StN [(.int .i64 2), (.int .i64 0), (.slice none 0 0)] p3
    (fun w46 => ∃ r47 : Int, w46.cell? (p3.add 0) = some (.int .i64 r47) ∧ ∃ r48 : Int, w46.cell? (p3.add 1) = some (.int .i64 r48) ∧ ∃ r49 : Sl, w46.cell? (p3.add 2) = some (.slice
    r49.p r49.n r49.c) ∧ K (.agg #[(.int .i64 r47), (.int .i64 r48), (.slice r49.p r49.n r49.c)]) w46) w36) else (∃ x50 : Int, w36.cell? (p1.add 0) = some (.int .i64 x50) ∧ ∃ x51 :
    Int, w36.cell? (p1.add 1) = some (.int .i64 x51) ∧ ∃ x52 : Int, w36.cell? (p1.add 2) = some (.int .i64 x52) ∧ ∃ x53 : Int, w36.cell? (p1.add 3) = some (.int .i64 x53) ∧ ∃ x54 :
    Int, w36.cell? (p1.add 4) = some (.int .i64 x54) ∧ Al (.cells #[(.int .i64 x50), (.int .i64 x51), (.int .i64 x52), (.int .i64 x53), (.int .i64 x54), (.pointer v), (.pointer
    x38), (.int .i64 0), (.int .i64 0), (.slice none 0 0)] 80) (fun p55 w56 => callD P x35 #[(.pointer (some p55))] w56 fun e58 w57 => e58 = .returned (.tuple #[]) ∧ NN (some p55)
    fun a59 => ∃ x60 : Int, w57.cell? ((a59.add 7).add 0) = some (.int .i64 x60) ∧ ∃ x61 : Int, w57.cell? ((a59.add 7).add 1) = some (.int .i64 x61) ∧ ∃ x62 : Sl, w57.cell?
    ((a59.add 7).add 2) = some (.slice x62.p x62.n x62.c) ∧ StN [(.int .i64 x60), (.int .i64 x61), (.slice x62.p x62.n x62.c)] p3 (fun w63 => ∃ r64 : Int, w63.cell? (p3.add 0) =
    some (.int .i64 r64) ∧ ∃ r65 : Int, w63.cell? (p3.add 1) = some (.int .i64 r65) ∧ ∃ r66 : Sl, w63.cell? (p3.add 2) = some (.slice r66.p r66.n r66.c) ∧ K (.agg #[(.int .i64 r64),
    (.int .i64 r65), (.slice r66.p r66.n r66.c)]) w63) w57) w36))) w7)) w4) w2) w
theorem vc_vm_VM_Do (v : Option Addr) (o_0 : Int) (o_1 : Int) (o_2 : Int) (o_3 : Int) (o_4 : Int) (K : Value → World → Prop) (w : World) : vcFn P tau rho pan ann_vm_VM_Do Go.Proofs.Tryz.f25 #[(.pointer v), (.agg #[(.int .i64 o_0), (.int .i64 o_1), (.int .i64 o_2), (.int .i64 o_3), (.int .i64 o_4)])] K (fun _ _ => False) w = sh_vm_VM_Do v o_0 o_1 o_2 o_3 o_4 K w := by delta sh_vm_VM_Do; kernel_rfl
theorem ok_vm_VM_Do : okFn P ann_vm_VM_Do Go.Proofs.Tryz.f25 2 = true := by kernel_rfl
theorem of_vm_VM_Do (v : Option Addr) (o_0 : Int) (o_1 : Int) (o_2 : Int) (o_3 : Int) (o_4 : Int) {K : Value → World → Prop} {w : World} (h : sh_vm_VM_Do v o_0 o_1 o_2 o_3 o_4 K w) : Calls P fn_vm_VM_Do #[(.pointer v), (.agg #[(.int .i64 o_0), (.int .i64 o_1), (.int .i64 o_2), (.int .i64 o_3), (.int .i64 o_4)])] w (Ret K) := calls_of_vc mixed Go.Proofs.Tryz.func25 ok_vm_VM_Do (by rw [vc_vm_VM_Do]; exact h)

def ann_vm_machines : Ann := {}
/-- millpond/vm.machines -/
def sh_vm_machines (K : Value → World → Prop) (w : World) : Prop :=
  AlM (fun m1 w2 => ∃ w3 : World, Sem.run P (Instr.mapUpdate 71 (.map (some m1)) (.int .i64 0) (.func (.func fn_vm_VM_group) #[] #[])) w2 = .ok () w3 ∧ ∃ w4 : World, Sem.run P
    (Instr.mapUpdate 71 (.map (some m1)) (.int .i64 1) (.func (.func fn_vm_VM_remove) #[] #[])) w3 = .ok () w4 ∧ ∃ w5 : World, Sem.run P (Instr.mapUpdate 71 (.map (some m1)) (.int
    .i64 2) (.func (.func fn_vm_VM_limit) #[] #[])) w4 = .ok () w5 ∧ ∃ w6 : World, Sem.run P (Instr.mapUpdate 71 (.map (some m1)) (.int .i64 3) (.func (.func fn_vm_VM_spawn) #[]
    #[])) w5 = .ok () w6 ∧ ∃ w7 : World, Sem.run P (Instr.mapUpdate 71 (.map (some m1)) (.int .i64 12) (.func (.func fn_vm_VM_age) #[] #[])) w6 = .ok () w7 ∧ ∃ w8 : World, Sem.run P
    (Instr.mapUpdate 71 (.map (some m1)) (.int .i64 13) (.func (.func fn_vm_VM_shrink) #[] #[])) w7 = .ok () w8 ∧ K (.map (some m1)) w8) w
theorem vc_vm_machines (K : Value → World → Prop) (w : World) : vcFn P tau rho pan ann_vm_machines Go.Proofs.Tryz.f27 #[] K (fun _ _ => False) w = sh_vm_machines K w := by kernel_rfl
theorem ok_vm_machines : okFn P ann_vm_machines Go.Proofs.Tryz.f27 0 = true := by kernel_rfl
theorem of_vm_machines {K : Value → World → Prop} {w : World} (h : sh_vm_machines K w) : Calls P fn_vm_machines #[] w (Ret K) := calls_of_vc mixed Go.Proofs.Tryz.func27 ok_vm_machines (by rw [vc_vm_machines]; exact h)

def ann_vm_calls : Ann := {}
/-- millpond/vm.calls -/
def sh_vm_calls (K : Value → World → Prop) (w : World) : Prop :=
  AlM (fun m1 w2 => ∃ w3 : World, Sem.run P (Instr.mapUpdate 74 (.map (some m1)) (.int .i64 4) (.func (.func fn_vm_call_attach) #[] #[])) w2 = .ok () w3 ∧ ∃ w4 : World, Sem.run P
    (Instr.mapUpdate 74 (.map (some m1)) (.int .i64 11) (.func (.func fn_vm_call_exit) #[] #[])) w3 = .ok () w4 ∧ ∃ w5 : World, Sem.run P (Instr.mapUpdate 74 (.map (some m1)) (.int
    .i64 5) (.func (.func fn_vm_call_mapOwn) #[] #[])) w4 = .ok () w5 ∧ ∃ w6 : World, Sem.run P (Instr.mapUpdate 74 (.map (some m1)) (.int .i64 6) (.func (.func fn_vm_call_mapFile)
    #[] #[])) w5 = .ok () w6 ∧ ∃ w7 : World, Sem.run P (Instr.mapUpdate 74 (.map (some m1)) (.int .i64 7) (.func (.func fn_vm_call_unmap) #[] #[])) w6 = .ok () w7 ∧ ∃ w8 : World,
    Sem.run P (Instr.mapUpdate 74 (.map (some m1)) (.int .i64 8) (.func (.func fn_vm_call_load) #[] #[])) w7 = .ok () w8 ∧ ∃ w9 : World, Sem.run P (Instr.mapUpdate 74 (.map (some
    m1)) (.int .i64 9) (.func (.func fn_vm_call_store) #[] #[])) w8 = .ok () w9 ∧ ∃ w10 : World, Sem.run P (Instr.mapUpdate 74 (.map (some m1)) (.int .i64 10) (.func (.func
    fn_vm_call_fork) #[] #[])) w9 = .ok () w10 ∧ K (.map (some m1)) w10) w
theorem vc_vm_calls (K : Value → World → Prop) (w : World) : vcFn P tau rho pan ann_vm_calls Go.Proofs.Tryz.f28 #[] K (fun _ _ => False) w = sh_vm_calls K w := by kernel_rfl
theorem ok_vm_calls : okFn P ann_vm_calls Go.Proofs.Tryz.f28 0 = true := by kernel_rfl
theorem of_vm_calls {K : Value → World → Prop} {w : World} (h : sh_vm_calls K w) : Calls P fn_vm_calls #[] w (Ret K) := calls_of_vc mixed Go.Proofs.Tryz.func28 ok_vm_calls (by rw [vc_vm_calls]; exact h)

def ann_tree_New : Ann := {}
/-- millpond/tree.New -/
def sh_tree_New (K : Value → World → Prop) (w : World) : Prop :=
  Al (.cells #[(.int .i64 (-1)), (.bool true)] 104) (fun p1 w2 => Al (.cells #[(.slice (some p1) 1 1)] 107) (fun p3 w4 => K (.pointer (some p3)) w4) w2) w
theorem vc_tree_New (K : Value → World → Prop) (w : World) : vcFn P tau rho pan ann_tree_New Go.Proofs.Tryz.f30 #[] K (fun _ _ => False) w = sh_tree_New K w := by kernel_rfl
theorem ok_tree_New : okFn P ann_tree_New Go.Proofs.Tryz.f30 0 = true := by kernel_rfl
theorem of_tree_New {K : Value → World → Prop} {w : World} (h : sh_tree_New K w) : Calls P fn_tree_New #[] w (Ret K) := calls_of_vc mixed Go.Proofs.Tryz.func30 ok_tree_New (by rw [vc_tree_New]; exact h)

def ann_core_newStore : Ann := {}
/-- millpond/core.newStore -/
def sh_core_newStore (n : Int) (K : Value → World → Prop) (w : World) : Prop :=
  Al (.cells #[(.pointer none), (.pointer none), (.pointer none)] 87) (fun p1 w2 => Calls P fn_pool_New #[(.int .i64 n)] w2 fun e4 w3 => ∃ x5 : Option Addr, e4 = .returned (.pointer
    x5) ∧ Calls P fn_bytes_New #[(.int .i64 n)] w3 fun e7 w6 => ∃ x8 : Option Addr, e7 = .returned (.pointer x8) ∧ Calls P fn_counter_New #[] w6 fun e10 w9 => ∃ x11 : Option Addr,
    e10 = .returned (.pointer x11) ∧ StN [(.pointer x5), (.pointer x8), (.pointer x11)] p1 (fun w12 => ∃ r13 : Option Addr, w12.cell? (p1.add 0) = some (.pointer r13) ∧ ∃ r14 :
    Option Addr, w12.cell? (p1.add 1) = some (.pointer r14) ∧ ∃ r15 : Option Addr, w12.cell? (p1.add 2) = some (.pointer r15) ∧ K (.agg #[(.pointer r13), (.pointer r14), (.pointer
    r15)]) w12) w9) w
theorem vc_core_newStore (n : Int) (K : Value → World → Prop) (w : World) : vcFn P tau rho pan ann_core_newStore Go.Proofs.Tryz.f31 #[(.int .i64 n)] K (fun _ _ => False) w = sh_core_newStore n K w := by kernel_rfl
theorem ok_core_newStore : okFn P ann_core_newStore Go.Proofs.Tryz.f31 1 = true := by kernel_rfl
theorem of_core_newStore (n : Int) {K : Value → World → Prop} {w : World} (h : sh_core_newStore n K w) : Calls P fn_core_newStore #[(.int .i64 n)] w (Ret K) := calls_of_vc mixed Go.Proofs.Tryz.func31 ok_core_newStore (by rw [vc_core_newStore]; exact h)

def ann_files_New : Ann := { quiet := fun d => [11, 12, 14, 16, 25, 26, 31].contains d, loop := fun r => (bif r == 3 then [(15, .int .i64)] else []) }
/-- millpond/files.New -/
def sh_files_New (sizes : Sl) (K : Value → World → Prop) (w : World) : Prop :=
  AlM (fun m1 w2 => Al (.cells #[(.slice none 0 0), (.map (some m1)), (.int .i64 0)] 113) (fun p3 w4 => ((0 : Int) ≤ (min1 ((sizes.n : Nat) : Int) 32) ∧ (min1 ((sizes.n : Nat) : Int)
    32) ≤ ((sizes.c : Nat) : Int)) ∧ ∃ (I5 : Int → World → Prop) (M6 : Int → World → Nat), I5 0 w4 ∧ ∀ _u8 : Nat → Value, ∀ x9 : Int, ∀ w7 : World, I5 x9 w7 → bif (decide (x9 <
    ((((min1 ((sizes.n : Nat) : Int) 32).toNat - 0) : Nat) : Int))) then (elAt (slA sizes.p 0 sizes.c 1) ((min1 ((sizes.n : Nat) : Int) 32).toNat - 0) x9 1 fun a10 => ∃ x11 : Int,
    w7.cell? a10 = some (.int .i64 x11) ∧ NN (some p3) fun a12 => ∃ x13 : Sl, w7.cell? (a12.add 0) = some (.slice x13.p x13.n x13.c) ∧ Al (.cells #[(.int .i64 (min1 (max1 x11 0)
    4096))] 3) (fun p14 w15 => ∃ x17 : Sl, ∃ w16 : World, Sem.run P (Builtin.append_ #[45, 45] 45 #[(.slice x13.p x13.n x13.c), (.slice (some p14) 1 1)]) w15 = .ok (.slice x17.p
    x17.n x17.c) w16 ∧ NN (some p3) fun a18 => St (a18.add 0) (.slice x17.p x17.n x17.c) (fun w19 => (I5 (IntKind.i64.wrap (x9 + 1)) w19 ∧ M6 (IntKind.i64.wrap (x9 + 1)) w19 < M6 x9
    w7)) w16) w7) else (K (.pointer (some p3)) w7)) w2) w
theorem vc_files_New (sizes : Sl) (K : Value → World → Prop) (w : World) : vcFn P tau rho pan ann_files_New Go.Proofs.Tryz.f32 #[(.slice sizes.p sizes.n sizes.c)] K (fun _ _ => False) w = sh_files_New sizes K w := by kernel_rfl
theorem ok_files_New : okFn P ann_files_New Go.Proofs.Tryz.f32 1 = true := by kernel_rfl
theorem of_files_New (sizes : Sl) {K : Value → World → Prop} {w : World} (h : sh_files_New sizes K w) : Calls P fn_files_New #[(.slice sizes.p sizes.n sizes.c)] w (Ret K) := calls_of_vc mixed Go.Proofs.Tryz.func32 ok_files_New (by rw [vc_files_New]; exact h)

def ann_gens_New : Ann := {}
/-- millpond/gens.New -/
def sh_gens_New (K : Value → World → Prop) (w : World) : Prop :=
  AlM (fun m1 w2 => Al (.cells #[(.map (some m1))] 116) (fun p3 w4 => K (.pointer (some p3)) w4) w2) w
theorem vc_gens_New (K : Value → World → Prop) (w : World) : vcFn P tau rho pan ann_gens_New Go.Proofs.Tryz.f33 #[] K (fun _ _ => False) w = sh_gens_New K w := by kernel_rfl
theorem ok_gens_New : okFn P ann_gens_New Go.Proofs.Tryz.f33 0 = true := by kernel_rfl
theorem of_gens_New {K : Value → World → Prop} {w : World} (h : sh_gens_New K w) : Calls P fn_gens_New #[] w (Ret K) := calls_of_vc mixed Go.Proofs.Tryz.func33 ok_gens_New (by rw [vc_gens_New]; exact h)

def ann_shadow_New : Ann := {}
/-- millpond/shadow.New -/
def sh_shadow_New (K : Value → World → Prop) (w : World) : Prop :=
  Al (.cells #[(.int .i64 0), (.int .i64 0), (.int .i64 0), (.int .i64 0), (.int .i64 0), (.int .i64 0), (.int .i64 0), (.int .i64 0), (.int .i64 0), (.int .i64 0), (.int .i64 0),
    (.int .i64 0), (.int .i64 0), (.int .i64 0), (.int .i64 0), (.int .i64 0), (.int .i64 0), (.int .i64 0), (.int .i64 0), (.int .i64 0), (.int .i64 0), (.int .i64 0), (.int .i64
    0), (.int .i64 0), (.int .i64 0), (.int .i64 0), (.int .i64 0), (.int .i64 0), (.int .i64 0), (.int .i64 0), (.int .i64 0), (.int .i64 0), (.int .i64 0), (.int .i64 0), (.int
    .i64 0), (.int .i64 0), (.int .i64 0), (.int .i64 0), (.int .i64 0), (.int .i64 0), (.int .i64 0), (.int .i64 0), (.int .i64 0), (.int .i64 0), (.int .i64 0), (.int .i64 0),
    (.int .i64 0), (.int .i64 0), (.int .i64 0), (.int .i64 0), (.int .i64 0), (.int .i64 0), (.int .i64 0), (.int .i64 0), (.int .i64 0), (.int .i64 0), (.int .i64 0), (.int .i64
    0), (.int .i64 0), (.int .i64 0), (.int .i64 0), (.int .i64 0), (.int .i64 0), (.int .i64 0), (.int .i64 0), (.int .i64 0), (.int .i64 0), (.int .i64 0), (.int .i64 0), (.int
    .i64 0), (.int .i64 0), (.int .i64 0), (.int .i64 0), (.int .i64 0), (.int .i64 0), (.int .i64 0), (.int .i64 0), (.int .i64 0), (.int .i64 0), (.int .i64 0), (.int .i64 0),
    (.int .i64 0), (.int .i64 0), (.int .i64 0), (.int .i64 0), (.int .i64 0), (.int .i64 0), (.int .i64 0), (.int .i64 0), (.int .i64 0), (.int .i64 0), (.int .i64 0), (.int .i64
    0), (.int .i64 0), (.int .i64 0), (.int .i64 0), (.int .i64 0), (.int .i64 0), (.int .i64 0), (.int .i64 0), (.int .i64 0), (.int .i64 0), (.int .i64 0), (.int .i64 0), (.int
    .i64 0), (.int .i64 0), (.int .i64 0), (.int .i64 0), (.int .i64 0), (.int .i64 0), (.int .i64 0), (.int .i64 0), (.int .i64 0), (.int .i64 0), (.int .i64 0), (.int .i64 0),
    (.int .i64 0), (.int .i64 0), (.int .i64 0), (.int .i64 0), (.int .i64 0), (.int .i64 0), (.int .i64 0), (.int .i64 0), (.int .i64 0), (.int .i64 0), (.int .i64 0), (.int .i64
    0)] 121) (fun p1 w2 => K (.pointer (some p1)) w2) w
theorem vc_shadow_New (K : Value → World → Prop) (w : World) : vcFn P tau rho pan ann_shadow_New Go.Proofs.Tryz.f34 #[] K (fun _ _ => False) w = sh_shadow_New K w := by kernel_rfl
theorem ok_shadow_New : okFn P ann_shadow_New Go.Proofs.Tryz.f34 0 = true := by kernel_rfl
theorem of_shadow_New {K : Value → World → Prop} {w : World} (h : sh_shadow_New K w) : Calls P fn_shadow_New #[] w (Ret K) := calls_of_vc mixed Go.Proofs.Tryz.func34 ok_shadow_New (by rw [vc_shadow_New]; exact h)

def ann_pages_New : Ann := {}
/-- millpond/pages.New -/
def sh_pages_New (K : Value → World → Prop) (w : World) : Prop :=
  AlM (fun m1 w2 => AlM (fun m3 w4 => AlM (fun m5 w6 => Al (.cells #[(.map (some m1)), (.map (some m3)), (.map (some m5)), (.int .i64 0)] 126) (fun p7 w8 => K (.pointer (some p7)) w8)
    w6) w4) w2) w
theorem vc_pages_New (K : Value → World → Prop) (w : World) : vcFn P tau rho pan ann_pages_New Go.Proofs.Tryz.f35 #[] K (fun _ _ => False) w = sh_pages_New K w := by kernel_rfl
theorem ok_pages_New : okFn P ann_pages_New Go.Proofs.Tryz.f35 0 = true := by kernel_rfl
theorem of_pages_New {K : Value → World → Prop} {w : World} (h : sh_pages_New K w) : Calls P fn_pages_New #[] w (Ret K) := calls_of_vc mixed Go.Proofs.Tryz.func35 ok_pages_New (by rw [vc_pages_New]; exact h)

def ann_vm_VM_spawn : Ann := { quiet := fun d => [21, 22].contains d, sig := fun r => (bif r == 1 then some ([0, 1, 2, 3, 5, 6, 4, 7, 8, 9], [4, 7]) else bif r == 5 then some ([0, 1, 2, 3, 4, 5], [3, 4, 5]) else none) }
/-- (*millpond/vm.VM).spawn -/
def sh_vm_VM_spawn (v : Option Addr) (o_0 : Int) (o_1 : Int) (o_2 : Int) (o_3 : Int) (o_4 : Int) (K : Value → World → Prop) (w : World) : Prop :=
  Al (.cells #[(.int .i64 o_0), (.int .i64 o_1), (.int .i64 o_2), (.int .i64 o_3), (.int .i64 o_4)] 25) (fun p1 w2 => Al (.cells #[(.int .i64 0), (.int .i64 0), (.slice none 0 0)] 47)
    (fun p3 w4 => Dr (fun w5 => NN v fun a6 => ∃ x7 : Option Addr, w5.cell? (a6.add 0) = some (.pointer x7) ∧ ∃ x8 : Int, w5.cell? (p1.add 1) = some (.int .i64 x8) ∧ Calls P
    fn_core_Core_Tree #[(.pointer x7)] w5 fun e10 w9 => ∃ x11 : Option Addr, e10 = .returned (.pointer x11) ∧ ∃ x12 : Int, w9.cell? (p1.add 1) = some (.int .i64 x12) ∧ ((.int .i64
    x12) : Value) = (.int .i64 x8) ∧ Calls P fn_tree_Tree_Live #[(.pointer x11), (.int .i64 x8)] w9 fun e14 w13 => ∃ x15 : Bool, e14 = .returned (.bool x15) ∧ bif (!x15) then (StN
    [(.int .i64 2), (.int .i64 0), (.slice none 0 0)] p3 (fun w16 => ∃ r17 : Int, w16.cell? (p3.add 0) = some (.int .i64 r17) ∧ ∃ r18 : Int, w16.cell? (p3.add 1) = some (.int .i64
    r18) ∧ ∃ r19 : Sl, w16.cell? (p3.add 2) = some (.slice r19.p r19.n r19.c) ∧ K (.agg #[(.int .i64 r17), (.int .i64 r18), (.slice r19.p r19.n r19.c)]) w16) w13) else (NN v fun a20
    => ∃ x21 : Sl, w13.cell? (a20.add 1) = some (.slice x21.p x21.n x21.c) ∧ bif (decide (((x21.n : Nat) : Int) ≥ 64)) then (StN [(.int .i64 3), (.int .i64 0), (.slice none 0 0)] p3
    (fun w22 => ∃ r23 : Int, w22.cell? (p3.add 0) = some (.int .i64 r23) ∧ ∃ r24 : Int, w22.cell? (p3.add 1) = some (.int .i64 r24) ∧ ∃ r25 : Sl, w22.cell? (p3.add 2) = some (.slice
    r25.p r25.n r25.c) ∧ K (.agg #[(.int .i64 r23), (.int .i64 r24), (.slice r25.p r25.n r25.c)]) w22) w13) else (Dr (fun w26 => ∃ x27 : Int, w26.cell? (p1.add 1) = some (.int .i64
    x27) ∧ Calls P fn_space_New #[] w26 fun e29 w28 => ∃ x30 : Option Addr, e29 = .returned (.pointer x30) ∧ ∃ x31 : Int, w28.cell? (p1.add 1) = some (.int .i64 x31) ∧ ((.int .i64
    x31) : Value) = (.int .i64 x27) ∧ Calls P fn_vm_VM_add #[(.pointer v), (.int .i64 x27), (.pointer x30)] w28 fun e33 w32 => ∃ x34 : Int, ∃ x35 : Int, ∃ x36 : Sl, e33 = .returned
    (.agg #[(.int .i64 x34), (.int .i64 x35), (.slice x36.p x36.n x36.c)]) ∧ StN [(.int .i64 x34), (.int .i64 x35), (.slice x36.p x36.n x36.c)] p3 (fun w37 => ∃ r38 : Int, w37.cell?
    (p3.add 0) = some (.int .i64 r38) ∧ ∃ r39 : Int, w37.cell? (p3.add 1) = some (.int .i64 r39) ∧ ∃ r40 : Sl, w37.cell? (p3.add 2) = some (.slice r40.p r40.n r40.c) ∧ K (.agg
    #[(.int .i64 r38), (.int .i64 r39), (.slice r40.p r40.n r40.c)]) w37) w32) w13))) w4) w2) w
theorem vc_vm_VM_spawn (v : Option Addr) (o_0 : Int) (o_1 : Int) (o_2 : Int) (o_3 : Int) (o_4 : Int) (K : Value → World → Prop) (w : World) : vcFn P tau rho pan ann_vm_VM_spawn Go.Proofs.Tryz.f39 #[(.pointer v), (.agg #[(.int .i64 o_0), (.int .i64 o_1), (.int .i64 o_2), (.int .i64 o_3), (.int .i64 o_4)])] K (fun _ _ => False) w = sh_vm_VM_spawn v o_0 o_1 o_2 o_3 o_4 K w := by kernel_rfl
theorem ok_vm_VM_spawn : okFn P ann_vm_VM_spawn Go.Proofs.Tryz.f39 2 = true := by kernel_rfl
theorem of_vm_VM_spawn (v : Option Addr) (o_0 : Int) (o_1 : Int) (o_2 : Int) (o_3 : Int) (o_4 : Int) {K : Value → World → Prop} {w : World} (h : sh_vm_VM_spawn v o_0 o_1 o_2 o_3 o_4 K w) : Calls P fn_vm_VM_spawn #[(.pointer v), (.agg #[(.int .i64 o_0), (.int .i64 o_1), (.int .i64 o_2), (.int .i64 o_3), (.int .i64 o_4)])] w (Ret K) := calls_of_vc mixed Go.Proofs.Tryz.func39 ok_vm_VM_spawn (by rw [vc_vm_VM_spawn]; exact h)

def ann_pool_New : Ann := { quiet := fun d => [4].contains d }
/-- millpond/pool.New -/
def sh_pool_New (n : Int) (K : Value → World → Prop) (w : World) : Prop :=
  Calls P fn_bits_New #[(.int .i64 (min1 n 1024))] w fun e2 w1 => ∃ x3 : Option Addr, e2 = .returned (.pointer x3) ∧ Al (.cells #[(.pointer x3)] 161) (fun p4 w5 => K (.pointer (some
    p4)) w5) w1
theorem vc_pool_New (n : Int) (K : Value → World → Prop) (w : World) : vcFn P tau rho pan ann_pool_New Go.Proofs.Tryz.f50 #[(.int .i64 n)] K (fun _ _ => False) w = sh_pool_New n K w := by kernel_rfl
theorem ok_pool_New : okFn P ann_pool_New Go.Proofs.Tryz.f50 1 = true := by kernel_rfl
theorem of_pool_New (n : Int) {K : Value → World → Prop} {w : World} (h : sh_pool_New n K w) : Calls P fn_pool_New #[(.int .i64 n)] w (Ret K) := calls_of_vc mixed Go.Proofs.Tryz.func50 ok_pool_New (by rw [vc_pool_New]; exact h)

def ann_bytes_New : Ann := { quiet := fun d => [4, 5].contains d }
/-- millpond/bytes.New -/
def sh_bytes_New (n : Int) (K : Value → World → Prop) (w : World) : Prop :=
  ∃ x2 : Sl, ∃ w1 : World, Sem.run P (Instr.makeSlice 162 (.int .i64 (min1 (max1 n 0) 1024)) (.int .i64 (min1 (max1 n 0) 1024))) w = .ok (.slice x2.p x2.n x2.c) w1 ∧ Al (.cells
    #[(.slice x2.p x2.n x2.c)] 164) (fun p3 w4 => K (.pointer (some p3)) w4) w1
theorem vc_bytes_New (n : Int) (K : Value → World → Prop) (w : World) : vcFn P tau rho pan ann_bytes_New Go.Proofs.Tryz.f51 #[(.int .i64 n)] K (fun _ _ => False) w = sh_bytes_New n K w := by kernel_rfl
theorem ok_bytes_New : okFn P ann_bytes_New Go.Proofs.Tryz.f51 1 = true := by kernel_rfl
theorem of_bytes_New (n : Int) {K : Value → World → Prop} {w : World} (h : sh_bytes_New n K w) : Calls P fn_bytes_New #[(.int .i64 n)] w (Ret K) := calls_of_vc mixed Go.Proofs.Tryz.func51 ok_bytes_New (by rw [vc_bytes_New]; exact h)

def ann_counter_New : Ann := { quiet := fun d => [6, 14].contains d, loop := fun r => (bif r == 3 then [(5, .int .i64)] else []) }
/-- millpond/counter.New -/
def sh_counter_New (K : Value → World → Prop) (w : World) : Prop :=
  Al (.cells #[(.int .i64 0), (.int .i64 0), (.int .i64 0), (.int .i64 0), (.int .i64 0), (.int .i64 0), (.int .i64 0), (.int .i64 0), (.int .i64 0), (.int .i64 0), (.int .i64 0),
    (.int .i64 0), (.int .i64 0), (.int .i64 0), (.int .i64 0), (.int .i64 0), (.int .i64 0), (.int .i64 0), (.int .i64 0), (.int .i64 0), (.int .i64 0), (.int .i64 0), (.int .i64
    0), (.int .i64 0), (.int .i64 0), (.int .i64 0), (.int .i64 0), (.int .i64 0), (.int .i64 0), (.int .i64 0), (.int .i64 0), (.int .i64 0), (.int .i64 0), (.int .i64 0), (.int
    .i64 0), (.int .i64 0), (.int .i64 0), (.int .i64 0), (.int .i64 0), (.int .i64 0), (.int .i64 0), (.int .i64 0), (.int .i64 0), (.int .i64 0), (.int .i64 0), (.int .i64 0),
    (.int .i64 0), (.int .i64 0), (.int .i64 0), (.int .i64 0), (.int .i64 0), (.int .i64 0), (.int .i64 0), (.int .i64 0), (.int .i64 0), (.int .i64 0), (.int .i64 0), (.int .i64
    0), (.int .i64 0), (.int .i64 0), (.int .i64 0), (.int .i64 0), (.int .i64 0), (.int .i64 0), (.int .i64 0), (.int .i64 0), (.int .i64 0), (.int .i64 0), (.int .i64 0), (.int
    .i64 0), (.int .i64 0), (.int .i64 0), (.int .i64 0), (.int .i64 0), (.int .i64 0), (.int .i64 0), (.int .i64 0), (.int .i64 0), (.int .i64 0), (.int .i64 0), (.int .i64 0),
    (.int .i64 0), (.int .i64 0), (.int .i64 0), (.int .i64 0), (.int .i64 0), (.int .i64 0), (.int .i64 0), (.int .i64 0), (.int .i64 0), (.int .i64 0), (.int .i64 0), (.int .i64
    0), (.int .i64 0), (.int .i64 0), (.int .i64 0), (.int .i64 0), (.int .i64 0), (.int .i64 0), (.int .i64 0), (.int .i64 0), (.int .i64 0), (.int .i64 0), (.int .i64 0), (.int
    .i64 0), (.int .i64 0), (.int .i64 0), (.int .i64 0), (.int .i64 0), (.int .i64 0), (.int .i64 0), (.int .i64 0), (.int .i64 0), (.int .i64 0), (.int .i64 0), (.int .i64 0),
    (.int .i64 0), (.int .i64 0), (.int .i64 0), (.int .i64 0), (.int .i64 0), (.int .i64 0), (.int .i64 0), (.int .i64 0), (.int .i64 0), (.int .i64 0), (.int .i64 0), (.int .i64
    0), (.int .i64 0), (.int .i64 0), (.int .i64 0), (.int .i64 0), (.int .i64 0), (.int .i64 0), (.int .i64 0), (.int .i64 0), (.int .i64 0), (.int .i64 0), (.int .i64 0), (.int
    .i64 0), (.int .i64 0), (.int .i64 0), (.int .i64 0), (.int .i64 0), (.int .i64 0), (.int .i64 0), (.int .i64 0), (.int .i64 0), (.int .i64 0), (.int .i64 0), (.int .i64 0),
    (.int .i64 0), (.int .i64 0), (.int .i64 0), (.int .i64 0), (.int .i64 0), (.int .i64 0), (.int .i64 0), (.int .i64 0), (.int .i64 0), (.int .i64 0), (.int .i64 0), (.int .i64
    0), (.int .i64 0), (.int .i64 0), (.int .i64 0), (.int .i64 0), (.int .i64 0), (.int .i64 0), (.int .i64 0), (.int .i64 0), (.int .i64 0), (.int .i64 0), (.int .i64 0), (.int
    .i64 0), (.int .i64 0), (.int .i64 0), (.int .i64 0), (.int .i64 0), (.int .i64 0), (.int .i64 0), (.int .i64 0), (.int .i64 0), (.int .i64 0), (.int .i64 0), (.int .i64 0),
    (.int .i64 0), (.int .i64 0), (.int .i64 0), (.int .i64 0), (.int .i64 0), (.int .i64 0), (.int .i64 0), (.int .i64 0), (.int .i64 0), (.int .i64 0), (.int .i64 0), (.int .i64
    0), (.int .i64 0), (.int .i64 0), (.int .i64 0), (.int .i64 0), (.int .i64 0), (.int .i64 0), (.int .i64 0), (.int .i64 0), (.int .i64 0), (.int .i64 0), (.int .i64 0), (.int
    .i64 0), (.int .i64 0), (.int .i64 0), (.int .i64 0), (.int .i64 0), (.int .i64 0), (.int .i64 0), (.int .i64 0), (.int .i64 0), (.int .i64 0), (.int .i64 0), (.int .i64 0),
    (.int .i64 0), (.int .i64 0), (.int .i64 0), (.int .i64 0), (.int .i64 0), (.int .i64 0), (.int .i64 0), (.int .i64 0), (.int .i64 0), (.int .i64 0), (.int .i64 0), (.int .i64
    0), (.int .i64 0), (.int .i64 0), (.int .i64 0), (.int .i64 0), (.int .i64 0), (.int .i64 0), (.int .i64 0), (.int .i64 0), (.int .i64 0), (.int .i64 0), (.int .i64 0), (.int
    .i64 0), (.int .i64 0), (.int .i64 0), (.int .i64 0), (.int .i64 0), (.int .i64 0), (.int .i64 0), (.int .i64 0), (.int .i64 0), (.int .i64 0), (.int .i64 0), (.int .i64 0)]
    169) (fun p1 w2 => ∃ (I3 : Int → World → Prop) (M4 : Int → World → Nat), I3 0 w2 ∧ ∀ _u6 : Nat → Value, ∀ x7 : Int, ∀ w5 : World, I3 x7 w5 → bif (decide (x7 < 64)) then (NN
    (some p1) fun a8 => elAt (some (a8.add 0)) 64 x7 4 fun a9 => St (a9.add 1) (.int .i64 1099511627776) (fun w10 => (I3 (IntKind.i64.wrap (x7 + 1)) w10 ∧ M4 (IntKind.i64.wrap (x7 +
    1)) w10 < M4 x7 w5)) w5) else (K (.pointer (some p1)) w5)) w
theorem vc_counter_New (K : Value → World → Prop) (w : World) : vcFn P tau rho pan ann_counter_New Go.Proofs.Tryz.f52 #[] K (fun _ _ => False) w = sh_counter_New K w := by kernel_rfl
theorem ok_counter_New : okFn P ann_counter_New Go.Proofs.Tryz.f52 0 = true := by kernel_rfl
theorem of_counter_New {K : Value → World → Prop} {w : World} (h : sh_counter_New K w) : Calls P fn_counter_New #[] w (Ret K) := calls_of_vc mixed Go.Proofs.Tryz.func52 ok_counter_New (by rw [vc_counter_New]; exact h)

def ann_core_Core_Tree : Ann := {}
/-- (*millpond/core.Core).Tree -/
def sh_core_Core_Tree (c : Option Addr) (K : Value → World → Prop) (w : World) : Prop :=
  NN c fun a1 => ∃ x2 : Option Addr, w.cell? (a1.add 0) = some (.pointer x2) ∧ K (.pointer x2) w
theorem vc_core_Core_Tree (c : Option Addr) (K : Value → World → Prop) (w : World) : vcFn P tau rho pan ann_core_Core_Tree Go.Proofs.Tryz.f54 #[(.pointer c)] K (fun _ _ => False) w = sh_core_Core_Tree c K w := by kernel_rfl
theorem ok_core_Core_Tree : okFn P ann_core_Core_Tree Go.Proofs.Tryz.f54 1 = true := by kernel_rfl
theorem of_core_Core_Tree (c : Option Addr) {K : Value → World → Prop} {w : World} (h : sh_core_Core_Tree c K w) : Calls P fn_core_Core_Tree #[(.pointer c)] w (Ret K) := calls_of_vc mixed Go.Proofs.Tryz.func54 ok_core_Core_Tree (by rw [vc_core_Core_Tree]; exact h)

def ann_tree_Tree_Live : Ann := { quiet := fun d => [6, 13, 14].contains d }
/-- (*millpond/tree.Tree).Live -/
def sh_tree_Tree_Live (t : Option Addr) (g : Int) (K : Value → World → Prop) (w : World) : Prop :=
  bif (decide ((0 : Int) ≤ g)) then (NN t fun a1 => ∃ x2 : Sl, w.cell? (a1.add 0) = some (.slice x2.p x2.n x2.c) ∧ bif (decide (g < ((x2.n : Nat) : Int))) then (NN t fun a3 => ∃ x4 :
    Sl, w.cell? (a3.add 0) = some (.slice x4.p x4.n x4.c) ∧ elAt x4.p x4.n g 2 fun a5 => ∃ x6 : Bool, w.cell? (a5.add 1) = some (.bool x6) ∧ K (.bool x6) w) else (K (.bool false)
    w)) else (K (.bool false) w)
theorem vc_tree_Tree_Live (t : Option Addr) (g : Int) (K : Value → World → Prop) (w : World) : vcFn P tau rho pan ann_tree_Tree_Live Go.Proofs.Tryz.f55 #[(.pointer t), (.int .i64 g)] K (fun _ _ => False) w = sh_tree_Tree_Live t g K w := by kernel_rfl
theorem ok_tree_Tree_Live : okFn P ann_tree_Tree_Live Go.Proofs.Tryz.f55 2 = true := by kernel_rfl
theorem of_tree_Tree_Live (t : Option Addr) (g : Int) {K : Value → World → Prop} {w : World} (h : sh_tree_Tree_Live t g K w) : Calls P fn_tree_Tree_Live #[(.pointer t), (.int .i64 g)] w (Ret K) := calls_of_vc mixed Go.Proofs.Tryz.func55 ok_tree_Tree_Live (by rw [vc_tree_Tree_Live]; exact h)

def ann_vm_VM_add : Ann := { quiet := fun d => [23, 24].contains d }
/-- (*millpond/vm.VM).add -/
def sh_vm_VM_add (v : Option Addr) (group : Int) (s : Option Addr) (K : Value → World → Prop) (w : World) : Prop :=
  Al (.cells #[(.int .i64 0), (.int .i64 0), (.slice none 0 0)] 47) (fun p1 w2 => NN v fun a3 => ∃ x4 : Sl, w2.cell? (a3.add 1) = some (.slice x4.p x4.n x4.c) ∧ Al (.cells #[(.int
    .i64 group), (.pointer s)] 102) (fun p5 w6 => ∃ x8 : Sl, ∃ w7 : World, Sem.run P (Builtin.append_ #[67, 67] 67 #[(.slice x4.p x4.n x4.c), (.slice (some p5) 1 1)]) w6 = .ok
    (.slice x8.p x8.n x8.c) w7 ∧ NN v fun a9 => St (a9.add 1) (.slice x8.p x8.n x8.c) (fun w10 => NN v fun a11 => ∃ x12 : Sl, w10.cell? (a11.add 1) = some (.slice x12.p x12.n x12.c)
    ∧ StN [(.int .i64 0), (.int .i64 (IntKind.i64.wrap (((x12.n : Nat) : Int) - 1))), (.slice none 0 0)] p1 (fun w13 => ∃ r14 : Int, w13.cell? (p1.add 0) = some (.int .i64 r14) ∧ ∃
    r15 : Int, w13.cell? (p1.add 1) = some (.int .i64 r15) ∧ ∃ r16 : Sl, w13.cell? (p1.add 2) = some (.slice r16.p r16.n r16.c) ∧ K (.agg #[(.int .i64 r14), (.int .i64 r15), (.slice
    r16.p r16.n r16.c)]) w13) w10) w7) w2) w
theorem vc_vm_VM_add (v : Option Addr) (group : Int) (s : Option Addr) (K : Value → World → Prop) (w : World) : vcFn P tau rho pan ann_vm_VM_add Go.Proofs.Tryz.f58 #[(.pointer v), (.int .i64 group), (.pointer s)] K (fun _ _ => False) w = sh_vm_VM_add v group s K w := by kernel_rfl
theorem ok_vm_VM_add : okFn P ann_vm_VM_add Go.Proofs.Tryz.f58 3 = true := by kernel_rfl
theorem of_vm_VM_add (v : Option Addr) (group : Int) (s : Option Addr) {K : Value → World → Prop} {w : World} (h : sh_vm_VM_add v group s K w) : Calls P fn_vm_VM_add #[(.pointer v), (.int .i64 group), (.pointer s)] w (Ret K) := calls_of_vc mixed Go.Proofs.Tryz.func58 ok_vm_VM_add (by rw [vc_vm_VM_add]; exact h)

def ann_space_New : Ann := {}
/-- millpond/space.New -/
def sh_space_New (K : Value → World → Prop) (w : World) : Prop :=
  Calls P fn_radix_New #[] w fun e2 w1 => ∃ x3 : Option Addr, e2 = .returned (.pointer x3) ∧ Al (.cells #[(.slice none 0 0), (.pointer x3)] 180) (fun p4 w5 => K (.pointer (some p4))
    w5) w1
theorem vc_space_New (K : Value → World → Prop) (w : World) : vcFn P tau rho pan ann_space_New Go.Proofs.Tryz.f59 #[] K (fun _ _ => False) w = sh_space_New K w := by kernel_rfl
theorem ok_space_New : okFn P ann_space_New Go.Proofs.Tryz.f59 0 = true := by kernel_rfl
theorem of_space_New {K : Value → World → Prop} {w : World} (h : sh_space_New K w) : Calls P fn_space_New #[] w (Ret K) := calls_of_vc mixed Go.Proofs.Tryz.func59 ok_space_New (by rw [vc_space_New]; exact h)

def ann_bits_New : Ann := { quiet := fun d => [4, 5, 8, 9, 10].contains d }
/-- millpond/bits.New -/
def sh_bits_New (n : Int) (K : Value → World → Prop) (w : World) : Prop :=
  0 ≤ (6 : Int) ∧ ∃ x2 : Sl, ∃ w1 : World, Sem.run P (Instr.makeSlice 218 (.int .i64 ((IntKind.i64.wrap ((IntKind.i64.wrap ((min1 (max1 n 0) 65536) + 64)) - 1)).fdiv (2 ^ (min (6 :
    Int).toNat 64)))) (.int .i64 ((IntKind.i64.wrap ((IntKind.i64.wrap ((min1 (max1 n 0) 65536) + 64)) - 1)).fdiv (2 ^ (min (6 : Int).toNat 64))))) w = .ok (.slice x2.p x2.n x2.c)
    w1 ∧ Al (.cells #[(.int .i64 (min1 (max1 n 0) 65536)), (.slice x2.p x2.n x2.c)] 220) (fun p3 w4 => K (.pointer (some p3)) w4) w1
theorem vc_bits_New (n : Int) (K : Value → World → Prop) (w : World) : vcFn P tau rho pan ann_bits_New Go.Proofs.Tryz.f81 #[(.int .i64 n)] K (fun _ _ => False) w = sh_bits_New n K w := by kernel_rfl
theorem ok_bits_New : okFn P ann_bits_New Go.Proofs.Tryz.f81 1 = true := by kernel_rfl
theorem of_bits_New (n : Int) {K : Value → World → Prop} {w : World} (h : sh_bits_New n K w) : Calls P fn_bits_New #[(.int .i64 n)] w (Ret K) := calls_of_vc mixed Go.Proofs.Tryz.func81 ok_bits_New (by rw [vc_bits_New]; exact h)

end Go.Mp
