/- What is asked of each function. Printed by vcprint.py. -/
import Derived.Test.YtkheedbjhboclaaGnN
set_option maxRecDepth 100000
namespace Go.Mp
open Go Go.Vc

def ann_slices_stableCmpFunc_int : Ann := { quiet := fun d => [13, 22, 30, 32, 35, 40, 47, 48, 51, 54, 62].contains d, loop := fun r => (bif r == 2 then [(7, .int .i64), (8, .int .i64)] else bif r == 7 then [(6, .int .i64)] else bif r == 9 then [(7, .int .i64), (8, .int .i64)] else []) }
/-- slices.stableCmpFunc[int] -/
def sh_slices_stableCmpFunc_int (data : Sl) (n : Int) (cmp : Value) (K : Value → World → Prop) (w : World) : Prop :=
  ∃ (I1 : Int → Int → World → Prop) (M2 : Int → Int → World → Nat), I1 0 20 w ∧ ∀ _u4 : Nat → Value, ∀ a5 : Int, ∀ b6 : Int, ∀ w3 : World, I1 a5 b6 w3 → bif (decide (b6 ≤ n)) then
    (Calls P fn_slices_insertionSortCmpFunc_int #[(.slice data.p data.n data.c), (.int .i64 a5), (.int .i64 b6), cmp] w3 fun e8 w7 => e8 = .returned (.tuple #[]) ∧ (I1 b6
    (IntKind.i64.wrap (b6 + 20)) w7 ∧ M2 b6 (IntKind.i64.wrap (b6 + 20)) w7 < M2 a5 b6 w3)) else (Calls P fn_slices_insertionSortCmpFunc_int #[(.slice data.p data.n data.c), (.int
    .i64 a5), (.int .i64 n), cmp] w3 fun e10 w9 => e10 = .returned (.tuple #[]) ∧ ∃ (I11 : Int → World → Prop) (M12 : Int → World → Nat), I11 20 w9 ∧ ∀ _u14 : Nat → Value, ∀
    blockSize15 : Int, ∀ w13 : World, I11 blockSize15 w13 → bif (decide (blockSize15 < n)) then (∃ (I16 : Int → Int → World → Prop) (M17 : Int → Int → World → Nat), I16 0
    (IntKind.i64.wrap (2 * blockSize15)) w13 ∧ ∀ _u19 : Nat → Value, ∀ a20 : Int, ∀ b21 : Int, ∀ w18 : World, I16 a20 b21 w18 → bif (decide (b21 ≤ n)) then (Calls P
    fn_slices_symMergeCmpFunc_int #[(.slice data.p data.n data.c), (.int .i64 a20), (.int .i64 (IntKind.i64.wrap (a20 + blockSize15))), (.int .i64 b21), cmp] w18 fun e23 w22 => e23
    = .returned (.tuple #[]) ∧ (I16 b21 (IntKind.i64.wrap (b21 + (IntKind.i64.wrap (2 * blockSize15)))) w22 ∧ M17 b21 (IntKind.i64.wrap (b21 + (IntKind.i64.wrap (2 * blockSize15))))
    w22 < M17 a20 b21 w18)) else (bif (decide ((IntKind.i64.wrap (a20 + blockSize15)) < n)) then (Calls P fn_slices_symMergeCmpFunc_int #[(.slice data.p data.n data.c), (.int .i64
    a20), (.int .i64 (IntKind.i64.wrap (a20 + blockSize15))), (.int .i64 n), cmp] w18 fun e25 w24 => e25 = .returned (.tuple #[]) ∧ (I11 (IntKind.i64.wrap (blockSize15 * 2)) w24 ∧
    M12 (IntKind.i64.wrap (blockSize15 * 2)) w24 < M12 blockSize15 w13)) else ((I11 (IntKind.i64.wrap (blockSize15 * 2)) w18 ∧ M12 (IntKind.i64.wrap (blockSize15 * 2)) w18 < M12
    blockSize15 w13)))) else (K (.tuple #[]) w13))
theorem vc_slices_stableCmpFunc_int (data : Sl) (n : Int) (cmp : Value) (K : Value → World → Prop) (w : World) : vcFn P tau rho pan ann_slices_stableCmpFunc_int Go.Proofs.Try.f48 #[(.slice data.p data.n data.c), (.int .i64 n), cmp] K (fun _ _ => False) w = sh_slices_stableCmpFunc_int data n cmp K w := by kernel_rfl
theorem ok_slices_stableCmpFunc_int : okFn P ann_slices_stableCmpFunc_int Go.Proofs.Try.f48 3 = true := by kernel_rfl
theorem of_slices_stableCmpFunc_int (data : Sl) (n : Int) (cmp : Value) {K : Value → World → Prop} {w : World} (h : sh_slices_stableCmpFunc_int data n cmp K w) : Calls P fn_slices_stableCmpFunc_int #[(.slice data.p data.n data.c), (.int .i64 n), cmp] w (Ret K) := calls_of_vc mixed Go.Proofs.Try.func48 ok_slices_stableCmpFunc_int (by rw [vc_slices_stableCmpFunc_int]; exact h)

def ann_cmp_isNaN_int : Ann := { quiet := fun d => [5].contains d }
/-- cmp.isNaN[int] -/
def sh_cmp_isNaN_int (x : Int) (K : Value → World → Prop) (w : World) : Prop :=
  K (.bool (x != x)) w
theorem vc_cmp_isNaN_int (x : Int) (K : Value → World → Prop) (w : World) : vcFn P tau rho pan ann_cmp_isNaN_int Go.Proofs.Try.f49 #[(.int .i64 x)] K (fun _ _ => False) w = sh_cmp_isNaN_int x K w := by kernel_rfl
theorem ok_cmp_isNaN_int : okFn P ann_cmp_isNaN_int Go.Proofs.Try.f49 1 = true := by kernel_rfl
theorem of_cmp_isNaN_int (x : Int) {K : Value → World → Prop} {w : World} (h : sh_cmp_isNaN_int x K w) : Calls P fn_cmp_isNaN_int #[(.int .i64 x)] w (Ret K) := calls_of_vc mixed Go.Proofs.Try.func49 ok_cmp_isNaN_int (by rw [vc_cmp_isNaN_int]; exact h)

def ann_slices_insertionSortCmpFunc_int : Ann := { quiet := fun d => [11, 14, 16, 20, 29, 33, 36, 41, 44].contains d, dyn := fun d => [32].contains d, sig := fun r => (bif r == 4 then some ([0, 1, 2, 3, 4, 5, 6, 7, 8, 9, 10, 11, 12, 13, 14, 15, 16], [14]) else bif r == 6 then some ([0, 1, 2, 3, 4, 5, 6, 7, 8, 9, 10, 11, 12, 13, 14, 15, 16, 17], [15, 17]) else none), loop := fun r => (bif r == 1 then [(8, .int .i64)] else bif r == 4 then [(9, .int .i64)] else []), join := fun r => (bif r == 6 then some [] else none) }
/-- slices.insertionSortCmpFunc[int] -/
def sh_slices_insertionSortCmpFunc_int (data : Sl) (a : Int) (b : Int) (cmp : Value) (K : Value → World → Prop) (w : World) : Prop :=
  ∃ (I1 : Int → World → Prop) (M2 : Int → World → Nat), I1 (IntKind.i64.wrap (a + 1)) w ∧ ∀ _u4 : Nat → Value, ∀ i5 : Int, ∀ w3 : World, I1 i5 w3 → bif (decide (i5 < b)) then (∃ (I6 :
    Int → World → Prop) (M7 : Int → World → Nat), I6 i5 w3 ∧ ∀ _u9 : Nat → Value, ∀ j10 : Int, ∀ w8 : World, I6 j10 w8 → ∃ J11 : World → Prop, (Dr (fun w14 => bif (decide (j10 > a))
    then (elAt data.p data.n j10 1 fun a15 => ∃ x16 : Int, w14.cell? a15 = some (.int .i64 x16) ∧ elAt data.p data.n (IntKind.i64.wrap (j10 - 1)) 1 fun a17 => ∃ x18 : Int, w14.cell?
    a17 = some (.int .i64 x18) ∧ callD P cmp #[(.int .i64 x16), (.int .i64 x18)] w14 fun e20 w19 => ∃ x21 : Int, e20 = .returned (.int .i64 x21) ∧ bif (decide (x21 < 0)) then (J11
    w19) else ((I1 (IntKind.i64.wrap (i5 + 1)) w19 ∧ M2 (IntKind.i64.wrap (i5 + 1)) w19 < M2 i5 w3))) else ((I1 (IntKind.i64.wrap (i5 + 1)) w14 ∧ M2 (IntKind.i64.wrap (i5 + 1)) w14
    < M2 i5 w3))) w8) ∧ (∀ _u13 : Nat → Value, ∀ w12 : World, J11 w12 → Dr (fun w22 => elAt data.p data.n (IntKind.i64.wrap (j10 - 1)) 1 fun a23 => ∃ x24 : Int, w22.cell? a23 = some
    (.int .i64 x24) ∧ elAt data.p data.n j10 1 fun a25 => ∃ x26 : Int, w22.cell? a25 = some (.int .i64 x26) ∧ elAt data.p data.n j10 1 fun a27 => St a27 (.int .i64 x24) (fun w28 =>
    elAt data.p data.n (IntKind.i64.wrap (j10 - 1)) 1 fun a29 => St a29 (.int .i64 x26) (fun w30 => (I6 (IntKind.i64.wrap (j10 - 1)) w30 ∧ M7 (IntKind.i64.wrap (j10 - 1)) w30 < M7
    j10 w8)) w28) w22) w12)) else (K (.tuple #[]) w3)
theorem vc_slices_insertionSortCmpFunc_int (data : Sl) (a : Int) (b : Int) (cmp : Value) (K : Value → World → Prop) (w : World) : vcFn P tau rho pan ann_slices_insertionSortCmpFunc_int Go.Proofs.Try.f53 #[(.slice data.p data.n data.c), (.int .i64 a), (.int .i64 b), cmp] K (fun _ _ => False) w = sh_slices_insertionSortCmpFunc_int data a b cmp K w := by kernel_rfl
theorem ok_slices_insertionSortCmpFunc_int : okFn P ann_slices_insertionSortCmpFunc_int Go.Proofs.Try.f53 4 = true := by kernel_rfl
theorem of_slices_insertionSortCmpFunc_int (data : Sl) (a : Int) (b : Int) (cmp : Value) {K : Value → World → Prop} {w : World} (h : sh_slices_insertionSortCmpFunc_int data a b cmp K w) : Calls P fn_slices_insertionSortCmpFunc_int #[(.slice data.p data.n data.c), (.int .i64 a), (.int .i64 b), cmp] w (Ret K) := calls_of_vc mixed Go.Proofs.Try.func53 ok_slices_insertionSortCmpFunc_int (by rw [vc_slices_insertionSortCmpFunc_int]; exact h)

def ann_slices_symMergeCmpFunc_int : Ann := { quiet := fun d => [27, 28, 33, 36, 37, 38, 39, 50, 52, 57, 58, 60, 65, 68, 79, 80, 85, 88, 89, 90, 91, 102, 105, 110, 112, 117, 120, 131, 132, 133, 134, 137, 140, 143, 148, 151, 154, 155, 156, 157, 162, 170, 173, 177, 180, 184, 194, 198, 208, 212].contains d, dyn := fun d => [49, 101, 169].contains d, sig := fun r => (bif r == 5 then some ([0, 1, 2, 3, 4, 5, 6, 7, 8, 9, 10], [9]) else bif r == 11 then some ([0, 1, 2, 3, 4, 5, 6, 7, 8, 9, 10, 11, 12, 13, 14, 15, 16, 17], [15, 17]) else bif r == 17 then some ([0, 1, 2, 3, 4, 5, 6, 7, 8, 9, 10, 11], [9]) else bif r == 23 then some ([0, 1, 2, 3, 4, 5, 6, 7, 8, 9, 10, 11, 12, 13, 14, 15, 16, 17], [15, 17]) else bif r == 35 then some ([0, 1, 2, 3, 4, 5, 6, 7, 8, 9, 10, 11, 12, 13], [11]) else none), loop := fun r => (bif r == 3 then [(10, .int .i64), (11, .int .i64)] else bif r == 9 then [(13, .int .i64)] else bif r == 15 then [(14, .int .i64), (15, .int .i64)] else bif r == 21 then [(17, .int .i64)] else bif r == 33 then [(20, .int .i64), (21, .int .i64)] else []), join := fun r => (bif r == 32 then some [(20, .int .i64), (21, .int .i64)] else bif r == 40 then some [(185, .bool)] else bif r == 41 then some [] else bif r == 42 then some [(199, .bool)] else bif r == 43 then some [] else bif r == 44 then some [(213, .bool)] else none) }
/-- slices.symMergeCmpFunc[int] -/
def sh_slices_symMergeCmpFunc_int (data : Sl) (a : Int) (m : Int) (b : Int) (cmp : Value) (K : Value → World → Prop) (w : World) : Prop :=
  bif ((IntKind.i64.wrap (m - a)) == 1) then (∃ (I1 : Int → Int → World → Prop) (M2 : Int → Int → World → Nat), I1 m b w ∧ ∀ _u4 : Nat → Value, ∀ i5 : Int, ∀ j6 : Int, ∀ w3 : World,
    I1 i5 j6 w3 → bif (decide (i5 < j6)) then (0 ≤ (1 : Int) ∧ Dr (fun w7 => elAt data.p data.n (IntKind.i64.wrap ((IntKind.u64.wrap (IntKind.i64.wrap (i5 + j6))).fdiv (2 ^ (min (1
    : Int).toNat 64)))) 1 fun a8 => ∃ x9 : Int, w7.cell? a8 = some (.int .i64 x9) ∧ elAt data.p data.n a 1 fun a10 => ∃ x11 : Int, w7.cell? a10 = some (.int .i64 x11) ∧ callD P cmp
    #[(.int .i64 x9), (.int .i64 x11)] w7 fun e13 w12 => ∃ x14 : Int, e13 = .returned (.int .i64 x14) ∧ bif (decide (x14 < 0)) then ((I1 (IntKind.i64.wrap ((IntKind.i64.wrap
    ((IntKind.u64.wrap (IntKind.i64.wrap (i5 + j6))).fdiv (2 ^ (min (1 : Int).toNat 64)))) + 1)) j6 w12 ∧ M2 (IntKind.i64.wrap ((IntKind.i64.wrap ((IntKind.u64.wrap
    (IntKind.i64.wrap (i5 + j6))).fdiv (2 ^ (min (1 : Int).toNat 64)))) + 1)) j6 w12 < M2 i5 j6 w3)) else ((I1 i5 (IntKind.i64.wrap ((IntKind.u64.wrap (IntKind.i64.wrap (i5 +
    j6))).fdiv (2 ^ (min (1 : Int).toNat 64)))) w12 ∧ M2 i5 (IntKind.i64.wrap ((IntKind.u64.wrap (IntKind.i64.wrap (i5 + j6))).fdiv (2 ^ (min (1 : Int).toNat 64)))) w12 < M2 i5 j6
    w3))) w3) else (∃ (I15 : Int → World → Prop) (M16 : Int → World → Nat), I15 a w3 ∧ ∀ _u18 : Nat → Value, ∀ k19 : Int, ∀ w17 : World, I15 k19 w17 → bif (decide (k19 <
    (IntKind.i64.wrap (i5 - 1)))) then (Dr (fun w20 => elAt data.p data.n (IntKind.i64.wrap (k19 + 1)) 1 fun a21 => ∃ x22 : Int, w20.cell? a21 = some (.int .i64 x22) ∧ elAt data.p
    data.n k19 1 fun a23 => ∃ x24 : Int, w20.cell? a23 = some (.int .i64 x24) ∧ elAt data.p data.n k19 1 fun a25 => St a25 (.int .i64 x22) (fun w26 => elAt data.p data.n
    (IntKind.i64.wrap (k19 + 1)) 1 fun a27 => St a27 (.int .i64 x24) (fun w28 => (I15 (IntKind.i64.wrap (k19 + 1)) w28 ∧ M16 (IntKind.i64.wrap (k19 + 1)) w28 < M16 k19 w17)) w26)
    w20) w17) else (K (.tuple #[]) w17))) else (bif ((IntKind.i64.wrap (b - m)) == 1) then (∃ (I29 : Int → Int → World → Prop) (M30 : Int → Int → World → Nat), I29 a m w ∧ ∀ _u32 :
    Nat → Value, ∀ i33 : Int, ∀ j34 : Int, ∀ w31 : World, I29 i33 j34 w31 → bif (decide (i33 < j34)) then (0 ≤ (1 : Int) ∧ Dr (fun w35 => elAt data.p data.n m 1 fun a36 => ∃ x37 :
    Int, w35.cell? a36 = some (.int .i64 x37) ∧ elAt data.p data.n (IntKind.i64.wrap ((IntKind.u64.wrap (IntKind.i64.wrap (i33 + j34))).fdiv (2 ^ (min (1 : Int).toNat 64)))) 1 fun
    a38 => ∃ x39 : Int, w35.cell? a38 = some (.int .i64 x39) ∧ callD P cmp #[(.int .i64 x37), (.int .i64 x39)] w35 fun e41 w40 => ∃ x42 : Int, e41 = .returned (.int .i64 x42) ∧ bif
    (!(decide (x42 < 0))) then ((I29 (IntKind.i64.wrap ((IntKind.i64.wrap ((IntKind.u64.wrap (IntKind.i64.wrap (i33 + j34))).fdiv (2 ^ (min (1 : Int).toNat 64)))) + 1)) j34 w40 ∧
    M30 (IntKind.i64.wrap ((IntKind.i64.wrap ((IntKind.u64.wrap (IntKind.i64.wrap (i33 + j34))).fdiv (2 ^ (min (1 : Int).toNat 64)))) + 1)) j34 w40 < M30 i33 j34 w31)) else ((I29
    i33 (IntKind.i64.wrap ((IntKind.u64.wrap (IntKind.i64.wrap (i33 + j34))).fdiv (2 ^ (min (1 : Int).toNat 64)))) w40 ∧ M30 i33 (IntKind.i64.wrap ((IntKind.u64.wrap
    (IntKind.i64.wrap (i33 + j34))).fdiv (2 ^ (min (1 : Int).toNat 64)))) w40 < M30 i33 j34 w31))) w31) else (∃ (I43 : Int → World → Prop) (M44 : Int → World → Nat), I43 m w31 ∧ ∀
    _u46 : Nat → Value, ∀ k47 : Int, ∀ w45 : World, I43 k47 w45 → bif (decide (k47 > i33)) then (Dr (fun w48 => elAt data.p data.n (IntKind.i64.wrap (k47 - 1)) 1 fun a49 => ∃ x50 :
    Int, w48.cell? a49 = some (.int .i64 x50) ∧ elAt data.p data.n k47 1 fun a51 => ∃ x52 : Int, w48.cell? a51 = some (.int .i64 x52) ∧ elAt data.p data.n k47 1 fun a53 => St a53
    (.int .i64 x50) (fun w54 => elAt data.p data.n (IntKind.i64.wrap (k47 - 1)) 1 fun a55 => St a55 (.int .i64 x52) (fun w56 => (I43 (IntKind.i64.wrap (k47 - 1)) w56 ∧ M44
    (IntKind.i64.wrap (k47 - 1)) w56 < M44 k47 w45)) w54) w48) w45) else (K (.tuple #[]) w45))) else (0 ≤ (1 : Int) ∧ ∃ J57 : Int → Int → World → Prop, (bif (decide (m >
    (IntKind.i64.wrap ((IntKind.u64.wrap (IntKind.i64.wrap (a + b))).fdiv (2 ^ (min (1 : Int).toNat 64)))))) then (J57 (IntKind.i64.wrap ((IntKind.i64.wrap ((IntKind.i64.wrap
    ((IntKind.u64.wrap (IntKind.i64.wrap (a + b))).fdiv (2 ^ (min (1 : Int).toNat 64)))) + m)) - b)) (IntKind.i64.wrap ((IntKind.u64.wrap (IntKind.i64.wrap (a + b))).fdiv (2 ^ (min
    (1 : Int).toNat 64)))) w) else (J57 a m w)) ∧ (∀ _u59 : Nat → Value, ∀ start60 : Int, ∀ r61 : Int, ∀ w58 : World, J57 start60 r61 w58 → ∃ (I62 : Int → Int → World → Prop) (M63 :
    Int → Int → World → Nat), I62 start60 r61 w58 ∧ ∀ _u65 : Nat → Value, ∀ start66 : Int, ∀ r67 : Int, ∀ w64 : World, I62 start66 r67 w64 → bif (decide (start66 < r67)) then (0 ≤
    (1 : Int) ∧ Dr (fun w68 => elAt data.p data.n (IntKind.i64.wrap ((IntKind.i64.wrap ((IntKind.i64.wrap ((IntKind.i64.wrap ((IntKind.u64.wrap (IntKind.i64.wrap (a + b))).fdiv (2 ^
    (min (1 : Int).toNat 64)))) + m)) - 1)) - (IntKind.i64.wrap ((IntKind.u64.wrap (IntKind.i64.wrap (start66 + r67))).fdiv (2 ^ (min (1 : Int).toNat 64)))))) 1 fun a69 => ∃ x70 :
    Int, w68.cell? a69 = some (.int .i64 x70) ∧ elAt data.p data.n (IntKind.i64.wrap ((IntKind.u64.wrap (IntKind.i64.wrap (start66 + r67))).fdiv (2 ^ (min (1 : Int).toNat 64)))) 1
    fun a71 => ∃ x72 : Int, w68.cell? a71 = some (.int .i64 x72) ∧ callD P cmp #[(.int .i64 x70), (.int .i64 x72)] w68 fun e74 w73 => ∃ x75 : Int, e74 = .returned (.int .i64 x75) ∧
    bif (!(decide (x75 < 0))) then ((I62 (IntKind.i64.wrap ((IntKind.i64.wrap ((IntKind.u64.wrap (IntKind.i64.wrap (start66 + r67))).fdiv (2 ^ (min (1 : Int).toNat 64)))) + 1)) r67
    w73 ∧ M63 (IntKind.i64.wrap ((IntKind.i64.wrap ((IntKind.u64.wrap (IntKind.i64.wrap (start66 + r67))).fdiv (2 ^ (min (1 : Int).toNat 64)))) + 1)) r67 w73 < M63 start66 r67 w64))
    else ((I62 start66 (IntKind.i64.wrap ((IntKind.u64.wrap (IntKind.i64.wrap (start66 + r67))).fdiv (2 ^ (min (1 : Int).toNat 64)))) w73 ∧ M63 start66 (IntKind.i64.wrap
    ((IntKind.u64.wrap (IntKind.i64.wrap (start66 + r67))).fdiv (2 ^ (min (1 : Int).toNat 64)))) w73 < M63 start66 r67 w64))) w64) else (∃ J76 : World → Prop, (∃ J79 : Bool → World
    → Prop, (bif (decide (start66 < m)) then (J79 (decide (m < (IntKind.i64.wrap ((IntKind.i64.wrap ((IntKind.i64.wrap ((IntKind.u64.wrap (IntKind.i64.wrap (a + b))).fdiv (2 ^ (min
    (1 : Int).toNat 64)))) + m)) - start66)))) w64) else (J79 false w64)) ∧ (∀ _u81 : Nat → Value, ∀ x82 : Bool, ∀ w80 : World, J79 x82 w80 → bif x82 then (Calls P
    fn_slices_rotateCmpFunc_int #[(.slice data.p data.n data.c), (.int .i64 start66), (.int .i64 m), (.int .i64 (IntKind.i64.wrap ((IntKind.i64.wrap ((IntKind.i64.wrap
    ((IntKind.u64.wrap (IntKind.i64.wrap (a + b))).fdiv (2 ^ (min (1 : Int).toNat 64)))) + m)) - start66))), cmp] w80 fun e84 w83 => e84 = .returned (.tuple #[]) ∧ J76 w83) else
    (J76 w80))) ∧ (∀ _u78 : Nat → Value, ∀ w77 : World, J76 w77 → ∃ J85 : World → Prop, (∃ J88 : Bool → World → Prop, (bif (decide (a < start66)) then (J88 (decide (start66 <
    (IntKind.i64.wrap ((IntKind.u64.wrap (IntKind.i64.wrap (a + b))).fdiv (2 ^ (min (1 : Int).toNat 64)))))) w77) else (J88 false w77)) ∧ (∀ _u90 : Nat → Value, ∀ x91 : Bool, ∀ w89
    : World, J88 x91 w89 → bif x91 then (Calls P fn_slices_symMergeCmpFunc_int #[(.slice data.p data.n data.c), (.int .i64 a), (.int .i64 start66), (.int .i64 (IntKind.i64.wrap
    ((IntKind.u64.wrap (IntKind.i64.wrap (a + b))).fdiv (2 ^ (min (1 : Int).toNat 64))))), cmp] w89 fun e93 w92 => e93 = .returned (.tuple #[]) ∧ J85 w92) else (J85 w89))) ∧ (∀ _u87
    : Nat → Value, ∀ w86 : World, J85 w86 → ∃ J94 : Bool → World → Prop, (bif (decide ((IntKind.i64.wrap ((IntKind.u64.wrap (IntKind.i64.wrap (a + b))).fdiv (2 ^ (min (1 :
    Int).toNat 64)))) < (IntKind.i64.wrap ((IntKind.i64.wrap ((IntKind.i64.wrap ((IntKind.u64.wrap (IntKind.i64.wrap (a + b))).fdiv (2 ^ (min (1 : Int).toNat 64)))) + m)) -
    start66)))) then (J94 (decide ((IntKind.i64.wrap ((IntKind.i64.wrap ((IntKind.i64.wrap ((IntKind.u64.wrap (IntKind.i64.wrap (a + b))).fdiv (2 ^ (min (1 : Int).toNat 64)))) + m))
    - start66)) < b)) w86) else (J94 false w86)) ∧ (∀ _u96 : Nat → Value, ∀ x97 : Bool, ∀ w95 : World, J94 x97 w95 → bif x97 then (Calls P fn_slices_symMergeCmpFunc_int #[(.slice
    data.p data.n data.c), (.int .i64 (IntKind.i64.wrap ((IntKind.u64.wrap (IntKind.i64.wrap (a + b))).fdiv (2 ^ (min (1 : Int).toNat 64))))), (.int .i64 (IntKind.i64.wrap
    ((IntKind.i64.wrap ((IntKind.i64.wrap ((IntKind.u64.wrap (IntKind.i64.wrap (a + b))).fdiv (2 ^ (min (1 : Int).toNat 64)))) + m)) - start66))), (.int .i64 b), cmp] w95 fun e99
    w98 => e99 = .returned (.tuple #[]) ∧ K (.tuple #[]) w98) else (K (.tuple #[]) w95))))))))
theorem vc_slices_symMergeCmpFunc_int (data : Sl) (a : Int) (m : Int) (b : Int) (cmp : Value) (K : Value → World → Prop) (w : World) : vcFn P tau rho pan ann_slices_symMergeCmpFunc_int Go.Proofs.Try.f54 #[(.slice data.p data.n data.c), (.int .i64 a), (.int .i64 m), (.int .i64 b), cmp] K (fun _ _ => False) w = sh_slices_symMergeCmpFunc_int data a m b cmp K w := by kernel_rfl
theorem ok_slices_symMergeCmpFunc_int : okFn P ann_slices_symMergeCmpFunc_int Go.Proofs.Try.f54 5 = true := by kernel_rfl
theorem of_slices_symMergeCmpFunc_int (data : Sl) (a : Int) (m : Int) (b : Int) (cmp : Value) {K : Value → World → Prop} {w : World} (h : sh_slices_symMergeCmpFunc_int data a m b cmp K w) : Calls P fn_slices_symMergeCmpFunc_int #[(.slice data.p data.n data.c), (.int .i64 a), (.int .i64 m), (.int .i64 b), cmp] w (Ret K) := calls_of_vc mixed Go.Proofs.Try.func54 ok_slices_symMergeCmpFunc_int (by rw [vc_slices_symMergeCmpFunc_int]; exact h)

def ann_slices_rotateCmpFunc_int : Ann := { quiet := fun d => [14, 17, 20, 23, 27, 34, 38, 41, 43, 49, 53].contains d, loop := fun r => (bif r == 2 then [(10, .int .i64), (11, .int .i64)] else []) }
/-- slices.rotateCmpFunc[int] -/
def sh_slices_rotateCmpFunc_int (data : Sl) (a : Int) (m : Int) (b : Int) (cmp : Value) (K : Value → World → Prop) (w : World) : Prop :=
  ∃ (I1 : Int → Int → World → Prop) (M2 : Int → Int → World → Nat), I1 (IntKind.i64.wrap (m - a)) (IntKind.i64.wrap (b - m)) w ∧ ∀ _u4 : Nat → Value, ∀ i5 : Int, ∀ j6 : Int, ∀ w3 :
    World, I1 i5 j6 w3 → bif (i5 != j6) then (bif (decide (i5 > j6)) then (Calls P fn_slices_swapRangeCmpFunc_int #[(.slice data.p data.n data.c), (.int .i64 (IntKind.i64.wrap (m -
    i5))), (.int .i64 m), (.int .i64 j6), cmp] w3 fun e8 w7 => e8 = .returned (.tuple #[]) ∧ (I1 (IntKind.i64.wrap (i5 - j6)) j6 w7 ∧ M2 (IntKind.i64.wrap (i5 - j6)) j6 w7 < M2 i5
    j6 w3)) else (Calls P fn_slices_swapRangeCmpFunc_int #[(.slice data.p data.n data.c), (.int .i64 (IntKind.i64.wrap (m - i5))), (.int .i64 (IntKind.i64.wrap ((IntKind.i64.wrap (m
    + j6)) - i5))), (.int .i64 i5), cmp] w3 fun e10 w9 => e10 = .returned (.tuple #[]) ∧ (I1 i5 (IntKind.i64.wrap (j6 - i5)) w9 ∧ M2 i5 (IntKind.i64.wrap (j6 - i5)) w9 < M2 i5 j6
    w3))) else (Calls P fn_slices_swapRangeCmpFunc_int #[(.slice data.p data.n data.c), (.int .i64 (IntKind.i64.wrap (m - i5))), (.int .i64 m), (.int .i64 i5), cmp] w3 fun e12 w11
    => e12 = .returned (.tuple #[]) ∧ K (.tuple #[]) w11)
theorem vc_slices_rotateCmpFunc_int (data : Sl) (a : Int) (m : Int) (b : Int) (cmp : Value) (K : Value → World → Prop) (w : World) : vcFn P tau rho pan ann_slices_rotateCmpFunc_int Go.Proofs.Try.f66 #[(.slice data.p data.n data.c), (.int .i64 a), (.int .i64 m), (.int .i64 b), cmp] K (fun _ _ => False) w = sh_slices_rotateCmpFunc_int data a m b cmp K w := by kernel_rfl
theorem ok_slices_rotateCmpFunc_int : okFn P ann_slices_rotateCmpFunc_int Go.Proofs.Try.f66 5 = true := by kernel_rfl
theorem of_slices_rotateCmpFunc_int (data : Sl) (a : Int) (m : Int) (b : Int) (cmp : Value) {K : Value → World → Prop} {w : World} (h : sh_slices_rotateCmpFunc_int data a m b cmp K w) : Calls P fn_slices_rotateCmpFunc_int #[(.slice data.p data.n data.c), (.int .i64 a), (.int .i64 m), (.int .i64 b), cmp] w (Ret K) := calls_of_vc mixed Go.Proofs.Try.func66 ok_slices_rotateCmpFunc_int (by rw [vc_slices_rotateCmpFunc_int]; exact h)

def ann_slices_swapRangeCmpFunc_int : Ann := { quiet := fun d => [13, 15, 19, 23, 27, 33].contains d, sig := fun r => (bif r == 3 then some ([0, 1, 2, 3, 4, 5, 6, 7, 8, 9, 10, 11, 12, 13, 14, 15, 16, 17, 18, 19, 20, 21, 22, 23], [21, 23]) else none), loop := fun r => (bif r == 1 then [(10, .int .i64)] else []) }
/-- slices.swapRangeCmpFunc[int] -/
def sh_slices_swapRangeCmpFunc_int (data : Sl) (a : Int) (b : Int) (n : Int) (cmp : Value) (K : Value → World → Prop) (w : World) : Prop :=
  ∃ (I1 : Int → World → Prop) (M2 : Int → World → Nat), I1 0 w ∧ ∀ _u4 : Nat → Value, ∀ i5 : Int, ∀ w3 : World, I1 i5 w3 → bif (decide (i5 < n)) then (Dr (fun w6 => elAt data.p data.n
    (IntKind.i64.wrap (b + i5)) 1 fun a7 => ∃ x8 : Int, w6.cell? a7 = some (.int .i64 x8) ∧ elAt data.p data.n (IntKind.i64.wrap (a + i5)) 1 fun a9 => ∃ x10 : Int, w6.cell? a9 =
    some (.int .i64 x10) ∧ elAt data.p data.n (IntKind.i64.wrap (a + i5)) 1 fun a11 => St a11 (.int .i64 x8) (fun w12 => elAt data.p data.n (IntKind.i64.wrap (b + i5)) 1 fun a13 =>
    St a13 (.int .i64 x10) (fun w14 => (I1 (IntKind.i64.wrap (i5 + 1)) w14 ∧ M2 (IntKind.i64.wrap (i5 + 1)) w14 < M2 i5 w3)) w12) w6) w3) else (K (.tuple #[]) w3)
theorem vc_slices_swapRangeCmpFunc_int (data : Sl) (a : Int) (b : Int) (n : Int) (cmp : Value) (K : Value → World → Prop) (w : World) : vcFn P tau rho pan ann_slices_swapRangeCmpFunc_int Go.Proofs.Try.f72 #[(.slice data.p data.n data.c), (.int .i64 a), (.int .i64 b), (.int .i64 n), cmp] K (fun _ _ => False) w = sh_slices_swapRangeCmpFunc_int data a b n cmp K w := by kernel_rfl
theorem ok_slices_swapRangeCmpFunc_int : okFn P ann_slices_swapRangeCmpFunc_int Go.Proofs.Try.f72 5 = true := by kernel_rfl
theorem of_slices_swapRangeCmpFunc_int (data : Sl) (a : Int) (b : Int) (n : Int) (cmp : Value) {K : Value → World → Prop} {w : World} (h : sh_slices_swapRangeCmpFunc_int data a b n cmp K w) : Calls P fn_slices_swapRangeCmpFunc_int #[(.slice data.p data.n data.c), (.int .i64 a), (.int .i64 b), (.int .i64 n), cmp] w (Ret K) := calls_of_vc mixed Go.Proofs.Try.func72 ok_slices_swapRangeCmpFunc_int (by rw [vc_slices_swapRangeCmpFunc_int]; exact h)

end Go.Mp
