/- What each function of bytes does. -/
import Derived.Test.YtdlmhicackopnaaBy0
import Derived.Test.YtdlmhicackopnaaEff
set_option maxRecDepth 100000
namespace Go.Mp
open Go Go.Vc Go.Sp

/-! ### the pages, plainly -/
namespace By

def pg (n : Nat) (i : Int) : Prop := 0 ≤ i ∧ i < n
instance (n : Nat) (i : Int) : Decidable (pg n i) := inferInstanceAs (Decidable (_ ∧ _))
def pgAt (X : List UInt8) (i : Int) : List UInt8 := (X.drop (16 * i.toNat)).take 16
def wrAt (X : List UInt8) (i : Int) (t : List UInt8) : List UInt8 := X.take (16 * i.toNat) ++ t ++ X.drop (16 * i.toNat + 16)
def zs : List UInt8 := List.replicate 16 0
def rd (n : Nat) (X : List UInt8) (i : Int) : List UInt8 × Int := if pg n i then (pgAt X i, 0) else ([], 1)
def wr (n : Nat) (X : List UInt8) (i : Int) (t : List UInt8) : List UInt8 × Int := if pg n i ∧ t.length = 16 then (wrAt X i t, 0) else (X, 1)
def gt (n : Nat) (X : List UInt8) (i a : Int) : UInt8 × Int := if pg n i ∧ 0 ≤ a ∧ a < 16 then (X.getD (16 * i.toNat + a.toNat) 0, 0) else (0, 1)
def pt (n : Nat) (X : List UInt8) (i a : Int) (b : UInt8) : List UInt8 × Int := if pg n i ∧ 0 ≤ a ∧ a < 16 then (X.set (16 * i.toNat + a.toNat) b, 0) else (X, 1)
def cl (n : Nat) (X : List UInt8) (i : Int) : List UInt8 × Int := wr n X i zs
def mv (n : Nat) (X : List UInt8) (i j : Int) : List UInt8 × Int := if pg n i ∧ pg n j then (if i = j then X else wrAt (wrAt X j (pgAt X i)) i zs, 0) else (X, 1)

variable {n : Nat} {X : List UInt8} {i j : Int}

theorem pgAt_length (h : X.length = 16 * n) (hi : pg n i) : (pgAt X i).length = 16 := by
  obtain ⟨h1, h2⟩ := hi
  simp only [pgAt, List.length_take, List.length_drop]; omega
theorem wrAt_length {t : List UInt8} (h : X.length = 16 * n) (hi : pg n i) (ht : t.length = 16) : (wrAt X i t).length = 16 * n := by
  obtain ⟨h1, h2⟩ := hi
  simp only [wrAt, List.length_append, List.length_take, List.length_drop]; omega
theorem wrAt_eq {t : List UInt8} (h : X.length = 16 * n) (hi : pg n i) (ht : t.length = 16) : setAll (u8s X) (16 * i.toNat) (u8s t) = u8s (wrAt X i t) := by
  obtain ⟨h1, h2⟩ := hi
  rw [setAll_eq _ _ _ (by simp; omega)]
  simp [u8s, wrAt, ht, List.map_append]
theorem pgAt_get {k : Nat} (hk : k < 16) : (pgAt X i)[k]? = X[16 * i.toNat + k]? := by
  simp [pgAt, hk]
theorem wrAt_get {t : List UInt8} (h : X.length = 16 * n) (hi : pg n i) (ht : t.length = 16) (k : Nat) :
    (wrAt X i t)[k]? = if 16 * i.toNat ≤ k ∧ k < 16 * i.toNat + 16 then t[k - 16 * i.toNat]? else X[k]? := by
  obtain ⟨h1, h2⟩ := hi
  unfold wrAt
  by_cases hk : k < 16 * i.toNat
  · rw [if_neg (by omega), List.append_assoc, List.getElem?_append_left (by simp; omega)]; simp [hk]
  · by_cases hk2 : k < 16 * i.toNat + 16
    · rw [if_pos (by omega), List.append_assoc, List.getElem?_append_right (by simp; omega), List.getElem?_append_left (by simp; omega)]
      congr 1; simp; omega
    · rw [if_neg (by omega), List.getElem?_append_right (by simp; omega)]
      simp only [List.getElem?_drop, List.length_append, List.length_take]
      congr 1; omega

theorem wr_length (h : X.length = 16 * n) (t : List UInt8) : (wr n X i t).1.length = 16 * n := by
  unfold wr; split
  · next hh => exact wrAt_length h hh.1 hh.2
  · exact h
theorem pt_length (h : X.length = 16 * n) (a : Int) (b : UInt8) : (pt n X i a b).1.length = 16 * n := by
  unfold pt; split <;> simpa
theorem mv_length (h : X.length = 16 * n) : (mv n X i j).1.length = 16 * n := by
  unfold mv; split
  · next hh =>
    dsimp only; split
    · exact h
    · exact wrAt_length (wrAt_length h hh.2 (pgAt_length h hh.1)) hh.1 rfl
  · exact h

end By
open By

variable {E : Env} {L : List Asn} {w : World}

/-- The pages of a store: so many, and their bytes. -/
def BSt (s n : Nat) (X : List UInt8) : Asn :=
  exA fun bl : Nat => pur (X.length = 16 * n ∧ n ≤ 1024) (star (blk s [.slice (some ⟨bl, 0, none⟩) n n]) (blk bl (u8s X)))

theorem BSt.open {s n : Nat} {X : List UInt8} (h : Sep E (BSt s n X :: L) w) :
    ∃ bl : Nat, X.length = 16 * n ∧ n ≤ 1024 ∧ Sep E (blk s [.slice (some ⟨bl, 0, none⟩) n n] :: blk bl (u8s X) :: L) w := by
  obtain ⟨bl, h⟩ := Sep.ex.1 h
  obtain ⟨⟨h1, h2⟩, h⟩ := Sep.pur.1 h
  exact ⟨bl, h1, h2, Sep.star.1 h⟩
theorem BSt.shut {s n bl : Nat} {X : List UInt8} (h1 : X.length = 16 * n) (h2 : n ≤ 1024) (h : Sep E (blk s [.slice (some ⟨bl, 0, none⟩) n n] :: blk bl (u8s X) :: L) w) : Sep E (BSt s n X :: L) w :=
  Sep.ex.2 ⟨bl, Sep.pur.2 ⟨⟨h1, h2⟩, Sep.star.2 h⟩⟩

theorem c_bytes_at {s n bl : Nat} {X : List UInt8} (i : Int) (h : Sep E (blk s [.slice (some ⟨bl, 0, none⟩) n n] :: blk bl (u8s X) :: L) w) :
    Calls P fn_bytes_Store_at #[.pointer (some ⟨s, 0, none⟩), .int .i64 i] w (Ret fun v w' => w' = w ∧ v = .pointer (if pg n i then some ⟨bl, 16 * i.toNat, none⟩ else none)) := by
  apply of_bytes_Store_at
  unfold sh_bytes_Store_at
  refine bifI (fun hc => ?_) (fun hc => ?_)
  · simp only [decide_eq_true_eq] at hc
    exact ⟨rfl, by rw [if_neg (fun hh => by have := hh.1; omega)]⟩
  · simp only [decide_eq_false_iff_not] at hc
    refine ⟨_, rfl, ⟨_, _, _⟩, (h.cell _).trans rfl, ?_⟩
    refine bifI (fun hc2 => ?_) (fun hc2 => ?_)
    · simp only [decide_eq_true_eq] at hc2
      exact ⟨rfl, by rw [if_neg (fun hh => by have := hh.2; omega)]⟩
    · simp only [decide_eq_false_iff_not] at hc2
      refine ⟨_, rfl, ⟨_, _, _⟩, (h.cell _).trans rfl, _, rfl, ⟨by omega, by dsimp only; omega⟩, rfl, ?_⟩
      rw [if_pos ⟨by omega, by omega⟩, add_mk, Nat.mul_comm, Nat.zero_add]

theorem min_max {n : Int} : min1 (max1 n 0) 1024 = ((min (max n 0).toNat 1024 : Nat) : Int) := by
  unfold min1 max1; split <;> split <;> omega

theorem c_bytes_New (n : Int) (h : Sep E L w) :
    Calls P fn_bytes_New #[.int .i64 n] w (Ret fun v w' => ∃ s, v = .pointer (some ⟨s, 0, none⟩) ∧ Sep E (BSt s (min (max n 0).toNat 1024) (List.replicate (16 * min (max n 0).toNat 1024) 0) :: L) w') := by
  apply of_bytes_New
  unfold sh_bytes_New
  rw [min_max]
  generalize hm : min (max n 0).toNat 1024 = m
  have hm' : m ≤ 1024 := by omega
  refine makeBytes.i h (m := 16) (sz := 16) (by_ := 16) (by kernel_rfl) (by omega) (by omega) (by omega) (by omega) (fun b w1 h1 => ?_)
  refine Al.i h1 (fun s w2 h2 => ?_)
  refine ⟨s, rfl, BSt.shut (bl := b) (by simp) hm' ?_⟩
  simp only [Int.toNat_natCast] at h2
  rw [Nat.mul_comm] at h2
  exact h2

theorem c_bytes_Len {s n : Nat} {X : List UInt8} (h : Sep E (BSt s n X :: L) w) :
    Calls P fn_bytes_Store_Len #[.pointer (some ⟨s, 0, none⟩)] w (Ret fun v w' => w' = w ∧ v = .int .i64 n) := by
  obtain ⟨bl, h1, h2, h⟩ := BSt.open h
  apply of_bytes_Store_Len
  exact ⟨_, rfl, ⟨_, _, _⟩, (h.cell _).trans rfl, rfl, rfl⟩

theorem c_bytes_Read {s n : Nat} {X : List UInt8} (i : Int) (h : Sep E (BSt s n X :: L) w) :
    Calls P fn_bytes_Store_Read #[.pointer (some ⟨s, 0, none⟩), .int .i64 i] w (Ret fun v w' => w' = w ∧ v = .tuple #[.string ⟨(rd n X i).1.toArray⟩, .int .i64 (rd n X i).2]) := by
  obtain ⟨bl, h1, h2, h⟩ := BSt.open h
  apply of_bytes_Store_Read
  unfold sh_bytes_Store_Read
  refine use (c_bytes_at i h) ?_
  rintro _ w1 ⟨rfl, rfl⟩
  refine ⟨_, rfl, ?_⟩
  by_cases hi : pg n i
  · rw [if_pos hi]
    refine ⟨_, rfl, ?_⟩
    have hr : rd n X i = (pgAt X i, 0) := if_pos hi
    rw [hr]
    refine toStr.i (pgAt X i) 1 h rfl (by kernel_rfl) (by kernel_rfl) (pgAt_length h1 hi) (fun j hj => ?_) ⟨rfl, rfl⟩
    have hj' := hj
    rw [pgAt_length h1 hi] at hj'
    rw [u8s_get, ← pgAt_get hj', List.getElem?_eq_getElem hj]; rfl
  · rw [if_neg hi]
    have hr : rd n X i = ([], 1) := if_neg hi
    rw [hr]
    exact ⟨rfl, rfl⟩

theorem byteCells_mk (t : ByteArray) : byteCells t = u8s t.data.toList := rfl

theorem c_bytes_Write {s n : Nat} {X : List UInt8} (i : Int) (t : ByteArray) (h : Sep E (BSt s n X :: L) w) :
    Calls P fn_bytes_Store_Write #[.pointer (some ⟨s, 0, none⟩), .int .i64 i, .string t] w (Ret fun v w' => v = .int .i64 (wr n X i t.data.toList).2 ∧ Sep E (BSt s n (wr n X i t.data.toList).1 :: L) w') := by
  have h0 := h
  obtain ⟨bl, h1, h2, h⟩ := BSt.open h
  apply of_bytes_Store_Write
  unfold sh_bytes_Store_Write
  refine use (c_bytes_at i h) ?_
  rintro _ w1 ⟨rfl, rfl⟩
  refine ⟨_, rfl, ?_⟩
  have hsz : t.data.toList.length = t.size := rfl
  by_cases hi : pg n i
  · rw [if_pos hi]
    refine bifF (bifI (fun hc => ?_) (fun hc => ?_))
    · simp only [bne_iff_ne, ne_eq] at hc
      have : ¬ (pg n i ∧ t.data.toList.length = 16) := fun hh => by have := hh.2; omega
      have hr : wr n X i t.data.toList = (X, 1) := if_neg this
      rw [hr]
      exact ⟨rfl, h0⟩
    · simp only [bne_eq_false_iff_eq] at hc
      have hr : wr n X i t.data.toList = (wrAt X i t.data.toList, 0) := if_pos ⟨hi, by omega⟩
      rw [hr]
      refine ⟨_, rfl, ?_⟩
      have hx := hi.1
      have hy := hi.2
      refine copyStr.i h.swap (by_ := 1) (zs := [.int .u8 0]) (by kernel_rfl) (by omega) (by simp; omega) (fun w1 h3 => ?_)
      rw [byteCells_mk, wrAt_eq h1 hi (by omega)] at h3
      exact ⟨rfl, BSt.shut (wrAt_length h1 hi (by omega)) h2 h3.swap⟩
  · rw [if_neg hi]
    have hr : wr n X i t.data.toList = (X, 1) := if_neg (fun hh => hi hh.1)
    rw [hr]
    exact ⟨rfl, h0⟩

theorem bB {n i : Int} {A B : Prop} (h1 : n < i → A) (h2 : i ≤ n → B) : bif decide (n < i) then A else B :=
  bifI (fun h => h1 (by simpa using h)) (fun h => h2 (by simpa using h))
theorem bG {n i : Int} {A B : Prop} (h1 : i ≤ n → A) (h2 : n < i → B) : bif decide (n ≥ i) then A else B :=
  bifI (fun h => h1 (by simpa using h)) (fun h => h2 (by simpa using h))
theorem bGt {n i : Int} {A B : Prop} (h1 : i < n → A) (h2 : n ≤ i → B) : bif decide (n > i) then A else B :=
  bifI (fun h => h1 (by simpa using h)) (fun h => h2 (by simpa using h))
theorem bNe {n i : Int} {A B : Prop} (h1 : n ≠ i → A) (h2 : n = i → B) : bif (n != i) then A else B :=
  bifI (fun h => h1 (by simpa using h)) (fun h => h2 (by simpa using h))

theorem c_bytes_Get {s n : Nat} {X : List UInt8} (i a : Int) (h : Sep E (BSt s n X :: L) w) :
    Calls P fn_bytes_Store_Get #[.pointer (some ⟨s, 0, none⟩), .int .i64 i, .int .i64 a] w (Ret fun v w' => w' = w ∧ v = .tuple #[.int .u8 (gt n X i a).1.toNat, .int .i64 (gt n X i a).2]) := by
  obtain ⟨bl, h1, h2, h⟩ := BSt.open h
  apply of_bytes_Store_Get
  unfold sh_bytes_Store_Get
  refine use (c_bytes_at i h) ?_
  rintro _ w1 ⟨rfl, rfl⟩
  refine ⟨_, rfl, ?_⟩
  by_cases hi : pg n i
  · rw [if_pos hi]
    obtain ⟨hx, hy⟩ := hi
    refine bifF (bB (fun hc => ?_) (fun hc => bG (fun hc2 => ?_) (fun hc2 => ?_)))
    · have hr : gt n X i a = (0, 1) := if_neg (by omega)
      rw [hr]; exact ⟨rfl, rfl⟩
    · have hr : gt n X i a = (0, 1) := if_neg (by omega)
      rw [hr]; exact ⟨rfl, rfl⟩
    · have hr : gt n X i a = (X.getD (16 * i.toNat + a.toNat) 0, 0) := if_pos ⟨⟨hx, hy⟩, hc, hc2⟩
      rw [hr]
      have hlt : 16 * i.toNat + a.toNat < X.length := by omega
      refine ⟨_, rfl, _, rfl, ⟨hc, hc2⟩, (X[16 * i.toNat + a.toNat].toNat : Int), ?_, rfl, ?_⟩
      · rw [add_mk, h.cellAt 1 rfl, u8s_get, Nat.mul_one, List.getElem?_eq_getElem hlt]; rfl
      · simp [List.getD, hlt]
  · rw [if_neg hi]
    have hr : gt n X i a = (0, 1) := if_neg (fun hh => hi hh.1)
    rw [hr]
    exact ⟨rfl, rfl⟩

theorem u8s_set (X : List UInt8) (k : Nat) (b : UInt8) : (u8s X).set k (.int .u8 b.toNat) = u8s (X.set k b) := by simp [u8s, List.map_set]

theorem c_bytes_Put {s n : Nat} {X : List UInt8} (i a : Int) (b : UInt8) (h : Sep E (BSt s n X :: L) w) :
    Calls P fn_bytes_Store_Put #[.pointer (some ⟨s, 0, none⟩), .int .i64 i, .int .i64 a, .int .u8 b.toNat] w (Ret fun v w' => v = .int .i64 (pt n X i a b).2 ∧ Sep E (BSt s n (pt n X i a b).1 :: L) w') := by
  have h0 := h
  obtain ⟨bl, h1, h2, h⟩ := BSt.open h
  apply of_bytes_Store_Put
  unfold sh_bytes_Store_Put
  refine use (c_bytes_at i h) ?_
  rintro _ w1 ⟨rfl, rfl⟩
  refine ⟨_, rfl, ?_⟩
  by_cases hi : pg n i
  · rw [if_pos hi]
    obtain ⟨hx, hy⟩ := hi
    refine bifF (bB (fun hc => ?_) (fun hc => bG (fun hc2 => ?_) (fun hc2 => ?_)))
    · have hr : pt n X i a b = (X, 1) := if_neg (by omega)
      rw [hr]; exact ⟨rfl, h0⟩
    · have hr : pt n X i a b = (X, 1) := if_neg (by omega)
      rw [hr]; exact ⟨rfl, h0⟩
    · have hr : pt n X i a b = (X.set (16 * i.toNat + a.toNat) b, 0) := if_pos ⟨⟨hx, hy⟩, hc, hc2⟩
      rw [hr]
      refine ⟨_, rfl, _, rfl, ⟨hc, hc2⟩, ?_⟩
      rw [add_mk, Nat.mul_one]
      refine St.i h.swap (by simp; omega) (fun w1 h3 => ⟨rfl, ?_⟩)
      rw [u8s_set] at h3
      exact BSt.shut (by simpa using h1) h2 h3.swap
  · rw [if_neg hi]
    have hr : pt n X i a b = (X, 1) := if_neg (fun hh => hi hh.1)
    rw [hr]
    exact ⟨rfl, h0⟩

theorem c_bytes_Clear {s n : Nat} {X : List UInt8} (i : Int) (h : Sep E (BSt s n X :: L) w) :
    Calls P fn_bytes_Store_Clear #[.pointer (some ⟨s, 0, none⟩), .int .i64 i] w (Ret fun v w' => v = .int .i64 (cl n X i).2 ∧ Sep E (BSt s n (cl n X i).1 :: L) w') := by
  have h0 := h
  obtain ⟨bl, h1, h2, h⟩ := BSt.open h
  apply of_bytes_Store_Clear
  unfold sh_bytes_Store_Clear
  refine use (c_bytes_at i h) ?_
  rintro _ w1 ⟨rfl, rfl⟩
  refine ⟨_, rfl, ?_⟩
  by_cases hi : pg n i
  · rw [if_pos hi]
    have hr : cl n X i = (wrAt X i zs, 0) := if_pos ⟨hi, rfl⟩
    rw [hr]
    have hx := hi.1
    have hy := hi.2
    refine bifF ⟨_, rfl, ?_⟩
    refine stArr.i (List.replicate 16 0) h.swap rfl rfl (by simp; omega) (fun w1 h3 => ⟨rfl, ?_⟩)
    have : (List.replicate 16 (0 : Int)).map (Value.int .u8) = u8s zs := rfl
    rw [this, wrAt_eq h1 hi rfl] at h3
    exact BSt.shut (wrAt_length h1 hi rfl) h2 h3.swap
  · rw [if_neg hi]
    have hr : cl n X i = (X, 1) := if_neg (fun hh => hi hh.1)
    rw [hr]
    exact ⟨rfl, h0⟩

theorem u8s_ints (X : List UInt8) : (X.map fun b => (b.toNat : Int)).map (Value.int .u8) = u8s X := by simp [u8s]

theorem c_bytes_Move {s n : Nat} {X : List UInt8} (i j : Int) (h : Sep E (BSt s n X :: L) w) :
    Calls P fn_bytes_Store_Move #[.pointer (some ⟨s, 0, none⟩), .int .i64 i, .int .i64 j] w (Ret fun v w' => v = .int .i64 (mv n X i j).2 ∧ Sep E (BSt s n (mv n X i j).1 :: L) w') := by
  have h0 := h
  obtain ⟨bl, h1, h2, h⟩ := BSt.open h
  apply of_bytes_Store_Move
  unfold sh_bytes_Store_Move
  refine use (c_bytes_at i h) ?_
  rintro _ w1 ⟨rfl, rfl⟩
  refine ⟨_, rfl, ?_⟩
  refine use (c_bytes_at j h) ?_
  rintro _ w1 ⟨rfl, rfl⟩
  refine ⟨_, rfl, ?_⟩
  by_cases hi : pg n i
  · rw [if_pos hi]
    refine bifF ?_
    by_cases hj : pg n j
    · rw [if_pos hj]
      have hr : mv n X i j = (if i = j then X else wrAt (wrAt X j (pgAt X i)) i zs, 0) := if_pos ⟨hi, hj⟩
      rw [hr]
      have li := pgAt_length h1 hi
      have lj := pgAt_length h1 hj
      have hx := hi.1
      have hy := hi.2
      have hx' := hj.1
      have hy' := hj.2
      have get : ∀ {k : Int} {w1 : World}, Sep E (blk s [.slice (some ⟨bl, 0, none⟩) n n] :: blk bl (u8s X) :: L) w1 → pg n k → (∀ q, q < 16 → w1.cell? (Addr.add ⟨bl, 16 * k.toNat, none⟩ q) = some (.int .u8 (((pgAt X k).map fun b => (b.toNat : Int)).getD q 0))) := by
        intro k w1 h hk q hq
        have hlt : 16 * k.toNat + q < X.length := by have := hk.1; have := hk.2; omega
        have := pgAt_get (X := X) (i := k) hq
        rw [List.getElem?_eq_getElem hlt] at this
        rw [add_mk, h.cellAt 1 rfl, u8s_get, List.getElem?_eq_getElem hlt]
        simp [List.getD, this]
      refine bifF (Dr.i h (fun w1 h3 => ?_))
      refine ⟨_, rfl, (pgAt X i).map fun b => (b.toNat : Int), by simpa using li, get h3 hi, _, rfl, (pgAt X j).map fun b => (b.toNat : Int), by simpa using lj, get h3 hj, !(pgAt X i == pgAt X j), ?_, ?_⟩
      · rw [u8s_ints, u8s_ints]
        exact EqV.bytes (by kernel_rfl) _ _ li lj
      have step : ∀ {w1 : World}, Sep E (blk s [.slice (some ⟨bl, 0, none⟩) n n] :: blk bl (u8s X) :: L) w1 → ∀ {f : World → Prop}, (∀ w2, Sep E (blk bl (u8s (wrAt X j (pgAt X i))) :: blk s [.slice (some ⟨bl, 0, none⟩) n n] :: L) w2 → f w2) →
          stArr 16 .u8 (.agg (((pgAt X i).map fun b => (b.toNat : Int)).map (Value.int .u8)).toArray) ⟨bl, 16 * j.toNat, none⟩ w1 f := by
        intro w1 h f k
        refine stArr.i _ h.swap rfl (by simpa using li) (by simp; omega) (fun w2 h4 => k w2 ?_)
        rw [u8s_ints, wrAt_eq h1 hj li] at h4
        exact h4
      have fin : ∀ {w2 : World}, i ≠ j → Sep E (blk bl (u8s (wrAt X j (pgAt X i))) :: blk s [.slice (some ⟨bl, 0, none⟩) n n] :: L) w2 → stArr 16 .u8 (.agg ((List.replicate 16 (0 : Int)).map (Value.int .u8)).toArray) ⟨bl, 16 * i.toNat, none⟩ w2
          (fun w3 => Value.int .i64 0 = .int .i64 0 ∧ Sep E (BSt s n (if i = j then X else wrAt (wrAt X j (pgAt X i)) i zs) :: L) w3) := by
        intro w2 hne h4
        have hl := wrAt_length h1 hj li
        refine stArr.i (List.replicate 16 0) h4 rfl rfl (by simp; omega) (fun w3 h5 => ⟨rfl, ?_⟩)
        have : (List.replicate 16 (0 : Int)).map (Value.int .u8) = u8s zs := rfl
        rw [this, wrAt_eq hl hi rfl] at h5
        rw [if_neg hne]
        exact BSt.shut (wrAt_length hl hi rfl) h2 h5.swap
      refine bifI (fun hc => ?_) (fun hc => ?_)
      · have hne : i ≠ j := by
          rintro rfl; simp at hc
        refine ⟨_, rfl, _, by simpa using li, get h3 hi, _, rfl, step h3 (fun w2 h4 => ?_)⟩
        exact bNe (fun _ => ⟨_, rfl, fin hne h4⟩) (fun he => absurd he hne)
      · refine bNe (fun hne => ?_) (fun he => ?_)
        · refine ⟨_, rfl, _, by simpa using li, get h3 hi, _, rfl, step h3 (fun w2 h4 => ?_)⟩
          exact bNe (fun _ => ⟨_, rfl, fin hne h4⟩) (fun he => absurd he hne)
        · rw [if_pos he]
          exact ⟨rfl, BSt.shut h1 h2 h3⟩
    · rw [if_neg hj]
      have hr : mv n X i j = (X, 1) := if_neg (fun hh => hj hh.2)
      rw [hr]
      exact ⟨rfl, h0⟩
  · rw [if_neg hi]
    have hr : mv n X i j = (X, 1) := if_neg (fun hh => hi hh.1)
    rw [hr]
    exact ⟨rfl, h0⟩

end Go.Mp
