/- What each function of the document's answer for bytes does. -/
import Derived.Test.YtdlmhicackopnaaByC
set_option maxRecDepth 100000
namespace Go.Mp
open Go Go.Vc Go.Sp By

variable {E : Env} {L : List Asn} {w : World}

/-- The row of all bytes. -/
def RSt (s n : Nat) (X : List UInt8) : Asn :=
  exA fun bl : Nat => pur (X.length = 16 * n ∧ n ≤ 1024) (star (blk s [.slice (some ⟨bl, 0, none⟩) (16 * n) (16 * n)]) (blk bl (u8s X)))

theorem RSt.open {s n : Nat} {X : List UInt8} (h : Sep E (RSt s n X :: L) w) :
    ∃ bl : Nat, X.length = 16 * n ∧ n ≤ 1024 ∧ Sep E (blk s [.slice (some ⟨bl, 0, none⟩) (16 * n) (16 * n)] :: blk bl (u8s X) :: L) w := by
  obtain ⟨bl, h⟩ := Sep.ex.1 h
  obtain ⟨⟨h1, h2⟩, h⟩ := Sep.pur.1 h
  exact ⟨bl, h1, h2, Sep.star.1 h⟩
theorem RSt.shut {s n bl : Nat} {X : List UInt8} (h1 : X.length = 16 * n) (h2 : n ≤ 1024) (h : Sep E (blk s [.slice (some ⟨bl, 0, none⟩) (16 * n) (16 * n)] :: blk bl (u8s X) :: L) w) : Sep E (RSt s n X :: L) w :=
  Sep.ex.2 ⟨bl, Sep.pur.2 ⟨⟨h1, h2⟩, Sep.star.2 h⟩⟩

theorem c_r_New (n : Int) (h : Sep E L w) :
    Calls P fn_millpondref03_New #[.int .i64 n] w (Ret fun v w' => ∃ s, v = .pointer (some ⟨s, 0, none⟩) ∧ Sep E (RSt s (min (max n 0).toNat 1024) (List.replicate (16 * min (max n 0).toNat 1024) 0) :: L) w') := by
  apply of_millpondref03_New
  unfold sh_millpondref03_New
  rw [min_max]
  generalize hm : min (max n 0).toNat 1024 = m
  have hm' : m ≤ 1024 := by omega
  rw [w64 (by omega) (by omega)]
  refine makeBytes.i h (m := 1) (sz := 1) (by_ := 1) (by kernel_rfl) (by omega) (by omega) (by omega) (by omega) (fun b w1 h1 => ?_)
  refine Al.i h1 (fun s w2 h2 => ?_)
  refine ⟨s, rfl, RSt.shut (bl := b) (by simp) hm' ?_⟩
  have e : (16 * (m : Int)).toNat = 16 * m := by omega
  simp only [e, Nat.mul_one] at h2
  exact h2

theorem c_r_page {s n : Nat} {X : List UInt8} (i : Int) (h : Sep E (RSt s n X :: L) w) :
    Calls P fn_millpondref03_Store_page #[.pointer (some ⟨s, 0, none⟩), .int .i64 i] w (Ret fun v w' => w' = w ∧ v = .bool (decide (pg n i))) := by
  obtain ⟨bl, h1, h2, h⟩ := RSt.open h
  apply of_millpondref03_Store_page
  unfold sh_millpondref03_Store_page
  refine bG (fun hc => ?_) (fun hc => ?_)
  · refine ⟨_, rfl, ⟨_, _, _⟩, (h.cell _).trans rfl, by decide, rfl, ?_⟩
    have e : (((16 * n : Nat) : Int)).tdiv 16 = n := by
      rw [Int.tdiv_eq_ediv_of_nonneg (by omega)]; omega
    dsimp only
    rw [e, w64 (by omega) (by omega)]
    rw [show decide (i < (n : Int)) = decide (pg n i) from decide_eq_decide.2 ⟨fun h => ⟨hc, h⟩, fun h => h.2⟩]
  · refine ⟨rfl, ?_⟩
    have : ¬ pg n i := fun hh => by have := hh.1; omega
    simp [this]

theorem c_r_Read {s n : Nat} {X : List UInt8} (i : Int) (h : Sep E (RSt s n X :: L) w) :
    Calls P fn_millpondref03_Store_Read #[.pointer (some ⟨s, 0, none⟩), .int .i64 i] w (Ret fun v w' => w' = w ∧ v = .tuple #[.string ⟨(rd n X i).1.toArray⟩, .int .i64 (rd n X i).2]) := by
  apply of_millpondref03_Store_Read
  unfold sh_millpondref03_Store_Read
  refine use (c_r_page i h) ?_
  rintro _ w1 ⟨rfl, rfl⟩
  refine ⟨_, rfl, ?_⟩
  obtain ⟨bl, h1, h2, h⟩ := RSt.open h
  by_cases hi : pg n i
  · rw [decide_eq_true hi]
    obtain ⟨hx, hy⟩ := hi
    have hr : rd n X i = (pgAt X i, 0) := if_pos ⟨hx, hy⟩
    rw [hr]
    rw [w64 (n := 16 * i) (by omega) (by omega), w64 (by omega) (by omega)]
    refine bifF ⟨_, rfl, ⟨_, _, _⟩, (h.cell _).trans rfl, ⟨by omega, by dsimp only; omega⟩, ⟨by omega, by omega⟩, ?_⟩
    have e1 : (16 * i + 16).toNat - (16 * i).toNat = 16 := by omega
    have e2 : (16 * i).toNat = 16 * i.toNat := by omega
    dsimp only
    rw [e1, e2]
    have e3 : slA (some ⟨bl, 0, none⟩) (16 * i.toNat) (16 * n) 1 = some ⟨bl, 16 * i.toNat, none⟩ := by
      unfold slA; split
      · omega
      · simp
    rw [e3]
    refine toStr.i (pgAt X i) 1 h rfl (by kernel_rfl) (by kernel_rfl) (pgAt_length h1 ⟨hx, hy⟩) (fun j hj => ?_) ⟨rfl, rfl⟩
    have hj' := hj
    rw [pgAt_length h1 ⟨hx, hy⟩] at hj'
    rw [u8s_get, ← pgAt_get hj', List.getElem?_eq_getElem hj]; rfl
  · rw [decide_eq_false hi]
    have hr : rd n X i = ([], 1) := if_neg hi
    rw [hr]
    exact ⟨rfl, rfl⟩

theorem c_r_Get {s n : Nat} {X : List UInt8} (i a : Int) (h : Sep E (RSt s n X :: L) w) :
    Calls P fn_millpondref03_Store_Get #[.pointer (some ⟨s, 0, none⟩), .int .i64 i, .int .i64 a] w (Ret fun v w' => w' = w ∧ v = .tuple #[.int .u8 (gt n X i a).1.toNat, .int .i64 (gt n X i a).2]) := by
  apply of_millpondref03_Store_Get
  unfold sh_millpondref03_Store_Get
  refine use (c_r_page i h) ?_
  rintro _ w1 ⟨rfl, rfl⟩
  refine ⟨_, rfl, ?_⟩
  obtain ⟨bl, h1, h2, h⟩ := RSt.open h
  by_cases hi : pg n i
  · rw [decide_eq_true hi]
    obtain ⟨hx, hy⟩ := hi
    refine bifF (bB (fun hc => ?_) (fun hc => bGt (fun hc2 => ?_) (fun hc2 => ?_)))
    · have hr : gt n X i a = (0, 1) := if_neg (by omega)
      rw [hr]; exact ⟨rfl, rfl⟩
    · have hr : gt n X i a = (0, 1) := if_neg (by omega)
      rw [hr]; exact ⟨rfl, rfl⟩
    · have hr : gt n X i a = (X.getD (16 * i.toNat + a.toNat) 0, 0) := if_pos ⟨⟨hx, hy⟩, hc, by omega⟩
      rw [hr, w64 (n := 16 * i) (by omega) (by omega), w64 (by omega) (by omega)]
      have hlt : 16 * i.toNat + a.toNat < X.length := by omega
      refine ⟨_, rfl, ⟨_, _, _⟩, (h.cell _).trans rfl, _, rfl, ⟨by omega, by dsimp only; omega⟩, (X[16 * i.toNat + a.toNat].toNat : Int), ?_, rfl, ?_⟩
      · have e : 0 + (16 * i + a).toNat * 1 = 16 * i.toNat + a.toNat := by omega
        rw [add_mk, h.cellAt 1 rfl, u8s_get, e, List.getElem?_eq_getElem hlt]; rfl
      · simp [List.getD, hlt]
  · rw [decide_eq_false hi]
    have hr : gt n X i a = (0, 1) := if_neg (fun hh => hi hh.1)
    rw [hr]
    exact ⟨rfl, rfl⟩

theorem c_r_Put {s n : Nat} {X : List UInt8} (i a : Int) (b : UInt8) (h : Sep E (RSt s n X :: L) w) :
    Calls P fn_millpondref03_Store_Put #[.pointer (some ⟨s, 0, none⟩), .int .i64 i, .int .i64 a, .int .u8 b.toNat] w (Ret fun v w' => v = .int .i64 (pt n X i a b).2 ∧ Sep E (RSt s n (pt n X i a b).1 :: L) w') := by
  have h0 := h
  apply of_millpondref03_Store_Put
  unfold sh_millpondref03_Store_Put
  refine use (c_r_page i h) ?_
  rintro _ w1 ⟨rfl, rfl⟩
  refine ⟨_, rfl, ?_⟩
  obtain ⟨bl, h1, h2, h⟩ := RSt.open h
  by_cases hi : pg n i
  · rw [decide_eq_true hi]
    obtain ⟨hx, hy⟩ := hi
    refine bifF (bB (fun hc => ?_) (fun hc => bGt (fun hc2 => ?_) (fun hc2 => ?_)))
    · have hr : pt n X i a b = (X, 1) := if_neg (by omega)
      rw [hr]; exact ⟨rfl, h0⟩
    · have hr : pt n X i a b = (X, 1) := if_neg (by omega)
      rw [hr]; exact ⟨rfl, h0⟩
    · have hr : pt n X i a b = (X.set (16 * i.toNat + a.toNat) b, 0) := if_pos ⟨⟨hx, hy⟩, hc, by omega⟩
      rw [hr, w64 (n := 16 * i) (by omega) (by omega), w64 (by omega) (by omega)]
      refine ⟨_, rfl, ⟨_, _, _⟩, (h.cell _).trans rfl, _, rfl, ⟨by omega, by dsimp only; omega⟩, ?_⟩
      have e : 0 + (16 * i + a).toNat * 1 = 16 * i.toNat + a.toNat := by omega
      rw [add_mk, e]
      refine St.i h.swap (by simp; omega) (fun w1 h3 => ⟨rfl, ?_⟩)
      rw [u8s_set] at h3
      exact RSt.shut (by simpa using h1) h2 h3.swap
  · rw [decide_eq_false hi]
    have hr : pt n X i a b = (X, 1) := if_neg (fun hh => hi hh.1)
    rw [hr]
    exact ⟨rfl, h0⟩

/-- So much of a page is written. -/
def wrK (X : List UInt8) (i : Int) (t : List UInt8) (k : Nat) : List UInt8 := X.take (16 * i.toNat) ++ t.take k ++ X.drop (16 * i.toNat + k)

theorem wrK_zero (X : List UInt8) (i : Int) (t : List UInt8) : wrK X i t 0 = X := by simp [wrK]
theorem wrK_all (X : List UInt8) (i : Int) (t : List UInt8) (ht : t.length = 16) : wrK X i t 16 = wrAt X i t := by
  unfold wrK wrAt; rw [List.take_of_length_le (l := t) (by omega)]
theorem wrK_length {n : Nat} {X : List UInt8} {i : Int} {t : List UInt8} {k : Nat} (h : X.length = 16 * n) (hi : pg n i) (ht : t.length = 16) (hk : k ≤ 16) : (wrK X i t k).length = 16 * n := by
  obtain ⟨h1, h2⟩ := hi
  simp only [wrK, List.length_append, List.length_take, List.length_drop]; omega
theorem wrK_succ {n : Nat} {X : List UInt8} {i : Int} {t : List UInt8} {k : Nat} (h : X.length = 16 * n) (hi : pg n i) (ht : t.length = 16) (hk : k < 16) : (wrK X i t k).set (16 * i.toNat + k) (t[k]'(by omega)) = wrK X i t (k + 1) := by
  obtain ⟨h1, h2⟩ := hi
  unfold wrK
  have l1 : (X.take (16 * i.toNat) ++ t.take k).length = 16 * i.toNat + k := by simp; omega
  rw [List.set_append_right _ _ (by omega), l1, Nat.sub_self, List.drop_eq_getElem_cons (show 16 * i.toNat + k < X.length by omega), List.set_cons_zero]
  have e : t.take (k + 1) = t.take k ++ [t[k]'(by omega)] := by rw [List.take_add_one, List.getElem?_eq_getElem (by omega)]; rfl
  rw [e, Nat.add_assoc]; simp only [List.append_assoc, List.cons_append, List.nil_append]

theorem strAt.i {s : ByteArray} {i : Int} {f : Int → Prop} (h0 : 0 ≤ i) (h1 : i.toNat < s.size) (k : ∀ b : UInt8, s.data.toList[i.toNat]? = some b → f (b.toNat : Int)) : strAt s i f := by
  have hl : i.toNat < s.data.toList.length := h1
  refine ⟨h0, s.data.toList[i.toNat], ?_, k _ (List.getElem?_eq_getElem hl)⟩
  show (if h : i.toNat < s.size then some (s.get i.toNat h) else none) = _
  rw [dif_pos h1]; rfl

theorem c_r_Write {s n : Nat} {X : List UInt8} (i : Int) (t : ByteArray) (h : Sep E (RSt s n X :: L) w) :
    Calls P fn_millpondref03_Store_Write #[.pointer (some ⟨s, 0, none⟩), .int .i64 i, .string t] w (Ret fun v w' => v = .int .i64 (wr n X i t.data.toList).2 ∧ Sep E (RSt s n (wr n X i t.data.toList).1 :: L) w') := by
  have h0 := h
  apply of_millpondref03_Store_Write
  unfold sh_millpondref03_Store_Write
  refine use (c_r_page i h) ?_
  rintro _ w1 ⟨rfl, rfl⟩
  refine ⟨_, rfl, ?_⟩
  obtain ⟨bl, h1, h2, h⟩ := RSt.open h
  have hsz : t.data.toList.length = t.size := rfl
  by_cases hi : pg n i
  · rw [decide_eq_true hi]
    have hx := hi.1
    have hy := hi.2
    refine bifF (bNe (fun hc => ?_) (fun hc => ?_))
    · have hr : wr n X i t.data.toList = (X, 1) := if_neg (fun hh => by have := hh.2; omega)
      rw [hr]; exact ⟨rfl, h0⟩
    · have ht : t.data.toList.length = 16 := by omega
      have hr : wr n X i t.data.toList = (wrAt X i t.data.toList, 0) := if_pos ⟨hi, ht⟩
      rw [hr]
      refine ⟨fun k w => (0 ≤ k ∧ k ≤ 16) ∧ Sep E (blk s [.slice (some ⟨bl, 0, none⟩) (16 * n) (16 * n)] :: blk bl (u8s (wrK X i t.data.toList k.toNat)) :: L) w, fun k _ => (16 - k).toNat, ⟨⟨by omega, by omega⟩, by simpa [wrK_zero] using h⟩, ?_⟩
      rintro _ k w2 ⟨⟨hk0, hk1⟩, h3⟩
      refine bB (fun hk => ?_) (fun hk => ?_)
      · refine Dr.i h3 (fun w3 h4 => ?_)
        refine ⟨_, rfl, ⟨_, _, _⟩, (h4.cell _).trans rfl, ?_⟩
        refine strAt.i hk0 (by omega) (fun b hb => ?_)
        rw [w64 (n := 16 * i) (by omega) (by omega), w64 (by omega) (by omega)]
        refine ⟨_, rfl, ⟨by omega, by dsimp only; omega⟩, ?_⟩
        have e : 0 + (16 * i + k).toNat * 1 = 16 * i.toNat + k.toNat := by omega
        rw [add_mk, e]
        refine St.i h4.swap (by rw [u8s_length, wrK_length h1 hi ht (by omega)]; omega) (fun w4 h5 => ?_)
        rw [w64 (by omega) (by omega)]
        refine ⟨⟨⟨by omega, by omega⟩, ?_⟩, by show (16 - (k + 1)).toNat < (16 - k).toNat; omega⟩
        have hb' : t.data.toList[k.toNat]'(by omega) = b := by
          rw [List.getElem?_eq_getElem (by omega)] at hb; exact Option.some.inj hb
        rw [u8s_set, ← hb', wrK_succ h1 hi ht (by omega)] at h5
        have e2 : (k + 1).toNat = k.toNat + 1 := by omega
        rw [e2]
        exact h5.swap
      · have e : k.toNat = 16 := by omega
        rw [e, wrK_all _ _ _ ht] at h3
        exact ⟨rfl, RSt.shut (wrAt_length h1 hi ht) h2 h3⟩
  · rw [decide_eq_false hi]
    have hr : wr n X i t.data.toList = (X, 1) := if_neg (fun hh => hi hh.1)
    rw [hr]
    exact ⟨rfl, h0⟩

theorem c_r_Clear {s n : Nat} {X : List UInt8} (i : Int) (h : Sep E (RSt s n X :: L) w) :
    Calls P fn_millpondref03_Store_Clear #[.pointer (some ⟨s, 0, none⟩), .int .i64 i] w (Ret fun v w' => v = .int .i64 (cl n X i).2 ∧ Sep E (RSt s n (cl n X i).1 :: L) w') := by
  apply of_millpondref03_Store_Clear
  unfold sh_millpondref03_Store_Clear
  refine makeBytes.i h (m := 1) (sz := 1) (by_ := 1) (by kernel_rfl) (by omega) (by omega) (by omega) (by omega) (fun b w1 h1 => ?_)
  refine toStr.i zs 0 h1 rfl (by kernel_rfl) (by kernel_rfl) rfl (fun j hj => ?_) ?_
  · have e : (u8s (List.replicate ((16 : Int).toNat * 1) 0)) = u8s zs := rfl
    rw [e, u8s_get, Nat.zero_add, List.getElem?_eq_getElem hj]; rfl
  · refine use (c_r_Write i ⟨zs.toArray⟩ h1.tail) ?_
    rintro _ w2 ⟨rfl, h2⟩
    exact ⟨_, rfl, rfl, h2⟩

theorem c_r_Move {s n : Nat} {X : List UInt8} (i j : Int) (h : Sep E (RSt s n X :: L) w) :
    Calls P fn_millpondref03_Store_Move #[.pointer (some ⟨s, 0, none⟩), .int .i64 i, .int .i64 j] w (Ret fun v w' => v = .int .i64 (mv n X i j).2 ∧ Sep E (RSt s n (mv n X i j).1 :: L) w') := by
  apply of_millpondref03_Store_Move
  unfold sh_millpondref03_Store_Move
  refine use (c_r_page i h) ?_
  rintro _ w1 ⟨rfl, rfl⟩
  refine ⟨_, rfl, ?_⟩
  by_cases hi : pg n i
  · rw [decide_eq_true hi]
    refine bifF (use (c_r_page j h) ?_)
    rintro _ w1 ⟨rfl, rfl⟩
    refine ⟨_, rfl, ?_⟩
    by_cases hj : pg n j
    · rw [decide_eq_true hj]
      have hr : mv n X i j = (if i = j then X else wrAt (wrAt X j (pgAt X i)) i zs, 0) := if_pos ⟨hi, hj⟩
      rw [hr]
      refine bifF (bNe (fun hne => ?_) (fun he => ?_))
      · rw [if_neg hne]
        refine use (c_r_Read i h) ?_
        rintro _ w1 ⟨rfl, rfl⟩
        refine ⟨_, _, rfl, use (c_r_Write j _ h) ?_⟩
        rintro _ w2 ⟨rfl, h2⟩
        refine ⟨_, rfl, ?_⟩
        obtain ⟨bl, h1, _, _⟩ := RSt.open h
        have li := pgAt_length h1 hi
        have e1 : rd n X i = (pgAt X i, 0) := if_pos hi
        have e2 : wr n X j (pgAt X i) = (wrAt X j (pgAt X i), 0) := if_pos ⟨hj, li⟩
        rw [e1] at h2
        have e3 : (⟨(pgAt X i).toArray⟩ : ByteArray).data.toList = pgAt X i := rfl
        rw [e3, e2] at h2
        refine use (c_r_Clear i h2) ?_
        rintro _ w3 ⟨rfl, h3⟩
        have e4 : cl n (wrAt X j (pgAt X i)) i = (wrAt (wrAt X j (pgAt X i)) i zs, 0) := if_pos ⟨hi, rfl⟩
        rw [e4] at h3
        exact ⟨_, rfl, rfl, h3⟩
      · rw [if_pos he]; exact ⟨rfl, h⟩
    · rw [decide_eq_false hj]
      have hr : mv n X i j = (X, 1) := if_neg (fun hh => hj hh.2)
      rw [hr]; exact ⟨rfl, h⟩
  · rw [decide_eq_false hi]
    have hr : mv n X i j = (X, 1) := if_neg (fun hh => hi hh.1)
    rw [hr]; exact ⟨rfl, h⟩

end Go.Mp
