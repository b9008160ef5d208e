/- The other laws of bytes. -/
import Derived.Test.YtdlmhicackopnaaByL
set_option maxRecDepth 100000
namespace Go.Mp
open Go Go.Vc Go.Sp By

variable {E : Env} {L : List Asn} {w : World}

namespace By
variable {n : Nat} {X t : List UInt8} {i j : Int}

theorem pgAt_wrAt_same (h : X.length = 16 * n) (hi : pg n i) (ht : t.length = 16) : pgAt (wrAt X i t) i = t := by
  apply List.ext_getElem?
  intro k
  by_cases hk : k < 16
  · rw [pgAt_get hk, wrAt_get h hi ht, if_pos (by omega)]; congr 1; omega
  · rw [List.getElem?_eq_none (by rw [pgAt_length (wrAt_length h hi ht) hi]; omega), List.getElem?_eq_none (by omega)]
theorem pgAt_wrAt_other (h : X.length = 16 * n) (hi : pg n i) (hj : pg n j) (hne : i ≠ j) (ht : t.length = 16) : pgAt (wrAt X i t) j = pgAt X j := by
  apply List.ext_getElem?
  intro k
  by_cases hk : k < 16
  · obtain ⟨h1, h2⟩ := hi
    obtain ⟨h3, h4⟩ := hj
    rw [pgAt_get hk, pgAt_get hk, wrAt_get h ⟨h1, h2⟩ ht, if_neg (by omega)]
  · rw [List.getElem?_eq_none (by rw [pgAt_length (wrAt_length h hi ht) hj]; omega), List.getElem?_eq_none (by rw [pgAt_length h hj]; omega)]
theorem pgAt_set {a : Nat} {b : UInt8} (ha : a < 16) : pgAt (X.set (16 * i.toNat + a) b) i = (pgAt X i).set a b := by
  unfold pgAt
  rw [List.drop_set, if_neg (by omega), List.take_set]
  congr 1; omega

end By

theorem toList_extract (s : ByteArray) (a b : Nat) : (s.extract a b).toList = (s.data.toList.take b).drop a := by
  rw [ByteArray.toList_eq, ByteArray.data_extract, Array.toList_extract, List.extract]
  rw [List.drop_take]

theorem bBool {b : Bool} {A B : Prop} (h : b = true) (k : A) : bif b then A else B := by subst h; exact k

theorem law_BytesLast {W : World} (n : Int) (l : Sl) (page : Int) (text : ByteArray) (other at_ : Int) (b : UInt8) (hl : ActsAt W l.p l.n) :
    Calls P fn_millpondlaw03_BytesLast #[.int .i64 n, .slice l.p l.n l.c, .int .i64 page, .string text, .int .i64 other, .int .i64 at_, .int .u8 b.toNat] W (Ret fun v w' => v = .bool true ∧ Sep (World.env W) [old W.heap] w') := by
  apply of_millpondlaw03_BytesLast
  unfold sh_millpondlaw03_BytesLast
  refine use (c_works (Sep.start W)) ?_
  rintro _ w1 ⟨rfl, h1⟩
  refine ⟨_, rfl, bifF ?_⟩
  refine bB (fun _ => ⟨rfl, h1⟩) (fun n1 => bGt (fun _ => ⟨rfl, h1⟩) (fun n2 => bGt (fun _ => ⟨rfl, h1⟩) (fun hb => bB (fun _ => ⟨rfl, h1⟩) (fun p0 => bG (fun _ => ⟨rfl, h1⟩) (fun p1 => bB (fun _ => ⟨rfl, h1⟩) (fun o0 => bG (fun _ => ⟨rfl, h1⟩) (fun o1 => bNe (fun _ => ⟨rfl, h1⟩) (fun ht => bB (fun _ => ⟨rfl, h1⟩) (fun a0 => bGt (fun _ => ⟨rfl, h1⟩) (fun a1 => ?_))))))))))
  refine use (c_bytes_New n h1) ?_
  rintro _ w2 ⟨s, rfl, h2⟩
  have hm : min (max n 0).toNat 1024 = n.toNat := by omega
  rw [hm] at h2
  refine ⟨_, rfl, fun i w => (0 ≤ i ∧ i ≤ l.n) ∧ ∃ X, Sep (World.env W) [BSt s n.toNat X, old W.heap] w, fun i _ => (l.n - i).toNat, ⟨⟨by omega, by omega⟩, _, h2⟩, ?_⟩
  rintro _ i w4 ⟨⟨hi0, hi1⟩, X, h4⟩
  have hX : X.length = 16 * n.toNat := (BSt.open h4).choose_spec.1
  refine bB (fun hi => ?_) (fun hi => ?_)
  · obtain ⟨a, x, hp, hx⟩ := hl i.toNat (by omega)
    refine ⟨a, hp, ⟨hi0, by omega⟩, ?_⟩
    refine ⟨x.k, h4.oldCell (i := 1) rfl (hx 0 (by omega)), x.i, h4.oldCell (i := 1) rfl (hx 1 (by omega)), x.at_, h4.oldCell (i := 1) rfl (hx 2 (by omega)), x.b.toNat, h4.oldCell (i := 1) rfl (hx 3 (by omega)), x.t, h4.oldCell (i := 1) rfl (hx 4 (by omega)), ?_⟩
    refine use (c_do x h4) ?_
    rintro _ w5 ⟨rfl, h5⟩
    refine ⟨_, rfl, ?_⟩
    rw [w64 (by omega) (by omega)]
    exact ⟨⟨⟨by omega, by omega⟩, _, h5⟩, by show (l.n - (i + 1)).toNat < (l.n - i).toNat; omega⟩
  · have hp : pg n.toNat page := ⟨p0, by omega⟩
    have ho : pg n.toNat other := ⟨o0, by omega⟩
    have htl : text.data.toList.length = 16 := by
      have : text.data.toList.length = text.size := rfl
      omega
    refine use (c_bytes_Read other h4) ?_
    rintro _ w5 ⟨rfl, rfl⟩
    refine ⟨_, _, rfl, use (c_bytes_Write page text h4) ?_⟩
    rintro _ w6 ⟨rfl, h6⟩
    have ew : wr n.toNat X page text.data.toList = (wrAt X page text.data.toList, 0) := if_pos ⟨hp, htl⟩
    rw [ew] at h6 ⊢
    refine ⟨_, rfl, use (c_bytes_Read page h6) ?_⟩
    rintro _ w5 ⟨rfl, rfl⟩
    refine ⟨_, _, rfl, use (c_bytes_Read other h6) ?_⟩
    rintro _ w5 ⟨rfl, rfl⟩
    refine ⟨_, _, rfl, ?_⟩
    have e1 : ∀ {Y : List UInt8} {k : Int}, pg n.toNat k → rd n.toNat Y k = (pgAt Y k, 0) := fun h => if_pos h
    rw [e1 hp, e1 ho, e1 ho]
    refine bNe (fun h => absurd rfl h) (fun _ => bNe (fun h => absurd rfl h) (fun _ => bNe (fun h => absurd rfl h) (fun _ => ?_)))
    dsimp only
    rw [pgAt_wrAt_same hX hp htl]
    refine bifI (fun h => by simp [ByteArray.toList_eq] at h) (fun _ => ?_)
    have hX2 := wrAt_length hX hp htl
    refine bNe (fun hne => ?more) (fun _ => ?_)
    case' more =>
      refine bifI (fun h => by rw [pgAt_wrAt_other hX hp ho (Ne.symm hne) htl] at h; simp at h) (fun _ => ?_)
    all_goals
      refine use (c_bytes_Put page at_ b h6) ?_
      have ep : pt n.toNat (wrAt X page text.data.toList) page at_ b = ((wrAt X page text.data.toList).set (16 * page.toNat + at_.toNat) b, 0) := if_pos ⟨hp, by omega, by omega⟩
      rw [ep]
      rintro _ w7 ⟨rfl, h7⟩
      refine ⟨_, rfl, use (c_bytes_Read page h7) ?_⟩
      rintro _ w8 ⟨rfl, rfl⟩
      refine ⟨_, _, rfl, Dr.i h7 (fun w9 h9 => ?_)⟩
      rw [e1 hp, pgAt_set (by omega), pgAt_wrAt_same hX hp htl]
      dsimp only
      have hzl : (text.data.toList.set at_.toNat b).length = 16 := by simpa using htl
      have hsz : (⟨(text.data.toList.set at_.toNat b).toArray⟩ : ByteArray).size = 16 := hzl
      refine bifT (bEq (fun _ => bEq (fun _ => bEq (fun _ => ?_) (fun h => absurd (by rw [hsz]; rfl) h)) (fun h => absurd rfl h)) (fun h => absurd rfl h))
      refine strAt.i a0 (by omega) (fun c hc => ?_)
      have hcb : c = b := by
        have : (text.data.toList.set at_.toNat b)[at_.toNat]? = some c := hc
        rw [List.getElem?_set_self (by omega)] at this
        exact (Option.some.inj this).symm
      refine bEq (fun _ => ?_) (fun h => absurd (by rw [hcb]) h)
      have hs2 : text.size = 16 := by omega
      refine ⟨⟨a0, by omega⟩, ⟨a0, by omega⟩, ?_⟩
      rw [toList_extract, toList_extract, toList_extract, toList_extract, w64 (by omega) (by omega)]
      refine bBool ?_ ⟨⟨by omega, by omega⟩, ⟨by omega, by omega⟩, ?_, h9.tail⟩
      · show ((List.take at_.toNat (text.data.toList.set at_.toNat b)).drop 0 == _) = true
        rw [List.take_set_of_le (Nat.le_refl _)]
        simp
      · have e2 : (at_ + 1).toNat = at_.toNat + 1 := by omega
        rw [e2, hsz, hs2]
        show Value.bool (((text.data.toList.set at_.toNat b).take 16).drop (at_.toNat + 1) == _) = _
        rw [List.take_of_length_le (by omega), List.take_of_length_le (by omega), List.drop_set_of_lt (by omega)]
        simp

theorem e_rd {n : Nat} {Y : List UInt8} {k : Int} (h : pg n k) : rd n Y k = (pgAt Y k, 0) := if_pos h
theorem e_rd0 {n : Nat} {Y : List UInt8} {k : Int} (h : ¬ pg n k) : rd n Y k = ([], 1) := if_neg h

theorem bEqq {a b : Int} {A B : Prop} (h : a = b) (k : A) : bif (a == b) then A else B := bEq (fun _ => k) (fun e => absurd h e)
theorem bStr {s t : List UInt8} {A B : Prop} (h : s = t) (k : A) : bif ((⟨s.toArray⟩ : ByteArray).toList == (⟨t.toArray⟩ : ByteArray).toList) then A else B := by
  subst h; simpa using k

theorem law_BytesMoves {W : World} (n : Int) (l : Sl) (fr to other : Int) (hl : ActsAt W l.p l.n) :
    Calls P fn_millpondlaw03_BytesMoves #[.int .i64 n, .slice l.p l.n l.c, .int .i64 fr, .int .i64 to, .int .i64 other] W (Ret fun v w' => v = .bool true ∧ Sep (World.env W) [old W.heap] w') := by
  apply of_millpondlaw03_BytesMoves
  unfold sh_millpondlaw03_BytesMoves
  refine use (c_works (Sep.start W)) ?_
  rintro _ w1 ⟨rfl, h1⟩
  refine ⟨_, rfl, bifF ?_⟩
  refine bB (fun _ => ⟨rfl, h1⟩) (fun n1 => bGt (fun _ => ⟨rfl, h1⟩) (fun n2 => bGt (fun _ => ⟨rfl, h1⟩) (fun hb => ?_)))
  refine use (c_bytes_New n h1) ?_
  rintro _ w2 ⟨s, rfl, h2⟩
  have hm : min (max n 0).toNat 1024 = n.toNat := by omega
  rw [hm] at h2
  refine ⟨_, rfl, fun i w => (0 ≤ i ∧ i ≤ l.n) ∧ ∃ X, Sep (World.env W) [BSt s n.toNat X, old W.heap] w, fun i _ => (l.n - i).toNat, ⟨⟨by omega, by omega⟩, _, h2⟩, ?_⟩
  rintro _ i w4 ⟨⟨hi0, hi1⟩, X, h4⟩
  have hX : X.length = 16 * n.toNat := (BSt.open h4).choose_spec.1
  refine bB (fun hi => ?_) (fun hi => ?_)
  · obtain ⟨a, x, hp, hx⟩ := hl i.toNat (by omega)
    refine ⟨a, hp, ⟨hi0, by omega⟩, ?_⟩
    refine ⟨x.k, h4.oldCell (i := 1) rfl (hx 0 (by omega)), x.i, h4.oldCell (i := 1) rfl (hx 1 (by omega)), x.at_, h4.oldCell (i := 1) rfl (hx 2 (by omega)), x.b.toNat, h4.oldCell (i := 1) rfl (hx 3 (by omega)), x.t, h4.oldCell (i := 1) rfl (hx 4 (by omega)), ?_⟩
    refine use (c_do x h4) ?_
    rintro _ w5 ⟨rfl, h5⟩
    refine ⟨_, rfl, ?_⟩
    rw [w64 (by omega) (by omega)]
    exact ⟨⟨⟨by omega, by omega⟩, _, h5⟩, by show (l.n - (i + 1)).toNat < (l.n - i).toNat; omega⟩
  · refine use (c_bytes_Read fr h4) ?_
    rintro _ w5 ⟨rfl, rfl⟩
    refine ⟨_, _, rfl, use (c_bytes_Read other h4) ?_⟩
    rintro _ w5 ⟨rfl, rfl⟩
    refine ⟨_, _, rfl, use (c_bytes_Read to h4) ?_⟩
    rintro _ w5 ⟨rfl, rfl⟩
    refine ⟨_, _, rfl, use (c_bytes_Move fr to h4) ?_⟩
    rintro _ w6 ⟨rfl, h6⟩
    refine ⟨_, rfl, use (c_bytes_Read to h6) ?_⟩
    rintro _ w5 ⟨rfl, rfl⟩
    refine ⟨_, _, rfl, use (c_bytes_Read fr h6) ?_⟩
    rintro _ w5 ⟨rfl, rfl⟩
    refine ⟨_, _, rfl, use (c_bytes_Read other h6) ?_⟩
    rintro _ w5 ⟨rfl, rfl⟩
    refine ⟨_, _, rfl, ?_⟩
    by_cases hf : pg n.toNat fr
    · rw [e_rd hf]
      refine bNe (fun h => absurd rfl h) (fun _ => ?_)
      by_cases ht : pg n.toNat to
      · rw [e_rd ht]
        refine bNe (fun h => absurd rfl h) (fun _ => ?_)
        have em : mv n.toNat X fr to = (if fr = to then X else wrAt (wrAt X to (pgAt X fr)) fr zs, 0) := if_pos ⟨hf, ht⟩
        have hlf := pgAt_length hX hf
        have hX2 := wrAt_length hX ht hlf
        refine makeBytes.i h6 (m := 1) (sz := 1) (by_ := 1) (by kernel_rfl) (by omega) (by omega) (by omega) (by omega) (fun b w7 h7 => ?_)
        refine toStr.i zs 0 h7 rfl (by kernel_rfl) (by kernel_rfl) rfl (fun j hj => ?_) ?_
        · have e : (u8s (List.replicate ((16 : Int).toNat * 1) 0)) = u8s zs := rfl
          rw [e, u8s_get, Nat.zero_add, List.getElem?_eq_getElem hj]; rfl
        · rw [em]
          have h8 := h7.tail.tail
          refine bifT (bEqq rfl (bStr ?_ ?_))
          · by_cases he : fr = to
            · subst he; simp [e_rd hf]
            · simp only [if_neg he, e_rd ht]
              rw [pgAt_wrAt_other hX2 hf ht he rfl, pgAt_wrAt_same hX ht hlf]
          · have key : other ≠ fr → other ≠ to → (rd n.toNat (if fr = to then X else wrAt (wrAt X to (pgAt X fr)) fr zs, (0 : Int)).1 other).1 = (rd n.toNat X other).1 := by
              intro h1 h2
              by_cases he : fr = to
              · simp [he]
              · simp only [if_neg he]
                by_cases ho : pg n.toNat other
                · rw [e_rd ho, e_rd ho, pgAt_wrAt_other hX2 hf ho (Ne.symm h1) rfl, pgAt_wrAt_other hX ht ho (Ne.symm h2) hlf]
                · rw [e_rd0 ho, e_rd0 ho]
            refine bEq (fun he => ?_) (fun he => bStr ?_ ?_)
            · refine bEq (fun _ => ⟨rfl, h8⟩) (fun h1 => bEq (fun _ => ⟨rfl, h8⟩) (fun h2 => ⟨?_, h8⟩))
              rw [key h1 h2]; simp
            · simp only [if_neg he, e_rd hf]
              rw [pgAt_wrAt_same hX2 hf rfl]
            · refine bEq (fun _ => ⟨rfl, h8⟩) (fun h1 => bEq (fun _ => ⟨rfl, h8⟩) (fun h2 => ⟨?_, h8⟩))
              rw [key h1 h2]; simp
      · have em : mv n.toNat X fr to = (X, 1) := if_neg (fun h => ht h.2)
        rw [e_rd0 ht, em]
        refine bNe (fun _ => ?_) (fun h => absurd h (by decide))
        exact bifT (bEqq rfl ⟨by simp, h6.tail⟩)
    · have em : mv n.toNat X fr to = (X, 1) := if_neg (fun h => hf h.1)
      rw [em, e_rd0 hf]
      refine bNe (fun _ => ?_) (fun h => absurd h (by decide))
      exact bifT (bEqq rfl ⟨by simp, h6.tail⟩)

theorem law_BytesByte {W : World} (n : Int) (l : Sl) (page : Int) (hl : ActsAt W l.p l.n) :
    Calls P fn_millpondlaw03_BytesByte #[.int .i64 n, .slice l.p l.n l.c, .int .i64 page] W (Ret fun v w' => v = .bool true ∧ Sep (World.env W) [old W.heap] w') := by
  apply of_millpondlaw03_BytesByte
  unfold sh_millpondlaw03_BytesByte
  refine use (c_works (Sep.start W)) ?_
  rintro _ w1 ⟨rfl, h1⟩
  refine ⟨_, rfl, bifF ?_⟩
  refine bB (fun _ => ⟨rfl, h1⟩) (fun n1 => bGt (fun _ => ⟨rfl, h1⟩) (fun n2 => bGt (fun _ => ⟨rfl, h1⟩) (fun hb => bB (fun _ => ⟨rfl, h1⟩) (fun p0 => bG (fun _ => ⟨rfl, h1⟩) (fun p1 => ?_)))))
  refine use (c_bytes_New n h1) ?_
  rintro _ w2 ⟨s, rfl, h2⟩
  have hm : min (max n 0).toNat 1024 = n.toNat := by omega
  rw [hm] at h2
  refine ⟨_, rfl, fun i w => (0 ≤ i ∧ i ≤ l.n) ∧ ∃ X, Sep (World.env W) [BSt s n.toNat X, old W.heap] w, fun i _ => (l.n - i).toNat, ⟨⟨by omega, by omega⟩, _, h2⟩, ?_⟩
  rintro _ i w4 ⟨⟨hi0, hi1⟩, X, h4⟩
  have hX : X.length = 16 * n.toNat := (BSt.open h4).choose_spec.1
  refine bB (fun hi => ?_) (fun hi => ?_)
  · obtain ⟨a, x, hp, hx⟩ := hl i.toNat (by omega)
    refine ⟨a, hp, ⟨hi0, by omega⟩, ?_⟩
    refine ⟨x.k, h4.oldCell (i := 1) rfl (hx 0 (by omega)), x.i, h4.oldCell (i := 1) rfl (hx 1 (by omega)), x.at_, h4.oldCell (i := 1) rfl (hx 2 (by omega)), x.b.toNat, h4.oldCell (i := 1) rfl (hx 3 (by omega)), x.t, h4.oldCell (i := 1) rfl (hx 4 (by omega)), ?_⟩
    refine use (c_do x h4) ?_
    rintro _ w5 ⟨rfl, h5⟩
    refine ⟨_, rfl, ?_⟩
    rw [w64 (by omega) (by omega)]
    exact ⟨⟨⟨by omega, by omega⟩, _, h5⟩, by show (l.n - (i + 1)).toNat < (l.n - i).toNat; omega⟩
  · have hp : pg n.toNat page := ⟨p0, by omega⟩
    refine use (c_bytes_Read page h4) ?_
    rintro _ w5 ⟨rfl, rfl⟩
    refine ⟨_, _, rfl, ?_⟩
    rw [e_rd hp]
    have hlp := pgAt_length hX hp
    have hsz : (⟨(pgAt X page).toArray⟩ : ByteArray).size = 16 := hlp
    refine bNe (fun h => absurd rfl h) (fun _ => bNe (fun h => absurd (by dsimp only; rw [hsz]; rfl) h) (fun _ => ?_))
    refine ⟨fun k w => (-1 ≤ k ∧ k ≤ 17) ∧ Sep (World.env W) [BSt s n.toNat X, old W.heap] w, fun k _ => (17 - k).toNat, ⟨⟨by omega, by omega⟩, h4⟩, ?_⟩
    rintro _ k w6 ⟨⟨hk0, hk1⟩, h6⟩
    have next : (IntKind.i64.wrap (k + 1)) = k + 1 := w64 (by omega) (by omega)
    refine bB (fun hk => ?_) (fun hk => ⟨rfl, h6.tail⟩)
    refine use (c_bytes_Get page k h6) ?_
    rintro _ w7 ⟨rfl, rfl⟩
    refine ⟨_, _, rfl, ?_⟩
    have e0 : ¬ (0 ≤ k ∧ k < 16) → gt n.toNat X page k = (0, 1) := fun h => if_neg (fun hh => h hh.2)
    refine bB (fun hn => ?_) (fun hn => bGt (fun hn2 => ?_) (fun hn2 => ?_))
    · rw [e0 (by omega)]
      refine bNe (fun h => absurd rfl h) (fun _ => bNe (fun h => absurd rfl h) (fun _ => ?_))
      rw [next]; exact ⟨⟨⟨by omega, by omega⟩, h6⟩, by show (17 - (k + 1)).toNat < (17 - k).toNat; omega⟩
    · rw [e0 (by omega)]
      refine bNe (fun h => absurd rfl h) (fun _ => bNe (fun h => absurd rfl h) (fun _ => ?_))
      rw [next]; exact ⟨⟨⟨by omega, by omega⟩, h6⟩, by show (17 - (k + 1)).toNat < (17 - k).toNat; omega⟩
    · have e1 : gt n.toNat X page k = (X.getD (16 * page.toNat + k.toNat) 0, 0) := if_pos ⟨hp, by omega, by omega⟩
      rw [e1]
      refine bNe (fun h => absurd rfl h) (fun _ => strAt.i (by omega) (by omega) (fun c hc => ?_))
      have hc' : (pgAt X page)[k.toNat]? = some c := hc
      rw [pgAt_get (by omega)] at hc'
      refine bNe (fun h => absurd (by simp [List.getD, hc']) h) (fun _ => ?_)
      rw [next]; exact ⟨⟨⟨by omega, by omega⟩, h6⟩, by show (17 - (k + 1)).toNat < (17 - k).toNat; omega⟩

end Go.Mp
