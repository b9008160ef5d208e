/- The document's answers for lang: a line, a text. -/
import Derived.Test.YticnchdegmfhlaaDoorLnT
set_option maxRecDepth 100000
namespace Go.Mp
open Go Go.Vc Go.Sp Go.Proofs Go.Ct Go.Lg

variable {E : Env} {L : List Asn} {w W : World}

def z5 : List Value := [.int .i64 0, .int .i64 0, .int .i64 0, .int .i64 0, .int .i64 0]

theorem r_step {k j p m : Nat} {ws : List Bytes} {r : Sl} {J : Int} (hJ : J = ((j + 1 : Nat) : Int)) (hm : m = j + 1) (hj : j < 4) (hn : r.n = ws.length) (h : Sep E (blk p (ps k (dv ws j)) :: rowA r 1 (strL ws) :: L) w) :
    bif (decide (((r.n : Nat) : Int) > J)) then (elAt r.p r.n J 1 fun a => ∃ x : ByteArray, w.cell? a = some (.string x) ∧ Calls P fn_millpondref21_digits #[.string x] w fun e w1 => ∃ x1 : Int, e = .returned (.int .i64 x1) ∧
      St ((⟨p, 0, none⟩ : Addr).add m) (.int .i64 x1) (fun w2 => Sep E (blk p (ps k (dv ws (j + 1))) :: rowA r 1 (strL ws) :: L) w2) w1) else Sep E (blk p (ps k (dv ws (j + 1))) :: rowA r 1 (strL ws) :: L) w := by
  subst hJ hm
  refine bGt (fun hgt => ?_) (fun hle => ?_)
  · have hlt : j + 1 < ws.length := by omega
    obtain ⟨e1, e2⟩ := dv_more hlt
    refine elS 1 h rfl hn (j + 1) rfl hlt (fun a ha => ?_)
    refine ⟨_, ha 1 h rfl, ?_⟩
    refine use (r_digits _) ?_
    rintro _ w1 ⟨rfl, rfl⟩
    refine ⟨_, rfl, ?_⟩
    rw [add_mk, Nat.zero_add, bs_mk]
    refine St.i h (by show j + 1 < 5; omega) (fun w2 h2 => ?_)
    have := ps_set k (dv ws j) (dgs (ws.getD (j + 1) [])) (by omega)
    rw [e2] at this
    rw [e1, ← this]; exact h2
  · rw [dv_less (by omega)]; exact h

theorem r_read (line : ByteArray) (hs : (bs line).length < 1000000) (h : Sep E L W) : Calls P fn_millpondref21_read #[.string line] W (Ret fun v w' => RReadEnd (bs line) v ∧ Grow W w' ∧ Sep E L w') := by
  apply of_millpondref21_read
  unfold sh_millpondref21_read
  have fin : ∀ {w' : World} {L' : List Asn} {i : Nat}, Sep (World.env W) L' w' → L'[i]? = some (old W.heap) → Grow W w' := fun hh hi => grow_old rfl hh hi
  refine Al.i (Sep.start W) (fun p1 w1 h1 => ?_)
  have h1 : Sep (World.env W) [blk p1 z5, old W.heap] w1 := h1
  refine ⟨fun r f i w' => ∃ (l : List Bytes) (a j : Nat), f = a ∧ i = j ∧ a ≤ j ∧ j ≤ (bs line).length + 1 ∧ r.n = l.length ∧ l.length ≤ j ∧
      ((j ≤ (bs line).length ∧ sp 32 (bs line) = l ++ sp 32 ((bs line).drop a) ∧ 32 ∉ ((bs line).drop a).take (j - a)) ∨ (j = (bs line).length + 1 ∧ l = sp 32 (bs line))) ∧
      Sep (World.env W) [rowA r 1 (strL l), blk p1 z5, old W.heap] w',
    fun _ _ i _ => ((bs line).length + 1 - i).toNat, ⟨[], 0, 0, rfl, rfl, Nat.le_refl _, by omega, rfl, Nat.le_refl _, .inl ⟨Nat.zero_le _, rfl, by simp⟩, rowA.none_ h1⟩, ?_⟩
  rintro _ r f i w2 ⟨l, a, j, rfl, rfl, haj, hj, hn, hlj, hor, h2⟩
  rw [← bs_len]
  refine bLe (fun hle => ?_) (fun hgt => ?_)
  · obtain ⟨hj', hsp, hno⟩ : j ≤ (bs line).length ∧ sp 32 (bs line) = l ++ sp 32 ((bs line).drop a) ∧ 32 ∉ ((bs line).drop a).take (j - a) := by
      rcases hor with hh | ⟨hh, _⟩
      · exact hh
      · omega
    refine ⟨fun b w' => b = decide (j = (bs line).length ∨ (bs line)[j]? = some 32) ∧ w' = w2, ?_, ?_⟩
    · refine bEq (fun e => ⟨by rw [decide_eq_true (.inl (by omega))], rfl⟩) (fun hne => ?_)
      obtain ⟨c, hc⟩ : ∃ c, (bs line)[j]? = some c := ⟨_, List.getElem?_eq_getElem (by omega)⟩
      refine strI j rfl hc ⟨?_, rfl⟩
      rw [hc]
      by_cases e : c = 32
      · subst e; rw [decide_eq_true (.inr rfl)]; rfl
      · rw [decide_eq_false (by rintro (hh | hh); · omega
                                · exact e (Option.some.inj hh)), beq_eq_false_iff_ne]
        intro hh
        exact e (UInt8.toNat_inj.1 (by have e9 : (32 : UInt8).toNat = 32 := rfl; omega))
    · rintro _ b w3 ⟨rfl, rfl⟩
      have hcut : ∀ (hjl : j < (bs line).length) (c : UInt8), (bs line)[j]? = some c → (bs line).drop a = ((bs line).drop a).take (j - a) ++ c :: (bs line).drop (j + 1) := by
        intro hjl c hc
        have e1 : ((bs line).drop a)[j - a]? = some c := by rw [List.getElem?_drop, show a + (j - a) = j by omega]; exact hc
        have e2 : ((bs line).drop a).drop (j - a) = c :: (bs line).drop (j + 1) := by
          rw [List.drop_drop, show a + (j - a) = j by omega]
          have hg : (bs line)[j] = c := by rw [List.getElem?_eq_getElem hjl] at hc; exact Option.some.inj hc
          rw [List.drop_eq_getElem_cons hjl, hg]
        rw [← e2, List.take_append_drop]
      refine bifI (fun hb => ?_) (fun hb => ?_)
      · have hb := of_decide_eq_true hb
        refine ⟨⟨by omega, by omega⟩, ⟨by omega, by rw [Int.toNat_natCast]; omega⟩, ?_⟩
        refine Al.i h2 (fun b4 w4 h4 => ?_)
        refine str_push hn (by omega) h4 (fun r' w5 hn5 h5 => ?_)
        rw [Int.toNat_natCast, Int.toNat_natCast, bs_sub] at h5 hn5
        rw [wrapS (by omega)]
        refine ⟨⟨_, j + 1, j + 1, rfl, rfl, Nat.le_refl _, by omega, hn5, by simp; omega, ?_, h5⟩, by dsimp only; omega⟩
        by_cases hjl : j = (bs line).length
        · refine .inr ⟨by omega, ?_⟩
          have e1 : ((bs line).drop a).take (j - a) = (bs line).drop a := List.take_of_length_le (by rw [List.length_drop]; omega)
          rw [e1] at hno ⊢
          rw [hsp, sp_miss hno]
        · have hc : (bs line)[j]? = some 32 := by
            rcases hb with hb | hb
            · exact absurd hb hjl
            · exact hb
          refine .inl ⟨by omega, ?_, by simp⟩
          have e1 := hcut (by omega) 32 hc
          have e2 : sp 32 ((bs line).drop a) = ((bs line).drop a).take (j - a) :: sp 32 ((bs line).drop (j + 1)) := by
            conv => lhs; rw [e1]
            rw [sp_hit hno]
          rw [hsp, e2]; simp
      · have hb := of_decide_eq_false hb
        have hjl : j < (bs line).length := by
          rcases Nat.lt_or_ge j (bs line).length with h' | h'
          · exact h'
          · exact absurd (.inl (by omega)) hb
        obtain ⟨c, hc⟩ : ∃ c, (bs line)[j]? = some c := ⟨_, List.getElem?_eq_getElem hjl⟩
        have hc32 : c ≠ 32 := fun e => hb (.inr (by rw [hc, e]))
        rw [wrapS (by omega)]
        refine ⟨⟨l, a, j + 1, rfl, rfl, by omega, by omega, hn, by omega, .inl ⟨by omega, hsp, ?_⟩, h2⟩, by dsimp only; omega⟩
        have e1 : ((bs line).drop a)[j - a]? = some c := by rw [List.getElem?_drop, show a + (j - a) = j by omega]; exact hc
        rw [show j + 1 - a = j - a + 1 by omega, take_succ e1]
        intro hm
        rcases List.mem_append.1 hm with hm | hm
        · exact hno hm
        · exact hc32 (List.mem_singleton.1 hm).symm
  · obtain rfl : l = sp 32 (bs line) := by
      rcases hor with ⟨hh, _⟩ | ⟨_, hh⟩
      · omega
      · exact hh
    clear hor
    have hw0 := sp_ne 32 (bs line)
    generalize hws : sp 32 (bs line) = ws at h2 hn hlj hw0
    have hpos : 0 < ws.length := by
      rcases Nat.eq_zero_or_pos ws.length with h' | h'
      · exact absurd (List.eq_nil_of_length_eq_zero h') hw0
      · exact h'
    refine ⟨fun x w' => ∃ k : Nat, x = k ∧ k ≤ 14 ∧ (∀ i, i < k → wd i ≠ ws.getD 0 []) ∧ Sep (World.env W) [rowA r 1 (strL ws), blk p1 z5, old W.heap] w', fun x _ => (14 - x).toNat, ⟨0, rfl, by omega, fun i hi => by omega, h2⟩, ?_⟩
    rintro _ x w3 ⟨k, rfl, hk, hno, h3⟩
    refine bLt (fun hlt => ?_) (fun hge => ?_)
    · have hk14 : k < 14 := by omega
      refine Dr.i h3 (fun w4 h4 => ?_)
      refine elS 0 h4 rfl hn 0 rfl hpos (fun a0 ha0 => ?_)
      refine ⟨_, ha0 0 h4 rfl, ?_⟩
      refine use (r_Words h4) ?_
      rintro _ w5 ⟨bw, rfl, _, h5⟩
      refine ⟨⟨some ⟨bw, 0, none⟩, 14, 14⟩, rfl, _, ha0 1 h5 rfl, rfl, ?_⟩
      refine elD k rfl hk14 ?_
      refine ⟨mk (wd k), ?_, ?_⟩
      · rw [Nat.mul_one]
        refine (h5.cell _).trans ?_
        have := words_at hk14
        simp [strL, strV, this]
      have h5 := h5.tail
      refine bSn (fun hne => ?_) (fun he => ?_)
      · rw [bs_mk, bs_mk] at hne
        rw [wrapS (by omega)]
        refine ⟨⟨k + 1, rfl, by omega, fun i hi => ?_, h5⟩, by dsimp only; omega⟩
        by_cases e : i = k
        · subst e; exact hne
        · exact hno i (by omega)
      rw [bs_mk, bs_mk] at he
      have hne0 : bs line ≠ [] := fun e => by
        rw [e] at hws
        have hws : [[]] = ws := hws
        rw [← hws] at he
        exact (wd_ok hk14).2.2.1 he
      refine Al.i h5 (fun p33 w6 h6 => ?_)
      refine zst _ h6 rfl (fun w7 h7 => ?_)
      have h7 : Sep (World.env W) [blk p33 (ps k (dv ws 0)), rowA r 1 (strL ws), blk p1 z5, old W.heap] w7 := h7
      refine ⟨_, r_step (j := 0) (p := p33) (m := 1) rfl rfl (by omega) hn h7, ?_⟩
      rintro _ w8 h8
      refine ⟨_, r_step (j := 1) (p := p33) (m := 2) rfl rfl (by omega) hn h8, ?_⟩
      rintro _ w9 h9
      refine ⟨_, r_step (j := 2) (p := p33) (m := 3) rfl rfl (by omega) hn h9, ?_⟩
      rintro _ w10 h10
      refine ⟨_, r_step (j := 3) (p := p33) (m := 4) rfl rfl (by omega) hn h10, ?_⟩
      rintro _ w11 h11
      have h11 : Sep (World.env W) [blk p33 (ps k (dv ws 4)), rowA r 1 (strL ws), blk p1 z5, old W.heap] w11 := h11
      refine ⟨fun b w' => b = decide (k = 2 ∧ 2 < ws.length) ∧ Sep (World.env W) [blk p33 (ps k (dv ws 4)), rowA r 1 (strL ws), blk p1 z5, old W.heap] w', ?_, ?_⟩
      · refine ⟨_, h11.cell 0, ?_⟩
        refine bEq (fun e => ⟨?_, h11⟩) (fun e => ⟨?_, h11⟩)
        · exact decide_eq_decide.2 (by omega)
        · rw [decide_eq_false (by omega)]
      rintro _ b w12 ⟨rfl, h12⟩
      refine bifI (fun hb => ?_) (fun hb => ?_)
      · obtain ⟨rfl, hlen2⟩ := of_decide_eq_true hb
        have h12 : Sep (World.env W) [blk p33 (opB (dv ws 4) ((dv ws 4).getD 1 0)).vs, rowA r 1 (strL ws), blk p1 z5, old W.heap] w12 := h12
        refine ⟨fun b w' => ∃ j : Nat, b = j ∧ j ≤ 5 ∧ (∀ i : Nat, i < j → (lineO (opB (dv ws 4) i)).getD [] ≠ bs line) ∧ ∃ y, Sep (World.env W) [blk p33 (opB (dv ws 4) y).vs, rowA r 1 (strL ws), blk p1 z5, old W.heap] w',
          fun b _ => (5 - b).toNat, ⟨0, rfl, by omega, fun i hi => by omega, _, h12⟩, ?_⟩
        rintro _ b w13 ⟨j, rfl, hj5, hall, y, h13⟩
        refine bLt (fun hlt => ?_) (fun hge => ?_)
        · refine St.i h13 (by show 2 < 5; omega) (fun w14 h14 => ?_)
          have h14 : Sep (World.env W) [blk p33 (opB (dv ws 4) j).vs, rowA r 1 (strL ws), blk p1 z5, old W.heap] w14 := h14
          refine ⟨_, h14.cell 0, _, h14.cell 1, _, h14.cell 2, _, h14.cell 3, _, h14.cell 4, ?_⟩
          refine use (r_Line (opB (dv ws 4) j) h14) ?_
          rintro _ w15 ⟨rfl, _, h15⟩
          refine ⟨_, rfl, ?_⟩
          refine bS (fun e => ?_) (fun hne => ?_)
          · rw [bs_mk] at e
            refine ⟨_, h15.cell 0, _, h15.cell 1, _, h15.cell 2, _, h15.cell 3, _, h15.cell 4, ?_⟩
            refine zst _ (h15.fr 2 rfl) rfl (fun w16 h16 => ?_)
            have g := fin (i := 3) h16 rfl
            exact ⟨_, h16.cell 0, _, h16.cell 1, _, h16.cell 2, _, h16.cell 3, _, h16.cell 4, ⟨opB (dv ws 4) j, true, rfl, fun _ => lineO_eq hne0 e, fun hh => by cases hh⟩, g, h.grow g⟩
          · rw [bs_mk] at hne
            rw [wrapS (by omega)]
            refine ⟨⟨j + 1, rfl, by omega, fun i hi => ?_, _, h15⟩, by dsimp only; omega⟩
            by_cases e : i = j
            · subst e; exact hne
            · exact hall i (by omega)
        · have e : j = 5 := by omega
          subst e
          refine ⟨_, h13.cell 0, _, h13.cell 1, _, h13.cell 2, _, h13.cell 3, _, h13.cell 4, ?_⟩
          refine zst _ (h13.fr 2 rfl) rfl (fun w16 h16 => ?_)
          have g := fin (i := 3) h16 rfl
          refine ⟨_, h16.cell 0, _, h16.cell 1, _, h16.cell 2, _, h16.cell 3, _, h16.cell 4, ⟨opB (dv ws 4) y, false, rfl, fun hh => (by cases hh), fun _ => readO_none (fun p hp e => ?_)⟩, g, h.grow g⟩
          have hkd : p.kd = 2 := wd_of hp e (k := 2) (by omega) (by rw [hws]; exact he)
          have hpe := dv_opB hp e hkd
          rw [hws] at hpe
          have hbr := hp.v 1 (by rw [hkd]; decide)
          rw [hkd] at hbr
          have hbr : 0 ≤ p.b ∧ p.b < 5 := of_decide_eq_true (show decide (0 ≤ p.b ∧ p.b < 5) = true from hbr)
          have := hall p.b.toNat (by omega)
          rw [show ((p.b.toNat : Nat) : Int) = p.b by omega, ← hpe] at this
          exact lineO_ne this hp e
      · have hb := of_decide_eq_false hb
        have h12 : Sep (World.env W) [blk p33 (opOf k (dv ws 4)).vs, rowA r 1 (strL ws), blk p1 z5, old W.heap] w12 := h12
        refine Dr.i h12 (fun w13 h13 => ?_)
        refine ⟨_, h13.cell 0, _, h13.cell 1, _, h13.cell 2, _, h13.cell 3, _, h13.cell 4, ?_⟩
        refine ⟨_, h13.cell 0, _, h13.cell 1, _, h13.cell 2, _, h13.cell 3, _, h13.cell 4, ?_⟩
        refine use (r_Line (opOf k (dv ws 4)) h13) ?_
        rintro _ w14 ⟨rfl, _, h14⟩
        refine ⟨_, rfl, ?_⟩
        refine ⟨_, h14.cell 0, _, h14.cell 1, _, h14.cell 2, _, h14.cell 3, _, h14.cell 4, rfl, ?_⟩
        refine zst _ (h14.fr 2 rfl) rfl (fun w16 h16 => ?_)
        have g := fin (i := 3) h16 rfl
        refine ⟨_, h16.cell 0, _, h16.cell 1, _, h16.cell 2, _, h16.cell 3, _, h16.cell 4, ⟨opOf k (dv ws 4), _, rfl, fun hh => ?_, fun hh => readO_none (fun p hp e => ?_)⟩, g, h.grow g⟩
        · rw [beq_bs, bs_mk] at hh
          exact lineO_eq hne0 (of_decide_eq_true hh)
        · rw [beq_bs, bs_mk] at hh
          have hkd : p.kd = k := wd_of hp e hk14 (by rw [hws]; exact he)
          have hl := (dv_of hp e (i := 0) (by omega)).1
          have hk2 : p.kd ≠ 2 := fun e2 => by
            rw [hws, e2] at hl
            have : tl 2 = 3 := rfl
            omega
          have hpe := dv_op hp e hk2
          rw [hws, hkd] at hpe
          have := of_decide_eq_false hh
          rw [← hpe] at this
          exact lineO_ne this hp e
    · have e : k = 14 := by omega
      subst e
      refine zst _ (h3.fr 1 rfl) rfl (fun w16 h16 => ?_)
      have g := fin (i := 2) h16 rfl
      refine ⟨_, h16.cell 0, _, h16.cell 1, _, h16.cell 2, _, h16.cell 3, _, h16.cell 4, ⟨⟨0, 0, 0, 0, 0⟩, false, rfl, fun hh => (by cases hh), fun _ => readO_none (fun p hp e => ?_)⟩, g, h.grow g⟩
      have e1 := hp.word
      rw [e, hws] at e1
      exact hno p.kd hp.kd e1.symm

end Go.Mp
