/- The document's answers for lang: a text. -/
import Derived.Test.YticnchdegmfhlaaDoorLnU
set_option maxRecDepth 100000
namespace Go.Mp
open Go Go.Vc Go.Sp Go.Proofs Go.Ct Go.Lg

variable {E : Env} {L : List Asn} {w W : World}

theorem r_Parse (text : ByteArray) (ht : (bs text).length < 1000000) (h : Sep E L W) : Calls P fn_millpondref21_Parse #[.string text] W (Ret fun v w' => ParseEnd (bs text) v w' ∧ Grow W w' ∧ Sep E L w') := by
  apply of_millpondref21_Parse
  unfold sh_millpondref21_Parse
  have fin : ∀ {w' : World} {L' : List Asn} {i : Nat}, Sep (World.env W) L' w' → L'[i]? = some (old W.heap) → Grow W w' := fun hh hi => grow_old rfl hh hi
  refine ⟨fun x line n i w' => ∃ (l : List Lg.Op) (k j : Nat), n = k ∧ i = j ∧ j ≤ (bs text).length ∧ k ≤ j + 1 ∧ (bs line).length ≤ j ∧ 10 ∉ bs line ∧ Lg.parse (bs text) = go l k (sp 10 (bs line ++ (bs text).drop j)) ∧ x.n = l.length ∧ l.length ≤ 1000 ∧
      Sep (World.env W) [rowA x 5 (recs Lg.Op.vs l), old W.heap] w',
    fun _ _ _ i _ => ((bs text).length - i).toNat, ⟨[], 1, 0, rfl, rfl, Nat.zero_le _, by omega, Nat.zero_le _, by simp, rfl, rfl, by simp, rowA.none_ (Sep.start W)⟩, ?_⟩
  rintro _ x line n i w1 ⟨l, k, j, rfl, rfl, hj, hk, hll, hno, hgo, hxn, hl, h1⟩
  rw [← bs_len]
  refine bLt (fun hlt => ?_) (fun hge => ?_)
  · have hlt : j < (bs text).length := by omega
    obtain ⟨c, hc⟩ : ∃ c, (bs text)[j]? = some c := ⟨_, List.getElem?_eq_getElem hlt⟩
    have hdrop : (bs text).drop j = c :: (bs text).drop (j + 1) := by
      have hg : (bs text)[j] = c := by rw [List.getElem?_eq_getElem hlt] at hc; exact Option.some.inj hc
      rw [List.drop_eq_getElem_cons hlt, hg]
    refine strI j rfl hc ?_
    rw [wrapS (by omega)]
    refine bNe (fun hne => ?_) (fun he => ?_)
    · have hc10 : c ≠ 10 := fun e => hne (by rw [e]; rfl)
      have e1 : bs (text.extract (j : Int).toNat (((j + 1 : Nat) : Int)).toNat) = [c] := by
        rw [Int.toNat_natCast, Int.toNat_natCast, bs_sub, show j + 1 - j = 1 by omega, hdrop]; rfl
      have e2 : (text.extract (j : Int).toNat (((j + 1 : Nat) : Int)).toNat).size = 1 := by rw [← bs_len, e1]; rfl
      have e3 := bs_len line
      refine ⟨⟨by omega, by omega⟩, ⟨by omega, by rw [Int.toNat_natCast]; omega⟩, by omega, ⟨l, k, j + 1, rfl, rfl, by omega, by omega, ?_, ?_, ?_, hxn, hl, h1⟩, by dsimp only; omega⟩
      · rw [bs_append, e1, List.length_append]; show _ + 1 ≤ _; omega
      · rw [bs_append, e1]
        intro hm
        rcases List.mem_append.1 hm with hm | hm
        · exact hno hm
        · exact hc10 (List.mem_singleton.1 hm).symm
      · rw [hgo, hdrop, bs_append, e1]; simp
    · have hc10 : c = 10 := UInt8.toNat_inj.1 (by have e9 : (10 : UInt8).toNat = 10 := rfl; omega)
      subst hc10
      rw [hdrop] at hgo
      refine ⟨fun b w' => b = !(skip (bs line)) ∧ w' = w1, ?_, ?_⟩
      · refine bSn (fun hne => ?_) (fun he => ⟨?_, rfl⟩)
        · have hne : bs line ≠ [] := hne
          obtain ⟨d, r, ed⟩ := List.exists_cons_of_ne_nil hne
          refine strI 0 rfl (c := d) (by rw [ed]; rfl) ⟨?_, rfl⟩
          rw [ed]
          by_cases e35 : d = 35
          · subst e35; rfl
          · have : ((d.toNat : Int) != 35) = true := by
              rw [bne_iff_ne]
              intro hh
              exact e35 (UInt8.toNat_inj.1 (by have e9 : (35 : UInt8).toNat = 35 := rfl; omega))
            rw [this]
            simp [skip, e35]
        · have he : bs line = [] := he
          rw [he]; rfl
      · rintro _ b w2 ⟨rfl, rfl⟩
        have e0 : bs (ByteArray.mk #[]) = [] := rfl
        refine bifI (fun hb => ?_) (fun hb => ?_)
        · have hs : skip (bs line) = false := by simpa using hb
          refine use (r_read line (by omega) h1) ?_
          rintro _ w3 ⟨⟨o, r, rfl, hr1, hr2⟩, _, h3⟩
          refine ⟨_, _, _, _, _, r, rfl, ?_⟩
          refine Al.i h3 (fun p23 w4 h4 => ?_)
          refine zst _ h4 rfl (fun w5 h5 => ?_)
          have h5 : Sep (World.env W) [blk p23 o.vs, rowA x 5 (recs Lg.Op.vs l), old W.heap] w5 := h5
          have g5 := fin (i := 2) h5 rfl
          refine ⟨fun w' => r = true ∧ l.length < 1000 ∧ Sep (World.env W) [blk p23 o.vs, rowA x 5 (recs Lg.Op.vs l), old W.heap] w', ?_, ?_⟩
          · refine bifI (fun hr => ⟨ParseEnd.bad (hgo.trans (go_bad hno hs (.inr (hr2 (by simpa using hr))))) rfl, g5, h.grow g5⟩) (fun hr => ?_)
            refine bGe (fun hg => ⟨ParseEnd.bad (hgo.trans (go_bad hno hs (.inl (by omega)))) rfl, g5, h.grow g5⟩) (fun hg => ⟨by simpa using hr, by omega, h5⟩)
          · rintro _ w6 ⟨hr, hl1000, h6⟩
            refine ⟨_, h6.cell 0, _, h6.cell 1, _, h6.cell 2, _, h6.cell 3, _, h6.cell 4, ?_⟩
            refine Al.i h6.tail (fun p34 w7 h7 => ?_)
            have h7 : Sep (World.env W) [blk p34 o.vs, rowA x 5 (recs Lg.Op.vs l), old W.heap] w7 := h7
            refine op_push hxn (by omega) h7 (fun x' w8 hn8 h8 => ?_)
            rw [wrapS (by omega)]
            refine ⟨⟨l ++ [o], k + 1, j + 1, rfl, rfl, by omega, by omega, Nat.zero_le _, by simp, ?_, hn8, by simp; omega, h8⟩, by dsimp only; omega⟩
            rw [hgo, go_read hno hs hl1000 (hr1 hr), e0, List.nil_append]
        · have hs : skip (bs line) = true := by simpa using hb
          rw [wrapS (by omega)]
          refine ⟨⟨l, k + 1, j + 1, rfl, rfl, by omega, by omega, Nat.zero_le _, by simp, ?_, hxn, hl, h1⟩, by dsimp only; omega⟩
          rw [hgo, go_skip hno hs, e0, List.nil_append]
  · have e : j = (bs text).length := by omega
    subst e
    have g := fin (i := 1) h1 rfl
    rw [List.drop_length, List.append_nil, go_end hno] at hgo
    refine bSn (fun hne => ?_) (fun he => ?_)
    · have hne : bs line ≠ [] := hne
      rw [if_neg hne] at hgo
      exact ⟨ParseEnd.bad hgo rfl, g, h.grow g⟩
    · have he : bs line = [] := he
      rw [if_pos he] at hgo
      exact ⟨ParseEnd.good hgo (Ops.row (q := 0) h1 rfl hxn), g, h.grow g⟩

end Go.Mp
