/- A text is parsed. -/
import Derived.Test.YticnchdegmfhlaaDoorLnH
set_option maxRecDepth 100000
namespace Go.Mp
open Go Go.Vc Go.Sp Go.Proofs Go.Ct Go.Lg

variable {E : Env} {L : List Asn} {w W : World}

theorem ok_I {o : Lg.Op} (h : Lg.Ok o) : Lg.Op.I o := by
  have hk0 := h.k0
  have hk1 := h.k1
  have key : ∀ i, i < 4 → i64 (o.val i) := fun i hi => by
    by_cases ht : i < tl o.kd
    · have := rng_i64 (h.v i ht)
      exact ⟨by omega, by omega⟩
    · rw [h.z i (by omega) hi]; exact ⟨by omega, by omega⟩
  refine ⟨⟨by omega, by omega⟩, fun i => ?_⟩
  match i with
  | 0 => exact key 0 (by omega)
  | 1 => exact key 1 (by omega)
  | 2 => exact key 2 (by omega)
  | i + 3 => exact key 3 (by omega)

/-- What is done with one line. -/
theorem c_Parse_1 {A : Asn} {p16 p14 p1 : Nat} {en : Bool} {s : ByteArray} {x : Sl} {l : List Lg.Op} (hs : (bs s).length < 1000000) (hxn : x.n = l.length) (lib : Libs W)
    (h : Sep (World.env W) [A, blk p16 [.bool en], blk p14 [.string s], blk p1 [.slice x.p x.n x.c], rowA x 5 (recs Lg.Op.vs l), old W.heap] w) :
    Calls P fn_lang_Parse_1 #[.pointer (some ⟨p16, 0, none⟩), .pointer (some ⟨p1, 0, none⟩), .pointer (some ⟨p14, 0, none⟩)] w
      (RetP (fun v w' => v = .tuple #[] ∧ ∃ (o : Lg.Op) (x' : Sl), en = true ∧ l.length < 1000 ∧ readO (bs s) = some o ∧ x'.n = (l ++ [o]).length ∧ Sep (World.env W) [A, blk p1 [.slice x'.p x'.n x'.c], rowA x' 5 (recs Lg.Op.vs (l ++ [o])), old W.heap] w')
        (fun ch w' => ch = badCh ∧ (en = false ∨ 1000 ≤ l.length ∨ readO (bs s) = none) ∧ Sep (World.env W) [A, old W.heap] w')) := by
  apply of_lang_Parse_1
  unfold sh_lang_Parse_1
  refine ⟨en, h.cellAt 1 rfl 0, ?_⟩
  refine bifI (fun hen => ?_) (fun hen => ?_)
  · refine ⟨x, h.cellAt 3 rfl 0, ?_⟩
    refine mustI (fun hc => ?_) (fun hc => ⟨rfl, .inr (.inl (by have := of_decide_eq_false hc; omega)), h.ro 6 [0, 5] rfl⟩)
    have hc := of_decide_eq_true hc
    refine Dr.i h (fun w1 h1 => ?_)
    refine ⟨x, h1.cellAt 3 rfl 0, s, h1.cellAt 2 rfl 0, ?_⟩
    have hR := Sep.start w1
    refine useP (c_read hs (lib.old (i := 5) rfl h1) h1) ?_ ?_
    · rintro _ w2 ⟨o, rfl, hoI, hro, _, h2⟩
      refine .inl ⟨_, _, _, _, _, rfl, x, h2.cellAt 3 rfl 0, rfl, ?_⟩
      refine Al.i h2 (fun b w3 h3 => ?_)
      refine ⟨x, h3.cellAt 4 rfl 0, rfl, ?_⟩
      have h4 : Sep (World.env W) [blk b o.vs, rowA x 5 (recs Lg.Op.vs l), blk p1 [.slice x.p x.n x.c], A, old W.heap] w3 := h3.ro 7 [0, 5, 4, 1, 6] rfl
      refine op_push hxn (by omega) h4 (fun x' w4 hn4 h5 => ?_)
      refine St.i h5.swap (by show 0 < 1; omega) (fun w5 h6 => ?_)
      exact ⟨rfl, o, x', hen, by omega, hro, hn4, h6.ro 4 [2, 0, 1, 3] rfl⟩
    · rintro ch w2 ⟨hro, rfl, _, h2⟩
      exact .inr ⟨_, rfl, fun _ => ⟨rfl, .inr (.inr hro), h2.ro 6 [0, 5] rfl⟩⟩
  · exact mustI (fun hc => by cases hc) (fun _ => ⟨rfl, .inl hen, h.ro 6 [0, 5] rfl⟩)

/-- What came of a parse. -/
def ParseEnd (t : Bytes) (v : Value) (w' : World) : Prop :=
  ∃ (x : Sl) (e n : Int), v = .tuple #[.slice x.p x.n x.c, .int .i64 e, .int .i64 n] ∧ match Lg.parse t with
    | .inl no => e = 20 ∧ n = (no : Nat) ∧ x = ⟨none, 0, 0⟩
    | .inr l => e = 0 ∧ n = 0 ∧ Ops w' x l
theorem ParseEnd.bad {t : Bytes} {no : Nat} {n : Int} (h : Lg.parse t = .inl no) (hn : n = no) : ParseEnd t (.tuple #[.slice none 0 0, .int .i64 20, .int .i64 n]) w := by
  refine ⟨⟨none, 0, 0⟩, 20, n, rfl, ?_⟩
  rw [h]; exact ⟨rfl, hn, rfl⟩
theorem ParseEnd.good {t : Bytes} {l : List Lg.Op} {x : Sl} (h : Lg.parse t = .inr l) (hO : Ops w x l) : ParseEnd t (.tuple #[.slice x.p x.n x.c, .int .i64 0, .int .i64 0]) w := by
  refine ⟨x, 0, 0, rfl, ?_⟩
  rw [h]; exact ⟨rfl, rfl, hO⟩

theorem c_Parse (text : ByteArray) (ht : (bs text).length < 1000000) (lib : Libs W) (h : Sep E L W) : Calls P fn_lang_Parse #[.string text] W (Ret fun v w' => ParseEnd (bs text) v w' ∧ Grow W w' ∧ Sep E L w') := by
  apply of_lang_Parse
  unfold sh_lang_Parse
  have fin : ∀ {w' : World} {L' : List Asn} {i : Nat}, Sep (World.env W) L' w' → L'[i]? = some (old W.heap) → Grow W w' := fun hh hi => grow_old rfl hh hi
  refine Al.i (Sep.start W) (fun p1 w1 h1 => ?_)
  refine ⟨fun t n w' => ∃ (l : List Lg.Op) (k : Nat) (x : Sl), n = k ∧ Lg.parse (bs text) = go l k (sp 10 (bs t)) ∧ x.n = l.length ∧ l.length ≤ 1000 ∧ 1 ≤ k ∧ k + (bs t).length ≤ (bs text).length + 1 ∧
      Sep (World.env W) [blk p1 [.slice x.p x.n x.c], rowA x 5 (recs Lg.Op.vs l), old W.heap] w',
    fun t _ _ => (bs t).length, ⟨[], 1, ⟨none, 0, 0⟩, rfl, rfl, rfl, by simp, by omega, by omega, (rowA.none_ h1).swap⟩, ?_⟩
  rintro _ t n w2 ⟨l, k, x, rfl, hgo, hxn, hl, hk1, hk, h2⟩
  refine bSn (fun hne => ?_) (fun he => ?_)
  · have hne : bs t ≠ [] := hne
    have e10 : bs (ByteArray.mk #[10]) = [10] := rfl
    refine use (c_Cut t _ (by rw [← bs_len]; omega) (lib.old (i := 2) rfl h2) h2) ?_
    rw [e10]
    rcases cut_cases (bs t) 10 with ⟨a, b, et, ha, hc⟩ | ⟨ha, hc⟩
    · simp only [hc]
      rintro _ w3 ⟨rfl, _, h3⟩
      refine ⟨_, _, _, rfl, ?_⟩
      rw [et] at hgo
      have hlen : (bs t).length = a.length + 1 + b.length := by rw [et]; simp; omega
      refine Al.i h3 (fun p14 w4 h4 => ?_)
      refine Al.i h4 (fun p16 w5 h5 => ?_)
      refine St.i h5.swap (by show 0 < 1; omega) (fun w6 h6 => ?_)
      refine St.i h6.swap (by show 0 < 1; omega) (fun w7 h7 => ?_)
      have h7 : Sep (World.env W) [blk p16 [.bool true], blk p14 [.string (mk a)], blk p1 [.slice x.p x.n x.c], rowA x 5 (recs Lg.Op.vs l), old W.heap] w7 := h7
      have next : ∀ {l' : List Lg.Op} {x' : Sl} {w' : World}, go l k (sp 10 (a ++ 10 :: b)) = go l' (k + 1) (sp 10 b) → x'.n = l'.length → l'.length ≤ 1000 → Sep (World.env W) [blk p1 [.slice x'.p x'.n x'.c], rowA x' 5 (recs Lg.Op.vs l'), old W.heap] w' →
          (∃ (l : List Lg.Op) (k_1 : Nat) (x : Sl), IntKind.i64.wrap ((k : Int) + 1) = k_1 ∧ Lg.parse (bs text) = go l k_1 (sp 10 (bs (mk b))) ∧ x.n = l.length ∧ l.length ≤ 1000 ∧ 1 ≤ k_1 ∧ k_1 + (bs (mk b)).length ≤ (bs text).length + 1 ∧
            Sep (World.env W) [blk p1 [.slice x.p x.n x.c], rowA x 5 (recs Lg.Op.vs l), old W.heap] w') ∧ (bs (mk b)).length < (bs t).length := by
        intro l' x' w' h1 h2 h3 h4
        have hb : (bs (mk b)).length = b.length := rfl
        exact ⟨⟨l', k + 1, x', wrapS (by omega), by rw [hgo, h1], h2, h3, by omega, by omega, h4⟩, by omega⟩
      have hskip : skip a = true → Sep (World.env W) [blk p1 [.slice x.p x.n x.c], rowA x 5 (recs Lg.Op.vs l), old W.heap] w7 := fun _ => h7.ro 5 [2, 3, 4] rfl
      refine ⟨fun w' => skip a = false ∧ Sep (World.env W) [blk p16 [.bool true], blk p14 [.string (mk a)], blk p1 [.slice x.p x.n x.c], rowA x 5 (recs Lg.Op.vs l), old W.heap] w', ?_, ?_⟩
      · refine ⟨_, h7.cell 0, bifT ?_⟩
        refine ⟨_, h7.cellAt 1 rfl 0, ?_⟩
        refine bS (fun e => ?_) (fun hna => ?_)
        · have e : a = [] := e
          have hs : skip a = true := by rw [e]; rfl
          exact next (go_skip ha hs) hxn hl (hskip hs)
        · have hna : a ≠ [] := hna
          obtain ⟨c, r, ea⟩ := List.exists_cons_of_ne_nil hna
          refine ⟨_, h7.cellAt 1 rfl 0, ?_⟩
          refine strI 0 rfl (c := c) (by rw [bs_mk, ea]; rfl) ?_
          refine bEq (fun e35 => ?_) (fun h35 => ⟨?_, h7⟩)
          · have hc : c = 35 := UInt8.toNat_inj.1 (by have e9 : (35 : UInt8).toNat = 35 := rfl; omega)
            have hs : skip a = true := by rw [ea, hc]; simp [skip]
            exact next (go_skip ha hs) hxn hl (hskip hs)
          · rw [ea]
            have : c ≠ 35 := fun e => h35 (by rw [e]; rfl)
            simp [skip, this]
      · rintro _ w8 ⟨hs, h8⟩
        have hcall := c_caught h8 (G := fn_lang_Parse_1) (caps := #[.pointer (some ⟨p16, 0, none⟩), .pointer (some ⟨p1, 0, none⟩), .pointer (some ⟨p14, 0, none⟩)])
          (R := fun v w' => (v = .bool true ∧ ∃ (o : Lg.Op) (x' : Sl), l.length < 1000 ∧ readO a = some o ∧ x'.n = (l ++ [o]).length ∧ Sep (World.env W) [blk p1 [.slice x'.p x'.n x'.c], rowA x' 5 (recs Lg.Op.vs (l ++ [o])), old W.heap] w') ∨
            (v = .bool false ∧ (1000 ≤ l.length ∨ readO a = none) ∧ Sep (World.env W) [old W.heap] w'))
          (enters_of Go.Proofs.Tryd.func31 (by kernel_rfl) rfl _) (fun bc w9 h9 => by
            refine useP (c_Parse_1 (by rw [bs_mk]; omega) hxn lib h9) ?_ ?_
            · rintro v w10 ⟨rfl, o, x', _, hl', hro, hxn', h10⟩
              exact .inl ⟨_, rfl, rfl, _, h10, fun w11 h11 => .inl ⟨rfl, o, x', hl', hro, hxn', h11⟩⟩
            · rintro ch w10 ⟨rfl, hno, h10⟩
              refine .inr ⟨_, rfl, rfl, _, h10, fun w11 h11 => .inr ⟨rfl, ?_, h11⟩⟩
              rcases hno with hno | hno
              · cases hno
              · exact hno)
        refine use hcall ?_
        rintro _ w9 (⟨rfl, o, x', hl', hro, hxn', h9⟩ | ⟨rfl, hno, h9⟩)
        · refine ⟨_, rfl, bF rfl ?_⟩
          exact next (go_read ha hs hl' hro) hxn' (by simp; omega) h9
        · have g := fin (i := 0) h9 rfl
          exact ⟨_, rfl, bT rfl ⟨ParseEnd.bad (hgo.trans (go_bad ha hs hno)) rfl, g, h.grow g⟩⟩
    · simp only [hc]
      rintro _ w3 ⟨rfl, _, h3⟩
      refine ⟨_, _, _, rfl, ?_⟩
      refine Al.i h3 (fun p14 w4 h4 => ?_)
      refine Al.i h4 (fun p16 w5 h5 => ?_)
      refine St.i h5.swap (by show 0 < 1; omega) (fun w6 h6 => ?_)
      refine St.i h6.swap (by show 0 < 1; omega) (fun w7 h7 => ?_)
      have h7 : Sep (World.env W) [blk p16 [.bool false], blk p14 [.string (mk (bs t))], blk p1 [.slice x.p x.n x.c], rowA x 5 (recs Lg.Op.vs l), old W.heap] w7 := h7
      refine ⟨fun w' => Sep (World.env W) [blk p16 [.bool false], blk p14 [.string (mk (bs t))], blk p1 [.slice x.p x.n x.c], rowA x 5 (recs Lg.Op.vs l), old W.heap] w', ?_, ?_⟩
      · exact ⟨_, h7.cell 0, bifF h7⟩
      · rintro _ w8 h8
        have hcall := c_caught h8 (G := fn_lang_Parse_1) (caps := #[.pointer (some ⟨p16, 0, none⟩), .pointer (some ⟨p1, 0, none⟩), .pointer (some ⟨p14, 0, none⟩)])
          (R := fun v w' => v = .bool false ∧ Sep (World.env W) [old W.heap] w')
          (enters_of Go.Proofs.Tryd.func31 (by kernel_rfl) rfl _) (fun bc w9 h9 => by
            refine useP (c_Parse_1 (by rw [bs_mk]; omega) hxn lib h9) ?_ ?_
            · rintro v w10 ⟨rfl, o, x', hen, _⟩
              cases hen
            · rintro ch w10 ⟨rfl, _, h10⟩
              exact .inr ⟨_, rfl, rfl, _, h10, fun w11 h11 => ⟨rfl, h11⟩⟩)
        refine use hcall ?_
        rintro _ w9 ⟨rfl, h9⟩
        have g := fin (i := 0) h9 rfl
        refine ⟨_, rfl, bT rfl ⟨ParseEnd.bad (hgo.trans ?_) rfl, g, h.grow g⟩⟩
        rw [go_end ha, if_neg hne]
  · have he : bs t = [] := he
    rw [he, go_end (by simp), if_pos rfl] at hgo
    have g := fin (i := 2) h2 rfl
    exact ⟨x, h2.cell 0, ParseEnd.good hgo (Ops.row (q := 1) h2 rfl hxn), g, h.grow g⟩

end Go.Mp
