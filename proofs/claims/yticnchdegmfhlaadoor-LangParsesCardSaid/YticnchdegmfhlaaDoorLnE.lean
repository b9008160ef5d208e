/- Lines are written and read. -/
import Derived.Test.YticnchdegmfhlaaDoorLnD
import Derived.WideLaws
set_option maxRecDepth 100000
namespace Go.Mp
open Go Go.Vc Go.Sp Go.Proofs Go.Ct Go.Lg

variable {E : Env} {L : List Asn} {w W : World}

def LineEnd (o : Lg.Op) (v : Value) : Prop := v = .tuple #[.string (mk ((lineO o).getD [])), .int .i64 (if (lineO o).isSome then 0 else 1)]

theorem c_Line {o : Lg.Op} (hI : Lg.Op.I o) (l : Libs W) (h : Sep E L W) : Calls P fn_lang_Line #[o.v] W (Ret fun v w' => LineEnd o v ∧ Grow W w' ∧ Sep E L w') := by
  apply of_lang_Line
  unfold sh_lang_Line
  refine Al.i (Sep.start W) (fun p1 w1 h1 => ?_)
  refine Al.i h1 (fun p3 w2 h2 => ?_)
  have h2 : Sep (World.env W) [blk p3 [.string (mk [])], blk p1 o.vs, old W.heap] w2 := h2
  have hcall := c_caught h2 (G := fn_lang_Line_1) (caps := #[.pointer (some ⟨p1, 0, none⟩), .pointer (some ⟨p3, 0, none⟩)])
    (R := fun v w' => (v = .bool true ∧ Lg.Ok o ∧ Sep (World.env W) [blk p3 [.string (mk (text o))], old W.heap] w') ∨ (v = .bool false ∧ ¬ Lg.Ok o ∧ Sep (World.env W) [old W.heap] w'))
    (enters_of Go.Proofs.Tryd.func23 (by kernel_rfl) rfl _) (by
      intro b w3 h3
      apply of_lang_Line_1
      unfold sh_lang_Line_1
      refine ⟨_, h3.cellAt 2 rfl 0, _, h3.cellAt 2 rfl 1, _, h3.cellAt 2 rfl 2, _, h3.cellAt 2 rfl 3, _, h3.cellAt 2 rfl 4, ?_⟩
      refine useP (c_line hI (l.old (i := 3) rfl h3) h3) ?_ ?_
      · rintro _ w4 ⟨hok, rfl, _, h4⟩
        refine .inl ⟨_, rfl, ?_⟩
        refine St.i h4.swap (by show 0 < 1; omega) (fun w5 h5 => ?_)
        exact ⟨rfl, [blk p3 [.string (mk (text o))], blk p1 o.vs, old W.heap], h5.swap, fun w6 h6 => .inl ⟨rfl, hok, h6.ro 3 [0, 2] rfl⟩⟩
      · rintro ch w4 ⟨hno, rfl, _, h4⟩
        exact .inr ⟨_, rfl, rfl, _, h4, fun w6 h6 => .inr ⟨rfl, hno, h6.ro 3 [2] rfl⟩⟩)
  refine use hcall ?_
  rintro _ w3 (⟨rfl, hok, h3⟩ | ⟨rfl, hno, h3⟩)
  · have g : Grow W w3 := grow_old (i := 1) rfl h3 rfl
    refine ⟨_, rfl, bF rfl ⟨_, h3.cell 0, ?_, g, h.grow g⟩⟩
    unfold LineEnd; rw [lineO_some hok]; rfl
  · have g : Grow W w3 := grow_old (i := 0) rfl h3 rfl
    refine ⟨_, rfl, bT rfl ⟨?_, g, h.grow g⟩⟩
    unfold LineEnd; rw [lineO_none hno]; rfl

/-! ### the words -/

theorem words_at {k : Nat} (h : k < 14) : words[k]? = some (wd k) := by
  have hl : k < words.length := h
  unfold wd
  rw [List.getD_eq_getElem?_getD, List.getElem?_eq_getElem hl]; rfl
theorem c_of {lo q : Nat} {H : Array Obj} {s : Sl} (F : FormsH lo H s) (hq : L[q]? = some (seg lo H)) (h : Sep E L w) :
    Calls P fn_lang_of_lang_form_string #[.slice s.p s.n s.c, .func (.func fn_lang_Words_1) #[] #[]] w (Ret fun v w' => ∃ x : Sl, v = .slice x.p x.n x.c ∧ x.n = 14 ∧ Sep E (rowA x 1 (strL words) :: L) w') := by
  apply of_lang_of_lang_form_string
  unfold sh_lang_of_lang_form_string
  have hq' : ∀ A : Asn, (A :: L)[q + 1]? = some (seg lo H) := fun A => by simpa using hq
  have hq2 : ∀ A B : Asn, (A :: B :: L)[q + 2]? = some (seg lo H) := fun A B => by simpa using hq
  refine ⟨fun out x w' => ∃ j : Nat, x = j ∧ j ≤ 14 ∧ out.n = j ∧ Sep E (rowA out 1 (strL (words.take j)) :: L) w', fun _ x _ => (14 - x).toNat, ⟨0, rfl, by omega, rfl, rowA.none_ h⟩, ?_⟩
  rintro _ out x w1 ⟨j, rfl, hj, hn, h1⟩
  have hs14 := F.n
  refine bLt (fun hlt => ?_) (fun hge => ?_)
  · have hlt : j < 14 := by omega
    have hwt := words_at hlt
    refine F.at_ hlt rfl (fun b g hb hg c1 c2 c3 => ?_)
    refine ⟨_, h1.segCell (hq' _) hb c1, ⟨some ⟨g, 0, none⟩, tl j, tl j⟩, h1.segCell (hq' _) hb c2, ?_⟩
    refine Al.i h1 (fun b2 w2 h2 => ?_)
    refine zst _ h2 rfl (fun w3 h3 => ?_)
    refine ⟨_, h3.cell 0, ⟨some ⟨g, 0, none⟩, tl j, tl j⟩, h3.cell 1, ?_⟩
    refine ⟨fn_lang_Words_1, #[], rfl, by kernel_rfl, ?_⟩
    show Calls P fn_lang_Words_1 #[.agg #[.string (mk (wd j)), .slice (some ⟨g, 0, none⟩) (tl j) (tl j)]] w3 _
    have hw : Calls P fn_lang_Words_1 #[.agg #[.string (mk (wd j)), .slice (some ⟨g, 0, none⟩) (tl j) (tl j)]] w3 (Ret fun v w' => v = .string (mk (wd j)) ∧ Sep E (rowA out 1 (strL (words.take j)) :: L) w') := by
      have := of_lang_Words_1 (mk (wd j)) ⟨some ⟨g, 0, none⟩, tl j, tl j⟩ (w := w3) (K := fun v w' => v = .string (mk (wd j)) ∧ Sep E (rowA out 1 (strL (words.take j)) :: L) w') (by
        unfold sh_lang_Words_1
        refine Al.i h3.tail (fun b4 w4 h4 => ?_)
        exact ⟨_, h4.cell 0, rfl, h4.tail⟩)
      exact this
    refine use hw ?_
    rintro _ w4 ⟨rfl, h4⟩
    refine ⟨_, rfl, ?_⟩
    refine Al.i h4 (fun b5 w5 h5 => ?_)
    have hl : (words.take j).length = j := by rw [List.length_take]; show min j 14 = j; omega
    refine str_push (by rw [hn, hl]) (by rw [hl]; omega) h5 (fun s' w6 hn6 h6 => ?_)
    rw [bs_mk, ← take_succ hwt] at h6 hn6
    have hl2 : (words.take (j + 1)).length = j + 1 := by rw [List.length_take]; show min (j + 1) 14 = j + 1; omega
    exact ⟨⟨j + 1, wrapS (by omega), by omega, by rw [hn6, hl2], h6⟩, by rw [wrapS (by omega)]; dsimp only; omega⟩
  · have e : j = 14 := by omega
    subst e
    exact ⟨out, rfl, hn, h1⟩

theorem c_Words (h : Sep E L W) : Calls P fn_lang_Words #[] W (Ret fun v w' => ∃ x : Sl, v = .slice x.p x.n x.c ∧ x.n = 14 ∧ Grow W w' ∧ Sep E (rowA x 1 (strL words) :: L) w') := by
  apply of_lang_Words
  unfold sh_lang_Words
  refine use (c_forms (Sep.start W)) ?_
  rintro _ w1 ⟨s, lo, H, rfl, F, _, h1⟩
  refine ⟨s, rfl, ?_⟩
  refine use (c_of F (q := 0) rfl h1) ?_
  rintro _ w2 ⟨x, rfl, hn, h2⟩
  obtain ⟨g, h3⟩ := h.join h2 (i := 1) rfl
  exact ⟨x, rfl, x, rfl, hn, g, h3⟩

/-! ### a field's number -/

theorem iface48 : P.underlying 48 = some (.interface (P.methodsAt 48)) := by kernel_rfl

theorem shw_atoi {f n : Int} (h : rng f n = true) (hf : f ≠ 4) (hx : ¬ (f = 5 ∧ shw f n = maxB)) : Lib.atoiAll (shw f n) = .ok n := by
  have h1 := rng_i64 h
  have hi : i64 n := ⟨by omega, by omega⟩
  unfold shw at hx ⊢
  rw [if_neg hf] at hx ⊢
  split
  · next e5 =>
    rw [if_pos e5] at hx
    unfold showB at hx ⊢
    split
    · next e => rw [if_pos e] at hx; exact absurd ⟨e5, rfl⟩ hx
    · exact atoi_itoa hi
  · exact atoi_itoa hi

theorem c_value {f : Int} {s : ByteArray} (hs : (bs s).length < 1000000) (l : Libs w) (h : Sep E L w) : Calls P fn_lang_field_value #[.int .i64 f, .string s] w
    (RetP (fun v w' => ∃ n, v = .int .i64 n ∧ i64 n ∧ rng f n = true ∧ shw f n = bs s ∧ Grow w w' ∧ Sep E L w') (fun ch w' => (∀ n, rng f n = true → shw f n ≠ bs s) ∧ ch = badCh ∧ Grow w w' ∧ Sep E L w')) := by
  apply of_lang_field_value
  unfold sh_lang_field_value
  refine ⟨fun w' => f ≠ 4 ∧ w' = w, ?_, ?_⟩
  · refine bEq (fun e4 => ?_) (fun h4 => ⟨h4, rfl⟩)
    subst e4
    refine use (c_limits h) ?_
    rintro _ w1 ⟨b, rfl, g1, h1⟩
    refine ⟨⟨some ⟨b, 0, none⟩, 5, 5⟩, rfl, ?_⟩
    refine ⟨fun x w' => ∃ j : Nat, x = j ∧ j ≤ 5 ∧ (∀ i, i < j → limits.getD i [] ≠ bs s) ∧ w' = w1, fun x _ => (5 - x).toNat, ⟨0, rfl, by omega, fun i hi => by omega, rfl⟩, ?_⟩
    rintro _ x w2 ⟨j, rfl, hj, hall, rfl⟩
    refine bLt (fun hlt => ?_) (fun hge => ?_)
    · have hlt : j < 5 := by
        have : (j : Int) < 5 := hlt
        omega
      have hll : j < limits.length := hlt
      refine elB j rfl hlt ?_
      refine ⟨mk (limits.getD j []), ?_, ?_⟩
      · rw [Nat.mul_one, h1.cell]
        simp [strL, strV, List.getElem?_eq_getElem hll, List.getD]
      · refine bS (fun e => ⟨_, rfl, ⟨by omega, by omega⟩, decide_eq_true ⟨by omega, by omega⟩, ?_, g1, h1.tail⟩) (fun hne => ?_)
        · rw [bs_mk] at e
          show (if (4 : Int) = 4 then limits.getD (j : Int).toNat [] else _) = _
          rw [if_pos rfl, Int.toNat_natCast]; exact e
        · rw [bs_mk] at hne
          rw [wrapS (by omega)]
          refine ⟨⟨j + 1, rfl, by omega, fun i hi => ?_, rfl⟩, by dsimp only; omega⟩
          by_cases e : i = j
          · subst e; exact hne
          · exact hall i (by omega)
    · refine mustI (fun hc => by cases hc) (fun _ => ⟨fun n hn hsh => ?_, rfl, g1, h1.tail⟩)
      have e5 : j = 5 := by
        have : ¬ (j : Int) < 5 := fun hh => by
          have : (j : Int) < (((⟨some ⟨b, 0, none⟩, 5, 5⟩ : Sl).n : Nat) : Int) := hh
          omega
        omega
      have hn := of_decide_eq_true (show decide (0 ≤ n ∧ n < 5) = true from hn)
      have hsh : limits.getD n.toNat [] = bs s := hsh
      exact hall n.toNat (by omega) hsh
  · rintro _ w1 ⟨h4, rfl⟩
    refine ⟨fun n w' => i64 n ∧ (∀ m, rng f m = true → shw f m = bs s → m = n) ∧ Grow w1 w' ∧ Sep E L w', ?_, ?_⟩
    · refine ⟨fun x w' => x = decide (¬ (f = 5 ∧ bs s = maxB)) ∧ w' = w1, ?_, ?_⟩
      · refine bNe (fun h5 => ⟨by simp [h5], rfl⟩) (fun h5 => ⟨?_, rfl⟩)
        rw [beq_bs]
        show (!(decide (bs s = maxB))) = _
        by_cases e : bs s = maxB <;> simp [e, h5]
      · rintro _ x w2 ⟨rfl, rfl⟩
        refine bifI (fun hx => ?_) (fun hx => ?_)
        · have hx := of_decide_eq_true hx
          have key : ∀ m, rng f m = true → shw f m = bs s → Lib.atoiAll (bs s) = .ok m := fun m hm hsh => by
            rw [← hsh]
            exact shw_atoi hm h4 (fun hh => hx ⟨hh.1, by rw [← hsh]; exact hh.2⟩)
          refine use (c_Atoi s (by rw [← bs_len]; omega) l h) ?_
          rintro _ w3 ⟨n, e, rfl, hae, g3, h3⟩
          refine ⟨n, e, rfl, ?_⟩
          unfold AtoiEnd at hae
          rcases hat : Lib.atoiAll (bs s) with m | _ | _
          · rw [hat] at hae
            obtain ⟨rfl, rfl⟩ := hae
            refine ⟨true, w3, ?_, ?_⟩
            · rw [Sem.run_bind]
              have e1 : (eqGuard .eql 48 (.tmp 36) (.const .nilIface) .nilIface .nilIface).run P w3 = .ok () w3 := by simp [eqGuard]
              rw [e1, Result.andThen_ok]
              exact run_eql_nil_nil _ 48 iface48
            · refine mustI (fun _ => ⟨?_, fun m hm hsh => ?_, g3, h3⟩) (fun hc => by cases hc)
              · exact Lib.atoiAll_bounds hat
              · have := key m hm hsh
                rw [hat] at this
                injection this with this; exact this.symm
          all_goals
            rw [hat] at hae
            obtain ⟨t, N, _, rfl⟩ := hae
            refine ⟨false, w3, ?_, ?_⟩
            · rw [Sem.run_bind]
              have e1 : (eqGuard .eql 48 (.tmp 36) (.const .nilIface) (.iface t (.pointer (some ⟨N, 0, none⟩))) .nilIface).run P w3 = .ok () w3 := by simp [eqGuard]
              rw [e1, Result.andThen_ok]
              exact run_eql_held_nil _ 48 t _ iface48
            · refine mustI (fun hc => by cases hc) (fun _ => ⟨fun m hm hsh => ?_, rfl, g3, h3⟩)
              have := key m hm hsh
              rw [hat] at this; cases this
        · have hx : f = 5 ∧ bs s = maxB := Classical.byContradiction fun hn => (of_decide_eq_false hx) hn
          refine ⟨⟨by omega, by omega⟩, fun m hm hsh => ?_, Grow.refl _, h⟩
          have h1 := rng_i64 hm
          rw [hx.2] at hsh
          unfold shw at hsh
          rw [if_neg h4, if_pos hx.1] at hsh
          unfold showB at hsh
          split at hsh
          · assumption
          · exact absurd hsh (itoa_ne_max m)
    · rintro _ n w2 ⟨hn, hu, g2, h2⟩
      refine useP (c_fshow hn (l.grow g2) h2) ?_ ?_
      · rintro _ w3 ⟨hr, rfl, g3, h3⟩
        refine .inl ⟨_, rfl, ?_⟩
        rw [beq_bs, bs_mk]
        refine mustI (fun hc => ⟨n, rfl, hn, hr, of_decide_eq_true hc, g2.trans g3, h3⟩) (fun hc => ⟨fun m hm hsh => ?_, rfl, g2.trans g3, h3⟩)
        have e := hu m hm hsh
        subst e
        exact (of_decide_eq_false hc) hsh
      · rintro ch w3 ⟨hr, rfl, g3, h3⟩
        refine .inr ⟨_, rfl, fun m hm hsh => ?_, rfl, g2.trans g3, h3⟩
        have e := hu m hm hsh
        subst e
        rw [hr] at hm; cases hm

end Go.Mp
