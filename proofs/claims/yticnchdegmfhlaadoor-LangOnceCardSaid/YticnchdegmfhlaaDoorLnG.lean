/- A line is read. -/
import Derived.Test.YticnchdegmfhlaaDoorLnE
set_option maxRecDepth 100000
namespace Go.Mp
open Go Go.Vc Go.Sp Go.Proofs Go.Ct Go.Lg

variable {E : Env} {L : List Asn} {w W : World}

def ps (k : Nat) (vs : List Int) : List Value := .int .i64 k :: (List.range 4).map fun i => .int .i64 (vs.getD i 0)
theorem ps_nil (k : Nat) : ps k [] = [.int .i64 k, .int .i64 0, .int .i64 0, .int .i64 0, .int .i64 0] := rfl
theorem ps_op (k : Nat) (vs : List Int) : ps k vs = (opOf k vs).vs := rfl
theorem ps_set (k : Nat) (vs : List Int) (n : Int) (h : vs.length < 4) : (ps k vs).set (vs.length + 1) (.int .i64 n) = ps k (vs ++ [n]) := by
  match vs, h with
  | [], _ => rfl
  | [_], _ => rfl
  | [_, _], _ => rfl
  | [_, _, _], _ => rfl
theorem getD_snoc (vs : List Int) (n : Int) : (vs ++ [n]).getD vs.length 0 = n := by simp [List.getD_eq_getElem?_getD]
theorem getD_left (vs : List Int) (n : Int) {i : Nat} (h : i < vs.length) : (vs ++ [n]).getD i 0 = vs.getD i 0 := by
  rw [List.getD_eq_getElem?_getD, List.getElem?_append_left h, List.getD_eq_getElem?_getD]

theorem strL_at {ws : List Bytes} {i : Nat} (h : i < ws.length) : (strL ws)[i]? = some (.string (mk (ws.getD i []))) := by
  rw [List.getD_eq_getElem?_getD, List.getElem?_eq_getElem h]
  simp [strL, strV, h]

theorem c_read {s : ByteArray} (hs : (bs s).length < 1000000) (l : Libs W) (h : Sep E L W) : Calls P fn_lang_read #[.string s] W
    (RetP (fun v w' => ∃ o : Lg.Op, v = o.v ∧ Lg.Op.I o ∧ readO (bs s) = some o ∧ Grow W w' ∧ Sep E L w') (fun ch w' => readO (bs s) = none ∧ ch = badCh ∧ Grow W w' ∧ Sep E L w')) := by
  apply of_lang_read
  unfold sh_lang_read
  generalize hws : sp 32 (bs s) = ws
  have hw0 : ws ≠ [] := by rw [← hws]; exact sp_ne 32 _
  have hpos : 0 < ws.length := by
    rcases Nat.eq_zero_or_pos ws.length with h' | h'
    · exact absurd (List.eq_nil_of_length_eq_zero h') hw0
    · exact h'
  have hlen : ∀ x ∈ ws, x.length < 1000000 := by
    intro x hx
    have hj := join_sp 32 _ (bs s) (Nat.le_refl _)
    rw [hws] at hj
    have key : ∀ (l : List Bytes) (x : Bytes), x ∈ l → x.length ≤ (Lib.joinTail [32] l).length := by
      intro l
      induction l with
      | nil => intro x hx; cases hx
      | cons y r ih =>
        intro x hx
        rw [joinTail_cons, List.length_append, List.length_append]
        rcases List.mem_cons.1 hx with rfl | hx
        · omega
        · have := ih x hx; omega
    cases ws with
    | nil => cases hx
    | cons y r =>
      rw [Lib.join_cons] at hj
      have hl := congrArg List.length hj
      rw [List.length_append] at hl
      rcases List.mem_cons.1 hx with rfl | hx
      · omega
      · have := key r x hx; omega
  have hat : ∀ i, i < ws.length → (ws.getD i []).length < 1000000 := fun i hi => by
    rw [List.getD_eq_getElem?_getD, List.getElem?_eq_getElem hi]
    exact hlen _ (List.getElem_mem hi)
  refine Al.i (Sep.start W) (fun b1 w1 h1 => ?_)
  have h1 : Sep (World.env W) [blk b1 [.int .i64 0, .int .i64 0, .int .i64 0, .int .i64 0, .int .i64 0], old W.heap] w1 := h1
  refine use (c_Split s 32 (by rw [← bs_len]; omega) (l.old (i := 1) rfl h1) h1) ?_
  rw [hws]
  rintro _ w2 ⟨bw, n, rfl, hn, _, h2⟩
  refine ⟨⟨some ⟨bw, 0, none⟩, n, n⟩, rfl, ?_⟩
  refine use (c_forms h2) ?_
  rintro _ w3 ⟨fs, lo, H, rfl, F, _, h3⟩
  refine ⟨fs, rfl, ?_⟩
  have hF := F.n
  have fin : ∀ {w' : World} {L' : List Asn} {i : Nat}, Sep (World.env W) L' w' → L'[i]? = some (old W.heap) → Grow W w' := fun hh hi => grow_old rfl hh hi
  refine ⟨fun x w' => ∃ k : Nat, x = k ∧ k ≤ 14 ∧ (∀ i, i < k → wd i ≠ ws.getD 0 []) ∧ Sep (World.env W) [seg lo H, blk bw (strL ws), blk b1 [.int .i64 0, .int .i64 0, .int .i64 0, .int .i64 0, .int .i64 0], old W.heap] w',
    fun x _ => (14 - x).toNat, ⟨0, rfl, by omega, fun i hi => by omega, h3⟩, ?_⟩
  rintro _ x w4 ⟨k, rfl, hk, hno, h4⟩
  refine bLt (fun hlt => ?_) (fun hge => ?_)
  · have hk14 : k < 14 := by omega
    refine F.at_ hk14 rfl (fun b g hb hg c1 c2 c3 => ?_)
    refine ⟨_, h4.segCell (q := 0) rfl hb c1, ⟨some ⟨g, 0, none⟩, tl k, tl k⟩, h4.segCell (q := 0) rfl hb c2, ?_⟩
    refine Al.i h4 (fun b17 w5 h5 => ?_)
    refine zst _ h5 rfl (fun w6 h6 => ?_)
    refine Dr.i h6 (fun w7 h7 => ?_)
    refine ⟨_, h7.cell 0, ?_⟩
    refine elB 0 rfl (by show 0 < n; omega) ?_
    refine ⟨_, (h7.cellAt 2 rfl 0).trans (strL_at hpos), ?_⟩
    refine bSn (fun hne => ?_) (fun he => ?_)
    · rw [bs_mk, bs_mk] at hne
      refine ⟨⟨k + 1, wrapS (by omega), by omega, fun i hi => ?_, h7.tail⟩, by rw [wrapS (by omega)]; dsimp only; omega⟩
      by_cases e : i = k
      · subst e; exact hne
      · exact hno i (by omega)
    · rw [bs_mk, bs_mk] at he
      refine ⟨⟨some ⟨g, 0, none⟩, tl k, tl k⟩, h7.cell 1, ?_⟩
      have htl := tl_le hk14
      have key : ∀ p : Lg.Op, Lg.Ok p → text p = bs s → p.kd = k ∧ ws.length = 1 + tl k ∧ ∀ i, i < tl k → ws.getD (i + 1) [] = shw (fld k i) (p.val i) := by
        intro p hp e
        have e1 := hp.word
        have e2 := hp.len
        have e3 := fun i hi => hp.at_ (i := i) hi
        rw [e, hws] at e1 e2
        have hk : p.kd = k := wd_inj hp.kd hk14 (by rw [← e1, he])
        rw [hk] at e2
        refine ⟨hk, e2, fun i hi => ?_⟩
        have := e3 i (by rw [hk]; exact hi)
        rw [e, hws, hk] at this; exact this
      have wr : IntKind.i64.wrap (1 + ((tl k : Nat) : Int)) = ((1 + tl k : Nat) : Int) := by rw [w64 (by omega) (by omega)]; omega
      refine mustI (fun hc => ?_) (fun hc => ⟨readO_none (fun p hp e => ?_), rfl, fin (i := 4) h7 rfl, h.grow (fin (i := 4) h7 rfl)⟩)
      · have hlw : ws.length = 1 + tl k := by
          rw [wr] at hc
          have hc : ((n : Nat) : Int) = ((1 + tl k : Nat) : Int) := by simpa using hc
          omega
        refine Al.i h7 (fun b28 w8 h8 => ?_)
        refine zst _ h8 rfl (fun w9 h9 => ?_)
        refine ⟨⟨some ⟨g, 0, none⟩, tl k, tl k⟩, h9.cellAt 1 rfl 1, ?_⟩
        refine ⟨fun x w' => ∃ vs : List Int, x = (vs.length : Nat) ∧ vs.length ≤ tl k ∧ (∀ v ∈ vs, i64 v) ∧ Part (bs s) k vs ∧ Sep (World.env W) [blk b28 (ps k vs), blk b17 [.string (mk (wd k)), .slice (some ⟨g, 0, none⟩) (tl k) (tl k)], seg lo H, blk bw (strL ws),
            blk b1 [.int .i64 0, .int .i64 0, .int .i64 0, .int .i64 0, .int .i64 0], old W.heap] w',
          fun x _ => (tl k - x).toNat, ⟨[], rfl, Nat.zero_le _, by simp, ⟨hk14, by rw [hws, he], by rw [hws]; exact hlw, fun i hi => by simp at hi⟩, h9⟩, ?_⟩
        rintro _ x w10 ⟨vs, rfl, hvl, hvi, hP, h10⟩
        refine bLt (fun hlt => ?_) (fun hge => ?_)
        · have hlt : vs.length < tl k := by
            have : ((vs.length : Nat) : Int) < ((tl k : Nat) : Int) := hlt
            omega
          refine elB vs.length rfl hlt ?_
          refine ⟨fld k vs.length, h10.segCell (q := 2) rfl (by show lo ≤ g; exact hg) (by rw [Nat.mul_one]; exact c3 _ hlt), ?_⟩
          refine Dr.i h10 (fun w11 h11 => ?_)
          rw [wrapS (by omega)]
          refine elB (vs.length + 1) rfl (by show vs.length + 1 < n; omega) ?_
          refine ⟨_, (by rw [Nat.mul_one]; exact (h11.cellAt 3 rfl _).trans (strL_at (by omega))), ?_⟩
          refine use (c_place (fld k vs.length) b28) ?_
          rintro _ w12 ⟨rfl, rfl⟩
          rw [plc_fld (by omega)]
          refine ⟨_, rfl, _, (by rw [Nat.mul_one]; exact (h11.cellAt 3 rfl _).trans (strL_at (by omega))), rfl, ?_⟩
          refine useP (c_value (s := mk (ws.getD (vs.length + 1) [])) (hat _ (by omega)) (l.old (i := 5) rfl h11) h11) ?_ ?_
          · rintro _ w13 ⟨m, rfl, hmi, hmr, hms, _, h13⟩
            rw [bs_mk] at hms
            refine .inl ⟨m, rfl, _, rfl, ?_⟩
            refine St.i h13 (by show vs.length + 1 < 5; omega) (fun w14 h14 => ?_)
            rw [ps_set k vs m (by omega)] at h14
            refine ⟨⟨vs ++ [m], by simp, by simp; omega, fun v hv => ?_, ⟨hP.hk, hP.w, hP.len, fun i hi => ?_⟩, h14⟩, by dsimp only; omega⟩
            · rcases List.mem_append.1 hv with hv | hv
              · exact hvi v hv
              · rw [List.mem_singleton.1 hv]; exact hmi
            · by_cases e : i = vs.length
              · subst e
                rw [getD_snoc, hws]; exact ⟨hmr, hms⟩
              · have hi' : i < vs.length := by simp at hi; omega
                rw [getD_left vs m hi']
                exact hP.v i hi'
          · rintro ch w13 ⟨hnone, rfl, _, h13⟩
            rw [bs_mk] at hnone
            refine .inr ⟨_, rfl, fun _ => ⟨readO_none (fun p hp e => ?_), rfl, fin (i := 5) h13 rfl, h.grow (fin (i := 5) h13 rfl)⟩⟩
            obtain ⟨k1, _, k3⟩ := key p hp e
            have hv := hp.v vs.length (by rw [k1]; exact hlt)
            rw [k1] at hv
            exact hnone _ hv (k3 _ hlt).symm
        · have hvl : vs.length = tl k := by
            have : ¬ ((vs.length : Nat) : Int) < ((tl k : Nat) : Int) := fun hh => absurd hh (by
              have : ((tl k : Nat) : Int) ≤ ((vs.length : Nat) : Int) := hge
              omega)
            omega
          rw [ps_op] at h10
          have hgi : ∀ i, i64 (vs.getD i 0) := fun i => by
            rw [List.getD_eq_getElem?_getD]
            cases hi : vs[i]? with
            | none => exact ⟨by decide, by decide⟩
            | some v => exact hvi v (List.mem_of_getElem? hi)
          refine ⟨_, h10.cell 0, _, h10.cell 1, _, h10.cell 2, _, h10.cell 3, _, h10.cell 4, ?_⟩
          refine useP (c_right (opOf k vs) h10) ?_ ?_
          · rintro _ w11 ⟨hrt, rfl, _, h11⟩
            refine .inl ⟨rfl, ?_⟩
            obtain ⟨hok, htx⟩ := hP.done hvl (fun e1 e2 => by
              unfold rightB at hrt
              simp only [Bool.not_eq_true', decide_eq_false_iff_not] at hrt
              exact Classical.byContradiction fun h3 => hrt ⟨e1, e2, h3⟩)
            refine ⟨_, h11.cell 0, _, h11.cell 1, _, h11.cell 2, _, h11.cell 3, _, h11.cell 4, ?_⟩
            have h12 := h11.fr 4 rfl
            refine zst _ h12 rfl (fun w13 h13 => ?_)
            have g13 := fin (i := 5) h13 rfl
            refine ⟨_, h13.cell 0, _, h13.cell 1, _, h13.cell 2, _, h13.cell 3, _, h13.cell 4, opOf k vs, rfl, ⟨⟨by show (-9223372036854775808 : Int) ≤ (k : Nat); omega, by show ((k : Nat) : Int) ≤ _; omega⟩, fun i => ?_⟩, readO_eq hok htx, g13, h.grow g13⟩
            match i with
            | 0 => exact hgi 0
            | 1 => exact hgi 1
            | 2 => exact hgi 2
            | i + 3 => exact hgi 3
          · rintro ch w11 ⟨hrt, rfl, _, h11⟩
            refine .inr ⟨_, rfl, readO_none (fun p hp e => ?_), rfl, fin (i := 5) h11 rfl, h.grow (fin (i := 5) h11 rfl)⟩
            have e1 := hP.only hvl hp e
            unfold rightB at hrt
            simp only [Bool.not_eq_false', decide_eq_true_eq] at hrt
            rw [← e1] at hrt
            exact hrt.2.2 (hp.r hrt.1 hrt.2.1)
      · obtain ⟨_, k2, _⟩ := key p hp e
        rw [wr] at hc
        have hc : ¬ (((n : Nat) : Int) = ((1 + tl k : Nat) : Int)) := by simpa using hc
        omega
  · have e : k = 14 := by omega
    subst e
    refine ⟨readO_none (fun p hp e => ?_), rfl, fin (i := 3) h4 rfl, h.grow (fin (i := 3) h4 rfl)⟩
    have e1 := hp.word
    rw [e, hws] at e1
    exact hno p.kd hp.kd e1.symm

end Go.Mp
