/- The other laws of pages, further. -/
import Derived.Test.YtbkmfficnnfljaaPgM
set_option maxRecDepth 100000
namespace Go.Mp
open Go Go.Vc Go.Sp

variable {E : Env} {L : List Asn} {w : World}

theorem TS.setPg_ne (S : TS) {id j : Int} {p : Pg} (h : j ≠ id) : (S.setPg id p).pg j = S.pg j := by unfold TS.setPg upd; exact if_neg h

/-- What errs changes nothing. -/
theorem TS.act_err {S : TS} {a : Act} (h : (S.act a).2.2 ≠ 0) : (S.act a).1 = S := by
  unfold TS.act at h ⊢
  split
  · next e =>
    simp only [if_pos e] at h
    unfold TS.make at h ⊢
    split
    · next e1 => rw [if_pos e1] at h; exact absurd rfl h
    · next e1 =>
      rw [if_neg e1] at h
      split
      · rfl
      · next e2 => rw [if_neg e2] at h; exact absurd rfl h
  next e0 =>
  simp only [if_neg e0] at h
  split
  · next e =>
    simp only [if_pos e] at h
    unfold TS.put at h ⊢
    cases hp : S.pg a.id with
    | none => rfl
    | some p =>
      simp only [hp] at h ⊢
      split
      · rfl
      · next e1 =>
        rw [if_neg e1] at h
        split
        · rfl
        · next e2 => rw [if_neg e2] at h; exact absurd rfl h
  next e1 =>
  simp only [if_neg e1] at h
  split
  · next e =>
    simp only [if_pos e] at h
    unfold TS.refer at h ⊢
    cases hp : S.pg a.id with
    | none => rfl
    | some p =>
      simp only [hp] at h ⊢
      split
      · rfl
      · next e1 => rw [if_neg e1] at h; exact absurd rfl h
  next e2 =>
  simp only [if_neg e2] at h
  split
  · next e =>
    simp only [if_pos e] at h
    unfold TS.drop at h ⊢
    cases hp : S.pg a.id with
    | none => rfl
    | some p =>
      simp only [hp] at h ⊢
      split
      · rfl
      · next e1 => rw [if_neg e1] at h; exact absurd rfl h
  next e3 =>
  simp only [if_neg e3] at h
  split
  · next e =>
    simp only [if_pos e] at h
    unfold TS.own at h ⊢
    cases hp : S.pg a.id with
    | none => rfl
    | some p => simp only [hp] at h; exact absurd rfl h
  next e4 =>
  simp only [if_neg e4] at h
  unfold TS.mark at h ⊢
  cases hp : S.pg a.id with
  | none => rfl
  | some p => simp only [hp] at h; exact absurd rfl h

/-- One page more in a row. -/
theorem pg_push {s : Sl} {q : Nat} {l : List Pg} {a : Pg} (hn : s.n = l.length) (hb : l.length < 1000000) (h : Sep E (blk q a.vs :: rowA s 9 (recs Pg.vs l) :: L) w) {G : Sl → World → Prop}
    (g : ∀ s' w1, s'.n = (l ++ [a]).length → Sep E (rowA s' 9 (recs Pg.vs (l ++ [a])) :: L) w1 → G s' w1) :
    ∃ x1 : Sl, ∃ w1, Sem.run P (Builtin.append_ #[ty_sl_api_Page, ty_sl_api_Page] ty_sl_api_Page #[.slice s.p s.n s.c, .slice (some ⟨q, 0, none⟩) 1 1]) w = .ok (.slice x1.p x1.n x1.c) w1 ∧ G x1 w1 := by
  have hq : slQ P ty_sl_api_Page = some (64, 9, Pg.zero.vs) := by kernel_rfl
  have hs := Src.blk (n := 1) (c := 1) h (i := 0) rfl hq rfl (fun u hu => by
    simp [Pg.vs] at hu
    rcases hu with rfl | rfl | rfl | rfl | rfl | rfl | rfl | rfl | rfl <;> rfl)
  refine rowA.append h.swap hq rfl hs (by omega) (by rw [hn]; omega) (fun s' w1 hs' h1 => g s' w1 (by rw [hs', hn]; simp) ?_)
  rw [recs_append, recs_one]
  exact (h1.fr 1 rfl).tail

theorem law_PagesErr {W : World} (l : Sl) (a : Act) (hl : ActsAt W l.p l.n) :
    Calls P fn_millpondlaw14_PagesErr #[.slice l.p l.n l.c, .agg a.vs.toArray] W (Ret fun v w' => v = .bool true ∧ ∃ (L : List Asn) (i : Nat), L[i]? = some (old W.heap) ∧ Sep (World.env W) L w') := by
  apply of_millpondlaw14_PagesErr
  unfold sh_millpondlaw14_PagesErr
  refine Al.i (Sep.start W) (fun pk w0 h0 => use (c_works h0) ?_)
  rintro _ w1 ⟨rfl, h1⟩
  refine ⟨_, rfl, bifF (bGt (fun _ => ⟨rfl, _, 1, rfl, h1⟩) (fun h80 => use (c_New h1) ?_))⟩
  rintro _ w2 ⟨t, rfl, h2⟩
  refine ⟨_, rfl, runActs (L := [blk pk a.vs]) hl (by omega) (h2.ro 3 [0, 2, 1] rfl) (fun i S R w3 I hR h3 => use (c_All' I.few (by omega) h3) ?_)⟩
  rintro _ w4 ⟨s, al, rfl, hn, hal, h4⟩
  have hle := hal.le I.few
  refine ⟨s, rfl, fun sw i w => (0 ≤ i ∧ i ≤ al.length) ∧ sw.n = i.toNat ∧ Sep (World.env W) (rowA sw 9 (recs Pg.vs ((al.take i.toNat).map fun k => (S.get k).1)) :: rowA s 1 (intL al) :: Tab t S :: [old W.heap, blk pk a.vs]) w, fun _ i _ => (al.length - i).toNat,
    ⟨⟨by omega, by omega⟩, rfl, rowA.none_ h4⟩, ?_⟩
  rintro _ sw i w5 ⟨⟨hi0, hi1⟩, hsw, h5⟩
  refine bLt (fun hi2 => ?_) (fun hi2 => ?_)
  · refine elI 1 h5 rfl hn hi0 (by omega) (fun a1 ha1 => ⟨_, ha1, got (h5.fr 2 rfl) _ (fun b w6 h6 => ?_)⟩)
    refine ld h6 0 rfl rfl rfl (ld h6 0 rfl rfl rfl (ld h6 0 rfl rfl rfl (ld h6 0 rfl rfl rfl (ld h6 0 rfl rfl rfl (ld h6 0 rfl rfl rfl (ld h6 0 rfl rfl rfl (ld h6 0 rfl rfl rfl (ld h6 0 rfl rfl rfl ?_))))))))
    refine Al.i h6 (fun q w7 h7 => ?_)
    have h7 : Sep (World.env W) (blk q (S.get (al.getD i.toNat 0)).1.vs :: rowA sw 9 (recs Pg.vs ((al.take i.toNat).map fun k => (S.get k).1)) :: rowA s 1 (intL al) :: Tab t S :: [old W.heap, blk pk a.vs]) w7 := h7.ro 7 [0, 3, 4, 2, 5, 6] rfl
    refine pg_push (by rw [hsw]; simp; omega) (by simp; omega) h7 (fun s' w8 hs' h8 => ?_)
    rw [w64 (by omega) (by omega)]
    have e : (i + 1).toNat = i.toNat + 1 := by omega
    have hlt : i.toNat < al.length := by omega
    have e2 : (al.take (i.toNat + 1)).map (fun k => (S.get k).1) = (al.take i.toNat).map (fun k => (S.get k).1) ++ [(S.get (al.getD i.toNat 0)).1] := by
      rw [List.take_add_one, List.getElem?_eq_getElem hlt]; simp only [List.map_append, Option.toList_some, List.map_cons, List.map_nil, List.getD, List.getElem?_eq_getElem hlt, Option.getD_some]
    refine ⟨⟨⟨by omega, by omega⟩, ?_, ?_⟩, by dsimp only; omega⟩
    · rw [hs', e]; simp; omega
    · rw [e, e2]; exact h8
  · have hi3 : i.toNat = al.length := by omega
    rw [hi3, List.take_length] at h5
    rw [hi3] at hsw
    refine ld h5 4 rfl rfl rfl (ld h5 4 rfl rfl rfl (ld h5 4 rfl rfl rfl (ld h5 4 rfl rfl rfl (ld h5 4 rfl rfl rfl (ld h5 4 rfl rfl rfl (use (c_do I a (h5.fr 2 rfl)) ?_))))))
    rintro _ w6 ⟨rfl, h6⟩
    refine ⟨_, _, rfl, bEq (fun _ => ⟨rfl, _, 3, rfl, h6⟩) (fun hne => ?_)⟩
    rw [TS.act_err hne] at h6
    refine use (c_All' I.few (by omega) h6) ?_
    rintro _ w7 ⟨s2, al2, rfl, hn2, hal2, h7⟩
    have hal2e : al = al2 := (I.all_eq hal 0).trans (I.all_eq hal2 0).symm
    subst hal2e
    have h7 : Sep (World.env W) (rowA s2 1 (intL al) :: Tab t S :: rowA sw 9 (recs Pg.vs (al.map fun k => (S.get k).1)) :: rowA s 1 (intL al) :: [old W.heap]) w7 := h7.re [0, 1, 2, 3, 4] rfl
    have hrow := c_row (s1 := s) (s2 := s2) (a := al) (b := al) (i := 3) (j := 0) h7 rfl rfl hn hn2 (by omega)
    refine ⟨s2, rfl, use hrow ?_⟩
    rintro _ w8 ⟨rfl, h8⟩
    rw [decide_eq_true (rfl : al = al)]
    refine ⟨_, rfl, bifF ?_⟩
    have h8 : Sep (World.env W) (Tab t S :: rowA sw 9 (recs Pg.vs (al.map fun k => (S.get k).1)) :: rowA s 1 (intL al) :: [old W.heap]) w8 := h8.re [1, 2, 3, 4] rfl
    refine ⟨fun i w => (0 ≤ i ∧ i ≤ al.length) ∧ Sep (World.env W) (Tab t S :: rowA sw 9 (recs Pg.vs (al.map fun k => (S.get k).1)) :: rowA s 1 (intL al) :: [old W.heap]) w, fun i _ => (al.length - i).toNat,
      ⟨⟨by omega, by omega⟩, h8⟩, ?_⟩
    rintro _ j w9 ⟨⟨hj0, hj1⟩, h9⟩
    refine bLt (fun hj2 => ?_) (fun _ => ⟨rfl, _, 3, rfl, h9⟩)
    refine elI 2 h9 rfl hn hj0 (by omega) (fun a1 ha1 => ⟨_, ha1, got h9 _ (fun b w10 h10 => Dr.i h10 (fun w11 h11 => ?_))⟩)
    refine ld h11 0 rfl rfl rfl (ld h11 0 rfl rfl rfl (ld h11 0 rfl rfl rfl (ld h11 0 rfl rfl rfl (ld h11 0 rfl rfl rfl (ld h11 0 rfl rfl rfl (ld h11 0 rfl rfl rfl (ld h11 0 rfl rfl rfl (ld h11 0 rfl rfl rfl ?_))))))))
    have hget : (al.map fun k => (S.get k).1)[j.toNat]? = some (S.get (al.getD j.toNat 0)).1 := by
      have : j.toNat < al.length := by omega
      simp [this, List.getD]
    refine rowA.el 2 h11 rfl hj0 (by omega) (fun b2 _ hc => ?_)
    have hcc : ∀ k v, (S.get (al.getD j.toNat 0)).1.vs[k]? = some v → w11.cell? (Addr.add ⟨b2, j.toNat * 9, none⟩ k) = some v := by
      intro k v hk
      have hk9 : k < 9 := (List.getElem?_eq_some_iff.1 hk).1
      rw [add_mk, hc k hk9, recs_at (f := Pg.vs) (m := 9) (fun _ => rfl) hget k hk9]; exact hk
    refine ⟨_, hcc 0 _ rfl, _, hcc 1 _ rfl, _, hcc 2 _ rfl, _, hcc 3 _ rfl, _, hcc 4 _ rfl, _, hcc 5 _ rfl, _, hcc 6 _ rfl, _, hcc 7 _ rfl, _, hcc 8 _ rfl, ?_⟩
    obtain ⟨q, hq1, hq2⟩ := pg_neq (S.get (al.getD j.toNat 0)).1 (S.get (al.getD j.toNat 0)).1
    have hq3 : q = false := hq2.2 rfl
    subst hq3
    rw [w64 (by omega) (by omega)]
    exact ⟨false, hq1, bifF ⟨⟨⟨by omega, by omega⟩, h11.tail⟩, by dsimp only; omega⟩⟩

end Go.Mp
