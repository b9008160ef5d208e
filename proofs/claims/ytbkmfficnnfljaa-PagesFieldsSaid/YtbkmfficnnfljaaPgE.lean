/- The pages of an owner; all pages. -/
import Derived.Test.YtbkmfficnnfljaaPgD
set_option maxRecDepth 100000
namespace Go.Mp
open Go Go.Vc Go.Sp

variable {E : Env} {L : List Asn} {w : World}

/-- The ids of all pages, rising. -/
structure IdsOf (S : TS) (l : List Int) : Prop where
  rise : l.Pairwise (· < ·)
  mem : ∀ k, k ∈ l ↔ (S.pg k).isSome = true

/-- So many ids may be. -/
def TS.few (S : TS) (N : Nat) : Prop := ∀ k, (S.pg k).isSome = true → 0 ≤ k ∧ k < N

theorem IdsOf.le {S : TS} {l : List Int} {N : Nat} (h : IdsOf S l) (hf : S.few N) : l.length ≤ N :=
  ids_le N l (List.nodup_iff_pairwise_ne.2 (h.rise.imp (fun hlt he => by omega))) (fun x hx => hf x ((h.mem x).1 hx))

theorem c_All' {t : Nat} {S : TS} {N : Nat} (hN : S.few N) (hb : N ≤ 17592186044416) (h : Sep E (Tab t S :: L) w) :
    Calls P fn_pages_Table_All #[.pointer (some ⟨t, 0, none⟩)] w (Ret fun v w' => ∃ (s : Sl) (l : List Int), v = .slice s.p s.n s.c ∧ s.n = l.length ∧ IdsOf S l ∧ Sep E (rowA s 1 (intL l) :: Tab t S :: L) w') := by
  obtain ⟨mp, mf, ms, a, h⟩ := Tab.open h
  refine use (c_All (f := ptrF S a) h (i := 0) (q := 1) rfl rfl rfl (N := N) (fun k v hk => ?_) hb) ?_
  · refine hN k ?_
    unfold ptrF at hk
    cases hg : S.pg k with
    | none => rw [hg] at hk; cases hk
    | some p => rfl
  · rintro v w1 ⟨s, l, rfl, hn, hl, h1⟩
    refine ⟨_, rfl, s, l, rfl, hn, ⟨hl.rise, fun k => ?_⟩, ?_⟩
    · rw [hl.mem k]; unfold ptrF; cases S.pg k <;> simp
    · have h2 := Tab.shut (L := rowA s 1 (intL l) :: L) (h1.ro 6 [1, 2, 3, 4, 5, 0] rfl)
      exact h2.swap

def TS.notOf (S : TS) (o : Int) (id : Int) : Bool := match S.pg id with
  | some p => p.owner != o
  | none => true

theorem c_Those {t : Nat} {S : TS} {N : Nat} (o : Int) (hN : S.few N) (hb : N ≤ 17592186044416) (h : Sep E (Tab t S :: L) w) :
    Calls P fn_pages_Table_Those #[.pointer (some ⟨t, 0, none⟩), .int .i64 o] w (Ret fun v w' => ∃ (s : Sl) (l : List Int), v = .slice s.p s.n s.c ∧ IdsOf S l ∧ s.n = (l.filter fun x => !S.notOf o x).length ∧ Sep E (rowA s 1 (intL (l.filter fun x => !S.notOf o x)) :: Tab t S :: L) w') := by
  apply of_pages_Table_Those
  unfold sh_pages_Table_Those
  refine Al.i h (fun p1 w1 h1 => Al.i h1 (fun p3 w2 h2 => ?_))
  refine ⟨_, (h2.cellAt 1 rfl _).trans rfl, ?_⟩
  have h3 : Sep E (Tab t S :: blk p3 [.int .i64 o] :: blk p1 [.pointer (some ⟨t, 0, none⟩)] :: L) w2 := h2.ro 3 [2, 0, 1] rfl
  refine use (c_All' hN hb h3) ?_
  rintro _ w3 ⟨s, l, rfl, hn, hl, h4⟩
  refine ⟨s, rfl, ?_⟩
  have hlen := hl.le hN
  refine use (c_DeleteFunc (L := Tab t S :: blk p3 [.int .i64 o] :: blk p1 [.pointer (some ⟨t, 0, none⟩)] :: L) (q := S.notOf o) ?_ hn (by omega) h4) ?_
  · intro m hm x w5 hx h5
    obtain ⟨p, hp⟩ := Option.isSome_iff_exists.1 ((hl.mem x).1 hx)
    refine ⟨fn_pages_Table_Those_1, _, rfl, by kernel_rfl, ?_⟩
    refine use (K := fun v w' => v = .bool (S.notOf o x) ∧ Sep E (rowA s 1 (intL m) :: Tab t S :: blk p3 [.int .i64 o] :: blk p1 [.pointer (some ⟨t, 0, none⟩)] :: L) w') (of_pages_Table_Those_1 x ⟨p1, 0, none⟩ ⟨p3, 0, none⟩ ?_) ?_
    · unfold sh_pages_Table_Those_1
      refine Dr.i h5 (fun w6 h6 => ?_)
      obtain ⟨mp, mf, ms, a, h7⟩ := Tab.open (h6.fr 1 rfl)
      refine ⟨_, (h6.cellAt 3 rfl _).trans rfl, _, rfl, some mp, by rw [add_mk]; exact (h7.cellAt 0 rfl _).trans rfl, _, look_ptr 1 h7 rfl x, ?_⟩
      rw [hp]
      have h8 := Tab.page (mp := mp) hp h7
      refine ⟨_, rfl, p.owner, by rw [add_mk]; exact (h8.cellAt 0 rfl _).trans rfl, o, (h6.cellAt 2 rfl _).trans rfl, ?_, h6⟩
      unfold TS.notOf; rw [hp]
    · rintro v w' ⟨rfl, h6⟩; exact ⟨rfl, h6⟩
  · rintro _ w4 ⟨s', rfl, hn', h5⟩
    have h6 := (h5.fr 2 rfl).tail
    exact ⟨s', rfl, s', l, rfl, hl, hn', (h6.fr 2 rfl).tail⟩

end Go.Mp
