/- A strings.Builder of one's own. -/
import Derived.Test.YticnchdegmfhlaaDoorLnL
set_option maxRecDepth 100000
namespace Go.Mp
open Go Go.Vc Go.Sp Go.Proofs Go.Ct Go.Lib

/-- A world of a heap alone. -/
noncomputable def hw (h : Array Obj) : World := { (default : World) with heap := h }

noncomputable def bld (B b : Nat) (l : Bytes) : Asn :=
  ⟨fun h F => ∃ p v, (p = .pointer none ∨ p = .pointer (some ⟨b, 0, none⟩)) ∧ B ≤ b ∧ h[b]? = some (.cells #[p, v] (Tryd.bwL_ren.t 72) (0, 0)) ∧ (hw h).ownsRowF B (Tryd.bwL_ren.t 5) 1 v (Lib.byteCells l).length (Lib.byteCells l) ∧ v.ownBlock ≠ some b ∧ ∀ x, F x ↔ (x = b ∨ v.ownBlock = some x),
  fun {h h' F} hh hl => by
    obtain ⟨p, v, h1, h2, h3, ⟨h4, h5⟩, h6, h7⟩ := hh
    refine ⟨p, v, h1, h2, by rw [hl b ((h7 b).2 (.inl rfl))]; exact h3, ⟨h4, ?_⟩, h6, h7⟩
    rcases h5 with h5 | ⟨g, cap, cur, fz, rfl, h8, h9, h10⟩
    · exact .inl h5
    · refine .inr ⟨g, cap, cur, fz, rfl, h8, ?_, h10⟩
      show h'[g]? = _
      rw [hl g ((h7 g).2 (.inr rfl))]; exact h9⟩

variable {E : Env} {L : List Asn} {w : World}

theorem bld.is {B b : Nat} {l : Bytes} {F : Nat → Prop} (h : (bld B b l).holds w.heap F) : IsBuilderF (Tryd.bwL_ren.t 72) (Tryd.bwL_ren.t 5) B b (Lib.byteCells l) w := by
  obtain ⟨p, v, h1, h2, h3, h4, h6, h7⟩ := h
  rcases h1 with rfl | rfl
  · exact .inl ⟨h2, v, h3, h4, h6⟩
  · exact .inr ⟨h2, v, h3, h4, h6⟩

theorem bld.new (h : Sep E L w) {H : Array Obj} {i : Nat} (hi : L[i]? = some (old H)) : Sep E (bld H.size w.heap.size [] :: L) (w.alloc (.cells #[.pointer none, .slice none 0 0] (Tryd.bwL_ren.t 72))) := by
  have hH : H.size ≤ w.heap.size := by
    obtain ⟨_, F, ⟨_, h2⟩, h3, _⟩ := h.fr i hi
    rcases Nat.eq_zero_or_pos H.size with h0 | h0
    · omega
    · have := (h3 (H.size - 1) ((h2 _).2 (by omega))).1; omega
  refine h.new (F' := fun x => x = w.heap.size) (Grow.alloc w _) ?_ ?_
  · exact ⟨.pointer none, .slice none 0 0, .inl rfl, hH, Sp.heap_alloc _ _, ⟨rfl, .inl ⟨rfl, rfl⟩⟩, by simp [Value.ownBlock], fun x => by simp [Value.ownBlock]⟩
  · intro b hb; subst hb; rw [size_alloc]; omega

theorem c_WS {H : Array Obj} {b m : Nat} {l : Bytes} {o : Obj} (s : ByteArray) (ho5 : ∀ c fz, o ≠ .cells c (Tryd.bwL_ren.t 5) fz) (hlen : l.length + s.size ≤ 140737488355328) (h : Sep E [bld H.size b l, objB m o, old H] w) :
    Calls P fn_strings_Builder_WriteString #[.pointer (some ⟨b, 0, none⟩), .string s] w (Ret fun v w' => v = .tuple #[.int .i64 s.size, .nilIface] ∧ Sep E [bld H.size b (l ++ bs s), objB m o, old H] w') := by
  obtain ⟨henv, F1, hb, hF1, F2, hm, hF2, F3, ho, hF3, _⟩ := h
  have hH : H.size ≤ w.heap.size := by
    rcases Nat.eq_zero_or_pos H.size with h0 | h0
    · omega
    · have := (hF3 (H.size - 1) ((ho.2 _).2 (by omega))).1; omega
  refine (Any.Builder_WriteString_k Tryd.bwL Tryd.bwX H.size b (Lib.byteCells l) s w (bld.is hb) (by rw [Lib.byteCells_length]; exact hlen) hH).mono ?_
  rintro e w' ⟨rfl, ⟨hB, v, h3, h4, h6⟩, hbel, hkept⟩
  have hlen2 : Lib.byteCells l ++ Lib.strCells s = Lib.byteCells (l ++ bs s) := by rw [Lib.byteCells_append, Lib.strCells_eq]
  rw [hlen2] at h4
  obtain ⟨hmap, hm2⟩ := hm
  obtain ⟨p0, v0, _, _, _, _, _, hF1'⟩ := hb
  have hmb : m ≠ b := fun e => (hF2 m ((hm2 m).2 rfl)).2 (.inr ((hF1' m).2 (.inl e)))
  have hmap' : w'.heap[m]? = some o := hkept m _ hmap (by simpa using hmb) (fun c fz hh => ho5 c fz hh)
  have hbs : b < w'.heap.size := by
    rcases Nat.lt_or_ge b w'.heap.size with h' | h'
    · exact h'
    · simp [Array.getElem?_eq_none h'] at h3
  have hms : m < w'.heap.size := by
    rcases Nat.lt_or_ge m w'.heap.size with h' | h'
    · exact h'
    · simp [Array.getElem?_eq_none h'] at hmap'
  have hg : ∀ x, v.ownBlock = some x → x < w'.heap.size ∧ H.size ≤ x ∧ x ≠ m := by
    intro x hx
    rcases h4.2 with ⟨rfl, _⟩ | ⟨g, cap, cur, fz, rfl, h8, h9, _⟩
    · simp [Value.ownBlock] at hx
    · have hx : g = x := by simpa [Value.ownBlock] using hx
      subst hx
      refine ⟨?_, h8, ?_⟩
      · rcases Nat.lt_or_ge g w'.heap.size with h' | h'
        · exact h'
        · simp [Array.getElem?_eq_none h'] at h9
      · intro e; subst e; rw [hmap'] at h9; exact ho5 _ _ (Option.some.inj h9)
  refine ⟨_, rfl, rfl, ?_, (fun x => x = b ∨ v.ownBlock = some x), ⟨_, v, .inr rfl, hB, h3, h4, h6, fun x => Iff.rfl⟩, ?_, (fun x => x = m), ⟨hmap', fun x => Iff.rfl⟩, ?_, (fun x => x < H.size), ⟨fun x hx => ?_, fun x => Iff.rfl⟩, ?_, trivial⟩
  · rw [← henv]; simp only [World.env, hbel.os, hbel.tape, hbel.output]
  · rintro x (rfl | hx)
    · exact ⟨hbs, id⟩
    · exact ⟨(hg x hx).1, id⟩
  · rintro x rfl
    refine ⟨hms, ?_⟩
    rintro (hh | hh | hh)
    · exact hh
    · exact hmb hh
    · exact (hg _ hh).2.2 rfl
  · rw [hbel.block x hx]; exact ho.1 x hx
  · intro x hx
    refine ⟨by have := hbel.size; omega, ?_⟩
    rintro ((hh | hh | hh) | hh)
    · exact hh
    · omega
    · have := (hg _ hh).2.1; omega
    · subst hh
      exact (hF3 x ((ho.2 x).2 hx)).2 (.inr ((hm2 x).2 rfl))

theorem c_BS {H : Array Obj} {b : Nat} {l : Bytes} (h : Sep E [bld H.size b l, old H] w) :
    Calls P fn_strings_Builder_String #[.pointer (some ⟨b, 0, none⟩)] w (Ret fun v w' => v = .string (mk l) ∧ Sep E [old H] w') := by
  obtain ⟨henv, F1, hb, hF1, F3, ho, hF3, _⟩ := h
  have hH : H.size ≤ w.heap.size := by
    rcases Nat.eq_zero_or_pos H.size with h0 | h0
    · omega
    · have := (hF3 (H.size - 1) ((ho.2 _).2 (by omega))).1; omega
  refine (Any.Builder_String_any_k Tryd.bsL Tryd.bsX H.size b l w (bld.is hb) hH).mono ?_
  rintro e w' ⟨rfl, _, hbel, _⟩
  refine ⟨_, rfl, rfl, ?_, (fun x => x < H.size), ⟨fun x hx => ?_, fun x => Iff.rfl⟩, ?_, trivial⟩
  · rw [← henv]; simp only [World.env, hbel.os, hbel.tape, hbel.output]
  · rw [hbel.block x hx]; exact ho.1 x hx
  · intro x hx
    have := hbel.size
    exact ⟨by omega, id⟩

/-- All that was there is there still. -/
theorem grow_old {W : World} {L' : List Asn} {i : Nat} (hE : World.env W = E) (h : Sep E L' w) (hi : L'[i]? = some (old W.heap)) : Grow W w := by
  subst hE
  have hb := h.below hi
  exact ⟨hb.os, hb.tape, hb.output, hb.size, hb.block⟩

end Go.Mp
