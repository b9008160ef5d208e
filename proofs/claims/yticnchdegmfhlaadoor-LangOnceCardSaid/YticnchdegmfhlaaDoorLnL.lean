/- What the library does with texts: by the kit's contracts. -/
import Derived.Test.YticnchdegmfhlaaDoorLn0
import Derived.Test.YticnchdegmfhlaaDoorLnS
import Derived.Test.YticnchdegmfhlaaDoorLnP
import Derived.Test.YticnchdegmfhlaaDoorWalk
import Derived.Lib.AtoiErrMem
set_option maxRecDepth 100000
namespace Go.Mp
open Go Go.Vc Go.Sp Go.Proofs Go.Ct

variable {E : Env} {L : List Asn} {w : World}

abbrev bs (s : ByteArray) : Bytes := s.data.toList
abbrev mk (l : Bytes) : ByteArray := ⟨l.toArray⟩
theorem bs_mk (l : Bytes) : bs (mk l) = l := rfl
theorem mk_bs (s : ByteArray) : mk (bs s) = s := Lib.mk_data s
theorem bs_len (s : ByteArray) : (bs s).length = s.size := (Lib.size_eq s).symm
theorem mk_size (l : Bytes) : (mk l).size = l.length := by rw [← bs_len]
theorem bs_inj {s t : ByteArray} (h : bs s = bs t) : s = t := by rw [← mk_bs s, ← mk_bs t, h]
theorem bs_append (s t : ByteArray) : bs (s ++ t) = bs s ++ bs t := by
  unfold bs; rw [ByteArray.data_append]; simp
theorem bs_sub (s : ByteArray) (a b : Nat) : bs (s.extract a b) = ((bs s).drop a).take (b - a) := Lib.extract_data s a b
theorem beq_bs (s t : ByteArray) : (s.toList == t.toList) = decide (bs s = bs t) := by
  rw [Lib.toList_data, Lib.toList_data]
  by_cases h : bs s = bs t
  · rw [decide_eq_true h, beq_iff_eq]; exact h
  · rw [decide_eq_false h, beq_eq_false_iff_ne]; exact h
theorem bS {s t : ByteArray} {A B : Prop} (h1 : bs s = bs t → A) (h2 : bs s ≠ bs t → B) : bif (s.toList == t.toList) then A else B := by
  rw [beq_bs]
  by_cases h : bs s = bs t
  · rw [decide_eq_true h]; exact h1 h
  · rw [decide_eq_false h]; exact h2 h
theorem bSn {s t : ByteArray} {A B : Prop} (h1 : bs s ≠ bs t → A) (h2 : bs s = bs t → B) : bif (!(s.toList == t.toList)) then A else B := by
  rw [beq_bs]
  by_cases h : bs s = bs t
  · rw [decide_eq_true h]; exact h2 h
  · rw [decide_eq_false h]; exact h1 h
theorem strI {s : ByteArray} {i : Int} {f : Int → Prop} (k : Nat) (hi : i = k) {c : UInt8} (hc : (bs s)[k]? = some c) (h : f (c.toNat : Int)) : strAt s i f := by
  subst hi
  refine ⟨by omega, c, ?_, h⟩
  have hlt := (List.getElem?_eq_some_iff.1 hc).1
  have hlt' : k < s.size := by rw [← bs_len]; exact hlt
  have := Lib.data_getElem? s k hlt'
  rw [show s.data.toList[k]? = some c from hc] at this
  have e : s[k] = c := (Option.some.inj this).symm
  simp only [Int.toNat_natCast]
  rw [getElem?_pos s k hlt', e]

/-- What the library's variables hold. -/
structure Libs (w : World) : Prop where
  tab : ∀ n, P.globalNamed n = some (Tryd.itoaL_ren.g 17) → Lib.TabIs P w n .u64 Lib.pow10Tab
  max : ∃ m, w.cell? ⟨Tryd.cutL_ren.g 1, 0, none⟩ = some (.int .i64 m)
  syn : ∃ ev, w.cell? ⟨Tryd.atoiL_ren.g 15, 0, none⟩ = some ev ∧ (ev = .nilIface ∨ ∃ te pe, ev = .iface te pe)
  rng : ∃ ev, w.cell? ⟨Tryd.atoiL_ren.g 16, 0, none⟩ = some ev ∧ (ev = .nilIface ∨ ∃ te pe, ev = .iface te pe)

theorem cell_of {W w : World} (h : ∀ b, b < W.heap.size → w.heap[b]? = W.heap[b]?) {a : Addr} {v : Value} (hc : W.cell? a = some v) : w.cell? a = some v := by
  have hb : a.block < W.heap.size := by
    rcases Nat.lt_or_ge a.block W.heap.size with h' | h'
    · exact h'
    · simp [World.cell?, Array.getElem?_eq_none h'] at hc
  unfold World.cell? at hc ⊢
  rw [h _ hb]; exact hc

theorem Libs.keep {W w : World} (l : Libs W) (h : ∀ b, b < W.heap.size → w.heap[b]? = W.heap[b]?) : Libs w := by
  refine ⟨fun n hn => ?_, ?_, ?_, ?_⟩
  · have := l.tab n hn
    unfold Lib.TabIs World.var? at this ⊢
    rw [hn] at this ⊢
    have hb : Tryd.itoaL_ren.g 17 < W.heap.size := by
      rcases Nat.lt_or_ge (Tryd.itoaL_ren.g 17) W.heap.size with h' | h'
      · exact h'
      · simp [Array.getElem?_eq_none h'] at this
    simp only [Option.bind_some] at this ⊢
    rw [h _ hb]; exact this
  · obtain ⟨m, hm⟩ := l.max; exact ⟨m, cell_of h hm⟩
  · obtain ⟨m, hm, he⟩ := l.syn; exact ⟨m, cell_of h hm, he⟩
  · obtain ⟨m, hm, he⟩ := l.rng; exact ⟨m, cell_of h hm, he⟩
theorem Libs.grow {W w : World} (l : Libs W) (g : Grow W w) : Libs w := l.keep g.heap
theorem Libs.old {W w : World} (l : Libs W) {i : Nat} (hi : L[i]? = some (old W.heap)) (h : Sep E L w) : Libs w := l.keep ((h.fr i hi).oldBlock)

theorem Grow.of_below {w w' : World} {B : Nat} (h : RowKit.Below B w w') (hB : w.heap.size ≤ B) : Grow w w' := ⟨h.os, h.tape, h.output, h.size, fun b hb => h.block b (by omega)⟩
theorem Grow.drewN (w : World) (n : Nat) : Grow w (w.drewN n) := ⟨rfl, rfl, rfl, Nat.le_refl _, fun _ _ => rfl⟩
theorem Grow.grow (w : World) (os : Array Obj) : Grow w (Sort.grow w os) :=
  ⟨rfl, rfl, rfl, by simp [Sort.grow], fun b hb => by simp [Sort.grow, Array.getElem?_append, hb]⟩

theorem c_Itoa {n : Int} (hn : i64 n) (l : Libs w) (h : Sep E L w) : Calls P fn_strconv_Itoa #[.int .i64 n] w (Ret fun v w' => v = .string (mk (Lib.itoa n)) ∧ Grow w w' ∧ Sep E L w') := by
  refine (Any.strconv_Itoa Tryd.itoaL n hn.1 hn.2 w (l.tab _ Tryd.itoaL.m17)).mono ?_
  rintro e w' ⟨rfl, k, os, rfl⟩
  have g := (Grow.drewN w k).trans (Grow.grow _ os)
  exact ⟨_, rfl, rfl, g, h.grow g⟩

theorem c_Cut (s sep : ByteArray) (hs : s.size < 4294967281) (l : Libs w) (h : Sep E L w) : Calls P fn_strings_Cut #[.string s, .string sep] w (Ret fun v w' => v = .tuple #[.string (mk (Lib.cut (bs s) (bs sep)).1), .string (mk (Lib.cut (bs s) (bs sep)).2.1), .bool (Lib.cut (bs s) (bs sep)).2.2] ∧ Grow w w' ∧ Sep E L w') := by
  obtain ⟨m, hm⟩ := l.max
  refine (Any.strings_Cut { Tryd.cutL with } s sep m w hs hm).mono ?_
  rintro e w' ⟨rfl, n, rfl⟩
  exact ⟨_, rfl, rfl, Grow.drewN w n, h.grow (Grow.drewN w n)⟩

theorem bytesWorld_grow (w : World) (e : TypeId) (s : ByteArray) : Grow w (Lib.bytesWorld w e s) := Grow.of_below (Lib.bytesWorld_below w e s) (Nat.le_refl _)

/-- Atoi: the number, or an error. -/
def AtoiEnd (s : Bytes) (n : Int) (e : Value) : Prop :=
  match Lib.atoiAll s with
  | .ok m => n = m ∧ e = .nilIface
  | _ => ∃ t N, P.underlying t = some (.pointer (Tryd.atoiL_ren.t 210)) ∧ e = .iface t (.pointer (some ⟨N, 0, none⟩))
theorem c_Atoi (s : ByteArray) (hs : s.size ≤ 281474976710656) (l : Libs w) (h : Sep E L w) : Calls P fn_strconv_Atoi #[.string s] w (Ret fun v w' => ∃ n e, v = .tuple #[.int .i64 n, e] ∧ AtoiEnd (bs s) n e ∧ Grow w w' ∧ Sep E L w') := by
  unfold AtoiEnd
  rcases hr : Lib.atoiAll (bs s) with m | _ | _
  · refine (Any.strconv_Atoi_ok Tryd.atoiL s (by omega) m hr w).mono ?_
    rintro e w' ⟨rfl, hw⟩
    have g : Grow w w' := by
      rcases hw with rfl | ⟨t, rfl⟩
      · exact Grow.refl _
      · exact bytesWorld_grow _ _ _
    exact ⟨_, rfl, _, _, rfl, ⟨rfl, rfl⟩, g, h.grow g⟩
  · obtain ⟨ev, h1, h2⟩ := l.syn
    refine (Any.strconv_Atoi_syntax Tryd.atoiL s hs hr ev w h1 h2).mono ?_
    rintro e w' ⟨N, rfl, _, _, hb⟩
    have g := Grow.of_below hb (Nat.le_refl _)
    exact ⟨_, rfl, _, _, rfl, ⟨_, N, Tryd.atoiL.t168, rfl⟩, g, h.grow g⟩
  · obtain ⟨ev, h1, h2⟩ := l.rng
    refine (Any.strconv_Atoi_range Tryd.atoiL s hs hr ev w h1 h2).mono ?_
    rintro e w' ⟨N, rfl, _, _, hb⟩
    have g := Grow.of_below hb (Nat.le_refl _)
    exact ⟨_, rfl, _, _, rfl, ⟨_, N, Tryd.atoiL.t168, rfl⟩, g, h.grow g⟩

theorem ren_cut : Tryd.splitL_ren.g 1 = Tryd.cutL_ren.g 1 := rfl
def strV (x : Bytes) : Value := .string (mk x)
def strL (l : List Bytes) : List Value := l.map strV

theorem splitB_sp (s : ByteArray) (c : UInt8) : (Lib.splitB ⟨#[c]⟩ 0 (Lib.countB s ⟨#[c]⟩) s).map Value.string = strL (Lg.sp c (bs s)) := by
  have h := Lib.splitB_data ⟨#[c]⟩ 0 (Lib.countB s ⟨#[c]⟩) s
  have e : Lib.splitK [c] 0 (Lib.countB s ⟨#[c]⟩) (bs s) = Lg.sp c (bs s) := Lg.splitK_sp c _ _ rfl
  have h : (Lib.splitB ⟨#[c]⟩ 0 (Lib.countB s ⟨#[c]⟩) s).map bs = Lg.sp c (bs s) := h.trans e
  rw [← h]
  unfold strL
  rw [List.map_map]
  apply List.map_congr_left
  intro x _
  show _ = Value.string (mk (bs x))
  rw [mk_bs]

/-- Split at one byte: the pieces, in a row of their own. -/
theorem c_Split (s : ByteArray) (c : UInt8) (hs : s.size < 4294967281) (l : Libs w) (h : Sep E L w) :
    Calls P fn_strings_Split #[.string s, .string ⟨#[c]⟩] w (Ret fun v w' => ∃ b n, v = .slice (some ⟨b, 0, none⟩) n n ∧ n = (Lg.sp c (bs s)).length ∧ Grow w w' ∧ Sep E (blk b (strL (Lg.sp c (bs s))) :: L) w') := by
  obtain ⟨m, hm⟩ := l.max
  refine (Any.strings_Split { Tryd.splitL with } (by kernel_rfl) s ⟨#[c]⟩ m w hs (by rw [ren_cut]; exact hm) (by show 1 ≤ 1; omega)).mono ?_
  rintro e w' ⟨rfl, rfl⟩
  have hl := congrArg List.length (splitB_sp s c)
  rw [List.length_map, Lib.splitB_all ⟨#[c]⟩ (by show 1 ≤ 1; omega) 0 _ s rfl] at hl
  refine ⟨_, rfl, w.heap.size, _, rfl, by rw [hl]; simp [strL], Grow.alloc w _, ?_⟩
  rw [splitB_sp]
  exact h.alloc (strL (Lg.sp c (bs s))).toArray (Tryd.splitL_ren.t 9)

/-- Join: texts in a row of their own. -/
theorem c_Join {s : Sl} {ws : List Bytes} {q : Nat} (sep : ByteArray) (hq : L[q]? = some (rowA s 1 (strL ws))) (hn : s.n = ws.length) (h0 : ws ≠ []) (hN : ws.length ≤ 1000000) (hlen : (Lib.join ws (bs sep)).length ≤ 140737488355328) (h : Sep E L w) :
    Calls P fn_strings_Join #[.slice s.p s.n s.c, .string sep] w (Ret fun v w' => v = .string (mk (Lib.join ws (bs sep))) ∧ Grow w w' ∧ Sep E L w') := by
  have hpos : 0 < ws.length := by
    rcases Nat.eq_zero_or_pos ws.length with h' | h'
    · exact absurd (List.eq_nil_of_length_eq_zero h') h0
    · exact h'
  have h1 := h.fr q hq
  obtain ⟨b, spare, hp, hl, hl2, hc, h2⟩ := rowA.get_ h1 (by omega)
  have hcells : ∀ (j : Nat) x, (ws.map mk)[j]? = some x → w.cell? ⟨b, 0 + j, none⟩ = some (.string x) := by
    intro j x hx
    rw [List.getElem?_map] at hx
    obtain ⟨y, hy, rfl⟩ := Option.map_eq_some_iff.1 hx
    have hj := (List.getElem?_eq_some_iff.1 hy).1
    rw [Nat.zero_add, rowA.cell h2 (by simpa [strL] using hj)]
    simp [strL, strV, hy]
  have hb : b < w.heap.size := by
    obtain ⟨t, z, hz, _⟩ := h2.block
    rcases Nat.lt_or_ge b w.heap.size with h' | h'
    · exact h'
    · simp [Array.getElem?_eq_none h'] at hz
  have hmap : (ws.map mk).map (·.data.toList) = ws := by
    rw [List.map_map]
    conv => rhs; rw [← List.map_id ws]
    apply List.map_congr_left
    intro x _; rfl
  have := Any.strings_Join Tryd.joinL Tryd.joinX b 0 s.c (ws.map mk) sep w hcells hb (by simp; omega) (by simp; omega) (by rw [hmap]; exact hlen)
  rw [hmap, List.length_map, ← hn, ← hp] at this
  refine this.mono ?_
  rintro e w' ⟨rfl, hbel⟩
  have g := Grow.of_below hbel (Nat.le_refl _)
  exact ⟨_, rfl, rfl, g, h.grow g⟩

end Go.Mp
