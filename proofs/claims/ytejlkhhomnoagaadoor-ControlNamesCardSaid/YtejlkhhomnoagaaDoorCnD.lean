/- A stat file's text. -/
import Derived.Test.YtejlkhhomnoagaaDoorCnC
set_option maxRecDepth 100000
namespace Go.Mp
open Go Go.Vc Go.Sp Go.Proofs Go.Ct

variable {E : Env} {L : List Asn} {w : World}

def encS (s : ByteArray) : Value := .string s
theorem K_str : KeyOf P ty_string encS := KeyOf.str (by kernel_rfl)
theorem mS : mQ P 51 = some (ty_string, .bool false) := by kernel_rfl
theorem slStr : slQ P 28 = some (16, 1, [.string ⟨#[]⟩]) := by kernel_rfl
theorem slInt : slQ P 29 = some (8, 1, [.int .i64 0]) := by kernel_rfl

def strV (x : Bytes) : Value := .string (mk x)
def strL (l : List Bytes) : List Value := l.map strV

/-- A row of texts, of numbers, that can be read. -/
structure Strs (w : World) (s : Sl) (ns : List Bytes) : Prop where
  n : s.n = ns.length
  rd : ∀ (i : Nat) x, ns[i]? = some x → ∃ a, s.p = some a ∧ w.cell? (a.add i) = some (strV x)
structure Intz (w : World) (s : Sl) (vs : List Int) : Prop where
  n : s.n = vs.length
  rd : ∀ (i : Nat) x, vs[i]? = some x → ∃ a, s.p = some a ∧ w.cell? (a.add i) = some (.int .i64 x)
theorem Strs.grow {W : World} {s : Sl} {ns : List Bytes} (h : Strs W s ns) (g : Grow W w) : Strs w s ns := ⟨h.n, fun i x hx => let ⟨a, h1, h2⟩ := h.rd i x hx; ⟨a, h1, g.cell h2⟩⟩
theorem Intz.grow {W : World} {s : Sl} {ns : List Int} (h : Intz W s ns) (g : Grow W w) : Intz w s ns := ⟨h.n, fun i x hx => let ⟨a, h1, h2⟩ := h.rd i x hx; ⟨a, h1, g.cell h2⟩⟩
theorem Strs.at_ {s : Sl} {ns : List Bytes} {i : Int} {f : Addr → Prop} (h : Strs w s ns) (k : Nat) (hi : i = k) {x : Bytes} (hx : ns[k]? = some x) (kk : ∀ a, (∀ w', Strs w' s ns → w'.cell? a = some (strV x)) → f a) : elAt s.p s.n i 1 f := by
  have hlt := (List.getElem?_eq_some_iff.1 hx).1
  obtain ⟨a, hp, _⟩ := h.rd k x hx
  have := h.n
  refine ⟨a, hp, ⟨by omega, by omega⟩, kk _ (fun w' h' => ?_)⟩
  obtain ⟨a', hp', ha'⟩ := h'.rd k x hx
  have e : a' = a := by rw [hp] at hp'; exact (Option.some.inj hp').symm
  subst e
  have e2 : i.toNat * 1 = k := by omega
  rw [e2]; exact ha'
theorem Strs.el {s : Sl} {ns : List Bytes} {i : Int} {F : ByteArray → Prop} (h : Strs w s ns) (k : Nat) (hi : i = k) {x : Bytes} (hx : ns[k]? = some x) (f : F (Mp.mk x)) : elAt s.p s.n i 1 fun a => ∃ v : ByteArray, w.cell? a = some (.string v) ∧ F v :=
  h.at_ k hi hx (fun _ ha => ⟨Mp.mk x, ha w h, f⟩)
theorem Intz.at_ {s : Sl} {ns : List Int} {i : Int} {f : Addr → Prop} (h : Intz w s ns) (k : Nat) (hi : i = k) {x : Int} (hx : ns[k]? = some x) (kk : ∀ a, w.cell? a = some (.int .i64 x) → f a) : elAt s.p s.n i 1 f := by
  have hlt := (List.getElem?_eq_some_iff.1 hx).1
  obtain ⟨a, hp, ha⟩ := h.rd k x hx
  have := h.n
  refine ⟨a, hp, ⟨by omega, by omega⟩, kk _ ?_⟩
  have e2 : i.toNat * 1 = k := by omega
  rw [e2]; exact ha
theorem Intz.el {s : Sl} {ns : List Int} {i : Int} {F : Int → Prop} (h : Intz w s ns) (k : Nat) (hi : i = k) {x : Int} (hx : ns[k]? = some x) (f : F x) : elAt s.p s.n i 1 fun a => ∃ v : Int, w.cell? a = some (.int .i64 v) ∧ F v :=
  h.at_ k hi hx (fun _ ha => ⟨x, ha, f⟩)

/-- The names that were met. -/
def metF (ns : List Bytes) : ByteArray → Option Value := fun s => if bs s ∈ ns then some (.bool true) else none
theorem metF_nil : metF [] = fun _ => none := by funext s; simp [metF]
theorem metF_add (ns : List Bytes) (x : ByteArray) : upd (metF ns) x (some (.bool true)) = metF (ns ++ [bs x]) := by
  funext s
  unfold upd metF
  by_cases h : s = x
  · subst h; simp
  · have : bs s ≠ bs x := fun e => h (bs_inj e)
    simp [h, this]
theorem look {m i : Nat} {ns : List Bytes} (x : ByteArray) (h : Sep E L w) (hi : L[i]? = some (mapF m encS (metF ns))) : LookV P 51 (.map (some m)) (.string x) false w (.bool (decide (bs x ∈ ns))) := by
  have := LookV.i false i h hi K_str mS x
  have e : ((metF ns x).getD (.bool false)) = .bool (decide (bs x ∈ ns)) := by
    unfold metF
    by_cases hx : bs x ∈ ns
    · rw [if_pos hx, decide_eq_true hx]; rfl
    · rw [if_neg hx, decide_eq_false hx]; rfl
  simp only [e] at this
  exact this

theorem Al.bld {H : Array Obj} {f : Addr → World → Prop} (h : Sep E [old H] w) (k : ∀ b w1, Sep E [bld H.size b [], old H] w1 → f ⟨b, 0, none⟩ w1) : Al (.cells #[.pointer none, .slice none 0 0] 50) f w := k _ _ (bld.new h rfl)

theorem line_len {x : Bytes × Int} (h : LineOk x) : (line x).length ≤ 63 := by
  have h1 := word_len h.1
  have h2 := Lib.itoa_length_le x.2 h.2.1 h.2.2
  simp [line]; omega
theorem render_len : ∀ {l : List (Bytes × Int)}, (∀ x ∈ l, LineOk x) → (render l).length ≤ l.length * 63
  | [], _ => by simp [render]
  | x :: l, h => by
    have h1 := line_len (h x (by simp))
    have h2 := render_len (l := l) (fun y hy => h y (by simp [hy]))
    have : render (x :: l) = line x ++ render l := by simp [render]
    rw [this, List.length_append, List.length_cons]; omega

theorem zip_ok {ns : List Bytes} {vs : List Int} {k : Nat} (hw : ∀ s ∈ ns.take k, word s = true) (hv : ∀ v ∈ vs, i64 v) : ∀ x ∈ (ns.zip vs).take k, LineOk x := by
  intro x hx
  have hx : x ∈ (ns.take k).zip (vs.take k) := by rw [List.zip, ← List.take_zipWith]; exact hx
  obtain ⟨a, b⟩ := x
  have := List.of_mem_zip hx
  exact ⟨hw a this.1, hv b (List.mem_of_mem_take this.2)⟩
theorem zip_at {ns : List Bytes} {vs : List Int} {k : Nat} {a : Bytes} {b : Int} (ha : ns[k]? = some a) (hb : vs[k]? = some b) : (ns.zip vs)[k]? = some (a, b) := by
  rw [List.getElem?_zip_eq_some]; exact ⟨ha, hb⟩
theorem render_step {l : List (Bytes × Int)} {k : Nat} {x : Bytes × Int} (h : l[k]? = some x) : render (l.take (k + 1)) = render (l.take k) ++ line x := by
  rw [take_succ h, render_append, render_one]

def StatEnd (ns : List Bytes) (vs : List Int) (v : Value) : Prop := v = .tuple #[.string (mk ((stat ns vs).getD [])), .int .i64 (if (stat ns vs).isSome then 0 else 1)]
theorem StatEnd.bad {ns : List Bytes} {vs : List Int} (h : ¬ statOk ns vs) : StatEnd ns vs (.tuple #[.string (ByteArray.mk #[]), .int .i64 1]) := by
  unfold StatEnd; rw [stat_none h]; rfl
theorem StatEnd.good {ns : List Bytes} {vs : List Int} (h : statOk ns vs) : StatEnd ns vs (.tuple #[.string (mk (render (ns.zip vs))), .int .i64 0]) := by
  unfold StatEnd; rw [stat_some h]; rfl

theorem not_word {ns : List Bytes} {vs : List Int} {k : Nat} {a : Bytes} (ha : ns[k]? = some a) (h : word a = false) : ¬ statOk ns vs := fun hh => by
  have := hh.2.2.1 a (List.mem_of_getElem? ha)
  rw [h] at this; cases this
theorem not_twice {ns : List Bytes} {vs : List Int} {k : Nat} {a : Bytes} (ha : ns[k]? = some a) (h : a ∈ ns.take k) : ¬ statOk ns vs := fun hh => by
  have hnd := hh.2.2.2
  rw [← List.take_append_drop k ns, List.nodup_append] at hnd
  refine hnd.2.2 a h a ?_ rfl
  rw [List.mem_iff_getElem?]
  exact ⟨0, by rw [List.getElem?_drop]; simpa using ha⟩
theorem nodup_step {ns : List Bytes} {k : Nat} {a : Bytes} (ha : ns[k]? = some a) (hnd : (ns.take k).Nodup) (h : a ∉ ns.take k) : (ns.take (k + 1)).Nodup := by
  rw [take_succ ha, List.nodup_append]
  refine ⟨hnd, by simp, fun x hx y hy e => ?_⟩
  rw [List.mem_singleton.1 hy] at e
  exact h (e ▸ hx)
theorem word_step {ns : List Bytes} {k : Nat} {a : Bytes} (ha : ns[k]? = some a) (hw : ∀ s ∈ ns.take k, word s = true) (h : word a = true) : ∀ s ∈ ns.take (k + 1), word s = true := by
  intro s hs
  rw [take_succ ha] at hs
  rcases List.mem_append.1 hs with hs | hs
  · exact hw s hs
  · rw [List.mem_singleton.1 hs]; exact h

theorem c_Stat {sn sv : Sl} {ns : List Bytes} {vs : List Int} (l : Libs w) (hN : Strs w sn ns) (hV : Intz w sv vs) (hv : ∀ v ∈ vs, i64 v) (hb : ∀ s ∈ ns, s.length < 1000000) (hn : ns.length < 4611686018427387904) (h : Sep E L w) :
    Calls P fn_control_Stat #[.slice sn.p sn.n sn.c, .slice sv.p sv.n sv.c] w (Ret fun v w' => StatEnd ns vs v ∧ Grow w w' ∧ Sep E L w') := by
  apply of_control_Stat
  unfold sh_control_Stat
  have hsn := hN.n
  have hsv := hV.n
  refine ⟨fun w' => w' = w ∧ ns.length = vs.length ∧ ns.length ≤ 100, ?_, ?_⟩
  · refine bNe (fun hne => ⟨.bad (fun hh => hne (by have := hh.1; omega)), Grow.refl _, h⟩) (fun he => ?_)
    exact bGt (fun hgt => ⟨.bad (fun hh => by have := hh.2.1; omega), Grow.refl _, h⟩) (fun hle => ⟨rfl, by omega, by omega⟩)
  · rintro _ w2 ⟨rfl, h1, h2⟩
    have h0 := Sep.start w2
    have fin : ∀ {w' : World} {L' : List Asn} {i : Nat}, Sep (World.env w2) L' w' → L'[i]? = some (old w2.heap) → Grow w2 w' := fun hh hi => grow_old rfl hh hi
    refine Al.bld h0 (fun b w3 h3 => ?_)
    refine mapF.new (enc := encS) h3 (fun m w4 h4 => ?_)
    refine ⟨fun x w' => ∃ k : Nat, x = k ∧ k ≤ ns.length ∧ (∀ s ∈ ns.take k, word s = true) ∧ (ns.take k).Nodup ∧ Sep (World.env w2) [bld w2.heap.size b (render ((ns.zip vs).take k)), mapF m encS (metF (ns.take k)), old w2.heap] w',
      fun x _ => (ns.length - x).toNat, ⟨0, rfl, Nat.zero_le _, by simp, by simp, by rw [List.take_zero, List.take_zero, metF_nil]; exact h4.swap⟩, ?_⟩
    rintro _ x w5 ⟨k, rfl, hk, hw, hnd, h5⟩
    have g5 := fin (i := 2) h5 rfl
    refine bLt (fun hlt => ?_) (fun hge => ?_)
    · obtain ⟨a, ha⟩ : ∃ a, ns[k]? = some a := ⟨_, List.getElem?_eq_getElem (by omega)⟩
      obtain ⟨c, hc⟩ : ∃ c, vs[k]? = some c := ⟨_, List.getElem?_eq_getElem (by omega)⟩
      have hac := hb a (List.mem_of_getElem? ha)
      refine (hN.grow g5).el k rfl ha ?_
      refine ⟨fun w' => word a = true ∧ a ∉ ns.take k ∧ Sep (World.env w2) [bld w2.heap.size b (render ((ns.zip vs).take k)), mapF m encS (metF (ns.take k)), old w2.heap] w', ?_, ?_⟩
      · refine use (c_Word (mk a) (by rw [bs_mk]; omega)) ?_
        rintro _ w6 ⟨rfl, rfl⟩
        refine ⟨_, rfl, ?_⟩
        rw [bs_mk]
        refine bifI (fun hh => ⟨.bad (not_word ha (by simpa using hh)), g5, h.grow g5⟩) (fun hh => ?_)
        refine ⟨_, look (i := 1) (mk a) h5 rfl, ?_⟩
        rw [bs_mk]
        refine bifI (fun hm => ⟨.bad (not_twice ha (by simpa using hm)), g5, h.grow g5⟩) (fun hm => ⟨by simpa using hh, by simpa using hm, h5⟩)
      · rintro _ w6 ⟨hwa, hna, h6⟩
        refine mapUpdate.i (h6.swap) K_str mS (mk a) (.bool true) (fun w7 h7 => ?_)
        rw [metF_add, bs_mk, ← take_succ ha] at h7
        have h7 := h7.swap
        have g7 := fin (i := 2) h7 rfl
        have s32 : (ByteArray.mk #[32]).size = 1 := rfl
        have s10 : (ByteArray.mk #[10]).size = 1 := rfl
        have hi := hv c (List.mem_of_getElem? hc)
        have hil := Lib.itoa_length_le c hi.1 hi.2
        refine ⟨by rw [mk_size, s32]; omega, ?_⟩
        refine (hV.grow g7).el k rfl hc ?_
        refine use (c_Itoa hi (l.grow g7) h7) ?_
        rintro _ w8 ⟨rfl, g, h8⟩
        have e1 : (mk a ++ ByteArray.mk #[32]).size = a.length + 1 := by rw [ByteArray.size_append, mk_size, s32]
        have e2 : (mk a ++ ByteArray.mk #[32] ++ mk (Lib.itoa c)).size = a.length + 1 + (Lib.itoa c).length := by rw [ByteArray.size_append, e1, mk_size]
        refine ⟨_, rfl, by rw [e1, mk_size]; omega, by rw [e2, s10]; omega, ?_⟩
        have el : bs (mk a ++ ByteArray.mk #[32] ++ mk (Lib.itoa c) ++ ByteArray.mk #[10]) = line (a, c) := by
          rw [bs_append, bs_append, bs_append, bs_mk, bs_mk]
          show a ++ [32] ++ Lib.itoa c ++ [10] = _
          simp [line]
        have hrl := render_len (zip_ok (k := k) hw hv)
        have htl : ((ns.zip vs).take k).length ≤ 100 := by rw [List.length_take, List.length_zip]; omega
        refine use (c_WS _ (by rw [ByteArray.size_append, e2, s10]; omega) h8) ?_
        rintro _ w9 ⟨rfl, h9⟩
        rw [el, ← render_step (zip_at ha hc)] at h9
        exact ⟨_, _, rfl, ⟨k + 1, wrapS (by omega), by omega, word_step ha hw hwa, nodup_step ha hnd hna, h9⟩, by rw [wrapS (by omega)]; dsimp only; omega⟩
    · have e : k = ns.length := by omega
      subst e
      refine use (c_BS h5) ?_
      rintro _ w6 ⟨rfl, h6⟩
      have g6 := fin (i := 0) h6 rfl
      refine ⟨_, rfl, ?_, g6, h.grow g6⟩
      have ez : (ns.zip vs).take ns.length = ns.zip vs := List.take_of_length_le (by rw [List.length_zip]; omega)
      rw [ez]
      refine .good ⟨h1, h2, ?_, ?_⟩
      · rw [List.take_length] at hw; exact hw
      · rw [List.take_length] at hnd; exact hnd

end Go.Mp
