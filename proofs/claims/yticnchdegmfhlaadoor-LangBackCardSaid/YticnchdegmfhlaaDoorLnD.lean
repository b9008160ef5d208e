/- An operation's line. -/
import Derived.Test.YticnchdegmfhlaaDoorLnC
set_option maxRecDepth 100000
namespace Go.Mp
open Go Go.Vc Go.Sp Go.Proofs Go.Ct Go.Lg

variable {E : Env} {L : List Asn} {w W : World}

theorem slStr : slQ P 32 = some (16, 1, [.string ⟨#[]⟩]) := by kernel_rfl
theorem str_push {s : Sl} {q : Nat} {l : List Bytes} {x : ByteArray} (hn : s.n = l.length) (hb : l.length < 100000000) (h : Sep E (blk q [.string x] :: rowA s 1 (strL l) :: L) w) {G : Sl → World → Prop}
    (g : ∀ s' w1, s'.n = (l ++ [bs x]).length → Sep E (rowA s' 1 (strL (l ++ [bs x])) :: L) w1 → G s' w1) :
    ∃ x1 : Sl, ∃ w1, Sem.run P (Builtin.append_ #[32, 32] 32 #[.slice s.p s.n s.c, .slice (some ⟨q, 0, none⟩) 1 1]) w = .ok (.slice x1.p x1.n x1.c) w1 ∧ G x1 w1 := by
  have hs := Src.blk (n := 1) (c := 1) h (i := 0) rfl slStr rfl (fun u hu => by
    simp at hu; subst hu; rfl)
  refine rowA.append h.swap slStr rfl hs (by omega) (by rw [hn]; omega) (fun s' w1 hs' h1 => g s' w1 (by rw [hs', hn]; simp) ?_)
  have e : strL (l ++ [bs x]) = strL l ++ [.string x] := by simp [strL, strV, mk_bs]
  rw [e]
  exact (h1.fr 0 rfl).ro 2 [0] rfl

def zs (o : Lg.Op) (j : Nat) : List Value := .int .i64 o.k :: (List.range 4).map fun i => .int .i64 (if i < j then 0 else o.val i)
theorem zs_zero (o : Lg.Op) : zs o 0 = o.vs := rfl
theorem zs_set (o : Lg.Op) {j : Nat} (hj : j < 4) : (zs o j).set (j + 1) (.int .i64 0) = zs o (j + 1) := by
  match j, hj with
  | 0, _ => rfl
  | 1, _ => rfl
  | 2, _ => rfl
  | 3, _ => rfl
theorem vs_at (o : Lg.Op) {j : Nat} (hj : j < 4) : o.vs[j + 1]? = some (.int .i64 (o.val j)) := by
  match j, hj with
  | 0, _ => rfl
  | 1, _ => rfl
  | 2, _ => rfl
  | 3, _ => rfl

theorem op_typed (k a b c d : Int) : Typed P 25 [.int .i64, .int .i64, .int .i64, .int .i64, .int .i64] (.agg #[.int .i64 k, .int .i64 a, .int .i64 b, .int .i64 c, .int .i64 d]) := by
  unfold Typed; rw [show aggQ P 25 = some true by kernel_rfl]
  exact ⟨_, rfl, ⟨_, rfl⟩, ⟨_, rfl⟩, ⟨_, rfl⟩, ⟨_, rfl⟩, ⟨_, rfl⟩, trivial⟩
theorem op_eql (a b : Value) (ha : Typed P 25 [.int .i64, .int .i64, .int .i64, .int .i64, .int .i64] a) (hb : Typed P 25 [.int .i64, .int .i64, .int .i64, .int .i64, .int .i64] b) : ∃ r, EqV P .eql 25 a b r ∧ (r = true ↔ a = b) :=
  EqV.eql (d := 4) (by kernel_rfl : eqT P 4 25 = _) (by decide) (by kernel_rfl) (by kernel_rfl) ha hb
theorem op_neq (a b : Value) (ha : Typed P 25 [.int .i64, .int .i64, .int .i64, .int .i64, .int .i64] a) (hb : Typed P 25 [.int .i64, .int .i64, .int .i64, .int .i64, .int .i64] b) : ∃ r, EqV P .neq 25 a b r ∧ (r = false ↔ a = b) :=
  EqV.neq (d := 4) (by kernel_rfl : eqT P 4 25 = _) (by decide) (by kernel_rfl) (by kernel_rfl) ha hb

/-- What remains once the form is at hand. -/
def LineTail (p1 p22 : Addr) (x20 : ByteArray) (x21 : Sl) (K : Value → World → Prop) (Kp : List PanicEntry → World → Prop) (w23 : World) : Prop :=
  StN [(.string x20), (.slice x21.p x21.n x21.c)] p22 (fun w24 => ∃ x25 : Int, w24.cell? (p1.add 0) = some (.int .i64 x25) ∧ ∃ x26 : Int, w24.cell? (p1.add 1) = some (.int
   .i64 x26) ∧ ∃ x27 : Int, w24.cell? (p1.add 2) = some (.int .i64 x27) ∧ ∃ x28 : Int, w24.cell? (p1.add 3) = some (.int .i64 x28) ∧ ∃ x29 : Int, w24.cell? (p1.add 4) =
   some (.int .i64 x29) ∧ Al (.cells #[(.int .i64 0), (.int .i64 0), (.int .i64 0), (.int .i64 0), (.int .i64 0)] 25) (fun p30 w31 => StN [(.int .i64 x25), (.int .i64
   x26), (.int .i64 x27), (.int .i64 x28), (.int .i64 x29)] p30 (fun w32 => ∃ x33 : ByteArray, w32.cell? (p22.add 0) = some (.string x33) ∧ Al (.cells #[(.string x33)] 9)
   (fun p34 w35 => ∃ x36 : Sl, w35.cell? (p22.add 1) = some (.slice x36.p x36.n x36.c) ∧ ∃ (I37 : Sl → Int → World → Prop) (M38 : Sl → Int → World → Nat), I37 ⟨(some p34),
   1, 1⟩ 0 w35 ∧ ∀ _u40 : Nat → Value, ∀ words41 : Sl, ∀ x42 : Int, ∀ w39 : World, I37 words41 x42 w39 → bif (decide (x42 < ((x36.n : Nat) : Int))) then (elAt x36.p x36.n
   x42 1 fun a43 => ∃ x44 : Int, w39.cell? a43 = some (.int .i64 x44) ∧ Calls P fn_lang_field_place #[(.int .i64 x44), (.pointer (some p1))] w39 fun e46 w45 => ∃ x47 :
   Option Addr, e46 = .returned (.pointer x47) ∧ NN x47 fun a48 => ∃ x49 : Int, w45.cell? a48 = some (.int .i64 x49) ∧ Calls P fn_lang_field_show #[(.int .i64 x44), (.int
   .i64 x49)] w45 fun e51 w50 => (∃ x53 : ByteArray, e51 = .returned (.string x53) ∧ Al (.cells #[(.string x53)] 9) (fun p54 w55 => ∃ x57 : Sl, ∃ w56 : World, Sem.run P
   (Builtin.append_ #[32, 32] 32 #[(.slice words41.p words41.n words41.c), (.slice (some p54) 1 1)]) w55 = .ok (.slice x57.p x57.n x57.c) w56 ∧ Calls P fn_lang_field_place
   #[(.int .i64 x44), (.pointer (some p30))] w56 fun e59 w58 => ∃ x60 : Option Addr, e59 = .returned (.pointer x60) ∧ NN x60 fun a61 => St a61 (.int .i64 0) (fun w62 =>
   (I37 x57 (IntKind.i64.wrap (x42 + 1)) w62 ∧ M38 x57 (IntKind.i64.wrap (x42 + 1)) w62 < M38 words41 x42 w39)) w58) w50) ∨ (∃ ch52, e51 = .panicked ch52 ∧ Kp ch52 w50))
   else (∃ x63 : Int, w39.cell? (p30.add 0) = some (.int .i64 x63) ∧ ∃ x64 : Int, w39.cell? (p30.add 1) = some (.int .i64 x64) ∧ ∃ x65 : Int, w39.cell? (p30.add 2) = some
   (.int .i64 x65) ∧ ∃ x66 : Int, w39.cell? (p30.add 3) = some (.int .i64 x66) ∧ ∃ x67 : Int, w39.cell? (p30.add 4) = some (.int .i64 x67) ∧ ∃ x68 : Int, w39.cell? (p1.add
   0) = some (.int .i64 x68) ∧ ∃ q69 : Bool, EqV P .eql 25 (.agg #[(.int .i64 x63), (.int .i64 x64), (.int .i64 x65), (.int .i64 x66), (.int .i64 x67)]) (.agg #[(.int .i64
   x68), (.int .i64 0), (.int .i64 0), (.int .i64 0), (.int .i64 0)]) q69 ∧ Calls P fn_lang_must #[(.bool q69)] w39 fun e71 w70 => (e71 = .returned (.tuple #[]) ∧ ∃ x73 :
   Int, w70.cell? (p1.add 0) = some (.int .i64 x73) ∧ ∃ x74 : Int, w70.cell? (p1.add 1) = some (.int .i64 x74) ∧ ∃ x75 : Int, w70.cell? (p1.add 2) = some (.int .i64 x75) ∧
   ∃ x76 : Int, w70.cell? (p1.add 3) = some (.int .i64 x76) ∧ ∃ x77 : Int, w70.cell? (p1.add 4) = some (.int .i64 x77) ∧ Calls P fn_lang_right #[(.agg #[(.int .i64 x73),
   (.int .i64 x74), (.int .i64 x75), (.int .i64 x76), (.int .i64 x77)])] w70 fun e79 w78 => (e79 = .returned (.tuple #[]) ∧ Calls P fn_strings_Join #[(.slice words41.p
   words41.n words41.c), (.string (ByteArray.mk #[32]))] w78 fun e82 w81 => ∃ x83 : ByteArray, e82 = .returned (.string x83) ∧ K (.string x83) w81) ∨ (∃ ch80, e79 =
   .panicked ch80 ∧ Kp ch80 w78)) ∨ (∃ ch72, e71 = .panicked ch72 ∧ Kp ch72 w70))) w32) w31) w24) w23

theorem tells_take (o : Lg.Op) {j : Nat} (hj : j < tl o.kd) : (pieces o).take (j + 1 + 1) = (pieces o).take (j + 1) ++ [shw (fld o.kd j) (o.val j)] := by
  refine Mp.take_succ ?_
  show (tells o)[j]? = _
  exact tells_at hj
theorem pieces_len (o : Lg.Op) : (pieces o).length = tl o.kd + 1 := by simp [pieces, tells_len]
theorem shw_len {f n : Int} (h : rng f n = true) : (shw f n).length ≤ 30 := by
  have h1 := rng_i64 h
  unfold rng at h
  unfold shw
  split
  · next e =>
    rw [if_pos e] at h
    have h := of_decide_eq_true h
    have key : ∀ k : Fin 5, (limits.getD k.1 []).length ≤ 30 := by decide
    exact key ⟨n.toNat, by omega⟩
  · have hi := Lib.itoa_length_le n (by omega) (by omega)
    split
    · unfold showB
      split
      · show 3 ≤ 30; omega
      · omega
    · omega
theorem wd_len {k : Nat} (h : k < 14) : (wd k).length ≤ 30 := by
  have key : ∀ k : Fin 14, (wd k).length ≤ 30 := by decide
  exact key ⟨k, h⟩
theorem tail_len : ∀ {l : List Bytes}, (∀ s ∈ l, s.length ≤ 30) → (Lib.joinTail [32] l).length ≤ l.length * 31
  | [], _ => by simp [joinTail_nil]
  | x :: l, h => by
    have h1 := h x (by simp)
    have h2 := tail_len (l := l) (fun s hs => h s (by simp [hs]))
    rw [joinTail_cons, List.length_append, List.length_append, List.length_cons]
    show 1 + x.length + _ ≤ (l.length + 1) * 31; omega
theorem text_len {o : Lg.Op} (hk : o.kd < 14) (h : ∀ i, i < tl o.kd → rng (fld o.kd i) (o.val i) = true) : (text o).length ≤ 160 := by
  rw [text_cons, List.length_append]
  have h1 := wd_len hk
  have h2 := tail_len (l := tells o) (fun s hs => by
    obtain ⟨i, hi, rfl⟩ := List.mem_map.1 hs
    exact shw_len (h i (List.mem_range.1 hi)))
  have h3 := (tl_le hk).2
  rw [tells_len] at h2
  have : tl o.kd * 31 ≤ 4 * 31 := Nat.mul_le_mul_right _ h3
  omega

theorem line_tail {o : Lg.Op} (hk0 : 0 ≤ o.k) (hk1 : o.k ≤ 13) (hI : Lg.Op.I o) {lo g b1 b2 : Nat} {H : Array Obj} (l : Libs W) (hg : lo ≤ g) (hf : ∀ i, i < tl o.kd → (hw H).cell? ⟨g, i, none⟩ = some (.int .i64 (fld o.kd i)))
    (h : Sep (World.env W) [blk b2 [.string (ByteArray.mk #[]), .slice none 0 0], seg lo H, blk b1 o.vs, old W.heap] w) {K : Value → World → Prop} {Kp : List PanicEntry → World → Prop}
    (hK : Lg.Ok o → ∀ w', Grow W w' → K (.string (mk (text o))) w') (hKp : ¬ Lg.Ok o → ∀ w', Grow W w' → Kp badCh w') :
    LineTail ⟨b1, 0, none⟩ ⟨b2, 0, none⟩ (mk (wd o.kd)) ⟨some ⟨g, 0, none⟩, tl o.kd, tl o.kd⟩ K Kp w := by
  have hkd : o.kd < 14 := by unfold Lg.Op.kd; omega
  have htl := tl_le hkd
  unfold LineTail
  refine zst _ h rfl (fun w1 h1 => ?_)
  refine ⟨_, h1.cellAt 2 rfl 0, _, h1.cellAt 2 rfl 1, _, h1.cellAt 2 rfl 2, _, h1.cellAt 2 rfl 3, _, h1.cellAt 2 rfl 4, ?_⟩
  refine Al.i h1 (fun b3 w2 h2 => ?_)
  refine zst _ h2 rfl (fun w3 h3 => ?_)
  refine ⟨_, h3.cellAt 1 rfl 0, ?_⟩
  refine Al.i h3 (fun b4 w4 h4 => ?_)
  refine ⟨⟨some ⟨g, 0, none⟩, tl o.kd, tl o.kd⟩, h4.cellAt 2 rfl 1, ?_⟩
  refine ⟨fun ws x w' => ∃ j : Nat, x = j ∧ j ≤ tl o.kd ∧ ws.n = j + 1 ∧ (∀ i, i < j → rng (fld o.kd i) (o.val i) = true) ∧
      Sep (World.env W) [rowA ws 1 (strL ((pieces o).take (j + 1))), blk b3 (zs o j), blk b2 [.string (mk (wd o.kd)), .slice (some ⟨g, 0, none⟩) (tl o.kd) (tl o.kd)], seg lo H, blk b1 o.vs, old W.heap] w',
    fun _ x _ => (tl o.kd - x).toNat, ⟨0, rfl, Nat.zero_le _, rfl, fun i hi => by omega, rowA.make (spare := []) h4 rfl rfl (Nat.le_refl _)⟩, ?_⟩
  rintro _ ws x w5 ⟨j, rfl, hj, hwn, hr, h5⟩
  have fin : ∀ {w' : World} {L' : List Asn} {i : Nat}, Sep (World.env W) L' w' → L'[i]? = some (old W.heap) → Grow W w' := fun hh hi => grow_old rfl hh hi
  refine bLt (fun hlt => ?_) (fun hge => ?_)
  · have hlt : j < tl o.kd := by simpa using hlt
    refine elB j rfl hlt ?_
    refine ⟨fld o.kd j, h5.segCell (q := 3) rfl (by show lo ≤ g; exact hg) (by rw [Nat.mul_one]; exact hf j hlt), ?_⟩
    refine use (c_place (fld o.kd j) b1) ?_
    rintro _ w6 ⟨rfl, rfl⟩
    rw [plc_fld (by omega)]
    refine ⟨_, rfl, _, rfl, _, (h5.cellAt 4 rfl (j + 1)).trans (vs_at o (by omega)), ?_⟩
    have hlib := l.old (i := 5) rfl h5
    refine useP (c_fshow (hI.v j) hlib h5) ?_ ?_
    · rintro _ w7 ⟨hrj, rfl, _, h7⟩
      refine .inl ⟨_, rfl, ?_⟩
      refine Al.i h7 (fun b5 w8 h8 => ?_)
      have hlen : ((pieces o).take (j + 1)).length = j + 1 := by rw [List.length_take, pieces_len]; omega
      refine str_push (by rw [hwn, hlen]) (by rw [hlen]; omega) h8 (fun ws' w9 hn9 h9 => ?_)
      rw [bs_mk, ← tells_take o hlt] at h9 hn9
      refine use (c_place (fld o.kd j) b3) ?_
      rintro _ w10 ⟨rfl, rfl⟩
      rw [plc_fld (by omega)]
      refine ⟨_, rfl, _, rfl, ?_⟩
      refine St.i h9.swap (by show j + 1 < 5; omega) (fun w11 h11 => ?_)
      rw [zs_set o (by omega)] at h11
      refine ⟨⟨j + 1, wrapS (by omega), hlt, ?_, fun i hi => ?_, h11.swap⟩, by rw [wrapS (by omega)]; dsimp only; omega⟩
      · rw [hn9, List.length_take, pieces_len]; omega
      · by_cases e : i = j
        · subst e; exact hrj
        · exact hr i (by omega)
    · rintro ch w7 ⟨hrj, rfl, _, h7⟩
      refine .inr ⟨_, rfl, hKp (fun hok => ?_) _ (fin (i := 5) h7 rfl)⟩
      have := hok.v j hlt
      rw [hrj] at this; cases this
  · have e : j = tl o.kd := by
      have : ¬ (j : Int) < ((tl o.kd : Nat) : Int) := by simpa using hge
      omega
    subst e
    refine ⟨_, h5.cellAt 1 rfl 0, _, h5.cellAt 1 rfl 1, _, h5.cellAt 1 rfl 2, _, h5.cellAt 1 rfl 3, _, h5.cellAt 1 rfl 4, _, h5.cellAt 4 rfl 0, ?_⟩
    obtain ⟨q, hq1, hq2⟩ := op_eql _ _ (op_typed o.k (if 0 < tl o.kd then 0 else o.val 0) (if 1 < tl o.kd then 0 else o.val 1) (if 2 < tl o.kd then 0 else o.val 2) (if 3 < tl o.kd then 0 else o.val 3)) (op_typed o.k 0 0 0 0)
    have hz : q = true ↔ ∀ i, tl o.kd ≤ i → i < 4 → o.val i = 0 := by
      rw [hq2]
      constructor
      · intro he i hi hi4
        simp only [Value.agg.injEq, Array.mk.injEq, List.cons.injEq, Value.int.injEq, true_and, and_true] at he
        obtain ⟨e0, e1, e2, e3⟩ := he
        match i, hi4 with
        | 0, _ => rw [if_neg (by omega)] at e0; exact e0
        | 1, _ => rw [if_neg (by omega)] at e1; exact e1
        | 2, _ => rw [if_neg (by omega)] at e2; exact e2
        | 3, _ => rw [if_neg (by omega)] at e3; exact e3
      · intro he
        have hv : ∀ i, i < 4 → (if i < tl o.kd then 0 else o.val i) = 0 := fun i hi => by
          split
          · rfl
          · exact he i (by omega) hi
        rw [hv 0 (by omega), hv 1 (by omega), hv 2 (by omega), hv 3 (by omega)]
    refine ⟨q, hq1, ?_⟩
    refine mustI (fun hc => ?_) (fun hc => hKp (fun hok => ?_) _ (fin (i := 5) h5 rfl))
    · have hz := hz.1 hc
      refine ⟨_, h5.cellAt 4 rfl 0, _, h5.cellAt 4 rfl 1, _, h5.cellAt 4 rfl 2, _, h5.cellAt 4 rfl 3, _, h5.cellAt 4 rfl 4, ?_⟩
      refine useP (c_right o h5) ?_ ?_
      · rintro _ w6 ⟨hrt, rfl, _, h6⟩
        refine .inl ⟨rfl, ?_⟩
        have hok : Lg.Ok o := ⟨hk0, hk1, hr, hz, fun e1 e2 => by
          unfold rightB at hrt
          simp only [Bool.not_eq_true', decide_eq_false_iff_not] at hrt
          exact Classical.byContradiction fun h3 => hrt ⟨e1, e2, h3⟩⟩
        have hfull : (pieces o).take (tl o.kd + 1) = pieces o := List.take_of_length_le (by rw [pieces_len]; omega)
        rw [hfull] at h6
        have e32 : bs (ByteArray.mk #[32]) = [32] := rfl
        have hc := c_Join (s := ws) (ws := pieces o) (q := 0) (ByteArray.mk #[32]) rfl (by rw [hwn, pieces_len]) (by simp [pieces]) (by rw [pieces_len]; omega) (by
          rw [e32]; have := text_len hkd hr; unfold text at this; omega) h6
        rw [e32] at hc
        refine use hc ?_
        rintro _ w7 ⟨rfl, _, h7⟩
        exact ⟨_, rfl, hK hok _ (fin (i := 5) h7 rfl)⟩
      · rintro ch w6 ⟨hrt, rfl, _, h6⟩
        refine .inr ⟨_, rfl, hKp (fun hok => ?_) _ (fin (i := 5) h6 rfl)⟩
        unfold rightB at hrt
        simp only [Bool.not_eq_false', decide_eq_true_eq] at hrt
        exact hrt.2.2 (hok.r hrt.1 hrt.2.1)
    · have := hz.2 hok.z
      rw [hc] at this; cases this

theorem c_line {o : Lg.Op} (hI : Lg.Op.I o) (l : Libs W) (h : Sep E L W) : Calls P fn_lang_line #[o.v] W
    (RetP (fun v w' => Lg.Ok o ∧ v = .string (mk (text o)) ∧ Grow W w' ∧ Sep E L w') (fun ch w' => ¬ Lg.Ok o ∧ ch = badCh ∧ Grow W w' ∧ Sep E L w')) := by
  apply of_lang_line
  unfold sh_lang_line
  have hK : Lg.Ok o → ∀ w', Grow W w' → Lg.Ok o ∧ Value.string (mk (text o)) = .string (mk (text o)) ∧ Grow W w' ∧ Sep E L w' := fun hok w' g => ⟨hok, rfl, g, h.grow g⟩
  have hKp : ¬ Lg.Ok o → ∀ w', Grow W w' → ¬ Lg.Ok o ∧ badCh = badCh ∧ Grow W w' ∧ Sep E L w' := fun hok w' g => ⟨hok, rfl, g, h.grow g⟩
  have hout : ∀ {w' : World}, ¬ Lg.Ok o → Grow W w' → ¬ Lg.Ok o ∧ badCh = badCh ∧ Grow W w' ∧ Sep E L w' := fun hok g => ⟨hok, rfl, g, h.grow g⟩
  have hs := Sep.start W
  clear h
  refine Al.i hs (fun b1 w h => ?_)
  have h : Sep (World.env W) [blk b1 o.vs, old W.heap] _ := h
  refine ⟨fun w' => 0 ≤ o.k ∧ o.k ≤ 13 ∧ Sep (World.env W) [blk b1 o.vs, old W.heap] w', ?_, ?_⟩
  · have g := grow_old (i := 1) rfl h rfl
    refine ⟨_, h.cell 0, ?_⟩
    refine bLe (fun h0 => ?_) (fun h0 => ?_)
    · refine ⟨_, h.cell 0, ?_⟩
      refine mustI (fun hc => ⟨h0, by simpa using hc, h⟩) (fun hc => hout (fun hok => ?_) g)
      have := of_decide_eq_false hc
      exact this hok.k1
    · exact mustI (fun hc => by cases hc) (fun _ => hout (fun hok => by have := hok.k0; omega) g)
  · rintro _ w ⟨hk0, hk1, h⟩
    have hko : o.k = (o.kd : Nat) := by unfold Lg.Op.kd; omega
    have hkd : o.kd < 14 := by unfold Lg.Op.kd; omega
    have tail : ∀ {lo g b2 : Nat} {H : Array Obj} {w : World}, lo ≤ g → (∀ i, i < tl o.kd → (hw H).cell? ⟨g, i, none⟩ = some (.int .i64 (fld o.kd i))) →
        Sep (World.env W) [blk b2 [.string (ByteArray.mk #[]), .slice none 0 0], seg lo H, blk b1 o.vs, old W.heap] w →
        LineTail ⟨b1, 0, none⟩ ⟨b2, 0, none⟩ (mk (wd o.kd)) ⟨some ⟨g, 0, none⟩, tl o.kd, tl o.kd⟩
          (fun v w' => Lg.Ok o ∧ v = .string (mk (text o)) ∧ Grow W w' ∧ Sep E L w') (fun ch w' => ¬ Lg.Ok o ∧ ch = badCh ∧ Grow W w' ∧ Sep E L w') w :=
      fun hg c3 h => line_tail hk0 hk1 hI l hg c3 h hK hKp
    refine Dr.i h (fun w h => ?_)
    refine ⟨?_, ?_⟩
    · refine use (c_forms h) ?_
      rintro _ w ⟨s, lo, H, rfl, F, _, h⟩
      refine ⟨s, rfl, ?_⟩
      refine ⟨?_, ?_⟩
      · refine ⟨?_, ?_⟩
        · refine ⟨_, h.cellAt 1 rfl 0, ?_⟩
          refine ⟨?_, ?_⟩
          · refine F.at_ hkd hko (fun b g hb hg c1 c2 c3 => ?_)
            refine ⟨?_, ?_⟩
            · refine ⟨_, h.segCell (q := 0) rfl hb c1, ⟨some ⟨g, 0, none⟩, tl o.kd, tl o.kd⟩, h.segCell (q := 0) rfl hb c2, ?_⟩
              refine ⟨?_, ?_⟩
              · refine Al.i h (fun b2 w h => ?_)
                refine ⟨?_, ?_⟩
                · exact tail hg c3 h
                · exact trivial
              · exact trivial
            · refine ⟨?_, ?_⟩
              · refine Al.i h (fun b2 w h => ?_)
                refine ⟨?_, ?_⟩
                · refine ⟨_, h.segCell (q := 1) rfl hb c1, ⟨some ⟨g, 0, none⟩, tl o.kd, tl o.kd⟩, h.segCell (q := 1) rfl hb c2, ?_⟩
                  refine ⟨?_, ?_⟩
                  · exact tail hg c3 h
                  · exact trivial
                · exact trivial
              · exact trivial
          · refine ⟨?_, ?_⟩
            · refine Al.i h (fun b2 w h => ?_)
              refine ⟨?_, ?_⟩
              · refine F.at_ hkd hko (fun b g hb hg c1 c2 c3 => ?_)
                refine ⟨?_, ?_⟩
                · refine ⟨_, h.segCell (q := 1) rfl hb c1, ⟨some ⟨g, 0, none⟩, tl o.kd, tl o.kd⟩, h.segCell (q := 1) rfl hb c2, ?_⟩
                  refine ⟨?_, ?_⟩
                  · exact tail hg c3 h
                  · exact trivial
                · exact trivial
              · exact trivial
            · exact trivial
        · refine ⟨?_, ?_⟩
          · refine Al.i h (fun b2 w h => ?_)
            refine ⟨?_, ?_⟩
            · refine ⟨_, h.cellAt 2 rfl 0, ?_⟩
              refine ⟨?_, ?_⟩
              · refine F.at_ hkd hko (fun b g hb hg c1 c2 c3 => ?_)
                refine ⟨?_, ?_⟩
                · refine ⟨_, h.segCell (q := 1) rfl hb c1, ⟨some ⟨g, 0, none⟩, tl o.kd, tl o.kd⟩, h.segCell (q := 1) rfl hb c2, ?_⟩
                  refine ⟨?_, ?_⟩
                  · exact tail hg c3 h
                  · exact trivial
                · exact trivial
              · exact trivial
            · exact trivial
          · exact trivial
      · refine ⟨?_, ?_⟩
        · refine Al.i h (fun b2 w h => ?_)
          refine ⟨?_, ?_⟩
          · refine ⟨?_, ?_⟩
            · refine ⟨_, h.cellAt 2 rfl 0, ?_⟩
              refine ⟨?_, ?_⟩
              · refine F.at_ hkd hko (fun b g hb hg c1 c2 c3 => ?_)
                refine ⟨?_, ?_⟩
                · refine ⟨_, h.segCell (q := 1) rfl hb c1, ⟨some ⟨g, 0, none⟩, tl o.kd, tl o.kd⟩, h.segCell (q := 1) rfl hb c2, ?_⟩
                  refine ⟨?_, ?_⟩
                  · exact tail hg c3 h
                  · exact trivial
                · exact trivial
              · exact trivial
            · exact trivial
          · exact trivial
        · exact trivial
    · refine ⟨?_, ?_⟩
      · refine ⟨?_, ?_⟩
        · refine use (c_forms h) ?_
          rintro _ w ⟨s, lo, H, rfl, F, _, h⟩
          refine ⟨s, rfl, ?_⟩
          refine ⟨?_, ?_⟩
          · refine ⟨_, h.cellAt 1 rfl 0, ?_⟩
            refine ⟨?_, ?_⟩
            · refine F.at_ hkd hko (fun b g hb hg c1 c2 c3 => ?_)
              refine ⟨?_, ?_⟩
              · refine ⟨_, h.segCell (q := 0) rfl hb c1, ⟨some ⟨g, 0, none⟩, tl o.kd, tl o.kd⟩, h.segCell (q := 0) rfl hb c2, ?_⟩
                refine ⟨?_, ?_⟩
                · refine Al.i h (fun b2 w h => ?_)
                  refine ⟨?_, ?_⟩
                  · exact tail hg c3 h
                  · exact trivial
                · exact trivial
              · refine ⟨?_, ?_⟩
                · refine Al.i h (fun b2 w h => ?_)
                  refine ⟨?_, ?_⟩
                  · refine ⟨_, h.segCell (q := 1) rfl hb c1, ⟨some ⟨g, 0, none⟩, tl o.kd, tl o.kd⟩, h.segCell (q := 1) rfl hb c2, ?_⟩
                    refine ⟨?_, ?_⟩
                    · exact tail hg c3 h
                    · exact trivial
                  · exact trivial
                · exact trivial
            · refine ⟨?_, ?_⟩
              · refine Al.i h (fun b2 w h => ?_)
                refine ⟨?_, ?_⟩
                · refine F.at_ hkd hko (fun b g hb hg c1 c2 c3 => ?_)
                  refine ⟨?_, ?_⟩
                  · refine ⟨_, h.segCell (q := 1) rfl hb c1, ⟨some ⟨g, 0, none⟩, tl o.kd, tl o.kd⟩, h.segCell (q := 1) rfl hb c2, ?_⟩
                    refine ⟨?_, ?_⟩
                    · exact tail hg c3 h
                    · exact trivial
                  · exact trivial
                · exact trivial
              · exact trivial
          · refine ⟨?_, ?_⟩
            · refine Al.i h (fun b2 w h => ?_)
              refine ⟨?_, ?_⟩
              · refine ⟨_, h.cellAt 2 rfl 0, ?_⟩
                refine ⟨?_, ?_⟩
                · refine F.at_ hkd hko (fun b g hb hg c1 c2 c3 => ?_)
                  refine ⟨?_, ?_⟩
                  · refine ⟨_, h.segCell (q := 1) rfl hb c1, ⟨some ⟨g, 0, none⟩, tl o.kd, tl o.kd⟩, h.segCell (q := 1) rfl hb c2, ?_⟩
                    refine ⟨?_, ?_⟩
                    · exact tail hg c3 h
                    · exact trivial
                  · exact trivial
                · exact trivial
              · exact trivial
            · exact trivial
        · refine ⟨?_, ?_⟩
          · refine ⟨_, h.cellAt 0 rfl 0, ?_⟩
            refine ⟨?_, ?_⟩
            · refine use (c_forms h) ?_
              rintro _ w ⟨s, lo, H, rfl, F, _, h⟩
              refine ⟨s, rfl, ?_⟩
              refine ⟨?_, ?_⟩
              · refine F.at_ hkd hko (fun b g hb hg c1 c2 c3 => ?_)
                refine ⟨?_, ?_⟩
                · refine ⟨_, h.segCell (q := 0) rfl hb c1, ⟨some ⟨g, 0, none⟩, tl o.kd, tl o.kd⟩, h.segCell (q := 0) rfl hb c2, ?_⟩
                  refine ⟨?_, ?_⟩
                  · refine Al.i h (fun b2 w h => ?_)
                    refine ⟨?_, ?_⟩
                    · exact tail hg c3 h
                    · exact trivial
                  · exact trivial
                · refine ⟨?_, ?_⟩
                  · refine Al.i h (fun b2 w h => ?_)
                    refine ⟨?_, ?_⟩
                    · refine ⟨_, h.segCell (q := 1) rfl hb c1, ⟨some ⟨g, 0, none⟩, tl o.kd, tl o.kd⟩, h.segCell (q := 1) rfl hb c2, ?_⟩
                      refine ⟨?_, ?_⟩
                      · exact tail hg c3 h
                      · exact trivial
                    · exact trivial
                  · exact trivial
              · refine ⟨?_, ?_⟩
                · refine Al.i h (fun b2 w h => ?_)
                  refine ⟨?_, ?_⟩
                  · refine F.at_ hkd hko (fun b g hb hg c1 c2 c3 => ?_)
                    refine ⟨?_, ?_⟩
                    · refine ⟨_, h.segCell (q := 1) rfl hb c1, ⟨some ⟨g, 0, none⟩, tl o.kd, tl o.kd⟩, h.segCell (q := 1) rfl hb c2, ?_⟩
                      refine ⟨?_, ?_⟩
                      · exact tail hg c3 h
                      · exact trivial
                    · exact trivial
                  · exact trivial
                · exact trivial
            · refine ⟨?_, ?_⟩
              · refine Al.i h (fun b2 w h => ?_)
                refine ⟨?_, ?_⟩
                · refine use (c_forms h) ?_
                  rintro _ w ⟨s, lo, H, rfl, F, _, h⟩
                  refine ⟨s, rfl, ?_⟩
                  have h := h.swap
                  refine ⟨?_, ?_⟩
                  · refine F.at_ hkd hko (fun b g hb hg c1 c2 c3 => ?_)
                    refine ⟨?_, ?_⟩
                    · refine ⟨_, h.segCell (q := 1) rfl hb c1, ⟨some ⟨g, 0, none⟩, tl o.kd, tl o.kd⟩, h.segCell (q := 1) rfl hb c2, ?_⟩
                      refine ⟨?_, ?_⟩
                      · exact tail hg c3 h
                      · exact trivial
                    · exact trivial
                  · exact trivial
                · exact trivial
              · exact trivial
          · refine ⟨?_, ?_⟩
            · refine Al.i h (fun b2 w h => ?_)
              refine ⟨?_, ?_⟩
              · refine use (c_forms h) ?_
                rintro _ w ⟨s, lo, H, rfl, F, _, h⟩
                refine ⟨s, rfl, ?_⟩
                have h := h.swap
                refine ⟨?_, ?_⟩
                · refine ⟨_, h.cellAt 2 rfl 0, ?_⟩
                  refine ⟨?_, ?_⟩
                  · refine F.at_ hkd hko (fun b g hb hg c1 c2 c3 => ?_)
                    refine ⟨?_, ?_⟩
                    · refine ⟨_, h.segCell (q := 1) rfl hb c1, ⟨some ⟨g, 0, none⟩, tl o.kd, tl o.kd⟩, h.segCell (q := 1) rfl hb c2, ?_⟩
                      refine ⟨?_, ?_⟩
                      · exact tail hg c3 h
                      · exact trivial
                    · exact trivial
                  · exact trivial
                · exact trivial
              · refine ⟨?_, ?_⟩
                · refine ⟨_, h.cellAt 1 rfl 0, ?_⟩
                  refine ⟨?_, ?_⟩
                  · refine use (c_forms h) ?_
                    rintro _ w ⟨s, lo, H, rfl, F, _, h⟩
                    refine ⟨s, rfl, ?_⟩
                    have h := h.swap
                    refine ⟨?_, ?_⟩
                    · refine F.at_ hkd hko (fun b g hb hg c1 c2 c3 => ?_)
                      refine ⟨?_, ?_⟩
                      · refine ⟨_, h.segCell (q := 1) rfl hb c1, ⟨some ⟨g, 0, none⟩, tl o.kd, tl o.kd⟩, h.segCell (q := 1) rfl hb c2, ?_⟩
                        refine ⟨?_, ?_⟩
                        · exact tail hg c3 h
                        · exact trivial
                      · exact trivial
                    · exact trivial
                  · exact trivial
                · exact trivial
            · exact trivial
      · refine ⟨?_, ?_⟩
        · refine Al.i h (fun b2 w h => ?_)
          refine ⟨?_, ?_⟩
          · refine use (c_forms h) ?_
            rintro _ w ⟨s, lo, H, rfl, F, _, h⟩
            refine ⟨s, rfl, ?_⟩
            have h := h.swap
            refine ⟨?_, ?_⟩
            · refine ⟨?_, ?_⟩
              · refine ⟨_, h.cellAt 2 rfl 0, ?_⟩
                refine ⟨?_, ?_⟩
                · refine F.at_ hkd hko (fun b g hb hg c1 c2 c3 => ?_)
                  refine ⟨?_, ?_⟩
                  · refine ⟨_, h.segCell (q := 1) rfl hb c1, ⟨some ⟨g, 0, none⟩, tl o.kd, tl o.kd⟩, h.segCell (q := 1) rfl hb c2, ?_⟩
                    refine ⟨?_, ?_⟩
                    · exact tail hg c3 h
                    · exact trivial
                  · exact trivial
                · exact trivial
              · exact trivial
            · exact trivial
          · refine ⟨?_, ?_⟩
            · refine ⟨?_, ?_⟩
              · refine use (c_forms h) ?_
                rintro _ w ⟨s, lo, H, rfl, F, _, h⟩
                refine ⟨s, rfl, ?_⟩
                have h := h.swap
                refine ⟨?_, ?_⟩
                · refine ⟨_, h.cellAt 2 rfl 0, ?_⟩
                  refine ⟨?_, ?_⟩
                  · refine F.at_ hkd hko (fun b g hb hg c1 c2 c3 => ?_)
                    refine ⟨?_, ?_⟩
                    · refine ⟨_, h.segCell (q := 1) rfl hb c1, ⟨some ⟨g, 0, none⟩, tl o.kd, tl o.kd⟩, h.segCell (q := 1) rfl hb c2, ?_⟩
                      refine ⟨?_, ?_⟩
                      · exact tail hg c3 h
                      · exact trivial
                    · exact trivial
                  · exact trivial
                · exact trivial
              · refine ⟨?_, ?_⟩
                · refine ⟨_, h.cellAt 1 rfl 0, ?_⟩
                  refine ⟨?_, ?_⟩
                  · refine use (c_forms h) ?_
                    rintro _ w ⟨s, lo, H, rfl, F, _, h⟩
                    refine ⟨s, rfl, ?_⟩
                    have h := h.swap
                    refine ⟨?_, ?_⟩
                    · refine F.at_ hkd hko (fun b g hb hg c1 c2 c3 => ?_)
                      refine ⟨?_, ?_⟩
                      · refine ⟨_, h.segCell (q := 1) rfl hb c1, ⟨some ⟨g, 0, none⟩, tl o.kd, tl o.kd⟩, h.segCell (q := 1) rfl hb c2, ?_⟩
                        refine ⟨?_, ?_⟩
                        · exact tail hg c3 h
                        · exact trivial
                      · exact trivial
                    · exact trivial
                  · exact trivial
                · exact trivial
            · exact trivial
        · exact trivial

end Go.Mp
