/- What script's functions answer: numbers and operations are written. -/
import Derived.Test.YtkjihkmkchcmcaaGreatDoorSr0
import Derived.Test.YtkjihkmkchcmcaaGreatDoorSr1
import Derived.Test.YtkjihkmkchcmcaaGreatDoorScP
import Derived.Test.YtkjihkmkchcmcaaGreatDoorScB
import Derived.Test.YtkjihkmkchcmcaaGreatDoorEqS
set_option maxRecDepth 100000
namespace Go.Sp
open Go Go.Vc
variable {E : Env} {L : List Asn} {w : World}
/-- All that was there is there still. -/
theorem grow_old {W : World} {L' : List Asn} {i : Nat} (hE : World.env W = E) (h : Sep E L' w) (hi : L'[i]? = some (old W.heap)) : Grow W w := by
  subst hE
  have hb := h.below hi
  exact ⟨hb.os, hb.tape, hb.output, hb.size, hb.block⟩
/-- A piece that is apart from all that was there: it joins what is known of that. -/
theorem Sep.join {A : Asn} {L' : List Asn} {w' : World} {i : Nat} (h : Sep E L w) (h0 : Sep (World.env w) (A :: L') w') (hi : L'[i]? = some (old w.heap)) : Grow w w' ∧ Sep E (A :: L) w' := by
  have g : Grow w w' := grow_old (W := w) (i := i + 1) rfl h0 (by simpa using hi)
  refine ⟨g, ?_⟩
  have h3 := h0.fr (i + 1) (A := old w.heap) (by simpa using hi)
  rw [show (A :: L').eraseIdx (i + 1) = A :: L'.eraseIdx i from rfl] at h3
  obtain ⟨_, F, ⟨_, hF⟩, hF2, G, hG, hG2, _⟩ := h3
  exact h.new g (F' := G) hG (fun b hb => ⟨by
    rcases Nat.lt_or_ge b w.heap.size with h' | h'
    · exact absurd (Or.inr ((hF b).2 h')) (hG2 b hb).2
    · exact h', (hG2 b hb).1⟩)
end Go.Sp
namespace Go.Scr
open Go Go.Ct
def Op.vs (o : Op) : List Value := [.int .i64 o.k, .int .i64 o.a, .int .i64 o.b, .int .i64 o.c, .int .i64 o.d]
def Op.v (o : Op) : Value := .agg #[.int .i64 o.k, .int .i64 o.a, .int .i64 o.b, .int .i64 o.c, .int .i64 o.d]
end Go.Scr
namespace Go.Mp
open Go Go.Vc Go.Sp Go.Proofs Go.Ct

variable {E : Env} {L : List Asn} {w W : World}

theorem wrapS {k : Nat} (h : k < 4611686018427387904) : IntKind.i64.wrap ((k : Int) + 1) = ((k + 1 : Nat) : Int) := by rw [w64 (by omega) (by omega)]; omega
theorem take_succ {α : Type} {l : List α} {k : Nat} {c : α} (h : l[k]? = some c) : l.take (k + 1) = l.take k ++ [c] := by rw [List.take_add_one, h]; rfl

/-! ### bits -/

theorem wrapU8 (n : Nat) : IntKind.u8.wrap (n : Int) = ((n % 256 : Nat) : Int) := by
  unfold IntKind.wrap
  simp only [IntKind.signed, IntKind.bits, Bool.false_and]
  simp
theorem wrapU64 {n : Int} (h0 : 0 ≤ n) (h1 : n < 18446744073709551616) : IntKind.u64.wrap n = n := by
  unfold IntKind.wrap
  simp only [IntKind.signed, IntKind.bits, Bool.false_and]
  simp
  omega
theorem ofInt_nat (b n : Nat) (h : n < 2 ^ b) : (BitVec.ofInt b (n : Int)).toNat = n := by
  rw [BitVec.toNat_ofInt]
  have : ((n : Int) % ((2 ^ b : Nat) : Int)) = ((n % 2 ^ b : Nat) : Int) := by omega
  rw [this, Int.toNat_natCast, Nat.mod_eq_of_lt h]
theorem and127 {x : Nat} (h : x < 256) : andI .i64 (x : Int) 127 = ((x % 128 : Nat) : Int) := by
  unfold andI
  rw [BitVec.toNat_and]
  have e1 : (BitVec.ofInt IntKind.i64.bits (x : Int)).toNat = x := ofInt_nat 64 x (by omega)
  have e2 : (BitVec.ofInt IntKind.i64.bits 127).toNat = 127 := ofInt_nat 64 127 (by omega)
  rw [e1, e2, show 127 = 2 ^ 7 - 1 from rfl, Nat.and_two_pow_sub_one_eq_mod, w64 (by omega) (by omega)]
theorem or128 (n : Nat) : orI .u8 (IntKind.u8.wrap (n : Int)) 128 = ((128 + n % 128 : Nat) : Int) := by
  rw [wrapU8]
  unfold orI
  rw [BitVec.toNat_or]
  have e1 : (BitVec.ofInt IntKind.u8.bits ((n % 256 : Nat) : Int)).toNat = n % 256 := ofInt_nat 8 _ (Nat.mod_lt _ (by decide))
  have e2 : (BitVec.ofInt IntKind.u8.bits 128).toNat = 128 := ofInt_nat 8 128 (by decide)
  rw [e1, e2]
  have key : ∀ m : Fin 256, (m.val ||| 128) = 128 + m.val % 128 := by decide
  have := key ⟨n % 256, Nat.mod_lt _ (by decide)⟩
  rw [this, wrapU8]
  congr 1
  simp only; omega
theorem orAdd {a d i : Nat} (ha : a < 2 ^ i) (hb : d * 2 ^ i + a < 4611686018427387904) : orI .i64 (a : Int) ((d * 2 ^ i : Nat) : Int) = ((a + d * 2 ^ i : Nat) : Int) := by
  unfold orI
  rw [BitVec.toNat_or]
  have e1 : (BitVec.ofInt IntKind.i64.bits (a : Int)).toNat = a := ofInt_nat 64 a (by omega)
  have e2 : (BitVec.ofInt IntKind.i64.bits ((d * 2 ^ i : Nat) : Int)).toNat = d * 2 ^ i := ofInt_nat 64 _ (by omega)
  have e3 : a ||| d * 2 ^ i = d * 2 ^ i + a := by
    have := Nat.shiftLeft_add_eq_or_of_lt ha d
    rw [Nat.shiftLeft_eq] at this
    rw [this, Nat.or_comm]
  rw [e1, e2, e3, w64 (by omega) (by omega)]
  omega

/-! ### writing -/

theorem slBy : slQ P 27 = some (1, 1, [.int .u8 0]) := by kernel_rfl
theorem bs27 : bsQ P 27 = true := by kernel_rfl
theorem str9 : isStrT P 9 = true := by kernel_rfl

theorem byte_push {s : Sl} {q : Nat} {l : List UInt8} {x : Int} {c : UInt8} (hx : x = (c.toNat : Int)) (hn : s.n = l.length) (hb : l.length < 100000000) (h : Sep E (blk q [.int .u8 x] :: rowA s 1 (u8s l) :: L) w) {G : Sl → World → Prop}
    (g : ∀ s' w1, s'.n = (l ++ [c]).length → s'.p.isNone = false → Sep E (rowA s' 1 (u8s (l ++ [c])) :: L) w1 → G s' w1) :
    ∃ x1 : Sl, ∃ w1, Sem.run P (Builtin.append_ #[27, 27] 27 #[.slice s.p s.n s.c, .slice (some ⟨q, 0, none⟩) 1 1]) w = .ok (.slice x1.p x1.n x1.c) w1 ∧ G x1 w1 := by
  subst hx
  have hs := Src.blk (n := 1) (c := 1) h (i := 0) rfl slBy rfl (fun u hu => by
    simp at hu; subst hu; rfl)
  refine rowA.append h.swap slBy rfl hs (by omega) (by rw [hn]; omega) (fun s' w1 hs' h1 => ?_)
  have e : u8s (l ++ [c]) = u8s l ++ [.int .u8 (c.toNat : Int)] := by simp [u8s]
  have h2 : Sep E (rowA s' 1 (u8s (l ++ [c])) :: L) w1 := by
    rw [e]
    exact (h1.fr 0 rfl).ro 2 [0] rfl
  refine g s' w1 (by rw [hs', hn]; simp) ?_ h2
  obtain ⟨b, _, hp, _⟩ := rowA.get_ h2 (by omega)
  rw [hp]; rfl

/-- A number is written behind bytes. -/
theorem c_put {s : Sl} {l : List UInt8} {n : Nat} (hn : n < 2097152) (hs : s.n = l.length) (hb : l.length < 50000000) (h : Sep E (rowA s 1 (u8s l) :: L) w) :
    Calls P fn_script_put #[.slice s.p s.n s.c, .int .i64 n] w (Ret fun v w' => ∃ x : Sl, v = .slice x.p x.n x.c ∧ x.n = (l ++ Scr.enc n).length ∧ x.p.isNone = false ∧ Sep E (rowA x 1 (u8s (l ++ Scr.enc n)) :: L) w') := by
  apply of_script_put
  unfold sh_script_put
  refine ⟨fun b m w' => ∃ (k : Nat) (r : List UInt8), m = k ∧ k ≤ n ∧ b.n = r.length ∧ r.length + 3 < 60000000 ∧ r.length + k ≤ l.length + n ∧ l ++ Scr.enc n = r ++ Scr.enc k ∧ Sep E (rowA b 1 (u8s r) :: L) w', fun _ m _ => m.toNat, ⟨n, l, rfl, Nat.le_refl _, hs, by omega, Nat.le_refl _, rfl, h⟩, ?_⟩
  rintro _ b m w1 ⟨k, r, rfl, hk, hbn, hr, hrk, he, h1⟩
  refine bGe (fun hge => ?_) (fun hlt => ?_)
  · have hk128 : ¬ k < 128 := by omega
    refine Al.i h1 (fun q w2 h2 => ?_)
    have e1 : orI .u8 (IntKind.u8.wrap (k : Int)) 128 = (((UInt8.ofNat (128 + k % 128)).toNat : Nat) : Int) := by rw [or128, Scr.u8 (by omega)]
    refine byte_push e1 hbn (by omega) h2 (fun b' w3 hn3 _ h3 => ?_)
    have e2 : (k : Int).fdiv (2 ^ (min (7 : Int).toNat 64)) = ((k / 128 : Nat) : Int) := by
      show (k : Int).fdiv 128 = _
      rw [Int.fdiv_eq_ediv_of_nonneg _ (by omega)]; omega
    rw [e2]
    refine ⟨by decide, ⟨k / 128, _, rfl, by omega, hn3, by simp; omega, by simp; omega, ?_, h3⟩, by dsimp only; omega⟩
    rw [he, Scr.enc_big hk128]; simp
  · have hk128 : k < 128 := by omega
    refine Al.i h1 (fun q w2 h2 => ?_)
    have e1 : IntKind.u8.wrap (k : Int) = (((UInt8.ofNat k).toNat : Nat) : Int) := by rw [wrapU8, Scr.u8 (by omega), Nat.mod_eq_of_lt (by omega)]
    refine byte_push e1 hbn (by omega) h2 (fun b' w3 hn3 hp3 h3 => ?_)
    rw [he, Scr.enc_small hk128]
    exact ⟨b', rfl, hn3, hp3, h3⟩

theorem c_number (n : Int) : Calls P fn_script_number #[.int .i64 n] w (Ret fun v w' => v = .bool (Scr.num n) ∧ w' = w) := by
  apply of_script_number
  unfold sh_script_number Scr.num
  refine bLe (fun h0 => ⟨?_, rfl⟩) (fun h0 => ⟨?_, rfl⟩)
  · congr 1; exact decide_eq_decide.2 (by omega)
  · rw [decide_eq_false (by omega)]

/-- An operation as bytes. -/
def OneEnd (E : Env) (L : List Asn) (o : Scr.Op) (v : Value) (w' : World) : Prop :=
  (Scr.okB o = true ∧ ∃ x : Sl, v = .slice x.p x.n x.c ∧ x.n = (Scr.code o).length ∧ x.p.isNone = false ∧ Sep E (rowA x 1 (u8s (Scr.code o)) :: L) w') ∨ (Scr.okB o = false ∧ v = .slice none 0 0 ∧ Sep E L w')

theorem c_one (o : Scr.Op) (h : Sep E L W) : Calls P fn_script_one #[o.v] W (Ret fun v w' => OneEnd E L o v w' ∧ Grow W w') := by
  apply of_script_one
  unfold sh_script_one
  have fin : ∀ {w' : World} {L' : List Asn} {i : Nat}, Sep (World.env W) L' w' → L'[i]? = some (old W.heap) → Grow W w' := fun hh hi => grow_old rfl hh hi
  refine Al.i (Sep.start W) (fun p1 w1 h1 => ?_)
  have h1 : Sep (World.env W) [blk p1 o.vs, old W.heap] w1 := h1
  have bad : ∀ {w' : World}, Scr.okB o = false → Sep (World.env W) [blk p1 o.vs, old W.heap] w' → OneEnd E L o (.slice none 0 0) w' ∧ Grow W w' := fun hno hh => by
    have g := fin (i := 1) hh rfl
    exact ⟨.inr ⟨hno, rfl, h.grow g⟩, g⟩
  refine ⟨fun w' => Scr.Ok o ∧ Sep (World.env W) [blk p1 o.vs, old W.heap] w', ?_, ?_⟩
  · refine ⟨_, h1.cell 0, ?_⟩
    have no : ∀ {p : Prop}, (Scr.Ok o → False) → (Scr.okB o = false → p) → p := fun h1 h2 => h2 (by
      cases hb : Scr.okB o with
      | false => rfl
      | true => exact absurd ((Scr.okB_iff o).1 hb) h1)
    refine bLt (fun hh => no (fun hok => by have := hok.k0; omega) (fun hno => bad hno h1)) (fun h0 => ?_)
    refine ⟨_, h1.cell 0, ?_⟩
    refine bGt (fun hh => no (fun hok => by have := hok.k1; omega) (fun hno => bad hno h1)) (fun h13 => ?_)
    refine ⟨_, h1.cell 1, ?_⟩
    refine use (c_number o.a) ?_
    rintro _ w2 ⟨rfl, rfl⟩
    refine ⟨_, rfl, bifI (fun hh => no (fun hok => by rw [hok.a] at hh; cases hh) (fun hno => bad hno h1)) (fun ha => ?_)⟩
    refine ⟨_, h1.cell 2, ?_⟩
    refine use (c_number o.b) ?_
    rintro _ w3 ⟨rfl, rfl⟩
    refine ⟨_, rfl, bifI (fun hh => no (fun hok => by rw [hok.b] at hh; cases hh) (fun hno => bad hno h1)) (fun hb => ?_)⟩
    refine ⟨_, h1.cell 3, ?_⟩
    refine use (c_number o.c) ?_
    rintro _ w4 ⟨rfl, rfl⟩
    refine ⟨_, rfl, bifI (fun hh => no (fun hok => by rw [hok.c] at hh; cases hh) (fun hno => bad hno h1)) (fun hc => ?_)⟩
    refine ⟨_, h1.cell 4, ?_⟩
    refine use (c_number o.d) ?_
    rintro _ w5 ⟨rfl, rfl⟩
    refine ⟨_, rfl, bifI (fun hh => no (fun hok => by rw [hok.d] at hh; cases hh) (fun hno => bad hno h1)) (fun hd => ?_)⟩
    exact ⟨⟨h0, h13, by simpa using ha, by simpa using hb, by simpa using hc, by simpa using hd⟩, h1⟩
  rintro _ w2 ⟨hok, h2⟩
  have ka := Scr.num_of hok.a
  have kb := Scr.num_of hok.b
  have kc := Scr.num_of hok.c
  have kd := Scr.num_of hok.d
  have k0 := hok.k0
  have k1 := hok.k1
  obtain ⟨a, hea⟩ : ∃ a : Nat, o.a = a := ⟨o.a.toNat, by omega⟩
  obtain ⟨b, heb⟩ : ∃ b : Nat, o.b = b := ⟨o.b.toNat, by omega⟩
  obtain ⟨c, hec⟩ : ∃ c : Nat, o.c = c := ⟨o.c.toNat, by omega⟩
  obtain ⟨d, hed⟩ : ∃ d : Nat, o.d = d := ⟨o.d.toNat, by omega⟩
  have la := Scr.enc_len a (by omega)
  have lb := Scr.enc_len b (by omega)
  have lc := Scr.enc_len c (by omega)
  have hcode : Scr.code o = ((([UInt8.ofNat o.k.toNat] ++ Scr.enc a) ++ Scr.enc b) ++ Scr.enc c) ++ Scr.enc d := by
    unfold Scr.code
    rw [hea, heb, hec, hed]
    simp only [Int.toNat_natCast, List.append_assoc]; rfl
  refine Dr.i h2 (fun w3 h3 => ?_)
  refine ⟨_, h3.cell 0, _, h3.cell 1, _, h3.cell 2, _, h3.cell 3, _, h3.cell 4, ?_⟩
  refine Al.i h3 (fun p30 w4 h4 => ?_)
  refine ⟨_, h4.cellAt 1 rfl 4, rfl, _, h4.cellAt 1 rfl 3, rfl, _, h4.cellAt 1 rfl 2, rfl, _, h4.cellAt 1 rfl 1, rfl, ?_⟩
  have e0 : IntKind.u8.wrap o.k = (((UInt8.ofNat o.k.toNat).toNat : Nat) : Int) := by
    have : o.k = (o.k.toNat : Nat) := by omega
    rw [this, wrapU8, Scr.u8 (by omega)]
    simp only [Int.toNat_natCast]
    rw [Nat.mod_eq_of_lt (by omega)]
  have h5 : Sep (World.env W) [rowA ⟨some ⟨p30, 0, none⟩, 1, 1⟩ 1 (u8s [UInt8.ofNat o.k.toNat]), blk p1 o.vs, old W.heap] w4 := by
    refine rowA.make (spare := []) ?_ rfl rfl (Nat.le_refl _)
    rw [e0] at h4
    exact h4
  have rd : ∀ {w' : World} {A : Asn}, Sep (World.env W) [A, blk p1 o.vs, old W.heap] w' → ∀ j v, o.vs[j]? = some v → w'.cell? ⟨p1, j, none⟩ = some v := fun hh j v hv => (hh.cellAt 1 rfl j).trans hv
  rw [hea]
  refine use (c_put (s := ⟨some ⟨p30, 0, none⟩, 1, 1⟩) (n := a) (by omega) rfl (by simp) h5) ?_
  rintro _ w5 ⟨x1, rfl, n1, _, h6⟩
  refine ⟨x1, rfl, _, rd h6 4 _ rfl, rfl, _, rd h6 3 _ rfl, rfl, _, rd h6 2 _ rfl, rfl, ?_⟩
  rw [heb]
  refine use (c_put (s := x1) (n := b) (by omega) n1 (by simp; omega) h6) ?_
  rintro _ w6 ⟨x2, rfl, n2, _, h7⟩
  refine ⟨x2, rfl, _, rd h7 4 _ rfl, rfl, _, rd h7 3 _ rfl, rfl, ?_⟩
  rw [hec]
  refine use (c_put (s := x2) (n := c) (by omega) n2 (by simp; omega) h7) ?_
  rintro _ w7 ⟨x3, rfl, n3, _, h8⟩
  refine ⟨x3, rfl, _, rd h8 4 _ rfl, rfl, ?_⟩
  rw [hed]
  refine use (c_put (s := x3) (n := d) (by omega) n3 (by simp; omega) h8) ?_
  rintro _ w8 ⟨x4, rfl, n4, hp4, h9⟩
  rw [← hcode] at n4 h9
  obtain ⟨g, hj⟩ := h.join h9 (i := 1) rfl
  exact ⟨x4, rfl, .inl ⟨(Scr.okB_iff o).2 hok, x4, rfl, n4, hp4, hj⟩, g⟩

theorem c_Size (o : Scr.Op) (h : Sep E L W) : Calls P fn_script_Size #[o.v] W (Ret fun v w' => v = .int .i64 (if Scr.okB o = true then ((Scr.code o).length : Int) else 0) ∧ Grow W w' ∧ Sep E L w') := by
  apply of_script_Size
  unfold sh_script_Size
  refine Al.i (Sep.start W) (fun p1 w1 h1 => ?_)
  have h1 : Sep (World.env W) [blk p1 o.vs, old W.heap] w1 := h1
  refine ⟨_, h1.cell 0, _, h1.cell 1, _, h1.cell 2, _, h1.cell 3, _, h1.cell 4, ?_⟩
  refine use (c_one o h1) ?_
  rintro _ w2 ⟨(⟨hok, x, rfl, hn, _, h2⟩ | ⟨hno, rfl, h2⟩), _⟩
  · have g : Grow W w2 := grow_old (i := 2) rfl h2 rfl
    refine ⟨x, rfl, ?_, g, h.grow g⟩
    rw [hok, if_pos rfl, hn]
  · have g : Grow W w2 := grow_old (i := 1) rfl h2 rfl
    refine ⟨⟨none, 0, 0⟩, rfl, ?_, g, h.grow g⟩
    rw [hno]; rfl

/-! ### rows of operations -/

structure Ops (w : World) (s : Sl) (l : List Scr.Op) : Prop where
  n : s.n = l.length
  rd : ∀ (i : Nat) o, l[i]? = some o → ∃ a, s.p = some a ∧ ∀ (j : Nat) v, o.vs[j]? = some v → w.cell? ((a.add (i * 5)).add j) = some v
theorem Ops.grow {s : Sl} {l : List Scr.Op} (h : Ops W s l) (g : Grow W w) : Ops w s l := ⟨h.n, fun i x hx => let ⟨a, h1, h2⟩ := h.rd i x hx; ⟨a, h1, fun j v hv => g.cell (h2 j v hv)⟩⟩
theorem Ops.at_ {s : Sl} {l : List Scr.Op} {i : Int} {f : Addr → Prop} (h : Ops w s l) (k : Nat) (hi : i = k) {o : Scr.Op} (hx : l[k]? = some o) (kk : ∀ a, (∀ w', Grow w w' → ∀ (j : Nat) v, o.vs[j]? = some v → w'.cell? (a.add j) = some v) → f a) : elAt s.p s.n i 5 f := by
  have hlt := (List.getElem?_eq_some_iff.1 hx).1
  obtain ⟨a, hp, ha⟩ := h.rd k o hx
  have := h.n
  refine ⟨a, hp, ⟨by omega, by omega⟩, kk _ (fun w' g j v hv => ?_)⟩
  have e : i.toNat = k := by omega
  rw [e]; exact g.cell (ha j v hv)
theorem vs5 (o : Scr.Op) : o.vs.length = 5 := rfl
theorem slOp : slQ P 22 = some (40, 5, [.int .i64 0, .int .i64 0, .int .i64 0, .int .i64 0, .int .i64 0]) := by kernel_rfl
theorem op_push {s : Sl} {q : Nat} {l : List Scr.Op} {x : Scr.Op} (hn : s.n = l.length) (hb : l.length < 100000000) (h : Sep E (blk q x.vs :: rowA s 5 (recs Scr.Op.vs l) :: L) w) {G : Sl → World → Prop}
    (g : ∀ s' w1, s'.n = (l ++ [x]).length → Sep E (rowA s' 5 (recs Scr.Op.vs (l ++ [x])) :: L) w1 → G s' w1) :
    ∃ x1 : Sl, ∃ w1, Sem.run P (Builtin.append_ #[22, 22] 22 #[.slice s.p s.n s.c, .slice (some ⟨q, 0, none⟩) 1 1]) w = .ok (.slice x1.p x1.n x1.c) w1 ∧ G x1 w1 := by
  have hs := Src.blk (n := 1) (c := 1) h (i := 0) rfl slOp rfl (fun u hu => by
    simp [Scr.Op.vs] at hu; rcases hu with rfl | rfl | rfl | rfl | rfl <;> rfl)
  refine rowA.append h.swap slOp rfl hs (by omega) (by rw [hn]; omega) (fun s' w1 hs' h1 => g s' w1 (by rw [hs', hn]; simp) ?_)
  rw [recs_append, recs_one]
  exact (h1.fr 0 rfl).ro 2 [0] rfl
theorem Ops.row {s : Sl} {l : List Scr.Op} {q : Nat} (h : Sep E L w) (hq : L[q]? = some (rowA s 5 (recs Scr.Op.vs l))) (hn : s.n = l.length) : Ops w s l := by
  refine ⟨hn, fun i o ho => ?_⟩
  have hlt := (List.getElem?_eq_some_iff.1 ho).1
  have h1 := h.fr q hq
  obtain ⟨b, spare, hp, g1, g2, g3, h2⟩ := rowA.get_ h1 (by omega)
  refine ⟨_, hp, fun j v hv => ?_⟩
  have hj : j < 5 := by have := (List.getElem?_eq_some_iff.1 hv).1; rwa [vs5] at this
  rw [add_mk, add_mk, Nat.zero_add, rowA.cell h2 ?_, recs_at vs5 ho j hj]
  · exact hv
  · rw [recs_length vs5]
    have : (i + 1) * 5 ≤ l.length * 5 := Nat.mul_le_mul_right _ hlt
    omega
theorem ops_nil : Ops w ⟨none, 0, 0⟩ [] := ⟨rfl, fun i o ho => by simp at ho⟩

theorem op_inj {a b : Scr.Op} (h : a.v = b.v) : a = b := by
  cases a; cases b
  simp [Scr.Op.v] at h
  simp [h]
theorem op_vt (o : Scr.Op) : Typed P 25 [.int .i64, .int .i64, .int .i64, .int .i64, .int .i64] o.v := by
  unfold Typed; rw [show aggQ P 25 = some true by kernel_rfl]
  exact ⟨_, rfl, ⟨_, rfl⟩, ⟨_, rfl⟩, ⟨_, rfl⟩, ⟨_, rfl⟩, ⟨_, rfl⟩, trivial⟩
theorem op_neq (a b : Scr.Op) : ∃ r, EqV P .neq 25 a.v b.v r ∧ (r = false ↔ a = b) := by
  obtain ⟨r, h1, h2⟩ := EqV.neq (d := 4) (by kernel_rfl : eqT P 4 25 = _) (by decide) (by kernel_rfl) (by kernel_rfl) (op_vt a) (op_vt b)
  exact ⟨r, h1, h2.trans ⟨op_inj, fun e => by rw [e]⟩⟩

/-- All as bytes. -/
def PutOk (l : List Scr.Op) : Prop := (∀ o ∈ l, Scr.Ok o) ∧ l.length ≤ 1000
def PutEnd (E : Env) (L : List Asn) (l : List Scr.Op) (v : Value) (w' : World) : Prop :=
  (PutOk l ∧ ∃ x : Sl, v = .tuple #[.slice x.p x.n x.c, .int .i64 0] ∧ x.n = (Scr.text l).length ∧ Sep E (rowA x 1 (u8s (Scr.text l)) :: L) w') ∨ (¬ PutOk l ∧ v = .tuple #[.slice none 0 0, .int .i64 1] ∧ Sep E L w')

theorem c_Put {s : Sl} {l : List Scr.Op} (hO : Ops W s l) (h : Sep E L W) : Calls P fn_script_Put #[.slice s.p s.n s.c] W (Ret fun v w' => PutEnd E L l v w' ∧ Grow W w') := by
  apply of_script_Put
  unfold sh_script_Put
  have hsn := hO.n
  have fin : ∀ {w' : World} {L' : List Asn} {i : Nat}, Sep (World.env W) L' w' → L'[i]? = some (old W.heap) → Grow W w' := fun hh hi => grow_old rfl hh hi
  refine ⟨fun b x w' => ∃ j : Nat, x = j ∧ j ≤ l.length ∧ (0 < j → l.length ≤ 1000) ∧ (∀ o ∈ l.take j, Scr.Ok o) ∧ b.n = (Scr.text (l.take j)).length ∧ Sep (World.env W) [rowA b 1 (u8s (Scr.text (l.take j))), old W.heap] w',
    fun _ x _ => (l.length - x).toNat, ⟨0, rfl, Nat.zero_le _, fun hh => by omega, by simp, rfl, rowA.none_ (Sep.start W)⟩, ?_⟩
  rintro _ b x w1 ⟨j, rfl, hj, h1000, hok, hbn, h1⟩
  refine bLt (fun hlt => ?_) (fun hge => ?_)
  · obtain ⟨o, ho⟩ : ∃ o, l[j]? = some o := ⟨_, List.getElem?_eq_getElem (by omega)⟩
    have hmo := List.mem_of_getElem? ho
    refine (hO.grow (fin (i := 1) h1 rfl)).at_ j rfl ho (fun p hp => ?_)
    have hp := hp w1 (Grow.refl _)
    refine ⟨_, hp 0 _ rfl, _, hp 1 _ rfl, _, hp 2 _ rfl, _, hp 3 _ rfl, _, hp 4 _ rfl, ?_⟩
    refine Al.i h1 (fun p13 w2 h2 => ?_)
    refine zst _ h2 rfl (fun w3 h3 => ?_)
    refine ⟨_, h3.cell 0, _, h3.cell 1, _, h3.cell 2, _, h3.cell 3, _, h3.cell 4, ?_⟩
    refine use (c_one o h3) ?_
    rintro _ w4 ⟨(⟨hoo, y, rfl, hyn, hyp, h4⟩ | ⟨hoo, rfl, h4⟩), _⟩
    · refine ⟨y, rfl, bF hyp ?_⟩
      refine bGt (fun hgt => ?_) (fun hle => ?_)
      · have g := fin (i := 3) h4 rfl
        exact ⟨.inr ⟨fun hh => by have := hh.2; omega, rfl, h.grow g⟩, g⟩
      · have hl13 := (Scr.text_len hok).2
        have htl : (l.take j).length ≤ 1000 := by rw [List.length_take]; omega
        have hoo := (Scr.okB_iff o).1 hoo
        have hlo := (Scr.code_len hoo).2
        have h5 : Sep (World.env W) [rowA b 1 (u8s (Scr.text (l.take j))), rowA y 1 (u8s (Scr.code o)), old W.heap] w4 := h4.ro 4 [2, 0, 3] rfl
        have hB : Byt w4 y (Scr.code o) := Byt.row (q := 1) h5 rfl hyn
        refine rowA.app h5 slBy rfl (hB.src slBy) (by rw [hbn]; omega) (fun b' w5 hn5 h6 => ?_)
        have e1 : u8s (Scr.text (l.take j)) ++ u8s (Scr.code o) = u8s (Scr.text (l.take (j + 1))) := by
          rw [take_succ ho, Scr.text_append, Scr.text_one]; simp [u8s]
        rw [e1] at h6
        refine ⟨⟨j + 1, wrapS (by omega), by omega, fun _ => by omega, fun q hq => ?_, ?_, h6.ro 3 [0, 2] rfl⟩, by rw [wrapS (by omega)]; dsimp only; omega⟩
        · rw [take_succ ho] at hq
          rcases List.mem_append.1 hq with hq | hq
          · exact hok q hq
          · rw [List.mem_singleton.1 hq]; exact hoo
        · rw [hn5, hbn, take_succ ho, Scr.text_append, Scr.text_one, List.length_append]
    · have g := fin (i := 2) h4 rfl
      refine ⟨⟨none, 0, 0⟩, rfl, bT rfl ⟨.inr ⟨fun hh => ?_, rfl, h.grow g⟩, g⟩⟩
      rw [(Scr.okB_iff o).2 (hh.1 o hmo)] at hoo; cases hoo
  · have e : j = l.length := by omega
    subst e
    rw [List.take_length] at hok hbn h1
    obtain ⟨g, hj⟩ := h.join h1 (i := 0) rfl
    refine ⟨.inl ⟨⟨hok, ?_⟩, b, rfl, hbn, hj⟩, g⟩
    rcases Nat.eq_zero_or_pos l.length with h0 | h0
    · omega
    · exact h1000 h0

end Go.Mp
