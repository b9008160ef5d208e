/- Ranges over the lists: those of a group; how many. -/
import Derived.Test.YtkheedbjhboclaaGnC
set_option maxRecDepth 100000
namespace Go.Mp
open Go Go.Vc Go.Sp

variable {R : List Ent} {E : Env} {L : List Asn} {w : World} {l : Nat}

/-- How many of those that are behind are such. -/
def cntD (R : List Ent) (d : Int → Bool) (p : Ent → Bool) : Nat := (R.filter (fun e => d e.id && p e)).length
/-- One more is behind. -/
def plus (d : Int → Bool) (k : Int) : Int → Bool := fun x => d x || x == k

theorem cnt_none (p : Ent → Bool) : cntD R (fun _ => false) p = 0 := by unfold cntD; simp
theorem cnt_all {d : Int → Bool} (p : Ent → Bool) (h : ∀ e ∈ R, d e.id = true) : cntD R d p = (R.filter p).length := by
  unfold cntD
  congr 1
  apply List.filter_congr
  intro e he; rw [h e he, Bool.true_and]
theorem cnt_le (d : Int → Bool) (p : Ent → Bool) : cntD R d p ≤ R.length := List.length_filter_le _ _
theorem cnt_step (G : R.Pairwise (fun a b : Ent => a.id < b.id)) {d : Int → Bool} (p : Ent → Bool) {k : Int} {e : Ent} (he : fnd R k = some e) (hd : d k = false) : cntD R (plus d k) p = cntD R d p + (if p e then 1 else 0) := by
  obtain ⟨h1, h2⟩ := (fnd_iff G).1 he
  clear he
  unfold cntD plus
  induction R with
  | nil => cases h1
  | cons x R ih =>
    obtain ⟨g1, g2⟩ := List.pairwise_cons.1 G
    rw [List.filter_cons, List.filter_cons]
    rcases List.mem_cons.1 h1 with rfl | h1
    · have hrest : R.filter (fun y => (d y.id || y.id == k) && p y) = R.filter (fun y => d y.id && p y) := by
        apply List.filter_congr
        intro y hy
        have : (y.id == k) = false := by have := g1 y hy; simp; omega
        rw [this, Bool.or_false]
      rw [hrest, h2, hd]
      cases p e <;> simp
    · have := ih g2 h1
      have hx : (x.id == k) = false := by have := g1 e h1; simp; omega
      rw [hx, Bool.or_false]
      cases (d x.id && p x)
      · simpa using this
      · simp only [if_true, List.length_cons]; omega

/-- What the map holds when some of them are behind. -/
def gd (R : List Ent) (d : Int → Bool) (F : Ent → Ent) : Int → Option Value := fun k => (fnd R k).map fun e => if d k then oneV (F e).group (F e).age else oneV e.group e.age

theorem gd_none (F : Ent → Ent) : gd R (fun _ => false) F = gm R := by
  funext k; unfold gd gm; cases fnd R k <;> simp
theorem fnd_map (F : Ent → Ent) (hF : ∀ e, (F e).id = e.id) (k : Int) : fnd (R.map F) k = (fnd R k).map F := by
  unfold fnd
  rw [List.find?_map]
  congr 2
  funext e; simp [hF]
theorem gd_all (G : R.Pairwise (fun a b : Ent => a.id < b.id)) {d : Int → Bool} {F : Ent → Ent} (hF : ∀ e, (F e).id = e.id) (h : ∀ e ∈ R, d e.id = true) : gd R d F = gm (R.map F) := by
  funext k; unfold gd gm
  rw [fnd_map F hF]
  cases hf : fnd R k with
  | none => rfl
  | some e =>
    obtain ⟨h1, h2⟩ := (fnd_iff G).1 hf
    have := h e h1
    rw [h2] at this
    simp [this]
theorem gd_same {d : Int → Bool} {F : Ent → Ent} {k : Int} {e : Ent} (he : fnd R k = some e) (hs : F e = e) : gd R (plus d k) F = gd R d F := by
  funext x; unfold gd plus
  by_cases hx : x = k
  · subst hx; rw [he]; simp [hs]
  · have : (x == k) = false := by simpa using hx
    rw [this, Bool.or_false]
theorem gd_upd {d : Int → Bool} {F : Ent → Ent} {k : Int} {e : Ent} (he : fnd R k = some e) : upd (gd R d F) k (some (oneV (F e).group (F e).age)) = gd R (plus d k) F := by
  funext x; unfold upd gd plus
  by_cases hx : x = k
  · subst hx; rw [if_pos rfl, he]; simp
  · have : (x == k) = false := by simpa using hx
    rw [if_neg hx, this, Bool.or_false]

theorem plus_prop (d : Int → Bool) (k : Int) : (fun x => d x = true ∨ x = k) = fun x => plus d k x = true := by
  funext x; unfold plus; simp

theorem c_Count (G : Good R) (g : Int) (hb : R.length < 4611686018427387904) (h : Sep E (Lst l R :: L) w) : Calls P fn_gens_Lists_Count #[.pointer (some ⟨l, 0, none⟩), .int .i64 g] w (Ret fun v w' => v = .int .i64 (gCount R g) ∧ Sep E (Lst l R :: L) w') := by
  apply of_gens_Lists_Count
  unfold sh_gens_Lists_Count
  obtain ⟨m, h2⟩ := Lst.open h
  refine ⟨_, rfl, ld h2 0 rfl rfl rfl (mapIt.start h2.swap mq (fun it w1 n h1 => ?_))⟩
  refine ⟨fun c w => ∃ d cur n, c = cntD R d (fun e => e.group == g) ∧ Sep E (mapIt it m encI (gm R) (fun x => d x = true) cur n :: blk l [.map (some m)] :: L) w, fun _ w => itLeft w it m, ⟨fun _ => false, none, n, by rw [cnt_none]; rfl, ?_⟩, ?_⟩
  · have e : (fun x : Int => ((fun _ => false : Int → Bool) x) = true) = fun _ => False := by funext x; simp
    rw [e]; exact h1
  rintro _ c w2 ⟨d, cur, n, rfl, h3⟩
  have hle := cnt_le (R := R) d (fun e => e.group == g)
  refine mapIt.next encI_inj h3 (fun hall w3 h4 => ?_) (fun k v n' hk hnd hn w3 h4 => ?_)
  · refine ⟨?_, Lst.shut (mapIt.over h4).swap⟩
    unfold gCount
    rw [cnt_all]
    intro e he
    exact hall e.id (oneV e.group e.age) (by unfold gm; rw [(fnd_iff G.rise).2 ⟨he, rfl⟩]; rfl)
  · have hent := mapIt.entry (P := P) h4 encI_inj hk
    obtain ⟨e, he, hv⟩ : ∃ e, fnd R k = some e ∧ oneV e.group e.age = v := by
      unfold gm at hk
      cases hf : fnd R k with
      | none => rw [hf] at hk; cases hk
      | some e => rw [hf] at hk; exact ⟨e, rfl, by simpa using hk⟩
    subst hv
    rw [plus_prop] at h4
    have hl0 := mapIt.left h3
    refine ⟨_, _, _, _, hent, Al.i h4 (fun p w4 h5 => zst _ (vs := [.int .i64 e.group, .int .i64 e.age]) h5 rfl (fun w5 h6 => ?_))⟩
    have hl1 := mapIt.left h6.tail
    have hst := cnt_step G.rise (fun e => e.group == g) he (Bool.eq_false_iff.2 hnd)
    refine ld h6 0 rfl rfl rfl (bEq (fun hg => ?_) (fun hg => ?_))
    · rw [w64 (by omega) (by omega)]
      refine ⟨⟨plus d k, _, _, ?_, h6.tail⟩, by dsimp only; omega⟩
      rw [hst]; simp [hg]
    · refine ⟨⟨plus d k, _, _, ?_, h6.tail⟩, by dsimp only; omega⟩
      rw [hst]; simp [hg]

theorem one_neq (a b : Int × Int) : ∃ q, EqV P .neq ty_gens_one (oneV a.1 a.2) (oneV b.1 b.2) q ∧ (q = false ↔ a = b) := by
  have ht : ∀ p : Int × Int, Typed P ty_gens_one [.int .i64, .int .i64] (oneV p.1 p.2) := fun p => by
    unfold Typed; rw [show aggQ P ty_gens_one = some true by kernel_rfl]
    exact ⟨_, rfl, ⟨_, rfl⟩, ⟨_, rfl⟩, trivial⟩
  obtain ⟨q, h1, h2⟩ := EqV.neq (d := 4) (by kernel_rfl : eqT P 4 ty_gens_one = _) (by decide) (by kernel_rfl) (by kernel_rfl) (ht a) (ht b)
  refine ⟨q, h1, h2.trans ⟨fun e => ?_, fun e => by rw [e]⟩⟩
  simp [oneV] at e
  exact Prod.ext e.1 e.2

theorem c_each (G : Good R) (g : Int) (ch : Int → Int → Int × Int) {change : Value}
    (hch : ∀ (A : Asn) (x a : Int) (w : World), Sep E (A :: L) w → callD P change #[oneV x a] w fun e w' => e = .returned (oneV (ch x a).1 (ch x a).2) ∧ Sep E (A :: L) w') (hb : R.length < 4611686018427387904)
    (h : Sep E (Lst l R :: L) w) : Calls P fn_gens_Lists_each #[.pointer (some ⟨l, 0, none⟩), .int .i64 g, change] w (Ret fun v w' => v = .int .i64 (gEach R g ch).2 ∧ Sep E (Lst l (gEach R g ch).1 :: L) w') := by
  apply of_gens_Lists_each
  unfold sh_gens_Lists_each
  obtain ⟨m, h2⟩ := Lst.open h
  refine ⟨_, rfl, ld h2 0 rfl rfl rfl (mapIt.start h2.swap mq (fun it w1 n h1 => ?_))⟩
  refine ⟨fun c w => ∃ d cur n, c = cntD R d (isChg g ch) ∧ Sep E (mapIt it m encI (gd R d (chg g ch)) (fun x => d x = true) cur n :: blk l [.map (some m)] :: L) w, fun _ w => itLeft w it m, ⟨fun _ => false, none, n, by rw [cnt_none]; rfl, ?_⟩, ?_⟩
  · have e : (fun x : Int => ((fun _ => false : Int → Bool) x) = true) = fun _ => False := by funext x; simp
    rw [e, gd_none]; exact h1
  rintro _ c w2 ⟨d, cur, n, rfl, h3⟩
  have hle := cnt_le (R := R) d (isChg g ch)
  refine mapIt.next encI_inj h3 (fun hall w3 h4 => ?_) (fun k v n' hk hnd hn w3 h4 => ?_)
  · have hall' : ∀ e ∈ R, d e.id = true := fun e he => by
      have hf := (fnd_iff G.rise).2 ⟨he, rfl⟩
      exact hall e.id _ (by unfold gd; rw [hf]; rfl)
    refine ⟨by unfold gEach; rw [cnt_all _ hall'], ?_⟩
    rw [gd_all G.rise (chg_id g ch) hall'] at h4
    exact Lst.shut (mapIt.over h4).swap
  · have hent := mapIt.entry (P := P) h4 encI_inj hk
    have hdf := Bool.eq_false_iff.2 hnd
    obtain ⟨e, he, hv⟩ : ∃ e, fnd R k = some e ∧ oneV e.group e.age = v := by
      unfold gd at hk
      cases hf : fnd R k with
      | none => rw [hf] at hk; cases hk
      | some e => rw [hf] at hk; exact ⟨e, rfl, by simpa [hdf] using hk⟩
    subst hv
    rw [plus_prop] at h4
    have hl0 := mapIt.left h3
    have hst := cnt_step G.rise (isChg g ch) he hdf
    refine ⟨_, _, _, _, hent, Al.i h4 (fun p w4 h5 => zst _ (vs := [.int .i64 e.group, .int .i64 e.age]) h5 rfl (fun w5 h6 => ?_))⟩
    refine ld h6 0 rfl rfl rfl (ld h6 0 rfl rfl rfl ?_)
    have h7 : Sep E (starL [blk p [.int .i64 e.group, .int .i64 e.age], mapIt it m encI (gd R d (chg g ch)) (fun x => plus d k x = true) (some k) n', blk l [.map (some m)]] :: L) w5 := Sep.starL.2 h6
    refine callD.use (hch _ e.group e.age w5 h7) ?_
    rintro _ w6 ⟨rfl, h8⟩
    have h8 : Sep E (blk p [.int .i64 e.group, .int .i64 e.age] :: mapIt it m encI (gd R d (chg g ch)) (fun x => plus d k x = true) (some k) n' :: blk l [.map (some m)] :: L) w6 := Sep.starL.1 h8
    refine ⟨_, _, rfl, Al.i h8 (fun q w7 h9 => zst _ (vs := [.int .i64 (ch e.group e.age).1, .int .i64 (ch e.group e.age).2]) h9 rfl (fun w8 h10 => ?_))⟩
    refine ⟨fun c w => c = isChg g ch e ∧ Sep E (blk q [.int .i64 (ch e.group e.age).1, .int .i64 (ch e.group e.age).2] :: blk p [.int .i64 e.group, .int .i64 e.age] :: mapIt it m encI (gd R d (chg g ch)) (fun x => plus d k x = true) (some k) n' :: blk l [.map (some m)] :: L) w, ?_, ?_⟩
    · refine ld h10 1 rfl rfl rfl (bEq (fun hg => ?_) (fun hg => ⟨by unfold isChg; simp [hg], h10⟩))
      refine ld h10 1 rfl rfl rfl (ld h10 1 rfl rfl rfl (ld h10 0 rfl rfl rfl (ld h10 0 rfl rfl rfl ?_)))
      obtain ⟨r, hr1, hr2⟩ := one_neq (e.group, e.age) (ch e.group e.age)
      refine ⟨r, hr1, ?_, h10⟩
      unfold isChg
      cases r with
      | false =>
        have e1 := hr2.1 rfl
        rw [← e1]; simp
      | true =>
        have e1 : ¬ ch e.group e.age = (e.group, e.age) := fun e' => by have := hr2.2 e'.symm; cases this
        have e2 : (ch e.group e.age == (e.group, e.age)) = false := by simpa using e1
        rw [e2]; simp [hg]
    rintro _ c w9 ⟨rfl, h11⟩
    refine bifI (fun hc => ?_) (fun hc => ?_)
    · have hc' : e.group = g ∧ ch e.group e.age ≠ (e.group, e.age) := by unfold isChg at hc; simpa using hc
      have hF : chg g ch e = ⟨e.id, (ch e.group e.age).1, (ch e.group e.age).2⟩ := by unfold chg; rw [if_pos hc'.1]
      refine Dr.i h11 (fun w10 h12 => ⟨_, rfl, ld h12 3 rfl rfl rfl (ld h12 0 rfl rfl rfl (ld h12 0 rfl rfl rfl ?_))⟩)
      refine mapIt.update (h12.ro 4 [2, 0, 1, 3] rfl) K_int mq k _ hk (fun w11 h13 => ?_)
      have e2 := gd_upd (d := d) (F := chg g ch) he
      rw [hF] at e2
      have h13' : Sep E (mapIt it m encI (upd (gd R d (chg g ch)) k (some (oneV (ch e.group e.age).1 (ch e.group e.age).2))) (fun x => plus d k x = true) (some k) n' :: blk q _ :: blk p _ :: blk l [.map (some m)] :: L) w11 := h13
      rw [e2] at h13'
      have hl1 := mapIt.left h13'
      rw [w64 (by omega) (by omega)]
      refine ⟨⟨plus d k, _, _, ?_, h13'.ro 4 [0, 3] rfl⟩, by dsimp only; omega⟩
      rw [hst, if_pos hc]; simp
    · have hF : chg g ch e = e := by
        unfold isChg at hc
        unfold chg
        by_cases hg : e.group = g
        · have hce : ch e.group e.age = (e.group, e.age) := by simpa [hg] using hc
          rw [if_pos hg, hce]
        · rw [if_neg hg]
      have h12 : Sep E (mapIt it m encI (gd R d (chg g ch)) (fun x => plus d k x = true) (some k) n' :: blk l [.map (some m)] :: L) w9 := h11.tail.tail
      rw [← gd_same (d := d) he hF] at h12
      have hl1 := mapIt.left h12
      refine ⟨⟨plus d k, _, _, ?_, h12⟩, by dsimp only; omega⟩
      rw [hst, if_neg (by simp [hc])]; simp

theorem c_Age (G : Good R) (g : Int) (hb : R.length < 4611686018427387904) (h : Sep E (Lst l R :: L) w) : Calls P fn_gens_Lists_Age #[.pointer (some ⟨l, 0, none⟩), .int .i64 g] w (Ret fun v w' => v = .int .i64 (gEach R g chAge).2 ∧ Sep E (Lst l (gEach R g chAge).1 :: L) w') := by
  apply of_gens_Lists_Age
  unfold sh_gens_Lists_Age
  refine use (c_each G g chAge (fun A x a w1 h1 => ⟨fn_gens_Lists_Age_1, _, rfl, by kernel_rfl, ?_⟩) hb h) ?_
  · refine use (K := fun v w' => v = oneV (chAge x a).1 (chAge x a).2 ∧ Sep E (A :: L) w') (of_gens_Lists_Age_1 x a ?_) (fun v w' ⟨hv, hs⟩ => ⟨by rw [hv], hs⟩)
    unfold sh_gens_Lists_Age_1
    refine Al.i h1 (fun p w2 h2 => Al.i h2 (fun q w3 h3 => ld h3 1 rfl rfl rfl (ld h3 1 rfl rfl rfl (zst _ (vs := [.int .i64 x, .int .i64 _]) h3 rfl (fun w4 h4 => ?_)))))
    exact ld h4 0 rfl rfl rfl (ld h4 0 rfl rfl rfl ⟨rfl, h4.tail.tail⟩)
  · rintro _ w1 ⟨rfl, h1⟩
    exact ⟨_, rfl, rfl, h1⟩

theorem c_Move (G : Good R) (f t : Int) (hb : R.length < 4611686018427387904) (h : Sep E (Lst l R :: L) w) : Calls P fn_gens_Lists_Move #[.pointer (some ⟨l, 0, none⟩), .int .i64 f, .int .i64 t] w (Ret fun v w' => v = .int .i64 (gMove R f t).2 ∧ Sep E (Lst l (gMove R f t).1 :: L) w') := by
  apply of_gens_Lists_Move
  unfold sh_gens_Lists_Move
  unfold gMove
  have bad : ∀ {w1 : World} {p1 : Nat}, (t < 0 ∨ 16777216 < t) → Sep E (blk p1 [.int .i64 t] :: Lst l R :: L) w1 → (Value.int .i64 0 = .int .i64 (if t < 0 ∨ 16777216 < t then (R, (0 : Int)) else gEach R f (fun _ a => (t, a))).2 ∧ Sep E (Lst l (if t < 0 ∨ 16777216 < t then (R, (0 : Int)) else gEach R f (fun _ a => (t, a))).1 :: L) w1) := by
    intro w1 p1 hb h; rw [if_pos hb]; exact ⟨rfl, h.tail⟩
  refine Al.i h (fun p w1 h1 => ⟨fun w => ¬ (t < 0 ∨ 16777216 < t) ∧ Sep E (blk p [.int .i64 t] :: Lst l R :: L) w, ?_, ?_⟩)
  · exact ld h1 0 rfl rfl rfl (bLt (fun c => bad (.inl c) h1) (fun c1 => ld h1 0 rfl rfl rfl (bGt (fun c => bad (.inr c) h1) (fun c2 => ⟨by omega, h1⟩))))
  rintro _ w2 ⟨hb2, h2⟩
  rw [if_neg hb2]
  refine use (c_each (L := blk p [.int .i64 t] :: L) G f (fun _ a => (t, a)) (fun A x a w1 h1 => ⟨fn_gens_Lists_Move_1, _, rfl, by kernel_rfl, ?_⟩) hb h2.swap) ?_
  · refine use (K := fun v w' => v = oneV t a ∧ Sep E (A :: blk p [.int .i64 t] :: L) w') (of_gens_Lists_Move_1 x a ⟨p, 0, none⟩ ?_) (fun v w' ⟨hv, hs⟩ => ⟨by rw [hv], hs⟩)
    unfold sh_gens_Lists_Move_1
    refine Al.i h1 (fun p1 w2 h2 => Al.i h2 (fun q w3 h3 => ld h3 3 rfl rfl rfl (ld h3 1 rfl rfl rfl (zst _ (vs := [.int .i64 t, .int .i64 a]) h3 rfl (fun w4 h4 => ?_)))))
    exact ld h4 0 rfl rfl rfl (ld h4 0 rfl rfl rfl ⟨rfl, h4.tail.tail⟩)
  · rintro _ w3 ⟨rfl, h3⟩
    exact ⟨_, rfl, rfl, (h3.fr 1 rfl).tail⟩

end Go.Mp
