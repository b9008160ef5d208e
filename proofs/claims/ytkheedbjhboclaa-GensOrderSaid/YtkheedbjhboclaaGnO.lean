/- The order of ids: the oldest first. -/
import Derived.Test.YtkheedbjhboclaaGnX
import Derived.Test.YtkheedbjhboclaaGnS
set_option maxRecDepth 100000
namespace Go.Mp
open Go Go.Vc Go.Sp Go.Proofs Go.Shelf Go.Stab

variable {E : Env} {L : List Asn} {w : World} {R : List Ent} {l : Nat}

theorem sortsA (m : Nat) : AnyZI.SortsIn P Try.sortedA_ren Fence.wide m :=
  ⟨fun blk off cap ss W hH hblk hsz => callsIn_wide.2 (AnyM.slices_Sort_int Try.sortA blk off cap ss W hH hblk hsz),
   fun p cap W => callsIn_wide.2 (AnyM.slices_Sort_int_none Try.sortA p cap W)⟩

theorem c_keys (mb : Option Nat) (W : World) : Calls P fn_maps_Keys_map_int_gens_one_int_gens_one #[.map mb] W fun e w' => e = .returned (.func (.func fn_maps_Keys_map_int_gens_one_int_gens_one_1) #[] #[.pointer (some ⟨W.heap.size, 0, none⟩)]) ∧ w' = W.alloc (.cells #[.map mb] (Try.keysA_ren.t 23)) :=
  (callsIn_wide (n := 5)).1 (AnyZI.keys_in Try.keysA Fence.wide 5 trivial rfl mb W)

/-- The sorted keys of a map. -/
theorem c_sortedKeys {mp q : Nat} {f : Int → Option Value} (h : Sep E L w) (hq : L[q]? = some (mapF mp (Value.int .i64) f)) {N : Nat} (hN : ∀ k v, f k = some v → 0 ≤ k ∧ k < N) (hb : N ≤ 17592186044416) {G : Sl → World → Prop}
    (k : ∀ (s : Sl) (l : List Int) (w' : World), s.n = l.length → KeysOf f l → Sep E (rowA s 1 (intL l) :: L) w' → G s w') :
    Calls P fn_maps_Keys_map_int_gens_one_int_gens_one #[(.map (some mp))] w fun e9 w8 => ∃ x10 : Value, e9 = .returned x10 ∧ Calls P fn_slices_Sorted_int #[x10] w8 fun e12 w11 => ∃ x13 : Sl, e12 = .returned (.slice x13.p x13.n x13.c) ∧ G x13 w11 := by
  refine (c_keys _ w).mono ?_
  rintro e w1 ⟨rfl, rfl⟩
  refine ⟨_, rfl, ?_⟩
  have h1 := h.alloc #[.map (some mp)] (Try.keysA_ren.t 23)
  have hq1 : (blk w.heap.size [.map (some mp)] :: L)[q + 1]? = some (mapF mp (Value.int .i64) f) := by simpa using hq
  obtain ⟨D, hown, hsz, hss⟩ := mapF.owns (kt := ty_int) h1 hq1 (by kernel_rfl) hN hb
  have hseq := AnyZI.keys_gives (ρ := Try.keysA_ren) { Try.keysA with } Fence.wide 2 trivial rfl (by omega) w.heap.size mp N D _ (by simp) (by simp) hown
  have hg : ∀ args W, (callFunc fn_maps_Keys_map_int_gens_one_int_gens_one_1 args).run P W = .ok (.enter fn_maps_Keys_map_int_gens_one_int_gens_one_1 args) W := enters_of Try.func46 (by kernel_rfl) rfl
  have h9 : ∀ args W, (callFunc (Try.sortedA_ren.f 9) args).run P W = .ok (.enter (Try.sortedA_ren.f 9) args) W := enters_of Try.func45 (by kernel_rfl) rfl
  have hS := AnyZI.sorted_in Try.sortedA Fence.wide 5 trivial trivial trivial trivial rfl (by omega) (sortsA _) h9 fn_maps_Keys_map_int_gens_one_int_gens_one_1 #[.pointer (some ⟨w.heap.size, 0, none⟩)] trivial hg _ _ (by simp [maxLen]; omega) (by omega) _ hseq
  refine ((callsIn_wide (n := 5)).1 hS).mono ?_
  rintro e w2 ⟨v, ss, rfl, hperm, hrow, hnil, hbel⟩
  obtain ⟨hnd, hmem⟩ := hss ss hperm
  have hlen : (ss.mergeSort fun x y => decide (x ≤ y)).length = ss.length := List.length_mergeSort ss
  rw [← hlen] at hrow
  obtain ⟨s, rfl, hn, h2⟩ := rows_of h1 hrow hbel
  refine ⟨s, rfl, k s _ w2 hn ⟨rising_sort hnd, fun k => ?_⟩ (h2.fr 1 rfl).tail⟩
  rw [(List.mergeSort_perm _ _).mem_iff]; exact hmem k

/-- Ints that can be read. -/
def Ints (E : Env) (L : List Asn) (s : Sl) (gs : List Int) : Prop := s.n = gs.length ∧ ∀ w, Sep E L w → ∀ (i : Nat) x, gs[i]? = some x → ∃ a, s.p = some a ∧ w.cell? (a.add i) = some (.int .i64 x)
theorem Ints.of {L' : List Asn} {s : Sl} {gs : List Int} (h : Ints E L s gs) (hw : ∀ w, Sep E L' w → Sep E L w) : Ints E L' s gs := ⟨h.1, fun w hs => h.2 w (hw w hs)⟩
theorem Ints.cons {A : Asn} {s : Sl} {gs : List Int} (h : Ints E L s gs) : Ints E (A :: L) s gs := h.of (fun _ hs => hs.tail)
theorem Ints.el {s : Sl} {gs : List Int} {i x : Int} {F : Int → Prop} (hI : Ints E L s gs) (h : Sep E L w) (k : Nat) (hi : i = k) (hx : gs[k]? = some x) (f : F x) : elAt s.p s.n i 1 fun a => ∃ v : Int, w.cell? a = some (.int .i64 v) ∧ F v := by
  have hlt := (List.getElem?_eq_some_iff.1 hx).1
  obtain ⟨a, hp, ha⟩ := hI.2 w h k x hx
  have := hI.1
  refine ⟨a, hp, ⟨by omega, by omega⟩, x, ?_, f⟩
  have e : i.toNat * 1 = k := by omega
  rw [e]; exact ha
theorem Ints.row {s : Sl} {gs : List Int} (hn : s.n = gs.length) : Ints E (rowA s 1 (intL gs) :: L) s gs := by
  refine ⟨hn, fun w h i x hx => ?_⟩
  have hlt := (List.getElem?_eq_some_iff.1 hx).1
  obtain ⟨b, spare, hp, h1, _, _, h2⟩ := rowA.get_ h (by omega)
  refine ⟨_, hp, ?_⟩
  rw [add_mk, Nat.zero_add, rowA.cell h2 (by rw [h1]; omega)]
  simp [intL, hx]

theorem c_Contains {s : Sl} {gs : List Int} (hI : Ints E L s gs) (hb : gs.length < 4611686018427387904) (v : Int) (h : Sep E L w) : Calls P fn_slices_Contains_int_int #[.slice s.p s.n s.c, .int .i64 v] w (Ret fun r w' => r = .bool (gs.contains v) ∧ Sep E L w') := by
  apply of_slices_Contains_int_int
  unfold sh_slices_Contains_int_int
  have hidx : Calls P fn_slices_Index_int_int #[.slice s.p s.n s.c, .int .i64 v] w (Ret fun r w' => ∃ i : Int, r = .int .i64 i ∧ (decide (i ≥ 0) = gs.contains v) ∧ Sep E L w') := by
    apply of_slices_Index_int_int
    unfold sh_slices_Index_int_int
    refine ⟨fun i w => ∃ k : Nat, i = k ∧ k ≤ gs.length ∧ (∀ j, j < k → gs[j]? ≠ some v) ∧ Sep E L w, fun i _ => (gs.length - i).toNat, ⟨0, rfl, Nat.zero_le _, fun j hj => absurd hj (Nat.not_lt_zero _), h⟩, ?_⟩
    rintro _ i w1 ⟨k, rfl, hk, hno, h1⟩
    have hsn := hI.1
    rw [hI.1]
    refine bLt (fun hlt => ?_) (fun hge => ⟨-1, rfl, ?_, h1⟩)
    · have hx : gs[k]? = some (gs[k]'(by omega)) := List.getElem?_eq_getElem (by omega)
      generalize gs[k]'(by omega) = x at hx
      rw [← hI.1]
      refine hI.el h1 k rfl hx (bEq (fun e => ⟨_, rfl, ?_, h1⟩) (fun hne => ?_))
      · have : v ∈ gs := by rw [e]; exact List.mem_of_getElem? hx
        rw [List.contains_iff_mem.2 this]; simp
      · rw [w64 (by omega) (by omega)]
        refine ⟨⟨k + 1, by omega, by omega, fun j hj => ?_, h1⟩, by dsimp only; omega⟩
        by_cases hjk : j = k
        · subst hjk; rw [hx]; intro e; exact hne (Option.some.inj e).symm
        · exact hno j (by omega)
    · have : ¬ v ∈ gs := by
        intro hm
        obtain ⟨j, hj, e⟩ := List.mem_iff_getElem.1 hm
        exact hno j (by omega) (by rw [List.getElem?_eq_getElem hj, e])
      have h2 : gs.contains v = false := by rw [Bool.eq_false_iff]; intro hc; exact this (List.contains_iff_mem.1 hc)
      rw [h2]; rfl
  refine use hidx ?_
  rintro _ w1 ⟨i, rfl, hi, h1⟩
  exact ⟨_, rfl, by rw [hi], h1⟩

def ageZ (R : List Ent) (k : Int) : Int := (fnd R k).elim 0 (·.age)
def olderZ (R : List Ent) (a b : Int) : Prop := ageZ R b < ageZ R a ∨ (ageZ R a = ageZ R b ∧ a < b)
def ltZ (R : List Ent) (a b : Int) : Bool := decide (ageZ R b < ageZ R a)

theorem askedZ (R : List Ent) : Asked (olderZ R) (· < ·) (ltZ R) := by
  refine ⟨⟨fun x y z h1 h2 => ?_, fun x h => ?_, fun x y h => ?_⟩, fun x y h => by omega, fun x y h => ?_⟩
  · unfold olderZ at *; omega
  · unfold olderZ at h; omega
  · unfold olderZ; omega
  · unfold ltZ olderZ
    rw [decide_eq_true_iff]
    constructor
    · exact .inl
    · rintro (h1 | ⟨h1, h2⟩)
      · exact h1
      · exact absurd h2 (by have : x < y := h; omega)

theorem c_isNaN (x : Int) (w : World) : Calls P fn_cmp_isNaN_int #[.int .i64 x] w (Ret fun v w' => v = .bool false ∧ w' = w) := by
  apply of_cmp_isNaN_int
  exact ⟨by simp, rfl⟩
theorem c_Compare (x y : Int) (w : World) : Calls P fn_cmp_Compare_int #[.int .i64 x, .int .i64 y] w (Ret fun v w' => ∃ r : Int, v = .int .i64 r ∧ decide (r < 0) = decide (x < y) ∧ w' = w) := by
  apply of_cmp_Compare_int
  unfold sh_cmp_Compare_int
  refine use (c_isNaN x w) ?_
  rintro _ _ ⟨rfl, rfl⟩
  refine ⟨_, rfl, use (c_isNaN y _) ?_⟩
  rintro _ _ ⟨rfl, rfl⟩
  refine ⟨_, rfl, bifF (bifF (bLt (fun h => ⟨-1, rfl, by simp [h], rfl⟩) (fun h => bGt (fun h2 => ⟨1, rfl, ?_, rfl⟩) (fun h2 => ⟨0, rfl, ?_, rfl⟩))))⟩
  · rw [decide_eq_false (show ¬ x < y by omega)]; rfl
  · rw [decide_eq_false (show ¬ x < y by omega)]; rfl

/-- What is asked for: the oldest first, of one age the least id. -/
structure OrdOf (R : List Ent) (gs : List Int) (o : List Int) : Prop where
  ord : o.Pairwise (olderZ R)
  mem : ∀ k, k ∈ o ↔ ∃ e, fnd R k = some e ∧ e.group ∈ gs

theorem pw_eq {α : Type} {r : α → α → Prop} (hirr : ∀ x, ¬ r x x) (htr : ∀ x y z, r x y → r y z → r x z) : ∀ {a b : List α}, a.Pairwise r → b.Pairwise r → (∀ k, k ∈ a ↔ k ∈ b) → a = b
  | [], [], _, _, _ => rfl
  | [], y :: b, _, _, h => by have := (h y).2 (by simp); cases this
  | x :: a, [], _, _, h => by have := (h x).1 (by simp); cases this
  | x :: a, y :: b, ha, hb, h => by
    have ha' := List.pairwise_cons.1 ha
    have hb' := List.pairwise_cons.1 hb
    have hxy : x = y := by
      rcases List.mem_cons.1 ((h x).1 (by simp)) with e | e
      · exact e
      · rcases List.mem_cons.1 ((h y).2 (by simp)) with e' | e'
        · exact e'.symm
        · exact absurd (htr _ _ _ (hb'.1 x e) (ha'.1 y e')) (hirr _)
    subst hxy
    rw [pw_eq hirr htr ha'.2 hb'.2 (fun k => ⟨fun hk => ?_, fun hk => ?_⟩)]
    · rcases List.mem_cons.1 ((h k).1 (List.mem_cons_of_mem _ hk)) with e | e
      · rw [e] at hk; exact absurd (ha'.1 _ hk) (hirr _)
      · exact e
    · rcases List.mem_cons.1 ((h k).2 (List.mem_cons_of_mem _ hk)) with e | e
      · rw [e] at hk; exact absurd (hb'.1 _ hk) (hirr _)
      · exact e
theorem OrdOf.eq {gs o o' : List Int} (h : OrdOf R gs o) (h' : OrdOf R gs o') : o = o' :=
  pw_eq (askedZ R).ord.irr (askedZ R).ord.trans h.ord h'.ord (fun k => by rw [h.mem, h'.mem])

theorem c_Order (G : Good R) {s : Sl} {gs : List Int} (hI : Ints E L s gs) (hb : gs.length < 4611686018427387904) (h : Sep E (Lst l R :: L) w) :
    Calls P fn_gens_Lists_Order #[.pointer (some ⟨l, 0, none⟩), .slice s.p s.n s.c] w (Ret fun v w' => ∃ (t : Sl) (o : List Int), v = .slice t.p t.n t.c ∧ t.n = o.length ∧ OrdOf R gs o ∧ Sep E (rowA t 1 (intL o) :: Lst l R :: L) w') := by
  apply of_gens_Lists_Order
  unfold sh_gens_Lists_Order
  refine Al.i h (fun p1 w1 h1 => Al.i h1 (fun p3 w2 h2 => ?_))
  have h2 : Sep E (blk p3 [.slice s.p s.n s.c] :: blk p1 [.pointer (some ⟨l, 0, none⟩)] :: Lst l R :: L) w2 := h2
  refine ld h2 1 rfl rfl rfl ⟨_, rfl, ?_⟩
  obtain ⟨m, h3⟩ := Lst.open (h2.fr 2 rfl)
  have h3 : Sep E (mapF m encI (gm R) :: blk l [.map (some m)] :: blk p3 [.slice s.p s.n s.c] :: blk p1 [.pointer (some ⟨l, 0, none⟩)] :: L) w2 := h3.ro 4 [1, 0, 2, 3] rfl
  refine ld h3 1 rfl rfl rfl (c_sortedKeys (N := 16777217) h3 (q := 0) rfl (fun k v hk => ?_) (by decide) (fun t ks w3 hn hks h4 => ?_))
  · unfold gm at hk
    cases hf : fnd R k with
    | none => rw [hf] at hk; cases hk
    | some e =>
      obtain ⟨h1, h2⟩ := (fnd_iff G.rise).1 hf
      have := (G.ok e h1).1
      omega
  have hmem : ∀ k, k ∈ ks ↔ (fnd R k).isSome = true := fun k => by
    rw [hks.mem]; unfold gm; cases fnd R k <;> rfl
  have hkl : ks.length ≤ 16777217 := by
    refine ids_le 16777217 ks (List.nodup_iff_pairwise_ne.2 (hks.rise.imp (fun hlt he => by omega))) (fun x hx => ?_)
    obtain ⟨e, he⟩ := Option.isSome_iff_exists.1 ((hmem x).1 hx)
    obtain ⟨h1, h2⟩ := (fnd_iff G.rise).1 he
    have := (G.ok e h1).1
    omega
  -- the pieces behind the row
  obtain ⟨M, hM⟩ : ∃ M, M = mapF m encI (gm R) :: blk l [.map (some m)] :: blk p3 [.slice s.p s.n s.c] :: blk p1 [.pointer (some ⟨l, 0, none⟩)] :: L := ⟨_, rfl⟩
  have hIM : Ints E M s gs := by rw [hM]; exact hI.cons.cons.cons.cons
  let q : Int → Bool := fun id => !(gs.contains ((fnd R id).elim 0 (·.group)))
  refine use (c_DeleteFunc (L := M) (q := q) ?_ hn (by omega) (by rw [hM]; exact h4)) ?_
  · intro r _ x w5 _ h5
    refine ⟨fn_gens_Lists_Order_1, _, rfl, by kernel_rfl, ?_⟩
    refine use (K := fun v w' => v = .bool (q x) ∧ Sep E (rowA t 1 (intL r) :: M) w') (of_gens_Lists_Order_1 x ⟨p3, 0, none⟩ ⟨p1, 0, none⟩ ?_) (fun v w' ⟨hv, hs⟩ => ⟨by rw [hv], hs⟩)
    unfold sh_gens_Lists_Order_1
    refine Dr.i h5 (fun w6 h6 => ?_)
    have h6' := h6
    rw [hM] at h6'
    refine ld (x := s) h6' 3 rfl rfl rfl (ld h6' 4 rfl rfl rfl ⟨_, rfl, ld h6' 2 rfl rfl rfl ⟨_, _, look1 (i := 1) h6' rfl x, use (c_Contains hIM.cons hb _ h6) ?_⟩⟩)
    rintro _ w7 ⟨rfl, h7⟩
    exact ⟨_, rfl, rfl, h7⟩
  rintro _ w4 ⟨u, rfl, hu, h5⟩
  have hlen : (ks.filter fun x => !q x).length ≤ ks.length := List.length_filter_le _ _
  refine ⟨u, rfl, use (c_SortStable (askedZ R) (hks.rise.filter _) hu (by omega) ?_ h5) ?_⟩
  · intro r x y w5 _ h6
    refine ⟨fn_gens_Lists_Order_2, _, rfl, by kernel_rfl, ?_⟩
    refine use (K := fun v w' => ∃ z : Int, v = .int .i64 z ∧ decide (z < 0) = ltZ R x y ∧ Sep E (rowA u 1 (intL r) :: M) w') (of_gens_Lists_Order_2 x y ⟨p1, 0, none⟩ ?_) (fun v w' ⟨z, hv, hz, hs⟩ => ⟨z, by rw [hv], hz, hs⟩)
    unfold sh_gens_Lists_Order_2
    refine Dr.i h6 (fun w7 h7 => ?_)
    have h7' := h7
    rw [hM] at h7'
    refine ld h7' 4 rfl rfl rfl ⟨_, rfl, ld h7' 2 rfl rfl rfl ⟨_, _, look1 (i := 1) h7' rfl y, ?_⟩⟩
    refine ld h7' 4 rfl rfl rfl ⟨_, rfl, ld h7' 2 rfl rfl rfl ⟨_, _, look1 (i := 1) h7' rfl x, use (c_Compare _ _ w7) ?_⟩⟩
    rintro _ _ ⟨z, rfl, hz, rfl⟩
    exact ⟨_, rfl, z, rfl, hz, h7⟩
  · rintro _ w5 ⟨rfl, o, hperm, hord, h6⟩
    refine ⟨rfl, u, o, rfl, by rw [hu, hperm.length_eq], ⟨hord, fun k => ?_⟩, ?_⟩
    · rw [hperm.mem_iff, List.mem_filter, hmem]
      cases hf : fnd R k with
      | none => simp
      | some e => simp [q, hf]
    · rw [hM] at h6
      have h7 : Sep E (blk l [.map (some m)] :: mapF m encI (gm R) :: rowA u 1 (intL o) :: L) w5 := h6.ro 5 [2, 1, 0] rfl
      exact (Lst.shut h7).swap

end Go.Mp
