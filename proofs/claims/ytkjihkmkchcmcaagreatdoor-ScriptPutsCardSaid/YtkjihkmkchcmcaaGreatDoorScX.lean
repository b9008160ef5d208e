/- core.New: what it makes, by what its parts make. -/
import Derived.Test.YtkjihkmkchcmcaaGreatDoorScW
set_option maxRecDepth 100000
namespace Go.Mp
open Go Go.Vc Go.Sp Go.Proofs Go.Ct

variable {E : Env} {L : List Asn} {w W : World}

def coreL (t a1 b1 c1 a2 b2 c2 f g lg pg : Option Addr) (m : Option Nat) (gs up : Sl) : List Value :=
  [.pointer t, .pointer a1, .pointer b1, .pointer c1, .pointer a2, .pointer b2, .pointer c2, .pointer f, .pointer g, .pointer lg, .pointer pg, .map m, .slice gs.p gs.n gs.c, .slice up.p up.n up.c]
theorem opC13 (T : Tr) (next : Tr → World → Prop) (Q : Exit → Tr → World → Prop) : vopC (w := w) T next Q 13 = vBuild P 100 #[(0, T.get 7), (1, T.get 9), (2, T.get 11), (3, T.get 13), (4, T.get 14), (5, T.get 15), (6, T.get 16), (7, T.get 17), (8, T.get 18), (9, T.get 19)] (fun v => next (T.put (some 20) v) w) := by kernel_rfl
theorem coreBuild (t a1 b1 c1 a2 b2 c2 f g lg pg : Option Addr) (m : Option Nat) (gs up : Sl) (F : Value → Prop) :
    vBuild P 100 #[(0, .pointer t), (1, .agg #[.pointer a1, .pointer b1, .pointer c1]), (2, .agg #[.pointer a2, .pointer b2, .pointer c2]), (3, .pointer f), (4, .pointer g), (5, .pointer lg), (6, .pointer pg), (7, .map m), (8, .slice gs.p gs.n gs.c), (9, .slice up.p up.n up.c)] F
      = F (.agg (coreL t a1 b1 c1 a2 b2 c2 f g lg pg m gs up).toArray) := by kernel_rfl

def dstC : List Nat := [7, 8, 9, 10, 11, 12, 13, 14, 15, 16, 17, 18, 19, 20, 21, 6]
theorem dst_core_New : (List.range 16).map (dstO opsC) = dstC := by decide +kernel
theorem dstC_eq {i : Nat} (h : i < 16) : some (dstO opsC i) = dstC[i]? := by
  rw [← dst_core_New, List.getElem?_map, List.getElem?_range h]; rfl
theorem dstC_at {i d : Nat} (h : dstC[i]? = some d) : dstO opsC i = d := by
  have hi : i < 16 := (List.getElem?_eq_some_iff.1 h).1
  have := dstC_eq hi
  rw [h] at this
  exact Option.some.inj this
def waitsB (ops : Array Oper) (i j : Nat) : Bool := match ops[i]? with
  | some o => o.after.toList.any fun e => Region.binds .any e && Nat.beq e.on j
  | none => false
theorem waits_of {ops : Array Oper} {i j : Nat} (h : waitsB ops i j = true) : waits ops i j := by
  unfold waitsB at h
  split at h
  · next o ho =>
    obtain ⟨e, he, h2⟩ := List.any_eq_true.1 h
    rw [Bool.and_eq_true] at h2
    exact ⟨o, ho, e, he, h2.1, Nat.eq_of_beq_eq_true h2.2⟩
  · cases h
/-- Which slots what is known of an operation speaks of. -/
def useC : List (List Nat) := [[7], [8], [9], [10], [11], [12], [13], [14], [15], [16], [17], [18], [19], [20, 7, 9, 11, 13, 14, 15, 16, 17, 18, 19], [21, 20], [6, 21]]
theorem use_core_New : ((List.range 16).all fun i => (List.range 16).all fun j => Nat.beq i j || waitsB opsC i j || !((useC.getD i []).contains (dstC.getD j 0))) = true := by decide +kernel
theorem use_get {i j : Nat} {T : Tr} {v : Value} (hi : i < 16) (hj : j < 16) (hne : i ≠ j) (hw : ¬ waits opsC i j) : ∀ s ∈ useC.getD i [], (T.put (some (dstO opsC j)) v).get s = T.get s := by
  intro s hs
  have h1 := List.all_eq_true.1 (List.all_eq_true.1 use_core_New i (List.mem_range.2 hi)) j (List.mem_range.2 hj)
  simp only [Bool.or_eq_true, Bool.not_eq_true'] at h1
  have hd := dstC_eq hj
  have hd' : dstC.getD j 0 = dstO opsC j := by rw [List.getD_eq_getElem?_getD, ← hd]; rfl
  rw [hd'] at h1
  have hlt : dstO opsC j < 8000 := by
    have : ∀ d ∈ dstC, d < 8000 := by decide
    exact this _ (List.mem_of_getElem? hd.symm)
  rw [Tr.get_put _ _ _ _ hlt]
  split
  · next e =>
    subst e
    rcases h1 with (h1 | h1) | h1
    · exact absurd (Nat.eq_of_beq_eq_true h1) hne
    · exact absurd (waits_of h1) hw
    · have := List.contains_iff_mem.2 hs
      rw [h1] at this; cases this
  · rfl

def boxA (v c : Value) : Asn := exA fun b => pur (v = .pointer (some ⟨b, 0, none⟩)) (blk b c.cells.toList)
def isP (v : Value) : Prop := ∃ p : Option Addr, v = .pointer p
def isS (v : Value) : Prop := ∃ a b c : Option Addr, v = .agg #[.pointer a, .pointer b, .pointer c]
noncomputable def FC (fr sl : Int) (sz : Sl) : Nat → Tr → Prop
  | 1, T => T.get 8 = .int .i64 fr
  | 2, T => isS (T.get 9)
  | 3, T => T.get 10 = .int .i64 sl
  | 4, T => isS (T.get 11)
  | 5, T => T.get 12 = .slice sz.p sz.n sz.c
  | 0, T => isP (T.get 7)
  | 6, T => isP (T.get 13)
  | 7, T => isP (T.get 14)
  | 8, T => isP (T.get 15)
  | 9, T => isP (T.get 16)
  | 10, T => ∃ m : Option Nat, T.get 17 = .map m
  | 11, T => ∃ s : Sl, T.get 18 = .slice s.p s.n s.c
  | 12, T => ∃ s : Sl, T.get 19 = .slice s.p s.n s.c
  | 13, T => ∃ t a1 b1 c1 a2 b2 c2 f g lg pg m gs up, T.get 7 = .pointer t ∧ T.get 9 = .agg #[.pointer a1, .pointer b1, .pointer c1] ∧ T.get 11 = .agg #[.pointer a2, .pointer b2, .pointer c2] ∧ T.get 13 = .pointer f ∧ T.get 14 = .pointer g ∧
      T.get 15 = .pointer lg ∧ T.get 16 = .pointer pg ∧ T.get 17 = .map m ∧ T.get 18 = .slice gs.p gs.n gs.c ∧ T.get 19 = .slice up.p up.n up.c ∧ T.get 20 = .agg (coreL t a1 b1 c1 a2 b2 c2 f g lg pg m gs up).toArray
  | 14, T => ∃ b, T.get 21 = .pointer (some ⟨b, 0, none⟩)
  | 15, T => T.get 6 = T.get 21
  | _, _ => False
noncomputable def OC (O : Nat → Value → List Asn) : Nat → Tr → List Asn
  | 0, T => O 0 (T.get 7)
  | 2, T => O 1 (T.get 9)
  | 4, T => O 2 (T.get 11)
  | 6, T => O 3 (T.get 13)
  | 7, T => O 4 (T.get 14)
  | 8, T => O 5 (T.get 15)
  | 9, T => O 6 (T.get 16)
  | 10, T => O 7 (T.get 17)
  | 11, T => O 8 (T.get 18)
  | 12, T => O 9 (T.get 19)
  | 14, T => [boxA (T.get 21) (T.get 20)]
  | _, _ => []
theorem FC_eq {fr sl : Int} {sz : Sl} {i : Nat} {T T' : Tr} (hi : i < 16) (h : ∀ s ∈ useC.getD i [], T'.get s = T.get s) : FC fr sl sz i T → FC fr sl sz i T' := by
  match i, hi with
  | 0, _ => simp only [FC]; rw [h 7 (by decide)]; exact id
  | 1, _ => simp only [FC]; rw [h 8 (by decide)]; exact id
  | 2, _ => simp only [FC]; rw [h 9 (by decide)]; exact id
  | 3, _ => simp only [FC]; rw [h 10 (by decide)]; exact id
  | 4, _ => simp only [FC]; rw [h 11 (by decide)]; exact id
  | 5, _ => simp only [FC]; rw [h 12 (by decide)]; exact id
  | 6, _ => simp only [FC]; rw [h 13 (by decide)]; exact id
  | 7, _ => simp only [FC]; rw [h 14 (by decide)]; exact id
  | 8, _ => simp only [FC]; rw [h 15 (by decide)]; exact id
  | 9, _ => simp only [FC]; rw [h 16 (by decide)]; exact id
  | 10, _ => simp only [FC]; rw [h 17 (by decide)]; exact id
  | 11, _ => simp only [FC]; rw [h 18 (by decide)]; exact id
  | 12, _ => simp only [FC]; rw [h 19 (by decide)]; exact id
  | 13, _ => simp only [FC]; rw [h 7 (by decide), h 9 (by decide), h 11 (by decide), h 13 (by decide), h 14 (by decide), h 15 (by decide), h 16 (by decide), h 17 (by decide), h 18 (by decide), h 19 (by decide), h 20 (by decide)]; exact id
  | 14, _ => simp only [FC]; rw [h 21 (by decide)]; exact id
  | 15, _ => simp only [FC]; rw [h 6 (by decide), h 21 (by decide)]; exact id
  | n + 16, hi => exact absurd hi (by omega)
theorem OC_eq {O : Nat → Value → List Asn} {i : Nat} {T T' : Tr} (hi : i < 16) (h : ∀ s ∈ useC.getD i [], T'.get s = T.get s) : OC O i T' = OC O i T := by
  match i, hi with
  | 0, _ => simp only [OC]; rw [h 7 (by decide)]
  | 1, _ => rfl
  | 2, _ => simp only [OC]; rw [h 9 (by decide)]
  | 3, _ => rfl
  | 4, _ => simp only [OC]; rw [h 11 (by decide)]
  | 5, _ => rfl
  | 6, _ => simp only [OC]; rw [h 13 (by decide)]
  | 7, _ => simp only [OC]; rw [h 14 (by decide)]
  | 8, _ => simp only [OC]; rw [h 15 (by decide)]
  | 9, _ => simp only [OC]; rw [h 16 (by decide)]
  | 10, _ => simp only [OC]; rw [h 17 (by decide)]
  | 11, _ => simp only [OC]; rw [h 18 (by decide)]
  | 12, _ => simp only [OC]; rw [h 19 (by decide)]
  | 13, _ => rfl
  | 14, _ => simp only [OC]; rw [h 21 (by decide), h 20 (by decide)]
  | 15, _ => rfl
  | n + 16, hi => exact absurd hi (by omega)

/-- What the parts make, and own. -/
structure Parts (E : Env) (fr sl : Int) (sz : Sl) (O : Nat → Value → List Asn) : Prop where
  tree : ∀ {L w}, Sep E L w → Calls P fn_tree_New #[] w (Ret fun v w' => isP v ∧ Sep E (O 0 v ++ L) w')
  frames : ∀ {L w}, Sep E L w → Calls P fn_core_newStore #[.int .i64 fr] w (Ret fun v w' => isS v ∧ Sep E (O 1 v ++ L) w')
  slots : ∀ {L w}, Sep E L w → Calls P fn_core_newStore #[.int .i64 sl] w (Ret fun v w' => isS v ∧ Sep E (O 2 v ++ L) w')
  files : ∀ {L w}, Sep E L w → Calls P fn_files_New #[.slice sz.p sz.n sz.c] w (Ret fun v w' => isP v ∧ Sep E (O 3 v ++ L) w')
  gens : ∀ {L w}, Sep E L w → Calls P fn_gens_New #[] w (Ret fun v w' => isP v ∧ Sep E (O 4 v ++ L) w')
  log : ∀ {L w}, Sep E L w → Calls P fn_shadow_New #[] w (Ret fun v w' => isP v ∧ Sep E (O 5 v ++ L) w')
  pages : ∀ {L w}, Sep E L w → Calls P fn_pages_New #[] w (Ret fun v w' => isP v ∧ Sep E (O 6 v ++ L) w')
  kept : ∀ {L w b}, Sep E (mapB b #[] 0 :: L) w → Sep E (O 7 (.map (some b)) ++ L) w
  guards : ∀ {L w b}, Sep E (blk b [.int .i64 0, .int .i64 0, .bool false] :: L) w → Sep E (O 8 (.slice (some ⟨b, 0, none⟩) 1 1) ++ L) w
  up : ∀ {L w b}, Sep E (blk b [.int .i64 (-1)] :: L) w → Sep E (O 9 (.slice (some ⟨b, 0, none⟩) 1 1) ++ L) w

theorem put_self (T : Tr) (d : Nat) (v : Value) (h : d < 8000) : (T.put (some d) v).get d = v := by rw [Tr.get_put _ _ _ _ h, if_pos rfl]
theorem put_ne (T : Tr) {d s : Nat} (v : Value) (h : d < 8000) (hne : s ≠ d) : (T.put (some d) v).get s = T.get s := by rw [Tr.get_put _ _ _ _ h, if_neg hne]

theorem perm_last {α : Type _} (A L : List α) (x : α) : ((A ++ [x]) ++ L).Perm (x :: (A ++ L)) := by
  rw [List.append_assoc]; exact List.perm_middle

theorem c_core_New {fr sl : Int} {sz : Sl} {O : Nat → Value → List Asn} (H : Parts E fr sl sz O) (h : Sep E L w) : Calls P fn_core_New #[.int .i64 fr, .int .i64 sl, .slice sz.p sz.n sz.c] w (Ret fun v w' =>
    ∃ b t a1 b1 c1 a2 b2 c2 f g lg pg m gs up, v = .pointer (some ⟨b, 0, none⟩) ∧ Sep E (blk b (coreL t a1 b1 c1 a2 b2 c2 f g lg pg m gs up) ::
      (O 0 (.pointer t) ++ (O 1 (.agg #[.pointer a1, .pointer b1, .pointer c1]) ++ (O 2 (.agg #[.pointer a2, .pointer b2, .pointer c2]) ++ (O 3 (.pointer f) ++ (O 4 (.pointer g) ++ (O 5 (.pointer lg) ++ (O 6 (.pointer pg) ++ (O 7 (.map m) ++
        (O 8 (.slice gs.p gs.n gs.c) ++ (O 9 (.slice up.p up.n up.c) ++ L))))))))))) w') := by
  refine calls_of_vc (τ := tau) (ρ := rho) (pan := pan) (A := ann_core_New) mixed Tryz.func26 ok_core_New ?_
  rw [vc_core_New]
  refine Dr.i h (fun w1 h1 => ?_)
  refine vAny_own (fun T => T.get 0 = .int .i64 fr ∧ T.get 1 = .int .i64 sl ∧ T.get 2 = .slice sz.p sz.n sz.c) (FC fr sl sz) (OC O) own_core_New ?_ ?_ ?_ ?_ ?_ ?_ h1
  · rintro T i v hi ⟨e0, e1, e2⟩
    rw [size_core_New] at hi
    have hd := dstC_eq hi
    have : ∀ d ∈ dstC, d < 8000 ∧ 0 ≠ d ∧ 1 ≠ d ∧ 2 ≠ d := by decide
    obtain ⟨k, k0, k1, k2⟩ := this _ (List.mem_of_getElem? hd.symm)
    rw [put_ne _ _ k k0, put_ne _ _ k k1, put_ne _ _ k k2]
    exact ⟨e0, e1, e2⟩
  · intro i j T v hi hj hne hw
    rw [size_core_New] at hi hj
    exact FC_eq hi (use_get hi hj hne hw)
  · intro i j T v hi hj hne hw
    rw [size_core_New] at hi hj
    exact OC_eq hi (use_get hi hj hne hw)
  · intro T w i o R hx ho hdep hR next hn
    have hi : i < 16 := by rw [← size_core_New]; exact (Array.getElem?_eq_some_iff.1 ho).1
    have ho' : opC i = o := by unfold opC; rw [ho]; rfl
    have hdep' : ∀ j, waitsB opsC i j = true → FC fr sl sz j T := by
      intro j hj
      obtain ⟨o2, ho2, e, he, hb, rfl⟩ := waits_of hj
      rw [ho] at ho2
      cases ho2
      exact hdep e he hb
    subst ho'
    match i, hi with
    | 0, _ =>
      rw [dstC_at (d := 7) rfl] at hn
      refine (opC0 T next _).mpr ?_
      refine use (H.tree hR) ?_
      rintro _ w2 ⟨⟨p, rfl⟩, h2⟩
      refine ⟨p, rfl, hn _ _ ?_ ?_⟩
      · simp only [FC]; rw [put_self _ _ _ (by decide)]; exact ⟨p, rfl⟩
      · simp only [OC]; rw [put_self _ _ _ (by decide)]; exact h2
    | 1, _ =>
      rw [dstC_at (d := 8) rfl] at hn
      refine (opC1 T next _).mpr ?_
      refine hn _ _ ?_ hR
      simp only [FC]; rw [put_self _ _ _ (by decide)]; exact hx.1
    | 2, _ =>
      rw [dstC_at (d := 9) rfl] at hn
      have e : T.get 8 = .int .i64 fr := hdep' 1 (by decide +kernel)
      refine (opC2 T next _).mpr ?_
      rw [e]
      refine use (H.frames hR) ?_
      rintro _ w2 ⟨⟨a, b, c, rfl⟩, h2⟩
      refine ⟨a, b, c, rfl, hn _ _ ?_ ?_⟩
      · simp only [FC]; rw [put_self _ _ _ (by decide)]; exact ⟨a, b, c, rfl⟩
      · simp only [OC]; rw [put_self _ _ _ (by decide)]; exact h2
    | 3, _ =>
      rw [dstC_at (d := 10) rfl] at hn
      refine (opC3 T next _).mpr ?_
      refine hn _ _ ?_ hR
      simp only [FC]; rw [put_self _ _ _ (by decide)]; exact hx.2.1
    | 4, _ =>
      rw [dstC_at (d := 11) rfl] at hn
      have e : T.get 10 = .int .i64 sl := hdep' 3 (by decide +kernel)
      refine (opC4 T next _).mpr ?_
      rw [e]
      refine use (H.slots hR) ?_
      rintro _ w2 ⟨⟨a, b, c, rfl⟩, h2⟩
      refine ⟨a, b, c, rfl, hn _ _ ?_ ?_⟩
      · simp only [FC]; rw [put_self _ _ _ (by decide)]; exact ⟨a, b, c, rfl⟩
      · simp only [OC]; rw [put_self _ _ _ (by decide)]; exact h2
    | 5, _ =>
      rw [dstC_at (d := 12) rfl] at hn
      refine (opC5 T next _).mpr ?_
      refine hn _ _ ?_ hR
      simp only [FC]; rw [put_self _ _ _ (by decide)]; exact hx.2.2
    | 6, _ =>
      rw [dstC_at (d := 13) rfl] at hn
      have e : T.get 12 = .slice sz.p sz.n sz.c := hdep' 5 (by decide +kernel)
      refine (opC6 T next _).mpr ?_
      rw [e]
      refine use (H.files hR) ?_
      rintro _ w2 ⟨⟨p, rfl⟩, h2⟩
      refine ⟨p, rfl, hn _ _ ?_ ?_⟩
      · simp only [FC]; rw [put_self _ _ _ (by decide)]; exact ⟨p, rfl⟩
      · simp only [OC]; rw [put_self _ _ _ (by decide)]; exact h2
    | 7, _ =>
      rw [dstC_at (d := 14) rfl] at hn
      refine (opC7 T next _).mpr ?_
      refine use (H.gens hR) ?_
      rintro _ w2 ⟨⟨p, rfl⟩, h2⟩
      refine ⟨p, rfl, hn _ _ ?_ ?_⟩
      · simp only [FC]; rw [put_self _ _ _ (by decide)]; exact ⟨p, rfl⟩
      · simp only [OC]; rw [put_self _ _ _ (by decide)]; exact h2
    | 8, _ =>
      rw [dstC_at (d := 15) rfl] at hn
      refine (opC8 T next _).mpr ?_
      refine use (H.log hR) ?_
      rintro _ w2 ⟨⟨p, rfl⟩, h2⟩
      refine ⟨p, rfl, hn _ _ ?_ ?_⟩
      · simp only [FC]; rw [put_self _ _ _ (by decide)]; exact ⟨p, rfl⟩
      · simp only [OC]; rw [put_self _ _ _ (by decide)]; exact h2
    | 9, _ =>
      rw [dstC_at (d := 16) rfl] at hn
      refine (opC9 T next _).mpr ?_
      refine use (H.pages hR) ?_
      rintro _ w2 ⟨⟨p, rfl⟩, h2⟩
      refine ⟨p, rfl, hn _ _ ?_ ?_⟩
      · simp only [FC]; rw [put_self _ _ _ (by decide)]; exact ⟨p, rfl⟩
      · simp only [OC]; rw [put_self _ _ _ (by decide)]; exact h2
    | 10, _ =>
      rw [dstC_at (d := 17) rfl] at hn
      refine (opC10 T next _).mpr ?_
      refine AlM.i hR (fun b w2 h2 => hn _ _ ?_ ?_)
      · simp only [FC]; rw [put_self _ _ _ (by decide)]; exact ⟨some b, rfl⟩
      · simp only [OC]; rw [put_self _ _ _ (by decide)]; exact H.kept h2
    | 11, _ =>
      rw [dstC_at (d := 18) rfl] at hn
      refine (opC11 T next _).mpr ?_
      refine makeSlice.i hR (by kernel_rfl : slQ P 98 = some (24, 3, [.int .i64 0, .int .i64 0, .bool false])) (by decide) (Int.le_refl _) (by decide) (by decide) (fun b w2 h2 => hn _ _ ?_ ?_)
      · simp only [FC]; rw [put_self _ _ _ (by decide)]; exact ⟨⟨some ⟨b, 0, none⟩, 1, 1⟩, rfl⟩
      · simp only [OC]; rw [put_self _ _ _ (by decide)]; exact H.guards h2
    | 12, _ =>
      rw [dstC_at (d := 19) rfl] at hn
      refine (opC12 T next _).mpr ?_
      refine Al.i hR (fun b w2 h2 => hn _ _ ?_ ?_)
      · simp only [FC]; rw [put_self _ _ _ (by decide)]; exact ⟨⟨some ⟨b, 0, none⟩, 1, 1⟩, rfl⟩
      · simp only [OC]; rw [put_self _ _ _ (by decide)]; exact H.up h2
    | 13, _ =>
      rw [dstC_at (d := 20) rfl] at hn
      obtain ⟨t, e7⟩ := hdep' 0 (by decide +kernel)
      obtain ⟨a1, b1, c1, e9⟩ := hdep' 2 (by decide +kernel)
      obtain ⟨a2, b2, c2, e11⟩ := hdep' 4 (by decide +kernel)
      obtain ⟨f, e13⟩ := hdep' 6 (by decide +kernel)
      obtain ⟨g, e14⟩ := hdep' 7 (by decide +kernel)
      obtain ⟨lg, e15⟩ := hdep' 8 (by decide +kernel)
      obtain ⟨pg, e16⟩ := hdep' 9 (by decide +kernel)
      obtain ⟨m, e17⟩ := hdep' 10 (by decide +kernel)
      obtain ⟨gs, e18⟩ := hdep' 11 (by decide +kernel)
      obtain ⟨up, e19⟩ := hdep' 12 (by decide +kernel)
      refine (opC13 T next _).mpr ?_
      rw [e7, e9, e11, e13, e14, e15, e16, e17, e18, e19, coreBuild]
      refine hn _ _ ?_ hR
      simp only [FC]
      rw [put_self _ _ _ (by decide)]
      have k : (20 : Nat) < 8000 := by decide
      rw [put_ne _ _ k (by decide), put_ne _ _ k (by decide), put_ne _ _ k (by decide), put_ne _ _ k (by decide), put_ne _ _ k (by decide), put_ne _ _ k (by decide), put_ne _ _ k (by decide), put_ne _ _ k (by decide), put_ne _ _ k (by decide), put_ne _ _ k (by decide)]
      exact ⟨t, a1, b1, c1, a2, b2, c2, f, g, lg, pg, m, gs, up, e7, e9, e11, e13, e14, e15, e16, e17, e18, e19, rfl⟩
    | 14, _ =>
      rw [dstC_at (d := 21) rfl] at hn
      refine (opC14 T next _).mpr ?_
      refine Al.i hR (fun b w2 h2 => hn _ _ ?_ ?_)
      · simp only [FC]; rw [put_self _ _ _ (by decide)]; exact ⟨b, rfl⟩
      · simp only [OC]; rw [put_self _ _ _ (by decide), put_ne _ _ (by decide) (by decide)]
        exact Sep.ex.2 ⟨b, Sep.pur.2 ⟨rfl, h2⟩⟩
    | 15, _ =>
      rw [dstC_at (d := 6) rfl] at hn
      refine (opC15 T next _).mpr ?_
      refine hn _ _ ?_ hR
      simp only [FC]; rw [put_self _ _ _ (by decide), put_ne _ _ (by decide) (by decide)]
    | n + 16, hi => exact absurd hi (by omega)
  · intro T w2 M hx hF hM hp
    rw [fin_core_New]
    rw [size_core_New] at hF hp
    obtain ⟨t, a1, b1, c1, a2, b2, c2, f, g, lg, pg, m, gs, up, e7, e9, e11, e13, e14, e15, e16, e17, e18, e19, e20⟩ := hF 13 (by decide)
    obtain ⟨b, e21⟩ := hF 14 (by decide)
    have e6 : T.get 6 = T.get 21 := hF 15 (by decide)
    rw [e6, e21]
    refine ⟨b, t, a1, b1, c1, a2, b2, c2, f, g, lg, pg, m, gs, up, rfl, ?_⟩
    have h3 := hM.perm (List.Perm.append_right L hp)
    have e : ((List.range 16).flatMap fun i => OC O i T) = (O 0 (T.get 7) ++ (O 1 (T.get 9) ++ (O 2 (T.get 11) ++ (O 3 (T.get 13) ++ (O 4 (T.get 14) ++ (O 5 (T.get 15) ++ (O 6 (T.get 16) ++ (O 7 (T.get 17) ++ (O 8 (T.get 18) ++ O 9 (T.get 19)))))))))) ++ [boxA (T.get 21) (T.get 20)] := by
      rw [show List.range 16 = [0, 1, 2, 3, 4, 5, 6, 7, 8, 9, 10, 11, 12, 13, 14, 15] from rfl]
      simp only [List.flatMap_cons, List.flatMap_nil, List.append_nil, List.nil_append, OC, List.append_assoc]
    rw [e, e7, e9, e11, e13, e14, e15, e16, e17, e18, e19, e20, e21] at h3
    have h4 := h3.perm (perm_last _ _ _)
    simp only [List.append_assoc] at h4
    obtain ⟨b', h5⟩ := Sep.ex.1 h4
    obtain ⟨hb, h5⟩ := Sep.pur.1 h5
    cases hb
    exact h5
  · refine ⟨by kernel_rfl, by kernel_rfl, by kernel_rfl⟩
end Go.Mp
