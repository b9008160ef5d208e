/- A machine that spawns one process; the document's example. -/
import Derived.Test.YtkjihkmkchcmcaaGreatDoorScX
set_option maxRecDepth 100000
namespace Go.Mp
open Go Go.Vc Go.Sp Go.Proofs Go.Ct

variable {E : Env} {L : List Asn} {w W : World}

def O2 : Nat → Value → List Asn
  | 0, v => [treeA v]
  | _, _ => []
theorem parts2 (E : Env) : Parts E 2 2 ⟨none, 0, 0⟩ O2 where
  tree h := c_treeNew h
  frames h := c_newStore2 h
  slots h := c_newStore2 h
  files h := c_filesNew0 h
  gens h := c_gensNew h
  log h := c_shadowNew h
  pages h := c_pagesNew h
  kept h := h.tail
  guards h := h.tail
  up h := h.tail

/-- A machine of no process. -/
def vmA (v : Value) (ps : Sl) : Asn := exA fun bv => exA fun bc => exA fun bt => exA fun bl => exA fun (C : List Value) =>
  pur (v = .pointer (some ⟨bv, 0, none⟩)) (star (blk bv [.pointer (some ⟨bc, 0, none⟩), .slice ps.p ps.n ps.c]) (star (blk bc (.pointer (some ⟨bt, 0, none⟩) :: C)) (star (blk bt [.slice (some ⟨bl, 0, none⟩) 1 1]) (blk bl [.int .i64 (-1), .bool true]))))
theorem vmA.get {v : Value} {ps : Sl} (h : Sep E (vmA v ps :: L) w) : ∃ bv bc bt bl C, v = .pointer (some ⟨bv, 0, none⟩) ∧
    Sep E (blk bv [.pointer (some ⟨bc, 0, none⟩), .slice ps.p ps.n ps.c] :: blk bc (.pointer (some ⟨bt, 0, none⟩) :: C) :: blk bt [.slice (some ⟨bl, 0, none⟩) 1 1] :: blk bl [.int .i64 (-1), .bool true] :: L) w := by
  obtain ⟨bv, h⟩ := Sep.ex.1 h
  obtain ⟨bc, h⟩ := Sep.ex.1 h
  obtain ⟨bt, h⟩ := Sep.ex.1 h
  obtain ⟨bl, h⟩ := Sep.ex.1 h
  obtain ⟨C, h⟩ := Sep.ex.1 h
  obtain ⟨hv, h⟩ := Sep.pur.1 h
  refine ⟨bv, bc, bt, bl, C, hv, ?_⟩
  have h1 := (Sep.star.1 h).swap
  have h2 := (Sep.star.1 h1).swap
  have h3 := (Sep.star.1 h2).ro 4 [0, 1, 2, 3] rfl
  exact h3.ro 4 [3, 2, 0, 1] rfl
theorem vmA.mk {v : Value} {ps : Sl} {bv bc bt bl : Nat} {C : List Value} (hv : v = .pointer (some ⟨bv, 0, none⟩))
    (h : Sep E (blk bv [.pointer (some ⟨bc, 0, none⟩), .slice ps.p ps.n ps.c] :: blk bc (.pointer (some ⟨bt, 0, none⟩) :: C) :: blk bt [.slice (some ⟨bl, 0, none⟩) 1 1] :: blk bl [.int .i64 (-1), .bool true] :: L) w) : Sep E (vmA v ps :: L) w := by
  refine Sep.ex.2 ⟨bv, Sep.ex.2 ⟨bc, Sep.ex.2 ⟨bt, Sep.ex.2 ⟨bl, Sep.ex.2 ⟨C, Sep.pur.2 ⟨hv, Sep.star.2 ?_⟩⟩⟩⟩⟩⟩
  have h1 := Sep.star.2 (h.ro 4 [2, 3, 0, 1] rfl)
  have h2 := Sep.star.2 (h1.ro 3 [2, 0, 1] rfl)
  exact h2.swap

theorem c_vmNew2 (h : Sep E L w) : Calls P fn_vm_New #[.int .i64 2, .int .i64 2, .slice none 0 0] w (Ret fun v w' => isP v ∧ Sep E (vmA v ⟨none, 0, 0⟩ :: L) w') := by
  apply of_vm_New 2 2 ⟨none, 0, 0⟩
  unfold sh_vm_New
  refine use (c_core_New (sz := ⟨none, 0, 0⟩) (parts2 E) h) ?_
  rintro _ w1 ⟨b, t, a1, b1, c1, a2, b2, c2, f, g, lg, pg, m, gs, up, rfl, h1⟩
  have h1 : Sep E (blk b (coreL t a1 b1 c1 a2 b2 c2 f g lg pg m gs up) :: treeA (.pointer t) :: L) w1 := h1
  obtain ⟨bt, bl, ht, h2⟩ := treeA.get h1.swap
  cases ht
  refine ⟨_, rfl, Al.i h2 (fun p w2 h3 => ⟨⟨_, rfl⟩, ?_⟩)⟩
  exact vmA.mk (bv := p) (bc := b) (bt := bt) (bl := bl) (C := (coreL (some ⟨bt, 0, none⟩) a1 b1 c1 a2 b2 c2 f g lg pg m gs up).tail) rfl (h3.ro 4 [0, 3, 1, 2] rfl)

abbrev kI (n : Int) : Value := .int .i64 n
theorem key23 : KeyOf P 23 kI := KeyOf.int (by kernel_rfl)
theorem mQ71 : mQ P 71 = some (23, .nilFunc) := by kernel_rfl
theorem c_machines (h : Sep E L w) : Calls P fn_vm_machines #[] w (Ret fun v w' => ∃ m f, v = .map (some m) ∧ f 3 = some (.func (.func fn_vm_VM_spawn) #[] #[]) ∧ Sep E (mapF m kI f :: L) w') := by
  apply of_vm_machines
  unfold sh_vm_machines
  refine mapF.new (enc := kI) h (fun m w1 h1 => ?_)
  refine mapUpdate.i h1 key23 mQ71 0 _ (fun w2 h2 => ?_)
  refine mapUpdate.i h2 key23 mQ71 1 _ (fun w3 h3 => ?_)
  refine mapUpdate.i h3 key23 mQ71 2 _ (fun w4 h4 => ?_)
  refine mapUpdate.i h4 key23 mQ71 3 _ (fun w5 h5 => ?_)
  refine mapUpdate.i h5 key23 mQ71 12 _ (fun w6 h6 => ?_)
  refine mapUpdate.i h6 key23 mQ71 13 _ (fun w7 h7 => ?_)
  exact ⟨m, _, rfl, by rfl, h7⟩

abbrev ans0 : Value := .agg #[.int .i64 0, .int .i64 0, .slice none 0 0]
theorem c_coreTree {bc bt : Nat} {C : List Value} {q : Nat} (h : Sep E L w) (hq : L[q]? = some (blk bc (.pointer (some ⟨bt, 0, none⟩) :: C))) : Calls P fn_core_Core_Tree #[.pointer (some ⟨bc, 0, none⟩)] w (Ret fun v w' => v = .pointer (some ⟨bt, 0, none⟩) ∧ w' = w) := by
  apply of_core_Core_Tree
  unfold sh_core_Core_Tree
  exact ⟨_, rfl, _, h.cellAt q hq 0, rfl, rfl⟩
theorem c_live0 {bt bl : Nat} {q r : Nat} (h : Sep E L w) (hq : L[q]? = some (blk bt [.slice (some ⟨bl, 0, none⟩) 1 1])) (hr : L[r]? = some (blk bl [.int .i64 (-1), .bool true])) :
    Calls P fn_tree_Tree_Live #[.pointer (some ⟨bt, 0, none⟩), .int .i64 0] w (Ret fun v w' => v = .bool true ∧ w' = w) := by
  apply of_tree_Tree_Live
  unfold sh_tree_Tree_Live
  refine bT (by decide) ⟨_, rfl, ⟨some ⟨bl, 0, none⟩, 1, 1⟩, h.cellAt q hq 0, bT rfl ⟨_, rfl, ⟨some ⟨bl, 0, none⟩, 1, 1⟩, h.cellAt q hq 0, ?_⟩⟩
  refine ⟨⟨bl, 0, none⟩, rfl, ⟨by decide, ?_⟩, true, ?_, rfl, rfl⟩
  · show (0 : Int) < ((1 : Nat) : Int); decide
  · exact h.cellAt r hr 1
theorem slProc : slQ P 67 = some (16, 2, [.int .i64 0, .pointer none]) := by kernel_rfl
theorem c_add {bv : Nat} {x : Value} {s : Option Addr} (h : Sep E (blk bv [x, .slice none 0 0] :: L) w) : Calls P fn_vm_VM_add #[.pointer (some ⟨bv, 0, none⟩), .int .i64 0, .pointer s] w (Ret fun v w' => v = ans0 ∧ ∃ ps : Sl, Sep E (blk bv [x, .slice ps.p ps.n ps.c] :: L) w') := by
  apply of_vm_VM_add
  unfold sh_vm_VM_add
  refine Al.i h (fun p1 w1 h1 => ⟨_, rfl, ⟨none, 0, 0⟩, h1.cellAt 1 rfl 1, ?_⟩)
  refine Al.i h1 (fun p5 w2 h2 => ?_)
  have hs := Src.blk (n := 1) (c := 1) h2 (i := 0) rfl slProc rfl (fun u hu => by simp at hu; rcases hu with rfl | rfl <;> rfl)
  refine rowA.append (s := ⟨none, 0, 0⟩) (rowA.none_ h2) slProc rfl hs (by decide) (by decide) (fun s' w3 hn' h3 => ?_)
  have h4 : Sep E (blk bv [x, .slice none 0 0] :: blk p1 [.int .i64 0, .int .i64 0, .slice none 0 0] :: L) w3 := h3.ro 4 [3, 2] rfl
  refine ⟨_, rfl, St.i h4 (by show 1 < 2; decide) (fun w4 h5 => ?_)⟩
  have h5 : Sep E (blk bv [x, .slice s'.p s'.n s'.c] :: blk p1 [.int .i64 0, .int .i64 0, .slice none 0 0] :: L) w4 := h5
  refine ⟨_, rfl, s', h5.cell 1, ?_⟩
  have hw : IntKind.i64.wrap (((s'.n : Nat) : Int) - 1) = 0 := by
    have : s'.n = 1 := hn'
    rw [this]; decide
  rw [hw]
  refine zst _ h5.swap rfl (fun w5 h6 => ?_)
  exact ⟨_, h6.cell 0, _, h6.cell 1, ⟨none, 0, 0⟩, h6.cell 2, rfl, s', h6.tail⟩

def op3 : Scr.Op := ⟨3, 0, 0, 0, 0⟩
theorem c_spawn0 {v : Value} (h : Sep E (vmA v ⟨none, 0, 0⟩ :: L) w) : Calls P fn_vm_VM_spawn #[v, op3.v] w (Ret fun r w' => r = ans0 ∧ ∃ ps, Sep E (vmA v ps :: L) w') := by
  obtain ⟨bv, bc, bt, bl, C, rfl, h0⟩ := vmA.get h
  clear h
  apply of_vm_VM_spawn
  unfold sh_vm_VM_spawn
  refine Al.i h0 (fun p1 w1 h1 => Al.i h1 (fun p3 w2 h2 => Dr.i h2 (fun w3 h3 => ?_)))
  refine ⟨_, rfl, some ⟨bc, 0, none⟩, h3.cellAt (c := [.pointer (some ⟨bc, 0, none⟩), .slice none 0 0]) 2 rfl 0, 0, h3.cellAt 1 rfl 1, ?_⟩
  refine use (c_coreTree (q := 3) h3 rfl) ?_
  rintro _ w4 ⟨rfl, rfl⟩
  refine ⟨_, rfl, 0, h3.cellAt 1 rfl 1, rfl, ?_⟩
  refine use (c_live0 (q := 4) (r := 5) h3 rfl rfl) ?_
  rintro _ w5 ⟨rfl, rfl⟩
  refine ⟨_, rfl, bF rfl ⟨_, rfl, ⟨none, 0, 0⟩, h3.cellAt 2 rfl 1, bF (by decide) ?_⟩⟩
  refine Dr.i h3 (fun w6 h4 => ⟨0, h4.cellAt 1 rfl 1, ?_⟩)
  refine use (c_spaceNew h4) ?_
  rintro _ w7 ⟨⟨s, rfl⟩, h5⟩
  refine ⟨s, rfl, 0, h5.cellAt 1 rfl 1, rfl, ?_⟩
  refine use (c_add (h5.fr 2 rfl)) ?_
  rintro _ w8 ⟨rfl, ps, h6⟩
  refine ⟨0, 0, ⟨none, 0, 0⟩, rfl, ?_⟩
  have h7 := h6.ro 6 [1, 0, 3, 4, 5] rfl
  refine zst _ h7 rfl (fun w9 h8 => ?_)
  exact ⟨_, h8.cell 0, _, h8.cell 1, ⟨none, 0, 0⟩, h8.cell 2, rfl, ps, vmA.mk rfl h8.tail⟩
theorem neqFunc : EqV P .neq 70 (.func (.func fn_vm_VM_spawn) #[] #[]) .nilFunc true := ⟨fun _ _ _ => by kernel_rfl, fun _ => by kernel_rfl⟩
theorem c_do0 {v : Value} (h : Sep E (vmA v ⟨none, 0, 0⟩ :: L) w) : Calls P fn_vm_VM_Do #[v, op3.v] w (Ret fun r w' => r = ans0 ∧ ∃ ps, Sep E (vmA v ps :: L) w') := by
  obtain ⟨p, rfl⟩ : ∃ p : Option Addr, v = .pointer p := by
    obtain ⟨bv, bc, bt, bl, C, rfl, _⟩ := vmA.get h
    exact ⟨_, rfl⟩
  apply of_vm_VM_Do
  unfold sh_vm_VM_Do
  refine Al.i h (fun p1 w1 h1 => Al.i h1 (fun p3 w2 h2 => Dr.i h2 (fun w3 h3 => ?_)))
  refine ⟨3, h3.cellAt 1 rfl 0, ?_⟩
  refine use (c_machines h3) ?_
  rintro _ w4 ⟨m, f, rfl, hf, h4⟩
  refine ⟨some m, rfl, 3, h4.cellAt 2 rfl 0, rfl, ?_⟩
  have hl := LookV.i false 0 h4 rfl key23 mQ71 3
  rw [hf] at hl
  refine ⟨_, hl, true, neqFunc, ?_⟩
  refine bT rfl ⟨3, h4.cellAt 2 rfl 0, 0, h4.cellAt 2 rfl 1, 0, h4.cellAt 2 rfl 2, 0, h4.cellAt 2 rfl 3, 0, h4.cellAt 2 rfl 4, ?_⟩
  refine ⟨fn_vm_VM_spawn, #[], rfl, by kernel_rfl, ?_⟩
  refine use (c_spawn0 (v := .pointer p) (h4.fr 3 rfl)) ?_
  rintro _ w5 ⟨rfl, ps, h5⟩
  refine ⟨0, 0, ⟨none, 0, 0⟩, rfl, ?_⟩
  have h6 := h5.ro 4 [2, 0] rfl
  refine zst _ h6 rfl (fun w9 h8 => ?_)
  exact ⟨_, h8.cell 0, _, h8.cell 1, ⟨none, 0, 0⟩, h8.cell 2, rfl, ps, h8.tail⟩
theorem slAns : slQ P 42 = some (40, 3, [.int .i64 0, .int .i64 0, .slice none 0 0]) := by kernel_rfl
/-- One answer, that all is well. -/
def Fine1 (v : Value) (w' : World) : Prop := ∃ (x : Sl) (a : Addr), v = .slice x.p x.n x.c ∧ x.n = 1 ∧ x.p = some a ∧ w'.cell? (a.add 0) = some (.int .i64 0)
theorem c_Run0 {s : Sl} (hO : Ops W s [op3]) (h : Sep E L W) : Calls P fn_vm_Run #[.int .i64 2, .int .i64 2, .slice none 0 0, .slice s.p s.n s.c] W (Ret fun v w' => Fine1 v w' ∧ Grow W w' ∧ Sep E L w') := by
  apply of_vm_Run 2 2 ⟨none, 0, 0⟩
  unfold sh_vm_Run
  have hsn : s.n = 1 := hO.n
  refine use (c_vmNew2 (Sep.start W)) ?_
  rintro _ w1 ⟨⟨p, rfl⟩, h1⟩
  refine ⟨p, rfl, fun out i w' => (i = 0 ∧ out = ⟨none, 0, 0⟩ ∧ Sep (World.env W) [vmA (.pointer p) ⟨none, 0, 0⟩, old W.heap] w') ∨ (i = 1 ∧ out.n = 1 ∧ Sep (World.env W) [rowA out 3 [.int .i64 0, .int .i64 0, .slice none 0 0], old W.heap] w'), fun _ i _ => (1 - i).toNat, .inl ⟨rfl, rfl, h1⟩, ?_⟩
  rintro _ out i w2 (⟨rfl, rfl, h2⟩ | ⟨rfl, hon, h2⟩)
  · refine bT (by rw [hsn]; decide) ?_
    have g2 : Grow W w2 := grow_old (i := 1) rfl h2 rfl
    refine (hO.grow g2).at_ 0 rfl rfl (fun a ha => ?_)
    have ha := ha w2 (Grow.refl _)
    refine ⟨_, ha 0 _ rfl, _, ha 1 _ rfl, _, ha 2 _ rfl, _, ha 3 _ rfl, _, ha 4 _ rfl, ?_⟩
    refine Al.i h2 (fun p16 w3 h3 => zst _ h3 rfl (fun w4 h4 => ?_))
    refine ⟨_, h4.cell 0, _, h4.cell 1, _, h4.cell 2, _, h4.cell 3, _, h4.cell 4, ?_⟩
    refine use (c_do0 h4.tail) ?_
    rintro _ w5 ⟨rfl, ps, h5⟩
    refine ⟨0, 0, ⟨none, 0, 0⟩, rfl, Al.i h5.tail (fun p29 w6 h6 => ?_)⟩
    have hs := Src.blk (n := 1) (c := 1) h6 (i := 0) rfl slAns rfl (fun u hu => by simp at hu; rcases hu with rfl | rfl <;> rfl)
    refine rowA.append (s := ⟨none, 0, 0⟩) (rowA.none_ h6) slAns rfl hs (by decide) (by decide) (fun s' w7 hn' h7 => ?_)
    exact ⟨.inr ⟨by decide, hn', h7.ro 3 [0, 2] rfl⟩, by show (1 - IntKind.i64.wrap (0 + 1)).toNat < ((1 : Int) - 0).toNat; decide⟩
  · refine bF (by rw [hsn]; decide) ?_
    have g2 : Grow W w2 := grow_old (i := 1) rfl h2 rfl
    obtain ⟨b, spare, hp, _, _, _, h3⟩ := rowA.get_ h2 (by omega)
    exact ⟨⟨out, _, rfl, hon, hp, (h3.cell 0)⟩, g2, h.grow g2⟩
end Go.Mp
