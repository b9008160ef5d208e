/- A machine is made: what there is of it for a small example. -/
import Derived.Test.YtkjihkmkchcmcaaGreatDoorScS
import Derived.Test.YtkjihkmkchcmcaaGreatDoorVcO
import Derived.Test.YtkjihkmkchcmcaaGreatDoorMapP
set_option maxRecDepth 100000
namespace Go.Mp
open Go Go.Vc Go.Sp Go.Proofs Go.Ct

variable {E : Env} {L : List Asn} {w W : World}

abbrev PtrR (E : Env) (L : List Asn) : Value → World → Prop := fun v w' => (∃ p : Option Addr, v = .pointer p) ∧ Sep E L w'

/-- A tree of one group. -/
def treeA (v : Value) : Asn := exA fun bt => exA fun bl => pur (v = .pointer (some ⟨bt, 0, none⟩)) (star (blk bt [.slice (some ⟨bl, 0, none⟩) 1 1]) (blk bl [.int .i64 (-1), .bool true]))
theorem treeA.get {v : Value} (h : Sep E (treeA v :: L) w) : ∃ bt bl, v = .pointer (some ⟨bt, 0, none⟩) ∧ Sep E (blk bt [.slice (some ⟨bl, 0, none⟩) 1 1] :: blk bl [.int .i64 (-1), .bool true] :: L) w := by
  obtain ⟨bt, h⟩ := Sep.ex.1 h
  obtain ⟨bl, h⟩ := Sep.ex.1 h
  obtain ⟨hv, h⟩ := Sep.pur.1 h
  exact ⟨bt, bl, hv, Sep.star.1 h⟩
theorem treeA.mk {v : Value} {bt bl : Nat} (hv : v = .pointer (some ⟨bt, 0, none⟩)) (h : Sep E (blk bt [.slice (some ⟨bl, 0, none⟩) 1 1] :: blk bl [.int .i64 (-1), .bool true] :: L) w) : Sep E (treeA v :: L) w :=
  Sep.ex.2 ⟨bt, Sep.ex.2 ⟨bl, Sep.pur.2 ⟨hv, Sep.star.2 h⟩⟩⟩
theorem c_treeNew (h : Sep E L w) : Calls P fn_tree_New #[] w (Ret fun v w' => (∃ p : Option Addr, v = .pointer p) ∧ Sep E (treeA v :: L) w') := by
  apply of_tree_New
  unfold sh_tree_New
  exact Al.i h (fun p1 w1 h1 => Al.i h1 (fun p3 w2 h2 => ⟨⟨_, rfl⟩, treeA.mk rfl h2⟩))

theorem c_bitsNew2 (h : Sep E L w) : Calls P fn_bits_New #[.int .i64 2] w (Ret (PtrR E L)) := by
  apply of_bits_New
  unfold sh_bits_New
  have e : ((IntKind.i64.wrap ((IntKind.i64.wrap ((min1 (max1 2 0) 65536) + 64)) - 1)).fdiv (2 ^ (min (6 : Int).toNat 64))) = 1 := by decide
  rw [e]
  refine ⟨by decide, ?_⟩
  refine makeSlice.i h (by kernel_rfl : slQ P 218 = some (8, 1, [.int .u64 0])) (by decide) (Int.le_refl _) (by decide) (by decide) (fun b w1 h1 => ?_)
  exact Al.i h1 (fun p w2 h2 => ⟨⟨_, rfl⟩, h2.tail.tail⟩)
theorem c_poolNew2 (h : Sep E L w) : Calls P fn_pool_New #[.int .i64 2] w (Ret (PtrR E L)) := by
  apply of_pool_New
  unfold sh_pool_New
  have e : min1 2 1024 = 2 := by decide
  rw [e]
  refine use (c_bitsNew2 h) ?_
  rintro _ w1 ⟨⟨p, rfl⟩, h1⟩
  exact ⟨p, rfl, Al.i h1 (fun p w2 h2 => ⟨⟨_, rfl⟩, h2.tail⟩)⟩
theorem c_bytesNew2 (h : Sep E L w) : Calls P fn_bytes_New #[.int .i64 2] w (Ret (PtrR E L)) := by
  apply of_bytes_New
  unfold sh_bytes_New
  have e : min1 (max1 2 0) 1024 = 2 := by decide
  rw [e]
  refine makeSlice.i h (by kernel_rfl : slQ P 162 = some (16, 16, u8s (List.replicate 16 0))) (by decide) (Int.le_refl _) (by decide) (by decide) (fun b w1 h1 => ?_)
  exact Al.i h1 (fun p w2 h2 => ⟨⟨_, rfl⟩, h2.tail.tail⟩)
theorem c_counterNew (h : Sep E L w) : Calls P fn_counter_New #[] w (Ret (PtrR E L)) := by
  apply of_counter_New
  unfold sh_counter_New
  refine Al.i h (fun p1 w1 h1 => ?_)
  refine ⟨fun x w' => ∃ (j : Nat) (C : List Value), x = j ∧ j ≤ 64 ∧ C.length = 256 ∧ Sep E (blk p1 C :: L) w', fun x _ => (64 - x).toNat, ⟨0, _, rfl, by omega, by decide, h1⟩, ?_⟩
  rintro _ x w2 ⟨j, C, rfl, hj, hC, h2⟩
  refine bLt (fun hlt => ?_) (fun hge => ⟨⟨_, rfl⟩, h2.tail⟩)
  refine ⟨⟨p1, 0, none⟩, rfl, ⟨⟨p1, 0, none⟩, rfl, ⟨by omega, by omega⟩, ?_⟩⟩
  simp only [add_mk, Int.toNat_natCast, Nat.zero_add]
  refine St.i h2 (by rw [hC]; omega) (fun w3 h3 => ⟨⟨j + 1, _, wrapS (by omega), by omega, by rw [List.length_set]; exact hC, h3⟩, by rw [wrapS (by omega)]; omega⟩)
theorem c_newStore2 (h : Sep E L w) : Calls P fn_core_newStore #[.int .i64 2] w (Ret fun v w' => (∃ a b c : Option Addr, v = .agg #[.pointer a, .pointer b, .pointer c]) ∧ Sep E L w') := by
  apply of_core_newStore
  unfold sh_core_newStore
  refine Al.i h (fun p1 w1 h1 => ?_)
  refine use (c_poolNew2 h1) ?_
  rintro _ w2 ⟨⟨a, rfl⟩, h2⟩
  refine ⟨a, rfl, use (c_bytesNew2 h2) ?_⟩
  rintro _ w3 ⟨⟨b, rfl⟩, h3⟩
  refine ⟨b, rfl, use (c_counterNew h3) ?_⟩
  rintro _ w4 ⟨⟨c, rfl⟩, h4⟩
  refine ⟨c, rfl, zst _ h4 rfl (fun w5 h5 => ⟨a, h5.cell 0, b, h5.cell 1, c, h5.cell 2, ⟨a, b, c, rfl⟩, h5.tail⟩)⟩
theorem c_filesNew0 (h : Sep E L w) : Calls P fn_files_New #[.slice none 0 0] w (Ret (PtrR E L)) := by
  apply of_files_New ⟨none, 0, 0⟩
  unfold sh_files_New
  refine AlM.i h (fun m w1 h1 => Al.i h1 (fun p3 w2 h2 => ?_))
  refine ⟨by decide, fun x w' => x = 0 ∧ Sep E L w', fun _ _ => 0, ⟨rfl, h2.tail.tail⟩, ?_⟩
  rintro _ x w3 ⟨rfl, h3⟩
  exact bF (by decide) ⟨⟨_, rfl⟩, h3⟩
theorem c_gensNew (h : Sep E L w) : Calls P fn_gens_New #[] w (Ret (PtrR E L)) := by
  apply of_gens_New
  unfold sh_gens_New
  exact AlM.i h (fun m w1 h1 => Al.i h1 (fun p3 w2 h2 => ⟨⟨_, rfl⟩, h2.tail.tail⟩))
theorem c_shadowNew (h : Sep E L w) : Calls P fn_shadow_New #[] w (Ret (PtrR E L)) := by
  apply of_shadow_New
  unfold sh_shadow_New
  exact Al.i h (fun p3 w2 h2 => ⟨⟨_, rfl⟩, h2.tail⟩)
theorem c_pagesNew (h : Sep E L w) : Calls P fn_pages_New #[] w (Ret (PtrR E L)) := by
  apply of_pages_New
  unfold sh_pages_New
  exact AlM.i h (fun _ w1 h1 => AlM.i h1 (fun _ w2 h2 => AlM.i h2 (fun _ w3 h3 => Al.i h3 (fun p3 w4 h4 => ⟨⟨_, rfl⟩, h4.tail.tail.tail.tail⟩))))
theorem c_spaceNew (h : Sep E L w) : Calls P fn_space_New #[] w (Ret (PtrR E L)) := by
  apply of_space_New
  unfold sh_space_New
  have hr : Calls P fn_radix_New #[] w (Ret (PtrR E L)) := by
    apply of_radix_New
    unfold sh_radix_New
    exact Al.i h (fun p3 w2 h2 => ⟨⟨_, rfl⟩, h2.tail⟩)
  refine use hr ?_
  rintro _ w1 ⟨⟨p, rfl⟩, h1⟩
  exact ⟨p, rfl, Al.i h1 (fun p w2 h2 => ⟨⟨_, rfl⟩, h2.tail⟩)⟩
end Go.Mp
