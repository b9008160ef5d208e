/- The sorted keys of the map of pages. -/
import Derived.Test.YtbkmfficnnfljaaPg0
import Derived.Test.YtbkmfficnnfljaaPgS
import Derived.Test.YtbkmfficnnfljaaKeys
set_option maxRecDepth 100000
namespace Go.Mp
open Go Go.Vc Go.Sp Go.Proofs Go.Shelf

variable {E : Env} {L : List Asn} {w : World}

theorem sortsA (m : Nat) : AnyZI.SortsIn P Try.sortedA_ren Fence.wide m :=
  ⟨fun blk off cap ss W hH hblk hsz => callsIn_wide.2 (AnyM.slices_Sort_int Try.sortA blk off cap ss W hH hblk hsz),
   fun p cap W => callsIn_wide.2 (AnyM.slices_Sort_int_none Try.sortA p cap W)⟩

theorem c_keys (mb : Option Nat) (W : World) : Calls P fn_maps_Keys_map_int_api_Page_int_api_Page #[.map mb] W fun e w' => e = .returned (.func (.func fn_maps_Keys_map_int_api_Page_int_api_Page_1) #[] #[.pointer (some ⟨W.heap.size, 0, none⟩)]) ∧ w' = W.alloc (.cells #[.map mb] (Try.keysA_ren.t 23)) :=
  (callsIn_wide (n := 5)).1 (AnyZI.keys_in Try.keysA Fence.wide 5 trivial rfl mb W)

theorem c_All {t mp q : Nat} {f : Int → Option Value} (h : Sep E L w) {i : Nat} {c : List Value} (ht : L[i]? = some (blk t c)) (hc : c[0]? = some (.map (some mp))) (hq : L[q]? = some (mapF mp (Value.int .i64) f)) {N : Nat} (hN : ∀ k v, f k = some v → 0 ≤ k ∧ k < N) (hb : N ≤ 17592186044416) :
    Calls P fn_pages_Table_All #[.pointer (some ⟨t, 0, none⟩)] w (Ret fun v w' => ∃ (s : Sl) (l : List Int), v = .slice s.p s.n s.c ∧ s.n = l.length ∧ KeysOf f l ∧ Sep E (rowA s 1 (intL l) :: L) w') := by
  apply of_pages_Table_All
  unfold sh_pages_Table_All
  refine ⟨_, rfl, some mp, by rw [add_mk, h.cellAt i ht]; exact hc, (c_keys _ w).mono ?_⟩
  rintro e w1 ⟨rfl, rfl⟩
  refine ⟨_, rfl, ?_⟩
  have h1 := h.alloc #[.map (some mp)] (Try.keysA_ren.t 23)
  have hq1 : (blk w.heap.size [.map (some mp)] :: L)[q + 1]? = some (mapF mp (Value.int .i64) f) := by simpa using hq
  obtain ⟨D, hown, hsz, hss⟩ := mapF.owns (kt := ty_int) h1 hq1 (by kernel_rfl) hN hb
  have hseq := AnyZI.keys_gives (ρ := Try.keysA_ren) { Try.keysA with } Fence.wide 2 trivial rfl (by omega) w.heap.size mp N D _ (by simp) (by simp) hown
  have hg : ∀ args W, (callFunc fn_maps_Keys_map_int_api_Page_int_api_Page_1 args).run P W = .ok (.enter fn_maps_Keys_map_int_api_Page_int_api_Page_1 args) W := enters_of Try.func45 (by kernel_rfl) rfl
  have h9 : ∀ args W, (callFunc (Try.sortedA_ren.f 9) args).run P W = .ok (.enter (Try.sortedA_ren.f 9) args) W := enters_of Try.func44 (by kernel_rfl) rfl
  have hS := AnyZI.sorted_in Try.sortedA Fence.wide 5 trivial trivial trivial trivial rfl (by omega) (sortsA _) h9 fn_maps_Keys_map_int_api_Page_int_api_Page_1 #[.pointer (some ⟨w.heap.size, 0, none⟩)] trivial hg _ _ (by simp [maxLen]; omega) (by omega) _ hseq
  refine ((callsIn_wide (n := 5)).1 hS).mono ?_
  rintro e w2 ⟨v, ss, rfl, hperm, hrow, hnil, hbel⟩
  obtain ⟨hnd, hmem⟩ := hss ss hperm
  have hlen : (ss.mergeSort fun x y => decide (x ≤ y)).length = ss.length := List.length_mergeSort ss
  rw [← hlen] at hrow
  obtain ⟨s, rfl, hn, h2⟩ := rows_of h1 hrow hbel
  refine ⟨s, rfl, s, _, rfl, hn, ⟨rising_sort hnd, fun k => ?_⟩, (h2.fr 1 rfl).tail⟩
  rw [(List.mergeSort_perm _ _).mem_iff]; exact hmem k

end Go.Mp
