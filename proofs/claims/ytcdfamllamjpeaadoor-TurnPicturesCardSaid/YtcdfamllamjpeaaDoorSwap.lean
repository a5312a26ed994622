/- Package zig's Swap: what a block turned over its diagonal is. -/
import Derived.Test.YtcdfamllamjpeaaDoorMem
import Derived.Test.YtcdfamllamjpeaaDoorProg
namespace Go.Proofs.YtcdfamllamjpeaaDoor
open Go.RowKit
namespace Zg
def swapTo (xs : List Int) : Nat → List Int
  | 0 => List.replicate 64 0
  | k + 1 => (swapTo xs k).set (k % 8 * 8 + k / 8) (xs.getD k 0)
theorem swapTo_len (xs : List Int) : ∀ k, (swapTo xs k).length = 64
  | 0 => by simp [swapTo]
  | k + 1 => by simp [swapTo, swapTo_len xs k]
def swap (xs : List Int) : List Int := (List.range 64).map fun j => xs.getD (j % 8 * 8 + j / 8) 0
theorem swapTo_get (xs : List Int) : ∀ (k : Nat), k ≤ 64 → ∀ j, j < 64 → (swapTo xs k)[j]? = some (if j % 8 * 8 + j / 8 < k then xs.getD (j % 8 * 8 + j / 8) 0 else 0)
  | 0, _, j, hj => by rw [if_neg (by omega)]; show (List.replicate 64 (0 : Int))[j]? = _; rw [List.getElem?_replicate, if_pos hj]
  | k + 1, hk, j, hj => by
    have ih := swapTo_get xs k (by omega) j hj
    simp only [swapTo, List.getElem?_set, swapTo_len]
    by_cases h : k % 8 * 8 + k / 8 = j
    · have e : j % 8 * 8 + j / 8 = k := by omega
      rw [if_pos h, if_pos (by omega), e, if_pos (by omega)]
    · have e : j % 8 * 8 + j / 8 ≠ k := by omega
      rw [if_neg h, ih]
      congr 1
      by_cases h2 : j % 8 * 8 + j / 8 < k
      · rw [if_pos h2, if_pos (by omega)]
      · rw [if_neg h2, if_neg (by omega)]
theorem swapTo_all (xs : List Int) : swapTo xs 64 = swap xs := by
  apply List.ext_getElem?
  intro j
  by_cases hj : j < 64
  · rw [swapTo_get xs 64 (Nat.le_refl _) j hj, if_pos (by omega)]
    simp [swap, hj]
  · rw [List.getElem?_eq_none (by rw [swapTo_len]; omega), List.getElem?_eq_none (by simp [swap]; omega)]
end Zg
set_option maxHeartbeats 1000000 in
theorem swap_i16 (xs : List Int) (hx : xs.length = 64) (w : World) : Calls Tryd.prog 30 #[.agg (ints .i16 xs)] w fun e w' => e = .returned (.agg (ints .i16 (Zg.swap xs))) ∧ Below w.heap.size w w' := by
  rw [← Zg.swapTo_all]
  obtain ⟨N, hN⟩ : ∃ N, N = w.heap.size := ⟨_, rfl⟩
  have HN := Lib.hid hN
  rw [← hN]
  clear hN
  go_enter Tryd.func30, Tryd.ntmps30
  go_wp2_with fail
  refine wp_world (fun W => Blk W N (ints .i16 xs) 46 ∧ Blk W (N+1) (ints .i16 (Zg.swapTo xs 0)) 46 ∧ Blk W (N+2) (ints .i16 (Zg.swapTo xs 0)) 46 ∧ Below N w W) ⟨?_, ?_, ?_, ?_⟩ ?_
  · rw [HN.out]; exact ((Blk.new _ _ _).alloc _).alloc _
  · rw [HN.out]; exact (Blk.new' _ _ _ (by simp)).alloc _
  · rw [HN.out]; exact (Blk.new' _ _ _ (by simp))
  · rw [HN.out]; exact (((Below.refl _ _).alloc (Nat.le_refl _) _).alloc (by simp) _).alloc (by simp; omega) _
  rintro W0 ⟨h0, h1, h2, hB⟩
  rw [← HN.out]
  go_loopw [4, 5] (fun _ i wr => ∃ k : Nat, k ≤ 64 ∧ i = .int .i64 k ∧ Blk wr N (ints .i16 xs) 46 ∧ Blk wr (N+1) (ints .i16 (Zg.swapTo xs 0)) 46 ∧ Blk wr (N+2) (ints .i16 (Zg.swapTo xs k)) 46 ∧ Below N w wr) (fun _ i _ => 64 - (intOf i).toNat)
  case atStart => exact ⟨0, by omega, rfl, h0, h1, h2, hB⟩
  case round =>
    obtain ⟨k, hk, rfl, b0, b1, b2, hB⟩ := hrel
    clear h0 h1 h2
    by_cases hlt : k < 64
    · have c0 := (b0.cell k).trans (ints_get _ _ _ (by omega))
      have c2 := (b2.cell (k % 8 * 8 + k / 8)).trans (ints_get _ _ _ (by rw [Zg.swapTo_len]; omega))
      have f2 := b2.free (k % 8 * 8 + k / 8)
      obtain ⟨x, hx0⟩ : ∃ x, xs.getD k 0 = x := ⟨_, rfl⟩
      rw [hx0] at c0
      have HX := Lib.hid hx0
      clear hx0
      go_wp2_with fail
      refine ⟨⟨k + 1, by omega, by go_num, b0.other _ _ (by show N ≠ N + 1 + 1; omega), b1.other _ _ (by show N + 1 ≠ N + 1 + 1; omega), ?_, hB.setCell (by show N ≤ N + 1 + 1; omega) _⟩, by simp [intOf]; omega⟩
      have := b2.set (k % 8 * 8 + k / 8) (.int .i16 x)
      rw [ints_set, ← HX.out] at this
      rw [← HX.out]; exact this
    · obtain rfl : k = 64 := by omega
      go_wp2_with (first | (refine wpList_load_row rfl 46 _ rfl (N + 2) rfl 46 _ _ _ b2 Tryd.underlying46 rfl (by rw [ints_size, Zg.swapTo_len]; kernel_rfl) ?_) | (refine wpList_store_row rfl 46 _ _ rfl (N + 1) _ rfl rfl 46 _ b1 (by rw [ints_size, Zg.swapTo_len]; kernel_rfl) (by simp [Zg.swapTo_len]) (ints_one _ _) ?_))
      refine bodyPost_ret (results_cell_row rfl _ _ (N + 1) 46 _ _ _ rfl (b1.row _) Tryd.underlying46 rfl (by rw [ints_size, Zg.swapTo_len]; kernel_rfl)) rfl ⟨rfl, ?_⟩
      exact Below.setRow hB (by omega) _
set_option maxHeartbeats 1000000 in
theorem swap_u16 (xs : List Int) (hx : xs.length = 64) (w : World) : Calls Tryd.prog 26 #[.agg (ints .u16 xs)] w fun e w' => e = .returned (.agg (ints .u16 (Zg.swap xs))) ∧ Below w.heap.size w w' := by
  rw [← Zg.swapTo_all]
  obtain ⟨N, hN⟩ : ∃ N, N = w.heap.size := ⟨_, rfl⟩
  have HN := Lib.hid hN
  rw [← hN]
  clear hN
  go_enter Tryd.func26, Tryd.ntmps26
  go_wp2_with fail
  refine wp_world (fun W => Blk W N (ints .u16 xs) 52 ∧ Blk W (N+1) (ints .u16 (Zg.swapTo xs 0)) 52 ∧ Blk W (N+2) (ints .u16 (Zg.swapTo xs 0)) 52 ∧ Below N w W) ⟨?_, ?_, ?_, ?_⟩ ?_
  · rw [HN.out]; exact ((Blk.new _ _ _).alloc _).alloc _
  · rw [HN.out]; exact (Blk.new' _ _ _ (by simp)).alloc _
  · rw [HN.out]; exact (Blk.new' _ _ _ (by simp))
  · rw [HN.out]; exact (((Below.refl _ _).alloc (Nat.le_refl _) _).alloc (by simp) _).alloc (by simp; omega) _
  rintro W0 ⟨h0, h1, h2, hB⟩
  rw [← HN.out]
  go_loopw [4, 5] (fun _ i wr => ∃ k : Nat, k ≤ 64 ∧ i = .int .i64 k ∧ Blk wr N (ints .u16 xs) 52 ∧ Blk wr (N+1) (ints .u16 (Zg.swapTo xs 0)) 52 ∧ Blk wr (N+2) (ints .u16 (Zg.swapTo xs k)) 52 ∧ Below N w wr) (fun _ i _ => 64 - (intOf i).toNat)
  case atStart => exact ⟨0, by omega, rfl, h0, h1, h2, hB⟩
  case round =>
    obtain ⟨k, hk, rfl, b0, b1, b2, hB⟩ := hrel
    clear h0 h1 h2
    by_cases hlt : k < 64
    · have c0 := (b0.cell k).trans (ints_get _ _ _ (by omega))
      have c2 := (b2.cell (k % 8 * 8 + k / 8)).trans (ints_get _ _ _ (by rw [Zg.swapTo_len]; omega))
      have f2 := b2.free (k % 8 * 8 + k / 8)
      obtain ⟨x, hx0⟩ : ∃ x, xs.getD k 0 = x := ⟨_, rfl⟩
      rw [hx0] at c0
      have HX := Lib.hid hx0
      clear hx0
      go_wp2_with fail
      refine ⟨⟨k + 1, by omega, by go_num, b0.other _ _ (by show N ≠ N + 1 + 1; omega), b1.other _ _ (by show N + 1 ≠ N + 1 + 1; omega), ?_, hB.setCell (by show N ≤ N + 1 + 1; omega) _⟩, by simp [intOf]; omega⟩
      have := b2.set (k % 8 * 8 + k / 8) (.int .u16 x)
      rw [ints_set, ← HX.out] at this
      rw [← HX.out]; exact this
    · obtain rfl : k = 64 := by omega
      go_wp2_with (first | (refine wpList_load_row rfl 52 _ rfl (N + 2) rfl 52 _ _ _ b2 Tryd.underlying52 rfl (by rw [ints_size, Zg.swapTo_len]; kernel_rfl) ?_) | (refine wpList_store_row rfl 52 _ _ rfl (N + 1) _ rfl rfl 52 _ b1 (by rw [ints_size, Zg.swapTo_len]; kernel_rfl) (by simp [Zg.swapTo_len]) (ints_one _ _) ?_))
      refine bodyPost_ret (results_cell_row rfl _ _ (N + 1) 52 _ _ _ rfl (b1.row _) Tryd.underlying52 rfl (by rw [ints_size, Zg.swapTo_len]; kernel_rfl)) rfl ⟨rfl, ?_⟩
      exact Below.setRow hB (by omega) _
end Go.Proofs.YtcdfamllamjpeaaDoor
