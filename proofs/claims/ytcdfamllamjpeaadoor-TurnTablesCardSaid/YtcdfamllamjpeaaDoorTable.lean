/- Package turn's Table: what a turned table is. -/
import Derived.Test.YtcdfamllamjpeaaDoorBlock
namespace Go.Proofs.YtcdfamllamjpeaaDoor
open Go.RowKit
theorem table_no (k : Int) (h : k < 0 ∨ 8 ≤ k) (xs : List Int) (_hx : xs.length = 64) (w : World) : Calls Tryd.prog 25 #[.int .i64 k, .agg (ints .u16 xs)] w fun e w' => e = .returned (.agg (ints .u16 (List.replicate 64 0))) ∧ Below w.heap.size w w' := by
  go_enter Tryd.func25, Tryd.ntmps25
  go_wp2_with (first | (go_at_call 19; refine (right_no _ (by assumption) _).mono ?_; rintro e w' ⟨rfl, rfl⟩) | (refine wpList_store_row rfl 52 _ _ rfl (w.heap.size + 1) (ints .u16 (List.replicate 64 0)) rfl rfl 52 (ints .u16 (List.replicate 64 0)) (Blk.new' _ _ _ (by simp)) (by rw [ints_size]; kernel_rfl) (by simp) (ints_one _ _) ?_))
  refine bodyPost_ret (results_cell_row rfl _ _ (w.heap.size + 1) 52 _ _ _ rfl ((Blk.new' _ _ _ (by simp)).row _) Tryd.underlying52 rfl (by rw [ints_size]; kernel_rfl)) rfl ⟨rfl, ?_⟩
  exact Below.setRow (((Below.refl _ _).alloc (Nat.le_refl _) _).alloc (by simp) _) (by omega) _
theorem table_lo (k : Int) (h0 : 0 ≤ k) (h4 : k < 4) (xs : List Int) (hx : xs.length = 64) (w : World) : Calls Tryd.prog 25 #[.int .i64 k, .agg (ints .u16 xs)] w fun e w' => e = .returned (.agg (ints .u16 xs)) ∧ Below w.heap.size w w' := by
  have e4 := and4 k h0 (by omega)
  have t4 : (k / 4 * 4 != 0) = false := by rw [bne_eq_false_iff_eq]; omega
  go_enter Tryd.func25, Tryd.ntmps25
  go_wp2_with (first | (go_at_call 19; refine (right_yes _ (by assumption) (by omega) _).mono ?_; rintro e w' ⟨rfl, rfl⟩) | (refine wpList_load_row rfl 52 _ rfl w.heap.size rfl 52 (ints .u16 xs) _ _ ((Blk.new _ _ _).alloc _) Tryd.underlying52 rfl (by rw [ints_size, hx]; kernel_rfl) ?_) | (refine wpList_store_row rfl 52 _ _ rfl (w.heap.size + 1) (ints .u16 xs) rfl rfl 52 (ints .u16 (List.replicate 64 0)) (Blk.new' _ _ _ (by simp)) (by rw [ints_size, hx]; kernel_rfl) (by simp [hx]) (ints_one _ _) ?_))
  refine bodyPost_ret (results_cell_row rfl _ _ (w.heap.size + 1) 52 _ _ _ rfl ((Blk.new' _ _ _ (by simp)).row _) Tryd.underlying52 rfl (by rw [ints_size, hx]; kernel_rfl)) rfl ⟨rfl, ?_⟩
  exact Below.setRow (((Below.refl _ _).alloc (Nat.le_refl _) _).alloc (by simp) _) (by omega) _
theorem table_hi (k : Int) (h4 : 4 ≤ k) (h8 : k < 8) (xs : List Int) (hx : xs.length = 64) (w : World) : Calls Tryd.prog 25 #[.int .i64 k, .agg (ints .u16 xs)] w fun e w' => e = .returned (.agg (ints .u16 (Zg.swap xs))) ∧ Below w.heap.size w w' := by
  have e4 := and4 k (by omega) h8
  have t4 : (k / 4 * 4 != 0) = true := by rw [bne_iff_ne]; omega
  obtain ⟨N, hN⟩ : ∃ N, N = w.heap.size := ⟨_, rfl⟩
  have HN := Lib.hid hN
  rw [← hN]
  clear hN
  go_enter Tryd.func25, Tryd.ntmps25
  go_wp2_with (first | (go_at_call 19; refine (right_yes _ (by omega) (by assumption) _).mono ?_; rintro e w' ⟨rfl, rfl⟩) | (refine wpList_load_row rfl 52 _ rfl w.heap.size rfl 52 (ints .u16 xs) _ _ ((Blk.new _ _ _).alloc _) Tryd.underlying52 rfl (by rw [ints_size, hx]; kernel_rfl) ?_))
  refine (swap_u16 xs hx _).mono ?_
  rintro e w1 ⟨rfl, hb1⟩
  have g1 : Blk w1 (N + 1) (ints .u16 (List.replicate 64 0)) 52 := Blk.below (Blk.new' _ _ _ (by rw [HN.out]; simp)) hb1 (by rw [HN.out]; simp)
  have hB1 : Below N w w1 := ((((Below.refl _ _).alloc (by rw [HN.out]; exact Nat.le_refl _) _).alloc (by rw [HN.out]; simp) _)).trans (hb1.mono (by rw [HN.out]; simp; omega))
  clear hb1
  rw [← HN.out]
  go_wp2_with (first | (refine wpList_store_row rfl 52 _ _ rfl (N + 1) (ints .u16 (Zg.swap xs)) rfl rfl 52 (ints .u16 (List.replicate 64 0)) g1 (by rw [ints_size, Zg.swap_len]; kernel_rfl) (by simp [Zg.swap_len]) (ints_one _ _) ?_) | fail)
  refine bodyPost_ret (results_cell_row rfl _ _ (N + 1) 52 _ _ _ rfl (g1.row _) Tryd.underlying52 rfl (by rw [ints_size, Zg.swap_len]; kernel_rfl)) rfl ⟨rfl, ?_⟩
  exact Below.setRow hB1 (by omega) _
theorem Tu.table_len (k : Int) (xs : List Int) (hx : xs.length = 64) : (Tu.table k xs).length = 64 := by
  unfold Tu.table; split
  · split
    · exact Zg.swap_len _
    · exact hx
  · simp
theorem table_any (k : Int) (xs : List Int) (hx : xs.length = 64) (w : World) :
    Calls Tryd.prog 25 #[.int .i64 k, .agg (ints .u16 xs)] w fun e w' => e = .returned (.agg (ints .u16 (Tu.table k xs))) ∧ Below w.heap.size w w' := by
  unfold Tu.table
  by_cases h : 0 ≤ k ∧ k < 8
  · rw [if_pos h]
    by_cases h4 : 4 ≤ k
    · rw [if_pos h4]; exact table_hi k h4 h.2 xs hx w
    · rw [if_neg h4]; exact table_lo k h.1 (by omega) xs hx w
  · rw [if_neg h]; exact table_no k (by omega) xs hx w
end Go.Proofs.YtcdfamllamjpeaaDoor
