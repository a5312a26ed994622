/- Package past's functions over a nil past and an empty one; Oldest and Drop. -/
import Derived.Test.YtcdfamllamjpeaaPast3
namespace Go.Proofs.Ytcdfamllamjpeaa
open Go.RowKit
set_option maxRecDepth 100000
set_option maxHeartbeats 2000000
theorem past_pop_nil (w : World) : Calls Try.prog 11 #[.pointer none] w fun e w' => e = .returned (.tuple #[Pa.val (0, 0, 0), .bool false]) ∧ Below w.heap.size w w' := by
  unfold Pa.val
  obtain ⟨N, hN⟩ : ∃ N, N = w.heap.size := ⟨_, rfl⟩
  have HN := Lib.hid hN
  rw [← hN]
  clear hN
  go_enter Try.func11, Try.ntmps11
  go_upto_region 1 with fail
  refine wp_world (fun W => Blk W N #[.int .i64 0, .int .i64 0, .int .i64 0] 29 ∧ Below N w W) ⟨Blk.new' _ _ _ HN.out, (Below.refl _ _).alloc (by rw [HN.out]; exact Nat.le_refl _) _⟩ ?_
  rintro W0 ⟨b0, hB⟩
  rw [← HN.out]
  have hN0 := b0.lt
  go_upto_region 3 with fail
  obtain ⟨M, hM⟩ : ∃ M, M = W0.heap.size := ⟨_, rfl⟩
  have HM := Lib.hid hM
  rw [← hM]
  refine wp_world (fun W => Blk W N #[.int .i64 0, .int .i64 0, .int .i64 0] 29 ∧ Blk W M #[.int .i64 0, .int .i64 0, .int .i64 0] 29 ∧ Below N w W) ⟨b0.alloc _, Blk.new' _ _ _ HM.out, hB.alloc (by omega) _⟩ ?_
  clear b0 hB hM
  rintro W1 ⟨b0, b1, hB⟩
  go_wp2_with (first | (refine wpList_load_row rfl 29 _ rfl M rfl 29 _ _ _ b1 Try.underlying29 rfl (by kernel_rfl) ?_) | (refine wpList_store_row rfl 29 _ _ rfl N _ rfl rfl 29 _ b0 (by kernel_rfl) rfl (by simp [Value.oneCell']) ?_))
  refine bodyPost_ret (results_row_tmp rfl _ _ N 29 _ _ rfl (b0.row _) Try.underlying29 rfl (by kernel_rfl)) rfl ?_
  exact ⟨rfl, Below.setRow hB (Nat.le_refl _) _⟩
theorem past_oldest_nil (w : World) : Calls Try.prog 20 #[.pointer none] w fun e w' => e = .returned (.tuple #[Pa.val (0, 0, 0), .bool false]) ∧ Below w.heap.size w w' := by
  unfold Pa.val
  obtain ⟨N, hN⟩ : ∃ N, N = w.heap.size := ⟨_, rfl⟩
  have HN := Lib.hid hN
  rw [← hN]
  clear hN
  go_enter Try.func20, Try.ntmps20
  go_upto_region 1 with fail
  refine wp_world (fun W => Blk W N #[.int .i64 0, .int .i64 0, .int .i64 0] 29 ∧ Below N w W) ⟨Blk.new' _ _ _ HN.out, (Below.refl _ _).alloc (by rw [HN.out]; exact Nat.le_refl _) _⟩ ?_
  rintro W0 ⟨b0, hB⟩
  rw [← HN.out]
  have hN0 := b0.lt
  go_upto_region 3 with fail
  obtain ⟨M, hM⟩ : ∃ M, M = W0.heap.size := ⟨_, rfl⟩
  have HM := Lib.hid hM
  rw [← hM]
  refine wp_world (fun W => Blk W N #[.int .i64 0, .int .i64 0, .int .i64 0] 29 ∧ Blk W M #[.int .i64 0, .int .i64 0, .int .i64 0] 29 ∧ Below N w W) ⟨b0.alloc _, Blk.new' _ _ _ HM.out, hB.alloc (by omega) _⟩ ?_
  clear b0 hB hM
  rintro W1 ⟨b0, b1, hB⟩
  go_wp2_with (first | (refine wpList_load_row rfl 29 _ rfl M rfl 29 _ _ _ b1 Try.underlying29 rfl (by kernel_rfl) ?_) | (refine wpList_store_row rfl 29 _ _ rfl N _ rfl rfl 29 _ b0 (by kernel_rfl) rfl (by simp [Value.oneCell']) ?_))
  refine bodyPost_ret (results_row_tmp rfl _ _ N 29 _ _ rfl (b0.row _) Try.underlying29 rfl (by kernel_rfl)) rfl ?_
  exact ⟨rfl, Below.setRow hB (Nat.le_refl _) _⟩
theorem past_oldest0 (b most : Nat) (u : Value) (w : World) (h : Pa.At w b most u []) : Calls Try.prog 20 #[.pointer (some ⟨b, 0, none⟩)] w fun e w' => e = .returned (.tuple #[Pa.val (0, 0, 0), .bool false]) ∧ Below w.heap.size w w' := by
  obtain ⟨bu, cu, rfl⟩ := h.row.len
  unfold Pa.val
  obtain ⟨N, hN⟩ : ∃ N, N = w.heap.size := ⟨_, rfl⟩
  have HN := Lib.hid hN
  have hbN : b < N := by rw [hN]; exact h.box.lt
  rw [← hN]
  clear hN
  go_enter Try.func20, Try.ntmps20
  go_upto_region 1 with fail
  refine wp_world (fun W => Blk W N #[.int .i64 0, .int .i64 0, .int .i64 0] 29 ∧ Below N w W) ⟨Blk.new' _ _ _ HN.out, (Below.refl _ _).alloc (by rw [HN.out]; exact Nat.le_refl _) _⟩ ?_
  rintro W0 ⟨b0, hB⟩
  rw [← HN.out]
  have hN0 := b0.lt
  have q1 := (h.box.below hB hbN).cell 1
  go_upto_region 3 with fail
  obtain ⟨M, hM⟩ : ∃ M, M = W0.heap.size := ⟨_, rfl⟩
  have HM := Lib.hid hM
  rw [← hM]
  refine wp_world (fun W => Blk W N #[.int .i64 0, .int .i64 0, .int .i64 0] 29 ∧ Blk W M #[.int .i64 0, .int .i64 0, .int .i64 0] 29 ∧ Below N w W) ⟨b0.alloc _, Blk.new' _ _ _ HM.out, hB.alloc (by omega) _⟩ ?_
  clear b0 hB hM
  rintro W1 ⟨b0, b1, hB⟩
  go_wp2_with (first | (refine wpList_load_row rfl 29 _ rfl M rfl 29 _ _ _ b1 Try.underlying29 rfl (by kernel_rfl) ?_) | (refine wpList_store_row rfl 29 _ _ rfl N _ rfl rfl 29 _ b0 (by kernel_rfl) rfl (by simp [Value.oneCell']) ?_))
  refine bodyPost_ret (results_row_tmp rfl _ _ N 29 _ _ rfl (b0.row _) Try.underlying29 rfl (by kernel_rfl)) rfl ?_
  exact ⟨rfl, Below.setRow hB (Nat.le_refl _) _⟩
theorem past_first_nil (w : World) : Calls Try.prog 23 #[.pointer none] w fun e w' => e = .returned (.tuple #[Pa.val (0, 0, 0), .bool false]) ∧ Below w.heap.size w w' := by
  unfold Pa.val
  obtain ⟨N, hN⟩ : ∃ N, N = w.heap.size := ⟨_, rfl⟩
  have HN := Lib.hid hN
  rw [← hN]
  clear hN
  go_enter Try.func23, Try.ntmps23
  go_upto_region 1 with fail
  refine wp_world (fun W => Blk W N #[.int .i64 0, .int .i64 0, .int .i64 0] 29 ∧ Below N w W) ⟨Blk.new' _ _ _ HN.out, (Below.refl _ _).alloc (by rw [HN.out]; exact Nat.le_refl _) _⟩ ?_
  rintro W0 ⟨b0, hB⟩
  rw [← HN.out]
  have hN0 := b0.lt
  go_upto_region 3 with fail
  obtain ⟨M, hM⟩ : ∃ M, M = W0.heap.size := ⟨_, rfl⟩
  have HM := Lib.hid hM
  rw [← hM]
  refine wp_world (fun W => Blk W N #[.int .i64 0, .int .i64 0, .int .i64 0] 29 ∧ Blk W M #[.int .i64 0, .int .i64 0, .int .i64 0] 29 ∧ Below N w W) ⟨b0.alloc _, Blk.new' _ _ _ HM.out, hB.alloc (by omega) _⟩ ?_
  clear b0 hB hM
  rintro W1 ⟨b0, b1, hB⟩
  go_wp2_with (first | (refine wpList_load_row rfl 29 _ rfl M rfl 29 _ _ _ b1 Try.underlying29 rfl (by kernel_rfl) ?_) | (refine wpList_store_row rfl 29 _ _ rfl N _ rfl rfl 29 _ b0 (by kernel_rfl) rfl (by simp [Value.oneCell']) ?_))
  refine bodyPost_ret (results_row_tmp rfl _ _ N 29 _ _ rfl (b0.row _) Try.underlying29 rfl (by kernel_rfl)) rfl ?_
  exact ⟨rfl, Below.setRow hB (Nat.le_refl _) _⟩
theorem past_first0 (b most : Nat) (u : Value) (w : World) (h : Pa.At w b most u []) : Calls Try.prog 23 #[.pointer (some ⟨b, 0, none⟩)] w fun e w' => e = .returned (.tuple #[Pa.val (0, 0, 0), .bool false]) ∧ Below w.heap.size w w' := by
  obtain ⟨bu, cu, rfl⟩ := h.row.len
  unfold Pa.val
  obtain ⟨N, hN⟩ : ∃ N, N = w.heap.size := ⟨_, rfl⟩
  have HN := Lib.hid hN
  have hbN : b < N := by rw [hN]; exact h.box.lt
  rw [← hN]
  clear hN
  go_enter Try.func23, Try.ntmps23
  go_upto_region 1 with fail
  refine wp_world (fun W => Blk W N #[.int .i64 0, .int .i64 0, .int .i64 0] 29 ∧ Below N w W) ⟨Blk.new' _ _ _ HN.out, (Below.refl _ _).alloc (by rw [HN.out]; exact Nat.le_refl _) _⟩ ?_
  rintro W0 ⟨b0, hB⟩
  rw [← HN.out]
  have hN0 := b0.lt
  have q1 := (h.box.below hB hbN).cell 1
  go_upto_region 3 with fail
  obtain ⟨M, hM⟩ : ∃ M, M = W0.heap.size := ⟨_, rfl⟩
  have HM := Lib.hid hM
  rw [← hM]
  refine wp_world (fun W => Blk W N #[.int .i64 0, .int .i64 0, .int .i64 0] 29 ∧ Blk W M #[.int .i64 0, .int .i64 0, .int .i64 0] 29 ∧ Below N w W) ⟨b0.alloc _, Blk.new' _ _ _ HM.out, hB.alloc (by omega) _⟩ ?_
  clear b0 hB hM
  rintro W1 ⟨b0, b1, hB⟩
  go_wp2_with (first | (refine wpList_load_row rfl 29 _ rfl M rfl 29 _ _ _ b1 Try.underlying29 rfl (by kernel_rfl) ?_) | (refine wpList_store_row rfl 29 _ _ rfl N _ rfl rfl 29 _ b0 (by kernel_rfl) rfl (by simp [Value.oneCell']) ?_))
  refine bodyPost_ret (results_row_tmp rfl _ _ N 29 _ _ rfl (b0.row _) Try.underlying29 rfl (by kernel_rfl)) rfl ?_
  exact ⟨rfl, Below.setRow hB (Nat.le_refl _) _⟩
theorem past_len_nil (w : World) : Calls Try.prog 12 #[.pointer none] w fun e w' => e = .returned (.int .i64 0) ∧ w = w' := by
  go_enter Try.func12, Try.ntmps12
  go_wp2_with fail
  go_ret
  exact ⟨rfl, rfl⟩
theorem past_drop_nil (w : World) : Calls Try.prog 18 #[.pointer none] w fun e w' => e = .returned (.bool false) ∧ Below w.heap.size w w' := by
  go_enter Try.func18, Try.ntmps18
  go_wp2_with (first | (go_at_call 23; refine (past_first_nil w).mono ?_; rintro e w1 ⟨rfl, hB⟩; simp only [Pa.val]))
  go_ret
  exact ⟨rfl, hB.alloc hB.size _⟩
theorem past_drop0 (b most : Nat) (u : Value) (w : World) (h : Pa.At w b most u []) : Calls Try.prog 18 #[.pointer (some ⟨b, 0, none⟩)] w fun e w' => e = .returned (.bool false) ∧ Below w.heap.size w w' := by
  go_enter Try.func18, Try.ntmps18
  go_wp2_with (first | (go_at_call 23; refine (past_first0 b most u w h).mono ?_; rintro e w1 ⟨rfl, hB⟩; simp only [Pa.val]))
  go_ret
  exact ⟨rfl, hB.alloc hB.size _⟩
theorem past_drop (b most : Nat) (u : Value) (x : Pa.Ent) (l : List Pa.Ent) (hl : l.length ≤ 100000) (w : World) (h : Pa.At w b most u (x :: l)) : Calls Try.prog 18 #[.pointer (some ⟨b, 0, none⟩)] w fun e w' => e = .returned (.bool true) ∧ ∃ u', Pa.At w' b most u' l ∧ Chg (Pa.May b u) w w' ∧ ∀ g, u'.ownBlock = some g → w.heap.size ≤ g := by
  go_enter Try.func18, Try.ntmps18
  go_wp2_with (first | (go_at_call 23; refine (past_first b most u x l hl w h).mono ?_; rintro e w1 ⟨rfl, u', hA, hC, hu⟩; simp only [Pa.val]))
  go_ret
  exact ⟨rfl, u', hA.below ((Below.refl _ _).alloc (Nat.le_refl _) _), hC.trans (Chg.of_below (B := Pa.May b u) ((Below.refl _ _).alloc (Nat.le_refl _) _)) (fun _ _ h => h), hu⟩
end Go.Proofs.Ytcdfamllamjpeaa
