/- What any turn does to any block is the reference's. -/
import Derived.Test.YtcdfamllamjpeaaDoorRBlock
import Derived.Test.YtcdfamllamjpeaaDoorTurnName
import Derived.Test.YtcdfamllamjpeaaDoorDet2
import Derived.Test.YtcdfamllamjpeaaDoorOpen
import Derived.Test.YtcdfamllamjpeaaDoorRows
namespace Go.Proofs.YtcdfamllamjpeaaDoor
open Go.RowKit Go.ChangeShapes

theorem Tu.Named.below {w w' : World} {B : Nat} (h : Tu.Named w) (hb : Below B w w') (hB : 0 < B) : Tu.Named w' := fun i hi => (hb.cell (p := ⟨0, i, none⟩) hB).trans (h i hi)
theorem Tu.Named.lt {w : World} (h : Tu.Named w) : 0 < w.heap.size := World.block_lt_of_cell? w _ (h 0 (by omega))
namespace turnBlocks
set_option maxRecDepth 100000 in
set_option maxHeartbeats 2000000 in
theorem walk (k : Int) (xs : List Int) (hx : xs.length = 64) (hb : ∀ i, -32768 ≤ xs.getD i 0 ∧ xs.getD i 0 ≤ 32767) (w : World) (hw : Tu.Named w) :
    Calls Tryd.prog 7 #[.int .i64 k, .agg (ints .i16 xs)] w fun e w' => e = .returned (.bool true) ∧ Below w.heap.size w w' := by
  obtain ⟨N, hN⟩ : ∃ N, N = w.heap.size := ⟨_, rfl⟩
  have HN := Lib.hid hN
  have HNn : 0 < N := by rw [hN]; exact hw.lt
  rw [← hN]
  clear hN
  go_enter Tryd.func7, Tryd.ntmps7
  go_wp2_with fail
  refine wp_region_det (fun W => Blk W N (ints .i16 xs) 47 ∧ Below N w W ∧ Tu.Named W) (by kernel_rfl) (by kernel_rfl) ?_ ?_
  · have h2 : Below N w (w.alloc (Obj.cells (ints IntKind.i16 xs) 47)) := (Below.refl _ _).alloc (by rw [HN.out]; exact Nat.le_refl _) _
    exact ⟨(Blk.new' _ _ _ HN.out).drew, h2.drew, (hw.below h2 HNn).drewN 1⟩
  rw [← HN.out]
  refine det_call (v := .bool true) (by rfl) (by intro wS hS; go_simp; first | done | exact ⟨rfl, rfl⟩) (fun W hS => ?_) ?_
  · exact (awake17 W hS.2.2).mono fun e w' h => by obtain ⟨rfl, rfl⟩ := h; exact ⟨rfl, hS⟩
  simp only [Act.put, List.setIfInBounds_toArray, List.set_cons_zero, List.set_cons_succ]
  (first | (refine det_skip (by rfl) ?_; simp only [Act.put, List.setIfInBounds_toArray, List.set_cons_zero, List.set_cons_succ]) | (refine det_pure (v := ?_) (by rfl) ?_ ?_; rotate_left; (intro wS hS; go_simp; try with_reducible rfl); simp only [Act.put, List.setIfInBounds_toArray, List.set_cons_zero, List.set_cons_succ]))
  (first | (refine det_skip (by rfl) ?_; simp only [Act.put, List.setIfInBounds_toArray, List.set_cons_zero, List.set_cons_succ]) | (refine det_pure (v := ?_) (by rfl) ?_ ?_; rotate_left; (intro wS hS; go_simp; try with_reducible rfl); simp only [Act.put, List.setIfInBounds_toArray, List.set_cons_zero, List.set_cons_succ]))
  refine det_load_row (by rfl) 47 _ rfl N rfl 47 (ints .i16 xs) _ (fun _ h => h.1) Tryd.underlying47 rfl (by rw [ints_size, hx]; kernel_rfl) ?_
  simp only [Act.put, List.setIfInBounds_toArray, List.set_cons_zero, List.set_cons_succ]
  refine det_call (v := .agg (ints .i16 (Tu.block k xs))) (by rfl) (by intro wS hS; go_simp; first | done | exact ⟨rfl, rfl⟩) (fun W hS => ?_) ?_
  · exact (block_any k xs hx W).mono fun e w' h => by obtain ⟨rfl, h2⟩ := h; exact ⟨rfl, hS.1.below h2 hS.1.lt, hS.2.1.trans (h2.mono (by rw [HN.out]; exact hS.2.1.size)), hS.2.2.below h2 hS.2.2.lt⟩
  simp only [Act.put, List.setIfInBounds_toArray, List.set_cons_zero, List.set_cons_succ]
  (first | (refine det_skip (by rfl) ?_; simp only [Act.put, List.setIfInBounds_toArray, List.set_cons_zero, List.set_cons_succ]) | (refine det_pure (v := ?_) (by rfl) ?_ ?_; rotate_left; (intro wS hS; go_simp; try with_reducible rfl); simp only [Act.put, List.setIfInBounds_toArray, List.set_cons_zero, List.set_cons_succ]))
  refine det_load_row (by rfl) 47 _ rfl N rfl 47 (ints .i16 xs) _ (fun _ h => h.1) Tryd.underlying47 rfl (by rw [ints_size, hx]; kernel_rfl) ?_
  simp only [Act.put, List.setIfInBounds_toArray, List.set_cons_zero, List.set_cons_succ]
  refine det_call (v := .agg (ints .i16 (Tu.block k xs))) (by rfl) (by intro wS hS; go_simp; first | done | exact ⟨rfl, rfl⟩) (fun W hS => ?_) ?_
  · exact (rblock_any k xs hx hb W).mono fun e w' h => by obtain ⟨rfl, h2⟩ := h; exact ⟨rfl, hS.1.below h2 hS.1.lt, hS.2.1.trans (h2.mono (by rw [HN.out]; exact hS.2.1.size)), hS.2.2.below h2 hS.2.2.lt⟩
  simp only [Act.put, List.setIfInBounds_toArray, List.set_cons_zero, List.set_cons_succ]
  refine det_pure (by rfl) (fun w1 _ => run_exec_eql_ints 47 _ _ _ rfl 45 64 .i16 (Tu.block k xs) (Tu.block k xs) rfl rfl Tryd.underlying47 Tryd.underlying45 (by kernel_rfl) (Tu.block_len _ _) (Tu.block_len _ _) (by kernel_rfl)) ?_
  rw [decide_eq_true (rfl : Tu.block k xs = Tu.block k xs)]
  simp only [Act.put, List.setIfInBounds_toArray, List.set_cons_zero, List.set_cons_succ]
  (first | (refine det_skip (by rfl) ?_; simp only [Act.put, List.setIfInBounds_toArray, List.set_cons_zero, List.set_cons_succ]) | (refine det_pure (v := ?_) (by rfl) ?_ ?_; rotate_left; (intro wS hS; go_simp; try with_reducible rfl); simp only [Act.put, List.setIfInBounds_toArray, List.set_cons_zero, List.set_cons_succ]))
  (first | (refine det_skip (by rfl) ?_; simp only [Act.put, List.setIfInBounds_toArray, List.set_cons_zero, List.set_cons_succ]) | (refine det_pure (v := ?_) (by rfl) ?_ ?_; rotate_left; (intro wS hS; go_simp; try with_reducible rfl); simp only [Act.put, List.setIfInBounds_toArray, List.set_cons_zero, List.set_cons_succ]))
  (first | (refine det_skip (by rfl) ?_; simp only [Act.put, List.setIfInBounds_toArray, List.set_cons_zero, List.set_cons_succ]) | (refine det_pure (v := ?_) (by rfl) ?_ ?_; rotate_left; (intro wS hS; go_simp; try with_reducible rfl); simp only [Act.put, List.setIfInBounds_toArray, List.set_cons_zero, List.set_cons_succ]))
  by_cases h0 : 0 ≤ k
  · have h0' : decide (0 ≤ k) = true := by simpa using h0
    by_cases h8 : k < 8
    · have h8' : decide (k < 8) = true := by simpa using h8
      refine det_call (v := .bool true) (by rfl) (by intro wS hS; go_simp; first | done | exact ⟨rfl, rfl⟩) (fun W hS => ?_) ?_
      · exact (right_yes k h0 h8 W).mono fun e w' h => by obtain ⟨rfl, rfl⟩ := h; exact ⟨rfl, hS⟩
      simp only [Act.put, List.setIfInBounds_toArray, List.set_cons_zero, List.set_cons_succ]
      (repeat (first | (refine det_skip (by rfl) ?_; simp only [Act.put, List.setIfInBounds_toArray, List.set_cons_zero, List.set_cons_succ]) | (refine det_pure (v := ?_) (by rfl) ?_ ?_; rotate_left; (intro wS hS; go_simp; try with_reducible rfl); simp only [Act.put, List.setIfInBounds_toArray, List.set_cons_zero, List.set_cons_succ])))
      rintro w1 ⟨_, hB, _⟩
      go_wp2_with fail
      go_ret
      exact ⟨rfl, hB⟩
    · have h8' : decide (k < 8) = false := by simpa using h8
      refine det_call (v := .bool false) (by rfl) (by intro wS hS; go_simp; first | done | exact ⟨rfl, rfl⟩) (fun W hS => ?_) ?_
      · exact (right_no k (by omega) W).mono fun e w' h => by obtain ⟨rfl, rfl⟩ := h; exact ⟨rfl, hS⟩
      simp only [Act.put, List.setIfInBounds_toArray, List.set_cons_zero, List.set_cons_succ]
      (repeat (first | (refine det_skip (by rfl) ?_; simp only [Act.put, List.setIfInBounds_toArray, List.set_cons_zero, List.set_cons_succ]) | (refine det_pure (v := ?_) (by rfl) ?_ ?_; rotate_left; (intro wS hS; go_simp; try with_reducible rfl); simp only [Act.put, List.setIfInBounds_toArray, List.set_cons_zero, List.set_cons_succ])))
      rintro w1 ⟨_, hB, _⟩
      go_wp2_with fail
      go_ret
      exact ⟨rfl, hB⟩
  · have h0' : decide (0 ≤ k) = false := by simpa using h0
    refine det_call (v := .bool false) (by rfl) (by intro wS hS; go_simp; first | done | exact ⟨rfl, rfl⟩) (fun W hS => ?_) ?_
    · exact (right_no k (by omega) W).mono fun e w' h => by obtain ⟨rfl, rfl⟩ := h; exact ⟨rfl, hS⟩
    simp only [Act.put, List.setIfInBounds_toArray, List.set_cons_zero, List.set_cons_succ]
    (repeat (first | (refine det_skip (by rfl) ?_; simp only [Act.put, List.setIfInBounds_toArray, List.set_cons_zero, List.set_cons_succ]) | (refine det_pure (v := ?_) (by rfl) ?_ ?_; rotate_left; (intro wS hS; go_simp; try with_reducible rfl); simp only [Act.put, List.setIfInBounds_toArray, List.set_cons_zero, List.set_cons_succ])))
    rintro w1 ⟨_, hB, _⟩
    go_wp2_with fail
    go_ret
    exact ⟨rfl, hB⟩
end turnBlocks
theorem i16_bounds {xs : List Int} (h : ∀ y ∈ xs, (Lit.int .i16 y).wf = true) (i : Nat) : -32768 ≤ xs.getD i 0 ∧ xs.getD i 0 ≤ 32767 := by
  have := wf_getD h (by decide) i
  generalize xs.getD i 0 = x at *
  simp [Lit.wf, IntKind.min, IntKind.max, IntKind.signed, IntKind.bits] at this
  omega
theorem turnBlocks.core (k : Int) (xs : List Int) (_wk : (Lit.int .i64 k).wf = true) (hx : xs.length = 64) (wx : ∀ y ∈ xs, (Lit.int .i16 y).wf = true) (W : World) (hL : laidMetH Tryd.prog Rows.turnBlocksRow.laid W) :
    Calls Tryd.prog 7 #[.int .i64 k, .agg (ints .i16 xs)] W fun e w' => e = .returned (.bool true) ∧ Below W.heap.size W w' :=
  turnBlocks.walk k xs hx (i16_bounds wx) W (Tu.named_of hL)
end Go.Proofs.YtcdfamllamjpeaaDoor
