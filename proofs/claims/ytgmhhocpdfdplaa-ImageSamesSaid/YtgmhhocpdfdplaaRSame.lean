/- The reference's Same of planes, walked. -/
import Derived.Test.YtgmhhocpdfdplaaBlkEq
namespace Go.Proofs.Ytgmhhocpdfdplaa
open Go.RowKit
set_option maxRecDepth 100000
set_option maxHeartbeats 4000000
theorem ref_same (c r c2 r2 : Int) (u v : Value) (xs ys : List (List Int)) (ha64 : Right64 xs) (hb64 : Right64 ys) (w : World) (hA : Ar w 64 u xs.length (bcells xs)) (hB : Ar w 64 v ys.length (bcells ys)) (hn : xs.length ≤ 9223372036854775806) :
    Calls Try.prog 82 #[.agg #[.int .i64 c, .int .i64 r, u], .agg #[.int .i64 c2, .int .i64 r2, v]] w fun e w' => e = .returned (.bool (decide (c = c2 ∧ r = r2 ∧ xs = ys))) ∧ Below w.heap.size w w' := by
  obtain ⟨au, ca, rfl, -, -⟩ := hA.len
  obtain ⟨bv, cb, rfl, -, -⟩ := hB.len
  obtain ⟨N, hN⟩ : ∃ N, N = w.heap.size := ⟨_, rfl⟩
  have HN := Lib.hid hN
  rw [← hN]
  clear hN
  go_enter Try.func82, Try.ntmps82
  go_upto_region 1 with fail
  refine wp_world (fun W => (Blk W N #[.int .i64 c, .int .i64 r, .slice au xs.length ca] 61 ∧ Blk W (N + 1) #[.int .i64 c2, .int .i64 r2, .slice bv ys.length cb] 61) ∧ Below N w W) ?_ ?_
  · rw [HN.out]
    exact ⟨⟨(Blk.new _ _ _).alloc _, Blk.new' _ _ _ (by simp)⟩, ((Below.refl _ _).alloc (Nat.le_refl _) _).alloc (by simp) _⟩
  have hhN := HN.out
  rw [← hhN]
  clear hhN
  rintro W0 ⟨⟨b0, b1⟩, hB0⟩
  have q0 := b0.cell 0
  have q1 := b0.cell 1
  have q2 := b0.cell 2
  have p0 := b1.cell 0
  have p1 := b1.cell 1
  have p2 := b1.cell 2
  by_cases h1 : c = c2
  · by_cases h2 : r = r2
    · subst h1 h2
      by_cases hl : xs.length = ys.length
      · have HL := Lib.hid hl
        rw [← hl] at hB b1 p2
        clear hl
        go_wp2_with fail
        go_loopw [5] (fun i wr => ∃ j : Nat, j ≤ xs.length ∧ i = .int .i64 j ∧ ((Blk wr N #[.int .i64 c, .int .i64 r, .slice au xs.length ca] 61 ∧ Blk wr (N + 1) #[.int .i64 c, .int .i64 r, .slice bv xs.length cb] 61) ∧ Below N w wr) ∧ ∀ k, k < j → Pl.blk xs k = Pl.blk ys k) (fun i _ => xs.length - (intOf i).toNat)
        case atStart => exact ⟨0, Nat.zero_le _, rfl, ⟨⟨b0, b1⟩, hB0⟩, fun k hk => absurd hk (by omega)⟩
        case round =>
          clear b0 b1 hB0 q0 q1 q2 p0 p1 p2
          obtain ⟨j, hj, rfl, ⟨⟨b0, b1⟩, hB0⟩, hE⟩ := hrel
          have q2 := b0.cell 2
          by_cases hlt : j < xs.length
          · have tj : decide (j < xs.length) = true := by simpa using hlt
            have hlt2 : j < ys.length := by rw [← HL.out]; exact hlt
            obtain ⟨ad, ca', he, -, -⟩ := hA.some (by omega)
            obtain ⟨rfl, rfl⟩ : au = some ad ∧ ca = ca' := by simpa using he
            obtain ⟨bd, cb', he2, -, -⟩ := hB.some (by omega)
            obtain ⟨rfl, rfl⟩ : bv = some bd ∧ cb = cb' := by simpa using he2
            have hj0 : (0 : Int) ≤ (j : Int) := by omega
            have hj1 : (j : Int) < (xs.length : Int) := by omega
            have hB2 : Ar w 64 (.slice (some bd) ys.length cb) ys.length (bcells ys) := by have h := hB; rw [HL.out] at h; exact h
            clear he he2
            go_upto_region 6 with fail
            refine wp_region_det (fun W => (Blk W N #[.int .i64 c, .int .i64 r, .slice (some ad) xs.length ca] 61 ∧ Blk W (N + 1) #[.int .i64 c, .int .i64 r, .slice (some bd) xs.length cb] 61) ∧ Below N w W) (by kernel_rfl) (by kernel_rfl) ⟨⟨b0.drew, b1.drew⟩, hB0.drew⟩ ?_
            clear b0 b1 hB0 q2
            (repeat (first | (refine det_skip (by rfl) ?_; simp only [Act.put, List.setIfInBounds_toArray, List.set_cons_zero, List.set_cons_succ]) | (refine det_pure (v := ?_) (by rfl) ?_ ?_; rotate_left; (intro wS hS; go_simp; try with_reducible rfl); simp only [Act.put, List.setIfInBounds_toArray, List.set_cons_zero, List.set_cons_succ])))
            refine det_pure (v := .slice (some ad) xs.length ca) (by rfl) (fun w1 hS => by have cy := hS.1.1.cell 2; go_simp; try with_reducible rfl) ?_
            simp only [Act.put, List.setIfInBounds_toArray, List.set_cons_zero, List.set_cons_succ]
            (repeat (first | (refine det_skip (by rfl) ?_; simp only [Act.put, List.setIfInBounds_toArray, List.set_cons_zero, List.set_cons_succ]) | (refine det_pure (v := ?_) (by rfl) ?_ ?_; rotate_left; (intro wS hS; go_simp; try with_reducible rfl); simp only [Act.put, List.setIfInBounds_toArray, List.set_cons_zero, List.set_cons_succ])))
            refine det_pure (by rfl) (fun w1 hS => ar_loadx (hA.below (by rw [← HN.out]; exact hS.2)) ha64 j hlt _ (Pl.blk_get hlt) _ rfl rfl) ?_
            simp only [Act.put, List.setIfInBounds_toArray, List.set_cons_zero, List.set_cons_succ]
            (repeat (first | (refine det_skip (by rfl) ?_; simp only [Act.put, List.setIfInBounds_toArray, List.set_cons_zero, List.set_cons_succ]) | (refine det_pure (v := ?_) (by rfl) ?_ ?_; rotate_left; (intro wS hS; go_simp; try with_reducible rfl); simp only [Act.put, List.setIfInBounds_toArray, List.set_cons_zero, List.set_cons_succ])))
            refine det_pure (v := .slice (some bd) xs.length cb) (by rfl) (fun w1 hS => by have cy := hS.1.2.cell 2; go_simp; try with_reducible rfl) ?_
            simp only [Act.put, List.setIfInBounds_toArray, List.set_cons_zero, List.set_cons_succ]
            (repeat (first | (refine det_skip (by rfl) ?_; simp only [Act.put, List.setIfInBounds_toArray, List.set_cons_zero, List.set_cons_succ]) | (refine det_pure (v := ?_) (by rfl) ?_ ?_; rotate_left; (intro wS hS; go_simp; try with_reducible rfl); simp only [Act.put, List.setIfInBounds_toArray, List.set_cons_zero, List.set_cons_succ])))
            refine det_pure (by rfl) (fun w1 hS => ar_loadx (hB2.below (by rw [← HN.out]; exact hS.2)) hb64 j hlt2 _ (Pl.blk_get hlt2) _ rfl rfl) ?_
            simp only [Act.put, List.setIfInBounds_toArray, List.set_cons_zero, List.set_cons_succ]
            refine det_pure (by rfl) (fun w1 _ => run_exec_neq_ints 57 _ _ _ rfl 55 64 .i16 (Pl.blk xs j) (Pl.blk ys j) rfl rfl Try.underlying57 Try.underlying55 (by kernel_rfl) (Pl.blk_len ha64 j) (Pl.blk_len hb64 j) (by kernel_rfl)) ?_
            simp only [Act.put, List.setIfInBounds_toArray, List.set_cons_zero, List.set_cons_succ]
            refine det_nil ?_
            rintro W2 ⟨⟨b0, b1⟩, hB0⟩
            by_cases he : Pl.blk xs j = Pl.blk ys j
            · rw [decide_eq_true he]
              go_wp2_with fail
              exact ⟨⟨j + 1, by omega, by go_num, ⟨⟨b0, b1⟩, hB0⟩, fun k hk => by
                by_cases hkj : k = j
                · rw [hkj]; exact he
                · exact hE k (by omega)⟩, by simp [intOf]; omega⟩
            · rw [decide_eq_false he]
              have : ¬ xs = ys := fun h => he (by rw [h])
              go_wp2_with fail
              go_ret
              exact ⟨rfl, hB0⟩
          · have tj : decide (j < xs.length) = false := by simpa using hlt
            obtain rfl : j = xs.length := by omega
            go_wp2_with fail
            go_ret
            have : xs = ys := List.ext_getElem HL.out (fun i h1 h2 => by rw [blk_getL h1, blk_getL h2]; exact hE i h1)
            subst this
            simp only [decide_true]
            exact ⟨rfl, hB0⟩
      · have tl : decide ((xs.length : Int) = (ys.length : Int)) = false := by simp; omega
        have : ¬ xs = ys := fun h => hl (by rw [h])
        go_wp2_with fail
        go_ret
        exact ⟨rfl, hB0⟩
    · have t2 : decide (r = r2) = false := by simpa using h2
      subst h1
      go_wp2_with fail
      go_ret
      exact ⟨by simp, hB0⟩
  · have t1 : decide (c = c2) = false := by simpa using h1
    go_wp2_with fail
    go_ret
    exact ⟨by simp [h1], hB0⟩
end Go.Proofs.Ytgmhhocpdfdplaa
