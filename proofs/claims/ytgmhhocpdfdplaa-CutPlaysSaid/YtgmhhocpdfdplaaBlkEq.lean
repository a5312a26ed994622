/- slices.Equal of blocks; package plane's Same. -/
import Derived.Test.YtgmhhocpdfdplaaBlkA
import Derived.Test.YtgmhhocpdfdplaaGA
namespace Go.Proofs.Ytgmhhocpdfdplaa
open Go.RowKit
set_option maxRecDepth 100000
theorem blk_getL {ys : List (List Int)} {i : Nat} (h : i < ys.length) : ys[i] = Pl.blk ys i := by
  rw [← Pl.blk_get h, List.getD_eq_getElem?_getD, List.getElem?_eq_getElem h]
  rfl
set_option maxHeartbeats 2000000 in
theorem blocks_equal (u v : Value) (xs ys : List (List Int)) (ha64 : Right64 xs) (hb64 : Right64 ys) (w : World) (hA : Ar w 64 u xs.length (bcells xs)) (hB : Ar w 64 v ys.length (bcells ys)) (hn : xs.length ≤ 9223372036854775806) :
    Calls Try.prog 144 #[u, v] w fun e w' => e = .returned (.bool (decide (xs = ys))) ∧ Below w.heap.size w w' := by
  obtain ⟨au, ca, rfl, _, _⟩ := hA.len
  obtain ⟨bv, cb, rfl, _, _⟩ := hB.len
  by_cases hl : xs.length = ys.length
  · rw [← hl] at hB ⊢
    have HL := Lib.hid hl
    clear hl
    go_enter Try.func144, Try.ntmps144
    go_wp2_with fail
    go_loopw [13] (fun i wr => ∃ j : Nat, j ≤ xs.length ∧ i = .int .i64 j ∧ Below w.heap.size w wr ∧ ∀ k, k < j → Pl.blk xs k = Pl.blk ys k) (fun i _ => xs.length - (intOf i).toNat)
    case atStart => exact ⟨0, Nat.zero_le _, rfl, Below.refl _ _, fun k hk => absurd hk (by omega)⟩
    case round =>
      obtain ⟨j, hj, rfl, hb, hE⟩ := hrel
      by_cases hlt : j < xs.length
      · have tj : decide ((j : Int) < (xs.length : Int)) = true := by simpa using hlt
        have hlt2 : j < ys.length := by rw [← HL.out]; exact hlt
        have hA' := hA.below hb
        have hB' := hB.below hb
        obtain ⟨ad, ca', he, _, _⟩ := hA'.some (by omega)
        obtain ⟨rfl, rfl⟩ : au = some ad ∧ ca = ca' := by simpa using he
        obtain ⟨bd, cb', he2, _, _⟩ := hB'.some (by omega)
        obtain ⟨rfl, rfl⟩ : bv = some bd ∧ cb = cb' := by simpa using he2
        have hj0 : (0 : Int) ≤ (j : Int) := by omega
        have hj1 : (j : Int) < (xs.length : Int) := by omega
        have hB2 : Ar wr 64 (.slice (some bd) ys.length cb) ys.length (bcells ys) := by have h := hB'; rw [HL.out] at h; exact h
        go_upto_region 6 with fail
        refine wp_region_det (fun W => Below wr.heap.size wr W) (by kernel_rfl) (by kernel_rfl) (Below.refl _ _).drew ?_
        (repeat (first | (refine det_skip (by rfl) ?_; simp only [Act.put, List.setIfInBounds_toArray, List.set_cons_zero, List.set_cons_succ]) | (refine det_pure (v := ?_) (by rfl) ?_ ?_; rotate_left; (intro wS hS; go_simp; try with_reducible rfl); simp only [Act.put, List.setIfInBounds_toArray, List.set_cons_zero, List.set_cons_succ])))
        refine det_pure (by rfl) (fun w1 hS => ar_loadx (hA'.below hS) ha64 j hlt _ (Pl.blk_get hlt) _ rfl rfl) ?_
        simp only [Act.put, List.setIfInBounds_toArray, List.set_cons_zero, List.set_cons_succ]
        (repeat (first | (refine det_skip (by rfl) ?_; simp only [Act.put, List.setIfInBounds_toArray, List.set_cons_zero, List.set_cons_succ]) | (refine det_pure (v := ?_) (by rfl) ?_ ?_; rotate_left; (intro wS hS; go_simp; try with_reducible rfl); simp only [Act.put, List.setIfInBounds_toArray, List.set_cons_zero, List.set_cons_succ])))
        refine det_pure (by rfl) (fun w1 hS => ar_loadx (hB2.below hS) hb64 j hlt2 _ (Pl.blk_get hlt2) _ rfl rfl) ?_
        simp only [Act.put, List.setIfInBounds_toArray, List.set_cons_zero, List.set_cons_succ]
        refine det_pure (by rfl) (fun w1 _ => run_exec_neq_ints 57 _ _ _ rfl 55 64 .i16 (Pl.blk xs j) (Pl.blk ys j) rfl rfl Try.underlying57 Try.underlying55 (by kernel_rfl) (Pl.blk_len ha64 j) (Pl.blk_len hb64 j) (by kernel_rfl)) ?_
        simp only [Act.put, List.setIfInBounds_toArray, List.set_cons_zero, List.set_cons_succ]
        refine det_nil ?_
        intro W2 hb2
        by_cases he : Pl.blk xs j = Pl.blk ys j
        · rw [decide_eq_true he]
          go_wp2_with fail
          exact ⟨⟨j + 1, by omega, by go_num, hb.trans (hb2.mono hb.size), fun k hk => by
            by_cases hkj : k = j
            · rw [hkj]; exact he
            · exact hE k (by omega)⟩, by simp [intOf]; omega⟩
        · rw [decide_eq_false he]
          have : ¬ xs = ys := fun h => he (by rw [h])
          go_wp2_with fail
          go_ret
          simp only [this, decide_false]
          exact ⟨rfl, hb.trans (hb2.mono hb.size)⟩
      · have tj : decide ((j : Int) < (xs.length : Int)) = false := by simpa using hlt
        obtain rfl : j = xs.length := by omega
        go_wp2_with fail
        go_ret
        have : xs = ys := List.ext_getElem HL.out (fun i h1 h2 => by rw [blk_getL h1, blk_getL h2]; exact hE i h1)
        subst this
        simp only [decide_true]
        exact ⟨rfl, hb⟩
  · have tl : decide ((xs.length : Int) = (ys.length : Int)) = false := by simp; omega
    have : ¬ xs = ys := fun h => hl (by rw [h])
    go_enter Try.func144, Try.ntmps144
    go_wp2_with fail
    go_ret
    simp only [this, decide_false]
    exact ⟨rfl, Below.refl _ _⟩
theorem plane_same (c r c2 r2 : Int) (u v : Value) (xs ys : List (List Int)) (ha64 : Right64 xs) (hb64 : Right64 ys) (w : World) (hA : Ar w 64 u xs.length (bcells xs)) (hB : Ar w 64 v ys.length (bcells ys)) (hn : xs.length ≤ 9223372036854775806) :
    Calls Try.prog 129 #[.agg #[.int .i64 c, .int .i64 r, u], .agg #[.int .i64 c2, .int .i64 r2, v]] w fun e w' => e = .returned (.bool (decide (c = c2 ∧ r = r2 ∧ xs = ys))) ∧ Below w.heap.size w w' := by
  obtain ⟨au, ca, rfl, _, _⟩ := hA.len
  obtain ⟨bv, cb, rfl, _, _⟩ := hB.len
  obtain ⟨N, hN⟩ : ∃ N, N = w.heap.size := ⟨_, rfl⟩
  have HN := Lib.hid hN
  rw [← hN]
  clear hN
  go_enter Try.func129, Try.ntmps129
  go_upto_region 1 with fail
  refine wp_world (fun W => Blk W N #[.int .i64 c, .int .i64 r, .slice au xs.length ca] 61 ∧ Blk W (N + 1) #[.int .i64 c2, .int .i64 r2, .slice bv ys.length cb] 61 ∧ Below N w W ∧ N ≤ W.heap.size) ?_ ?_
  · rw [HN.out]
    exact ⟨(Blk.new _ _ _).alloc _, Blk.new' _ _ _ (by simp), ((Below.refl _ _).alloc (Nat.le_refl _) _).alloc (by simp) _, by simp; omega⟩
  have hhN := HN.out
  rw [← hhN]
  clear hhN
  rintro W0 ⟨b0, b1, hB0, hN0⟩
  have q0 := b0.cell 0
  have q1 := b0.cell 1
  have q2 := b0.cell 2
  have p0 := b1.cell 0
  have p1 := b1.cell 1
  have p2 := b1.cell 2
  have heq := blocks_equal _ _ xs ys ha64 hb64 W0 (hA.below (by rw [← HN.out]; exact hB0)) (hB.below (by rw [← HN.out]; exact hB0)) hn
  by_cases h1 : c = c2
  · by_cases h2 : r = r2
    · subst h1 h2
      go_wp2_with (go_at_call 144; refine heq.mono ?_; rintro e w1 ⟨rfl, hb1⟩)
      go_ret
      exact ⟨rfl, hB0.trans (hb1.mono hN0)⟩
    · have t2 : decide (r = r2) = false := by simpa using h2
      subst h1
      go_wp2_with fail
      go_ret
      exact ⟨by simp, hB0⟩
  · have t1 : decide (c = c2) = false := by simpa using h1
    go_wp2_with fail
    go_ret
    exact ⟨by simp [h1], hB0⟩
end Go.Proofs.Ytgmhhocpdfdplaa
