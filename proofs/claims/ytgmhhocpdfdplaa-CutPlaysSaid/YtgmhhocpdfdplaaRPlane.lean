/- The reference's small functions on planes: Sized, Right. -/
import Derived.Test.YtgmhhocpdfdplaaGB
namespace Go.Proofs.Ytgmhhocpdfdplaa
open Go.RowKit
set_option maxRecDepth 100000
set_option maxHeartbeats 2000000
theorem ref_sized (c r : Int) (w : World) : Calls Try.prog 125 #[.int .i64 c, .int .i64 r] w fun e w' => e = .returned (.int .i64 (Pl.sized c r)) ∧ w = w' := by
  unfold Pl.sized
  by_cases h1 : c < 1
  · have t1 : decide (c < 1) = true := by simpa using h1
    rw [if_pos (.inl h1)]
    go_enter Try.func125, Try.ntmps125
    go_wp2_with fail
    go_ret
    exact ⟨rfl, rfl⟩
  · have t1 : decide (c < 1) = false := by simpa using h1
    by_cases h2 : r < 1
    · have t2 : decide (r < 1) = true := by simpa using h2
      rw [if_pos (.inr h2)]
      go_enter Try.func125, Try.ntmps125
      go_wp2_with fail
      go_ret
      exact ⟨rfl, rfl⟩
    · have t2 : decide (r < 1) = false := by simpa using h2
      rw [if_neg (by omega)]
      by_cases h3 : 16384 < c
      · have t3 : decide (16384 < c) = true := by simpa using h3
        rw [if_pos (.inl h3)]
        go_enter Try.func125, Try.ntmps125
        go_wp2_with fail
        go_ret
        exact ⟨rfl, rfl⟩
      · have t3 : decide (16384 < c) = false := by simpa using h3
        have hq : 16384 / c < r ↔ 16384 < r * c := Int.ediv_lt_iff_lt_mul (by omega)
        by_cases h5 : 16384 < r
        · have t5 : decide (16384 < r) = true := by simpa using h5
          have h4 : 16384 / c < r := by
            have := Int.ediv_le_self (a := 16384) c (by omega)
            omega
          rw [if_pos (.inr h4)]
          clear hq h4
          go_enter Try.func125, Try.ntmps125
          go_wp2_with fail
          go_ret
          exact ⟨rfl, rfl⟩
        · have t5 : decide (16384 < r) = false := by simpa using h5
          obtain ⟨z, hz⟩ : ∃ z, c * r = z := ⟨_, rfl⟩
          rw [Int.mul_comm, hz] at hq
          have hz0 : 0 ≤ z := by rw [← hz]; exact Int.mul_nonneg (by omega) (by omega)
          have hz1 : z ≤ 16384 * 16384 := by rw [← hz]; exact Int.mul_le_mul (by omega) (by omega) (by omega) (by omega)
          have hzw : wrap64 z = z := IntWalk.wrap64_in _ (by omega)
          have e : (16384 < c ∨ 16384 / c < r) ↔ 16384 < z := ⟨fun h => h.elim (fun h => absurd h h3) hq.1, fun h => .inr (hq.2 h)⟩
          by_cases h6 : 16384 < z
          · rw [if_pos (e.2 h6)]
            have t6 : decide (16384 < z) = true := by simpa using h6
            clear hq e
            go_enter Try.func125, Try.ntmps125
            go_wp2_with fail
            go_ret
            exact ⟨rfl, rfl⟩
          · rw [if_neg (fun h => h6 (e.1 h))]
            have t6 : decide (16384 < z) = false := by simpa using h6
            clear hq e
            go_enter Try.func125, Try.ntmps125
            go_wp2_with fail
            go_ret
            exact ⟨rfl, rfl⟩
theorem ref_right (c r : Int) (n : Nat) (b : Option Addr) (cap : Nat) (w : World) : Calls Try.prog 66 #[.agg #[.int .i64 c, .int .i64 r, .slice b n cap]] w fun e w' => e = .returned (.bool (Pl.right c r n)) ∧ Below w.heap.size w w' := by
  obtain ⟨N, hN⟩ : ∃ N, N = w.heap.size := ⟨_, rfl⟩
  have HN := Lib.hid hN
  rw [← hN]
  clear hN
  go_enter Try.func66, Try.ntmps66
  go_upto_region 1 with fail
  refine wp_world (fun W => Blk W N #[.int .i64 c, .int .i64 r, .slice b n cap] 61 ∧ Below N w W) ⟨Blk.new' _ _ _ HN.out, (Below.refl _ _).alloc (by rw [HN.out]; exact Nat.le_refl _) _⟩ ?_
  rintro W0 ⟨b0, hB⟩
  rw [← HN.out]
  have q0 := b0.cell 0
  have q1 := b0.cell 1
  have q2 := b0.cell 2
  by_cases hs : Pl.sized c r = 0
  · obtain ⟨h1, h2, h3, h4, h5, h6⟩ := Pl.sized_ok hs
    obtain ⟨z, hz⟩ : ∃ z, c * r = z := ⟨_, rfl⟩
    rw [hz] at h5 h6
    have hw : wrap64 z = z := IntWalk.wrap64_in _ (by omega)
    have tn : Pl.right c r n = ((n : Int) == z) := by unfold Pl.right; rw [hz]; simp [hs]
    have TN := Lib.hid tn
    have hps := ref_sized c r W0
    rw [hs] at hps
    clear hs tn
    go_wp2_with (go_at_call 125; refine hps.mono ?_; rintro e w1 ⟨rfl, rfl⟩)
    go_ret
    exact ⟨by rw [TN.out]; rfl, hB⟩
  · have tn : Pl.right c r n = false := by unfold Pl.right; simp [hs]
    have TN := Lib.hid tn
    clear tn
    have hps := ref_sized c r W0
    obtain ⟨s, hss⟩ : ∃ s, Pl.sized c r = s := ⟨_, rfl⟩
    rw [hss] at hps hs
    have ts : (s == 0) = false := by simpa using hs
    have ts2 : decide (s = 0) = false := by simpa using hs
    go_wp2_with (go_at_call 125; refine hps.mono ?_; rintro e w1 ⟨rfl, rfl⟩)
    go_ret
    exact ⟨by rw [TN.out]; rfl, hB⟩
end Go.Proofs.Ytgmhhocpdfdplaa
