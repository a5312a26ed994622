/- Package plane's small functions, walked: sized, Right, place. -/
import Derived.Test.YtgmhhocpdfdplaaDet2
import Derived.Test.YtgmhhocpdfdplaaMono
import Derived.Test.YtgmhhocpdfdplaaProg
import Derived.Deep.DeepCutAuto
import Derived.BigQuiet
namespace Go.Proofs.Ytgmhhocpdfdplaa
open Go.RowKit
set_option maxRecDepth 100000
set_option maxHeartbeats 2000000
namespace Pl
/-- May a plane have so many columns and rows? -/
def sized (c r : Int) : Int := if c < 1 ∨ r < 1 then 1 else if 16384 < c ∨ 16384 / c < r then 11 else 0
theorem sized_ok {c r : Int} (h : sized c r = 0) : 1 ≤ c ∧ 1 ≤ r ∧ c ≤ 16384 ∧ r ≤ 16384 ∧ 0 ≤ c * r ∧ c * r ≤ 16384 := by
  unfold sized at h
  split at h
  · cases h
  · rename_i h1
    split at h
    · cases h
    · rename_i h2
      have hc : 1 ≤ c := by omega
      have hr : 1 ≤ r := by omega
      have hq : r ≤ 16384 / c := by omega
      have h3 : r * c ≤ 16384 := (Int.le_ediv_iff_mul_le (by omega)).1 hq
      have h4 : 16384 / c ≤ 16384 := Int.ediv_le_self _ (by omega)
      refine ⟨hc, hr, by omega, by omega, Int.mul_nonneg (by omega) (by omega), by rw [Int.mul_comm]; exact h3⟩
end Pl
theorem plane_sized (c r : Int) (w : World) : Calls Try.prog 127 #[.int .i64 c, .int .i64 r] w fun e w' => e = .returned (.int .i64 (Pl.sized c r)) ∧ w = w' := by
  unfold Pl.sized
  by_cases h1 : c < 1
  · have t1 : decide (c < 1) = true := by simpa using h1
    rw [if_pos (.inl h1)]
    go_enter Try.func127, Try.ntmps127
    go_wp2_with fail
    go_ret
    exact ⟨rfl, rfl⟩
  · have t1 : decide (c < 1) = false := by simpa using h1
    by_cases h2 : r < 1
    · have t2 : decide (r < 1) = true := by simpa using h2
      rw [if_pos (.inr h2)]
      go_enter Try.func127, Try.ntmps127
      go_wp2_with fail
      go_ret
      exact ⟨rfl, rfl⟩
    · have t2 : decide (r < 1) = false := by simpa using h2
      rw [if_neg (by omega)]
      by_cases h3 : 16384 < c
      · have t3 : decide (16384 < c) = true := by simpa using h3
        rw [if_pos (.inl h3)]
        go_enter Try.func127, Try.ntmps127
        go_wp2_with fail
        go_ret
        exact ⟨rfl, rfl⟩
      · have t3 : decide (16384 < c) = false := by simpa using h3
        have hc0 : c ≠ 0 := by omega
        have hc1 : c ≠ -1 := by omega
        by_cases h4 : 16384 / c < r
        · have t4 : decide (16384 / c < r) = true := by simpa using h4
          rw [if_pos (.inr h4)]
          go_enter Try.func127, Try.ntmps127
          go_wp2_with fail
          go_ret
          exact ⟨rfl, rfl⟩
        · have t4 : decide (16384 / c < r) = false := by simpa using h4
          rw [if_neg (by omega)]
          go_enter Try.func127, Try.ntmps127
          go_wp2_with fail
          go_ret
          exact ⟨rfl, rfl⟩
namespace Pl
/-- Is a plane of n blocks right? -/
def right (c r : Int) (n : Nat) : Bool := (sized c r == 0) && ((n : Int) == c * r)
end Pl
theorem plane_right (c r : Int) (n : Nat) (b : Option Addr) (cap : Nat) (w : World) : Calls Try.prog 118 #[.agg #[.int .i64 c, .int .i64 r, .slice b n cap]] w fun e w' => e = .returned (.bool (Pl.right c r n)) ∧ Below w.heap.size w w' := by
  obtain ⟨N, hN⟩ : ∃ N, N = w.heap.size := ⟨_, rfl⟩
  have HN := Lib.hid hN
  rw [← hN]
  clear hN
  go_enter Try.func118, Try.ntmps118
  go_upto_region 1 with fail
  refine wp_world (fun W => Blk W N #[.int .i64 c, .int .i64 r, .slice b n cap] 61 ∧ Below N w W) ⟨Blk.new' _ _ _ HN.out, (Below.refl _ _).alloc (by rw [HN.out]; exact Nat.le_refl _) _⟩ ?_
  rintro W0 ⟨b0, hB⟩
  rw [← HN.out]
  have q0 := b0.cell 0
  have q1 := b0.cell 1
  have q2 := b0.cell 2
  by_cases hs : Pl.sized c r = 0
  · obtain ⟨h1, h2, h3, h4, h5, h6⟩ := Pl.sized_ok hs
    obtain ⟨z, hz⟩ : ∃ z, c * r = z := ⟨_, rfl⟩
    rw [hz] at h5 h6
    have hw : wrap64 z = z := IntWalk.wrap64_in _ (by omega)
    have tn : Pl.right c r n = ((n : Int) == z) := by unfold Pl.right; rw [hz]; simp [hs]
    have TN := Lib.hid tn
    have hps := plane_sized c r W0
    rw [hs] at hps
    clear hs tn
    go_wp2_with (go_at_call 127; refine hps.mono ?_; rintro e w1 ⟨rfl, rfl⟩)
    go_ret
    exact ⟨by rw [TN.out]; rfl, hB⟩
  · have tn : Pl.right c r n = false := by unfold Pl.right; simp [hs]
    have TN := Lib.hid tn
    clear tn
    have hps := plane_sized c r W0
    obtain ⟨s, hss⟩ : ∃ s, Pl.sized c r = s := ⟨_, rfl⟩
    rw [hss] at hps hs
    have ts : (s == 0) = false := by simpa using hs
    have ts2 : decide (s = 0) = false := by simpa using hs
    go_wp2_with (go_at_call 127; refine hps.mono ?_; rintro e w1 ⟨rfl, rfl⟩)
    go_ret
    exact ⟨by rw [TN.out]; rfl, hB⟩
end Go.Proofs.Ytgmhhocpdfdplaa
