/- Package plane's place and within, walked. -/
import Derived.Test.YtgmhhocpdfdplaaPlane
namespace Go.Proofs.Ytgmhhocpdfdplaa
open Go.RowKit
set_option maxRecDepth 100000
set_option maxHeartbeats 4000000
namespace Pl
/-- Does a place lie in a plane? -/
def isIn (c r row col : Int) : Prop := 0 ≤ row ∧ row < r ∧ 0 ≤ col ∧ col < c
/-- Does a rectangle fail to lie within a right plane? -/
def out (c r a b h d : Int) : Prop := a < 0 ∨ b < 0 ∨ h < 1 ∨ d < 1 ∨ r ≤ a ∨ c ≤ b ∨ r - a < h ∨ c - b < d
end Pl
theorem plane_place_no (c r row col : Int) (u : Value) (hn : ¬ Pl.isIn c r row col) (w : World) : Calls Try.prog 153 #[.agg #[.int .i64 c, .int .i64 r, u], .int .i64 row, .int .i64 col] w fun e w' => e = .returned (.tuple #[.int .i64 0, .bool false]) ∧ Below w.heap.size w w' := by
  obtain ⟨N, hN⟩ : ∃ N, N = w.heap.size := ⟨_, rfl⟩
  have HN := Lib.hid hN
  rw [← hN]
  clear hN
  go_enter Try.func153, Try.ntmps153
  go_upto_region 1 with fail
  refine wp_world (fun W => Blk W N #[.int .i64 c, .int .i64 r, u] 61 ∧ Below N w W) ⟨Blk.new' _ _ _ HN.out, (Below.refl _ _).alloc (by rw [HN.out]; exact Nat.le_refl _) _⟩ ?_
  rintro W0 ⟨b0, hB⟩
  rw [← HN.out]
  have q0 := b0.cell 0
  have q1 := b0.cell 1
  by_cases k0 : row < 0
  · have t0 : decide (row < 0) = true := by simpa using k0
    go_wp2_with fail
    go_ret2
    exact ⟨rfl, hB⟩
  have t0 : decide (row < 0) = false := by simpa using k0
  by_cases k1 : r ≤ row
  · have t1 : decide (r ≤ row) = true := by simpa using k1
    go_wp2_with fail
    go_ret2
    exact ⟨rfl, hB⟩
  have t1 : decide (r ≤ row) = false := by simpa using k1
  by_cases k2 : col < 0
  · have t2 : decide (col < 0) = true := by simpa using k2
    go_wp2_with fail
    go_ret2
    exact ⟨rfl, hB⟩
  have t2 : decide (col < 0) = false := by simpa using k2
  by_cases k3 : c ≤ col
  · have t3 : decide (c ≤ col) = true := by simpa using k3
    go_wp2_with fail
    go_ret2
    exact ⟨rfl, hB⟩
  have t3 : decide (c ≤ col) = false := by simpa using k3
  exact absurd ⟨by omega, by omega, by omega, by omega⟩ hn
theorem plane_place_yes (c r row col : Int) (u : Value) (hn : Pl.isIn c r row col) (z : Int) (hz : row * c = z) (hw : wrap64 z = z) (hw2 : wrap64 (z + col) = z + col) (w : World) : Calls Try.prog 153 #[.agg #[.int .i64 c, .int .i64 r, u], .int .i64 row, .int .i64 col] w fun e w' => e = .returned (.tuple #[.int .i64 (z + col), .bool true]) ∧ Below w.heap.size w w' := by
  obtain ⟨N, hN⟩ : ∃ N, N = w.heap.size := ⟨_, rfl⟩
  have HN := Lib.hid hN
  rw [← hN]
  clear hN
  obtain ⟨h0, h1, h2, h3⟩ := hn
  have t0 : decide (row < 0) = false := by simpa using h0
  have t1 : decide (r ≤ row) = false := by simpa using h1
  have t2 : decide (col < 0) = false := by simpa using h2
  have t3 : decide (c ≤ col) = false := by simpa using h3
  go_enter Try.func153, Try.ntmps153
  go_upto_region 1 with fail
  refine wp_world (fun W => Blk W N #[.int .i64 c, .int .i64 r, u] 61 ∧ Below N w W) ⟨Blk.new' _ _ _ HN.out, (Below.refl _ _).alloc (by rw [HN.out]; exact Nat.le_refl _) _⟩ ?_
  rintro W0 ⟨b0, hB⟩
  rw [← HN.out]
  have q0 := b0.cell 0
  have q1 := b0.cell 1
  go_wp2_with fail
  go_ret2
  refine ⟨?_, hB⟩
  show Ending.returned (.tuple #[.int .i64 (wrap64 (z + col)), .bool true]) = _
  rw [hw2]
theorem plane_within_bad (c r : Int) (n : Nat) (bu : Option Addr) (cap : Nat) (a b h d : Int) (hr : Pl.right c r n = false) (w : World) : Calls Try.prog 131 #[.agg #[.int .i64 c, .int .i64 r, .slice bu n cap], .agg #[.int .i64 a, .int .i64 b, .int .i64 h, .int .i64 d]] w fun e w' => e = .returned (.int .i64 1) ∧ Below w.heap.size w w' := by
  obtain ⟨N, hN⟩ : ∃ N, N = w.heap.size := ⟨_, rfl⟩
  have HN := Lib.hid hN
  rw [← hN]
  clear hN
  go_enter Try.func131, Try.ntmps131
  go_upto_region 1 with fail
  refine wp_world (fun W => Blk W N #[.int .i64 c, .int .i64 r, .slice bu n cap] 61 ∧ Blk W (N + 1) #[.int .i64 a, .int .i64 b, .int .i64 h, .int .i64 d] 70 ∧ Below N w W) ⟨(Blk.new' _ _ _ HN.out).alloc _, Blk.new' _ _ _ (by simp [HN.out]), ((Below.refl _ _).alloc (by rw [HN.out]; exact Nat.le_refl _) _).alloc (by rw [HN.out]; simp) _⟩ ?_
  rintro W0 ⟨b0, b1, hB⟩
  rw [← HN.out]
  have hN0 : N < W0.heap.size := b0.lt
  have hr := (hr ▸ plane_right c r n bu cap W0 : Calls Try.prog 118 #[.agg #[.int .i64 c, .int .i64 r, .slice bu n cap]] W0 fun e w' => e = .returned (.bool false) ∧ Below W0.heap.size W0 w')
  go_wp2_with (first | (refine wpList_load_row rfl 61 _ rfl N rfl 61 _ _ _ b0 Try.underlying61 rfl (by kernel_rfl) ?_) | (go_at_call 118; refine hr.mono ?_; rintro e w1 ⟨rfl, hb⟩; have b01 := b0.below hb b0.lt; have b11 := b1.below hb b1.lt; have hB1 := hB.trans (hb.mono (by omega)); have p0 := b01.cell 0; have p1 := b01.cell 1; have r0 := b11.cell 0; have r1 := b11.cell 1; have r2 := b11.cell 2; have r3 := b11.cell 3))
  go_ret
  exact ⟨rfl, hB1⟩
theorem plane_within (c r : Int) (n : Nat) (bu : Option Addr) (cap : Nat) (a b h d : Int) (hr : Pl.right c r n = true) (w : World) : Calls Try.prog 131 #[.agg #[.int .i64 c, .int .i64 r, .slice bu n cap], .agg #[.int .i64 a, .int .i64 b, .int .i64 h, .int .i64 d]] w fun e w' => (Pl.out c r a b h d → e = .returned (.int .i64 14)) ∧ (¬ Pl.out c r a b h d → e = .returned (.int .i64 0)) ∧ Below w.heap.size w w' := by
  obtain ⟨N, hN⟩ : ∃ N, N = w.heap.size := ⟨_, rfl⟩
  have HN := Lib.hid hN
  rw [← hN]
  clear hN
  go_enter Try.func131, Try.ntmps131
  go_upto_region 1 with fail
  refine wp_world (fun W => Blk W N #[.int .i64 c, .int .i64 r, .slice bu n cap] 61 ∧ Blk W (N + 1) #[.int .i64 a, .int .i64 b, .int .i64 h, .int .i64 d] 70 ∧ Below N w W) ⟨(Blk.new' _ _ _ HN.out).alloc _, Blk.new' _ _ _ (by simp [HN.out]), ((Below.refl _ _).alloc (by rw [HN.out]; exact Nat.le_refl _) _).alloc (by rw [HN.out]; simp) _⟩ ?_
  rintro W0 ⟨b0, b1, hB⟩
  rw [← HN.out]
  have hN0 : N < W0.heap.size := b0.lt
  have hsz : 1 ≤ c ∧ 1 ≤ r ∧ c ≤ 16384 ∧ r ≤ 16384 := by
    unfold Pl.right at hr
    simp only [Bool.and_eq_true, beq_iff_eq] at hr
    obtain ⟨h1, h2, h3, h4, _, _⟩ := Pl.sized_ok hr.1
    exact ⟨h1, h2, h3, h4⟩
  have hr := (hr ▸ plane_right c r n bu cap W0 : Calls Try.prog 118 #[.agg #[.int .i64 c, .int .i64 r, .slice bu n cap]] W0 fun e w' => e = .returned (.bool true) ∧ Below W0.heap.size W0 w')
  go_upto_region 3 with (first | (refine wpList_load_row rfl 61 _ rfl N rfl 61 _ _ _ b0 Try.underlying61 rfl (by kernel_rfl) ?_) | (go_at_call 118; refine hr.mono ?_; rintro e w1 ⟨rfl, hb⟩; have b01 := b0.below hb b0.lt; have b11 := b1.below hb b1.lt; have hB1 := hB.trans (hb.mono (by omega)); have p0 := b01.cell 0; have p1 := b01.cell 1; have r0 := b11.cell 0; have r1 := b11.cell 1; have r2 := b11.cell 2; have r3 := b11.cell 3))
  clear hr
  by_cases k0 : a < 0
  · have t0 : decide (a < 0) = true := by simpa using k0
    go_wp2_with fail
    go_ret
    exact ⟨fun _ => rfl, fun ho => absurd (show Pl.out c r a b h d by unfold Pl.out; omega) ho, hB1⟩
  have t0 : decide (a < 0) = false := by simpa using k0
  by_cases k1 : b < 0
  · have t1 : decide (b < 0) = true := by simpa using k1
    go_wp2_with fail
    go_ret
    exact ⟨fun _ => rfl, fun ho => absurd (show Pl.out c r a b h d by unfold Pl.out; omega) ho, hB1⟩
  have t1 : decide (b < 0) = false := by simpa using k1
  by_cases k2 : h < 1
  · have t2 : decide (h < 1) = true := by simpa using k2
    go_wp2_with fail
    go_ret
    exact ⟨fun _ => rfl, fun ho => absurd (show Pl.out c r a b h d by unfold Pl.out; omega) ho, hB1⟩
  have t2 : decide (h < 1) = false := by simpa using k2
  by_cases k3 : d < 1
  · have t3 : decide (d < 1) = true := by simpa using k3
    go_wp2_with fail
    go_ret
    exact ⟨fun _ => rfl, fun ho => absurd (show Pl.out c r a b h d by unfold Pl.out; omega) ho, hB1⟩
  have t3 : decide (d < 1) = false := by simpa using k3
  by_cases k4 : r ≤ a
  · have t4 : decide (r ≤ a) = true := by simpa using k4
    go_wp2_with fail
    go_ret
    exact ⟨fun _ => rfl, fun ho => absurd (show Pl.out c r a b h d by unfold Pl.out; omega) ho, hB1⟩
  have t4 : decide (r ≤ a) = false := by simpa using k4
  by_cases k5 : c ≤ b
  · have t5 : decide (c ≤ b) = true := by simpa using k5
    go_wp2_with fail
    go_ret
    exact ⟨fun _ => rfl, fun ho => absurd (show Pl.out c r a b h d by unfold Pl.out; omega) ho, hB1⟩
  have t5 : decide (c ≤ b) = false := by simpa using k5
  have e1 : IntKind.i64.wrap (r - a) = r - a := IntWalk.i64_in _ (by omega)
  have e2 : IntKind.i64.wrap (c - b) = c - b := IntWalk.i64_in _ (by omega)
  by_cases j0 : r - a < h
  · have s0 : decide (r - a < h) = true := by simpa using j0
    go_wp2_with fail
    go_ret
    exact ⟨fun _ => rfl, fun ho => absurd (show Pl.out c r a b h d by unfold Pl.out; omega) ho, hB1⟩
  have s0 : decide (r - a < h) = false := by simpa using j0
  by_cases j1 : c - b < d
  · have s1 : decide (c - b < d) = true := by simpa using j1
    go_wp2_with fail
    go_ret
    exact ⟨fun _ => rfl, fun ho => absurd (show Pl.out c r a b h d by unfold Pl.out; omega) ho, hB1⟩
  have s1 : decide (c - b < d) = false := by simpa using j1
  go_wp2_with fail
  go_ret
  exact ⟨fun ho => absurd ho (by unfold Pl.out; omega), fun _ => rfl, hB1⟩
end Go.Proofs.Ytgmhhocpdfdplaa
