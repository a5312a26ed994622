/- The walks of package turn's functions on numbers: each returns what its plain Lean function says. -/
import Derived.Test.YtcdfamllamjpeaaDoorProg
import Derived.WalkKit
import Derived.BigQuiet
import Derived.Lib.Hide
namespace Go.Proofs.YtcdfamllamjpeaaDoor
open Go.RowKit

namespace Tu
/-- What the turn k of sides is. -/
def sides (k w h : Int) : Int × Int := if 0 ≤ k ∧ k < 8 then (if 4 ≤ k then (h, w) else (w, h)) else (0, 0)
def swp (k : Int) : Int := k / 4 * 4 + k % 2 * 2 + k / 2 % 2
def from_ (k w h row col : Int) : Int × Int :=
  if 0 ≤ k ∧ k < 8 then
    if 4 ≤ k then (if k % 2 = 1 then h - 1 - col else col, if k / 2 % 2 = 1 then w - 1 - row else row)
    else (if k / 2 % 2 = 1 then h - 1 - row else row, if k % 2 = 1 then w - 1 - col else col)
  else (0, 0)
def then_ (a b : Int) : Int := bits .xor .i64 (if 4 ≤ b then swp a else a) b
def back (k : Int) : Int := if 4 ≤ k then swp k else k
def mirA (k : Int) : Bool := if 4 ≤ k then decide (k / 2 % 2 = 1) else decide (k % 2 = 1)
def mirD (k : Int) : Bool := if 4 ≤ k then decide (k % 2 = 1) else decide (k / 2 % 2 = 1)
theorem swp8 (k : Int) (h0 : 0 ≤ k) (h : k < 8) : 0 ≤ swp k ∧ swp k < 8 := by unfold swp; omega
end Tu

theorem eight {k : Int} (h0 : 0 ≤ k) (h : k < 8) : k = 0 ∨ k = 1 ∨ k = 2 ∨ k = 3 ∨ k = 4 ∨ k = 5 ∨ k = 6 ∨ k = 7 := by omega
theorem and1 (k : Int) (h0 : 0 ≤ k) (h : k < 8) : bits .and .i64 k 1 = k % 2 := by
  rcases eight h0 h with rfl | rfl | rfl | rfl | rfl | rfl | rfl | rfl <;> decide +kernel
theorem and2 (k : Int) (h0 : 0 ≤ k) (h : k < 8) : bits .and .i64 k 2 = k / 2 % 2 * 2 := by
  rcases eight h0 h with rfl | rfl | rfl | rfl | rfl | rfl | rfl | rfl <;> decide +kernel
theorem and4 (k : Int) (h0 : 0 ≤ k) (h : k < 8) : bits .and .i64 k 4 = k / 4 * 4 := by
  rcases eight h0 h with rfl | rfl | rfl | rfl | rfl | rfl | rfl | rfl <;> decide +kernel
theorem swpB (k : Int) (h0 : 0 ≤ k) (h : k < 8) : bits .or .i64 (bits .or .i64 (bits .and .i64 k 4) (wrap64 (bits .and .i64 k 1 * 2))) (bits .and .i64 k 2 / 2) = Tu.swp k := by
  rcases eight h0 h with rfl | rfl | rfl | rfl | rfl | rfl | rfl | rfl <;> decide +kernel
theorem ret_i64 {a b : Int} (h : a = b) : Ending.returned (.int .i64 a) = .returned (.int .i64 b) := by rw [h]

theorem right_yes (k : Int) (h0 : 0 ≤ k) (h : k < 8) (w : World) : Calls Tryd.prog 19 #[.int .i64 k] w fun e w' => e = .returned (.bool true) ∧ w = w' := by
  go_enter Tryd.func19, Tryd.ntmps19
  go_wp2
  go_ret
  exact ⟨by simp, rfl⟩
theorem right_no (k : Int) (h : k < 0 ∨ 8 ≤ k) (w : World) : Calls Tryd.prog 19 #[.int .i64 k] w fun e w' => e = .returned (.bool false) ∧ w = w' := by
  rcases h with h | h
  · have h' : decide (0 ≤ k) = false := by simpa using h
    go_enter Tryd.func19, Tryd.ntmps19
    go_wp2
    go_ret
    exact ⟨rfl, rfl⟩
  · have h' : 0 ≤ k := by omega
    go_enter Tryd.func19, Tryd.ntmps19
    go_wp2
    go_ret
    exact ⟨by simp; omega, rfl⟩
theorem swapped_any (k : Int) (h0 : 0 ≤ k) (h : k < 8) (w : World) : Calls Tryd.prog 27 #[.int .i64 k] w fun e w' => e = .returned (.int .i64 (Tu.swp k)) ∧ w = w' := by
  have hs := swpB k h0 h
  have H := Lib.hid hs
  clear hs
  go_enter Tryd.func27, Tryd.ntmps27
  go_wp2
  go_ret
  exact ⟨ret_i64 H.out, rfl⟩
theorem sides_any (k a b : Int) (w : World) : Calls Tryd.prog 10 #[.int .i64 k, .int .i64 a, .int .i64 b] w fun e w' => e = .returned (.tuple #[.int .i64 (Tu.sides k a b).1, .int .i64 (Tu.sides k a b).2]) ∧ w = w' := by
  by_cases h : 0 ≤ k ∧ k < 8
  · obtain ⟨h0, h1⟩ := h
    have e4 := and4 k h0 h1
    by_cases h4 : 4 ≤ k
    · have t : (k / 4 * 4 != 0) = true := by rw [bne_iff_ne]; omega
      have H : Tu.sides k a b = (b, a) := by unfold Tu.sides; rw [if_pos ⟨h0, h1⟩, if_pos h4]
      rw [H]; clear H
      go_enter Tryd.func10, Tryd.ntmps10
      go_wp2_with (go_at_call 19; refine (right_yes _ (by assumption) (by assumption) _).mono ?_; rintro e w' ⟨rfl, rfl⟩)
      go_ret2
      exact ⟨rfl, rfl⟩
    · have t : (k / 4 * 4 != 0) = false := by rw [bne_eq_false_iff_eq]; omega
      have H : Tu.sides k a b = (a, b) := by unfold Tu.sides; rw [if_pos ⟨h0, h1⟩, if_neg h4]
      rw [H]; clear H
      go_enter Tryd.func10, Tryd.ntmps10
      go_wp2_with (go_at_call 19; refine (right_yes _ (by assumption) (by assumption) _).mono ?_; rintro e w' ⟨rfl, rfl⟩)
      go_ret2
      exact ⟨rfl, rfl⟩
  · have H : Tu.sides k a b = (0, 0) := by unfold Tu.sides; rw [if_neg h]
    rw [H]; clear H
    have h' : k < 0 ∨ 8 ≤ k := by omega
    clear h
    go_enter Tryd.func10, Tryd.ntmps10
    go_wp2_with (go_at_call 19; refine (right_no _ (by assumption) _).mono ?_; rintro e w' ⟨rfl, rfl⟩)
    go_ret2
    exact ⟨rfl, rfl⟩
theorem sides_lo (k a b : Int) (h0 : 0 ≤ k) (h : k < 4) (w : World) : Calls Tryd.prog 10 #[.int .i64 k, .int .i64 a, .int .i64 b] w fun e w' => e = .returned (.tuple #[.int .i64 a, .int .i64 b]) ∧ w = w' := by
  have H : Tu.sides k a b = (a, b) := by unfold Tu.sides; rw [if_pos ⟨h0, by omega⟩, if_neg (by omega)]
  have := sides_any k a b w
  rw [H] at this; exact this
theorem sides_hi (k a b : Int) (h0 : 4 ≤ k) (h : k < 8) (w : World) : Calls Tryd.prog 10 #[.int .i64 k, .int .i64 a, .int .i64 b] w fun e w' => e = .returned (.tuple #[.int .i64 b, .int .i64 a]) ∧ w = w' := by
  have H : Tu.sides k a b = (b, a) := by unfold Tu.sides; rw [if_pos ⟨by omega, by omega⟩, if_pos (by omega)]
  have := sides_any k a b w
  rw [H] at this; exact this
theorem from_no (k a b r c : Int) (h : k < 0 ∨ 8 ≤ k) (w : World) : Calls Tryd.prog 11 #[.int .i64 k, .int .i64 a, .int .i64 b, .int .i64 r, .int .i64 c] w fun e w' => e = .returned (.tuple #[.int .i64 0, .int .i64 0]) ∧ w = w' := by
  go_enter Tryd.func11, Tryd.ntmps11
  go_wp2_with (go_at_call 19; refine (right_no _ (by assumption) _).mono ?_; rintro e w' ⟨rfl, rfl⟩)
  go_ret2
  exact ⟨rfl, rfl⟩
set_option maxHeartbeats 1000000 in
theorem from_yes (k a b r c : Int) (h0 : 0 ≤ k) (h1 : k < 8) (ha : 0 ≤ a) (ha' : a ≤ 1000000) (hb : 0 ≤ b) (hb' : b ≤ 1000000) (hr : 0 ≤ r) (hr' : r ≤ 1000000) (hc : 0 ≤ c) (hc' : c ≤ 1000000) (w : World) :
    Calls Tryd.prog 11 #[.int .i64 k, .int .i64 a, .int .i64 b, .int .i64 r, .int .i64 c] w fun e w' => e = .returned (.tuple #[.int .i64 (Tu.from_ k a b r c).1, .int .i64 (Tu.from_ k a b r c).2]) ∧ w = w' := by
  have e1 := and1 k h0 h1
  have e2 := and2 k h0 h1
  have e4 := and4 k h0 h1
  by_cases h4 : 4 ≤ k
  · have t4 : (k / 4 * 4 != 0) = true := by rw [bne_iff_ne]; omega
    by_cases hx : k % 2 = 1
    · have t1 : (k % 2 != 0) = true := by rw [bne_iff_ne]; omega
      by_cases hy : k / 2 % 2 = 1
      · have t2 : (k / 2 % 2 * 2 != 0) = true := by rw [bne_iff_ne]; omega
        have H : Tu.from_ k a b r c = (b - 1 - c, a - 1 - r) := by unfold Tu.from_; rw [if_pos ⟨h0, h1⟩, if_pos h4, if_pos hx, if_pos hy]
        rw [H]; clear H hx hy
        go_enter Tryd.func11, Tryd.ntmps11
        go_wp2_with (first | (go_at_call 19; refine (right_yes _ (by assumption) (by assumption) _).mono ?_; rintro e w' ⟨rfl, rfl⟩) | (go_at_call 10; refine (sides_hi _ _ _ (by assumption) (by assumption) _).mono ?_; rintro e w' ⟨rfl, rfl⟩))
        go_ret2
        exact ⟨rfl, rfl⟩
      · have t2 : (k / 2 % 2 * 2 != 0) = false := by rw [bne_eq_false_iff_eq]; omega
        have H : Tu.from_ k a b r c = (b - 1 - c, r) := by unfold Tu.from_; rw [if_pos ⟨h0, h1⟩, if_pos h4, if_pos hx, if_neg hy]
        rw [H]; clear H hx hy
        go_enter Tryd.func11, Tryd.ntmps11
        go_wp2_with (first | (go_at_call 19; refine (right_yes _ (by assumption) (by assumption) _).mono ?_; rintro e w' ⟨rfl, rfl⟩) | (go_at_call 10; refine (sides_hi _ _ _ (by assumption) (by assumption) _).mono ?_; rintro e w' ⟨rfl, rfl⟩))
        go_ret2
        exact ⟨rfl, rfl⟩
    · have t1 : (k % 2 != 0) = false := by rw [bne_eq_false_iff_eq]; omega
      by_cases hy : k / 2 % 2 = 1
      · have t2 : (k / 2 % 2 * 2 != 0) = true := by rw [bne_iff_ne]; omega
        have H : Tu.from_ k a b r c = (c, a - 1 - r) := by unfold Tu.from_; rw [if_pos ⟨h0, h1⟩, if_pos h4, if_neg hx, if_pos hy]
        rw [H]; clear H hx hy
        go_enter Tryd.func11, Tryd.ntmps11
        go_wp2_with (first | (go_at_call 19; refine (right_yes _ (by assumption) (by assumption) _).mono ?_; rintro e w' ⟨rfl, rfl⟩) | (go_at_call 10; refine (sides_hi _ _ _ (by assumption) (by assumption) _).mono ?_; rintro e w' ⟨rfl, rfl⟩))
        go_ret2
        exact ⟨rfl, rfl⟩
      · have t2 : (k / 2 % 2 * 2 != 0) = false := by rw [bne_eq_false_iff_eq]; omega
        have H : Tu.from_ k a b r c = (c, r) := by unfold Tu.from_; rw [if_pos ⟨h0, h1⟩, if_pos h4, if_neg hx, if_neg hy]
        rw [H]; clear H hx hy
        go_enter Tryd.func11, Tryd.ntmps11
        go_wp2_with (first | (go_at_call 19; refine (right_yes _ (by assumption) (by assumption) _).mono ?_; rintro e w' ⟨rfl, rfl⟩) | (go_at_call 10; refine (sides_hi _ _ _ (by assumption) (by assumption) _).mono ?_; rintro e w' ⟨rfl, rfl⟩))
        go_ret2
        exact ⟨rfl, rfl⟩
  · have t4 : (k / 4 * 4 != 0) = false := by rw [bne_eq_false_iff_eq]; omega
    have h4' : k < 4 := by omega
    by_cases hx : k % 2 = 1
    · have t1 : (k % 2 != 0) = true := by rw [bne_iff_ne]; omega
      by_cases hy : k / 2 % 2 = 1
      · have t2 : (k / 2 % 2 * 2 != 0) = true := by rw [bne_iff_ne]; omega
        have H : Tu.from_ k a b r c = (b - 1 - r, a - 1 - c) := by unfold Tu.from_; rw [if_pos ⟨h0, h1⟩, if_neg h4, if_pos hx, if_pos hy]
        rw [H]; clear H hx hy
        go_enter Tryd.func11, Tryd.ntmps11
        go_wp2_with (first | (go_at_call 19; refine (right_yes _ (by assumption) (by assumption) _).mono ?_; rintro e w' ⟨rfl, rfl⟩) | (go_at_call 10; refine (sides_lo _ _ _ (by assumption) (by assumption) _).mono ?_; rintro e w' ⟨rfl, rfl⟩))
        go_ret2
        exact ⟨rfl, rfl⟩
      · have t2 : (k / 2 % 2 * 2 != 0) = false := by rw [bne_eq_false_iff_eq]; omega
        have H : Tu.from_ k a b r c = (r, a - 1 - c) := by unfold Tu.from_; rw [if_pos ⟨h0, h1⟩, if_neg h4, if_neg hy, if_pos hx]
        rw [H]; clear H hx hy
        go_enter Tryd.func11, Tryd.ntmps11
        go_wp2_with (first | (go_at_call 19; refine (right_yes _ (by assumption) (by assumption) _).mono ?_; rintro e w' ⟨rfl, rfl⟩) | (go_at_call 10; refine (sides_lo _ _ _ (by assumption) (by assumption) _).mono ?_; rintro e w' ⟨rfl, rfl⟩))
        go_ret2
        exact ⟨rfl, rfl⟩
    · have t1 : (k % 2 != 0) = false := by rw [bne_eq_false_iff_eq]; omega
      by_cases hy : k / 2 % 2 = 1
      · have t2 : (k / 2 % 2 * 2 != 0) = true := by rw [bne_iff_ne]; omega
        have H : Tu.from_ k a b r c = (b - 1 - r, c) := by unfold Tu.from_; rw [if_pos ⟨h0, h1⟩, if_neg h4, if_neg hx, if_pos hy]
        rw [H]; clear H hx hy
        go_enter Tryd.func11, Tryd.ntmps11
        go_wp2_with (first | (go_at_call 19; refine (right_yes _ (by assumption) (by assumption) _).mono ?_; rintro e w' ⟨rfl, rfl⟩) | (go_at_call 10; refine (sides_lo _ _ _ (by assumption) (by assumption) _).mono ?_; rintro e w' ⟨rfl, rfl⟩))
        go_ret2
        exact ⟨rfl, rfl⟩
      · have t2 : (k / 2 % 2 * 2 != 0) = false := by rw [bne_eq_false_iff_eq]; omega
        have H : Tu.from_ k a b r c = (r, c) := by unfold Tu.from_; rw [if_pos ⟨h0, h1⟩, if_neg h4, if_neg hx, if_neg hy]
        rw [H]; clear H hx hy
        go_enter Tryd.func11, Tryd.ntmps11
        go_wp2_with (first | (go_at_call 19; refine (right_yes _ (by assumption) (by assumption) _).mono ?_; rintro e w' ⟨rfl, rfl⟩) | (go_at_call 10; refine (sides_lo _ _ _ (by assumption) (by assumption) _).mono ?_; rintro e w' ⟨rfl, rfl⟩))
        go_ret2
        exact ⟨rfl, rfl⟩
theorem then_yes (a b : Int) (a0 : 0 ≤ a) (a8 : a < 8) (b0 : 0 ≤ b) (b8 : b < 8) (w : World) : Calls Tryd.prog 12 #[.int .i64 a, .int .i64 b] w fun e w' => e = .returned (.tuple #[.int .i64 (Tu.then_ a b), .bool true]) ∧ w = w' := by
  have e4 := and4 b b0 b8
  by_cases h4 : 4 ≤ b
  · have t4 : (b / 4 * 4 != 0) = true := by rw [bne_iff_ne]; omega
    have H : Tu.then_ a b = bits .xor .i64 (Tu.swp a) b := by unfold Tu.then_; rw [if_pos h4]
    rw [H]; clear H
    go_enter Tryd.func12, Tryd.ntmps12
    go_wp2_with (first | (go_at_call 19; refine (right_yes _ (by assumption) (by assumption) _).mono ?_; rintro e w' ⟨rfl, rfl⟩) | (go_at_call 27; refine (swapped_any _ (by assumption) (by assumption) _).mono ?_; rintro e w' ⟨rfl, rfl⟩))
    go_ret2
    exact ⟨rfl, rfl⟩
  · have t4 : (b / 4 * 4 != 0) = false := by rw [bne_eq_false_iff_eq]; omega
    have H : Tu.then_ a b = bits .xor .i64 a b := by unfold Tu.then_; rw [if_neg h4]
    rw [H]; clear H
    go_enter Tryd.func12, Tryd.ntmps12
    go_wp2_with (first | (go_at_call 19; refine (right_yes _ (by assumption) (by assumption) _).mono ?_; rintro e w' ⟨rfl, rfl⟩) | (go_at_call 27; refine (swapped_any _ (by assumption) (by assumption) _).mono ?_; rintro e w' ⟨rfl, rfl⟩))
    go_ret2
    exact ⟨rfl, rfl⟩
theorem then_no (a b : Int) (ha : a < 0 ∨ 8 ≤ a) (w : World) : Calls Tryd.prog 12 #[.int .i64 a, .int .i64 b] w fun e w' => e = .returned (.tuple #[.int .i64 0, .bool false]) ∧ w = w' := by
  go_enter Tryd.func12, Tryd.ntmps12
  go_wp2_with (first | (go_at_call 19; refine (right_no _ (by assumption) _).mono ?_; rintro e w' ⟨rfl, rfl⟩))
  go_ret2
  exact ⟨rfl, rfl⟩
theorem back_yes (a : Int) (a0 : 0 ≤ a) (a8 : a < 8) (w : World) : Calls Tryd.prog 16 #[.int .i64 a] w fun e w' => e = .returned (.tuple #[.int .i64 (Tu.back a), .bool true]) ∧ w = w' := by
  have e4 := and4 a a0 a8
  by_cases h4 : 4 ≤ a
  · have t4 : (a / 4 * 4 != 0) = true := by rw [bne_iff_ne]; omega
    have H : Tu.back a = Tu.swp a := by unfold Tu.back; rw [if_pos h4]
    rw [H]; clear H
    go_enter Tryd.func16, Tryd.ntmps16
    go_wp2_with (first | (go_at_call 19; refine (right_yes _ (by assumption) (by assumption) _).mono ?_; rintro e w' ⟨rfl, rfl⟩) | (go_at_call 27; refine (swapped_any _ (by assumption) (by assumption) _).mono ?_; rintro e w' ⟨rfl, rfl⟩))
    go_ret2
    exact ⟨rfl, rfl⟩
  · have t4 : (a / 4 * 4 != 0) = false := by rw [bne_eq_false_iff_eq]; omega
    have H : Tu.back a = a := by unfold Tu.back; rw [if_neg h4]
    rw [H]; clear H
    go_enter Tryd.func16, Tryd.ntmps16
    go_wp2_with (first | (go_at_call 19; refine (right_yes _ (by assumption) (by assumption) _).mono ?_; rintro e w' ⟨rfl, rfl⟩) | (go_at_call 27; refine (swapped_any _ (by assumption) (by assumption) _).mono ?_; rintro e w' ⟨rfl, rfl⟩))
    go_ret2
    exact ⟨rfl, rfl⟩
theorem back_no (a : Int) (ha : a < 0 ∨ 8 ≤ a) (w : World) : Calls Tryd.prog 16 #[.int .i64 a] w fun e w' => e = .returned (.tuple #[.int .i64 0, .bool false]) ∧ w = w' := by
  go_enter Tryd.func16, Tryd.ntmps16
  go_wp2_with (first | (go_at_call 19; refine (right_no _ (by assumption) _).mono ?_; rintro e w' ⟨rfl, rfl⟩))
  go_ret2
  exact ⟨rfl, rfl⟩
theorem mir_fin (k : Int) (h0 : 0 ≤ k) (h : k < 4) : (bits .and .i64 k 1 != 0) = Tu.mirA k ∧ (bits .and .i64 k 2 != 0) = Tu.mirD k := by
  have : k = 0 ∨ k = 1 ∨ k = 2 ∨ k = 3 := by omega
  rcases this with rfl | rfl | rfl | rfl <;> decide +kernel
theorem mir_fin' (k : Int) (h0 : 4 ≤ k) (h : k < 8) : (bits .and .i64 (Tu.swp k) 1 != 0) = Tu.mirA k ∧ (bits .and .i64 (Tu.swp k) 2 != 0) = Tu.mirD k := by
  have : k = 4 ∨ k = 5 ∨ k = 6 ∨ k = 7 := by omega
  rcases this with rfl | rfl | rfl | rfl <;> decide +kernel
theorem mirrors_yes (a : Int) (a0 : 0 ≤ a) (a8 : a < 8) (w : World) : Calls Tryd.prog 18 #[.int .i64 a] w fun e w' => e = .returned (.tuple #[.bool (Tu.mirA a), .bool (Tu.mirD a)]) ∧ w = w' := by
  have e4 := and4 a a0 a8
  by_cases h4 : 4 ≤ a
  · have t4 : (a / 4 * 4 != 0) = true := by rw [bne_iff_ne]; omega
    have H := mir_fin' a h4 a8
    rw [← H.1, ← H.2]; clear H
    go_enter Tryd.func18, Tryd.ntmps18
    go_wp2_with (first | (go_at_call 19; refine (right_yes _ (by assumption) (by assumption) _).mono ?_; rintro e w' ⟨rfl, rfl⟩) | (go_at_call 27; refine (swapped_any _ (by assumption) (by assumption) _).mono ?_; rintro e w' ⟨rfl, rfl⟩))
    go_ret2
    exact ⟨rfl, rfl⟩
  · have t4 : (a / 4 * 4 != 0) = false := by rw [bne_eq_false_iff_eq]; omega
    have H := mir_fin a a0 (by omega)
    rw [← H.1, ← H.2]; clear H
    go_enter Tryd.func18, Tryd.ntmps18
    go_wp2_with (first | (go_at_call 19; refine (right_yes _ (by assumption) (by assumption) _).mono ?_; rintro e w' ⟨rfl, rfl⟩) | (go_at_call 27; refine (swapped_any _ (by assumption) (by assumption) _).mono ?_; rintro e w' ⟨rfl, rfl⟩))
    go_ret2
    exact ⟨rfl, rfl⟩
theorem mirrors_no (a : Int) (ha : a < 0 ∨ 8 ≤ a) (w : World) : Calls Tryd.prog 18 #[.int .i64 a] w fun e w' => e = .returned (.tuple #[.bool false, .bool false]) ∧ w = w' := by
  go_enter Tryd.func18, Tryd.ntmps18
  go_wp2_with (first | (go_at_call 19; refine (right_no _ (by assumption) _).mono ?_; rintro e w' ⟨rfl, rfl⟩))
  go_ret2
  exact ⟨rfl, rfl⟩
end Go.Proofs.YtcdfamllamjpeaaDoor
