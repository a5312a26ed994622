/- Texts on one foundation, joined: TurnA, Swap, Block, Table, RBlock, TurnQ. -/
import Derived.Test.YtgmhhocpdfdplaaGreatProg
import Derived.WalkKit
import Derived.BigQuiet
import Derived.Lib.Hide
import Derived.Test.YtgmhhocpdfdplaaGreatGA
/- The walks of package turn's functions on numbers: each returns what its plain Lean function says. -/
namespace Go.Proofs.YtgmhhocpdfdplaaGreat
open Go.RowKit
namespace Tu
/-- What the turn k of sides is. -/
def sides (k w h : Int) : Int × Int := if 0 ≤ k ∧ k < 8 then (if 4 ≤ k then (h, w) else (w, h)) else (0, 0)
def swp (k : Int) : Int := k / 4 * 4 + k % 2 * 2 + k / 2 % 2
def from_ (k w h row col : Int) : Int × Int :=
  if 0 ≤ k ∧ k < 8 then
    if 4 ≤ k then (if k % 2 = 1 then h - 1 - col else col, if k / 2 % 2 = 1 then w - 1 - row else row)
    else (if k / 2 % 2 = 1 then h - 1 - row else row, if k % 2 = 1 then w - 1 - col else col)
  else (0, 0)
def then_ (a b : Int) : Int := bits .xor .i64 (if 4 ≤ b then swp a else a) b
def back (k : Int) : Int := if 4 ≤ k then swp k else k
def mirA (k : Int) : Bool := if 4 ≤ k then decide (k / 2 % 2 = 1) else decide (k % 2 = 1)
def mirD (k : Int) : Bool := if 4 ≤ k then decide (k % 2 = 1) else decide (k / 2 % 2 = 1)
theorem swp8 (k : Int) (h0 : 0 ≤ k) (h : k < 8) : 0 ≤ swp k ∧ swp k < 8 := by unfold swp; omega
end Tu
theorem eight {k : Int} (h0 : 0 ≤ k) (h : k < 8) : k = 0 ∨ k = 1 ∨ k = 2 ∨ k = 3 ∨ k = 4 ∨ k = 5 ∨ k = 6 ∨ k = 7 := by omega
theorem and1 (k : Int) (h0 : 0 ≤ k) (h : k < 8) : bits .and .i64 k 1 = k % 2 := by
  rcases eight h0 h with rfl | rfl | rfl | rfl | rfl | rfl | rfl | rfl <;> decide +kernel
theorem and2 (k : Int) (h0 : 0 ≤ k) (h : k < 8) : bits .and .i64 k 2 = k / 2 % 2 * 2 := by
  rcases eight h0 h with rfl | rfl | rfl | rfl | rfl | rfl | rfl | rfl <;> decide +kernel
theorem and4 (k : Int) (h0 : 0 ≤ k) (h : k < 8) : bits .and .i64 k 4 = k / 4 * 4 := by
  rcases eight h0 h with rfl | rfl | rfl | rfl | rfl | rfl | rfl | rfl <;> decide +kernel
theorem swpB (k : Int) (h0 : 0 ≤ k) (h : k < 8) : bits .or .i64 (bits .or .i64 (bits .and .i64 k 4) (wrap64 (bits .and .i64 k 1 * 2))) (bits .and .i64 k 2 / 2) = Tu.swp k := by
  rcases eight h0 h with rfl | rfl | rfl | rfl | rfl | rfl | rfl | rfl <;> decide +kernel
theorem ret_i64 {a b : Int} (h : a = b) : Ending.returned (.int .i64 a) = .returned (.int .i64 b) := by rw [h]
theorem right_yes (k : Int) (h0 : 0 ≤ k) (h : k < 8) (w : World) : Calls Tryz.prog 49 #[.int .i64 k] w fun e w' => e = .returned (.bool true) ∧ w = w' := by
  go_enter Tryz.func49, Tryz.ntmps49
  go_wp2
  go_ret
  exact ⟨by simp, rfl⟩
theorem right_no (k : Int) (h : k < 0 ∨ 8 ≤ k) (w : World) : Calls Tryz.prog 49 #[.int .i64 k] w fun e w' => e = .returned (.bool false) ∧ w = w' := by
  rcases h with h | h
  · have h' : decide (0 ≤ k) = false := by simpa using h
    go_enter Tryz.func49, Tryz.ntmps49
    go_wp2
    go_ret
    exact ⟨rfl, rfl⟩
  · have h' : 0 ≤ k := by omega
    go_enter Tryz.func49, Tryz.ntmps49
    go_wp2
    go_ret
    exact ⟨by simp; omega, rfl⟩
theorem swapped_any (k : Int) (h0 : 0 ≤ k) (h : k < 8) (w : World) : Calls Tryz.prog 86 #[.int .i64 k] w fun e w' => e = .returned (.int .i64 (Tu.swp k)) ∧ w = w' := by
  have hs := swpB k h0 h
  have H := Lib.hid hs
  clear hs
  go_enter Tryz.func86, Tryz.ntmps86
  go_wp2
  go_ret
  exact ⟨ret_i64 H.out, rfl⟩
theorem sides_any (k a b : Int) (w : World) : Calls Tryz.prog 29 #[.int .i64 k, .int .i64 a, .int .i64 b] w fun e w' => e = .returned (.tuple #[.int .i64 (Tu.sides k a b).1, .int .i64 (Tu.sides k a b).2]) ∧ w = w' := by
  by_cases h : 0 ≤ k ∧ k < 8
  · obtain ⟨h0, h1⟩ := h
    have e4 := and4 k h0 h1
    by_cases h4 : 4 ≤ k
    · have t : (k / 4 * 4 != 0) = true := by rw [bne_iff_ne]; omega
      have H : Tu.sides k a b = (b, a) := by unfold Tu.sides; rw [if_pos ⟨h0, h1⟩, if_pos h4]
      rw [H]; clear H
      go_enter Tryz.func29, Tryz.ntmps29
      go_wp2_with (go_at_call 49; refine (right_yes _ (by assumption) (by assumption) _).mono ?_; rintro e w' ⟨rfl, rfl⟩)
      go_ret2
      exact ⟨rfl, rfl⟩
    · have t : (k / 4 * 4 != 0) = false := by rw [bne_eq_false_iff_eq]; omega
      have H : Tu.sides k a b = (a, b) := by unfold Tu.sides; rw [if_pos ⟨h0, h1⟩, if_neg h4]
      rw [H]; clear H
      go_enter Tryz.func29, Tryz.ntmps29
      go_wp2_with (go_at_call 49; refine (right_yes _ (by assumption) (by assumption) _).mono ?_; rintro e w' ⟨rfl, rfl⟩)
      go_ret2
      exact ⟨rfl, rfl⟩
  · have H : Tu.sides k a b = (0, 0) := by unfold Tu.sides; rw [if_neg h]
    rw [H]; clear H
    have h' : k < 0 ∨ 8 ≤ k := by omega
    clear h
    go_enter Tryz.func29, Tryz.ntmps29
    go_wp2_with (go_at_call 49; refine (right_no _ (by assumption) _).mono ?_; rintro e w' ⟨rfl, rfl⟩)
    go_ret2
    exact ⟨rfl, rfl⟩
theorem sides_lo (k a b : Int) (h0 : 0 ≤ k) (h : k < 4) (w : World) : Calls Tryz.prog 29 #[.int .i64 k, .int .i64 a, .int .i64 b] w fun e w' => e = .returned (.tuple #[.int .i64 a, .int .i64 b]) ∧ w = w' := by
  have H : Tu.sides k a b = (a, b) := by unfold Tu.sides; rw [if_pos ⟨h0, by omega⟩, if_neg (by omega)]
  have := sides_any k a b w
  rw [H] at this; exact this
theorem sides_hi (k a b : Int) (h0 : 4 ≤ k) (h : k < 8) (w : World) : Calls Tryz.prog 29 #[.int .i64 k, .int .i64 a, .int .i64 b] w fun e w' => e = .returned (.tuple #[.int .i64 b, .int .i64 a]) ∧ w = w' := by
  have H : Tu.sides k a b = (b, a) := by unfold Tu.sides; rw [if_pos ⟨by omega, by omega⟩, if_pos (by omega)]
  have := sides_any k a b w
  rw [H] at this; exact this
theorem from_no (k a b r c : Int) (h : k < 0 ∨ 8 ≤ k) (w : World) : Calls Tryz.prog 55 #[.int .i64 k, .int .i64 a, .int .i64 b, .int .i64 r, .int .i64 c] w fun e w' => e = .returned (.tuple #[.int .i64 0, .int .i64 0]) ∧ w = w' := by
  go_enter Tryz.func55, Tryz.ntmps55
  go_wp2_with (go_at_call 49; refine (right_no _ (by assumption) _).mono ?_; rintro e w' ⟨rfl, rfl⟩)
  go_ret2
  exact ⟨rfl, rfl⟩
set_option maxHeartbeats 1000000 in
theorem from_yes (k a b r c : Int) (h0 : 0 ≤ k) (h1 : k < 8) (ha : 0 ≤ a) (ha' : a ≤ 1000000) (hb : 0 ≤ b) (hb' : b ≤ 1000000) (hr : 0 ≤ r) (hr' : r ≤ 1000000) (hc : 0 ≤ c) (hc' : c ≤ 1000000) (w : World) :
    Calls Tryz.prog 55 #[.int .i64 k, .int .i64 a, .int .i64 b, .int .i64 r, .int .i64 c] w fun e w' => e = .returned (.tuple #[.int .i64 (Tu.from_ k a b r c).1, .int .i64 (Tu.from_ k a b r c).2]) ∧ w = w' := by
  have e1 := and1 k h0 h1
  have e2 := and2 k h0 h1
  have e4 := and4 k h0 h1
  by_cases h4 : 4 ≤ k
  · have t4 : (k / 4 * 4 != 0) = true := by rw [bne_iff_ne]; omega
    by_cases hx : k % 2 = 1
    · have t1 : (k % 2 != 0) = true := by rw [bne_iff_ne]; omega
      by_cases hy : k / 2 % 2 = 1
      · have t2 : (k / 2 % 2 * 2 != 0) = true := by rw [bne_iff_ne]; omega
        have H : Tu.from_ k a b r c = (b - 1 - c, a - 1 - r) := by unfold Tu.from_; rw [if_pos ⟨h0, h1⟩, if_pos h4, if_pos hx, if_pos hy]
        rw [H]; clear H hx hy
        go_enter Tryz.func55, Tryz.ntmps55
        go_wp2_with (first | (go_at_call 49; refine (right_yes _ (by assumption) (by assumption) _).mono ?_; rintro e w' ⟨rfl, rfl⟩) | (go_at_call 29; refine (sides_hi _ _ _ (by assumption) (by assumption) _).mono ?_; rintro e w' ⟨rfl, rfl⟩))
        go_ret2
        exact ⟨rfl, rfl⟩
      · have t2 : (k / 2 % 2 * 2 != 0) = false := by rw [bne_eq_false_iff_eq]; omega
        have H : Tu.from_ k a b r c = (b - 1 - c, r) := by unfold Tu.from_; rw [if_pos ⟨h0, h1⟩, if_pos h4, if_pos hx, if_neg hy]
        rw [H]; clear H hx hy
        go_enter Tryz.func55, Tryz.ntmps55
        go_wp2_with (first | (go_at_call 49; refine (right_yes _ (by assumption) (by assumption) _).mono ?_; rintro e w' ⟨rfl, rfl⟩) | (go_at_call 29; refine (sides_hi _ _ _ (by assumption) (by assumption) _).mono ?_; rintro e w' ⟨rfl, rfl⟩))
        go_ret2
        exact ⟨rfl, rfl⟩
    · have t1 : (k % 2 != 0) = false := by rw [bne_eq_false_iff_eq]; omega
      by_cases hy : k / 2 % 2 = 1
      · have t2 : (k / 2 % 2 * 2 != 0) = true := by rw [bne_iff_ne]; omega
        have H : Tu.from_ k a b r c = (c, a - 1 - r) := by unfold Tu.from_; rw [if_pos ⟨h0, h1⟩, if_pos h4, if_neg hx, if_pos hy]
        rw [H]; clear H hx hy
        go_enter Tryz.func55, Tryz.ntmps55
        go_wp2_with (first | (go_at_call 49; refine (right_yes _ (by assumption) (by assumption) _).mono ?_; rintro e w' ⟨rfl, rfl⟩) | (go_at_call 29; refine (sides_hi _ _ _ (by assumption) (by assumption) _).mono ?_; rintro e w' ⟨rfl, rfl⟩))
        go_ret2
        exact ⟨rfl, rfl⟩
      · have t2 : (k / 2 % 2 * 2 != 0) = false := by rw [bne_eq_false_iff_eq]; omega
        have H : Tu.from_ k a b r c = (c, r) := by unfold Tu.from_; rw [if_pos ⟨h0, h1⟩, if_pos h4, if_neg hx, if_neg hy]
        rw [H]; clear H hx hy
        go_enter Tryz.func55, Tryz.ntmps55
        go_wp2_with (first | (go_at_call 49; refine (right_yes _ (by assumption) (by assumption) _).mono ?_; rintro e w' ⟨rfl, rfl⟩) | (go_at_call 29; refine (sides_hi _ _ _ (by assumption) (by assumption) _).mono ?_; rintro e w' ⟨rfl, rfl⟩))
        go_ret2
        exact ⟨rfl, rfl⟩
  · have t4 : (k / 4 * 4 != 0) = false := by rw [bne_eq_false_iff_eq]; omega
    have h4' : k < 4 := by omega
    by_cases hx : k % 2 = 1
    · have t1 : (k % 2 != 0) = true := by rw [bne_iff_ne]; omega
      by_cases hy : k / 2 % 2 = 1
      · have t2 : (k / 2 % 2 * 2 != 0) = true := by rw [bne_iff_ne]; omega
        have H : Tu.from_ k a b r c = (b - 1 - r, a - 1 - c) := by unfold Tu.from_; rw [if_pos ⟨h0, h1⟩, if_neg h4, if_pos hx, if_pos hy]
        rw [H]; clear H hx hy
        go_enter Tryz.func55, Tryz.ntmps55
        go_wp2_with (first | (go_at_call 49; refine (right_yes _ (by assumption) (by assumption) _).mono ?_; rintro e w' ⟨rfl, rfl⟩) | (go_at_call 29; refine (sides_lo _ _ _ (by assumption) (by assumption) _).mono ?_; rintro e w' ⟨rfl, rfl⟩))
        go_ret2
        exact ⟨rfl, rfl⟩
      · have t2 : (k / 2 % 2 * 2 != 0) = false := by rw [bne_eq_false_iff_eq]; omega
        have H : Tu.from_ k a b r c = (r, a - 1 - c) := by unfold Tu.from_; rw [if_pos ⟨h0, h1⟩, if_neg h4, if_neg hy, if_pos hx]
        rw [H]; clear H hx hy
        go_enter Tryz.func55, Tryz.ntmps55
        go_wp2_with (first | (go_at_call 49; refine (right_yes _ (by assumption) (by assumption) _).mono ?_; rintro e w' ⟨rfl, rfl⟩) | (go_at_call 29; refine (sides_lo _ _ _ (by assumption) (by assumption) _).mono ?_; rintro e w' ⟨rfl, rfl⟩))
        go_ret2
        exact ⟨rfl, rfl⟩
    · have t1 : (k % 2 != 0) = false := by rw [bne_eq_false_iff_eq]; omega
      by_cases hy : k / 2 % 2 = 1
      · have t2 : (k / 2 % 2 * 2 != 0) = true := by rw [bne_iff_ne]; omega
        have H : Tu.from_ k a b r c = (b - 1 - r, c) := by unfold Tu.from_; rw [if_pos ⟨h0, h1⟩, if_neg h4, if_neg hx, if_pos hy]
        rw [H]; clear H hx hy
        go_enter Tryz.func55, Tryz.ntmps55
        go_wp2_with (first | (go_at_call 49; refine (right_yes _ (by assumption) (by assumption) _).mono ?_; rintro e w' ⟨rfl, rfl⟩) | (go_at_call 29; refine (sides_lo _ _ _ (by assumption) (by assumption) _).mono ?_; rintro e w' ⟨rfl, rfl⟩))
        go_ret2
        exact ⟨rfl, rfl⟩
      · have t2 : (k / 2 % 2 * 2 != 0) = false := by rw [bne_eq_false_iff_eq]; omega
        have H : Tu.from_ k a b r c = (r, c) := by unfold Tu.from_; rw [if_pos ⟨h0, h1⟩, if_neg h4, if_neg hx, if_neg hy]
        rw [H]; clear H hx hy
        go_enter Tryz.func55, Tryz.ntmps55
        go_wp2_with (first | (go_at_call 49; refine (right_yes _ (by assumption) (by assumption) _).mono ?_; rintro e w' ⟨rfl, rfl⟩) | (go_at_call 29; refine (sides_lo _ _ _ (by assumption) (by assumption) _).mono ?_; rintro e w' ⟨rfl, rfl⟩))
        go_ret2
        exact ⟨rfl, rfl⟩
theorem mir_fin (k : Int) (h0 : 0 ≤ k) (h : k < 4) : (bits .and .i64 k 1 != 0) = Tu.mirA k ∧ (bits .and .i64 k 2 != 0) = Tu.mirD k := by
  have : k = 0 ∨ k = 1 ∨ k = 2 ∨ k = 3 := by omega
  rcases this with rfl | rfl | rfl | rfl <;> decide +kernel
theorem mir_fin' (k : Int) (h0 : 4 ≤ k) (h : k < 8) : (bits .and .i64 (Tu.swp k) 1 != 0) = Tu.mirA k ∧ (bits .and .i64 (Tu.swp k) 2 != 0) = Tu.mirD k := by
  have : k = 4 ∨ k = 5 ∨ k = 6 ∨ k = 7 := by omega
  rcases this with rfl | rfl | rfl | rfl <;> decide +kernel
theorem mirrors_yes (a : Int) (a0 : 0 ≤ a) (a8 : a < 8) (w : World) : Calls Tryz.prog 51 #[.int .i64 a] w fun e w' => e = .returned (.tuple #[.bool (Tu.mirA a), .bool (Tu.mirD a)]) ∧ w = w' := by
  have e4 := and4 a a0 a8
  by_cases h4 : 4 ≤ a
  · have t4 : (a / 4 * 4 != 0) = true := by rw [bne_iff_ne]; omega
    have H := mir_fin' a h4 a8
    rw [← H.1, ← H.2]; clear H
    go_enter Tryz.func51, Tryz.ntmps51
    go_wp2_with (first | (go_at_call 49; refine (right_yes _ (by assumption) (by assumption) _).mono ?_; rintro e w' ⟨rfl, rfl⟩) | (go_at_call 86; refine (swapped_any _ (by assumption) (by assumption) _).mono ?_; rintro e w' ⟨rfl, rfl⟩))
    go_ret2
    exact ⟨rfl, rfl⟩
  · have t4 : (a / 4 * 4 != 0) = false := by rw [bne_eq_false_iff_eq]; omega
    have H := mir_fin a a0 (by omega)
    rw [← H.1, ← H.2]; clear H
    go_enter Tryz.func51, Tryz.ntmps51
    go_wp2_with (first | (go_at_call 49; refine (right_yes _ (by assumption) (by assumption) _).mono ?_; rintro e w' ⟨rfl, rfl⟩) | (go_at_call 86; refine (swapped_any _ (by assumption) (by assumption) _).mono ?_; rintro e w' ⟨rfl, rfl⟩))
    go_ret2
    exact ⟨rfl, rfl⟩
theorem mirrors_no (a : Int) (ha : a < 0 ∨ 8 ≤ a) (w : World) : Calls Tryz.prog 51 #[.int .i64 a] w fun e w' => e = .returned (.tuple #[.bool false, .bool false]) ∧ w = w' := by
  go_enter Tryz.func51, Tryz.ntmps51
  go_wp2_with (first | (go_at_call 49; refine (right_no _ (by assumption) _).mono ?_; rintro e w' ⟨rfl, rfl⟩))
  go_ret2
  exact ⟨rfl, rfl⟩
end Go.Proofs.YtgmhhocpdfdplaaGreat
/- Package zig's Swap: what a block turned over its diagonal is. -/
namespace Go.Proofs.YtgmhhocpdfdplaaGreat
open Go.RowKit
namespace Zg
def swapTo (xs : List Int) : Nat → List Int
  | 0 => List.replicate 64 0
  | k + 1 => (swapTo xs k).set (k % 8 * 8 + k / 8) (xs.getD k 0)
theorem swapTo_len (xs : List Int) : ∀ k, (swapTo xs k).length = 64
  | 0 => by simp [swapTo]
  | k + 1 => by simp [swapTo, swapTo_len xs k]
def swap (xs : List Int) : List Int := (List.range 64).map fun j => xs.getD (j % 8 * 8 + j / 8) 0
theorem swapTo_get (xs : List Int) : ∀ (k : Nat), k ≤ 64 → ∀ j, j < 64 → (swapTo xs k)[j]? = some (if j % 8 * 8 + j / 8 < k then xs.getD (j % 8 * 8 + j / 8) 0 else 0)
  | 0, _, j, hj => by rw [if_neg (by omega)]; show (List.replicate 64 (0 : Int))[j]? = _; rw [List.getElem?_replicate, if_pos hj]
  | k + 1, hk, j, hj => by
    have ih := swapTo_get xs k (by omega) j hj
    simp only [swapTo, List.getElem?_set, swapTo_len]
    by_cases h : k % 8 * 8 + k / 8 = j
    · have e : j % 8 * 8 + j / 8 = k := by omega
      rw [if_pos h, if_pos (by omega), e, if_pos (by omega)]
    · have e : j % 8 * 8 + j / 8 ≠ k := by omega
      rw [if_neg h, ih]
      congr 1
      by_cases h2 : j % 8 * 8 + j / 8 < k
      · rw [if_pos h2, if_pos (by omega)]
      · rw [if_neg h2, if_neg (by omega)]
theorem swapTo_all (xs : List Int) : swapTo xs 64 = swap xs := by
  apply List.ext_getElem?
  intro j
  by_cases hj : j < 64
  · rw [swapTo_get xs 64 (Nat.le_refl _) j hj, if_pos (by omega)]
    simp [swap, hj]
  · rw [List.getElem?_eq_none (by rw [swapTo_len]; omega), List.getElem?_eq_none (by simp [swap]; omega)]
end Zg
set_option maxHeartbeats 1000000 in
theorem swap_i16 (xs : List Int) (hx : xs.length = 64) (w : World) : Calls Tryz.prog 90 #[.agg (ints .i16 xs)] w fun e w' => e = .returned (.agg (ints .i16 (Zg.swap xs))) ∧ Below w.heap.size w w' := by
  rw [← Zg.swapTo_all]
  obtain ⟨N, hN⟩ : ∃ N, N = w.heap.size := ⟨_, rfl⟩
  have HN := Lib.hid hN
  rw [← hN]
  clear hN
  go_enter Tryz.func90, Tryz.ntmps90
  go_wp2_with fail
  refine wp_world (fun W => Blk W N (ints .i16 xs) 65 ∧ Blk W (N+1) (ints .i16 (Zg.swapTo xs 0)) 65 ∧ Blk W (N+2) (ints .i16 (Zg.swapTo xs 0)) 65 ∧ Below N w W) ⟨?_, ?_, ?_, ?_⟩ ?_
  · rw [HN.out]; exact ((Blk.new _ _ _).alloc _).alloc _
  · rw [HN.out]; exact (Blk.new' _ _ _ (by simp)).alloc _
  · rw [HN.out]; exact (Blk.new' _ _ _ (by simp))
  · rw [HN.out]; exact (((Below.refl _ _).alloc (Nat.le_refl _) _).alloc (by simp) _).alloc (by simp; omega) _
  rintro W0 ⟨h0, h1, h2, hB⟩
  rw [← HN.out]
  go_loopw [4, 5] (fun _ i wr => ∃ k : Nat, k ≤ 64 ∧ i = .int .i64 k ∧ Blk wr N (ints .i16 xs) 65 ∧ Blk wr (N+1) (ints .i16 (Zg.swapTo xs 0)) 65 ∧ Blk wr (N+2) (ints .i16 (Zg.swapTo xs k)) 65 ∧ Below N w wr) (fun _ i _ => 64 - (intOf i).toNat)
  case atStart => exact ⟨0, by omega, rfl, h0, h1, h2, hB⟩
  case round =>
    obtain ⟨k, hk, rfl, b0, b1, b2, hB⟩ := hrel
    clear h0 h1 h2
    by_cases hlt : k < 64
    · have c0 := (b0.cell k).trans (ints_get _ _ _ (by omega))
      have c2 := (b2.cell (k % 8 * 8 + k / 8)).trans (ints_get _ _ _ (by rw [Zg.swapTo_len]; omega))
      have f2 := b2.free (k % 8 * 8 + k / 8)
      obtain ⟨x, hx0⟩ : ∃ x, xs.getD k 0 = x := ⟨_, rfl⟩
      rw [hx0] at c0
      have HX := Lib.hid hx0
      clear hx0
      go_wp2_with fail
      refine ⟨⟨k + 1, by omega, by go_num, b0.other _ _ (by show N ≠ N + 1 + 1; omega), b1.other _ _ (by show N + 1 ≠ N + 1 + 1; omega), ?_, hB.setCell (by show N ≤ N + 1 + 1; omega) _⟩, by simp [intOf]; omega⟩
      have := b2.set (k % 8 * 8 + k / 8) (.int .i16 x)
      rw [ints_set, ← HX.out] at this
      rw [← HX.out]; exact this
    · obtain rfl : k = 64 := by omega
      go_wp2_with (first | (refine wpList_load_row rfl 65 _ rfl (N + 2) rfl 65 _ _ _ b2 Tryz.underlying65 rfl (by rw [ints_size, Zg.swapTo_len]; kernel_rfl) ?_) | (refine wpList_store_row rfl 65 _ _ rfl (N + 1) _ rfl rfl 65 _ b1 (by rw [ints_size, Zg.swapTo_len]; kernel_rfl) (by simp [Zg.swapTo_len]) (ints_one _ _) ?_))
      refine bodyPost_ret (results_cell_row rfl _ _ (N + 1) 65 _ _ _ rfl (b1.row _) Tryz.underlying65 rfl (by rw [ints_size, Zg.swapTo_len]; kernel_rfl)) rfl ⟨rfl, ?_⟩
      exact Below.setRow hB (by omega) _
set_option maxHeartbeats 1000000 in
theorem swap_u16 (xs : List Int) (hx : xs.length = 64) (w : World) : Calls Tryz.prog 57 #[.agg (ints .u16 xs)] w fun e w' => e = .returned (.agg (ints .u16 (Zg.swap xs))) ∧ Below w.heap.size w w' := by
  rw [← Zg.swapTo_all]
  obtain ⟨N, hN⟩ : ∃ N, N = w.heap.size := ⟨_, rfl⟩
  have HN := Lib.hid hN
  rw [← hN]
  clear hN
  go_enter Tryz.func57, Tryz.ntmps57
  go_wp2_with fail
  refine wp_world (fun W => Blk W N (ints .u16 xs) 38 ∧ Blk W (N+1) (ints .u16 (Zg.swapTo xs 0)) 38 ∧ Blk W (N+2) (ints .u16 (Zg.swapTo xs 0)) 38 ∧ Below N w W) ⟨?_, ?_, ?_, ?_⟩ ?_
  · rw [HN.out]; exact ((Blk.new _ _ _).alloc _).alloc _
  · rw [HN.out]; exact (Blk.new' _ _ _ (by simp)).alloc _
  · rw [HN.out]; exact (Blk.new' _ _ _ (by simp))
  · rw [HN.out]; exact (((Below.refl _ _).alloc (Nat.le_refl _) _).alloc (by simp) _).alloc (by simp; omega) _
  rintro W0 ⟨h0, h1, h2, hB⟩
  rw [← HN.out]
  go_loopw [4, 5] (fun _ i wr => ∃ k : Nat, k ≤ 64 ∧ i = .int .i64 k ∧ Blk wr N (ints .u16 xs) 38 ∧ Blk wr (N+1) (ints .u16 (Zg.swapTo xs 0)) 38 ∧ Blk wr (N+2) (ints .u16 (Zg.swapTo xs k)) 38 ∧ Below N w wr) (fun _ i _ => 64 - (intOf i).toNat)
  case atStart => exact ⟨0, by omega, rfl, h0, h1, h2, hB⟩
  case round =>
    obtain ⟨k, hk, rfl, b0, b1, b2, hB⟩ := hrel
    clear h0 h1 h2
    by_cases hlt : k < 64
    · have c0 := (b0.cell k).trans (ints_get _ _ _ (by omega))
      have c2 := (b2.cell (k % 8 * 8 + k / 8)).trans (ints_get _ _ _ (by rw [Zg.swapTo_len]; omega))
      have f2 := b2.free (k % 8 * 8 + k / 8)
      obtain ⟨x, hx0⟩ : ∃ x, xs.getD k 0 = x := ⟨_, rfl⟩
      rw [hx0] at c0
      have HX := Lib.hid hx0
      clear hx0
      go_wp2_with fail
      refine ⟨⟨k + 1, by omega, by go_num, b0.other _ _ (by show N ≠ N + 1 + 1; omega), b1.other _ _ (by show N + 1 ≠ N + 1 + 1; omega), ?_, hB.setCell (by show N ≤ N + 1 + 1; omega) _⟩, by simp [intOf]; omega⟩
      have := b2.set (k % 8 * 8 + k / 8) (.int .u16 x)
      rw [ints_set, ← HX.out] at this
      rw [← HX.out]; exact this
    · obtain rfl : k = 64 := by omega
      go_wp2_with (first | (refine wpList_load_row rfl 38 _ rfl (N + 2) rfl 38 _ _ _ b2 Tryz.underlying38 rfl (by rw [ints_size, Zg.swapTo_len]; kernel_rfl) ?_) | (refine wpList_store_row rfl 38 _ _ rfl (N + 1) _ rfl rfl 38 _ b1 (by rw [ints_size, Zg.swapTo_len]; kernel_rfl) (by simp [Zg.swapTo_len]) (ints_one _ _) ?_))
      refine bodyPost_ret (results_cell_row rfl _ _ (N + 1) 38 _ _ _ rfl (b1.row _) Tryz.underlying38 rfl (by rw [ints_size, Zg.swapTo_len]; kernel_rfl)) rfl ⟨rfl, ?_⟩
      exact Below.setRow hB (by omega) _
end Go.Proofs.YtgmhhocpdfdplaaGreat
/- Package turn's Block and Table: what a turned block of coefficients, and a turned table, are. -/
namespace Go.Proofs.YtgmhhocpdfdplaaGreat
open Go.RowKit
theorem and_one_i64 (E : Int) (h0 : 0 ≤ E) (h : E < 64) : bits .and .i64 E 1 = E % 2 := by
  obtain ⟨n, rfl⟩ := Int.eq_ofNat_of_zero_le h0
  have hn : n < 64 := by omega
  have : ∀ n : Fin 64, bits .and .i64 ((n.1 : Nat) : Int) 1 = ((n.1 : Nat) : Int) % 2 := by decide +kernel
  exact this ⟨n, hn⟩
namespace Tu
/-- One coefficient: negated where just one of the two flips takes it. -/
def flipAt (a d : Bool) (j : Nat) (x : Int) : Int := if ((a && decide (j % 2 = 1)) != (d && decide (j / 8 % 2 = 1))) then IntKind.i16.wrap (-x) else x
def flipTo (a d : Bool) (xs : List Int) (i : Nat) : List Int := (List.range 64).map fun j => if j < i then flipAt a d j (xs.getD j 0) else xs.getD j 0
def flip (a d : Bool) (xs : List Int) : List Int := (List.range 64).map fun j => flipAt a d j (xs.getD j 0)
theorem flipTo_len (a d : Bool) (xs : List Int) (i : Nat) : (flipTo a d xs i).length = 64 := by simp [flipTo]
theorem flip_len (a d : Bool) (xs : List Int) : (flip a d xs).length = 64 := by simp [flip]
theorem flipTo_zero (a d : Bool) (xs : List Int) (h : xs.length = 64) : flipTo a d xs 0 = xs := by
  apply List.ext_getElem?
  intro j
  by_cases hj : j < 64
  · simp [flipTo, hj, List.getD_eq_getElem?_getD, List.getElem?_eq_getElem (show j < xs.length by omega)]
  · rw [List.getElem?_eq_none (by rw [flipTo_len]; omega), List.getElem?_eq_none (by omega)]
theorem flipTo_all (a d : Bool) (xs : List Int) : flipTo a d xs 64 = flip a d xs := by
  unfold flipTo flip
  apply List.map_congr_left
  intro j hj
  rw [if_pos (by simpa using hj)]
theorem flipTo_get (a d : Bool) (xs : List Int) (i : Nat) (h : i < 64) : (flipTo a d xs i).getD i 0 = xs.getD i 0 := by
  simp [flipTo, List.getD_eq_getElem?_getD, h]
theorem flipTo_succ (a d : Bool) (xs : List Int) (i : Nat) (h : i < 64) : (flipTo a d xs i).set i (flipAt a d i (xs.getD i 0)) = flipTo a d xs (i + 1) := by
  apply List.ext_getElem?
  intro j
  rw [List.getElem?_set]
  by_cases hj : j < 64
  · by_cases e : i = j
    · subst e; rw [if_pos rfl, if_pos (by rw [flipTo_len]; exact h)]; simp [flipTo, h]
    · rw [if_neg e]
      simp only [flipTo, List.getElem?_map, List.getElem?_range hj, Option.map_some]
      by_cases h2 : j < i
      · rw [if_pos h2, if_pos (by omega)]
      · rw [if_neg h2, if_neg (by omega)]
  · rw [if_neg (by omega), List.getElem?_eq_none (by rw [flipTo_len]; omega), List.getElem?_eq_none (by rw [flipTo_len]; omega)]
theorem flipTo_same (a d : Bool) (xs : List Int) (i : Nat) (h : i < 64) (e : flipAt a d i (xs.getD i 0) = xs.getD i 0) : flipTo a d xs i = flipTo a d xs (i + 1) := by
  rw [← flipTo_succ a d xs i h, e]
  apply List.ext_getElem?
  intro j
  rw [List.getElem?_set]
  by_cases e2 : i = j
  · subst e2; rw [if_pos rfl, if_pos (by rw [flipTo_len]; exact h)]
    have := flipTo_get a d xs i h
    rw [List.getD_eq_getElem?_getD, List.getElem?_eq_getElem (show i < (flipTo a d xs i).length by rw [flipTo_len]; exact h)] at this
    rw [List.getElem?_eq_getElem (show i < (flipTo a d xs i).length by rw [flipTo_len]; exact h)]
    simpa using this
  · rw [if_neg e2]
/-- What the turn k does to a block. -/
def block (k : Int) (xs : List Int) : List Int :=
  if 0 ≤ k ∧ k < 8 then flip (decide (k % 2 = 1)) (decide (k / 2 % 2 = 1)) (if 4 ≤ k then Zg.swap xs else xs) else List.replicate 64 0
theorem block_len (k : Int) (xs : List Int) : (block k xs).length = 64 := by
  unfold block; split
  · exact flip_len _ _ _
  · simp
def table (k : Int) (xs : List Int) : List Int := if 0 ≤ k ∧ k < 8 then (if 4 ≤ k then Zg.swap xs else xs) else List.replicate 64 0
end Tu
theorem Zg.swap_len (xs : List Int) : (Zg.swap xs).length = 64 := by simp [Zg.swap]
theorem block_no (k : Int) (h : k < 0 ∨ 8 ≤ k) (xs : List Int) (_hx : xs.length = 64) (w : World) : Calls Tryz.prog 56 #[.int .i64 k, .agg (ints .i16 xs)] w fun e w' => e = .returned (.agg (ints .i16 (List.replicate 64 0))) ∧ Below w.heap.size w w' := by
  go_enter Tryz.func56, Tryz.ntmps56
  go_wp2_with (first | (go_at_call 49; refine (right_no _ (by assumption) _).mono ?_; rintro e w' ⟨rfl, rfl⟩) | (refine wpList_store_row rfl 66 _ _ rfl (w.heap.size + 1) (ints .i16 (List.replicate 64 0)) rfl rfl 66 (ints .i16 (List.replicate 64 0)) (Blk.new' _ _ _ (by simp)) (by rw [ints_size]; kernel_rfl) (by simp) (ints_one _ _) ?_))
  refine bodyPost_ret (results_cell_row rfl _ _ (w.heap.size + 1) 66 _ _ _ rfl ((Blk.new' _ _ _ (by simp)).row _) Tryz.underlying66 rfl (by rw [ints_size]; kernel_rfl)) rfl ⟨rfl, ?_⟩
  exact Below.setRow (((Below.refl _ _).alloc (Nat.le_refl _) _).alloc (by simp) _) (by omega) _
set_option maxRecDepth 100000 in
set_option maxHeartbeats 2000000 in
theorem block_000 (k : Int) (h0 : 0 ≤ k) (h8 : k < 8) (hs : ¬ 4 ≤ k) (ha : k % 2 ≠ 1) (hd : k / 2 % 2 ≠ 1) (xs : List Int) (hx : xs.length = 64) (w : World) :
    Calls Tryz.prog 56 #[.int .i64 k, .agg (ints .i16 xs)] w fun e w' => e = .returned (.agg (ints .i16 (Tu.flip false false xs))) ∧ Below w.heap.size w w' := by
  rw [← Tu.flipTo_all]
  have e1 := and1 k h0 h8
  have e2 := and2 k h0 h8
  have e4 := and4 k h0 h8
  have t4 : (k / 4 * 4 != 0) = false := by rw [bne_eq_false_iff_eq]; omega
  have t1 : (k % 2 != 0) = false := by rw [bne_eq_false_iff_eq]; omega
  have t2 : (k / 2 % 2 * 2 != 0) = false := by rw [bne_eq_false_iff_eq]; omega
  clear hs ha hd
  obtain ⟨N, hN⟩ : ∃ N, N = w.heap.size := ⟨_, rfl⟩
  have HN := Lib.hid hN
  rw [← hN]
  clear hN
  go_enter Tryz.func56, Tryz.ntmps56
  go_wp2_with (first | (go_at_call 49; refine (right_yes _ (by assumption) (by assumption) _).mono ?_; rintro e w' ⟨rfl, rfl⟩) | (refine wpList_load_row rfl 66 _ rfl w.heap.size rfl 66 _ _ _ ((Blk.new _ (ints .i16 xs) _).alloc _) Tryz.underlying66 rfl (by rw [ints_size, hx]; kernel_rfl) ?_))
  refine wp_world (fun W => Blk W N (ints .i16 (Tu.flipTo false false xs 0)) 66 ∧ Blk W (N+1) (ints .i16 (List.replicate 64 0)) 66 ∧ Below N w W) ⟨?_, ?_, ?_⟩ ?_
  · rw [Tu.flipTo_zero _ _ _ hx]; exact (Blk.new' _ _ _ HN.out).alloc _
  · exact Blk.new' _ _ _ (by rw [HN.out]; simp)
  · exact ((Below.refl _ _).alloc (by rw [HN.out]; exact Nat.le_refl _) _).alloc (by rw [HN.out]; simp) _
  rintro W0 ⟨h0, h1, hB⟩
  rw [← HN.out]
  go_loopw [5, 6, 16] (fun _ _ i wr => ∃ j : Nat, j ≤ 64 ∧ i = .int .i64 j ∧ Blk wr N (ints .i16 (Tu.flipTo false false xs j)) 66 ∧ Blk wr (N+1) (ints .i16 (List.replicate 64 0)) 66 ∧ Below N w wr) (fun _ _ i _ => 64 - (intOf i).toNat)
  case atStart => exact ⟨0, by omega, rfl, h0, h1, hB⟩
  case round =>
    obtain ⟨j, hj, rfl, b0, b1, hB⟩ := hrel
    clear h0 h1
    by_cases hlt : j < 64
    · have f1 := and_one_i64 (j : Int) (by omega) (by omega)
      have f2 := and_one_i64 ((j : Int) / 8) (by omega) (by omega)
      have c0 := (b0.cell j).trans (ints_get _ _ _ (by rw [Tu.flipTo_len]; exact hlt))
      rw [Tu.flipTo_get _ _ _ _ hlt] at c0
      have f0 := b0.free j
      obtain ⟨x, hx0⟩ : ∃ x, xs.getD j 0 = x := ⟨_, rfl⟩
      rw [hx0] at c0
      have HX := Lib.hid hx0
      clear hx0
      go_wp2_with fail
      refine ⟨⟨j + 1, by omega, by go_num, ?_, b1, hB⟩, by simp [intOf]; omega⟩
      rw [← Tu.flipTo_same false false xs j hlt (by unfold Tu.flipAt; rw [if_neg (by simp; try omega)])]
      exact b0
    · obtain rfl : j = 64 := by omega
      go_wp2_with (first | (refine wpList_load_row rfl 66 _ rfl N rfl 66 _ _ _ b0 Tryz.underlying66 rfl (by rw [ints_size, Tu.flipTo_len]; kernel_rfl) ?_) | (refine wpList_store_row rfl 66 _ _ rfl (N + 1) _ rfl rfl 66 _ b1 (by rw [ints_size, Tu.flipTo_len]; kernel_rfl) (by simp [Tu.flipTo_len]) (ints_one _ _) ?_))
      refine bodyPost_ret (results_cell_row rfl _ _ (N + 1) 66 _ _ _ rfl (b1.row _) Tryz.underlying66 rfl (by rw [ints_size, Tu.flipTo_len]; kernel_rfl)) rfl ⟨rfl, ?_⟩
      exact Below.setRow hB (by omega) _
set_option maxRecDepth 100000 in
set_option maxHeartbeats 2000000 in
theorem block_001 (k : Int) (h0 : 0 ≤ k) (h8 : k < 8) (hs : ¬ 4 ≤ k) (ha : k % 2 ≠ 1) (hd : k / 2 % 2 = 1) (xs : List Int) (hx : xs.length = 64) (w : World) :
    Calls Tryz.prog 56 #[.int .i64 k, .agg (ints .i16 xs)] w fun e w' => e = .returned (.agg (ints .i16 (Tu.flip false true xs))) ∧ Below w.heap.size w w' := by
  rw [← Tu.flipTo_all]
  have e1 := and1 k h0 h8
  have e2 := and2 k h0 h8
  have e4 := and4 k h0 h8
  have t4 : (k / 4 * 4 != 0) = false := by rw [bne_eq_false_iff_eq]; omega
  have t1 : (k % 2 != 0) = false := by rw [bne_eq_false_iff_eq]; omega
  have t2 : (k / 2 % 2 * 2 != 0) = true := by rw [bne_iff_ne]; omega
  clear hs ha hd
  obtain ⟨N, hN⟩ : ∃ N, N = w.heap.size := ⟨_, rfl⟩
  have HN := Lib.hid hN
  rw [← hN]
  clear hN
  go_enter Tryz.func56, Tryz.ntmps56
  go_wp2_with (first | (go_at_call 49; refine (right_yes _ (by assumption) (by assumption) _).mono ?_; rintro e w' ⟨rfl, rfl⟩) | (refine wpList_load_row rfl 66 _ rfl w.heap.size rfl 66 _ _ _ ((Blk.new _ (ints .i16 xs) _).alloc _) Tryz.underlying66 rfl (by rw [ints_size, hx]; kernel_rfl) ?_))
  refine wp_world (fun W => Blk W N (ints .i16 (Tu.flipTo false true xs 0)) 66 ∧ Blk W (N+1) (ints .i16 (List.replicate 64 0)) 66 ∧ Below N w W) ⟨?_, ?_, ?_⟩ ?_
  · rw [Tu.flipTo_zero _ _ _ hx]; exact (Blk.new' _ _ _ HN.out).alloc _
  · exact Blk.new' _ _ _ (by rw [HN.out]; simp)
  · exact ((Below.refl _ _).alloc (by rw [HN.out]; exact Nat.le_refl _) _).alloc (by rw [HN.out]; simp) _
  rintro W0 ⟨h0, h1, hB⟩
  rw [← HN.out]
  go_loopw [5, 6, 16] (fun _ _ i wr => ∃ j : Nat, j ≤ 64 ∧ i = .int .i64 j ∧ Blk wr N (ints .i16 (Tu.flipTo false true xs j)) 66 ∧ Blk wr (N+1) (ints .i16 (List.replicate 64 0)) 66 ∧ Below N w wr) (fun _ _ i _ => 64 - (intOf i).toNat)
  case atStart => exact ⟨0, by omega, rfl, h0, h1, hB⟩
  case round =>
    obtain ⟨j, hj, rfl, b0, b1, hB⟩ := hrel
    clear h0 h1
    by_cases hlt : j < 64
    · have f1 := and_one_i64 (j : Int) (by omega) (by omega)
      have f2 := and_one_i64 ((j : Int) / 8) (by omega) (by omega)
      have c0 := (b0.cell j).trans (ints_get _ _ _ (by rw [Tu.flipTo_len]; exact hlt))
      rw [Tu.flipTo_get _ _ _ _ hlt] at c0
      have f0 := b0.free j
      obtain ⟨x, hx0⟩ : ∃ x, xs.getD j 0 = x := ⟨_, rfl⟩
      rw [hx0] at c0
      have HX := Lib.hid hx0
      clear hx0
      by_cases hq : j / 8 % 2 = 1
      · have v2 : (j : Int) / 8 % 2 = 1 := by omega
        go_wp2_with fail
        refine ⟨⟨j + 1, by omega, by go_num, ?_, b1.other _ _ (by show N + 1 ≠ N; omega), hB.setCell (Nat.le_refl _) _⟩, by simp [intOf]; omega⟩
        have h2 := b0.set j (.int .i16 (IntKind.i16.wrap (-x)))
        have h3 := Tu.flipTo_succ false true xs j hlt
        rw [show Tu.flipAt false true j (xs.getD j 0) = IntKind.i16.wrap (-x) from by rw [HX.out]; unfold Tu.flipAt; rw [if_pos (by simp; omega)]] at h3
        rw [ints_set, h3] at h2
        exact h2
      · have v2 : (j : Int) / 8 % 2 = 0 := by omega
        go_wp2_with fail
        refine ⟨⟨j + 1, by omega, by go_num, ?_, b1, hB⟩, by simp [intOf]; omega⟩
        rw [← Tu.flipTo_same false true xs j hlt (by unfold Tu.flipAt; rw [if_neg (by simp; try omega)])]
        exact b0
    · obtain rfl : j = 64 := by omega
      go_wp2_with (first | (refine wpList_load_row rfl 66 _ rfl N rfl 66 _ _ _ b0 Tryz.underlying66 rfl (by rw [ints_size, Tu.flipTo_len]; kernel_rfl) ?_) | (refine wpList_store_row rfl 66 _ _ rfl (N + 1) _ rfl rfl 66 _ b1 (by rw [ints_size, Tu.flipTo_len]; kernel_rfl) (by simp [Tu.flipTo_len]) (ints_one _ _) ?_))
      refine bodyPost_ret (results_cell_row rfl _ _ (N + 1) 66 _ _ _ rfl (b1.row _) Tryz.underlying66 rfl (by rw [ints_size, Tu.flipTo_len]; kernel_rfl)) rfl ⟨rfl, ?_⟩
      exact Below.setRow hB (by omega) _
set_option maxRecDepth 100000 in
set_option maxHeartbeats 2000000 in
theorem block_010 (k : Int) (h0 : 0 ≤ k) (h8 : k < 8) (hs : ¬ 4 ≤ k) (ha : k % 2 = 1) (hd : k / 2 % 2 ≠ 1) (xs : List Int) (hx : xs.length = 64) (w : World) :
    Calls Tryz.prog 56 #[.int .i64 k, .agg (ints .i16 xs)] w fun e w' => e = .returned (.agg (ints .i16 (Tu.flip true false xs))) ∧ Below w.heap.size w w' := by
  rw [← Tu.flipTo_all]
  have e1 := and1 k h0 h8
  have e2 := and2 k h0 h8
  have e4 := and4 k h0 h8
  have t4 : (k / 4 * 4 != 0) = false := by rw [bne_eq_false_iff_eq]; omega
  have t1 : (k % 2 != 0) = true := by rw [bne_iff_ne]; omega
  have t2 : (k / 2 % 2 * 2 != 0) = false := by rw [bne_eq_false_iff_eq]; omega
  clear hs ha hd
  obtain ⟨N, hN⟩ : ∃ N, N = w.heap.size := ⟨_, rfl⟩
  have HN := Lib.hid hN
  rw [← hN]
  clear hN
  go_enter Tryz.func56, Tryz.ntmps56
  go_wp2_with (first | (go_at_call 49; refine (right_yes _ (by assumption) (by assumption) _).mono ?_; rintro e w' ⟨rfl, rfl⟩) | (refine wpList_load_row rfl 66 _ rfl w.heap.size rfl 66 _ _ _ ((Blk.new _ (ints .i16 xs) _).alloc _) Tryz.underlying66 rfl (by rw [ints_size, hx]; kernel_rfl) ?_))
  refine wp_world (fun W => Blk W N (ints .i16 (Tu.flipTo true false xs 0)) 66 ∧ Blk W (N+1) (ints .i16 (List.replicate 64 0)) 66 ∧ Below N w W) ⟨?_, ?_, ?_⟩ ?_
  · rw [Tu.flipTo_zero _ _ _ hx]; exact (Blk.new' _ _ _ HN.out).alloc _
  · exact Blk.new' _ _ _ (by rw [HN.out]; simp)
  · exact ((Below.refl _ _).alloc (by rw [HN.out]; exact Nat.le_refl _) _).alloc (by rw [HN.out]; simp) _
  rintro W0 ⟨h0, h1, hB⟩
  rw [← HN.out]
  go_loopw [5, 6, 16] (fun _ _ i wr => ∃ j : Nat, j ≤ 64 ∧ i = .int .i64 j ∧ Blk wr N (ints .i16 (Tu.flipTo true false xs j)) 66 ∧ Blk wr (N+1) (ints .i16 (List.replicate 64 0)) 66 ∧ Below N w wr) (fun _ _ i _ => 64 - (intOf i).toNat)
  case atStart => exact ⟨0, by omega, rfl, h0, h1, hB⟩
  case round =>
    obtain ⟨j, hj, rfl, b0, b1, hB⟩ := hrel
    clear h0 h1
    by_cases hlt : j < 64
    · have f1 := and_one_i64 (j : Int) (by omega) (by omega)
      have f2 := and_one_i64 ((j : Int) / 8) (by omega) (by omega)
      have c0 := (b0.cell j).trans (ints_get _ _ _ (by rw [Tu.flipTo_len]; exact hlt))
      rw [Tu.flipTo_get _ _ _ _ hlt] at c0
      have f0 := b0.free j
      obtain ⟨x, hx0⟩ : ∃ x, xs.getD j 0 = x := ⟨_, rfl⟩
      rw [hx0] at c0
      have HX := Lib.hid hx0
      clear hx0
      by_cases hp : j % 2 = 1
      · have v1 : (j : Int) % 2 = 1 := by omega
        go_wp2_with fail
        refine ⟨⟨j + 1, by omega, by go_num, ?_, b1.other _ _ (by show N + 1 ≠ N; omega), hB.setCell (Nat.le_refl _) _⟩, by simp [intOf]; omega⟩
        have h2 := b0.set j (.int .i16 (IntKind.i16.wrap (-x)))
        have h3 := Tu.flipTo_succ true false xs j hlt
        rw [show Tu.flipAt true false j (xs.getD j 0) = IntKind.i16.wrap (-x) from by rw [HX.out]; unfold Tu.flipAt; rw [if_pos (by simp; omega)]] at h3
        rw [ints_set, h3] at h2
        exact h2
      · have v1 : (j : Int) % 2 = 0 := by omega
        go_wp2_with fail
        refine ⟨⟨j + 1, by omega, by go_num, ?_, b1, hB⟩, by simp [intOf]; omega⟩
        rw [← Tu.flipTo_same true false xs j hlt (by unfold Tu.flipAt; rw [if_neg (by simp; try omega)])]
        exact b0
    · obtain rfl : j = 64 := by omega
      go_wp2_with (first | (refine wpList_load_row rfl 66 _ rfl N rfl 66 _ _ _ b0 Tryz.underlying66 rfl (by rw [ints_size, Tu.flipTo_len]; kernel_rfl) ?_) | (refine wpList_store_row rfl 66 _ _ rfl (N + 1) _ rfl rfl 66 _ b1 (by rw [ints_size, Tu.flipTo_len]; kernel_rfl) (by simp [Tu.flipTo_len]) (ints_one _ _) ?_))
      refine bodyPost_ret (results_cell_row rfl _ _ (N + 1) 66 _ _ _ rfl (b1.row _) Tryz.underlying66 rfl (by rw [ints_size, Tu.flipTo_len]; kernel_rfl)) rfl ⟨rfl, ?_⟩
      exact Below.setRow hB (by omega) _
set_option maxRecDepth 100000 in
set_option maxHeartbeats 2000000 in
theorem block_011 (k : Int) (h0 : 0 ≤ k) (h8 : k < 8) (hs : ¬ 4 ≤ k) (ha : k % 2 = 1) (hd : k / 2 % 2 = 1) (xs : List Int) (hx : xs.length = 64) (w : World) :
    Calls Tryz.prog 56 #[.int .i64 k, .agg (ints .i16 xs)] w fun e w' => e = .returned (.agg (ints .i16 (Tu.flip true true xs))) ∧ Below w.heap.size w w' := by
  rw [← Tu.flipTo_all]
  have e1 := and1 k h0 h8
  have e2 := and2 k h0 h8
  have e4 := and4 k h0 h8
  have t4 : (k / 4 * 4 != 0) = false := by rw [bne_eq_false_iff_eq]; omega
  have t1 : (k % 2 != 0) = true := by rw [bne_iff_ne]; omega
  have t2 : (k / 2 % 2 * 2 != 0) = true := by rw [bne_iff_ne]; omega
  clear hs ha hd
  obtain ⟨N, hN⟩ : ∃ N, N = w.heap.size := ⟨_, rfl⟩
  have HN := Lib.hid hN
  rw [← hN]
  clear hN
  go_enter Tryz.func56, Tryz.ntmps56
  go_wp2_with (first | (go_at_call 49; refine (right_yes _ (by assumption) (by assumption) _).mono ?_; rintro e w' ⟨rfl, rfl⟩) | (refine wpList_load_row rfl 66 _ rfl w.heap.size rfl 66 _ _ _ ((Blk.new _ (ints .i16 xs) _).alloc _) Tryz.underlying66 rfl (by rw [ints_size, hx]; kernel_rfl) ?_))
  refine wp_world (fun W => Blk W N (ints .i16 (Tu.flipTo true true xs 0)) 66 ∧ Blk W (N+1) (ints .i16 (List.replicate 64 0)) 66 ∧ Below N w W) ⟨?_, ?_, ?_⟩ ?_
  · rw [Tu.flipTo_zero _ _ _ hx]; exact (Blk.new' _ _ _ HN.out).alloc _
  · exact Blk.new' _ _ _ (by rw [HN.out]; simp)
  · exact ((Below.refl _ _).alloc (by rw [HN.out]; exact Nat.le_refl _) _).alloc (by rw [HN.out]; simp) _
  rintro W0 ⟨h0, h1, hB⟩
  rw [← HN.out]
  go_loopw [5, 6, 16] (fun _ _ i wr => ∃ j : Nat, j ≤ 64 ∧ i = .int .i64 j ∧ Blk wr N (ints .i16 (Tu.flipTo true true xs j)) 66 ∧ Blk wr (N+1) (ints .i16 (List.replicate 64 0)) 66 ∧ Below N w wr) (fun _ _ i _ => 64 - (intOf i).toNat)
  case atStart => exact ⟨0, by omega, rfl, h0, h1, hB⟩
  case round =>
    obtain ⟨j, hj, rfl, b0, b1, hB⟩ := hrel
    clear h0 h1
    by_cases hlt : j < 64
    · have f1 := and_one_i64 (j : Int) (by omega) (by omega)
      have f2 := and_one_i64 ((j : Int) / 8) (by omega) (by omega)
      have c0 := (b0.cell j).trans (ints_get _ _ _ (by rw [Tu.flipTo_len]; exact hlt))
      rw [Tu.flipTo_get _ _ _ _ hlt] at c0
      have f0 := b0.free j
      obtain ⟨x, hx0⟩ : ∃ x, xs.getD j 0 = x := ⟨_, rfl⟩
      rw [hx0] at c0
      have HX := Lib.hid hx0
      clear hx0
      by_cases hp : j % 2 = 1
      · have v1 : (j : Int) % 2 = 1 := by omega
        by_cases hq : j / 8 % 2 = 1
        · have v2 : (j : Int) / 8 % 2 = 1 := by omega
          go_wp2_with fail
          refine ⟨⟨j + 1, by omega, by go_num, ?_, b1, hB⟩, by simp [intOf]; omega⟩
          rw [← Tu.flipTo_same true true xs j hlt (by unfold Tu.flipAt; rw [if_neg (by simp; try omega)])]
          exact b0
        · have v2 : (j : Int) / 8 % 2 = 0 := by omega
          go_wp2_with fail
          refine ⟨⟨j + 1, by omega, by go_num, ?_, b1.other _ _ (by show N + 1 ≠ N; omega), hB.setCell (Nat.le_refl _) _⟩, by simp [intOf]; omega⟩
          have h2 := b0.set j (.int .i16 (IntKind.i16.wrap (-x)))
          have h3 := Tu.flipTo_succ true true xs j hlt
          rw [show Tu.flipAt true true j (xs.getD j 0) = IntKind.i16.wrap (-x) from by rw [HX.out]; unfold Tu.flipAt; rw [if_pos (by simp; omega)]] at h3
          rw [ints_set, h3] at h2
          exact h2
      · have v1 : (j : Int) % 2 = 0 := by omega
        by_cases hq : j / 8 % 2 = 1
        · have v2 : (j : Int) / 8 % 2 = 1 := by omega
          go_wp2_with fail
          refine ⟨⟨j + 1, by omega, by go_num, ?_, b1.other _ _ (by show N + 1 ≠ N; omega), hB.setCell (Nat.le_refl _) _⟩, by simp [intOf]; omega⟩
          have h2 := b0.set j (.int .i16 (IntKind.i16.wrap (-x)))
          have h3 := Tu.flipTo_succ true true xs j hlt
          rw [show Tu.flipAt true true j (xs.getD j 0) = IntKind.i16.wrap (-x) from by rw [HX.out]; unfold Tu.flipAt; rw [if_pos (by simp; omega)]] at h3
          rw [ints_set, h3] at h2
          exact h2
        · have v2 : (j : Int) / 8 % 2 = 0 := by omega
          go_wp2_with fail
          refine ⟨⟨j + 1, by omega, by go_num, ?_, b1, hB⟩, by simp [intOf]; omega⟩
          rw [← Tu.flipTo_same true true xs j hlt (by unfold Tu.flipAt; rw [if_neg (by simp; try omega)])]
          exact b0
    · obtain rfl : j = 64 := by omega
      go_wp2_with (first | (refine wpList_load_row rfl 66 _ rfl N rfl 66 _ _ _ b0 Tryz.underlying66 rfl (by rw [ints_size, Tu.flipTo_len]; kernel_rfl) ?_) | (refine wpList_store_row rfl 66 _ _ rfl (N + 1) _ rfl rfl 66 _ b1 (by rw [ints_size, Tu.flipTo_len]; kernel_rfl) (by simp [Tu.flipTo_len]) (ints_one _ _) ?_))
      refine bodyPost_ret (results_cell_row rfl _ _ (N + 1) 66 _ _ _ rfl (b1.row _) Tryz.underlying66 rfl (by rw [ints_size, Tu.flipTo_len]; kernel_rfl)) rfl ⟨rfl, ?_⟩
      exact Below.setRow hB (by omega) _
set_option maxRecDepth 100000 in
set_option maxHeartbeats 2000000 in
theorem block_100 (k : Int) (h0 : 0 ≤ k) (h8 : k < 8) (hs : 4 ≤ k) (ha : k % 2 ≠ 1) (hd : k / 2 % 2 ≠ 1) (xs : List Int) (hx : xs.length = 64) (w : World) :
    Calls Tryz.prog 56 #[.int .i64 k, .agg (ints .i16 xs)] w fun e w' => e = .returned (.agg (ints .i16 (Tu.flip false false (Zg.swap xs)))) ∧ Below w.heap.size w w' := by
  rw [← Tu.flipTo_all]
  have e1 := and1 k h0 h8
  have e2 := and2 k h0 h8
  have e4 := and4 k h0 h8
  have t4 : (k / 4 * 4 != 0) = true := by rw [bne_iff_ne]; omega
  have t1 : (k % 2 != 0) = false := by rw [bne_eq_false_iff_eq]; omega
  have t2 : (k / 2 % 2 * 2 != 0) = false := by rw [bne_eq_false_iff_eq]; omega
  clear hs ha hd
  obtain ⟨N, hN⟩ : ∃ N, N = w.heap.size := ⟨_, rfl⟩
  have HN := Lib.hid hN
  rw [← hN]
  clear hN
  go_enter Tryz.func56, Tryz.ntmps56
  go_wp2_with (first | (go_at_call 49; refine (right_yes _ (by assumption) (by assumption) _).mono ?_; rintro e w' ⟨rfl, rfl⟩) | (refine wpList_load_row rfl 66 _ rfl w.heap.size rfl 66 _ _ _ ((Blk.new _ (ints .i16 xs) _).alloc _) Tryz.underlying66 rfl (by rw [ints_size, hx]; kernel_rfl) ?_))
  refine (swap_i16 xs hx _).mono ?_
  rintro e w1 ⟨rfl, hb1⟩
  have g0 : Blk w1 N (ints .i16 xs) 66 := Blk.below ((Blk.new' _ _ _ HN.out).alloc _) hb1 (by rw [HN.out]; simp; omega)
  have g1 : Blk w1 (N + 1) (ints .i16 (List.replicate 64 0)) 66 := Blk.below (Blk.new' _ _ _ (by rw [HN.out]; simp)) hb1 (by rw [HN.out]; simp)
  have hB1 : Below N w w1 := ((((Below.refl _ _).alloc (by rw [HN.out]; exact Nat.le_refl _) _).alloc (by rw [HN.out]; simp) _)).trans (hb1.mono (by rw [HN.out]; simp; omega))
  clear hb1
  rw [← HN.out]
  go_wp2_with (first | (refine wpList_store_row rfl 66 _ _ rfl N (ints .i16 (Zg.swap xs)) rfl rfl 66 (ints .i16 xs) g0 (by rw [ints_size, Zg.swap_len]; kernel_rfl) (by simp [hx, Zg.swap_len]) (ints_one _ _) ?_) | fail)
  refine wp_world (fun W => Blk W N (ints .i16 (Tu.flipTo false false (Zg.swap xs) 0)) 66 ∧ Blk W (N+1) (ints .i16 (List.replicate 64 0)) 66 ∧ Below N w W) ⟨by rw [Tu.flipTo_zero _ _ _ (Zg.swap_len xs)]; exact g0.row _, g1.rowOther _ _ (by omega), Below.setRow hB1 (Nat.le_refl _) _⟩ ?_
  clear g0 g1 hB1
  rintro W0 ⟨h0, h1, hB⟩
  go_loopw [5, 6, 16] (fun _ _ i wr => ∃ j : Nat, j ≤ 64 ∧ i = .int .i64 j ∧ Blk wr N (ints .i16 (Tu.flipTo false false (Zg.swap xs) j)) 66 ∧ Blk wr (N+1) (ints .i16 (List.replicate 64 0)) 66 ∧ Below N w wr) (fun _ _ i _ => 64 - (intOf i).toNat)
  case atStart => exact ⟨0, by omega, rfl, h0, h1, hB⟩
  case round =>
    obtain ⟨j, hj, rfl, b0, b1, hB⟩ := hrel
    clear h0 h1
    by_cases hlt : j < 64
    · have f1 := and_one_i64 (j : Int) (by omega) (by omega)
      have f2 := and_one_i64 ((j : Int) / 8) (by omega) (by omega)
      have c0 := (b0.cell j).trans (ints_get _ _ _ (by rw [Tu.flipTo_len]; exact hlt))
      rw [Tu.flipTo_get _ _ _ _ hlt] at c0
      have f0 := b0.free j
      obtain ⟨x, hx0⟩ : ∃ x, (Zg.swap xs).getD j 0 = x := ⟨_, rfl⟩
      rw [hx0] at c0
      have HX := Lib.hid hx0
      clear hx0
      go_wp2_with fail
      refine ⟨⟨j + 1, by omega, by go_num, ?_, b1, hB⟩, by simp [intOf]; omega⟩
      rw [← Tu.flipTo_same false false (Zg.swap xs) j hlt (by unfold Tu.flipAt; rw [if_neg (by simp; try omega)])]
      exact b0
    · obtain rfl : j = 64 := by omega
      go_wp2_with (first | (refine wpList_load_row rfl 66 _ rfl N rfl 66 _ _ _ b0 Tryz.underlying66 rfl (by rw [ints_size, Tu.flipTo_len]; kernel_rfl) ?_) | (refine wpList_store_row rfl 66 _ _ rfl (N + 1) _ rfl rfl 66 _ b1 (by rw [ints_size, Tu.flipTo_len]; kernel_rfl) (by simp [Tu.flipTo_len]) (ints_one _ _) ?_))
      refine bodyPost_ret (results_cell_row rfl _ _ (N + 1) 66 _ _ _ rfl (b1.row _) Tryz.underlying66 rfl (by rw [ints_size, Tu.flipTo_len]; kernel_rfl)) rfl ⟨rfl, ?_⟩
      exact Below.setRow hB (by omega) _
set_option maxRecDepth 100000 in
set_option maxHeartbeats 2000000 in
theorem block_101 (k : Int) (h0 : 0 ≤ k) (h8 : k < 8) (hs : 4 ≤ k) (ha : k % 2 ≠ 1) (hd : k / 2 % 2 = 1) (xs : List Int) (hx : xs.length = 64) (w : World) :
    Calls Tryz.prog 56 #[.int .i64 k, .agg (ints .i16 xs)] w fun e w' => e = .returned (.agg (ints .i16 (Tu.flip false true (Zg.swap xs)))) ∧ Below w.heap.size w w' := by
  rw [← Tu.flipTo_all]
  have e1 := and1 k h0 h8
  have e2 := and2 k h0 h8
  have e4 := and4 k h0 h8
  have t4 : (k / 4 * 4 != 0) = true := by rw [bne_iff_ne]; omega
  have t1 : (k % 2 != 0) = false := by rw [bne_eq_false_iff_eq]; omega
  have t2 : (k / 2 % 2 * 2 != 0) = true := by rw [bne_iff_ne]; omega
  clear hs ha hd
  obtain ⟨N, hN⟩ : ∃ N, N = w.heap.size := ⟨_, rfl⟩
  have HN := Lib.hid hN
  rw [← hN]
  clear hN
  go_enter Tryz.func56, Tryz.ntmps56
  go_wp2_with (first | (go_at_call 49; refine (right_yes _ (by assumption) (by assumption) _).mono ?_; rintro e w' ⟨rfl, rfl⟩) | (refine wpList_load_row rfl 66 _ rfl w.heap.size rfl 66 _ _ _ ((Blk.new _ (ints .i16 xs) _).alloc _) Tryz.underlying66 rfl (by rw [ints_size, hx]; kernel_rfl) ?_))
  refine (swap_i16 xs hx _).mono ?_
  rintro e w1 ⟨rfl, hb1⟩
  have g0 : Blk w1 N (ints .i16 xs) 66 := Blk.below ((Blk.new' _ _ _ HN.out).alloc _) hb1 (by rw [HN.out]; simp; omega)
  have g1 : Blk w1 (N + 1) (ints .i16 (List.replicate 64 0)) 66 := Blk.below (Blk.new' _ _ _ (by rw [HN.out]; simp)) hb1 (by rw [HN.out]; simp)
  have hB1 : Below N w w1 := ((((Below.refl _ _).alloc (by rw [HN.out]; exact Nat.le_refl _) _).alloc (by rw [HN.out]; simp) _)).trans (hb1.mono (by rw [HN.out]; simp; omega))
  clear hb1
  rw [← HN.out]
  go_wp2_with (first | (refine wpList_store_row rfl 66 _ _ rfl N (ints .i16 (Zg.swap xs)) rfl rfl 66 (ints .i16 xs) g0 (by rw [ints_size, Zg.swap_len]; kernel_rfl) (by simp [hx, Zg.swap_len]) (ints_one _ _) ?_) | fail)
  refine wp_world (fun W => Blk W N (ints .i16 (Tu.flipTo false true (Zg.swap xs) 0)) 66 ∧ Blk W (N+1) (ints .i16 (List.replicate 64 0)) 66 ∧ Below N w W) ⟨by rw [Tu.flipTo_zero _ _ _ (Zg.swap_len xs)]; exact g0.row _, g1.rowOther _ _ (by omega), Below.setRow hB1 (Nat.le_refl _) _⟩ ?_
  clear g0 g1 hB1
  rintro W0 ⟨h0, h1, hB⟩
  go_loopw [5, 6, 16] (fun _ _ i wr => ∃ j : Nat, j ≤ 64 ∧ i = .int .i64 j ∧ Blk wr N (ints .i16 (Tu.flipTo false true (Zg.swap xs) j)) 66 ∧ Blk wr (N+1) (ints .i16 (List.replicate 64 0)) 66 ∧ Below N w wr) (fun _ _ i _ => 64 - (intOf i).toNat)
  case atStart => exact ⟨0, by omega, rfl, h0, h1, hB⟩
  case round =>
    obtain ⟨j, hj, rfl, b0, b1, hB⟩ := hrel
    clear h0 h1
    by_cases hlt : j < 64
    · have f1 := and_one_i64 (j : Int) (by omega) (by omega)
      have f2 := and_one_i64 ((j : Int) / 8) (by omega) (by omega)
      have c0 := (b0.cell j).trans (ints_get _ _ _ (by rw [Tu.flipTo_len]; exact hlt))
      rw [Tu.flipTo_get _ _ _ _ hlt] at c0
      have f0 := b0.free j
      obtain ⟨x, hx0⟩ : ∃ x, (Zg.swap xs).getD j 0 = x := ⟨_, rfl⟩
      rw [hx0] at c0
      have HX := Lib.hid hx0
      clear hx0
      by_cases hq : j / 8 % 2 = 1
      · have v2 : (j : Int) / 8 % 2 = 1 := by omega
        go_wp2_with fail
        refine ⟨⟨j + 1, by omega, by go_num, ?_, b1.other _ _ (by show N + 1 ≠ N; omega), hB.setCell (Nat.le_refl _) _⟩, by simp [intOf]; omega⟩
        have h2 := b0.set j (.int .i16 (IntKind.i16.wrap (-x)))
        have h3 := Tu.flipTo_succ false true (Zg.swap xs) j hlt
        rw [show Tu.flipAt false true j ((Zg.swap xs).getD j 0) = IntKind.i16.wrap (-x) from by rw [HX.out]; unfold Tu.flipAt; rw [if_pos (by simp; omega)]] at h3
        rw [ints_set, h3] at h2
        exact h2
      · have v2 : (j : Int) / 8 % 2 = 0 := by omega
        go_wp2_with fail
        refine ⟨⟨j + 1, by omega, by go_num, ?_, b1, hB⟩, by simp [intOf]; omega⟩
        rw [← Tu.flipTo_same false true (Zg.swap xs) j hlt (by unfold Tu.flipAt; rw [if_neg (by simp; try omega)])]
        exact b0
    · obtain rfl : j = 64 := by omega
      go_wp2_with (first | (refine wpList_load_row rfl 66 _ rfl N rfl 66 _ _ _ b0 Tryz.underlying66 rfl (by rw [ints_size, Tu.flipTo_len]; kernel_rfl) ?_) | (refine wpList_store_row rfl 66 _ _ rfl (N + 1) _ rfl rfl 66 _ b1 (by rw [ints_size, Tu.flipTo_len]; kernel_rfl) (by simp [Tu.flipTo_len]) (ints_one _ _) ?_))
      refine bodyPost_ret (results_cell_row rfl _ _ (N + 1) 66 _ _ _ rfl (b1.row _) Tryz.underlying66 rfl (by rw [ints_size, Tu.flipTo_len]; kernel_rfl)) rfl ⟨rfl, ?_⟩
      exact Below.setRow hB (by omega) _
set_option maxRecDepth 100000 in
set_option maxHeartbeats 2000000 in
theorem block_110 (k : Int) (h0 : 0 ≤ k) (h8 : k < 8) (hs : 4 ≤ k) (ha : k % 2 = 1) (hd : k / 2 % 2 ≠ 1) (xs : List Int) (hx : xs.length = 64) (w : World) :
    Calls Tryz.prog 56 #[.int .i64 k, .agg (ints .i16 xs)] w fun e w' => e = .returned (.agg (ints .i16 (Tu.flip true false (Zg.swap xs)))) ∧ Below w.heap.size w w' := by
  rw [← Tu.flipTo_all]
  have e1 := and1 k h0 h8
  have e2 := and2 k h0 h8
  have e4 := and4 k h0 h8
  have t4 : (k / 4 * 4 != 0) = true := by rw [bne_iff_ne]; omega
  have t1 : (k % 2 != 0) = true := by rw [bne_iff_ne]; omega
  have t2 : (k / 2 % 2 * 2 != 0) = false := by rw [bne_eq_false_iff_eq]; omega
  clear hs ha hd
  obtain ⟨N, hN⟩ : ∃ N, N = w.heap.size := ⟨_, rfl⟩
  have HN := Lib.hid hN
  rw [← hN]
  clear hN
  go_enter Tryz.func56, Tryz.ntmps56
  go_wp2_with (first | (go_at_call 49; refine (right_yes _ (by assumption) (by assumption) _).mono ?_; rintro e w' ⟨rfl, rfl⟩) | (refine wpList_load_row rfl 66 _ rfl w.heap.size rfl 66 _ _ _ ((Blk.new _ (ints .i16 xs) _).alloc _) Tryz.underlying66 rfl (by rw [ints_size, hx]; kernel_rfl) ?_))
  refine (swap_i16 xs hx _).mono ?_
  rintro e w1 ⟨rfl, hb1⟩
  have g0 : Blk w1 N (ints .i16 xs) 66 := Blk.below ((Blk.new' _ _ _ HN.out).alloc _) hb1 (by rw [HN.out]; simp; omega)
  have g1 : Blk w1 (N + 1) (ints .i16 (List.replicate 64 0)) 66 := Blk.below (Blk.new' _ _ _ (by rw [HN.out]; simp)) hb1 (by rw [HN.out]; simp)
  have hB1 : Below N w w1 := ((((Below.refl _ _).alloc (by rw [HN.out]; exact Nat.le_refl _) _).alloc (by rw [HN.out]; simp) _)).trans (hb1.mono (by rw [HN.out]; simp; omega))
  clear hb1
  rw [← HN.out]
  go_wp2_with (first | (refine wpList_store_row rfl 66 _ _ rfl N (ints .i16 (Zg.swap xs)) rfl rfl 66 (ints .i16 xs) g0 (by rw [ints_size, Zg.swap_len]; kernel_rfl) (by simp [hx, Zg.swap_len]) (ints_one _ _) ?_) | fail)
  refine wp_world (fun W => Blk W N (ints .i16 (Tu.flipTo true false (Zg.swap xs) 0)) 66 ∧ Blk W (N+1) (ints .i16 (List.replicate 64 0)) 66 ∧ Below N w W) ⟨by rw [Tu.flipTo_zero _ _ _ (Zg.swap_len xs)]; exact g0.row _, g1.rowOther _ _ (by omega), Below.setRow hB1 (Nat.le_refl _) _⟩ ?_
  clear g0 g1 hB1
  rintro W0 ⟨h0, h1, hB⟩
  go_loopw [5, 6, 16] (fun _ _ i wr => ∃ j : Nat, j ≤ 64 ∧ i = .int .i64 j ∧ Blk wr N (ints .i16 (Tu.flipTo true false (Zg.swap xs) j)) 66 ∧ Blk wr (N+1) (ints .i16 (List.replicate 64 0)) 66 ∧ Below N w wr) (fun _ _ i _ => 64 - (intOf i).toNat)
  case atStart => exact ⟨0, by omega, rfl, h0, h1, hB⟩
  case round =>
    obtain ⟨j, hj, rfl, b0, b1, hB⟩ := hrel
    clear h0 h1
    by_cases hlt : j < 64
    · have f1 := and_one_i64 (j : Int) (by omega) (by omega)
      have f2 := and_one_i64 ((j : Int) / 8) (by omega) (by omega)
      have c0 := (b0.cell j).trans (ints_get _ _ _ (by rw [Tu.flipTo_len]; exact hlt))
      rw [Tu.flipTo_get _ _ _ _ hlt] at c0
      have f0 := b0.free j
      obtain ⟨x, hx0⟩ : ∃ x, (Zg.swap xs).getD j 0 = x := ⟨_, rfl⟩
      rw [hx0] at c0
      have HX := Lib.hid hx0
      clear hx0
      by_cases hp : j % 2 = 1
      · have v1 : (j : Int) % 2 = 1 := by omega
        go_wp2_with fail
        refine ⟨⟨j + 1, by omega, by go_num, ?_, b1.other _ _ (by show N + 1 ≠ N; omega), hB.setCell (Nat.le_refl _) _⟩, by simp [intOf]; omega⟩
        have h2 := b0.set j (.int .i16 (IntKind.i16.wrap (-x)))
        have h3 := Tu.flipTo_succ true false (Zg.swap xs) j hlt
        rw [show Tu.flipAt true false j ((Zg.swap xs).getD j 0) = IntKind.i16.wrap (-x) from by rw [HX.out]; unfold Tu.flipAt; rw [if_pos (by simp; omega)]] at h3
        rw [ints_set, h3] at h2
        exact h2
      · have v1 : (j : Int) % 2 = 0 := by omega
        go_wp2_with fail
        refine ⟨⟨j + 1, by omega, by go_num, ?_, b1, hB⟩, by simp [intOf]; omega⟩
        rw [← Tu.flipTo_same true false (Zg.swap xs) j hlt (by unfold Tu.flipAt; rw [if_neg (by simp; try omega)])]
        exact b0
    · obtain rfl : j = 64 := by omega
      go_wp2_with (first | (refine wpList_load_row rfl 66 _ rfl N rfl 66 _ _ _ b0 Tryz.underlying66 rfl (by rw [ints_size, Tu.flipTo_len]; kernel_rfl) ?_) | (refine wpList_store_row rfl 66 _ _ rfl (N + 1) _ rfl rfl 66 _ b1 (by rw [ints_size, Tu.flipTo_len]; kernel_rfl) (by simp [Tu.flipTo_len]) (ints_one _ _) ?_))
      refine bodyPost_ret (results_cell_row rfl _ _ (N + 1) 66 _ _ _ rfl (b1.row _) Tryz.underlying66 rfl (by rw [ints_size, Tu.flipTo_len]; kernel_rfl)) rfl ⟨rfl, ?_⟩
      exact Below.setRow hB (by omega) _
set_option maxRecDepth 100000 in
set_option maxHeartbeats 2000000 in
theorem block_111 (k : Int) (h0 : 0 ≤ k) (h8 : k < 8) (hs : 4 ≤ k) (ha : k % 2 = 1) (hd : k / 2 % 2 = 1) (xs : List Int) (hx : xs.length = 64) (w : World) :
    Calls Tryz.prog 56 #[.int .i64 k, .agg (ints .i16 xs)] w fun e w' => e = .returned (.agg (ints .i16 (Tu.flip true true (Zg.swap xs)))) ∧ Below w.heap.size w w' := by
  rw [← Tu.flipTo_all]
  have e1 := and1 k h0 h8
  have e2 := and2 k h0 h8
  have e4 := and4 k h0 h8
  have t4 : (k / 4 * 4 != 0) = true := by rw [bne_iff_ne]; omega
  have t1 : (k % 2 != 0) = true := by rw [bne_iff_ne]; omega
  have t2 : (k / 2 % 2 * 2 != 0) = true := by rw [bne_iff_ne]; omega
  clear hs ha hd
  obtain ⟨N, hN⟩ : ∃ N, N = w.heap.size := ⟨_, rfl⟩
  have HN := Lib.hid hN
  rw [← hN]
  clear hN
  go_enter Tryz.func56, Tryz.ntmps56
  go_wp2_with (first | (go_at_call 49; refine (right_yes _ (by assumption) (by assumption) _).mono ?_; rintro e w' ⟨rfl, rfl⟩) | (refine wpList_load_row rfl 66 _ rfl w.heap.size rfl 66 _ _ _ ((Blk.new _ (ints .i16 xs) _).alloc _) Tryz.underlying66 rfl (by rw [ints_size, hx]; kernel_rfl) ?_))
  refine (swap_i16 xs hx _).mono ?_
  rintro e w1 ⟨rfl, hb1⟩
  have g0 : Blk w1 N (ints .i16 xs) 66 := Blk.below ((Blk.new' _ _ _ HN.out).alloc _) hb1 (by rw [HN.out]; simp; omega)
  have g1 : Blk w1 (N + 1) (ints .i16 (List.replicate 64 0)) 66 := Blk.below (Blk.new' _ _ _ (by rw [HN.out]; simp)) hb1 (by rw [HN.out]; simp)
  have hB1 : Below N w w1 := ((((Below.refl _ _).alloc (by rw [HN.out]; exact Nat.le_refl _) _).alloc (by rw [HN.out]; simp) _)).trans (hb1.mono (by rw [HN.out]; simp; omega))
  clear hb1
  rw [← HN.out]
  go_wp2_with (first | (refine wpList_store_row rfl 66 _ _ rfl N (ints .i16 (Zg.swap xs)) rfl rfl 66 (ints .i16 xs) g0 (by rw [ints_size, Zg.swap_len]; kernel_rfl) (by simp [hx, Zg.swap_len]) (ints_one _ _) ?_) | fail)
  refine wp_world (fun W => Blk W N (ints .i16 (Tu.flipTo true true (Zg.swap xs) 0)) 66 ∧ Blk W (N+1) (ints .i16 (List.replicate 64 0)) 66 ∧ Below N w W) ⟨by rw [Tu.flipTo_zero _ _ _ (Zg.swap_len xs)]; exact g0.row _, g1.rowOther _ _ (by omega), Below.setRow hB1 (Nat.le_refl _) _⟩ ?_
  clear g0 g1 hB1
  rintro W0 ⟨h0, h1, hB⟩
  go_loopw [5, 6, 16] (fun _ _ i wr => ∃ j : Nat, j ≤ 64 ∧ i = .int .i64 j ∧ Blk wr N (ints .i16 (Tu.flipTo true true (Zg.swap xs) j)) 66 ∧ Blk wr (N+1) (ints .i16 (List.replicate 64 0)) 66 ∧ Below N w wr) (fun _ _ i _ => 64 - (intOf i).toNat)
  case atStart => exact ⟨0, by omega, rfl, h0, h1, hB⟩
  case round =>
    obtain ⟨j, hj, rfl, b0, b1, hB⟩ := hrel
    clear h0 h1
    by_cases hlt : j < 64
    · have f1 := and_one_i64 (j : Int) (by omega) (by omega)
      have f2 := and_one_i64 ((j : Int) / 8) (by omega) (by omega)
      have c0 := (b0.cell j).trans (ints_get _ _ _ (by rw [Tu.flipTo_len]; exact hlt))
      rw [Tu.flipTo_get _ _ _ _ hlt] at c0
      have f0 := b0.free j
      obtain ⟨x, hx0⟩ : ∃ x, (Zg.swap xs).getD j 0 = x := ⟨_, rfl⟩
      rw [hx0] at c0
      have HX := Lib.hid hx0
      clear hx0
      by_cases hp : j % 2 = 1
      · have v1 : (j : Int) % 2 = 1 := by omega
        by_cases hq : j / 8 % 2 = 1
        · have v2 : (j : Int) / 8 % 2 = 1 := by omega
          go_wp2_with fail
          refine ⟨⟨j + 1, by omega, by go_num, ?_, b1, hB⟩, by simp [intOf]; omega⟩
          rw [← Tu.flipTo_same true true (Zg.swap xs) j hlt (by unfold Tu.flipAt; rw [if_neg (by simp; try omega)])]
          exact b0
        · have v2 : (j : Int) / 8 % 2 = 0 := by omega
          go_wp2_with fail
          refine ⟨⟨j + 1, by omega, by go_num, ?_, b1.other _ _ (by show N + 1 ≠ N; omega), hB.setCell (Nat.le_refl _) _⟩, by simp [intOf]; omega⟩
          have h2 := b0.set j (.int .i16 (IntKind.i16.wrap (-x)))
          have h3 := Tu.flipTo_succ true true (Zg.swap xs) j hlt
          rw [show Tu.flipAt true true j ((Zg.swap xs).getD j 0) = IntKind.i16.wrap (-x) from by rw [HX.out]; unfold Tu.flipAt; rw [if_pos (by simp; omega)]] at h3
          rw [ints_set, h3] at h2
          exact h2
      · have v1 : (j : Int) % 2 = 0 := by omega
        by_cases hq : j / 8 % 2 = 1
        · have v2 : (j : Int) / 8 % 2 = 1 := by omega
          go_wp2_with fail
          refine ⟨⟨j + 1, by omega, by go_num, ?_, b1.other _ _ (by show N + 1 ≠ N; omega), hB.setCell (Nat.le_refl _) _⟩, by simp [intOf]; omega⟩
          have h2 := b0.set j (.int .i16 (IntKind.i16.wrap (-x)))
          have h3 := Tu.flipTo_succ true true (Zg.swap xs) j hlt
          rw [show Tu.flipAt true true j ((Zg.swap xs).getD j 0) = IntKind.i16.wrap (-x) from by rw [HX.out]; unfold Tu.flipAt; rw [if_pos (by simp; omega)]] at h3
          rw [ints_set, h3] at h2
          exact h2
        · have v2 : (j : Int) / 8 % 2 = 0 := by omega
          go_wp2_with fail
          refine ⟨⟨j + 1, by omega, by go_num, ?_, b1, hB⟩, by simp [intOf]; omega⟩
          rw [← Tu.flipTo_same true true (Zg.swap xs) j hlt (by unfold Tu.flipAt; rw [if_neg (by simp; try omega)])]
          exact b0
    · obtain rfl : j = 64 := by omega
      go_wp2_with (first | (refine wpList_load_row rfl 66 _ rfl N rfl 66 _ _ _ b0 Tryz.underlying66 rfl (by rw [ints_size, Tu.flipTo_len]; kernel_rfl) ?_) | (refine wpList_store_row rfl 66 _ _ rfl (N + 1) _ rfl rfl 66 _ b1 (by rw [ints_size, Tu.flipTo_len]; kernel_rfl) (by simp [Tu.flipTo_len]) (ints_one _ _) ?_))
      refine bodyPost_ret (results_cell_row rfl _ _ (N + 1) 66 _ _ _ rfl (b1.row _) Tryz.underlying66 rfl (by rw [ints_size, Tu.flipTo_len]; kernel_rfl)) rfl ⟨rfl, ?_⟩
      exact Below.setRow hB (by omega) _
theorem block_any (k : Int) (xs : List Int) (hx : xs.length = 64) (w : World) :
    Calls Tryz.prog 56 #[.int .i64 k, .agg (ints .i16 xs)] w fun e w' => e = .returned (.agg (ints .i16 (Tu.block k xs))) ∧ Below w.heap.size w w' := by
  by_cases h : 0 ≤ k ∧ k < 8
  · obtain ⟨h0, h8⟩ := h
    unfold Tu.block
    rw [if_pos ⟨h0, h8⟩]
    by_cases hs : 4 ≤ k <;> by_cases ha : k % 2 = 1 <;> by_cases hd : k / 2 % 2 = 1 <;> simp only [hs, ha, hd, if_true, if_false, decide_true, decide_false]
    · exact block_111 k h0 h8 hs ha hd xs hx w
    · exact block_110 k h0 h8 hs ha hd xs hx w
    · exact block_101 k h0 h8 hs ha hd xs hx w
    · exact block_100 k h0 h8 hs ha hd xs hx w
    · exact block_011 k h0 h8 hs ha hd xs hx w
    · exact block_010 k h0 h8 hs ha hd xs hx w
    · exact block_001 k h0 h8 hs ha hd xs hx w
    · exact block_000 k h0 h8 hs ha hd xs hx w
  · unfold Tu.block
    rw [if_neg h]
    exact block_no k (by omega) xs hx w
end Go.Proofs.YtgmhhocpdfdplaaGreat
/- Package turn's Table: what a turned table is. -/
namespace Go.Proofs.YtgmhhocpdfdplaaGreat
open Go.RowKit
theorem table_no (k : Int) (h : k < 0 ∨ 8 ≤ k) (xs : List Int) (_hx : xs.length = 64) (w : World) : Calls Tryz.prog 31 #[.int .i64 k, .agg (ints .u16 xs)] w fun e w' => e = .returned (.agg (ints .u16 (List.replicate 64 0))) ∧ Below w.heap.size w w' := by
  go_enter Tryz.func31, Tryz.ntmps31
  go_wp2_with (first | (go_at_call 49; refine (right_no _ (by assumption) _).mono ?_; rintro e w' ⟨rfl, rfl⟩) | (refine wpList_store_row rfl 38 _ _ rfl (w.heap.size + 1) (ints .u16 (List.replicate 64 0)) rfl rfl 38 (ints .u16 (List.replicate 64 0)) (Blk.new' _ _ _ (by simp)) (by rw [ints_size]; kernel_rfl) (by simp) (ints_one _ _) ?_))
  refine bodyPost_ret (results_cell_row rfl _ _ (w.heap.size + 1) 38 _ _ _ rfl ((Blk.new' _ _ _ (by simp)).row _) Tryz.underlying38 rfl (by rw [ints_size]; kernel_rfl)) rfl ⟨rfl, ?_⟩
  exact Below.setRow (((Below.refl _ _).alloc (Nat.le_refl _) _).alloc (by simp) _) (by omega) _
theorem table_lo (k : Int) (h0 : 0 ≤ k) (h4 : k < 4) (xs : List Int) (hx : xs.length = 64) (w : World) : Calls Tryz.prog 31 #[.int .i64 k, .agg (ints .u16 xs)] w fun e w' => e = .returned (.agg (ints .u16 xs)) ∧ Below w.heap.size w w' := by
  have e4 := and4 k h0 (by omega)
  have t4 : (k / 4 * 4 != 0) = false := by rw [bne_eq_false_iff_eq]; omega
  go_enter Tryz.func31, Tryz.ntmps31
  go_wp2_with (first | (go_at_call 49; refine (right_yes _ (by assumption) (by omega) _).mono ?_; rintro e w' ⟨rfl, rfl⟩) | (refine wpList_load_row rfl 38 _ rfl w.heap.size rfl 38 (ints .u16 xs) _ _ ((Blk.new _ _ _).alloc _) Tryz.underlying38 rfl (by rw [ints_size, hx]; kernel_rfl) ?_) | (refine wpList_store_row rfl 38 _ _ rfl (w.heap.size + 1) (ints .u16 xs) rfl rfl 38 (ints .u16 (List.replicate 64 0)) (Blk.new' _ _ _ (by simp)) (by rw [ints_size, hx]; kernel_rfl) (by simp [hx]) (ints_one _ _) ?_))
  refine bodyPost_ret (results_cell_row rfl _ _ (w.heap.size + 1) 38 _ _ _ rfl ((Blk.new' _ _ _ (by simp)).row _) Tryz.underlying38 rfl (by rw [ints_size, hx]; kernel_rfl)) rfl ⟨rfl, ?_⟩
  exact Below.setRow (((Below.refl _ _).alloc (Nat.le_refl _) _).alloc (by simp) _) (by omega) _
theorem table_hi (k : Int) (h4 : 4 ≤ k) (h8 : k < 8) (xs : List Int) (hx : xs.length = 64) (w : World) : Calls Tryz.prog 31 #[.int .i64 k, .agg (ints .u16 xs)] w fun e w' => e = .returned (.agg (ints .u16 (Zg.swap xs))) ∧ Below w.heap.size w w' := by
  have e4 := and4 k (by omega) h8
  have t4 : (k / 4 * 4 != 0) = true := by rw [bne_iff_ne]; omega
  obtain ⟨N, hN⟩ : ∃ N, N = w.heap.size := ⟨_, rfl⟩
  have HN := Lib.hid hN
  rw [← hN]
  clear hN
  go_enter Tryz.func31, Tryz.ntmps31
  go_wp2_with (first | (go_at_call 49; refine (right_yes _ (by omega) (by assumption) _).mono ?_; rintro e w' ⟨rfl, rfl⟩) | (refine wpList_load_row rfl 38 _ rfl w.heap.size rfl 38 (ints .u16 xs) _ _ ((Blk.new _ _ _).alloc _) Tryz.underlying38 rfl (by rw [ints_size, hx]; kernel_rfl) ?_))
  refine (swap_u16 xs hx _).mono ?_
  rintro e w1 ⟨rfl, hb1⟩
  have g1 : Blk w1 (N + 1) (ints .u16 (List.replicate 64 0)) 38 := Blk.below (Blk.new' _ _ _ (by rw [HN.out]; simp)) hb1 (by rw [HN.out]; simp)
  have hB1 : Below N w w1 := ((((Below.refl _ _).alloc (by rw [HN.out]; exact Nat.le_refl _) _).alloc (by rw [HN.out]; simp) _)).trans (hb1.mono (by rw [HN.out]; simp; omega))
  clear hb1
  rw [← HN.out]
  go_wp2_with (first | (refine wpList_store_row rfl 38 _ _ rfl (N + 1) (ints .u16 (Zg.swap xs)) rfl rfl 38 (ints .u16 (List.replicate 64 0)) g1 (by rw [ints_size, Zg.swap_len]; kernel_rfl) (by simp [Zg.swap_len]) (ints_one _ _) ?_) | fail)
  refine bodyPost_ret (results_cell_row rfl _ _ (N + 1) 38 _ _ _ rfl (g1.row _) Tryz.underlying38 rfl (by rw [ints_size, Zg.swap_len]; kernel_rfl)) rfl ⟨rfl, ?_⟩
  exact Below.setRow hB1 (by omega) _
theorem Tu.table_len (k : Int) (xs : List Int) (hx : xs.length = 64) : (Tu.table k xs).length = 64 := by
  unfold Tu.table; split
  · split
    · exact Zg.swap_len _
    · exact hx
  · simp
theorem table_any (k : Int) (xs : List Int) (hx : xs.length = 64) (w : World) :
    Calls Tryz.prog 31 #[.int .i64 k, .agg (ints .u16 xs)] w fun e w' => e = .returned (.agg (ints .u16 (Tu.table k xs))) ∧ Below w.heap.size w w' := by
  unfold Tu.table
  by_cases h : 0 ≤ k ∧ k < 8
  · rw [if_pos h]
    by_cases h4 : 4 ≤ k
    · rw [if_pos h4]; exact table_hi k h4 h.2 xs hx w
    · rw [if_neg h4]; exact table_lo k h.1 (by omega) xs hx w
  · rw [if_neg h]; exact table_no k (by omega) xs hx w
end Go.Proofs.YtgmhhocpdfdplaaGreat
/- The reference's Block: what it says that a turn does to a block of coefficients; it is what the program's Block does. -/
namespace Go.Proofs.YtgmhhocpdfdplaaGreat
open Go.RowKit
namespace Tu
def rco (s a d : Bool) (xs : List Int) (j : Nat) : Int :=
  let x := if s then xs.getD (8 * (j % 8) + j / 8) 0 else xs.getD j 0
  let y := if a && decide (j % 8 % 2 = 1) then IntKind.i16.wrap (-x) else x
  if d && decide (j / 8 % 2 = 1) then IntKind.i16.wrap (-y) else y
def rTo (s a d : Bool) (xs : List Int) (n : Nat) : List Int := (List.range 64).map fun j => if j < n then rco s a d xs j else 0
theorem rTo_len (s a d : Bool) (xs : List Int) (n : Nat) : (rTo s a d xs n).length = 64 := by simp [rTo]
theorem rTo_zero (s a d : Bool) (xs : List Int) : rTo s a d xs 0 = List.replicate 64 0 := by
  unfold rTo
  apply List.ext_getElem?
  intro j
  by_cases hj : j < 64
  · rw [List.getElem?_replicate, if_pos hj]; simp [hj]
  · rw [List.getElem?_eq_none (by simp; omega), List.getElem?_eq_none (by simp; omega)]
theorem rTo_succ (s a d : Bool) (xs : List Int) (n : Nat) (h : n < 64) : (rTo s a d xs n).set n (rco s a d xs n) = rTo s a d xs (n + 1) := by
  apply List.ext_getElem?
  intro j
  rw [List.getElem?_set]
  by_cases hj : j < 64
  · by_cases e : n = j
    · subst e; rw [if_pos rfl, if_pos (by rw [rTo_len]; exact h)]; simp [rTo, h]
    · rw [if_neg e]
      simp only [rTo, List.getElem?_map, List.getElem?_range hj, Option.map_some]
      by_cases h2 : j < n
      · rw [if_pos h2, if_pos (by omega)]
      · rw [if_neg h2, if_neg (by omega)]
  · rw [if_neg (by omega), List.getElem?_eq_none (by rw [rTo_len]; omega), List.getElem?_eq_none (by rw [rTo_len]; omega)]
theorem wrap16_eq (n : Int) : IntKind.i16.wrap n = if n % 65536 ≥ 32768 then n % 65536 - 65536 else n % 65536 := by
  simp [IntKind.wrap, IntKind.bits, IntKind.signed]
theorem wrap16_neg (x : Int) (h0 : -32768 ≤ x) (h1 : x ≤ 32767) : IntKind.i16.wrap (-(IntKind.i16.wrap (-x))) = x := by
  rw [wrap16_eq, wrap16_eq]
  split <;> split <;> omega
/-- The two say the same of coefficients that are 16 bits wide. -/
theorem rTo_all (s a d : Bool) (xs : List Int) (_hx : xs.length = 64) (hb : ∀ i, -32768 ≤ xs.getD i 0 ∧ xs.getD i 0 ≤ 32767) : rTo s a d xs 64 = flip a d (if s then Zg.swap xs else xs) := by
  unfold rTo flip
  apply List.map_congr_left
  intro j hj
  have hj : j < 64 := by simpa using hj
  rw [if_pos hj]
  have e : (if s = true then Zg.swap xs else xs).getD j 0 = if s then xs.getD (8 * (j % 8) + j / 8) 0 else xs.getD j 0 := by
    cases s
    · rfl
    · simp [Zg.swap, List.getD_eq_getElem?_getD, hj, Nat.mul_comm]
  rw [e]
  have e2 : (j % 8 % 2 = 1) = (j % 2 = 1) := by rw [show j % 8 % 2 = j % 2 by omega]
  unfold rco flipAt
  simp only [e2]
  generalize hX : (if s = true then xs.getD (8 * (j % 8) + j / 8) 0 else xs.getD j 0) = X
  have hXb : -32768 ≤ X ∧ X ≤ 32767 := by rw [← hX]; split <;> exact hb _
  have hw := wrap16_neg X hXb.1 hXb.2
  cases a <;> cases d <;> by_cases h1 : j % 2 = 1 <;> by_cases h2 : j / 8 % 2 = 1 <;> simp [h1, h2, hw]
end Tu
theorem rblock_no (k : Int) (h : k < 0 ∨ 7 < k) (xs : List Int) (_hx : xs.length = 64) (w : World) : Calls Tryz.prog 18 #[.int .i64 k, .agg (ints .i16 xs)] w fun e w' => e = .returned (.agg (ints .i16 (List.replicate 64 0))) ∧ Below w.heap.size w w' := by
  rcases h with h | h
  all_goals
    try have h' : 0 ≤ k := by omega
    go_enter Tryz.func18, Tryz.ntmps18
    go_wp2_with (first | (refine wpList_load_row rfl 66 _ rfl (w.heap.size + 1 + 1) rfl 66 (ints .i16 (List.replicate 64 0)) _ _ (Blk.new' _ _ _ (by simp)) Tryz.underlying66 rfl (by rw [ints_size]; kernel_rfl) ?_) | (refine wpList_store_row rfl 66 _ _ rfl (w.heap.size + 1) (ints .i16 (List.replicate 64 0)) rfl rfl 66 (ints .i16 (List.replicate 64 0)) ((Blk.new' _ _ _ (by simp)).alloc _) (by rw [ints_size]; kernel_rfl) (by simp) (ints_one _ _) ?_))
    refine bodyPost_ret (results_cell_row rfl _ _ (w.heap.size + 1) 66 _ _ _ rfl (((Blk.new' _ (ints .i16 (List.replicate 64 0)) _ (by simp)).alloc _).row _) Tryz.underlying66 rfl (by rw [ints_size]; kernel_rfl)) rfl ⟨rfl, ?_⟩
    exact Below.setRow ((((Below.refl _ _).alloc (Nat.le_refl _) _).alloc (by simp) _).alloc (by simp; omega) _) (by omega) _
set_option maxRecDepth 100000 in
set_option maxHeartbeats 4000000 in
theorem rblock_000 (k : Int) (h0 : 0 ≤ k) (h7 : k ≤ 7) (hs : k < 4) (ha : k % 2 ≠ 1) (hd : k / 2 % 2 ≠ 1) (xs : List Int) (hx : xs.length = 64) (w : World) :
    Calls Tryz.prog 18 #[.int .i64 k, .agg (ints .i16 xs)] w fun e w' => e = .returned (.agg (ints .i16 (Tu.rTo false false false xs 64))) ∧ Below w.heap.size w w' := by
  have t1 : (k % 2 == 1) = false := beq_eq_false_iff_ne.2 (by omega)
  have t2 : (k / 2 % 2 == 1) = false := beq_eq_false_iff_ne.2 (by omega)
  clear ha hd
  obtain ⟨N, hN⟩ : ∃ N, N = w.heap.size := ⟨_, rfl⟩
  have HN := Lib.hid hN
  rw [← hN]
  clear hN
  go_enter Tryz.func18, Tryz.ntmps18
  go_wp2_with fail
  refine wp_world (fun W => Blk W N (ints .i16 xs) 66 ∧ Blk W (N+1) (ints .i16 (List.replicate 64 0)) 66 ∧ Blk W (N+2) (ints .i16 (Tu.rTo false false false xs 0)) 66 ∧ Below N w W) ⟨?_, ?_, ?_, ?_⟩ ?_
  · exact ((Blk.new' _ _ _ HN.out).alloc _).alloc _
  · exact (Blk.new' _ _ _ (by rw [HN.out]; simp)).alloc _
  · rw [Tu.rTo_zero]; exact Blk.new' _ _ _ (by rw [HN.out]; simp)
  · exact (((Below.refl _ _).alloc (by rw [HN.out]; exact Nat.le_refl _) _).alloc (by rw [HN.out]; simp) _).alloc (by rw [HN.out]; simp; omega) _
  rintro W0 ⟨b0, b1, b2, hB⟩
  rw [← HN.out]
  go_loopw [6, 7, 8] (fun iv _ _ wr => ∃ v : Nat, v ≤ 8 ∧ iv = .int .i64 v ∧ Blk wr N (ints .i16 xs) 66 ∧ Blk wr (N+1) (ints .i16 (List.replicate 64 0)) 66 ∧ Blk wr (N+2) (ints .i16 (Tu.rTo false false false xs (8 * v))) 66 ∧ Below N w wr) (fun iv _ _ _ => 8 - (intOf iv).toNat)
  case atStart => exact ⟨0, by omega, rfl, b0, b1, b2, hB⟩
  case round =>
    clear b0 b1 b2 hB
    obtain ⟨v, hv, rfl, b0, b1, b2, hB⟩ := hrel
    by_cases hlt : v < 8
    · go_wp2_with fail
      obtain ⟨wo, hwo⟩ : ∃ wo : World, wo = wr := ⟨_, rfl⟩
      subst hwo
      go_loopw [7, 8] (fun iu _ wr => ∃ u : Nat, u ≤ 8 ∧ iu = .int .i64 u ∧ Blk wr N (ints .i16 xs) 66 ∧ Blk wr (N+1) (ints .i16 (List.replicate 64 0)) 66 ∧ Blk wr (N+2) (ints .i16 (Tu.rTo false false false xs (8 * v + u))) 66 ∧ Below N w wr) (fun iu _ _ => 8 - (intOf iu).toNat)
      case atStart => exact ⟨0, by omega, rfl, b0, b1, b2, hB⟩
      case round =>
        clear b0 b1 b2 hB
        obtain ⟨u, hu, rfl, b0, b1, b2, hB⟩ := hrel
        by_cases hlu : u < 8
        · have c0 := (b0.cell (8 * v + u)).trans (ints_get _ _ _ (by omega))
          obtain ⟨y, hy0⟩ : ∃ y, xs.getD (8 * v + u) 0 = y := ⟨_, rfl⟩
          rw [hy0] at c0
          have HY := Lib.hid hy0
          clear hy0
          have c2 := (b2.cell (8 * v + u)).trans (ints_get _ _ _ (by rw [Tu.rTo_len]; omega))
          have f2 := b2.free (8 * v + u)
          go_wp2_with fail
          refine ⟨⟨u + 1, by omega, by go_num, b0.other _ _ (by show N ≠ N + 1 + 1; omega), b1.other _ _ (by show N + 1 ≠ N + 1 + 1; omega), ?_, hB.setCell (by show N ≤ N + 1 + 1; omega) _⟩, by simp [intOf]; omega⟩
          have h2 := b2.set (8 * v + u) (.int .i16 (y))
          have h3 := Tu.rTo_succ false false false xs (8 * v + u) (by omega)
          rw [show Tu.rco false false false xs (8 * v + u) = y from by rw [← HY.out]; simp only [Tu.rco, show (8 * v + u) % 8 = u by omega, show (8 * v + u) / 8 = v by omega]; simp] at h3
          rw [ints_set, h3] at h2
          exact h2
        · obtain rfl : u = 8 := by omega
          go_wp2_with fail
          exact ⟨⟨v + 1, by omega, by go_num, b0, b1, b2, hB⟩, by simp [intOf]; omega⟩
    · obtain rfl : v = 8 := by omega
      go_wp2_with (first | (refine wpList_load_row rfl 66 _ rfl (N + 2) rfl 66 _ _ _ b2 Tryz.underlying66 rfl (by rw [ints_size, Tu.rTo_len]; kernel_rfl) ?_) | (refine wpList_store_row rfl 66 _ _ rfl (N + 1) _ rfl rfl 66 _ b1 (by rw [ints_size, Tu.rTo_len]; kernel_rfl) (by simp [Tu.rTo_len]) (ints_one _ _) ?_))
      refine bodyPost_ret (results_cell_row rfl _ _ (N + 1) 66 _ _ _ rfl (b1.row _) Tryz.underlying66 rfl (by rw [ints_size, Tu.rTo_len]; kernel_rfl)) rfl ⟨rfl, ?_⟩
      exact Below.setRow hB (by omega) _
set_option maxRecDepth 100000 in
set_option maxHeartbeats 4000000 in
theorem rblock_001 (k : Int) (h0 : 0 ≤ k) (h7 : k ≤ 7) (hs : k < 4) (ha : k % 2 ≠ 1) (hd : k / 2 % 2 = 1) (xs : List Int) (hx : xs.length = 64) (w : World) :
    Calls Tryz.prog 18 #[.int .i64 k, .agg (ints .i16 xs)] w fun e w' => e = .returned (.agg (ints .i16 (Tu.rTo false false true xs 64))) ∧ Below w.heap.size w w' := by
  have t1 : (k % 2 == 1) = false := beq_eq_false_iff_ne.2 (by omega)
  have t2 : (k / 2 % 2 == 1) = true := beq_iff_eq.2 (by omega)
  clear ha hd
  obtain ⟨N, hN⟩ : ∃ N, N = w.heap.size := ⟨_, rfl⟩
  have HN := Lib.hid hN
  rw [← hN]
  clear hN
  go_enter Tryz.func18, Tryz.ntmps18
  go_wp2_with fail
  refine wp_world (fun W => Blk W N (ints .i16 xs) 66 ∧ Blk W (N+1) (ints .i16 (List.replicate 64 0)) 66 ∧ Blk W (N+2) (ints .i16 (Tu.rTo false false true xs 0)) 66 ∧ Below N w W) ⟨?_, ?_, ?_, ?_⟩ ?_
  · exact ((Blk.new' _ _ _ HN.out).alloc _).alloc _
  · exact (Blk.new' _ _ _ (by rw [HN.out]; simp)).alloc _
  · rw [Tu.rTo_zero]; exact Blk.new' _ _ _ (by rw [HN.out]; simp)
  · exact (((Below.refl _ _).alloc (by rw [HN.out]; exact Nat.le_refl _) _).alloc (by rw [HN.out]; simp) _).alloc (by rw [HN.out]; simp; omega) _
  rintro W0 ⟨b0, b1, b2, hB⟩
  rw [← HN.out]
  go_loopw [6, 7, 8] (fun iv _ _ wr => ∃ v : Nat, v ≤ 8 ∧ iv = .int .i64 v ∧ Blk wr N (ints .i16 xs) 66 ∧ Blk wr (N+1) (ints .i16 (List.replicate 64 0)) 66 ∧ Blk wr (N+2) (ints .i16 (Tu.rTo false false true xs (8 * v))) 66 ∧ Below N w wr) (fun iv _ _ _ => 8 - (intOf iv).toNat)
  case atStart => exact ⟨0, by omega, rfl, b0, b1, b2, hB⟩
  case round =>
    clear b0 b1 b2 hB
    obtain ⟨v, hv, rfl, b0, b1, b2, hB⟩ := hrel
    by_cases hlt : v < 8
    · go_wp2_with fail
      obtain ⟨wo, hwo⟩ : ∃ wo : World, wo = wr := ⟨_, rfl⟩
      subst hwo
      go_loopw [7, 8] (fun iu _ wr => ∃ u : Nat, u ≤ 8 ∧ iu = .int .i64 u ∧ Blk wr N (ints .i16 xs) 66 ∧ Blk wr (N+1) (ints .i16 (List.replicate 64 0)) 66 ∧ Blk wr (N+2) (ints .i16 (Tu.rTo false false true xs (8 * v + u))) 66 ∧ Below N w wr) (fun iu _ _ => 8 - (intOf iu).toNat)
      case atStart => exact ⟨0, by omega, rfl, b0, b1, b2, hB⟩
      case round =>
        clear b0 b1 b2 hB
        obtain ⟨u, hu, rfl, b0, b1, b2, hB⟩ := hrel
        by_cases hlu : u < 8
        · have c0 := (b0.cell (8 * v + u)).trans (ints_get _ _ _ (by omega))
          obtain ⟨y, hy0⟩ : ∃ y, xs.getD (8 * v + u) 0 = y := ⟨_, rfl⟩
          rw [hy0] at c0
          have HY := Lib.hid hy0
          clear hy0
          have c2 := (b2.cell (8 * v + u)).trans (ints_get _ _ _ (by rw [Tu.rTo_len]; omega))
          have f2 := b2.free (8 * v + u)
          by_cases hq : v % 2 = 1
          · have v2 : ((v : Int) % 2 == 1) = true := beq_iff_eq.2 (by omega)
            go_wp2_with fail
            refine ⟨⟨u + 1, by omega, by go_num, b0.other _ _ (by show N ≠ N + 1 + 1; omega), b1.other _ _ (by show N + 1 ≠ N + 1 + 1; omega), ?_, hB.setCell (by show N ≤ N + 1 + 1; omega) _⟩, by simp [intOf]; omega⟩
            have h2 := b2.set (8 * v + u) (.int .i16 (IntKind.i16.wrap (-y)))
            have h3 := Tu.rTo_succ false false true xs (8 * v + u) (by omega)
            rw [show Tu.rco false false true xs (8 * v + u) = IntKind.i16.wrap (-y) from by rw [← HY.out]; simp only [Tu.rco, show (8 * v + u) % 8 = u by omega, show (8 * v + u) / 8 = v by omega]; simp [hq]] at h3
            rw [ints_set, h3] at h2
            exact h2
          · have v2 : ((v : Int) % 2 == 1) = false := beq_eq_false_iff_ne.2 (by omega)
            go_wp2_with fail
            refine ⟨⟨u + 1, by omega, by go_num, b0.other _ _ (by show N ≠ N + 1 + 1; omega), b1.other _ _ (by show N + 1 ≠ N + 1 + 1; omega), ?_, hB.setCell (by show N ≤ N + 1 + 1; omega) _⟩, by simp [intOf]; omega⟩
            have h2 := b2.set (8 * v + u) (.int .i16 (y))
            have h3 := Tu.rTo_succ false false true xs (8 * v + u) (by omega)
            rw [show Tu.rco false false true xs (8 * v + u) = y from by rw [← HY.out]; simp only [Tu.rco, show (8 * v + u) % 8 = u by omega, show (8 * v + u) / 8 = v by omega]; simp [hq]] at h3
            rw [ints_set, h3] at h2
            exact h2
        · obtain rfl : u = 8 := by omega
          go_wp2_with fail
          exact ⟨⟨v + 1, by omega, by go_num, b0, b1, b2, hB⟩, by simp [intOf]; omega⟩
    · obtain rfl : v = 8 := by omega
      go_wp2_with (first | (refine wpList_load_row rfl 66 _ rfl (N + 2) rfl 66 _ _ _ b2 Tryz.underlying66 rfl (by rw [ints_size, Tu.rTo_len]; kernel_rfl) ?_) | (refine wpList_store_row rfl 66 _ _ rfl (N + 1) _ rfl rfl 66 _ b1 (by rw [ints_size, Tu.rTo_len]; kernel_rfl) (by simp [Tu.rTo_len]) (ints_one _ _) ?_))
      refine bodyPost_ret (results_cell_row rfl _ _ (N + 1) 66 _ _ _ rfl (b1.row _) Tryz.underlying66 rfl (by rw [ints_size, Tu.rTo_len]; kernel_rfl)) rfl ⟨rfl, ?_⟩
      exact Below.setRow hB (by omega) _
set_option maxRecDepth 100000 in
set_option maxHeartbeats 4000000 in
theorem rblock_010 (k : Int) (h0 : 0 ≤ k) (h7 : k ≤ 7) (hs : k < 4) (ha : k % 2 = 1) (hd : k / 2 % 2 ≠ 1) (xs : List Int) (hx : xs.length = 64) (w : World) :
    Calls Tryz.prog 18 #[.int .i64 k, .agg (ints .i16 xs)] w fun e w' => e = .returned (.agg (ints .i16 (Tu.rTo false true false xs 64))) ∧ Below w.heap.size w w' := by
  have t1 : (k % 2 == 1) = true := beq_iff_eq.2 (by omega)
  have t2 : (k / 2 % 2 == 1) = false := beq_eq_false_iff_ne.2 (by omega)
  clear ha hd
  obtain ⟨N, hN⟩ : ∃ N, N = w.heap.size := ⟨_, rfl⟩
  have HN := Lib.hid hN
  rw [← hN]
  clear hN
  go_enter Tryz.func18, Tryz.ntmps18
  go_wp2_with fail
  refine wp_world (fun W => Blk W N (ints .i16 xs) 66 ∧ Blk W (N+1) (ints .i16 (List.replicate 64 0)) 66 ∧ Blk W (N+2) (ints .i16 (Tu.rTo false true false xs 0)) 66 ∧ Below N w W) ⟨?_, ?_, ?_, ?_⟩ ?_
  · exact ((Blk.new' _ _ _ HN.out).alloc _).alloc _
  · exact (Blk.new' _ _ _ (by rw [HN.out]; simp)).alloc _
  · rw [Tu.rTo_zero]; exact Blk.new' _ _ _ (by rw [HN.out]; simp)
  · exact (((Below.refl _ _).alloc (by rw [HN.out]; exact Nat.le_refl _) _).alloc (by rw [HN.out]; simp) _).alloc (by rw [HN.out]; simp; omega) _
  rintro W0 ⟨b0, b1, b2, hB⟩
  rw [← HN.out]
  go_loopw [6, 7, 8] (fun iv _ _ wr => ∃ v : Nat, v ≤ 8 ∧ iv = .int .i64 v ∧ Blk wr N (ints .i16 xs) 66 ∧ Blk wr (N+1) (ints .i16 (List.replicate 64 0)) 66 ∧ Blk wr (N+2) (ints .i16 (Tu.rTo false true false xs (8 * v))) 66 ∧ Below N w wr) (fun iv _ _ _ => 8 - (intOf iv).toNat)
  case atStart => exact ⟨0, by omega, rfl, b0, b1, b2, hB⟩
  case round =>
    clear b0 b1 b2 hB
    obtain ⟨v, hv, rfl, b0, b1, b2, hB⟩ := hrel
    by_cases hlt : v < 8
    · go_wp2_with fail
      obtain ⟨wo, hwo⟩ : ∃ wo : World, wo = wr := ⟨_, rfl⟩
      subst hwo
      go_loopw [7, 8] (fun iu _ wr => ∃ u : Nat, u ≤ 8 ∧ iu = .int .i64 u ∧ Blk wr N (ints .i16 xs) 66 ∧ Blk wr (N+1) (ints .i16 (List.replicate 64 0)) 66 ∧ Blk wr (N+2) (ints .i16 (Tu.rTo false true false xs (8 * v + u))) 66 ∧ Below N w wr) (fun iu _ _ => 8 - (intOf iu).toNat)
      case atStart => exact ⟨0, by omega, rfl, b0, b1, b2, hB⟩
      case round =>
        clear b0 b1 b2 hB
        obtain ⟨u, hu, rfl, b0, b1, b2, hB⟩ := hrel
        by_cases hlu : u < 8
        · have c0 := (b0.cell (8 * v + u)).trans (ints_get _ _ _ (by omega))
          obtain ⟨y, hy0⟩ : ∃ y, xs.getD (8 * v + u) 0 = y := ⟨_, rfl⟩
          rw [hy0] at c0
          have HY := Lib.hid hy0
          clear hy0
          have c2 := (b2.cell (8 * v + u)).trans (ints_get _ _ _ (by rw [Tu.rTo_len]; omega))
          have f2 := b2.free (8 * v + u)
          by_cases hp : u % 2 = 1
          · have v1 : ((u : Int) % 2 == 1) = true := beq_iff_eq.2 (by omega)
            go_wp2_with fail
            refine ⟨⟨u + 1, by omega, by go_num, b0.other _ _ (by show N ≠ N + 1 + 1; omega), b1.other _ _ (by show N + 1 ≠ N + 1 + 1; omega), ?_, hB.setCell (by show N ≤ N + 1 + 1; omega) _⟩, by simp [intOf]; omega⟩
            have h2 := b2.set (8 * v + u) (.int .i16 (IntKind.i16.wrap (-y)))
            have h3 := Tu.rTo_succ false true false xs (8 * v + u) (by omega)
            rw [show Tu.rco false true false xs (8 * v + u) = IntKind.i16.wrap (-y) from by rw [← HY.out]; simp only [Tu.rco, show (8 * v + u) % 8 = u by omega, show (8 * v + u) / 8 = v by omega]; simp [hp]] at h3
            rw [ints_set, h3] at h2
            exact h2
          · have v1 : ((u : Int) % 2 == 1) = false := beq_eq_false_iff_ne.2 (by omega)
            go_wp2_with fail
            refine ⟨⟨u + 1, by omega, by go_num, b0.other _ _ (by show N ≠ N + 1 + 1; omega), b1.other _ _ (by show N + 1 ≠ N + 1 + 1; omega), ?_, hB.setCell (by show N ≤ N + 1 + 1; omega) _⟩, by simp [intOf]; omega⟩
            have h2 := b2.set (8 * v + u) (.int .i16 (y))
            have h3 := Tu.rTo_succ false true false xs (8 * v + u) (by omega)
            rw [show Tu.rco false true false xs (8 * v + u) = y from by rw [← HY.out]; simp only [Tu.rco, show (8 * v + u) % 8 = u by omega, show (8 * v + u) / 8 = v by omega]; simp [hp]] at h3
            rw [ints_set, h3] at h2
            exact h2
        · obtain rfl : u = 8 := by omega
          go_wp2_with fail
          exact ⟨⟨v + 1, by omega, by go_num, b0, b1, b2, hB⟩, by simp [intOf]; omega⟩
    · obtain rfl : v = 8 := by omega
      go_wp2_with (first | (refine wpList_load_row rfl 66 _ rfl (N + 2) rfl 66 _ _ _ b2 Tryz.underlying66 rfl (by rw [ints_size, Tu.rTo_len]; kernel_rfl) ?_) | (refine wpList_store_row rfl 66 _ _ rfl (N + 1) _ rfl rfl 66 _ b1 (by rw [ints_size, Tu.rTo_len]; kernel_rfl) (by simp [Tu.rTo_len]) (ints_one _ _) ?_))
      refine bodyPost_ret (results_cell_row rfl _ _ (N + 1) 66 _ _ _ rfl (b1.row _) Tryz.underlying66 rfl (by rw [ints_size, Tu.rTo_len]; kernel_rfl)) rfl ⟨rfl, ?_⟩
      exact Below.setRow hB (by omega) _
set_option maxRecDepth 100000 in
set_option maxHeartbeats 4000000 in
theorem rblock_011 (k : Int) (h0 : 0 ≤ k) (h7 : k ≤ 7) (hs : k < 4) (ha : k % 2 = 1) (hd : k / 2 % 2 = 1) (xs : List Int) (hx : xs.length = 64) (w : World) :
    Calls Tryz.prog 18 #[.int .i64 k, .agg (ints .i16 xs)] w fun e w' => e = .returned (.agg (ints .i16 (Tu.rTo false true true xs 64))) ∧ Below w.heap.size w w' := by
  have t1 : (k % 2 == 1) = true := beq_iff_eq.2 (by omega)
  have t2 : (k / 2 % 2 == 1) = true := beq_iff_eq.2 (by omega)
  clear ha hd
  obtain ⟨N, hN⟩ : ∃ N, N = w.heap.size := ⟨_, rfl⟩
  have HN := Lib.hid hN
  rw [← hN]
  clear hN
  go_enter Tryz.func18, Tryz.ntmps18
  go_wp2_with fail
  refine wp_world (fun W => Blk W N (ints .i16 xs) 66 ∧ Blk W (N+1) (ints .i16 (List.replicate 64 0)) 66 ∧ Blk W (N+2) (ints .i16 (Tu.rTo false true true xs 0)) 66 ∧ Below N w W) ⟨?_, ?_, ?_, ?_⟩ ?_
  · exact ((Blk.new' _ _ _ HN.out).alloc _).alloc _
  · exact (Blk.new' _ _ _ (by rw [HN.out]; simp)).alloc _
  · rw [Tu.rTo_zero]; exact Blk.new' _ _ _ (by rw [HN.out]; simp)
  · exact (((Below.refl _ _).alloc (by rw [HN.out]; exact Nat.le_refl _) _).alloc (by rw [HN.out]; simp) _).alloc (by rw [HN.out]; simp; omega) _
  rintro W0 ⟨b0, b1, b2, hB⟩
  rw [← HN.out]
  go_loopw [6, 7, 8] (fun iv _ _ wr => ∃ v : Nat, v ≤ 8 ∧ iv = .int .i64 v ∧ Blk wr N (ints .i16 xs) 66 ∧ Blk wr (N+1) (ints .i16 (List.replicate 64 0)) 66 ∧ Blk wr (N+2) (ints .i16 (Tu.rTo false true true xs (8 * v))) 66 ∧ Below N w wr) (fun iv _ _ _ => 8 - (intOf iv).toNat)
  case atStart => exact ⟨0, by omega, rfl, b0, b1, b2, hB⟩
  case round =>
    clear b0 b1 b2 hB
    obtain ⟨v, hv, rfl, b0, b1, b2, hB⟩ := hrel
    by_cases hlt : v < 8
    · go_wp2_with fail
      obtain ⟨wo, hwo⟩ : ∃ wo : World, wo = wr := ⟨_, rfl⟩
      subst hwo
      go_loopw [7, 8] (fun iu _ wr => ∃ u : Nat, u ≤ 8 ∧ iu = .int .i64 u ∧ Blk wr N (ints .i16 xs) 66 ∧ Blk wr (N+1) (ints .i16 (List.replicate 64 0)) 66 ∧ Blk wr (N+2) (ints .i16 (Tu.rTo false true true xs (8 * v + u))) 66 ∧ Below N w wr) (fun iu _ _ => 8 - (intOf iu).toNat)
      case atStart => exact ⟨0, by omega, rfl, b0, b1, b2, hB⟩
      case round =>
        clear b0 b1 b2 hB
        obtain ⟨u, hu, rfl, b0, b1, b2, hB⟩ := hrel
        by_cases hlu : u < 8
        · have c0 := (b0.cell (8 * v + u)).trans (ints_get _ _ _ (by omega))
          obtain ⟨y, hy0⟩ : ∃ y, xs.getD (8 * v + u) 0 = y := ⟨_, rfl⟩
          rw [hy0] at c0
          have HY := Lib.hid hy0
          clear hy0
          have c2 := (b2.cell (8 * v + u)).trans (ints_get _ _ _ (by rw [Tu.rTo_len]; omega))
          have f2 := b2.free (8 * v + u)
          by_cases hp : u % 2 = 1
          · have v1 : ((u : Int) % 2 == 1) = true := beq_iff_eq.2 (by omega)
            by_cases hq : v % 2 = 1
            · have v2 : ((v : Int) % 2 == 1) = true := beq_iff_eq.2 (by omega)
              go_wp2_with fail
              refine ⟨⟨u + 1, by omega, by go_num, b0.other _ _ (by show N ≠ N + 1 + 1; omega), b1.other _ _ (by show N + 1 ≠ N + 1 + 1; omega), ?_, hB.setCell (by show N ≤ N + 1 + 1; omega) _⟩, by simp [intOf]; omega⟩
              have h2 := b2.set (8 * v + u) (.int .i16 (IntKind.i16.wrap (-(IntKind.i16.wrap (-y)))))
              have h3 := Tu.rTo_succ false true true xs (8 * v + u) (by omega)
              rw [show Tu.rco false true true xs (8 * v + u) = IntKind.i16.wrap (-(IntKind.i16.wrap (-y))) from by rw [← HY.out]; simp only [Tu.rco, show (8 * v + u) % 8 = u by omega, show (8 * v + u) / 8 = v by omega]; simp [hp, hq]] at h3
              rw [ints_set, h3] at h2
              exact h2
            · have v2 : ((v : Int) % 2 == 1) = false := beq_eq_false_iff_ne.2 (by omega)
              go_wp2_with fail
              refine ⟨⟨u + 1, by omega, by go_num, b0.other _ _ (by show N ≠ N + 1 + 1; omega), b1.other _ _ (by show N + 1 ≠ N + 1 + 1; omega), ?_, hB.setCell (by show N ≤ N + 1 + 1; omega) _⟩, by simp [intOf]; omega⟩
              have h2 := b2.set (8 * v + u) (.int .i16 (IntKind.i16.wrap (-y)))
              have h3 := Tu.rTo_succ false true true xs (8 * v + u) (by omega)
              rw [show Tu.rco false true true xs (8 * v + u) = IntKind.i16.wrap (-y) from by rw [← HY.out]; simp only [Tu.rco, show (8 * v + u) % 8 = u by omega, show (8 * v + u) / 8 = v by omega]; simp [hp, hq]] at h3
              rw [ints_set, h3] at h2
              exact h2
          · have v1 : ((u : Int) % 2 == 1) = false := beq_eq_false_iff_ne.2 (by omega)
            by_cases hq : v % 2 = 1
            · have v2 : ((v : Int) % 2 == 1) = true := beq_iff_eq.2 (by omega)
              go_wp2_with fail
              refine ⟨⟨u + 1, by omega, by go_num, b0.other _ _ (by show N ≠ N + 1 + 1; omega), b1.other _ _ (by show N + 1 ≠ N + 1 + 1; omega), ?_, hB.setCell (by show N ≤ N + 1 + 1; omega) _⟩, by simp [intOf]; omega⟩
              have h2 := b2.set (8 * v + u) (.int .i16 (IntKind.i16.wrap (-y)))
              have h3 := Tu.rTo_succ false true true xs (8 * v + u) (by omega)
              rw [show Tu.rco false true true xs (8 * v + u) = IntKind.i16.wrap (-y) from by rw [← HY.out]; simp only [Tu.rco, show (8 * v + u) % 8 = u by omega, show (8 * v + u) / 8 = v by omega]; simp [hp, hq]] at h3
              rw [ints_set, h3] at h2
              exact h2
            · have v2 : ((v : Int) % 2 == 1) = false := beq_eq_false_iff_ne.2 (by omega)
              go_wp2_with fail
              refine ⟨⟨u + 1, by omega, by go_num, b0.other _ _ (by show N ≠ N + 1 + 1; omega), b1.other _ _ (by show N + 1 ≠ N + 1 + 1; omega), ?_, hB.setCell (by show N ≤ N + 1 + 1; omega) _⟩, by simp [intOf]; omega⟩
              have h2 := b2.set (8 * v + u) (.int .i16 (y))
              have h3 := Tu.rTo_succ false true true xs (8 * v + u) (by omega)
              rw [show Tu.rco false true true xs (8 * v + u) = y from by rw [← HY.out]; simp only [Tu.rco, show (8 * v + u) % 8 = u by omega, show (8 * v + u) / 8 = v by omega]; simp [hp, hq]] at h3
              rw [ints_set, h3] at h2
              exact h2
        · obtain rfl : u = 8 := by omega
          go_wp2_with fail
          exact ⟨⟨v + 1, by omega, by go_num, b0, b1, b2, hB⟩, by simp [intOf]; omega⟩
    · obtain rfl : v = 8 := by omega
      go_wp2_with (first | (refine wpList_load_row rfl 66 _ rfl (N + 2) rfl 66 _ _ _ b2 Tryz.underlying66 rfl (by rw [ints_size, Tu.rTo_len]; kernel_rfl) ?_) | (refine wpList_store_row rfl 66 _ _ rfl (N + 1) _ rfl rfl 66 _ b1 (by rw [ints_size, Tu.rTo_len]; kernel_rfl) (by simp [Tu.rTo_len]) (ints_one _ _) ?_))
      refine bodyPost_ret (results_cell_row rfl _ _ (N + 1) 66 _ _ _ rfl (b1.row _) Tryz.underlying66 rfl (by rw [ints_size, Tu.rTo_len]; kernel_rfl)) rfl ⟨rfl, ?_⟩
      exact Below.setRow hB (by omega) _
set_option maxRecDepth 100000 in
set_option maxHeartbeats 4000000 in
theorem rblock_100 (k : Int) (h0 : 0 ≤ k) (h7 : k ≤ 7) (hs : 4 ≤ k) (ha : k % 2 ≠ 1) (hd : k / 2 % 2 ≠ 1) (xs : List Int) (hx : xs.length = 64) (w : World) :
    Calls Tryz.prog 18 #[.int .i64 k, .agg (ints .i16 xs)] w fun e w' => e = .returned (.agg (ints .i16 (Tu.rTo true false false xs 64))) ∧ Below w.heap.size w w' := by
  have t1 : (k % 2 == 1) = false := beq_eq_false_iff_ne.2 (by omega)
  have t2 : (k / 2 % 2 == 1) = false := beq_eq_false_iff_ne.2 (by omega)
  clear ha hd
  obtain ⟨N, hN⟩ : ∃ N, N = w.heap.size := ⟨_, rfl⟩
  have HN := Lib.hid hN
  rw [← hN]
  clear hN
  go_enter Tryz.func18, Tryz.ntmps18
  go_wp2_with fail
  refine wp_world (fun W => Blk W N (ints .i16 xs) 66 ∧ Blk W (N+1) (ints .i16 (List.replicate 64 0)) 66 ∧ Blk W (N+2) (ints .i16 (Tu.rTo true false false xs 0)) 66 ∧ Below N w W) ⟨?_, ?_, ?_, ?_⟩ ?_
  · exact ((Blk.new' _ _ _ HN.out).alloc _).alloc _
  · exact (Blk.new' _ _ _ (by rw [HN.out]; simp)).alloc _
  · rw [Tu.rTo_zero]; exact Blk.new' _ _ _ (by rw [HN.out]; simp)
  · exact (((Below.refl _ _).alloc (by rw [HN.out]; exact Nat.le_refl _) _).alloc (by rw [HN.out]; simp) _).alloc (by rw [HN.out]; simp; omega) _
  rintro W0 ⟨b0, b1, b2, hB⟩
  rw [← HN.out]
  go_loopw [6, 7, 8] (fun iv _ _ wr => ∃ v : Nat, v ≤ 8 ∧ iv = .int .i64 v ∧ Blk wr N (ints .i16 xs) 66 ∧ Blk wr (N+1) (ints .i16 (List.replicate 64 0)) 66 ∧ Blk wr (N+2) (ints .i16 (Tu.rTo true false false xs (8 * v))) 66 ∧ Below N w wr) (fun iv _ _ _ => 8 - (intOf iv).toNat)
  case atStart => exact ⟨0, by omega, rfl, b0, b1, b2, hB⟩
  case round =>
    clear b0 b1 b2 hB
    obtain ⟨v, hv, rfl, b0, b1, b2, hB⟩ := hrel
    by_cases hlt : v < 8
    · go_wp2_with fail
      obtain ⟨wo, hwo⟩ : ∃ wo : World, wo = wr := ⟨_, rfl⟩
      subst hwo
      go_loopw [7, 8] (fun iu _ wr => ∃ u : Nat, u ≤ 8 ∧ iu = .int .i64 u ∧ Blk wr N (ints .i16 xs) 66 ∧ Blk wr (N+1) (ints .i16 (List.replicate 64 0)) 66 ∧ Blk wr (N+2) (ints .i16 (Tu.rTo true false false xs (8 * v + u))) 66 ∧ Below N w wr) (fun iu _ _ => 8 - (intOf iu).toNat)
      case atStart => exact ⟨0, by omega, rfl, b0, b1, b2, hB⟩
      case round =>
        clear b0 b1 b2 hB
        obtain ⟨u, hu, rfl, b0, b1, b2, hB⟩ := hrel
        by_cases hlu : u < 8
        · have c0 := (b0.cell (8 * v + u)).trans (ints_get _ _ _ (by omega))
          obtain ⟨y, hy0⟩ : ∃ y, xs.getD (8 * v + u) 0 = y := ⟨_, rfl⟩
          rw [hy0] at c0
          have HY := Lib.hid hy0
          clear hy0
          have c1 := (b0.cell (8 * u + v)).trans (ints_get _ _ _ (by omega))
          obtain ⟨x, hx0⟩ : ∃ x, xs.getD (8 * u + v) 0 = x := ⟨_, rfl⟩
          rw [hx0] at c1
          have HX := Lib.hid hx0
          clear hx0
          have c2 := (b2.cell (8 * v + u)).trans (ints_get _ _ _ (by rw [Tu.rTo_len]; omega))
          have f2 := b2.free (8 * v + u)
          go_wp2_with fail
          refine ⟨⟨u + 1, by omega, by go_num, b0.other _ _ (by show N ≠ N + 1 + 1; omega), b1.other _ _ (by show N + 1 ≠ N + 1 + 1; omega), ?_, hB.setCell (by show N ≤ N + 1 + 1; omega) _⟩, by simp [intOf]; omega⟩
          have h2 := b2.set (8 * v + u) (.int .i16 (x))
          have h3 := Tu.rTo_succ true false false xs (8 * v + u) (by omega)
          rw [show Tu.rco true false false xs (8 * v + u) = x from by rw [← HX.out]; simp only [Tu.rco, show (8 * v + u) % 8 = u by omega, show (8 * v + u) / 8 = v by omega]; simp] at h3
          rw [ints_set, h3] at h2
          exact h2
        · obtain rfl : u = 8 := by omega
          go_wp2_with fail
          exact ⟨⟨v + 1, by omega, by go_num, b0, b1, b2, hB⟩, by simp [intOf]; omega⟩
    · obtain rfl : v = 8 := by omega
      go_wp2_with (first | (refine wpList_load_row rfl 66 _ rfl (N + 2) rfl 66 _ _ _ b2 Tryz.underlying66 rfl (by rw [ints_size, Tu.rTo_len]; kernel_rfl) ?_) | (refine wpList_store_row rfl 66 _ _ rfl (N + 1) _ rfl rfl 66 _ b1 (by rw [ints_size, Tu.rTo_len]; kernel_rfl) (by simp [Tu.rTo_len]) (ints_one _ _) ?_))
      refine bodyPost_ret (results_cell_row rfl _ _ (N + 1) 66 _ _ _ rfl (b1.row _) Tryz.underlying66 rfl (by rw [ints_size, Tu.rTo_len]; kernel_rfl)) rfl ⟨rfl, ?_⟩
      exact Below.setRow hB (by omega) _
set_option maxRecDepth 100000 in
set_option maxHeartbeats 4000000 in
theorem rblock_101 (k : Int) (h0 : 0 ≤ k) (h7 : k ≤ 7) (hs : 4 ≤ k) (ha : k % 2 ≠ 1) (hd : k / 2 % 2 = 1) (xs : List Int) (hx : xs.length = 64) (w : World) :
    Calls Tryz.prog 18 #[.int .i64 k, .agg (ints .i16 xs)] w fun e w' => e = .returned (.agg (ints .i16 (Tu.rTo true false true xs 64))) ∧ Below w.heap.size w w' := by
  have t1 : (k % 2 == 1) = false := beq_eq_false_iff_ne.2 (by omega)
  have t2 : (k / 2 % 2 == 1) = true := beq_iff_eq.2 (by omega)
  clear ha hd
  obtain ⟨N, hN⟩ : ∃ N, N = w.heap.size := ⟨_, rfl⟩
  have HN := Lib.hid hN
  rw [← hN]
  clear hN
  go_enter Tryz.func18, Tryz.ntmps18
  go_wp2_with fail
  refine wp_world (fun W => Blk W N (ints .i16 xs) 66 ∧ Blk W (N+1) (ints .i16 (List.replicate 64 0)) 66 ∧ Blk W (N+2) (ints .i16 (Tu.rTo true false true xs 0)) 66 ∧ Below N w W) ⟨?_, ?_, ?_, ?_⟩ ?_
  · exact ((Blk.new' _ _ _ HN.out).alloc _).alloc _
  · exact (Blk.new' _ _ _ (by rw [HN.out]; simp)).alloc _
  · rw [Tu.rTo_zero]; exact Blk.new' _ _ _ (by rw [HN.out]; simp)
  · exact (((Below.refl _ _).alloc (by rw [HN.out]; exact Nat.le_refl _) _).alloc (by rw [HN.out]; simp) _).alloc (by rw [HN.out]; simp; omega) _
  rintro W0 ⟨b0, b1, b2, hB⟩
  rw [← HN.out]
  go_loopw [6, 7, 8] (fun iv _ _ wr => ∃ v : Nat, v ≤ 8 ∧ iv = .int .i64 v ∧ Blk wr N (ints .i16 xs) 66 ∧ Blk wr (N+1) (ints .i16 (List.replicate 64 0)) 66 ∧ Blk wr (N+2) (ints .i16 (Tu.rTo true false true xs (8 * v))) 66 ∧ Below N w wr) (fun iv _ _ _ => 8 - (intOf iv).toNat)
  case atStart => exact ⟨0, by omega, rfl, b0, b1, b2, hB⟩
  case round =>
    clear b0 b1 b2 hB
    obtain ⟨v, hv, rfl, b0, b1, b2, hB⟩ := hrel
    by_cases hlt : v < 8
    · go_wp2_with fail
      obtain ⟨wo, hwo⟩ : ∃ wo : World, wo = wr := ⟨_, rfl⟩
      subst hwo
      go_loopw [7, 8] (fun iu _ wr => ∃ u : Nat, u ≤ 8 ∧ iu = .int .i64 u ∧ Blk wr N (ints .i16 xs) 66 ∧ Blk wr (N+1) (ints .i16 (List.replicate 64 0)) 66 ∧ Blk wr (N+2) (ints .i16 (Tu.rTo true false true xs (8 * v + u))) 66 ∧ Below N w wr) (fun iu _ _ => 8 - (intOf iu).toNat)
      case atStart => exact ⟨0, by omega, rfl, b0, b1, b2, hB⟩
      case round =>
        clear b0 b1 b2 hB
        obtain ⟨u, hu, rfl, b0, b1, b2, hB⟩ := hrel
        by_cases hlu : u < 8
        · have c0 := (b0.cell (8 * v + u)).trans (ints_get _ _ _ (by omega))
          obtain ⟨y, hy0⟩ : ∃ y, xs.getD (8 * v + u) 0 = y := ⟨_, rfl⟩
          rw [hy0] at c0
          have HY := Lib.hid hy0
          clear hy0
          have c1 := (b0.cell (8 * u + v)).trans (ints_get _ _ _ (by omega))
          obtain ⟨x, hx0⟩ : ∃ x, xs.getD (8 * u + v) 0 = x := ⟨_, rfl⟩
          rw [hx0] at c1
          have HX := Lib.hid hx0
          clear hx0
          have c2 := (b2.cell (8 * v + u)).trans (ints_get _ _ _ (by rw [Tu.rTo_len]; omega))
          have f2 := b2.free (8 * v + u)
          by_cases hq : v % 2 = 1
          · have v2 : ((v : Int) % 2 == 1) = true := beq_iff_eq.2 (by omega)
            go_wp2_with fail
            refine ⟨⟨u + 1, by omega, by go_num, b0.other _ _ (by show N ≠ N + 1 + 1; omega), b1.other _ _ (by show N + 1 ≠ N + 1 + 1; omega), ?_, hB.setCell (by show N ≤ N + 1 + 1; omega) _⟩, by simp [intOf]; omega⟩
            have h2 := b2.set (8 * v + u) (.int .i16 (IntKind.i16.wrap (-x)))
            have h3 := Tu.rTo_succ true false true xs (8 * v + u) (by omega)
            rw [show Tu.rco true false true xs (8 * v + u) = IntKind.i16.wrap (-x) from by rw [← HX.out]; simp only [Tu.rco, show (8 * v + u) % 8 = u by omega, show (8 * v + u) / 8 = v by omega]; simp [hq]] at h3
            rw [ints_set, h3] at h2
            exact h2
          · have v2 : ((v : Int) % 2 == 1) = false := beq_eq_false_iff_ne.2 (by omega)
            go_wp2_with fail
            refine ⟨⟨u + 1, by omega, by go_num, b0.other _ _ (by show N ≠ N + 1 + 1; omega), b1.other _ _ (by show N + 1 ≠ N + 1 + 1; omega), ?_, hB.setCell (by show N ≤ N + 1 + 1; omega) _⟩, by simp [intOf]; omega⟩
            have h2 := b2.set (8 * v + u) (.int .i16 (x))
            have h3 := Tu.rTo_succ true false true xs (8 * v + u) (by omega)
            rw [show Tu.rco true false true xs (8 * v + u) = x from by rw [← HX.out]; simp only [Tu.rco, show (8 * v + u) % 8 = u by omega, show (8 * v + u) / 8 = v by omega]; simp [hq]] at h3
            rw [ints_set, h3] at h2
            exact h2
        · obtain rfl : u = 8 := by omega
          go_wp2_with fail
          exact ⟨⟨v + 1, by omega, by go_num, b0, b1, b2, hB⟩, by simp [intOf]; omega⟩
    · obtain rfl : v = 8 := by omega
      go_wp2_with (first | (refine wpList_load_row rfl 66 _ rfl (N + 2) rfl 66 _ _ _ b2 Tryz.underlying66 rfl (by rw [ints_size, Tu.rTo_len]; kernel_rfl) ?_) | (refine wpList_store_row rfl 66 _ _ rfl (N + 1) _ rfl rfl 66 _ b1 (by rw [ints_size, Tu.rTo_len]; kernel_rfl) (by simp [Tu.rTo_len]) (ints_one _ _) ?_))
      refine bodyPost_ret (results_cell_row rfl _ _ (N + 1) 66 _ _ _ rfl (b1.row _) Tryz.underlying66 rfl (by rw [ints_size, Tu.rTo_len]; kernel_rfl)) rfl ⟨rfl, ?_⟩
      exact Below.setRow hB (by omega) _
set_option maxRecDepth 100000 in
set_option maxHeartbeats 4000000 in
theorem rblock_110 (k : Int) (h0 : 0 ≤ k) (h7 : k ≤ 7) (hs : 4 ≤ k) (ha : k % 2 = 1) (hd : k / 2 % 2 ≠ 1) (xs : List Int) (hx : xs.length = 64) (w : World) :
    Calls Tryz.prog 18 #[.int .i64 k, .agg (ints .i16 xs)] w fun e w' => e = .returned (.agg (ints .i16 (Tu.rTo true true false xs 64))) ∧ Below w.heap.size w w' := by
  have t1 : (k % 2 == 1) = true := beq_iff_eq.2 (by omega)
  have t2 : (k / 2 % 2 == 1) = false := beq_eq_false_iff_ne.2 (by omega)
  clear ha hd
  obtain ⟨N, hN⟩ : ∃ N, N = w.heap.size := ⟨_, rfl⟩
  have HN := Lib.hid hN
  rw [← hN]
  clear hN
  go_enter Tryz.func18, Tryz.ntmps18
  go_wp2_with fail
  refine wp_world (fun W => Blk W N (ints .i16 xs) 66 ∧ Blk W (N+1) (ints .i16 (List.replicate 64 0)) 66 ∧ Blk W (N+2) (ints .i16 (Tu.rTo true true false xs 0)) 66 ∧ Below N w W) ⟨?_, ?_, ?_, ?_⟩ ?_
  · exact ((Blk.new' _ _ _ HN.out).alloc _).alloc _
  · exact (Blk.new' _ _ _ (by rw [HN.out]; simp)).alloc _
  · rw [Tu.rTo_zero]; exact Blk.new' _ _ _ (by rw [HN.out]; simp)
  · exact (((Below.refl _ _).alloc (by rw [HN.out]; exact Nat.le_refl _) _).alloc (by rw [HN.out]; simp) _).alloc (by rw [HN.out]; simp; omega) _
  rintro W0 ⟨b0, b1, b2, hB⟩
  rw [← HN.out]
  go_loopw [6, 7, 8] (fun iv _ _ wr => ∃ v : Nat, v ≤ 8 ∧ iv = .int .i64 v ∧ Blk wr N (ints .i16 xs) 66 ∧ Blk wr (N+1) (ints .i16 (List.replicate 64 0)) 66 ∧ Blk wr (N+2) (ints .i16 (Tu.rTo true true false xs (8 * v))) 66 ∧ Below N w wr) (fun iv _ _ _ => 8 - (intOf iv).toNat)
  case atStart => exact ⟨0, by omega, rfl, b0, b1, b2, hB⟩
  case round =>
    clear b0 b1 b2 hB
    obtain ⟨v, hv, rfl, b0, b1, b2, hB⟩ := hrel
    by_cases hlt : v < 8
    · go_wp2_with fail
      obtain ⟨wo, hwo⟩ : ∃ wo : World, wo = wr := ⟨_, rfl⟩
      subst hwo
      go_loopw [7, 8] (fun iu _ wr => ∃ u : Nat, u ≤ 8 ∧ iu = .int .i64 u ∧ Blk wr N (ints .i16 xs) 66 ∧ Blk wr (N+1) (ints .i16 (List.replicate 64 0)) 66 ∧ Blk wr (N+2) (ints .i16 (Tu.rTo true true false xs (8 * v + u))) 66 ∧ Below N w wr) (fun iu _ _ => 8 - (intOf iu).toNat)
      case atStart => exact ⟨0, by omega, rfl, b0, b1, b2, hB⟩
      case round =>
        clear b0 b1 b2 hB
        obtain ⟨u, hu, rfl, b0, b1, b2, hB⟩ := hrel
        by_cases hlu : u < 8
        · have c0 := (b0.cell (8 * v + u)).trans (ints_get _ _ _ (by omega))
          obtain ⟨y, hy0⟩ : ∃ y, xs.getD (8 * v + u) 0 = y := ⟨_, rfl⟩
          rw [hy0] at c0
          have HY := Lib.hid hy0
          clear hy0
          have c1 := (b0.cell (8 * u + v)).trans (ints_get _ _ _ (by omega))
          obtain ⟨x, hx0⟩ : ∃ x, xs.getD (8 * u + v) 0 = x := ⟨_, rfl⟩
          rw [hx0] at c1
          have HX := Lib.hid hx0
          clear hx0
          have c2 := (b2.cell (8 * v + u)).trans (ints_get _ _ _ (by rw [Tu.rTo_len]; omega))
          have f2 := b2.free (8 * v + u)
          by_cases hp : u % 2 = 1
          · have v1 : ((u : Int) % 2 == 1) = true := beq_iff_eq.2 (by omega)
            go_wp2_with fail
            refine ⟨⟨u + 1, by omega, by go_num, b0.other _ _ (by show N ≠ N + 1 + 1; omega), b1.other _ _ (by show N + 1 ≠ N + 1 + 1; omega), ?_, hB.setCell (by show N ≤ N + 1 + 1; omega) _⟩, by simp [intOf]; omega⟩
            have h2 := b2.set (8 * v + u) (.int .i16 (IntKind.i16.wrap (-x)))
            have h3 := Tu.rTo_succ true true false xs (8 * v + u) (by omega)
            rw [show Tu.rco true true false xs (8 * v + u) = IntKind.i16.wrap (-x) from by rw [← HX.out]; simp only [Tu.rco, show (8 * v + u) % 8 = u by omega, show (8 * v + u) / 8 = v by omega]; simp [hp]] at h3
            rw [ints_set, h3] at h2
            exact h2
          · have v1 : ((u : Int) % 2 == 1) = false := beq_eq_false_iff_ne.2 (by omega)
            go_wp2_with fail
            refine ⟨⟨u + 1, by omega, by go_num, b0.other _ _ (by show N ≠ N + 1 + 1; omega), b1.other _ _ (by show N + 1 ≠ N + 1 + 1; omega), ?_, hB.setCell (by show N ≤ N + 1 + 1; omega) _⟩, by simp [intOf]; omega⟩
            have h2 := b2.set (8 * v + u) (.int .i16 (x))
            have h3 := Tu.rTo_succ true true false xs (8 * v + u) (by omega)
            rw [show Tu.rco true true false xs (8 * v + u) = x from by rw [← HX.out]; simp only [Tu.rco, show (8 * v + u) % 8 = u by omega, show (8 * v + u) / 8 = v by omega]; simp [hp]] at h3
            rw [ints_set, h3] at h2
            exact h2
        · obtain rfl : u = 8 := by omega
          go_wp2_with fail
          exact ⟨⟨v + 1, by omega, by go_num, b0, b1, b2, hB⟩, by simp [intOf]; omega⟩
    · obtain rfl : v = 8 := by omega
      go_wp2_with (first | (refine wpList_load_row rfl 66 _ rfl (N + 2) rfl 66 _ _ _ b2 Tryz.underlying66 rfl (by rw [ints_size, Tu.rTo_len]; kernel_rfl) ?_) | (refine wpList_store_row rfl 66 _ _ rfl (N + 1) _ rfl rfl 66 _ b1 (by rw [ints_size, Tu.rTo_len]; kernel_rfl) (by simp [Tu.rTo_len]) (ints_one _ _) ?_))
      refine bodyPost_ret (results_cell_row rfl _ _ (N + 1) 66 _ _ _ rfl (b1.row _) Tryz.underlying66 rfl (by rw [ints_size, Tu.rTo_len]; kernel_rfl)) rfl ⟨rfl, ?_⟩
      exact Below.setRow hB (by omega) _
set_option maxRecDepth 100000 in
set_option maxHeartbeats 4000000 in
theorem rblock_111 (k : Int) (h0 : 0 ≤ k) (h7 : k ≤ 7) (hs : 4 ≤ k) (ha : k % 2 = 1) (hd : k / 2 % 2 = 1) (xs : List Int) (hx : xs.length = 64) (w : World) :
    Calls Tryz.prog 18 #[.int .i64 k, .agg (ints .i16 xs)] w fun e w' => e = .returned (.agg (ints .i16 (Tu.rTo true true true xs 64))) ∧ Below w.heap.size w w' := by
  have t1 : (k % 2 == 1) = true := beq_iff_eq.2 (by omega)
  have t2 : (k / 2 % 2 == 1) = true := beq_iff_eq.2 (by omega)
  clear ha hd
  obtain ⟨N, hN⟩ : ∃ N, N = w.heap.size := ⟨_, rfl⟩
  have HN := Lib.hid hN
  rw [← hN]
  clear hN
  go_enter Tryz.func18, Tryz.ntmps18
  go_wp2_with fail
  refine wp_world (fun W => Blk W N (ints .i16 xs) 66 ∧ Blk W (N+1) (ints .i16 (List.replicate 64 0)) 66 ∧ Blk W (N+2) (ints .i16 (Tu.rTo true true true xs 0)) 66 ∧ Below N w W) ⟨?_, ?_, ?_, ?_⟩ ?_
  · exact ((Blk.new' _ _ _ HN.out).alloc _).alloc _
  · exact (Blk.new' _ _ _ (by rw [HN.out]; simp)).alloc _
  · rw [Tu.rTo_zero]; exact Blk.new' _ _ _ (by rw [HN.out]; simp)
  · exact (((Below.refl _ _).alloc (by rw [HN.out]; exact Nat.le_refl _) _).alloc (by rw [HN.out]; simp) _).alloc (by rw [HN.out]; simp; omega) _
  rintro W0 ⟨b0, b1, b2, hB⟩
  rw [← HN.out]
  go_loopw [6, 7, 8] (fun iv _ _ wr => ∃ v : Nat, v ≤ 8 ∧ iv = .int .i64 v ∧ Blk wr N (ints .i16 xs) 66 ∧ Blk wr (N+1) (ints .i16 (List.replicate 64 0)) 66 ∧ Blk wr (N+2) (ints .i16 (Tu.rTo true true true xs (8 * v))) 66 ∧ Below N w wr) (fun iv _ _ _ => 8 - (intOf iv).toNat)
  case atStart => exact ⟨0, by omega, rfl, b0, b1, b2, hB⟩
  case round =>
    clear b0 b1 b2 hB
    obtain ⟨v, hv, rfl, b0, b1, b2, hB⟩ := hrel
    by_cases hlt : v < 8
    · go_wp2_with fail
      obtain ⟨wo, hwo⟩ : ∃ wo : World, wo = wr := ⟨_, rfl⟩
      subst hwo
      go_loopw [7, 8] (fun iu _ wr => ∃ u : Nat, u ≤ 8 ∧ iu = .int .i64 u ∧ Blk wr N (ints .i16 xs) 66 ∧ Blk wr (N+1) (ints .i16 (List.replicate 64 0)) 66 ∧ Blk wr (N+2) (ints .i16 (Tu.rTo true true true xs (8 * v + u))) 66 ∧ Below N w wr) (fun iu _ _ => 8 - (intOf iu).toNat)
      case atStart => exact ⟨0, by omega, rfl, b0, b1, b2, hB⟩
      case round =>
        clear b0 b1 b2 hB
        obtain ⟨u, hu, rfl, b0, b1, b2, hB⟩ := hrel
        by_cases hlu : u < 8
        · have c0 := (b0.cell (8 * v + u)).trans (ints_get _ _ _ (by omega))
          obtain ⟨y, hy0⟩ : ∃ y, xs.getD (8 * v + u) 0 = y := ⟨_, rfl⟩
          rw [hy0] at c0
          have HY := Lib.hid hy0
          clear hy0
          have c1 := (b0.cell (8 * u + v)).trans (ints_get _ _ _ (by omega))
          obtain ⟨x, hx0⟩ : ∃ x, xs.getD (8 * u + v) 0 = x := ⟨_, rfl⟩
          rw [hx0] at c1
          have HX := Lib.hid hx0
          clear hx0
          have c2 := (b2.cell (8 * v + u)).trans (ints_get _ _ _ (by rw [Tu.rTo_len]; omega))
          have f2 := b2.free (8 * v + u)
          by_cases hp : u % 2 = 1
          · have v1 : ((u : Int) % 2 == 1) = true := beq_iff_eq.2 (by omega)
            by_cases hq : v % 2 = 1
            · have v2 : ((v : Int) % 2 == 1) = true := beq_iff_eq.2 (by omega)
              go_wp2_with fail
              refine ⟨⟨u + 1, by omega, by go_num, b0.other _ _ (by show N ≠ N + 1 + 1; omega), b1.other _ _ (by show N + 1 ≠ N + 1 + 1; omega), ?_, hB.setCell (by show N ≤ N + 1 + 1; omega) _⟩, by simp [intOf]; omega⟩
              have h2 := b2.set (8 * v + u) (.int .i16 (IntKind.i16.wrap (-(IntKind.i16.wrap (-x)))))
              have h3 := Tu.rTo_succ true true true xs (8 * v + u) (by omega)
              rw [show Tu.rco true true true xs (8 * v + u) = IntKind.i16.wrap (-(IntKind.i16.wrap (-x))) from by rw [← HX.out]; simp only [Tu.rco, show (8 * v + u) % 8 = u by omega, show (8 * v + u) / 8 = v by omega]; simp [hp, hq]] at h3
              rw [ints_set, h3] at h2
              exact h2
            · have v2 : ((v : Int) % 2 == 1) = false := beq_eq_false_iff_ne.2 (by omega)
              go_wp2_with fail
              refine ⟨⟨u + 1, by omega, by go_num, b0.other _ _ (by show N ≠ N + 1 + 1; omega), b1.other _ _ (by show N + 1 ≠ N + 1 + 1; omega), ?_, hB.setCell (by show N ≤ N + 1 + 1; omega) _⟩, by simp [intOf]; omega⟩
              have h2 := b2.set (8 * v + u) (.int .i16 (IntKind.i16.wrap (-x)))
              have h3 := Tu.rTo_succ true true true xs (8 * v + u) (by omega)
              rw [show Tu.rco true true true xs (8 * v + u) = IntKind.i16.wrap (-x) from by rw [← HX.out]; simp only [Tu.rco, show (8 * v + u) % 8 = u by omega, show (8 * v + u) / 8 = v by omega]; simp [hp, hq]] at h3
              rw [ints_set, h3] at h2
              exact h2
          · have v1 : ((u : Int) % 2 == 1) = false := beq_eq_false_iff_ne.2 (by omega)
            by_cases hq : v % 2 = 1
            · have v2 : ((v : Int) % 2 == 1) = true := beq_iff_eq.2 (by omega)
              go_wp2_with fail
              refine ⟨⟨u + 1, by omega, by go_num, b0.other _ _ (by show N ≠ N + 1 + 1; omega), b1.other _ _ (by show N + 1 ≠ N + 1 + 1; omega), ?_, hB.setCell (by show N ≤ N + 1 + 1; omega) _⟩, by simp [intOf]; omega⟩
              have h2 := b2.set (8 * v + u) (.int .i16 (IntKind.i16.wrap (-x)))
              have h3 := Tu.rTo_succ true true true xs (8 * v + u) (by omega)
              rw [show Tu.rco true true true xs (8 * v + u) = IntKind.i16.wrap (-x) from by rw [← HX.out]; simp only [Tu.rco, show (8 * v + u) % 8 = u by omega, show (8 * v + u) / 8 = v by omega]; simp [hp, hq]] at h3
              rw [ints_set, h3] at h2
              exact h2
            · have v2 : ((v : Int) % 2 == 1) = false := beq_eq_false_iff_ne.2 (by omega)
              go_wp2_with fail
              refine ⟨⟨u + 1, by omega, by go_num, b0.other _ _ (by show N ≠ N + 1 + 1; omega), b1.other _ _ (by show N + 1 ≠ N + 1 + 1; omega), ?_, hB.setCell (by show N ≤ N + 1 + 1; omega) _⟩, by simp [intOf]; omega⟩
              have h2 := b2.set (8 * v + u) (.int .i16 (x))
              have h3 := Tu.rTo_succ true true true xs (8 * v + u) (by omega)
              rw [show Tu.rco true true true xs (8 * v + u) = x from by rw [← HX.out]; simp only [Tu.rco, show (8 * v + u) % 8 = u by omega, show (8 * v + u) / 8 = v by omega]; simp [hp, hq]] at h3
              rw [ints_set, h3] at h2
              exact h2
        · obtain rfl : u = 8 := by omega
          go_wp2_with fail
          exact ⟨⟨v + 1, by omega, by go_num, b0, b1, b2, hB⟩, by simp [intOf]; omega⟩
    · obtain rfl : v = 8 := by omega
      go_wp2_with (first | (refine wpList_load_row rfl 66 _ rfl (N + 2) rfl 66 _ _ _ b2 Tryz.underlying66 rfl (by rw [ints_size, Tu.rTo_len]; kernel_rfl) ?_) | (refine wpList_store_row rfl 66 _ _ rfl (N + 1) _ rfl rfl 66 _ b1 (by rw [ints_size, Tu.rTo_len]; kernel_rfl) (by simp [Tu.rTo_len]) (ints_one _ _) ?_))
      refine bodyPost_ret (results_cell_row rfl _ _ (N + 1) 66 _ _ _ rfl (b1.row _) Tryz.underlying66 rfl (by rw [ints_size, Tu.rTo_len]; kernel_rfl)) rfl ⟨rfl, ?_⟩
      exact Below.setRow hB (by omega) _
theorem rblock_any (k : Int) (xs : List Int) (hx : xs.length = 64) (hb : ∀ i, -32768 ≤ xs.getD i 0 ∧ xs.getD i 0 ≤ 32767) (w : World) :
    Calls Tryz.prog 18 #[.int .i64 k, .agg (ints .i16 xs)] w fun e w' => e = .returned (.agg (ints .i16 (Tu.block k xs))) ∧ Below w.heap.size w w' := by
  by_cases h : 0 ≤ k ∧ k < 8
  · obtain ⟨h0, h8⟩ := h
    unfold Tu.block
    rw [if_pos ⟨h0, h8⟩]
    have h7 : k ≤ 7 := by omega
    by_cases hs : 4 ≤ k <;> by_cases ha : k % 2 = 1 <;> by_cases hd : k / 2 % 2 = 1 <;> simp only [hs, ha, hd, if_true, if_false, decide_true, decide_false]
    · have := Tu.rTo_all true true true xs hx hb; simp only [if_true] at this; rw [← this]; exact rblock_111 k h0 h7 hs ha hd xs hx w
    · have := Tu.rTo_all true true false xs hx hb; simp only [if_true] at this; rw [← this]; exact rblock_110 k h0 h7 hs ha hd xs hx w
    · have := Tu.rTo_all true false true xs hx hb; simp only [if_true] at this; rw [← this]; exact rblock_101 k h0 h7 hs ha hd xs hx w
    · have := Tu.rTo_all true false false xs hx hb; simp only [if_true] at this; rw [← this]; exact rblock_100 k h0 h7 hs ha hd xs hx w
    · have := Tu.rTo_all false true true xs hx hb; simp only [Bool.false_eq_true, if_false] at this; rw [← this]; exact rblock_011 k h0 h7 (by omega) ha hd xs hx w
    · have := Tu.rTo_all false true false xs hx hb; simp only [Bool.false_eq_true, if_false] at this; rw [← this]; exact rblock_010 k h0 h7 (by omega) ha hd xs hx w
    · have := Tu.rTo_all false false true xs hx hb; simp only [Bool.false_eq_true, if_false] at this; rw [← this]; exact rblock_001 k h0 h7 (by omega) ha hd xs hx w
    · have := Tu.rTo_all false false false xs hx hb; simp only [Bool.false_eq_true, if_false] at this; rw [← this]; exact rblock_000 k h0 h7 (by omega) ha hd xs hx w
  · unfold Tu.block
    rw [if_neg h]
    exact rblock_no k (by omega) xs hx w
end Go.Proofs.YtgmhhocpdfdplaaGreat
/- Turned blocks, tables, places in plain words: a turn behind a turn. -/
namespace Go.Proofs.YtgmhhocpdfdplaaGreat
open Go.RowKit
namespace Tu
def sgn (k : Int) (j : Nat) : Bool := (decide (k % 2 = 1) && decide (j % 2 = 1)) != (decide (k / 2 % 2 = 1) && decide (j / 8 % 2 = 1))
def perm (k : Int) (j : Nat) : Nat := if 4 ≤ k then j % 8 * 8 + j / 8 else j
def neg (b : Bool) (x : Int) : Int := if b then IntKind.i16.wrap (-x) else x
def In16 (xs : List Int) : Prop := ∀ i, -32768 ≤ xs.getD i 0 ∧ xs.getD i 0 ≤ 32767
theorem neg_in (b : Bool) (x : Int) (h0 : -32768 ≤ x) (h1 : x ≤ 32767) : -32768 ≤ neg b x ∧ neg b x ≤ 32767 := by
  unfold neg; rw [wrap16_eq]; split
  · split <;> omega
  · exact ⟨h0, h1⟩
theorem neg_neg (a b : Bool) (x : Int) (h0 : -32768 ≤ x) (h1 : x ≤ 32767) : neg a (neg b x) = neg (a != b) x := by
  have := wrap16_neg x h0 h1
  cases a <;> cases b <;> simp [neg, this]
theorem perm_lt (k : Int) (j : Nat) (h : j < 64) : perm k j < 64 := by unfold perm; split <;> omega
theorem block_get (k : Int) (h0 : 0 ≤ k) (h8 : k < 8) (xs : List Int) (_hx : xs.length = 64) (j : Nat) (hj : j < 64) : (block k xs).getD j 0 = neg (sgn k j) (xs.getD (perm k j) 0) := by
  have e : (if 4 ≤ k then Zg.swap xs else xs).getD j 0 = xs.getD (perm k j) 0 := by
    unfold perm
    split
    · simp [Zg.swap, List.getD_eq_getElem?_getD, hj]
    · rfl
  unfold block
  rw [if_pos ⟨h0, h8⟩]
  simp only [flip, List.getD_eq_getElem?_getD, List.getElem?_map, List.getElem?_range hj, Option.map_some, Option.getD_some]
  rw [← List.getD_eq_getElem?_getD, ← List.getD_eq_getElem?_getD, e]
  rfl
theorem block_in (k : Int) (h0 : 0 ≤ k) (h8 : k < 8) (xs : List Int) (hx : xs.length = 64) (hb : In16 xs) : In16 (block k xs) := by
  intro i
  by_cases hi : i < 64
  · rw [block_get k h0 h8 xs hx i hi]; exact neg_in _ _ (hb _).1 (hb _).2
  · rw [List.getD_eq_getElem?_getD, List.getElem?_eq_none (by rw [block_len]; omega)]; simp
theorem ext64 {xs ys : List Int} (hx : xs.length = 64) (hy : ys.length = 64) (h : ∀ j, j < 64 → xs.getD j 0 = ys.getD j 0) : xs = ys := by
  apply List.ext_getElem?
  intro j
  by_cases hj : j < 64
  · have := h j hj
    rw [List.getD_eq_getElem?_getD, List.getD_eq_getElem?_getD, List.getElem?_eq_getElem (by omega), List.getElem?_eq_getElem (by omega)] at this
    rw [List.getElem?_eq_getElem (by omega), List.getElem?_eq_getElem (by omega)]
    simpa using this
  · rw [List.getElem?_eq_none (by omega), List.getElem?_eq_none (by omega)]
theorem comp_fin : ∀ a b : Fin 8, ∀ j : Fin 64, (sgn (b.1 : Int) j.1 != sgn (a.1 : Int) (perm (b.1 : Int) j.1)) = sgn (then_ (a.1 : Int) (b.1 : Int)) j.1 ∧ perm (a.1 : Int) (perm (b.1 : Int) j.1) = perm (then_ (a.1 : Int) (b.1 : Int)) j.1 := by decide +kernel
theorem comp (a b : Int) (a0 : 0 ≤ a) (a8 : a < 8) (b0 : 0 ≤ b) (b8 : b < 8) (xs : List Int) (hx : xs.length = 64) (hb : In16 xs) : block b (block a xs) = block (then_ a b) xs := by
  have ht : 0 ≤ then_ a b ∧ then_ a b < 8 := by
    rcases eight a0 a8 with rfl | rfl | rfl | rfl | rfl | rfl | rfl | rfl <;> rcases eight b0 b8 with rfl | rfl | rfl | rfl | rfl | rfl | rfl | rfl <;> decide +kernel
  refine ext64 (block_len _ _) (block_len _ _) fun j hj => ?_
  rw [block_get b b0 b8 _ (block_len _ _) j hj, block_get a a0 a8 xs hx _ (perm_lt b j hj), neg_neg _ _ _ (hb _).1 (hb _).2, block_get _ ht.1 ht.2 xs hx j hj]
  have h := comp_fin ⟨a.toNat, by omega⟩ ⟨b.toNat, by omega⟩ ⟨j, hj⟩
  simp only [Int.toNat_of_nonneg a0, Int.toNat_of_nonneg b0] at h
  rw [h.1, h.2]
theorem block_zero (xs : List Int) (hx : xs.length = 64) : block 0 xs = xs := by
  refine ext64 (block_len _ _) hx fun j hj => ?_
  rw [block_get 0 (by omega) (by omega) xs hx j hj]
  have h1 : sgn 0 j = false := by simp [sgn]
  have h2 : perm 0 j = j := by simp [perm]
  rw [h1, h2]; rfl
theorem group_fin : ∀ a b c : Fin 8, (then_ (then_ (a.1 : Int) (b.1 : Int)) (c.1 : Int) == then_ (a.1 : Int) (then_ (b.1 : Int) (c.1 : Int))) = true ∧
    then_ (a.1 : Int) (back (a.1 : Int)) = 0 ∧ then_ (back (a.1 : Int)) (a.1 : Int) = 0 ∧ 0 ≤ back (a.1 : Int) ∧ back (a.1 : Int) < 8 ∧ 0 ≤ then_ (a.1 : Int) (b.1 : Int) ∧ then_ (a.1 : Int) (b.1 : Int) < 8 ∧ 0 ≤ then_ (b.1 : Int) (c.1 : Int) ∧ then_ (b.1 : Int) (c.1 : Int) < 8 := by decide +kernel
theorem from_lo (k w h r c : Int) (h0 : 0 ≤ k) (h8 : k < 8) (hr : 0 ≤ r) (hc : 0 ≤ c) (hr' : r < (sides k w h).2) (hc' : c < (sides k w h).1) :
    0 ≤ (from_ k w h r c).1 ∧ (from_ k w h r c).1 < h ∧ 0 ≤ (from_ k w h r c).2 ∧ (from_ k w h r c).2 < w := by
  unfold sides at hr' hc'; unfold from_
  rw [if_pos ⟨h0, h8⟩] at *
  by_cases h4 : 4 ≤ k <;> simp only [h4, if_true, if_false] at * <;> refine ⟨?_, ?_, ?_, ?_⟩ <;> split <;> omega
theorem then8 (a b : Int) (a0 : 0 ≤ a) (a8 : a < 8) (b0 : 0 ≤ b) (b8 : b < 8) : 0 ≤ then_ a b ∧ then_ a b < 8 := by
  rcases eight a0 a8 with rfl | rfl | rfl | rfl | rfl | rfl | rfl | rfl <;> rcases eight b0 b8 with rfl | rfl | rfl | rfl | rfl | rfl | rfl | rfl <;> decide +kernel
theorem places (i j w h r c : Int) (i0 : 0 ≤ i) (i8 : i < 8) (j0 : 0 ≤ j) (j8 : j < 8) :
    from_ i w h (from_ j (sides i w h).1 (sides i w h).2 r c).1 (from_ j (sides i w h).1 (sides i w h).2 r c).2 = from_ (then_ i j) w h r c := by
  have ht : ∀ a b t, then_ a b = t → then_ a b = t := fun _ _ _ h => h
  rcases eight i0 i8 with rfl | rfl | rfl | rfl | rfl | rfl | rfl | rfl <;> rcases eight j0 j8 with rfl | rfl | rfl | rfl | rfl | rfl | rfl | rfl <;>
    (first
      | (rw [show then_ _ _ = 0 by decide +kernel]; simp [from_, sides]; try omega)
      | (rw [show then_ _ _ = 1 by decide +kernel]; simp [from_, sides]; try omega)
      | (rw [show then_ _ _ = 2 by decide +kernel]; simp [from_, sides]; try omega)
      | (rw [show then_ _ _ = 3 by decide +kernel]; simp [from_, sides]; try omega)
      | (rw [show then_ _ _ = 4 by decide +kernel]; simp [from_, sides]; try omega)
      | (rw [show then_ _ _ = 5 by decide +kernel]; simp [from_, sides]; try omega)
      | (rw [show then_ _ _ = 6 by decide +kernel]; simp [from_, sides]; try omega)
      | (rw [show then_ _ _ = 7 by decide +kernel]; simp [from_, sides]; try omega))
theorem table_get (k : Int) (h0 : 0 ≤ k) (h8 : k < 8) (q : List Int) (j : Nat) (hj : j < 64) : (table k q).getD j 0 = q.getD (perm k j) 0 := by
  unfold table perm
  rw [if_pos ⟨h0, h8⟩]
  split
  · simp [Zg.swap, List.getD_eq_getElem?_getD, hj]
  · rfl
theorem tcomp (a b : Int) (a0 : 0 ≤ a) (a8 : a < 8) (b0 : 0 ≤ b) (b8 : b < 8) (xs : List Int) (hx : xs.length = 64) : table b (table a xs) = table (then_ a b) xs := by
  have ht := then8 a b a0 a8 b0 b8
  refine ext64 (table_len _ _ (table_len _ _ hx)) (table_len _ _ hx) fun j hj => ?_
  rw [table_get b b0 b8 _ j hj, table_get a a0 a8 xs _ (perm_lt b j hj), table_get _ ht.1 ht.2 xs j hj]
  have h := comp_fin ⟨a.toNat, by omega⟩ ⟨b.toNat, by omega⟩ ⟨j, hj⟩
  simp only [Int.toNat_of_nonneg a0, Int.toNat_of_nonneg b0] at h
  rw [h.2]
theorem table_zero (xs : List Int) : table 0 xs = xs := by simp [table]
theorem sides_comp (i j w h : Int) (i0 : 0 ≤ i) (i8 : i < 8) (j0 : 0 ≤ j) (j8 : j < 8) : sides j (sides i w h).1 (sides i w h).2 = sides (then_ i j) w h := by
  rcases eight i0 i8 with rfl | rfl | rfl | rfl | rfl | rfl | rfl | rfl <;> rcases eight j0 j8 with rfl | rfl | rfl | rfl | rfl | rfl | rfl | rfl <;>
    (first
      | (rw [show then_ _ _ = 0 by decide +kernel]; rfl)
      | (rw [show then_ _ _ = 1 by decide +kernel]; rfl)
      | (rw [show then_ _ _ = 2 by decide +kernel]; rfl)
      | (rw [show then_ _ _ = 3 by decide +kernel]; rfl)
      | (rw [show then_ _ _ = 4 by decide +kernel]; rfl)
      | (rw [show then_ _ _ = 5 by decide +kernel]; rfl)
      | (rw [show then_ _ _ = 6 by decide +kernel]; rfl)
      | (rw [show then_ _ _ = 7 by decide +kernel]; rfl))
theorem neg_mem {b : Bool} {x : Int} (h : -32768 ≤ x ∧ x ≤ 32767) : -32768 ≤ neg b x ∧ neg b x ≤ 32767 := neg_in b x h.1 h.2
end Tu
theorem wf16 (z : Int) : (Lit.int .i16 z).wf = true ↔ -32768 ≤ z ∧ z ≤ 32767 := by
  simp only [Lit.wf, Bool.and_eq_true, decide_eq_true_eq]
  rw [show IntKind.i16.min = -32768 from rfl, show IntKind.i16.max = 32767 from rfl]
theorem block_wf {k : Int} {b : List Int} (hb : ∀ y ∈ b, (Lit.int .i16 y).wf = true) (hl : b.length = 64) : ∀ y ∈ Tu.block k b, (Lit.int .i16 y).wf = true := by
  have hin : Tu.In16 b := fun i => by
    by_cases hi : i < b.length
    · rw [List.getD_eq_getElem?_getD, List.getElem?_eq_getElem hi]
      exact (wf16 _).1 (hb _ (List.getElem_mem hi))
    · rw [List.getD_eq_getElem?_getD, List.getElem?_eq_none (by omega)]; simp
  intro y hy
  rw [wf16]
  obtain ⟨j, hj, rfl⟩ := List.getElem_of_mem hy
  by_cases hk : 0 ≤ k ∧ k < 8
  · have := Tu.block_in k hk.1 hk.2 b hl hin j
    rwa [List.getD_eq_getElem?_getD, List.getElem?_eq_getElem hj] at this
  · have e : Tu.block k b = List.replicate 64 0 := by unfold Tu.block; rw [if_neg hk]
    have : (Tu.block k b)[j]'hj = 0 := by
      have h2 : ∀ z ∈ Tu.block k b, z = 0 := by rw [e]; exact fun z hz => (List.mem_replicate.1 hz).2
      exact h2 _ (List.getElem_mem hj)
    rw [this]; decide
theorem table_mem {k : Int} (hk : 0 ≤ k ∧ k < 8) {q : List Int} (hl : q.length = 64) {y : Int} (hy : y ∈ Tu.table k q) : y ∈ q := by
  obtain ⟨j, hj, rfl⟩ := List.getElem_of_mem hy
  have hj64 : j < 64 := by rwa [Tu.table_len k q hl] at hj
  have := Tu.table_get k hk.1 hk.2 q j hj64
  rw [List.getD_eq_getElem?_getD, List.getElem?_eq_getElem hj, Option.getD_some] at this
  rw [this, List.getD_eq_getElem?_getD, List.getElem?_eq_getElem (by rw [hl]; exact Tu.perm_lt k j hj64)]
  exact List.getElem_mem _
end Go.Proofs.YtgmhhocpdfdplaaGreat
