/- slices.Clone at parts, components, tables, tags. Made by gen_clones.py out of blocks_clone. -/
import Derived.Test.YtgmhhocpdfdplaaPlane3
namespace Go.Proofs.Ytgmhhocpdfdplaa
open Go.RowKit
set_option maxRecDepth 100000
set_option maxHeartbeats 4000000
theorem part_clone (u : Value) (n : Nat) (xs : List Value) (hn : n ≤ 1000000) (w : World) (h : Ar w 2 u n xs) (h1 : ∀ u ∈ xs, u.oneCell' = true) :
    Calls Try.prog 138 #[u] w fun e w' => ∃ u', e = .returned u' ∧ Row w' w.heap.size 154 2 u' n xs ∧ Below w.heap.size w w' := by
  rcases h.2 with ⟨rfl, rfl⟩ | ⟨ad, cap, rfl, h2, h3, h4⟩
  · have hn0 : ∀ W, (binOp .eql 153 (.slice none 0 0) (.slice none 0 0)).run Try.prog W = .ok (.bool true) W := fun W => Lib.run_eql_slice_nil W 153 154 none 0 0 0 0 Try.underlying153
    obtain rfl : xs = [] := List.eq_nil_of_length_eq_zero (by simpa using h.1)
    go_enter Try.func138, Try.ntmps138
    go_wp2_with fail
    go_ret
    exact ⟨_, rfl, Row.nil _ _ _ _, Below.refl _ _⟩
  · have hn0 : ∀ W, (binOp .eql 153 (.slice (some ad) n cap) (.slice none 0 0)).run Try.prog W = .ok (.bool false) W := fun W => Lib.run_eql_slice_nil W 153 154 _ _ _ 0 0 Try.underlying153
    obtain ⟨N, hN⟩ : ∃ N, N = w.heap.size := ⟨_, rfl⟩
    have HN := Lib.hid hN
    rw [← hN]
    clear hN
    have hB1 : Below N w (w.alloc (.cells #[] 154)) := (Below.refl _ _).alloc (by rw [HN.out]; exact Nat.le_refl _) _
    have hA1 := h.below (w' := w.alloc (.cells #[] 154)) (by rw [← HN.out]; exact hB1)
    have hE : Row (w.alloc (.cells #[] 154)) N 154 2 (.slice (some ⟨w.heap.size, 0, none⟩) 0 0) 0 [] := Row.empty (Blk.new _ _ _) (by rw [HN.out]; exact Nat.le_refl _)
    go_enter Try.func138, Try.ntmps138
    go_wp2_with (refine wpList_append_ar _ rfl _ _ 153 rfl N 154 _ _ 2 16 rfl rfl rfl rfl rfl rfl _ 0 [] rfl hE _ n xs rfl hA1 h1 (by simp only [maxLen]; omega) (by omega) (by simp; rw [HN.out]; omega) (fun v' w3 hR1 hg3 hat => ?_))
    go_ret
    refine ⟨_, rfl, by simpa using hR1, Below.grown hB1 (by simp; rw [HN.out]; omega) hg3 (fun k e => by cases e; exact Nat.le_of_eq HN.out)⟩
theorem comp_clone (u : Value) (n : Nat) (xs : List Value) (hn : n ≤ 1000000) (w : World) (h : Ar w 7 u n xs) (h1 : ∀ u ∈ xs, u.oneCell' = true) :
    Calls Try.prog 71 #[u] w fun e w' => ∃ u', e = .returned u' ∧ Row w' w.heap.size 63 7 u' n xs ∧ Below w.heap.size w w' := by
  rcases h.2 with ⟨rfl, rfl⟩ | ⟨ad, cap, rfl, h2, h3, h4⟩
  · have hn0 : ∀ W, (binOp .eql 22 (.slice none 0 0) (.slice none 0 0)).run Try.prog W = .ok (.bool true) W := fun W => Lib.run_eql_slice_nil W 22 63 none 0 0 0 0 Try.underlying22
    obtain rfl : xs = [] := List.eq_nil_of_length_eq_zero (by simpa using h.1)
    go_enter Try.func71, Try.ntmps71
    go_wp2_with fail
    go_ret
    exact ⟨_, rfl, Row.nil _ _ _ _, Below.refl _ _⟩
  · have hn0 : ∀ W, (binOp .eql 22 (.slice (some ad) n cap) (.slice none 0 0)).run Try.prog W = .ok (.bool false) W := fun W => Lib.run_eql_slice_nil W 22 63 _ _ _ 0 0 Try.underlying22
    obtain ⟨N, hN⟩ : ∃ N, N = w.heap.size := ⟨_, rfl⟩
    have HN := Lib.hid hN
    rw [← hN]
    clear hN
    have hB1 : Below N w (w.alloc (.cells #[] 63)) := (Below.refl _ _).alloc (by rw [HN.out]; exact Nat.le_refl _) _
    have hA1 := h.below (w' := w.alloc (.cells #[] 63)) (by rw [← HN.out]; exact hB1)
    have hE : Row (w.alloc (.cells #[] 63)) N 63 7 (.slice (some ⟨w.heap.size, 0, none⟩) 0 0) 0 [] := Row.empty (Blk.new _ _ _) (by rw [HN.out]; exact Nat.le_refl _)
    go_enter Try.func71, Try.ntmps71
    go_wp2_with (refine wpList_append_ar _ rfl _ _ 22 rfl N 63 _ _ 7 72 rfl rfl rfl rfl rfl rfl _ 0 [] rfl hE _ n xs rfl hA1 h1 (by simp only [maxLen]; omega) (by omega) (by simp; rw [HN.out]; omega) (fun v' w3 hR1 hg3 hat => ?_))
    go_ret
    refine ⟨_, rfl, by simpa using hR1, Below.grown hB1 (by simp; rw [HN.out]; omega) hg3 (fun k e => by cases e; exact Nat.le_of_eq HN.out)⟩
theorem quant_clone (u : Value) (n : Nat) (xs : List Value) (hn : n ≤ 1000000) (w : World) (h : Ar w 65 u n xs) (h1 : ∀ u ∈ xs, u.oneCell' = true) :
    Calls Try.prog 72 #[u] w fun e w' => ∃ u', e = .returned u' ∧ Row w' w.heap.size 39 65 u' n xs ∧ Below w.heap.size w w' := by
  rcases h.2 with ⟨rfl, rfl⟩ | ⟨ad, cap, rfl, h2, h3, h4⟩
  · have hn0 : ∀ W, (binOp .eql 23 (.slice none 0 0) (.slice none 0 0)).run Try.prog W = .ok (.bool true) W := fun W => Lib.run_eql_slice_nil W 23 39 none 0 0 0 0 Try.underlying23
    obtain rfl : xs = [] := List.eq_nil_of_length_eq_zero (by simpa using h.1)
    go_enter Try.func72, Try.ntmps72
    go_wp2_with fail
    go_ret
    exact ⟨_, rfl, Row.nil _ _ _ _, Below.refl _ _⟩
  · have hn0 : ∀ W, (binOp .eql 23 (.slice (some ad) n cap) (.slice none 0 0)).run Try.prog W = .ok (.bool false) W := fun W => Lib.run_eql_slice_nil W 23 39 _ _ _ 0 0 Try.underlying23
    obtain ⟨N, hN⟩ : ∃ N, N = w.heap.size := ⟨_, rfl⟩
    have HN := Lib.hid hN
    rw [← hN]
    clear hN
    have hB1 : Below N w (w.alloc (.cells #[] 39)) := (Below.refl _ _).alloc (by rw [HN.out]; exact Nat.le_refl _) _
    have hA1 := h.below (w' := w.alloc (.cells #[] 39)) (by rw [← HN.out]; exact hB1)
    have hE : Row (w.alloc (.cells #[] 39)) N 39 65 (.slice (some ⟨w.heap.size, 0, none⟩) 0 0) 0 [] := Row.empty (Blk.new _ _ _) (by rw [HN.out]; exact Nat.le_refl _)
    go_enter Try.func72, Try.ntmps72
    go_wp2_with (refine wpList_append_ar _ rfl _ _ 23 rfl N 39 _ _ 65 136 rfl rfl rfl rfl rfl rfl _ 0 [] rfl hE _ n xs rfl hA1 h1 (by simp only [maxLen]; omega) (by omega) (by simp; rw [HN.out]; omega) (fun v' w3 hR1 hg3 hat => ?_))
    go_ret
    refine ⟨_, rfl, by simpa using hR1, Below.grown hB1 (by simp; rw [HN.out]; omega) hg3 (fun k e => by cases e; exact Nat.le_of_eq HN.out)⟩
theorem tag_clone (u : Value) (n : Nat) (xs : List Value) (hn : n ≤ 1000000) (w : World) (h : Ar w 2 u n xs) (h1 : ∀ u ∈ xs, u.oneCell' = true) :
    Calls Try.prog 84 #[u] w fun e w' => ∃ u', e = .returned u' ∧ Row w' w.heap.size 104 2 u' n xs ∧ Below w.heap.size w w' := by
  rcases h.2 with ⟨rfl, rfl⟩ | ⟨ad, cap, rfl, h2, h3, h4⟩
  · have hn0 : ∀ W, (binOp .eql 24 (.slice none 0 0) (.slice none 0 0)).run Try.prog W = .ok (.bool true) W := fun W => Lib.run_eql_slice_nil W 24 104 none 0 0 0 0 Try.underlying24
    obtain rfl : xs = [] := List.eq_nil_of_length_eq_zero (by simpa using h.1)
    go_enter Try.func84, Try.ntmps84
    go_wp2_with fail
    go_ret
    exact ⟨_, rfl, Row.nil _ _ _ _, Below.refl _ _⟩
  · have hn0 : ∀ W, (binOp .eql 24 (.slice (some ad) n cap) (.slice none 0 0)).run Try.prog W = .ok (.bool false) W := fun W => Lib.run_eql_slice_nil W 24 104 _ _ _ 0 0 Try.underlying24
    obtain ⟨N, hN⟩ : ∃ N, N = w.heap.size := ⟨_, rfl⟩
    have HN := Lib.hid hN
    rw [← hN]
    clear hN
    have hB1 : Below N w (w.alloc (.cells #[] 104)) := (Below.refl _ _).alloc (by rw [HN.out]; exact Nat.le_refl _) _
    have hA1 := h.below (w' := w.alloc (.cells #[] 104)) (by rw [← HN.out]; exact hB1)
    have hE : Row (w.alloc (.cells #[] 104)) N 104 2 (.slice (some ⟨w.heap.size, 0, none⟩) 0 0) 0 [] := Row.empty (Blk.new _ _ _) (by rw [HN.out]; exact Nat.le_refl _)
    go_enter Try.func84, Try.ntmps84
    go_wp2_with (refine wpList_append_ar _ rfl _ _ 24 rfl N 104 _ _ 2 24 rfl rfl rfl rfl rfl rfl _ 0 [] rfl hE _ n xs rfl hA1 h1 (by simp only [maxLen]; omega) (by omega) (by simp; rw [HN.out]; omega) (fun v' w3 hR1 hg3 hat => ?_))
    go_ret
    refine ⟨_, rfl, by simpa using hR1, Below.grown hB1 (by simp; rw [HN.out]; omega) hg3 (fun k e => by cases e; exact Nat.le_of_eq HN.out)⟩
end Go.Proofs.Ytgmhhocpdfdplaa
