/- Blocks cloned; a sheet made, set, read; a window. -/
import Derived.Test.YtgmhhocpdfdplaaPlane2
import Derived.Test.YtgmhhocpdfdplaaAr
import Derived.Test.YtgmhhocpdfdplaaInert
import Derived.Lib.SliceRun
namespace Go.Proofs.Ytgmhhocpdfdplaa
open Go.RowKit
set_option maxRecDepth 100000
set_option maxHeartbeats 4000000
theorem blocks_clone (u : Value) (n : Nat) (xs : List Value) (hn : n ≤ 1000000) (w : World) (h : Ar w 64 u n xs) (h1 : ∀ u ∈ xs, u.oneCell' = true) :
    Calls Try.prog 83 #[u] w fun e w' => ∃ u', e = .returned u' ∧ Row w' w.heap.size 57 64 u' n xs ∧ Below w.heap.size w w' := by
  rcases h.2 with ⟨rfl, rfl⟩ | ⟨ad, cap, rfl, h2, h3, h4⟩
  · have hn0 : ∀ W, (binOp .eql 59 (.slice none 0 0) (.slice none 0 0)).run Try.prog W = .ok (.bool true) W := fun W => Lib.run_eql_slice_nil W 59 57 none 0 0 0 0 Try.underlying59
    obtain rfl : xs = [] := List.eq_nil_of_length_eq_zero (by simpa using h.1)
    go_enter Try.func83, Try.ntmps83
    go_wp2_with fail
    go_ret
    exact ⟨_, rfl, Row.nil _ _ _ _, Below.refl _ _⟩
  · have hn0 : ∀ W, (binOp .eql 59 (.slice (some ad) n cap) (.slice none 0 0)).run Try.prog W = .ok (.bool false) W := fun W => Lib.run_eql_slice_nil W 59 57 _ _ _ 0 0 Try.underlying59
    obtain ⟨N, hN⟩ : ∃ N, N = w.heap.size := ⟨_, rfl⟩
    have HN := Lib.hid hN
    rw [← hN]
    clear hN
    have hB1 : Below N w (w.alloc (.cells #[] 57)) := (Below.refl _ _).alloc (by rw [HN.out]; exact Nat.le_refl _) _
    have hA1 := h.below (w' := w.alloc (.cells #[] 57)) (by rw [← HN.out]; exact hB1)
    have hE : Row (w.alloc (.cells #[] 57)) N 57 64 (.slice (some ⟨w.heap.size, 0, none⟩) 0 0) 0 [] := Row.empty (Blk.new _ _ _) (by rw [HN.out]; exact Nat.le_refl _)
    go_enter Try.func83, Try.ntmps83
    go_wp2_with (refine wpList_append_ar _ rfl _ _ 59 rfl N 57 _ _ 64 128 rfl rfl rfl rfl rfl rfl _ 0 [] rfl hE _ n xs rfl hA1 h1 (by simp only [maxLen]; omega) (by omega) (by simp; rw [HN.out]; omega) (fun v' w3 hR1 hg3 hat => ?_))
    go_ret
    refine ⟨_, rfl, by simpa using hR1, Below.grown hB1 (by simp; rw [HN.out]; omega) hg3 (fun k e => by cases e; exact Nat.le_of_eq HN.out)⟩
end Go.Proofs.Ytgmhhocpdfdplaa
