/- Blocks cloned; a sheet made, set, read; a window. -/
import Derived.Test.YtpjocfcemjdneaaPlane2
import Derived.Test.YtpjocfcemjdneaaAr
import Derived.Test.YtpjocfcemjdneaaInert
import Derived.Lib.SliceRun
namespace Go.Proofs.Ytpjocfcemjdneaa
open Go.RowKit
set_option maxRecDepth 100000
set_option maxHeartbeats 4000000
theorem blocks_clone (u : Value) (n : Nat) (xs : List Value) (hn : n ≤ 1000000) (w : World) (h : Ar w 64 u n xs) (h1 : ∀ u ∈ xs, u.oneCell' = true) :
    Calls Try.prog 31 #[u] w fun e w' => ∃ u', e = .returned u' ∧ Row w' w.heap.size 34 64 u' n xs ∧ Below w.heap.size w w' := by
  rcases h.2 with ⟨rfl, rfl⟩ | ⟨ad, cap, rfl, h2, h3, h4⟩
  · have hn0 : ∀ W, (binOp .eql 22 (.slice none 0 0) (.slice none 0 0)).run Try.prog W = .ok (.bool true) W := fun W => Lib.run_eql_slice_nil W 22 34 none 0 0 0 0 Try.underlying22
    obtain rfl : xs = [] := List.eq_nil_of_length_eq_zero (by simpa using h.1)
    go_enter Try.func31, Try.ntmps31
    go_wp2_with fail
    go_ret
    exact ⟨_, rfl, Row.nil _ _ _ _, Below.refl _ _⟩
  · have hn0 : ∀ W, (binOp .eql 22 (.slice (some ad) n cap) (.slice none 0 0)).run Try.prog W = .ok (.bool false) W := fun W => Lib.run_eql_slice_nil W 22 34 _ _ _ 0 0 Try.underlying22
    obtain ⟨N, hN⟩ : ∃ N, N = w.heap.size := ⟨_, rfl⟩
    have HN := Lib.hid hN
    rw [← hN]
    clear hN
    have hB1 : Below N w (w.alloc (.cells #[] 34)) := (Below.refl _ _).alloc (by rw [HN.out]; exact Nat.le_refl _) _
    have hA1 := h.below (w' := w.alloc (.cells #[] 34)) (by rw [← HN.out]; exact hB1)
    have hE : Row (w.alloc (.cells #[] 34)) N 34 64 (.slice (some ⟨w.heap.size, 0, none⟩) 0 0) 0 [] := Row.empty (Blk.new _ _ _) (by rw [HN.out]; exact Nat.le_refl _)
    go_enter Try.func31, Try.ntmps31
    go_wp2_with (refine wpList_append_ar _ rfl _ _ 22 rfl N 34 _ _ 64 128 rfl rfl rfl rfl rfl rfl _ 0 [] rfl hE _ n xs rfl hA1 h1 (by simp only [maxLen]; omega) (by omega) (by simp; rw [HN.out]; omega) (fun v' w3 hR1 hg3 hat => ?_))
    go_ret
    refine ⟨_, rfl, by simpa using hR1, Below.grown hB1 (by simp; rw [HN.out]; omega) hg3 (fun k e => by cases e; exact Nat.le_of_eq HN.out)⟩
theorem law_few (c r : Value) (b : Option Addr) (n cap : Nat) (hn : n ≤ 9223372036854775807) (w : World) : Calls Try.prog 10 #[.agg #[c, r, .slice b n cap]] w fun e w' => e = .returned (.bool (decide (n ≤ 400))) ∧ Below w.heap.size w w' := by
  obtain ⟨N, hN⟩ : ∃ N, N = w.heap.size := ⟨_, rfl⟩
  have HN := Lib.hid hN
  rw [← hN]
  clear hN
  go_enter Try.func10, Try.ntmps10
  go_upto_region 1 with fail
  refine wp_world (fun W => Blk W N #[c, r, .slice b n cap] 24 ∧ Below N w W) ⟨Blk.new' _ _ _ HN.out, (Below.refl _ _).alloc (by rw [HN.out]; exact Nat.le_refl _) _⟩ ?_
  rintro W0 ⟨b0, hB⟩
  rw [← HN.out]
  have q2 := b0.cell 2
  go_wp2_with fail
  go_ret
  exact ⟨by congr 2; simp; omega, hB⟩
theorem law_of10 (a b h d : Int) (w : World) : Calls Try.prog 14 #[.agg #[.int .i64 a, .int .i64 b, .int .i64 h, .int .i64 d]] w fun e w' => e = .returned (.agg #[.int .i64 a, .int .i64 b, .int .i64 h, .int .i64 d]) ∧ Below w.heap.size w w' := by
  obtain ⟨N, hN⟩ : ∃ N, N = w.heap.size := ⟨_, rfl⟩
  have HN := Lib.hid hN
  rw [← hN]
  clear hN
  go_enter Try.func14, Try.ntmps14
  go_upto_region 1 with fail
  refine wp_world (fun W => Blk W N #[.int .i64 a, .int .i64 b, .int .i64 h, .int .i64 d] 36 ∧ Blk W (N + 1) #[.int .i64 0, .int .i64 0, .int .i64 0, .int .i64 0] 31 ∧ Below N w W) ⟨(Blk.new' _ _ _ HN.out).alloc _, Blk.new' _ _ _ (by rw [HN.out]; simp), ((Below.refl _ _).alloc (by rw [HN.out]; exact Nat.le_refl _) _).alloc (by rw [HN.out]; simp) _⟩ ?_
  rintro W0 ⟨b0, b1, hB⟩
  rw [← HN.out]
  have q0 := b0.cell 0
  have q1 := b0.cell 1
  have q2 := b0.cell 2
  have q3 := b0.cell 3
  go_wp2_with (refine wpList_store_row rfl 31 _ _ rfl (N+1) _ rfl rfl 31 _ b1 (by kernel_rfl) rfl (by simp [Value.oneCell']) ?_)
  refine bodyPost_ret (results_cell_row rfl _ _ (N + 1) 31 _ (0, 0) _ rfl (b1.row _) Try.underlying31 rfl (by kernel_rfl)) rfl ?_
  exact ⟨rfl, Below.setRow hB (by omega) _⟩
end Go.Proofs.Ytpjocfcemjdneaa
