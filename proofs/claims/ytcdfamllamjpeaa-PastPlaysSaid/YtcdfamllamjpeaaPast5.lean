/- Package past's Oldest over entries; Push over a nil past. -/
import Derived.Test.YtcdfamllamjpeaaPast4
namespace Go.Proofs.Ytcdfamllamjpeaa
open Go.RowKit
set_option maxRecDepth 100000
set_option maxHeartbeats 2000000
theorem past_oldest (b most : Nat) (u : Value) (x : Pa.Ent) (l : List Pa.Ent) (w : World) (h : Pa.At w b most u (x :: l)) :
    Calls Try.prog 20 #[.pointer (some ⟨b, 0, none⟩)] w fun e w' => e = .returned (.tuple #[Pa.val x, .bool true]) ∧ Below w.heap.size w w' := by
  obtain ⟨N, hN⟩ : ∃ N, N = w.heap.size := ⟨_, rfl⟩
  have HN := Lib.hid hN
  have hbN : b < N := by rw [hN]; exact h.box.lt
  obtain ⟨g, cap, rfl, hcap, hgN, hgb, hc⟩ := h.open
  rw [← hN] at hgN ⊢
  clear hN
  obtain ⟨x1, x2, x3⟩ := x
  have hc0 := hc 0 (by omega)
  have hc1 := hc 1 (by omega)
  have hc2 := hc 2 (by omega)
  simp only [Pa.cells_cons, Pa.ent, List.cons_append, List.getElem?_cons_zero, List.getElem?_cons_succ] at hc0 hc1 hc2
  clear hc
  go_enter Try.func20, Try.ntmps20
  go_upto_region 1 with fail
  refine wp_world (fun W => Blk W N #[.int .i64 0, .int .i64 0, .int .i64 0] 29 ∧ Below N w W) ⟨Blk.new' _ _ _ HN.out, (Below.refl _ _).alloc (by rw [HN.out]; exact Nat.le_refl _) _⟩ ?_
  rintro W0 ⟨b0, hB⟩
  rw [← HN.out]
  have hN0 := b0.lt
  have q1 := (h.box.below hB hbN).cell 1
  have c0 := hB.cell (p := ⟨g, 0, none⟩) hgN
  rw [hc0] at c0
  have c1 := hB.cell (p := ⟨g, 1, none⟩) hgN
  rw [hc1] at c1
  have c2 := hB.cell (p := ⟨g, 2, none⟩) hgN
  rw [hc2] at c2
  clear hc0 hc1 hc2
  go_wp2_with (refine wpList_store_row rfl 29 _ _ rfl N _ rfl rfl 29 _ b0 (by kernel_rfl) rfl (by simp [Value.oneCell']) ?_)
  refine bodyPost_ret (results_row_tmp rfl _ _ N 29 _ _ rfl (b0.row _) Try.underlying29 rfl (by kernel_rfl)) rfl ?_
  exact ⟨rfl, Below.setRow hB (Nat.le_refl _) _⟩
theorem past_push_nil (x : Pa.Ent) (w : World) : Calls Try.prog 10 #[.pointer none, Pa.val x] w fun e w' => e = .returned (.tuple #[Pa.val (0, 0, 0), .bool false]) ∧ Below w.heap.size w w' := by
  unfold Pa.val
  obtain ⟨N, hN⟩ : ∃ N, N = w.heap.size := ⟨_, rfl⟩
  have HN := Lib.hid hN
  rw [← hN]
  clear hN
  go_enter Try.func10, Try.ntmps10
  go_upto_region 2 with fail
  refine wp_world (fun W => Blk W (N + 1) #[.int .i64 0, .int .i64 0, .int .i64 0] 29 ∧ Blk W (N + 2) #[.int .i64 0, .int .i64 0, .int .i64 0] 29 ∧ Below N w W) ⟨(Blk.new' _ _ _ (by simp [HN.out])).alloc _, Blk.new' _ _ _ (by simp [HN.out]), (((Below.refl _ _).alloc (by rw [HN.out]; exact Nat.le_refl _) _).alloc (by simp [HN.out]) _).alloc (by simp [HN.out]; omega) _⟩ ?_
  rintro W0 ⟨b0, b1, hB⟩
  rw [← HN.out]
  go_wp2_with (first | (refine wpList_load_row rfl 29 _ rfl (N + 2) rfl 29 _ _ _ b1 Try.underlying29 rfl (by kernel_rfl) ?_) | (refine wpList_store_row rfl 29 _ _ rfl (N + 1) _ rfl rfl 29 _ b0 (by kernel_rfl) rfl (by simp [Value.oneCell']) ?_))
  refine bodyPost_ret (results_row_tmp rfl _ _ (N + 1) 29 _ _ rfl (b0.row _) Try.underlying29 rfl (by kernel_rfl)) rfl ?_
  exact ⟨rfl, Below.setRow hB (by omega) _⟩
end Go.Proofs.Ytcdfamllamjpeaa
