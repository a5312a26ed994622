/- A sheet's plane; the example of the statements on planes. -/
import Derived.Test.YtgmhhocpdfdplaaBlk0
namespace Go.Proofs.Ytgmhhocpdfdplaa
open Go.RowKit
set_option maxRecDepth 100000
set_option maxHeartbeats 4000000
theorem sheet_plane (lo b c r : Nat) (u : Value) (bs : List (List Int)) (hcr : c * r ≤ 16384) (w : World) (h : Pl.Sheet w lo b c r u bs) :
    Calls Try.prog 75 #[.pointer (some ⟨b, 0, none⟩)] w fun e w' => ∃ v, e = .returned (.agg #[.int .i64 c, .int .i64 r, v]) ∧ Row w' w.heap.size 57 64 v bs.length (bcells bs) ∧ Below w.heap.size w w' := by
  obtain ⟨N, hN⟩ : ∃ N, N = w.heap.size := ⟨_, rfl⟩
  have HN := Lib.hid hN
  have hbN : b < N := by rw [hN]; exact h.box.lt
  rw [← hN]
  clear hN
  have hlen := h.len
  have hrow := h.row.ar
  rw [← hlen] at hrow hcr
  obtain ⟨bu, cu, rfl⟩ := h.row.len
  rw [← hlen] at hrow
  have hbox := h.box
  rw [← hlen] at hbox
  clear h hlen
  go_enter Try.func75, Try.ntmps75
  go_upto_region 1 with fail
  refine wp_world (fun W => Blk W N #[.int .i64 0, .int .i64 0, .slice none 0 0] 61 ∧ Below N w W) ⟨Blk.new' _ _ _ HN.out, (Below.refl _ _).alloc (by rw [HN.out]; exact Nat.le_refl _) _⟩ ?_
  rintro W0 ⟨b0, hB⟩
  rw [← HN.out]
  have hN0 : N < W0.heap.size := b0.lt
  have hb0 := hbox.below hB hbN
  have hb0w : W0.heap[b]? = some (.cells #[.int .i64 c, .int .i64 r, .slice bu bs.length cu] 180 (0, 0)) := hb0
  go_upto_region 4 with (refine wpList_load_row rfl 61 _ rfl b rfl 180 _ _ _ hb0w Try.underlying61 rfl (by kernel_rfl) ?_)
  obtain ⟨M, hM⟩ : ∃ M, M = W0.heap.size := ⟨_, rfl⟩
  have hNM : N < M := by omega
  refine wp_world (fun W => Blk W N #[.int .i64 0, .int .i64 0, .slice none 0 0] 61 ∧ Blk W M #[.int .i64 c, .int .i64 r, .slice bu bs.length cu] 61 ∧ Below N w W) ⟨b0.alloc _, Blk.new' _ _ _ hM, hB.alloc (by omega) _⟩ ?_
  rw [← hM]
  clear b0 hB hN0 hb0 hb0w hM
  rintro W1 ⟨b0, bM, hB⟩
  have hMW : M < W1.heap.size := bM.lt
  have q2 := bM.cell 2
  have f2 := bM.free 2
  have hA1 := hrow.below (w' := W1) (by rw [← HN.out]; exact hB)
  have hcl := blocks_clone (.slice bu bs.length cu) bs.length (bcells bs) (by omega) W1 hA1 (bcells_one _)
  go_upto_region 5 with (go_at_call 83; refine hcl.mono ?_; rintro e w2 ⟨v, rfl, hR, hb2⟩; obtain ⟨bv, cv, rfl⟩ := hR.len; have bM2 := bM.below hb2 bM.lt; have q4 := bM2.cell 2; have f4 := bM2.free 2)
  refine wp_world (fun W => Blk W N #[.int .i64 0, .int .i64 0, .slice none 0 0] 61 ∧ Blk W M #[.int .i64 c, .int .i64 r, .slice bv bs.length cv] 61 ∧ Row W (M + 1) 57 64 (.slice bv bs.length cv) bs.length (bcells bs) ∧ Below N w W) ⟨(b0.below hb2 b0.lt).other _ _ (by show N ≠ M; omega), bM2.set 2 _, ?_, ?_⟩ ?_
  · exact (hR.down (by omega)).other _ _ (fun g hg => by have := (hR.lt g hg).1; show g ≠ M; omega)
  · exact (hB.trans (hb2.mono (by omega))).setCell (p := ⟨M, 2, none⟩) (by show N ≤ M; omega) _
  clear b0 bM hB q2 f2 hA1 hcl hR hb2 bM2 q4 f4
  rintro W3 ⟨b0, bM, hR, hB⟩
  go_wp2_with (first | (refine wpList_load_row rfl 61 _ rfl M rfl 61 _ _ _ bM Try.underlying61 rfl (by kernel_rfl) ?_) | (refine wpList_store_row rfl 61 _ _ rfl N _ rfl rfl 61 _ b0 (by kernel_rfl) rfl (by simp [Value.oneCell']) ?_))
  refine bodyPost_ret (results_cell_row rfl _ _ N 61 _ (0, 0) _ rfl (b0.row _) Try.underlying61 rfl (by kernel_rfl)) rfl ?_
  exact ⟨_, rfl, (Row.same (w := W3) hR (fun g hg => setRow_other _ _ _ _ (by have := (hR.lt g hg).1; omega))).down (by omega), Below.setRow hB (Nat.le_refl _) _⟩
def Pl.seven : List Int := 7 :: List.replicate 63 0
theorem new32 (w : World) : Calls Try.prog 74 #[.int .i64 3, .int .i64 2] w fun e w' => ∃ b u, e = .returned (.tuple #[.pointer (some ⟨b, 0, none⟩), .int .i64 0]) ∧ Pl.Sheet w' w.heap.size b 3 2 u (List.replicate 6 (List.replicate 64 0)) ∧ w.heap.size ≤ b ∧ Below w.heap.size w w' := plane_new 3 2 rfl w
end Go.Proofs.Ytgmhhocpdfdplaa
