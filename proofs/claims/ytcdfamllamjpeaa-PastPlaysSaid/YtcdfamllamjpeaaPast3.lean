/- Package past's Pop and Len, walked. -/
import Derived.Test.YtcdfamllamjpeaaPast2
namespace Go.Proofs.Ytcdfamllamjpeaa
open Go.RowKit
namespace Pa
theorem At.open' {w : World} {b most : Nat} {u : Value} {l : List Ent} (h : At w b most u l) (hl : 0 < l.length) : ∃ g cap cur, u = .slice (some ⟨g, 0, none⟩) l.length cap ∧ l.length ≤ cap ∧ cap ≤ maxLen ∧ Blk w g cur 29 ∧ cap * 3 ≤ cur.size ∧ cur.toList.take (l.length * 3) = cells l ∧ g ≠ b := by
  rcases h.row.2 with ⟨_, h0⟩ | ⟨g, cap, cur, hu, h2, h3, h4, h5, h6, h7⟩
  · omega
  · exact ⟨g, cap, cur, hu, h4, h5, h3, h6, h7, h.row.typed h.box (by decide) g (by rw [hu]; rfl)⟩
end Pa
theorem past_len (b most : Nat) (u : Value) (l : List Pa.Ent) (w : World) (h : Pa.At w b most u l) :
    Calls Try.prog 12 #[.pointer (some ⟨b, 0, none⟩)] w fun e w' => e = .returned (.int .i64 l.length) ∧ w = w' := by
  obtain ⟨bu, cu, rfl⟩ := h.row.len
  have q1 := h.box.cell 1
  go_enter Try.func12, Try.ntmps12
  go_wp2_with fail
  go_ret
  exact ⟨rfl, rfl⟩
set_option maxRecDepth 100000 in
set_option maxHeartbeats 2000000 in
theorem past_pop0 (b most : Nat) (u : Value) (w : World) (h : Pa.At w b most u []) :
    Calls Try.prog 11 #[.pointer (some ⟨b, 0, none⟩)] w fun e w' => e = .returned (.tuple #[Pa.val (0, 0, 0), .bool false]) ∧ Below w.heap.size w w' := by
  obtain ⟨bu, cu, rfl⟩ := h.row.len
  unfold Pa.val
  obtain ⟨N, hN⟩ : ∃ N, N = w.heap.size := ⟨_, rfl⟩
  have HN := Lib.hid hN
  have hbN : b < N := by rw [hN]; exact h.box.lt
  rw [← hN]
  clear hN
  go_enter Try.func11, Try.ntmps11
  go_upto_region 1 with fail
  refine wp_world (fun W => Blk W N #[.int .i64 0, .int .i64 0, .int .i64 0] 29 ∧ Below N w W) ⟨Blk.new' _ _ _ HN.out, (Below.refl _ _).alloc (by rw [HN.out]; exact Nat.le_refl _) _⟩ ?_
  rintro W0 ⟨b0, hB⟩
  rw [← HN.out]
  have hN0 := b0.lt
  have q1 := (h.box.below hB hbN).cell 1
  go_upto_region 3 with fail
  obtain ⟨M, hM⟩ : ∃ M, M = W0.heap.size := ⟨_, rfl⟩
  have HM := Lib.hid hM
  rw [← hM]
  refine wp_world (fun W => Blk W N #[.int .i64 0, .int .i64 0, .int .i64 0] 29 ∧ Blk W M #[.int .i64 0, .int .i64 0, .int .i64 0] 29 ∧ Below N w W) ⟨b0.alloc _, Blk.new' _ _ _ HM.out, hB.alloc (by omega) _⟩ ?_
  clear b0 hB q1 hM
  rintro W1 ⟨b0, b1, hB⟩
  go_wp2_with (first | (refine wpList_load_row rfl 29 _ rfl M rfl 29 _ _ _ b1 Try.underlying29 rfl (by kernel_rfl) ?_) | (refine wpList_store_row rfl 29 _ _ rfl N _ rfl rfl 29 _ b0 (by kernel_rfl) rfl (by simp [Value.oneCell']) ?_))
  refine bodyPost_ret (results_row_tmp rfl _ _ N 29 _ _ rfl (b0.row _) Try.underlying29 rfl (by kernel_rfl)) rfl ?_
  exact ⟨rfl, Below.setRow hB (Nat.le_refl _) _⟩
set_option maxRecDepth 100000 in
set_option maxHeartbeats 2000000 in
theorem past_pop (b most : Nat) (u : Value) (x : Pa.Ent) (l : List Pa.Ent) (hl : l.length ≤ 100000) (w : World) (h : Pa.At w b most u (l ++ [x])) :
    Calls Try.prog 11 #[.pointer (some ⟨b, 0, none⟩)] w fun e w' => e = .returned (.tuple #[Pa.val x, .bool true]) ∧ ∃ u', Pa.At w' b most u' l ∧ Chg (· = b) w w' ∧ u'.ownBlock = u.ownBlock := by
  have hlen : (l ++ [x]).length = l.length + 1 := by simp
  obtain ⟨g, cap, cur, rfl, hcap, hmax, hblk, hcs, htake, hgb⟩ := h.open' (by omega)
  have hc : ∀ i, i < (l.length + 1) * 3 → w.cell? ⟨g, i, none⟩ = (Pa.cells (l ++ [x]))[i]? := fun i hi => by
    rw [hblk.cell, ← htake, List.getElem?_take, if_pos (by rw [hlen]; exact hi)]; simp
  rw [hlen] at h htake hcap ⊢
  obtain ⟨x1, x2, x3⟩ := x
  unfold Pa.val
  obtain ⟨N, hN⟩ : ∃ N, N = w.heap.size := ⟨_, rfl⟩
  have HN := Lib.hid hN
  have hbN : b < N := by rw [hN]; exact h.box.lt
  have hgN : g < N := by rw [hN]; exact hblk.lt
  clear hN
  have hcx : ∀ i, i < 3 → (Pa.cells (l ++ [(x1, x2, x3)]))[l.length * 3 + i]? = (Pa.ent (x1, x2, x3))[i]? := fun i hi => by
    rw [← Pa.cells_add, List.getElem?_append_right (by rw [Pa.cells_len]; omega), Pa.cells_len]
    congr 1; omega
  have hc0 := (hc (l.length * 3 + 0) (by omega)).trans (hcx 0 (by omega))
  have hc1 := (hc (l.length * 3 + 1) (by omega)).trans (hcx 1 (by omega))
  have hc2 := (hc (l.length * 3 + 2) (by omega)).trans (hcx 2 (by omega))
  simp only [Pa.ent, List.getElem?_cons_zero, List.getElem?_cons_succ] at hc0 hc1 hc2
  rw [Nat.add_zero] at hc0
  clear hc hcx
  go_enter Try.func11, Try.ntmps11
  go_upto_region 1 with fail
  refine wp_world (fun W => Blk W N #[.int .i64 0, .int .i64 0, .int .i64 0] 29 ∧ Below N w W) ⟨Blk.new' _ _ _ HN.out, (Below.refl _ _).alloc (by rw [HN.out]; exact Nat.le_refl _) _⟩ ?_
  rintro W0 ⟨b0, hB⟩
  rw [← HN.out]
  have hN0 := b0.lt
  have q1 := (h.box.below hB hbN).cell 1
  have c0 := hB.cell (p := ⟨g, l.length * 3, none⟩) hgN
  rw [hc0] at c0
  have c1 := hB.cell (p := ⟨g, l.length * 3 + 1, none⟩) hgN
  rw [hc1] at c1
  have c2 := hB.cell (p := ⟨g, l.length * 3 + 2, none⟩) hgN
  rw [hc2] at c2
  go_upto_region 6 with fail
  obtain ⟨M, hM⟩ : ∃ M, M = W0.heap.size := ⟨_, rfl⟩
  have HM := Lib.hid hM
  have hNM : N < M := by rw [hM]; exact hN0
  rw [← hM]
  refine wp_world (fun W => Blk W N #[.int .i64 0, .int .i64 0, .int .i64 0] 29 ∧ Blk W M #[.int .i64 x1, .int .i64 x2, .int .i64 x3] 29 ∧ Below N w W) ⟨b0.alloc _, Blk.new' _ _ _ HM.out, hB.alloc (by omega) _⟩ ?_
  clear b0 hB q1 c0 c1 c2 hN0 hM
  rintro W1 ⟨b0, b1, hB⟩
  have hM1 := b1.lt
  have q1 := (h.box.below hB hbN).cell 1
  have f1 := (h.box.below hB hbN).free 1
  go_upto_region 7 with fail
  have hbN' : b ≠ N := by omega
  have hbM' : b ≠ M := by omega
  have hgw : W1.heap[g]? = some (.cells cur 29 (0, 0)) := hblk.below hB hgN
  refine wp_world (fun W => Blk W N #[.int .i64 0, .int .i64 0, .int .i64 0] 29 ∧ Blk W M #[.int .i64 x1, .int .i64 x2, .int .i64 x3] 29 ∧ Pa.At W b most (.slice (some ⟨g, 0, none⟩) l.length l.length) l ∧ Chg (· = b) w W) ⟨?_, ?_, ⟨?_, ?_⟩, ?_⟩ ?_
  · exact b0.other _ _ (fun e => hbN' e.symm)
  · exact b1.other _ _ (fun e => hbM' e.symm)
  · exact (h.box.below hB hbN).set 1 _
  · refine ⟨Pa.cells_len l, .inr ⟨g, l.length, cur, rfl, by omega, Blk.other hgw _ _ hgb, Nat.le_refl _, by simp only [maxLen] at *; omega, by omega, ?_⟩⟩
    have e := congrArg (List.take (l.length * 3)) htake
    rw [List.take_take, Nat.min_eq_left (by omega), ← Pa.cells_add, List.take_append_of_le_length (by rw [Pa.cells_len]; omega), List.take_of_length_le (l := Pa.cells l) (by rw [Pa.cells_len]; omega)] at e
    exact e
  · exact ⟨hB.os, hB.tape, hB.output, by simpa [HN.out] using hB.size, fun k hk hkb => (heap_setCell_other _ _ _ _ hkb).trans (hB.block k (by rw [HN.out]; exact hk))⟩
  have hgk : ∀ k, (Value.slice (some ⟨g, 0, none⟩) l.length l.length).ownBlock = some k → k ≠ N := by
    intro k hk
    have e : g = k := by simpa [Value.ownBlock] using hk
    omega
  clear b0 b1 hB q1 f1 hgw
  rintro W4 ⟨b0, b1, hAt, hC⟩
  go_wp2_with (first | (refine wpList_load_row rfl 29 _ rfl M rfl 29 _ _ _ b1 Try.underlying29 rfl (by kernel_rfl) ?_) | (refine wpList_store_row rfl 29 _ _ rfl N _ rfl rfl 29 _ b0 (by kernel_rfl) rfl (by simp [Value.oneCell']) ?_))
  refine bodyPost_ret (results_row_tmp rfl _ _ N 29 _ _ rfl (b0.row _) Try.underlying29 rfl (by kernel_rfl)) rfl ?_
  refine ⟨rfl, _, ⟨hAt.box.rowOther _ _ hbN', Row.same hAt.row fun k hk => setRow_other _ _ _ _ (hgk k hk)⟩, ?_, rfl⟩
  exact ⟨hC.os, hC.tape, hC.output, by simpa using hC.size, fun k hk hm => (setRow_other _ _ _ _ (by rw [← HN.out] at hk; omega)).trans (hC.block k hk hm)⟩
end Go.Proofs.Ytcdfamllamjpeaa
