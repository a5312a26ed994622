/- The example of the statements on planes. -/
import Derived.Test.YtpjocfcemjdneaaSheet2
import Derived.Test.YtpjocfcemjdneaaWindow
namespace Go.Proofs.Ytpjocfcemjdneaa
open Go.RowKit
set_option maxRecDepth 100000
set_option maxHeartbeats 4000000
theorem awake10 (w : World) : Calls Try.prog 9 #[] w fun e w' => e = .returned (.bool true) ∧ Below w.heap.size w w' := by
  obtain ⟨N, hN⟩ : ∃ N, N = w.heap.size := ⟨_, rfl⟩
  have HN := Lib.hid hN
  have hnew := new32 w
  rw [← hN] at hnew ⊢
  clear hN
  go_enter Try.func9, Try.ntmps9
  go_upto_region 3 with (first | refine wpList_buildTo rfl 34 _ rfl (some 11) rfl (ints .i16 Pl.seven) (by kernel_rfl) ?_ | refine wpList_allocTo rfl (some 3) rfl _ _ (run_alloc_blk _ rfl) ?_ | refine wpList_store_rowTo rfl 34 _ _ rfl rfl N1 (ints .i16 Pl.seven) (by rw [HN1.out]; rfl) rfl 34 (ints .i16 (List.replicate 64 0)) (Blk.new' _ _ _ HN1.out) (by rw [ints_size]; kernel_rfl) (by rw [ints_size, ints_size]; rfl) (ints_one _ _) ?_ | go_at_call 16; refine hnew.mono ?_; rintro e w1 ⟨b, u, rfl, hS, hb, hB⟩; obtain ⟨N1, hN1⟩ : ∃ N1, N1 = w1.heap.size := ⟨_, rfl⟩; have HN1 := Lib.hid hN1; clear hN1)
  obtain ⟨hN1a, hN1b⟩ : b < N1 ∧ N ≤ N1 := ⟨by rw [HN1.out]; exact hS.box.lt, by rw [HN1.out, HN.out]; exact hB.size⟩
  have hS' := hS.below ((Below.refl w1.heap.size w1).alloc (Nat.le_refl _) (.cells (ints .i16 (List.replicate 64 0)) 34))
  have hu : ∀ g, u.ownBlock = some g → N ≤ g ∧ g < N1 := fun g hg => by rw [HN1.out]; exact hS.row.lt g hg
  refine wp_world (fun W => Pl.Sheet W N b 3 2 u (List.replicate 6 (List.replicate 64 0)) ∧ Blk W N1 (ints .i16 Pl.seven) 34 ∧ Below N w W) ?_ ?_
  · refine ⟨⟨(hS'.box.rowOther _ _ (by omega)), Row.same hS'.row (fun g hg => setRow_other _ _ _ _ (by have := (hu g hg).2; omega)), hS'.h64, hS'.len⟩, ?_, ?_⟩
    · exact (Blk.new' w1 (ints .i16 (List.replicate 64 0)) 34 HN1.out).row _
    · exact Below.setRow (hB.alloc (by rw [← HN1.out]; exact hN1b) _) hN1b _
  rw [← HN1.out]
  clear hS hS' hB
  rintro W2 ⟨hS, hb1, hB⟩
  have hset := fun W h => sheet_set N b 3 2 u (List.replicate 6 (List.replicate 64 0)) 1 2 Pl.seven rfl (by decide) (by decide) (by decide) W h
  go_upto_region 4 with (first | refine wpList_load_row rfl 34 _ rfl N1 rfl 34 _ _ _ hb1 Try.underlying34 rfl (by rw [ints_size]; kernel_rfl) ?_ | go_at_call 18; refine (hset _ hS).mono ?_; rintro e w3 ⟨rfl, hS3, hsz, hos, htp, hout, hk⟩)
  have hlt2 := hb1.lt
  have hb3 : Blk w3 N1 (ints .i16 Pl.seven) 34 := (hk N1 hlt2 (fun e => by have := (hu N1 e).2; omega)).trans hb1
  have hB3 : Below N w w3 := hB.trans ⟨hos, htp, hout, hsz, fun k hk2 => hk k (by omega) (fun e => by have := (hu k e).1; omega)⟩
  clear hset hS hb1 hB hsz hos htp hout hk hlt2
  obtain ⟨N3, hN3⟩ : ∃ N3, N3 = w3.heap.size := ⟨_, rfl⟩
  have HN3 := Lib.hid hN3
  have hN13 : N1 < N3 := by rw [hN3]; exact hb3.lt
  have hpl := sheet_plane N b 3 2 u _ (by decide) w3 hS3
  rw [← hN3] at hpl
  clear hN3
  have hwin := fun W v h => plane_window 3 2 1 1 1 2 v ((List.replicate 6 (List.replicate 64 0)).set (1 * 3 + 2) Pl.seven) hS3.h64 rfl rfl (by decide) (by decide) (by decide) (by decide) W h
  go_upto_region 5 with (first | (go_at_call 20; refine hpl.mono ?_; rintro e w4 ⟨v4, rfl, hR4, hB4⟩) | (go_at_call 13; refine (hwin _ _ hR4.ar).mono ?_; rintro e w5 ⟨v5, rfl, hR5, hB5⟩; obtain ⟨bv, cv, rfl⟩ := hR5.len))
  have hlt4 := hB4.size
  have hlt5 := hB5.size
  obtain ⟨g, cg, hgv, hg1, hg2, _⟩ := hR5.cells (by decide)
  have hwin2 : Pl.win ((List.replicate 6 (List.replicate 64 0)).set (1 * 3 + 2) Pl.seven) 3 1 1 2 1 = [List.replicate 64 0, Pl.seven] := by decide
  rw [hwin2] at hR5
  simp only [Value.slice.injEq] at hgv
  obtain ⟨rfl, _, rfl⟩ := hgv
  obtain ⟨N5, hN5⟩ : ∃ N5, N5 = w5.heap.size := ⟨_, rfl⟩
  have HN5 := Lib.hid hN5
  have hB35 : Below N3 w3 w5 := hB4.trans (hB5.mono (by rw [← HN3.out] at hlt4; exact hlt4))
  have hA5 := hR5.ar
  refine wp_world (fun W => Blk W N5 #[.int .i64 2, .int .i64 1, .slice (some ⟨g, 0, none⟩) 2 cv] 24 ∧ Blk W N1 (ints .i16 Pl.seven) 34 ∧ Ar W 64 (.slice (some ⟨g, 0, none⟩) 2 cv) 2 (bcells [List.replicate 64 0, Pl.seven]) ∧ Below N w W) ⟨Blk.new' _ _ _ hN5, (hb3.below hB35 hN13).alloc _, hA5.below ((Below.refl _ _).alloc (Nat.le_refl _) _), (hB3.trans (hB35.mono (by omega))).alloc (by rw [← HN3.out] at hlt4; omega) _⟩ ?_
  rw [← hN5]
  clear hN5 hR5 hB5 hR4 hB4 hpl hwin hS3 hb3 hB3 hnew hg1 hg2 hB35 hA5 hlt4 hlt5 hwin2 hu
  rintro W6 ⟨hb5, hb3, hA5, hB3⟩
  refine wp_region_det (fun W => Blk W N5 #[.int .i64 2, .int .i64 1, .slice (some ⟨g, 0, none⟩) 2 cv] 24 ∧ Blk W N1 (ints .i16 Pl.seven) 34 ∧ Ar W 64 (.slice (some ⟨g, 0, none⟩) 2 cv) 2 (bcells [List.replicate 64 0, Pl.seven]) ∧ Below N w W) (by kernel_rfl) (by kernel_rfl) ⟨hb5.drew, hb3.drew, hA5.below (Below.refl _ _).drew, hB3.drew⟩ ?_
  (repeat (first | (refine det_skip (by rfl) ?_; simp only [Act.put, List.setIfInBounds_toArray, List.set_cons_zero, List.set_cons_succ]) | (refine det_pure (v := ?_) (by rfl) ?_ ?_; rotate_left; (intro wS hS; go_simp; try with_reducible rfl); simp only [Act.put, List.setIfInBounds_toArray, List.set_cons_zero, List.set_cons_succ])))
  refine det_pure (v := .int .i64 2) (by rfl) (fun wS hS => by have q := hS.1.cell 0; go_simp; try with_reducible rfl) ?_
  simp only [Act.put, List.setIfInBounds_toArray, List.set_cons_zero, List.set_cons_succ]
  (repeat (first | (refine det_skip (by rfl) ?_; simp only [Act.put, List.setIfInBounds_toArray, List.set_cons_zero, List.set_cons_succ]) | (refine det_pure (v := ?_) (by rfl) ?_ ?_; rotate_left; (intro wS hS; go_simp; try with_reducible rfl); simp only [Act.put, List.setIfInBounds_toArray, List.set_cons_zero, List.set_cons_succ])))
  refine det_pure (v := .slice (some ⟨g, 0, none⟩) 2 cv) (by rfl) (fun wS hS => by have q := hS.1.cell 2; go_simp; try with_reducible rfl) ?_
  simp only [Act.put, List.setIfInBounds_toArray, List.set_cons_zero, List.set_cons_succ]
  (repeat (first | (refine det_skip (by rfl) ?_; simp only [Act.put, List.setIfInBounds_toArray, List.set_cons_zero, List.set_cons_succ]) | (refine det_pure (v := ?_) (by rfl) ?_ ?_; rotate_left; (intro wS hS; go_simp; try with_reducible rfl); simp only [Act.put, List.setIfInBounds_toArray, List.set_cons_zero, List.set_cons_succ])))
  refine det_pure (v := .slice (some ⟨g, 0, none⟩) 2 cv) (by rfl) (fun wS hS => by have q := hS.1.cell 2; go_simp; try with_reducible rfl) ?_
  simp only [Act.put, List.setIfInBounds_toArray, List.set_cons_zero, List.set_cons_succ]
  (repeat (first | (refine det_skip (by rfl) ?_; simp only [Act.put, List.setIfInBounds_toArray, List.set_cons_zero, List.set_cons_succ]) | (refine det_pure (v := ?_) (by rfl) ?_ ?_; rotate_left; (intro wS hS; go_simp; try with_reducible rfl); simp only [Act.put, List.setIfInBounds_toArray, List.set_cons_zero, List.set_cons_succ])))
  refine det_pure (by rfl) (fun wS hS => ar_load hS.2.2.1 (by simp [Right64, Pl.seven]) 1 (by decide) _ rfl rfl) ?_
  simp only [Act.put, List.setIfInBounds_toArray, List.set_cons_zero, List.set_cons_succ]
  refine det_load_row (by rfl) 34 _ rfl N1 rfl 34 (ints .i16 Pl.seven) _ (fun _ h => h.2.1) Try.underlying34 rfl (by rw [ints_size]; kernel_rfl) ?_
  simp only [Act.put, List.setIfInBounds_toArray, List.set_cons_zero, List.set_cons_succ]
  refine det_pure (by rfl) (fun w1 _ => run_exec_eql_ints 34 _ _ _ rfl 32 64 .i16 Pl.seven Pl.seven rfl rfl Try.underlying34 Try.underlying32 (by kernel_rfl) rfl rfl (by kernel_rfl)) ?_
  rw [decide_eq_true rfl]
  simp only [Act.put, List.setIfInBounds_toArray, List.set_cons_zero, List.set_cons_succ]
  (repeat (first | (refine det_skip (by rfl) ?_; simp only [Act.put, List.setIfInBounds_toArray, List.set_cons_zero, List.set_cons_succ]) | (refine det_pure (v := ?_) (by rfl) ?_ ?_; rotate_left; (intro wS hS; go_simp; try with_reducible rfl); simp only [Act.put, List.setIfInBounds_toArray, List.set_cons_zero, List.set_cons_succ])))
  refine det_nil ?_
  rintro w1 ⟨_, _, _, hB⟩
  go_wp2_with fail
  go_ret
  exact ⟨rfl, hB⟩
end Go.Proofs.Ytpjocfcemjdneaa
