/- The name of any turn, and the turn of any name, are the reference's. -/
import Derived.Test.YtcdfamllamjpeaaDoorTurnKind
import Derived.Test.YtcdfamllamjpeaaDoorDet
import Derived.Test.YtcdfamllamjpeaaDoorRows
namespace Go.Proofs.YtcdfamllamjpeaaDoor
open Go.RowKit Go.ChangeShapes
theorem Tu.Named.below' {w w' : World} {B : Nat} (h : Tu.Named w) (hb : Below B w w') (hB : 0 < B) : Tu.Named w' := fun i hi => (hb.cell (p := ⟨0, i, none⟩) hB).trans (h i hi)
theorem Tu.Named.lt' {w : World} (h : Tu.Named w) : 0 < w.heap.size := World.block_lt_of_cell? w _ (h 0 (by omega))
namespace turnNames
theorem names_any (w : World) : Calls Tryd.prog 21 #[] w fun e w' => ∃ g, e = .returned (.slice (some ⟨g, 0, none⟩) 8 8) ∧ w.heap.size ≤ g ∧ Blk w' g Tu.names.toArray 9 ∧ Below w.heap.size w w' := by
  go_enter Tryd.func21, Tryd.ntmps21
  go_wp2_with fail
  go_ret
  exact ⟨w.heap.size, rfl, Nat.le_refl _, Blk.new _ _ _, (Below.refl _ _).alloc (Nat.le_refl _) _⟩
set_option maxHeartbeats 4000000 in
theorem walk_yes (k : Int) (m : Nat) (hm : m < 8) (w : World) (hw : Tu.Named w) :
    Calls Tryd.prog 6 #[.int .i64 k, .string (Tu.name m)] w fun e w' => e = .returned (.bool true) ∧ Below w.heap.size w w' := by
  have hl : ((100 : Int) < ((Tu.name m).size : Int)) = False := by have := (Tu.name_ascii m hm).2; simp; omega
  have hl' : ((Tu.name m).size : Int) ≤ 100 := by have := (Tu.name_ascii m hm).2; omega
  clear hl
  go_enter Tryd.func6, Tryd.ntmps6
  go_wp2_with fail
  refine (names_any _).mono ?_
  rintro e w1 ⟨g, rfl, hg, hbg, hB1⟩
  go_wp2_with fail
  refine (kind_yes m hm _ (hw.below' hB1 hw.lt')).mono ?_
  rintro e w2 ⟨rfl, hb2⟩
  have hB2 := hB1.trans (hb2.mono hB1.size)
  have hbg2 := hbg.below hb2 hbg.lt
  clear hB1 hb2 hbg
  go_wp2_with fail
  go_loopw [8, 9, 10] (fun i _ _ wr => ∃ n : Nat, n ≤ m ∧ i = .int .i64 n ∧ Blk wr g Tu.names.toArray 9 ∧ Below w.heap.size w wr) (fun i _ _ _ => 8 - (intOf i).toNat)
  case atStart => exact ⟨0, by omega, rfl, hbg2, hB2⟩
  case round =>
    clear hbg2 hB2
    obtain ⟨n, hn, rfl, hbg, hB⟩ := hrel
    have hn8 : n < 8 := by omega
    have c0 := (hbg.cell n).trans (Tu.names_get n hn8)
    have hwr : Tu.Named wr := hw.below' hB hw.lt'
    go_wp2_with fail
    refine (kind_yes n hn8 _ hwr).mono ?_
    rintro e w3 ⟨rfl, hb3⟩
    have hbg3 := hbg.below hb3 hbg.lt
    have hB3 := hB.trans (hb3.mono hB.size)
    have hw3 : Tu.Named w3 := hw.below' hB3 hw.lt'
    clear hb3 hbg hB hwr c0
    go_wp2_with fail
    have tn : ((n : Int) != (n : Int)) = false := by simp
    refine wp_region_det (fun W => W.cell? ⟨g, n, none⟩ = some (.string (Tu.name n)) ∧ Tu.Named W ∧ Blk W g Tu.names.toArray 9 ∧ Below w.heap.size w W) (by kernel_rfl) (by kernel_rfl) ⟨(hbg3.cell n).trans (Tu.names_get n hn8), hw3.drewN 1, hbg3.drew, hB3.drew⟩ ?_
    (repeat (first | (refine det_skip (by rfl) ?_; simp only [Act.put, List.setIfInBounds_toArray, List.set_cons_zero, List.set_cons_succ]) | (refine det_pure (v := ?_) (by rfl) ?_ ?_; rotate_left; (intro wS hS; go_simp; try with_reducible rfl); simp only [Act.put, List.setIfInBounds_toArray, List.set_cons_zero, List.set_cons_succ])))
    refine det_call (v := .string (Tu.name n)) (by rfl) (by intro wS hS; go_simp; first | done | exact ⟨rfl, rfl⟩) (fun W hS => ?_) ?_
    · exact (name_yes n hn8 W hS.2.1).mono fun e w' h => by obtain ⟨rfl, rfl⟩ := h; exact ⟨rfl, hS⟩
    simp only [Act.put, List.setIfInBounds_toArray, List.set_cons_zero, List.set_cons_succ]
    (repeat (first | (refine det_skip (by rfl) ?_; simp only [Act.put, List.setIfInBounds_toArray, List.set_cons_zero, List.set_cons_succ]) | (refine det_pure (v := ?_) (by rfl) ?_ ?_; rotate_left; (intro wS hS; go_simp; try with_reducible rfl); simp only [Act.put, List.setIfInBounds_toArray, List.set_cons_zero, List.set_cons_succ])))
    refine det_nil ?_
    rintro w4 ⟨c0, hw4, hbg4, hB4⟩
    clear hbg3 hB3 hw3
    by_cases he : n = m
    · subst he
      go_wp2_with fail
      refine (awake17 _ hw4).mono ?_
      rintro e w5 ⟨rfl, rfl⟩
      go_wp2_with fail
      go_ret
      exact ⟨rfl, hB4⟩
    · have hne : ((Tu.name n).toList == (Tu.name m).toList) = false := by
        rw [beq_eq_false_iff_ne]; intro e
        exact he (Tu.name_inj n m hn8 hm (by
          rw [ByteArray.toList_eq, ByteArray.toList_eq] at e
          cases h1 : Tu.name n; cases h2 : Tu.name m
          rw [h1, h2] at e
          congr 1
          exact Array.ext' e))
      go_wp2_with fail
      exact ⟨⟨n + 1, by omega, by go_num, hbg4, hB4⟩, by simp [intOf]; omega⟩
set_option maxHeartbeats 4000000 in
theorem walk_no (k : Int) (s : ByteArray) (hs : (s.size : Int) ≤ 100) (hne : ∀ n, n < 8 → s ≠ Tu.name n) (w : World) (hw : Tu.Named w) :
    Calls Tryd.prog 6 #[.int .i64 k, .string s] w fun e w' => e = .returned (.bool true) ∧ Below w.heap.size w w' := by
  have HNE := Lib.hid hne
  clear hne
  go_enter Tryd.func6, Tryd.ntmps6
  go_wp2_with fail
  refine (names_any _).mono ?_
  rintro e w1 ⟨g, rfl, hg, hbg, hB1⟩
  go_wp2_with fail
  refine (kind_no s (by omega) HNE.out _ (hw.below' hB1 hw.lt')).mono ?_
  rintro e w2 ⟨rfl, hb2⟩
  have hB2 := hB1.trans (hb2.mono hB1.size)
  have hbg2 := hbg.below hb2 hbg.lt
  clear hB1 hb2 hbg
  go_wp2_with fail
  go_loopw [8, 9, 10] (fun i _ _ wr => ∃ n : Nat, n ≤ 8 ∧ i = .int .i64 n ∧ Blk wr g Tu.names.toArray 9 ∧ Below w.heap.size w wr) (fun i _ _ _ => 8 - (intOf i).toNat)
  case atStart => exact ⟨0, by omega, rfl, hbg2, hB2⟩
  case round =>
    clear hbg2 hB2
    obtain ⟨n, hn, rfl, hbg, hB⟩ := hrel
    have hwr : Tu.Named wr := hw.below' hB hw.lt'
    by_cases hn8 : n < 8
    · have c0 := (hbg.cell n).trans (Tu.names_get n hn8)
      go_wp2_with fail
      refine (kind_yes n hn8 _ hwr).mono ?_
      rintro e w3 ⟨rfl, hb3⟩
      have hbg3 := hbg.below hb3 hbg.lt
      have hB3 := hB.trans (hb3.mono hB.size)
      have hw3 : Tu.Named w3 := hw.below' hB3 hw.lt'
      clear hb3 hbg hB hwr c0
      go_wp2_with fail
      have tn : ((n : Int) != (n : Int)) = false := by simp
      refine wp_region_det (fun W => W.cell? ⟨g, n, none⟩ = some (.string (Tu.name n)) ∧ Tu.Named W ∧ Blk W g Tu.names.toArray 9 ∧ Below w.heap.size w W) (by kernel_rfl) (by kernel_rfl) ⟨(hbg3.cell n).trans (Tu.names_get n hn8), hw3.drewN 1, hbg3.drew, hB3.drew⟩ ?_
      (repeat (first | (refine det_skip (by rfl) ?_; simp only [Act.put, List.setIfInBounds_toArray, List.set_cons_zero, List.set_cons_succ]) | (refine det_pure (v := ?_) (by rfl) ?_ ?_; rotate_left; (intro wS hS; go_simp; try with_reducible rfl); simp only [Act.put, List.setIfInBounds_toArray, List.set_cons_zero, List.set_cons_succ])))
      refine det_call (v := .string (Tu.name n)) (by rfl) (by intro wS hS; go_simp; first | done | exact ⟨rfl, rfl⟩) (fun W hS => ?_) ?_
      · exact (name_yes n hn8 W hS.2.1).mono fun e w' h => by obtain ⟨rfl, rfl⟩ := h; exact ⟨rfl, hS⟩
      simp only [Act.put, List.setIfInBounds_toArray, List.set_cons_zero, List.set_cons_succ]
      (repeat (first | (refine det_skip (by rfl) ?_; simp only [Act.put, List.setIfInBounds_toArray, List.set_cons_zero, List.set_cons_succ]) | (refine det_pure (v := ?_) (by rfl) ?_ ?_; rotate_left; (intro wS hS; go_simp; try with_reducible rfl); simp only [Act.put, List.setIfInBounds_toArray, List.set_cons_zero, List.set_cons_succ])))
      refine det_nil ?_
      rintro w4 ⟨c0, hw4, hbg4, hB4⟩
      clear hbg3 hB3 hw3
      have hne : ((Tu.name n).toList == s.toList) = false := by
        rw [beq_eq_false_iff_ne]; intro e
        refine HNE.out n hn8 ?_
        rw [ByteArray.toList_eq, ByteArray.toList_eq] at e
        cases h1 : Tu.name n; cases h2 : s
        rw [h1, h2] at e
        congr 1
        exact Array.ext' e.symm
      go_wp2_with fail
      exact ⟨⟨n + 1, by omega, by go_num, hbg4, hB4⟩, by simp [intOf]; omega⟩
    · obtain rfl : n = 8 := by omega
      by_cases hk : 0 ≤ k ∧ k < 8
      · obtain ⟨k0, k8⟩ := hk
        have hk7 : k ≤ 7 := by omega
        obtain ⟨j, rfl⟩ := Int.eq_ofNat_of_zero_le k0
        have hj : j < 8 := by omega
        have he : (Tu.name j).toList.isEmpty = false := by
          have : j = 0 ∨ j = 1 ∨ j = 2 ∨ j = 3 ∨ j = 4 ∨ j = 5 ∨ j = 6 ∨ j = 7 := by omega
          rcases this with rfl | rfl | rfl | rfl | rfl | rfl | rfl | rfl <;> decide +kernel
        go_wp2_with fail
        refine (awake17 _ hwr).mono ?_
        rintro e w5 ⟨rfl, rfl⟩
        go_wp2_with fail
        refine (name_yes j hj _ hwr).mono ?_
        rintro e w5 ⟨rfl, rfl⟩
        go_wp2_with fail
        go_ret
        exact ⟨by simp; omega, hB⟩
      · have hk' : k < 0 ∨ 8 ≤ k := by omega
        have hd : (decide (k < 0) || decide (7 < k)) = true := by simp; omega
        by_cases h0 : k < 0
        · go_wp2_with fail
          refine (awake17 _ hwr).mono ?_
          rintro e w5 ⟨rfl, rfl⟩
          go_wp2_with fail
          refine (name_no k hk' _).mono ?_
          rintro e w5 ⟨rfl, rfl⟩
          go_wp2_with fail
          go_ret
          exact ⟨rfl, hB⟩
        · have h7 : 7 < k := by omega
          go_wp2_with fail
          refine (awake17 _ hwr).mono ?_
          rintro e w5 ⟨rfl, rfl⟩
          go_wp2_with fail
          refine (name_no k hk' _).mono ?_
          rintro e w5 ⟨rfl, rfl⟩
          go_wp2_with fail
          go_ret
          exact ⟨rfl, hB⟩
theorem walk_long (k : Int) (s : ByteArray) (hs : (100 : Int) < (s.size : Int)) (w : World) (hw : Tu.Named w) :
    Calls Tryd.prog 6 #[.int .i64 k, .string s] w fun e w' => e = .returned (.bool true) ∧ Below w.heap.size w w' := by
  go_enter Tryd.func6, Tryd.ntmps6
  go_wp2_with fail
  refine (awake17 _ hw).mono ?_
  rintro e w5 ⟨rfl, rfl⟩
  go_wp2_with fail
  go_ret
  exact ⟨rfl, Below.refl _ _⟩
end turnNames
theorem turnNames.core (k : Int) (s : ByteArray) (_wk : (Lit.int .i64 k).wf = true) (_ws : s.size ≤ maxLen) (W : World) (hL : laidMetH Tryd.prog Rows.turnNamesRow.laid W) :
    Calls Tryd.prog 6 #[.int .i64 k, .string s] W fun e w' => e = .returned (.bool true) ∧ Below W.heap.size W w' := by
  have hw := Tu.named_of hL
  by_cases hl : (100 : Int) < (s.size : Int)
  · exact turnNames.walk_long k s hl W hw
  · by_cases h : ∃ m, m < 8 ∧ s = Tu.name m
    · obtain ⟨m, hm, rfl⟩ := h
      exact turnNames.walk_yes k m hm W hw
    · exact turnNames.walk_no k s (by omega) (fun n hn e => h ⟨n, hn, e⟩) W hw
end Go.Proofs.YtcdfamllamjpeaaDoor
