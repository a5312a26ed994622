/- Package turn's Block and Table: what a turned block of coefficients, and a turned table, are. -/
import Derived.Test.YtcdfamllamjpeaaDoorSwap
import Derived.Test.YtcdfamllamjpeaaDoorTurnA
namespace Go.Proofs.YtcdfamllamjpeaaDoor
open Go.RowKit
theorem and_one_i64 (E : Int) (h0 : 0 ≤ E) (h : E < 64) : bits .and .i64 E 1 = E % 2 := by
  obtain ⟨n, rfl⟩ := Int.eq_ofNat_of_zero_le h0
  have hn : n < 64 := by omega
  have : ∀ n : Fin 64, bits .and .i64 ((n.1 : Nat) : Int) 1 = ((n.1 : Nat) : Int) % 2 := by decide +kernel
  exact this ⟨n, hn⟩
namespace Tu
/-- One coefficient: negated where just one of the two flips takes it. -/
def flipAt (a d : Bool) (j : Nat) (x : Int) : Int := if ((a && decide (j % 2 = 1)) != (d && decide (j / 8 % 2 = 1))) then IntKind.i16.wrap (-x) else x
def flipTo (a d : Bool) (xs : List Int) (i : Nat) : List Int := (List.range 64).map fun j => if j < i then flipAt a d j (xs.getD j 0) else xs.getD j 0
def flip (a d : Bool) (xs : List Int) : List Int := (List.range 64).map fun j => flipAt a d j (xs.getD j 0)
theorem flipTo_len (a d : Bool) (xs : List Int) (i : Nat) : (flipTo a d xs i).length = 64 := by simp [flipTo]
theorem flip_len (a d : Bool) (xs : List Int) : (flip a d xs).length = 64 := by simp [flip]
theorem flipTo_zero (a d : Bool) (xs : List Int) (h : xs.length = 64) : flipTo a d xs 0 = xs := by
  apply List.ext_getElem?
  intro j
  by_cases hj : j < 64
  · simp [flipTo, hj, List.getD_eq_getElem?_getD, List.getElem?_eq_getElem (show j < xs.length by omega)]
  · rw [List.getElem?_eq_none (by rw [flipTo_len]; omega), List.getElem?_eq_none (by omega)]
theorem flipTo_all (a d : Bool) (xs : List Int) : flipTo a d xs 64 = flip a d xs := by
  unfold flipTo flip
  apply List.map_congr_left
  intro j hj
  rw [if_pos (by simpa using hj)]
theorem flipTo_get (a d : Bool) (xs : List Int) (i : Nat) (h : i < 64) : (flipTo a d xs i).getD i 0 = xs.getD i 0 := by
  simp [flipTo, List.getD_eq_getElem?_getD, h]
theorem flipTo_succ (a d : Bool) (xs : List Int) (i : Nat) (h : i < 64) : (flipTo a d xs i).set i (flipAt a d i (xs.getD i 0)) = flipTo a d xs (i + 1) := by
  apply List.ext_getElem?
  intro j
  rw [List.getElem?_set]
  by_cases hj : j < 64
  · by_cases e : i = j
    · subst e; rw [if_pos rfl, if_pos (by rw [flipTo_len]; exact h)]; simp [flipTo, h]
    · rw [if_neg e]
      simp only [flipTo, List.getElem?_map, List.getElem?_range hj, Option.map_some]
      by_cases h2 : j < i
      · rw [if_pos h2, if_pos (by omega)]
      · rw [if_neg h2, if_neg (by omega)]
  · rw [if_neg (by omega), List.getElem?_eq_none (by rw [flipTo_len]; omega), List.getElem?_eq_none (by rw [flipTo_len]; omega)]
theorem flipTo_same (a d : Bool) (xs : List Int) (i : Nat) (h : i < 64) (e : flipAt a d i (xs.getD i 0) = xs.getD i 0) : flipTo a d xs i = flipTo a d xs (i + 1) := by
  rw [← flipTo_succ a d xs i h, e]
  apply List.ext_getElem?
  intro j
  rw [List.getElem?_set]
  by_cases e2 : i = j
  · subst e2; rw [if_pos rfl, if_pos (by rw [flipTo_len]; exact h)]
    have := flipTo_get a d xs i h
    rw [List.getD_eq_getElem?_getD, List.getElem?_eq_getElem (show i < (flipTo a d xs i).length by rw [flipTo_len]; exact h)] at this
    rw [List.getElem?_eq_getElem (show i < (flipTo a d xs i).length by rw [flipTo_len]; exact h)]
    simpa using this
  · rw [if_neg e2]
/-- What the turn k does to a block. -/
def block (k : Int) (xs : List Int) : List Int :=
  if 0 ≤ k ∧ k < 8 then flip (decide (k % 2 = 1)) (decide (k / 2 % 2 = 1)) (if 4 ≤ k then Zg.swap xs else xs) else List.replicate 64 0
theorem block_len (k : Int) (xs : List Int) : (block k xs).length = 64 := by
  unfold block; split
  · exact flip_len _ _ _
  · simp
def table (k : Int) (xs : List Int) : List Int := if 0 ≤ k ∧ k < 8 then (if 4 ≤ k then Zg.swap xs else xs) else List.replicate 64 0
end Tu
theorem Zg.swap_len (xs : List Int) : (Zg.swap xs).length = 64 := by simp [Zg.swap]
theorem block_no (k : Int) (h : k < 0 ∨ 8 ≤ k) (xs : List Int) (_hx : xs.length = 64) (w : World) : Calls Tryd.prog 23 #[.int .i64 k, .agg (ints .i16 xs)] w fun e w' => e = .returned (.agg (ints .i16 (List.replicate 64 0))) ∧ Below w.heap.size w w' := by
  go_enter Tryd.func23, Tryd.ntmps23
  go_wp2_with (first | (go_at_call 19; refine (right_no _ (by assumption) _).mono ?_; rintro e w' ⟨rfl, rfl⟩) | (refine wpList_store_row rfl 47 _ _ rfl (w.heap.size + 1) (ints .i16 (List.replicate 64 0)) rfl rfl 47 (ints .i16 (List.replicate 64 0)) (Blk.new' _ _ _ (by simp)) (by rw [ints_size]; kernel_rfl) (by simp) (ints_one _ _) ?_))
  refine bodyPost_ret (results_cell_row rfl _ _ (w.heap.size + 1) 47 _ _ _ rfl ((Blk.new' _ _ _ (by simp)).row _) Tryd.underlying47 rfl (by rw [ints_size]; kernel_rfl)) rfl ⟨rfl, ?_⟩
  exact Below.setRow (((Below.refl _ _).alloc (Nat.le_refl _) _).alloc (by simp) _) (by omega) _

set_option maxRecDepth 100000 in
set_option maxHeartbeats 2000000 in
theorem block_000 (k : Int) (h0 : 0 ≤ k) (h8 : k < 8) (hs : ¬ 4 ≤ k) (ha : k % 2 ≠ 1) (hd : k / 2 % 2 ≠ 1) (xs : List Int) (hx : xs.length = 64) (w : World) :
    Calls Tryd.prog 23 #[.int .i64 k, .agg (ints .i16 xs)] w fun e w' => e = .returned (.agg (ints .i16 (Tu.flip false false xs))) ∧ Below w.heap.size w w' := by
  rw [← Tu.flipTo_all]
  have e1 := and1 k h0 h8
  have e2 := and2 k h0 h8
  have e4 := and4 k h0 h8
  have t4 : (k / 4 * 4 != 0) = false := by rw [bne_eq_false_iff_eq]; omega
  have t1 : (k % 2 != 0) = false := by rw [bne_eq_false_iff_eq]; omega
  have t2 : (k / 2 % 2 * 2 != 0) = false := by rw [bne_eq_false_iff_eq]; omega
  clear hs ha hd
  obtain ⟨N, hN⟩ : ∃ N, N = w.heap.size := ⟨_, rfl⟩
  have HN := Lib.hid hN
  rw [← hN]
  clear hN
  go_enter Tryd.func23, Tryd.ntmps23
  go_wp2_with (first | (go_at_call 19; refine (right_yes _ (by assumption) (by assumption) _).mono ?_; rintro e w' ⟨rfl, rfl⟩) | (refine wpList_load_row rfl 47 _ rfl w.heap.size rfl 47 _ _ _ ((Blk.new _ (ints .i16 xs) _).alloc _) Tryd.underlying47 rfl (by rw [ints_size, hx]; kernel_rfl) ?_))
  refine wp_world (fun W => Blk W N (ints .i16 (Tu.flipTo false false xs 0)) 47 ∧ Blk W (N+1) (ints .i16 (List.replicate 64 0)) 47 ∧ Below N w W) ⟨?_, ?_, ?_⟩ ?_
  · rw [Tu.flipTo_zero _ _ _ hx]; exact (Blk.new' _ _ _ HN.out).alloc _
  · exact Blk.new' _ _ _ (by rw [HN.out]; simp)
  · exact ((Below.refl _ _).alloc (by rw [HN.out]; exact Nat.le_refl _) _).alloc (by rw [HN.out]; simp) _
  rintro W0 ⟨h0, h1, hB⟩
  rw [← HN.out]
  go_loopw [5, 6, 16] (fun _ _ i wr => ∃ j : Nat, j ≤ 64 ∧ i = .int .i64 j ∧ Blk wr N (ints .i16 (Tu.flipTo false false xs j)) 47 ∧ Blk wr (N+1) (ints .i16 (List.replicate 64 0)) 47 ∧ Below N w wr) (fun _ _ i _ => 64 - (intOf i).toNat)
  case atStart => exact ⟨0, by omega, rfl, h0, h1, hB⟩
  case round =>
    obtain ⟨j, hj, rfl, b0, b1, hB⟩ := hrel
    clear h0 h1
    by_cases hlt : j < 64
    · have f1 := and_one_i64 (j : Int) (by omega) (by omega)
      have f2 := and_one_i64 ((j : Int) / 8) (by omega) (by omega)
      have c0 := (b0.cell j).trans (ints_get _ _ _ (by rw [Tu.flipTo_len]; exact hlt))
      rw [Tu.flipTo_get _ _ _ _ hlt] at c0
      have f0 := b0.free j
      obtain ⟨x, hx0⟩ : ∃ x, xs.getD j 0 = x := ⟨_, rfl⟩
      rw [hx0] at c0
      have HX := Lib.hid hx0
      clear hx0
      go_wp2_with fail
      refine ⟨⟨j + 1, by omega, by go_num, ?_, b1, hB⟩, by simp [intOf]; omega⟩
      rw [← Tu.flipTo_same false false xs j hlt (by unfold Tu.flipAt; rw [if_neg (by simp; try omega)])]
      exact b0
    · obtain rfl : j = 64 := by omega
      go_wp2_with (first | (refine wpList_load_row rfl 47 _ rfl N rfl 47 _ _ _ b0 Tryd.underlying47 rfl (by rw [ints_size, Tu.flipTo_len]; kernel_rfl) ?_) | (refine wpList_store_row rfl 47 _ _ rfl (N + 1) _ rfl rfl 47 _ b1 (by rw [ints_size, Tu.flipTo_len]; kernel_rfl) (by simp [Tu.flipTo_len]) (ints_one _ _) ?_))
      refine bodyPost_ret (results_cell_row rfl _ _ (N + 1) 47 _ _ _ rfl (b1.row _) Tryd.underlying47 rfl (by rw [ints_size, Tu.flipTo_len]; kernel_rfl)) rfl ⟨rfl, ?_⟩
      exact Below.setRow hB (by omega) _
set_option maxRecDepth 100000 in
set_option maxHeartbeats 2000000 in
theorem block_001 (k : Int) (h0 : 0 ≤ k) (h8 : k < 8) (hs : ¬ 4 ≤ k) (ha : k % 2 ≠ 1) (hd : k / 2 % 2 = 1) (xs : List Int) (hx : xs.length = 64) (w : World) :
    Calls Tryd.prog 23 #[.int .i64 k, .agg (ints .i16 xs)] w fun e w' => e = .returned (.agg (ints .i16 (Tu.flip false true xs))) ∧ Below w.heap.size w w' := by
  rw [← Tu.flipTo_all]
  have e1 := and1 k h0 h8
  have e2 := and2 k h0 h8
  have e4 := and4 k h0 h8
  have t4 : (k / 4 * 4 != 0) = false := by rw [bne_eq_false_iff_eq]; omega
  have t1 : (k % 2 != 0) = false := by rw [bne_eq_false_iff_eq]; omega
  have t2 : (k / 2 % 2 * 2 != 0) = true := by rw [bne_iff_ne]; omega
  clear hs ha hd
  obtain ⟨N, hN⟩ : ∃ N, N = w.heap.size := ⟨_, rfl⟩
  have HN := Lib.hid hN
  rw [← hN]
  clear hN
  go_enter Tryd.func23, Tryd.ntmps23
  go_wp2_with (first | (go_at_call 19; refine (right_yes _ (by assumption) (by assumption) _).mono ?_; rintro e w' ⟨rfl, rfl⟩) | (refine wpList_load_row rfl 47 _ rfl w.heap.size rfl 47 _ _ _ ((Blk.new _ (ints .i16 xs) _).alloc _) Tryd.underlying47 rfl (by rw [ints_size, hx]; kernel_rfl) ?_))
  refine wp_world (fun W => Blk W N (ints .i16 (Tu.flipTo false true xs 0)) 47 ∧ Blk W (N+1) (ints .i16 (List.replicate 64 0)) 47 ∧ Below N w W) ⟨?_, ?_, ?_⟩ ?_
  · rw [Tu.flipTo_zero _ _ _ hx]; exact (Blk.new' _ _ _ HN.out).alloc _
  · exact Blk.new' _ _ _ (by rw [HN.out]; simp)
  · exact ((Below.refl _ _).alloc (by rw [HN.out]; exact Nat.le_refl _) _).alloc (by rw [HN.out]; simp) _
  rintro W0 ⟨h0, h1, hB⟩
  rw [← HN.out]
  go_loopw [5, 6, 16] (fun _ _ i wr => ∃ j : Nat, j ≤ 64 ∧ i = .int .i64 j ∧ Blk wr N (ints .i16 (Tu.flipTo false true xs j)) 47 ∧ Blk wr (N+1) (ints .i16 (List.replicate 64 0)) 47 ∧ Below N w wr) (fun _ _ i _ => 64 - (intOf i).toNat)
  case atStart => exact ⟨0, by omega, rfl, h0, h1, hB⟩
  case round =>
    obtain ⟨j, hj, rfl, b0, b1, hB⟩ := hrel
    clear h0 h1
    by_cases hlt : j < 64
    · have f1 := and_one_i64 (j : Int) (by omega) (by omega)
      have f2 := and_one_i64 ((j : Int) / 8) (by omega) (by omega)
      have c0 := (b0.cell j).trans (ints_get _ _ _ (by rw [Tu.flipTo_len]; exact hlt))
      rw [Tu.flipTo_get _ _ _ _ hlt] at c0
      have f0 := b0.free j
      obtain ⟨x, hx0⟩ : ∃ x, xs.getD j 0 = x := ⟨_, rfl⟩
      rw [hx0] at c0
      have HX := Lib.hid hx0
      clear hx0
      by_cases hq : j / 8 % 2 = 1
      · have v2 : (j : Int) / 8 % 2 = 1 := by omega
        go_wp2_with fail
        refine ⟨⟨j + 1, by omega, by go_num, ?_, b1.other _ _ (by show N + 1 ≠ N; omega), hB.setCell (Nat.le_refl _) _⟩, by simp [intOf]; omega⟩
        have h2 := b0.set j (.int .i16 (IntKind.i16.wrap (-x)))
        have h3 := Tu.flipTo_succ false true xs j hlt
        rw [show Tu.flipAt false true j (xs.getD j 0) = IntKind.i16.wrap (-x) from by rw [HX.out]; unfold Tu.flipAt; rw [if_pos (by simp; omega)]] at h3
        rw [ints_set, h3] at h2
        exact h2
      · have v2 : (j : Int) / 8 % 2 = 0 := by omega
        go_wp2_with fail
        refine ⟨⟨j + 1, by omega, by go_num, ?_, b1, hB⟩, by simp [intOf]; omega⟩
        rw [← Tu.flipTo_same false true xs j hlt (by unfold Tu.flipAt; rw [if_neg (by simp; try omega)])]
        exact b0
    · obtain rfl : j = 64 := by omega
      go_wp2_with (first | (refine wpList_load_row rfl 47 _ rfl N rfl 47 _ _ _ b0 Tryd.underlying47 rfl (by rw [ints_size, Tu.flipTo_len]; kernel_rfl) ?_) | (refine wpList_store_row rfl 47 _ _ rfl (N + 1) _ rfl rfl 47 _ b1 (by rw [ints_size, Tu.flipTo_len]; kernel_rfl) (by simp [Tu.flipTo_len]) (ints_one _ _) ?_))
      refine bodyPost_ret (results_cell_row rfl _ _ (N + 1) 47 _ _ _ rfl (b1.row _) Tryd.underlying47 rfl (by rw [ints_size, Tu.flipTo_len]; kernel_rfl)) rfl ⟨rfl, ?_⟩
      exact Below.setRow hB (by omega) _
set_option maxRecDepth 100000 in
set_option maxHeartbeats 2000000 in
theorem block_010 (k : Int) (h0 : 0 ≤ k) (h8 : k < 8) (hs : ¬ 4 ≤ k) (ha : k % 2 = 1) (hd : k / 2 % 2 ≠ 1) (xs : List Int) (hx : xs.length = 64) (w : World) :
    Calls Tryd.prog 23 #[.int .i64 k, .agg (ints .i16 xs)] w fun e w' => e = .returned (.agg (ints .i16 (Tu.flip true false xs))) ∧ Below w.heap.size w w' := by
  rw [← Tu.flipTo_all]
  have e1 := and1 k h0 h8
  have e2 := and2 k h0 h8
  have e4 := and4 k h0 h8
  have t4 : (k / 4 * 4 != 0) = false := by rw [bne_eq_false_iff_eq]; omega
  have t1 : (k % 2 != 0) = true := by rw [bne_iff_ne]; omega
  have t2 : (k / 2 % 2 * 2 != 0) = false := by rw [bne_eq_false_iff_eq]; omega
  clear hs ha hd
  obtain ⟨N, hN⟩ : ∃ N, N = w.heap.size := ⟨_, rfl⟩
  have HN := Lib.hid hN
  rw [← hN]
  clear hN
  go_enter Tryd.func23, Tryd.ntmps23
  go_wp2_with (first | (go_at_call 19; refine (right_yes _ (by assumption) (by assumption) _).mono ?_; rintro e w' ⟨rfl, rfl⟩) | (refine wpList_load_row rfl 47 _ rfl w.heap.size rfl 47 _ _ _ ((Blk.new _ (ints .i16 xs) _).alloc _) Tryd.underlying47 rfl (by rw [ints_size, hx]; kernel_rfl) ?_))
  refine wp_world (fun W => Blk W N (ints .i16 (Tu.flipTo true false xs 0)) 47 ∧ Blk W (N+1) (ints .i16 (List.replicate 64 0)) 47 ∧ Below N w W) ⟨?_, ?_, ?_⟩ ?_
  · rw [Tu.flipTo_zero _ _ _ hx]; exact (Blk.new' _ _ _ HN.out).alloc _
  · exact Blk.new' _ _ _ (by rw [HN.out]; simp)
  · exact ((Below.refl _ _).alloc (by rw [HN.out]; exact Nat.le_refl _) _).alloc (by rw [HN.out]; simp) _
  rintro W0 ⟨h0, h1, hB⟩
  rw [← HN.out]
  go_loopw [5, 6, 16] (fun _ _ i wr => ∃ j : Nat, j ≤ 64 ∧ i = .int .i64 j ∧ Blk wr N (ints .i16 (Tu.flipTo true false xs j)) 47 ∧ Blk wr (N+1) (ints .i16 (List.replicate 64 0)) 47 ∧ Below N w wr) (fun _ _ i _ => 64 - (intOf i).toNat)
  case atStart => exact ⟨0, by omega, rfl, h0, h1, hB⟩
  case round =>
    obtain ⟨j, hj, rfl, b0, b1, hB⟩ := hrel
    clear h0 h1
    by_cases hlt : j < 64
    · have f1 := and_one_i64 (j : Int) (by omega) (by omega)
      have f2 := and_one_i64 ((j : Int) / 8) (by omega) (by omega)
      have c0 := (b0.cell j).trans (ints_get _ _ _ (by rw [Tu.flipTo_len]; exact hlt))
      rw [Tu.flipTo_get _ _ _ _ hlt] at c0
      have f0 := b0.free j
      obtain ⟨x, hx0⟩ : ∃ x, xs.getD j 0 = x := ⟨_, rfl⟩
      rw [hx0] at c0
      have HX := Lib.hid hx0
      clear hx0
      by_cases hp : j % 2 = 1
      · have v1 : (j : Int) % 2 = 1 := by omega
        go_wp2_with fail
        refine ⟨⟨j + 1, by omega, by go_num, ?_, b1.other _ _ (by show N + 1 ≠ N; omega), hB.setCell (Nat.le_refl _) _⟩, by simp [intOf]; omega⟩
        have h2 := b0.set j (.int .i16 (IntKind.i16.wrap (-x)))
        have h3 := Tu.flipTo_succ true false xs j hlt
        rw [show Tu.flipAt true false j (xs.getD j 0) = IntKind.i16.wrap (-x) from by rw [HX.out]; unfold Tu.flipAt; rw [if_pos (by simp; omega)]] at h3
        rw [ints_set, h3] at h2
        exact h2
      · have v1 : (j : Int) % 2 = 0 := by omega
        go_wp2_with fail
        refine ⟨⟨j + 1, by omega, by go_num, ?_, b1, hB⟩, by simp [intOf]; omega⟩
        rw [← Tu.flipTo_same true false xs j hlt (by unfold Tu.flipAt; rw [if_neg (by simp; try omega)])]
        exact b0
    · obtain rfl : j = 64 := by omega
      go_wp2_with (first | (refine wpList_load_row rfl 47 _ rfl N rfl 47 _ _ _ b0 Tryd.underlying47 rfl (by rw [ints_size, Tu.flipTo_len]; kernel_rfl) ?_) | (refine wpList_store_row rfl 47 _ _ rfl (N + 1) _ rfl rfl 47 _ b1 (by rw [ints_size, Tu.flipTo_len]; kernel_rfl) (by simp [Tu.flipTo_len]) (ints_one _ _) ?_))
      refine bodyPost_ret (results_cell_row rfl _ _ (N + 1) 47 _ _ _ rfl (b1.row _) Tryd.underlying47 rfl (by rw [ints_size, Tu.flipTo_len]; kernel_rfl)) rfl ⟨rfl, ?_⟩
      exact Below.setRow hB (by omega) _
set_option maxRecDepth 100000 in
set_option maxHeartbeats 2000000 in
theorem block_011 (k : Int) (h0 : 0 ≤ k) (h8 : k < 8) (hs : ¬ 4 ≤ k) (ha : k % 2 = 1) (hd : k / 2 % 2 = 1) (xs : List Int) (hx : xs.length = 64) (w : World) :
    Calls Tryd.prog 23 #[.int .i64 k, .agg (ints .i16 xs)] w fun e w' => e = .returned (.agg (ints .i16 (Tu.flip true true xs))) ∧ Below w.heap.size w w' := by
  rw [← Tu.flipTo_all]
  have e1 := and1 k h0 h8
  have e2 := and2 k h0 h8
  have e4 := and4 k h0 h8
  have t4 : (k / 4 * 4 != 0) = false := by rw [bne_eq_false_iff_eq]; omega
  have t1 : (k % 2 != 0) = true := by rw [bne_iff_ne]; omega
  have t2 : (k / 2 % 2 * 2 != 0) = true := by rw [bne_iff_ne]; omega
  clear hs ha hd
  obtain ⟨N, hN⟩ : ∃ N, N = w.heap.size := ⟨_, rfl⟩
  have HN := Lib.hid hN
  rw [← hN]
  clear hN
  go_enter Tryd.func23, Tryd.ntmps23
  go_wp2_with (first | (go_at_call 19; refine (right_yes _ (by assumption) (by assumption) _).mono ?_; rintro e w' ⟨rfl, rfl⟩) | (refine wpList_load_row rfl 47 _ rfl w.heap.size rfl 47 _ _ _ ((Blk.new _ (ints .i16 xs) _).alloc _) Tryd.underlying47 rfl (by rw [ints_size, hx]; kernel_rfl) ?_))
  refine wp_world (fun W => Blk W N (ints .i16 (Tu.flipTo true true xs 0)) 47 ∧ Blk W (N+1) (ints .i16 (List.replicate 64 0)) 47 ∧ Below N w W) ⟨?_, ?_, ?_⟩ ?_
  · rw [Tu.flipTo_zero _ _ _ hx]; exact (Blk.new' _ _ _ HN.out).alloc _
  · exact Blk.new' _ _ _ (by rw [HN.out]; simp)
  · exact ((Below.refl _ _).alloc (by rw [HN.out]; exact Nat.le_refl _) _).alloc (by rw [HN.out]; simp) _
  rintro W0 ⟨h0, h1, hB⟩
  rw [← HN.out]
  go_loopw [5, 6, 16] (fun _ _ i wr => ∃ j : Nat, j ≤ 64 ∧ i = .int .i64 j ∧ Blk wr N (ints .i16 (Tu.flipTo true true xs j)) 47 ∧ Blk wr (N+1) (ints .i16 (List.replicate 64 0)) 47 ∧ Below N w wr) (fun _ _ i _ => 64 - (intOf i).toNat)
  case atStart => exact ⟨0, by omega, rfl, h0, h1, hB⟩
  case round =>
    obtain ⟨j, hj, rfl, b0, b1, hB⟩ := hrel
    clear h0 h1
    by_cases hlt : j < 64
    · have f1 := and_one_i64 (j : Int) (by omega) (by omega)
      have f2 := and_one_i64 ((j : Int) / 8) (by omega) (by omega)
      have c0 := (b0.cell j).trans (ints_get _ _ _ (by rw [Tu.flipTo_len]; exact hlt))
      rw [Tu.flipTo_get _ _ _ _ hlt] at c0
      have f0 := b0.free j
      obtain ⟨x, hx0⟩ : ∃ x, xs.getD j 0 = x := ⟨_, rfl⟩
      rw [hx0] at c0
      have HX := Lib.hid hx0
      clear hx0
      by_cases hp : j % 2 = 1
      · have v1 : (j : Int) % 2 = 1 := by omega
        by_cases hq : j / 8 % 2 = 1
        · have v2 : (j : Int) / 8 % 2 = 1 := by omega
          go_wp2_with fail
          refine ⟨⟨j + 1, by omega, by go_num, ?_, b1, hB⟩, by simp [intOf]; omega⟩
          rw [← Tu.flipTo_same true true xs j hlt (by unfold Tu.flipAt; rw [if_neg (by simp; try omega)])]
          exact b0
        · have v2 : (j : Int) / 8 % 2 = 0 := by omega
          go_wp2_with fail
          refine ⟨⟨j + 1, by omega, by go_num, ?_, b1.other _ _ (by show N + 1 ≠ N; omega), hB.setCell (Nat.le_refl _) _⟩, by simp [intOf]; omega⟩
          have h2 := b0.set j (.int .i16 (IntKind.i16.wrap (-x)))
          have h3 := Tu.flipTo_succ true true xs j hlt
          rw [show Tu.flipAt true true j (xs.getD j 0) = IntKind.i16.wrap (-x) from by rw [HX.out]; unfold Tu.flipAt; rw [if_pos (by simp; omega)]] at h3
          rw [ints_set, h3] at h2
          exact h2
      · have v1 : (j : Int) % 2 = 0 := by omega
        by_cases hq : j / 8 % 2 = 1
        · have v2 : (j : Int) / 8 % 2 = 1 := by omega
          go_wp2_with fail
          refine ⟨⟨j + 1, by omega, by go_num, ?_, b1.other _ _ (by show N + 1 ≠ N; omega), hB.setCell (Nat.le_refl _) _⟩, by simp [intOf]; omega⟩
          have h2 := b0.set j (.int .i16 (IntKind.i16.wrap (-x)))
          have h3 := Tu.flipTo_succ true true xs j hlt
          rw [show Tu.flipAt true true j (xs.getD j 0) = IntKind.i16.wrap (-x) from by rw [HX.out]; unfold Tu.flipAt; rw [if_pos (by simp; omega)]] at h3
          rw [ints_set, h3] at h2
          exact h2
        · have v2 : (j : Int) / 8 % 2 = 0 := by omega
          go_wp2_with fail
          refine ⟨⟨j + 1, by omega, by go_num, ?_, b1, hB⟩, by simp [intOf]; omega⟩
          rw [← Tu.flipTo_same true true xs j hlt (by unfold Tu.flipAt; rw [if_neg (by simp; try omega)])]
          exact b0
    · obtain rfl : j = 64 := by omega
      go_wp2_with (first | (refine wpList_load_row rfl 47 _ rfl N rfl 47 _ _ _ b0 Tryd.underlying47 rfl (by rw [ints_size, Tu.flipTo_len]; kernel_rfl) ?_) | (refine wpList_store_row rfl 47 _ _ rfl (N + 1) _ rfl rfl 47 _ b1 (by rw [ints_size, Tu.flipTo_len]; kernel_rfl) (by simp [Tu.flipTo_len]) (ints_one _ _) ?_))
      refine bodyPost_ret (results_cell_row rfl _ _ (N + 1) 47 _ _ _ rfl (b1.row _) Tryd.underlying47 rfl (by rw [ints_size, Tu.flipTo_len]; kernel_rfl)) rfl ⟨rfl, ?_⟩
      exact Below.setRow hB (by omega) _
set_option maxRecDepth 100000 in
set_option maxHeartbeats 2000000 in
theorem block_100 (k : Int) (h0 : 0 ≤ k) (h8 : k < 8) (hs : 4 ≤ k) (ha : k % 2 ≠ 1) (hd : k / 2 % 2 ≠ 1) (xs : List Int) (hx : xs.length = 64) (w : World) :
    Calls Tryd.prog 23 #[.int .i64 k, .agg (ints .i16 xs)] w fun e w' => e = .returned (.agg (ints .i16 (Tu.flip false false (Zg.swap xs)))) ∧ Below w.heap.size w w' := by
  rw [← Tu.flipTo_all]
  have e1 := and1 k h0 h8
  have e2 := and2 k h0 h8
  have e4 := and4 k h0 h8
  have t4 : (k / 4 * 4 != 0) = true := by rw [bne_iff_ne]; omega
  have t1 : (k % 2 != 0) = false := by rw [bne_eq_false_iff_eq]; omega
  have t2 : (k / 2 % 2 * 2 != 0) = false := by rw [bne_eq_false_iff_eq]; omega
  clear hs ha hd
  obtain ⟨N, hN⟩ : ∃ N, N = w.heap.size := ⟨_, rfl⟩
  have HN := Lib.hid hN
  rw [← hN]
  clear hN
  go_enter Tryd.func23, Tryd.ntmps23
  go_wp2_with (first | (go_at_call 19; refine (right_yes _ (by assumption) (by assumption) _).mono ?_; rintro e w' ⟨rfl, rfl⟩) | (refine wpList_load_row rfl 47 _ rfl w.heap.size rfl 47 _ _ _ ((Blk.new _ (ints .i16 xs) _).alloc _) Tryd.underlying47 rfl (by rw [ints_size, hx]; kernel_rfl) ?_))
  refine (swap_i16 xs hx _).mono ?_
  rintro e w1 ⟨rfl, hb1⟩
  have g0 : Blk w1 N (ints .i16 xs) 47 := Blk.below ((Blk.new' _ _ _ HN.out).alloc _) hb1 (by rw [HN.out]; simp; omega)
  have g1 : Blk w1 (N + 1) (ints .i16 (List.replicate 64 0)) 47 := Blk.below (Blk.new' _ _ _ (by rw [HN.out]; simp)) hb1 (by rw [HN.out]; simp)
  have hB1 : Below N w w1 := ((((Below.refl _ _).alloc (by rw [HN.out]; exact Nat.le_refl _) _).alloc (by rw [HN.out]; simp) _)).trans (hb1.mono (by rw [HN.out]; simp; omega))
  clear hb1
  rw [← HN.out]
  go_wp2_with (first | (refine wpList_store_row rfl 47 _ _ rfl N (ints .i16 (Zg.swap xs)) rfl rfl 47 (ints .i16 xs) g0 (by rw [ints_size, Zg.swap_len]; kernel_rfl) (by simp [hx, Zg.swap_len]) (ints_one _ _) ?_) | fail)
  refine wp_world (fun W => Blk W N (ints .i16 (Tu.flipTo false false (Zg.swap xs) 0)) 47 ∧ Blk W (N+1) (ints .i16 (List.replicate 64 0)) 47 ∧ Below N w W) ⟨by rw [Tu.flipTo_zero _ _ _ (Zg.swap_len xs)]; exact g0.row _, g1.rowOther _ _ (by omega), Below.setRow hB1 (Nat.le_refl _) _⟩ ?_
  clear g0 g1 hB1
  rintro W0 ⟨h0, h1, hB⟩

  go_loopw [5, 6, 16] (fun _ _ i wr => ∃ j : Nat, j ≤ 64 ∧ i = .int .i64 j ∧ Blk wr N (ints .i16 (Tu.flipTo false false (Zg.swap xs) j)) 47 ∧ Blk wr (N+1) (ints .i16 (List.replicate 64 0)) 47 ∧ Below N w wr) (fun _ _ i _ => 64 - (intOf i).toNat)
  case atStart => exact ⟨0, by omega, rfl, h0, h1, hB⟩
  case round =>
    obtain ⟨j, hj, rfl, b0, b1, hB⟩ := hrel
    clear h0 h1
    by_cases hlt : j < 64
    · have f1 := and_one_i64 (j : Int) (by omega) (by omega)
      have f2 := and_one_i64 ((j : Int) / 8) (by omega) (by omega)
      have c0 := (b0.cell j).trans (ints_get _ _ _ (by rw [Tu.flipTo_len]; exact hlt))
      rw [Tu.flipTo_get _ _ _ _ hlt] at c0
      have f0 := b0.free j
      obtain ⟨x, hx0⟩ : ∃ x, (Zg.swap xs).getD j 0 = x := ⟨_, rfl⟩
      rw [hx0] at c0
      have HX := Lib.hid hx0
      clear hx0
      go_wp2_with fail
      refine ⟨⟨j + 1, by omega, by go_num, ?_, b1, hB⟩, by simp [intOf]; omega⟩
      rw [← Tu.flipTo_same false false (Zg.swap xs) j hlt (by unfold Tu.flipAt; rw [if_neg (by simp; try omega)])]
      exact b0
    · obtain rfl : j = 64 := by omega
      go_wp2_with (first | (refine wpList_load_row rfl 47 _ rfl N rfl 47 _ _ _ b0 Tryd.underlying47 rfl (by rw [ints_size, Tu.flipTo_len]; kernel_rfl) ?_) | (refine wpList_store_row rfl 47 _ _ rfl (N + 1) _ rfl rfl 47 _ b1 (by rw [ints_size, Tu.flipTo_len]; kernel_rfl) (by simp [Tu.flipTo_len]) (ints_one _ _) ?_))
      refine bodyPost_ret (results_cell_row rfl _ _ (N + 1) 47 _ _ _ rfl (b1.row _) Tryd.underlying47 rfl (by rw [ints_size, Tu.flipTo_len]; kernel_rfl)) rfl ⟨rfl, ?_⟩
      exact Below.setRow hB (by omega) _
set_option maxRecDepth 100000 in
set_option maxHeartbeats 2000000 in
theorem block_101 (k : Int) (h0 : 0 ≤ k) (h8 : k < 8) (hs : 4 ≤ k) (ha : k % 2 ≠ 1) (hd : k / 2 % 2 = 1) (xs : List Int) (hx : xs.length = 64) (w : World) :
    Calls Tryd.prog 23 #[.int .i64 k, .agg (ints .i16 xs)] w fun e w' => e = .returned (.agg (ints .i16 (Tu.flip false true (Zg.swap xs)))) ∧ Below w.heap.size w w' := by
  rw [← Tu.flipTo_all]
  have e1 := and1 k h0 h8
  have e2 := and2 k h0 h8
  have e4 := and4 k h0 h8
  have t4 : (k / 4 * 4 != 0) = true := by rw [bne_iff_ne]; omega
  have t1 : (k % 2 != 0) = false := by rw [bne_eq_false_iff_eq]; omega
  have t2 : (k / 2 % 2 * 2 != 0) = true := by rw [bne_iff_ne]; omega
  clear hs ha hd
  obtain ⟨N, hN⟩ : ∃ N, N = w.heap.size := ⟨_, rfl⟩
  have HN := Lib.hid hN
  rw [← hN]
  clear hN
  go_enter Tryd.func23, Tryd.ntmps23
  go_wp2_with (first | (go_at_call 19; refine (right_yes _ (by assumption) (by assumption) _).mono ?_; rintro e w' ⟨rfl, rfl⟩) | (refine wpList_load_row rfl 47 _ rfl w.heap.size rfl 47 _ _ _ ((Blk.new _ (ints .i16 xs) _).alloc _) Tryd.underlying47 rfl (by rw [ints_size, hx]; kernel_rfl) ?_))
  refine (swap_i16 xs hx _).mono ?_
  rintro e w1 ⟨rfl, hb1⟩
  have g0 : Blk w1 N (ints .i16 xs) 47 := Blk.below ((Blk.new' _ _ _ HN.out).alloc _) hb1 (by rw [HN.out]; simp; omega)
  have g1 : Blk w1 (N + 1) (ints .i16 (List.replicate 64 0)) 47 := Blk.below (Blk.new' _ _ _ (by rw [HN.out]; simp)) hb1 (by rw [HN.out]; simp)
  have hB1 : Below N w w1 := ((((Below.refl _ _).alloc (by rw [HN.out]; exact Nat.le_refl _) _).alloc (by rw [HN.out]; simp) _)).trans (hb1.mono (by rw [HN.out]; simp; omega))
  clear hb1
  rw [← HN.out]
  go_wp2_with (first | (refine wpList_store_row rfl 47 _ _ rfl N (ints .i16 (Zg.swap xs)) rfl rfl 47 (ints .i16 xs) g0 (by rw [ints_size, Zg.swap_len]; kernel_rfl) (by simp [hx, Zg.swap_len]) (ints_one _ _) ?_) | fail)
  refine wp_world (fun W => Blk W N (ints .i16 (Tu.flipTo false true (Zg.swap xs) 0)) 47 ∧ Blk W (N+1) (ints .i16 (List.replicate 64 0)) 47 ∧ Below N w W) ⟨by rw [Tu.flipTo_zero _ _ _ (Zg.swap_len xs)]; exact g0.row _, g1.rowOther _ _ (by omega), Below.setRow hB1 (Nat.le_refl _) _⟩ ?_
  clear g0 g1 hB1
  rintro W0 ⟨h0, h1, hB⟩

  go_loopw [5, 6, 16] (fun _ _ i wr => ∃ j : Nat, j ≤ 64 ∧ i = .int .i64 j ∧ Blk wr N (ints .i16 (Tu.flipTo false true (Zg.swap xs) j)) 47 ∧ Blk wr (N+1) (ints .i16 (List.replicate 64 0)) 47 ∧ Below N w wr) (fun _ _ i _ => 64 - (intOf i).toNat)
  case atStart => exact ⟨0, by omega, rfl, h0, h1, hB⟩
  case round =>
    obtain ⟨j, hj, rfl, b0, b1, hB⟩ := hrel
    clear h0 h1
    by_cases hlt : j < 64
    · have f1 := and_one_i64 (j : Int) (by omega) (by omega)
      have f2 := and_one_i64 ((j : Int) / 8) (by omega) (by omega)
      have c0 := (b0.cell j).trans (ints_get _ _ _ (by rw [Tu.flipTo_len]; exact hlt))
      rw [Tu.flipTo_get _ _ _ _ hlt] at c0
      have f0 := b0.free j
      obtain ⟨x, hx0⟩ : ∃ x, (Zg.swap xs).getD j 0 = x := ⟨_, rfl⟩
      rw [hx0] at c0
      have HX := Lib.hid hx0
      clear hx0
      by_cases hq : j / 8 % 2 = 1
      · have v2 : (j : Int) / 8 % 2 = 1 := by omega
        go_wp2_with fail
        refine ⟨⟨j + 1, by omega, by go_num, ?_, b1.other _ _ (by show N + 1 ≠ N; omega), hB.setCell (Nat.le_refl _) _⟩, by simp [intOf]; omega⟩
        have h2 := b0.set j (.int .i16 (IntKind.i16.wrap (-x)))
        have h3 := Tu.flipTo_succ false true (Zg.swap xs) j hlt
        rw [show Tu.flipAt false true j ((Zg.swap xs).getD j 0) = IntKind.i16.wrap (-x) from by rw [HX.out]; unfold Tu.flipAt; rw [if_pos (by simp; omega)]] at h3
        rw [ints_set, h3] at h2
        exact h2
      · have v2 : (j : Int) / 8 % 2 = 0 := by omega
        go_wp2_with fail
        refine ⟨⟨j + 1, by omega, by go_num, ?_, b1, hB⟩, by simp [intOf]; omega⟩
        rw [← Tu.flipTo_same false true (Zg.swap xs) j hlt (by unfold Tu.flipAt; rw [if_neg (by simp; try omega)])]
        exact b0
    · obtain rfl : j = 64 := by omega
      go_wp2_with (first | (refine wpList_load_row rfl 47 _ rfl N rfl 47 _ _ _ b0 Tryd.underlying47 rfl (by rw [ints_size, Tu.flipTo_len]; kernel_rfl) ?_) | (refine wpList_store_row rfl 47 _ _ rfl (N + 1) _ rfl rfl 47 _ b1 (by rw [ints_size, Tu.flipTo_len]; kernel_rfl) (by simp [Tu.flipTo_len]) (ints_one _ _) ?_))
      refine bodyPost_ret (results_cell_row rfl _ _ (N + 1) 47 _ _ _ rfl (b1.row _) Tryd.underlying47 rfl (by rw [ints_size, Tu.flipTo_len]; kernel_rfl)) rfl ⟨rfl, ?_⟩
      exact Below.setRow hB (by omega) _
set_option maxRecDepth 100000 in
set_option maxHeartbeats 2000000 in
theorem block_110 (k : Int) (h0 : 0 ≤ k) (h8 : k < 8) (hs : 4 ≤ k) (ha : k % 2 = 1) (hd : k / 2 % 2 ≠ 1) (xs : List Int) (hx : xs.length = 64) (w : World) :
    Calls Tryd.prog 23 #[.int .i64 k, .agg (ints .i16 xs)] w fun e w' => e = .returned (.agg (ints .i16 (Tu.flip true false (Zg.swap xs)))) ∧ Below w.heap.size w w' := by
  rw [← Tu.flipTo_all]
  have e1 := and1 k h0 h8
  have e2 := and2 k h0 h8
  have e4 := and4 k h0 h8
  have t4 : (k / 4 * 4 != 0) = true := by rw [bne_iff_ne]; omega
  have t1 : (k % 2 != 0) = true := by rw [bne_iff_ne]; omega
  have t2 : (k / 2 % 2 * 2 != 0) = false := by rw [bne_eq_false_iff_eq]; omega
  clear hs ha hd
  obtain ⟨N, hN⟩ : ∃ N, N = w.heap.size := ⟨_, rfl⟩
  have HN := Lib.hid hN
  rw [← hN]
  clear hN
  go_enter Tryd.func23, Tryd.ntmps23
  go_wp2_with (first | (go_at_call 19; refine (right_yes _ (by assumption) (by assumption) _).mono ?_; rintro e w' ⟨rfl, rfl⟩) | (refine wpList_load_row rfl 47 _ rfl w.heap.size rfl 47 _ _ _ ((Blk.new _ (ints .i16 xs) _).alloc _) Tryd.underlying47 rfl (by rw [ints_size, hx]; kernel_rfl) ?_))
  refine (swap_i16 xs hx _).mono ?_
  rintro e w1 ⟨rfl, hb1⟩
  have g0 : Blk w1 N (ints .i16 xs) 47 := Blk.below ((Blk.new' _ _ _ HN.out).alloc _) hb1 (by rw [HN.out]; simp; omega)
  have g1 : Blk w1 (N + 1) (ints .i16 (List.replicate 64 0)) 47 := Blk.below (Blk.new' _ _ _ (by rw [HN.out]; simp)) hb1 (by rw [HN.out]; simp)
  have hB1 : Below N w w1 := ((((Below.refl _ _).alloc (by rw [HN.out]; exact Nat.le_refl _) _).alloc (by rw [HN.out]; simp) _)).trans (hb1.mono (by rw [HN.out]; simp; omega))
  clear hb1
  rw [← HN.out]
  go_wp2_with (first | (refine wpList_store_row rfl 47 _ _ rfl N (ints .i16 (Zg.swap xs)) rfl rfl 47 (ints .i16 xs) g0 (by rw [ints_size, Zg.swap_len]; kernel_rfl) (by simp [hx, Zg.swap_len]) (ints_one _ _) ?_) | fail)
  refine wp_world (fun W => Blk W N (ints .i16 (Tu.flipTo true false (Zg.swap xs) 0)) 47 ∧ Blk W (N+1) (ints .i16 (List.replicate 64 0)) 47 ∧ Below N w W) ⟨by rw [Tu.flipTo_zero _ _ _ (Zg.swap_len xs)]; exact g0.row _, g1.rowOther _ _ (by omega), Below.setRow hB1 (Nat.le_refl _) _⟩ ?_
  clear g0 g1 hB1
  rintro W0 ⟨h0, h1, hB⟩

  go_loopw [5, 6, 16] (fun _ _ i wr => ∃ j : Nat, j ≤ 64 ∧ i = .int .i64 j ∧ Blk wr N (ints .i16 (Tu.flipTo true false (Zg.swap xs) j)) 47 ∧ Blk wr (N+1) (ints .i16 (List.replicate 64 0)) 47 ∧ Below N w wr) (fun _ _ i _ => 64 - (intOf i).toNat)
  case atStart => exact ⟨0, by omega, rfl, h0, h1, hB⟩
  case round =>
    obtain ⟨j, hj, rfl, b0, b1, hB⟩ := hrel
    clear h0 h1
    by_cases hlt : j < 64
    · have f1 := and_one_i64 (j : Int) (by omega) (by omega)
      have f2 := and_one_i64 ((j : Int) / 8) (by omega) (by omega)
      have c0 := (b0.cell j).trans (ints_get _ _ _ (by rw [Tu.flipTo_len]; exact hlt))
      rw [Tu.flipTo_get _ _ _ _ hlt] at c0
      have f0 := b0.free j
      obtain ⟨x, hx0⟩ : ∃ x, (Zg.swap xs).getD j 0 = x := ⟨_, rfl⟩
      rw [hx0] at c0
      have HX := Lib.hid hx0
      clear hx0
      by_cases hp : j % 2 = 1
      · have v1 : (j : Int) % 2 = 1 := by omega
        go_wp2_with fail
        refine ⟨⟨j + 1, by omega, by go_num, ?_, b1.other _ _ (by show N + 1 ≠ N; omega), hB.setCell (Nat.le_refl _) _⟩, by simp [intOf]; omega⟩
        have h2 := b0.set j (.int .i16 (IntKind.i16.wrap (-x)))
        have h3 := Tu.flipTo_succ true false (Zg.swap xs) j hlt
        rw [show Tu.flipAt true false j ((Zg.swap xs).getD j 0) = IntKind.i16.wrap (-x) from by rw [HX.out]; unfold Tu.flipAt; rw [if_pos (by simp; omega)]] at h3
        rw [ints_set, h3] at h2
        exact h2
      · have v1 : (j : Int) % 2 = 0 := by omega
        go_wp2_with fail
        refine ⟨⟨j + 1, by omega, by go_num, ?_, b1, hB⟩, by simp [intOf]; omega⟩
        rw [← Tu.flipTo_same true false (Zg.swap xs) j hlt (by unfold Tu.flipAt; rw [if_neg (by simp; try omega)])]
        exact b0
    · obtain rfl : j = 64 := by omega
      go_wp2_with (first | (refine wpList_load_row rfl 47 _ rfl N rfl 47 _ _ _ b0 Tryd.underlying47 rfl (by rw [ints_size, Tu.flipTo_len]; kernel_rfl) ?_) | (refine wpList_store_row rfl 47 _ _ rfl (N + 1) _ rfl rfl 47 _ b1 (by rw [ints_size, Tu.flipTo_len]; kernel_rfl) (by simp [Tu.flipTo_len]) (ints_one _ _) ?_))
      refine bodyPost_ret (results_cell_row rfl _ _ (N + 1) 47 _ _ _ rfl (b1.row _) Tryd.underlying47 rfl (by rw [ints_size, Tu.flipTo_len]; kernel_rfl)) rfl ⟨rfl, ?_⟩
      exact Below.setRow hB (by omega) _
set_option maxRecDepth 100000 in
set_option maxHeartbeats 2000000 in
theorem block_111 (k : Int) (h0 : 0 ≤ k) (h8 : k < 8) (hs : 4 ≤ k) (ha : k % 2 = 1) (hd : k / 2 % 2 = 1) (xs : List Int) (hx : xs.length = 64) (w : World) :
    Calls Tryd.prog 23 #[.int .i64 k, .agg (ints .i16 xs)] w fun e w' => e = .returned (.agg (ints .i16 (Tu.flip true true (Zg.swap xs)))) ∧ Below w.heap.size w w' := by
  rw [← Tu.flipTo_all]
  have e1 := and1 k h0 h8
  have e2 := and2 k h0 h8
  have e4 := and4 k h0 h8
  have t4 : (k / 4 * 4 != 0) = true := by rw [bne_iff_ne]; omega
  have t1 : (k % 2 != 0) = true := by rw [bne_iff_ne]; omega
  have t2 : (k / 2 % 2 * 2 != 0) = true := by rw [bne_iff_ne]; omega
  clear hs ha hd
  obtain ⟨N, hN⟩ : ∃ N, N = w.heap.size := ⟨_, rfl⟩
  have HN := Lib.hid hN
  rw [← hN]
  clear hN
  go_enter Tryd.func23, Tryd.ntmps23
  go_wp2_with (first | (go_at_call 19; refine (right_yes _ (by assumption) (by assumption) _).mono ?_; rintro e w' ⟨rfl, rfl⟩) | (refine wpList_load_row rfl 47 _ rfl w.heap.size rfl 47 _ _ _ ((Blk.new _ (ints .i16 xs) _).alloc _) Tryd.underlying47 rfl (by rw [ints_size, hx]; kernel_rfl) ?_))
  refine (swap_i16 xs hx _).mono ?_
  rintro e w1 ⟨rfl, hb1⟩
  have g0 : Blk w1 N (ints .i16 xs) 47 := Blk.below ((Blk.new' _ _ _ HN.out).alloc _) hb1 (by rw [HN.out]; simp; omega)
  have g1 : Blk w1 (N + 1) (ints .i16 (List.replicate 64 0)) 47 := Blk.below (Blk.new' _ _ _ (by rw [HN.out]; simp)) hb1 (by rw [HN.out]; simp)
  have hB1 : Below N w w1 := ((((Below.refl _ _).alloc (by rw [HN.out]; exact Nat.le_refl _) _).alloc (by rw [HN.out]; simp) _)).trans (hb1.mono (by rw [HN.out]; simp; omega))
  clear hb1
  rw [← HN.out]
  go_wp2_with (first | (refine wpList_store_row rfl 47 _ _ rfl N (ints .i16 (Zg.swap xs)) rfl rfl 47 (ints .i16 xs) g0 (by rw [ints_size, Zg.swap_len]; kernel_rfl) (by simp [hx, Zg.swap_len]) (ints_one _ _) ?_) | fail)
  refine wp_world (fun W => Blk W N (ints .i16 (Tu.flipTo true true (Zg.swap xs) 0)) 47 ∧ Blk W (N+1) (ints .i16 (List.replicate 64 0)) 47 ∧ Below N w W) ⟨by rw [Tu.flipTo_zero _ _ _ (Zg.swap_len xs)]; exact g0.row _, g1.rowOther _ _ (by omega), Below.setRow hB1 (Nat.le_refl _) _⟩ ?_
  clear g0 g1 hB1
  rintro W0 ⟨h0, h1, hB⟩

  go_loopw [5, 6, 16] (fun _ _ i wr => ∃ j : Nat, j ≤ 64 ∧ i = .int .i64 j ∧ Blk wr N (ints .i16 (Tu.flipTo true true (Zg.swap xs) j)) 47 ∧ Blk wr (N+1) (ints .i16 (List.replicate 64 0)) 47 ∧ Below N w wr) (fun _ _ i _ => 64 - (intOf i).toNat)
  case atStart => exact ⟨0, by omega, rfl, h0, h1, hB⟩
  case round =>
    obtain ⟨j, hj, rfl, b0, b1, hB⟩ := hrel
    clear h0 h1
    by_cases hlt : j < 64
    · have f1 := and_one_i64 (j : Int) (by omega) (by omega)
      have f2 := and_one_i64 ((j : Int) / 8) (by omega) (by omega)
      have c0 := (b0.cell j).trans (ints_get _ _ _ (by rw [Tu.flipTo_len]; exact hlt))
      rw [Tu.flipTo_get _ _ _ _ hlt] at c0
      have f0 := b0.free j
      obtain ⟨x, hx0⟩ : ∃ x, (Zg.swap xs).getD j 0 = x := ⟨_, rfl⟩
      rw [hx0] at c0
      have HX := Lib.hid hx0
      clear hx0
      by_cases hp : j % 2 = 1
      · have v1 : (j : Int) % 2 = 1 := by omega
        by_cases hq : j / 8 % 2 = 1
        · have v2 : (j : Int) / 8 % 2 = 1 := by omega
          go_wp2_with fail
          refine ⟨⟨j + 1, by omega, by go_num, ?_, b1, hB⟩, by simp [intOf]; omega⟩
          rw [← Tu.flipTo_same true true (Zg.swap xs) j hlt (by unfold Tu.flipAt; rw [if_neg (by simp; try omega)])]
          exact b0
        · have v2 : (j : Int) / 8 % 2 = 0 := by omega
          go_wp2_with fail
          refine ⟨⟨j + 1, by omega, by go_num, ?_, b1.other _ _ (by show N + 1 ≠ N; omega), hB.setCell (Nat.le_refl _) _⟩, by simp [intOf]; omega⟩
          have h2 := b0.set j (.int .i16 (IntKind.i16.wrap (-x)))
          have h3 := Tu.flipTo_succ true true (Zg.swap xs) j hlt
          rw [show Tu.flipAt true true j ((Zg.swap xs).getD j 0) = IntKind.i16.wrap (-x) from by rw [HX.out]; unfold Tu.flipAt; rw [if_pos (by simp; omega)]] at h3
          rw [ints_set, h3] at h2
          exact h2
      · have v1 : (j : Int) % 2 = 0 := by omega
        by_cases hq : j / 8 % 2 = 1
        · have v2 : (j : Int) / 8 % 2 = 1 := by omega
          go_wp2_with fail
          refine ⟨⟨j + 1, by omega, by go_num, ?_, b1.other _ _ (by show N + 1 ≠ N; omega), hB.setCell (Nat.le_refl _) _⟩, by simp [intOf]; omega⟩
          have h2 := b0.set j (.int .i16 (IntKind.i16.wrap (-x)))
          have h3 := Tu.flipTo_succ true true (Zg.swap xs) j hlt
          rw [show Tu.flipAt true true j ((Zg.swap xs).getD j 0) = IntKind.i16.wrap (-x) from by rw [HX.out]; unfold Tu.flipAt; rw [if_pos (by simp; omega)]] at h3
          rw [ints_set, h3] at h2
          exact h2
        · have v2 : (j : Int) / 8 % 2 = 0 := by omega
          go_wp2_with fail
          refine ⟨⟨j + 1, by omega, by go_num, ?_, b1, hB⟩, by simp [intOf]; omega⟩
          rw [← Tu.flipTo_same true true (Zg.swap xs) j hlt (by unfold Tu.flipAt; rw [if_neg (by simp; try omega)])]
          exact b0
    · obtain rfl : j = 64 := by omega
      go_wp2_with (first | (refine wpList_load_row rfl 47 _ rfl N rfl 47 _ _ _ b0 Tryd.underlying47 rfl (by rw [ints_size, Tu.flipTo_len]; kernel_rfl) ?_) | (refine wpList_store_row rfl 47 _ _ rfl (N + 1) _ rfl rfl 47 _ b1 (by rw [ints_size, Tu.flipTo_len]; kernel_rfl) (by simp [Tu.flipTo_len]) (ints_one _ _) ?_))
      refine bodyPost_ret (results_cell_row rfl _ _ (N + 1) 47 _ _ _ rfl (b1.row _) Tryd.underlying47 rfl (by rw [ints_size, Tu.flipTo_len]; kernel_rfl)) rfl ⟨rfl, ?_⟩
      exact Below.setRow hB (by omega) _
theorem block_any (k : Int) (xs : List Int) (hx : xs.length = 64) (w : World) :
    Calls Tryd.prog 23 #[.int .i64 k, .agg (ints .i16 xs)] w fun e w' => e = .returned (.agg (ints .i16 (Tu.block k xs))) ∧ Below w.heap.size w w' := by
  by_cases h : 0 ≤ k ∧ k < 8
  · obtain ⟨h0, h8⟩ := h
    unfold Tu.block
    rw [if_pos ⟨h0, h8⟩]
    by_cases hs : 4 ≤ k <;> by_cases ha : k % 2 = 1 <;> by_cases hd : k / 2 % 2 = 1 <;> simp only [hs, ha, hd, if_true, if_false, decide_true, decide_false]
    · exact block_111 k h0 h8 hs ha hd xs hx w
    · exact block_110 k h0 h8 hs ha hd xs hx w
    · exact block_101 k h0 h8 hs ha hd xs hx w
    · exact block_100 k h0 h8 hs ha hd xs hx w
    · exact block_011 k h0 h8 hs ha hd xs hx w
    · exact block_010 k h0 h8 hs ha hd xs hx w
    · exact block_001 k h0 h8 hs ha hd xs hx w
    · exact block_000 k h0 h8 hs ha hd xs hx w
  · unfold Tu.block
    rw [if_neg h]
    exact block_no k (by omega) xs hx w
end Go.Proofs.YtcdfamllamjpeaaDoor
