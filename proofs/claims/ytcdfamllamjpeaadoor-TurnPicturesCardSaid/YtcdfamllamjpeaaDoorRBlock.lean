/- The reference's Block: what it says that a turn does to a block of coefficients; it is what the program's Block does. -/
import Derived.Test.YtcdfamllamjpeaaDoorBlock
namespace Go.Proofs.YtcdfamllamjpeaaDoor
open Go.RowKit
namespace Tu
def rco (s a d : Bool) (xs : List Int) (j : Nat) : Int :=
  let x := if s then xs.getD (8 * (j % 8) + j / 8) 0 else xs.getD j 0
  let y := if a && decide (j % 8 % 2 = 1) then IntKind.i16.wrap (-x) else x
  if d && decide (j / 8 % 2 = 1) then IntKind.i16.wrap (-y) else y
def rTo (s a d : Bool) (xs : List Int) (n : Nat) : List Int := (List.range 64).map fun j => if j < n then rco s a d xs j else 0
theorem rTo_len (s a d : Bool) (xs : List Int) (n : Nat) : (rTo s a d xs n).length = 64 := by simp [rTo]
theorem rTo_zero (s a d : Bool) (xs : List Int) : rTo s a d xs 0 = List.replicate 64 0 := by
  unfold rTo
  apply List.ext_getElem?
  intro j
  by_cases hj : j < 64
  · rw [List.getElem?_replicate, if_pos hj]; simp [hj]
  · rw [List.getElem?_eq_none (by simp; omega), List.getElem?_eq_none (by simp; omega)]
theorem rTo_succ (s a d : Bool) (xs : List Int) (n : Nat) (h : n < 64) : (rTo s a d xs n).set n (rco s a d xs n) = rTo s a d xs (n + 1) := by
  apply List.ext_getElem?
  intro j
  rw [List.getElem?_set]
  by_cases hj : j < 64
  · by_cases e : n = j
    · subst e; rw [if_pos rfl, if_pos (by rw [rTo_len]; exact h)]; simp [rTo, h]
    · rw [if_neg e]
      simp only [rTo, List.getElem?_map, List.getElem?_range hj, Option.map_some]
      by_cases h2 : j < n
      · rw [if_pos h2, if_pos (by omega)]
      · rw [if_neg h2, if_neg (by omega)]
  · rw [if_neg (by omega), List.getElem?_eq_none (by rw [rTo_len]; omega), List.getElem?_eq_none (by rw [rTo_len]; omega)]
theorem wrap16_eq (n : Int) : IntKind.i16.wrap n = if n % 65536 ≥ 32768 then n % 65536 - 65536 else n % 65536 := by
  simp [IntKind.wrap, IntKind.bits, IntKind.signed]
theorem wrap16_neg (x : Int) (h0 : -32768 ≤ x) (h1 : x ≤ 32767) : IntKind.i16.wrap (-(IntKind.i16.wrap (-x))) = x := by
  rw [wrap16_eq, wrap16_eq]
  split <;> split <;> omega
/-- The two say the same of coefficients that are 16 bits wide. -/
theorem rTo_all (s a d : Bool) (xs : List Int) (_hx : xs.length = 64) (hb : ∀ i, -32768 ≤ xs.getD i 0 ∧ xs.getD i 0 ≤ 32767) : rTo s a d xs 64 = flip a d (if s then Zg.swap xs else xs) := by
  unfold rTo flip
  apply List.map_congr_left
  intro j hj
  have hj : j < 64 := by simpa using hj
  rw [if_pos hj]
  have e : (if s = true then Zg.swap xs else xs).getD j 0 = if s then xs.getD (8 * (j % 8) + j / 8) 0 else xs.getD j 0 := by
    cases s
    · rfl
    · simp [Zg.swap, List.getD_eq_getElem?_getD, hj, Nat.mul_comm]
  rw [e]
  have e2 : (j % 8 % 2 = 1) = (j % 2 = 1) := by rw [show j % 8 % 2 = j % 2 by omega]
  unfold rco flipAt
  simp only [e2]
  generalize hX : (if s = true then xs.getD (8 * (j % 8) + j / 8) 0 else xs.getD j 0) = X
  have hXb : -32768 ≤ X ∧ X ≤ 32767 := by rw [← hX]; split <;> exact hb _
  have hw := wrap16_neg X hXb.1 hXb.2
  cases a <;> cases d <;> by_cases h1 : j % 2 = 1 <;> by_cases h2 : j / 8 % 2 = 1 <;> simp [h1, h2, hw]
end Tu
theorem rblock_no (k : Int) (h : k < 0 ∨ 7 < k) (xs : List Int) (_hx : xs.length = 64) (w : World) : Calls Tryd.prog 24 #[.int .i64 k, .agg (ints .i16 xs)] w fun e w' => e = .returned (.agg (ints .i16 (List.replicate 64 0))) ∧ Below w.heap.size w w' := by
  rcases h with h | h
  all_goals
    try have h' : 0 ≤ k := by omega
    go_enter Tryd.func24, Tryd.ntmps24
    go_wp2_with (first | (refine wpList_load_row rfl 47 _ rfl (w.heap.size + 1 + 1) rfl 47 (ints .i16 (List.replicate 64 0)) _ _ (Blk.new' _ _ _ (by simp)) Tryd.underlying47 rfl (by rw [ints_size]; kernel_rfl) ?_) | (refine wpList_store_row rfl 47 _ _ rfl (w.heap.size + 1) (ints .i16 (List.replicate 64 0)) rfl rfl 47 (ints .i16 (List.replicate 64 0)) ((Blk.new' _ _ _ (by simp)).alloc _) (by rw [ints_size]; kernel_rfl) (by simp) (ints_one _ _) ?_))
    refine bodyPost_ret (results_cell_row rfl _ _ (w.heap.size + 1) 47 _ _ _ rfl (((Blk.new' _ (ints .i16 (List.replicate 64 0)) _ (by simp)).alloc _).row _) Tryd.underlying47 rfl (by rw [ints_size]; kernel_rfl)) rfl ⟨rfl, ?_⟩
    exact Below.setRow ((((Below.refl _ _).alloc (Nat.le_refl _) _).alloc (by simp) _).alloc (by simp; omega) _) (by omega) _

set_option maxRecDepth 100000 in
set_option maxHeartbeats 4000000 in
theorem rblock_000 (k : Int) (h0 : 0 ≤ k) (h7 : k ≤ 7) (hs : k < 4) (ha : k % 2 ≠ 1) (hd : k / 2 % 2 ≠ 1) (xs : List Int) (hx : xs.length = 64) (w : World) :
    Calls Tryd.prog 24 #[.int .i64 k, .agg (ints .i16 xs)] w fun e w' => e = .returned (.agg (ints .i16 (Tu.rTo false false false xs 64))) ∧ Below w.heap.size w w' := by
  have t1 : (k % 2 == 1) = false := beq_eq_false_iff_ne.2 (by omega)
  have t2 : (k / 2 % 2 == 1) = false := beq_eq_false_iff_ne.2 (by omega)
  clear ha hd
  obtain ⟨N, hN⟩ : ∃ N, N = w.heap.size := ⟨_, rfl⟩
  have HN := Lib.hid hN
  rw [← hN]
  clear hN
  go_enter Tryd.func24, Tryd.ntmps24
  go_wp2_with fail
  refine wp_world (fun W => Blk W N (ints .i16 xs) 47 ∧ Blk W (N+1) (ints .i16 (List.replicate 64 0)) 47 ∧ Blk W (N+2) (ints .i16 (Tu.rTo false false false xs 0)) 47 ∧ Below N w W) ⟨?_, ?_, ?_, ?_⟩ ?_
  · exact ((Blk.new' _ _ _ HN.out).alloc _).alloc _
  · exact (Blk.new' _ _ _ (by rw [HN.out]; simp)).alloc _
  · rw [Tu.rTo_zero]; exact Blk.new' _ _ _ (by rw [HN.out]; simp)
  · exact (((Below.refl _ _).alloc (by rw [HN.out]; exact Nat.le_refl _) _).alloc (by rw [HN.out]; simp) _).alloc (by rw [HN.out]; simp; omega) _
  rintro W0 ⟨b0, b1, b2, hB⟩
  rw [← HN.out]
  go_loopw [6, 7, 8] (fun iv _ _ wr => ∃ v : Nat, v ≤ 8 ∧ iv = .int .i64 v ∧ Blk wr N (ints .i16 xs) 47 ∧ Blk wr (N+1) (ints .i16 (List.replicate 64 0)) 47 ∧ Blk wr (N+2) (ints .i16 (Tu.rTo false false false xs (8 * v))) 47 ∧ Below N w wr) (fun iv _ _ _ => 8 - (intOf iv).toNat)
  case atStart => exact ⟨0, by omega, rfl, b0, b1, b2, hB⟩
  case round =>
    clear b0 b1 b2 hB
    obtain ⟨v, hv, rfl, b0, b1, b2, hB⟩ := hrel
    by_cases hlt : v < 8
    · go_wp2_with fail
      obtain ⟨wo, hwo⟩ : ∃ wo : World, wo = wr := ⟨_, rfl⟩
      subst hwo
      go_loopw [7, 8] (fun iu _ wr => ∃ u : Nat, u ≤ 8 ∧ iu = .int .i64 u ∧ Blk wr N (ints .i16 xs) 47 ∧ Blk wr (N+1) (ints .i16 (List.replicate 64 0)) 47 ∧ Blk wr (N+2) (ints .i16 (Tu.rTo false false false xs (8 * v + u))) 47 ∧ Below N w wr) (fun iu _ _ => 8 - (intOf iu).toNat)
      case atStart => exact ⟨0, by omega, rfl, b0, b1, b2, hB⟩
      case round =>
        clear b0 b1 b2 hB
        obtain ⟨u, hu, rfl, b0, b1, b2, hB⟩ := hrel
        by_cases hlu : u < 8
        · have c0 := (b0.cell (8 * v + u)).trans (ints_get _ _ _ (by omega))
          obtain ⟨y, hy0⟩ : ∃ y, xs.getD (8 * v + u) 0 = y := ⟨_, rfl⟩
          rw [hy0] at c0
          have HY := Lib.hid hy0
          clear hy0
          have c2 := (b2.cell (8 * v + u)).trans (ints_get _ _ _ (by rw [Tu.rTo_len]; omega))
          have f2 := b2.free (8 * v + u)
          go_wp2_with fail
          refine ⟨⟨u + 1, by omega, by go_num, b0.other _ _ (by show N ≠ N + 1 + 1; omega), b1.other _ _ (by show N + 1 ≠ N + 1 + 1; omega), ?_, hB.setCell (by show N ≤ N + 1 + 1; omega) _⟩, by simp [intOf]; omega⟩
          have h2 := b2.set (8 * v + u) (.int .i16 (y))
          have h3 := Tu.rTo_succ false false false xs (8 * v + u) (by omega)
          rw [show Tu.rco false false false xs (8 * v + u) = y from by rw [← HY.out]; simp only [Tu.rco, show (8 * v + u) % 8 = u by omega, show (8 * v + u) / 8 = v by omega]; simp] at h3
          rw [ints_set, h3] at h2
          exact h2
        · obtain rfl : u = 8 := by omega
          go_wp2_with fail
          exact ⟨⟨v + 1, by omega, by go_num, b0, b1, b2, hB⟩, by simp [intOf]; omega⟩
    · obtain rfl : v = 8 := by omega
      go_wp2_with (first | (refine wpList_load_row rfl 47 _ rfl (N + 2) rfl 47 _ _ _ b2 Tryd.underlying47 rfl (by rw [ints_size, Tu.rTo_len]; kernel_rfl) ?_) | (refine wpList_store_row rfl 47 _ _ rfl (N + 1) _ rfl rfl 47 _ b1 (by rw [ints_size, Tu.rTo_len]; kernel_rfl) (by simp [Tu.rTo_len]) (ints_one _ _) ?_))
      refine bodyPost_ret (results_cell_row rfl _ _ (N + 1) 47 _ _ _ rfl (b1.row _) Tryd.underlying47 rfl (by rw [ints_size, Tu.rTo_len]; kernel_rfl)) rfl ⟨rfl, ?_⟩
      exact Below.setRow hB (by omega) _
set_option maxRecDepth 100000 in
set_option maxHeartbeats 4000000 in
theorem rblock_001 (k : Int) (h0 : 0 ≤ k) (h7 : k ≤ 7) (hs : k < 4) (ha : k % 2 ≠ 1) (hd : k / 2 % 2 = 1) (xs : List Int) (hx : xs.length = 64) (w : World) :
    Calls Tryd.prog 24 #[.int .i64 k, .agg (ints .i16 xs)] w fun e w' => e = .returned (.agg (ints .i16 (Tu.rTo false false true xs 64))) ∧ Below w.heap.size w w' := by
  have t1 : (k % 2 == 1) = false := beq_eq_false_iff_ne.2 (by omega)
  have t2 : (k / 2 % 2 == 1) = true := beq_iff_eq.2 (by omega)
  clear ha hd
  obtain ⟨N, hN⟩ : ∃ N, N = w.heap.size := ⟨_, rfl⟩
  have HN := Lib.hid hN
  rw [← hN]
  clear hN
  go_enter Tryd.func24, Tryd.ntmps24
  go_wp2_with fail
  refine wp_world (fun W => Blk W N (ints .i16 xs) 47 ∧ Blk W (N+1) (ints .i16 (List.replicate 64 0)) 47 ∧ Blk W (N+2) (ints .i16 (Tu.rTo false false true xs 0)) 47 ∧ Below N w W) ⟨?_, ?_, ?_, ?_⟩ ?_
  · exact ((Blk.new' _ _ _ HN.out).alloc _).alloc _
  · exact (Blk.new' _ _ _ (by rw [HN.out]; simp)).alloc _
  · rw [Tu.rTo_zero]; exact Blk.new' _ _ _ (by rw [HN.out]; simp)
  · exact (((Below.refl _ _).alloc (by rw [HN.out]; exact Nat.le_refl _) _).alloc (by rw [HN.out]; simp) _).alloc (by rw [HN.out]; simp; omega) _
  rintro W0 ⟨b0, b1, b2, hB⟩
  rw [← HN.out]
  go_loopw [6, 7, 8] (fun iv _ _ wr => ∃ v : Nat, v ≤ 8 ∧ iv = .int .i64 v ∧ Blk wr N (ints .i16 xs) 47 ∧ Blk wr (N+1) (ints .i16 (List.replicate 64 0)) 47 ∧ Blk wr (N+2) (ints .i16 (Tu.rTo false false true xs (8 * v))) 47 ∧ Below N w wr) (fun iv _ _ _ => 8 - (intOf iv).toNat)
  case atStart => exact ⟨0, by omega, rfl, b0, b1, b2, hB⟩
  case round =>
    clear b0 b1 b2 hB
    obtain ⟨v, hv, rfl, b0, b1, b2, hB⟩ := hrel
    by_cases hlt : v < 8
    · go_wp2_with fail
      obtain ⟨wo, hwo⟩ : ∃ wo : World, wo = wr := ⟨_, rfl⟩
      subst hwo
      go_loopw [7, 8] (fun iu _ wr => ∃ u : Nat, u ≤ 8 ∧ iu = .int .i64 u ∧ Blk wr N (ints .i16 xs) 47 ∧ Blk wr (N+1) (ints .i16 (List.replicate 64 0)) 47 ∧ Blk wr (N+2) (ints .i16 (Tu.rTo false false true xs (8 * v + u))) 47 ∧ Below N w wr) (fun iu _ _ => 8 - (intOf iu).toNat)
      case atStart => exact ⟨0, by omega, rfl, b0, b1, b2, hB⟩
      case round =>
        clear b0 b1 b2 hB
        obtain ⟨u, hu, rfl, b0, b1, b2, hB⟩ := hrel
        by_cases hlu : u < 8
        · have c0 := (b0.cell (8 * v + u)).trans (ints_get _ _ _ (by omega))
          obtain ⟨y, hy0⟩ : ∃ y, xs.getD (8 * v + u) 0 = y := ⟨_, rfl⟩
          rw [hy0] at c0
          have HY := Lib.hid hy0
          clear hy0
          have c2 := (b2.cell (8 * v + u)).trans (ints_get _ _ _ (by rw [Tu.rTo_len]; omega))
          have f2 := b2.free (8 * v + u)
          by_cases hq : v % 2 = 1
          · have v2 : ((v : Int) % 2 == 1) = true := beq_iff_eq.2 (by omega)
            go_wp2_with fail
            refine ⟨⟨u + 1, by omega, by go_num, b0.other _ _ (by show N ≠ N + 1 + 1; omega), b1.other _ _ (by show N + 1 ≠ N + 1 + 1; omega), ?_, hB.setCell (by show N ≤ N + 1 + 1; omega) _⟩, by simp [intOf]; omega⟩
            have h2 := b2.set (8 * v + u) (.int .i16 (IntKind.i16.wrap (-y)))
            have h3 := Tu.rTo_succ false false true xs (8 * v + u) (by omega)
            rw [show Tu.rco false false true xs (8 * v + u) = IntKind.i16.wrap (-y) from by rw [← HY.out]; simp only [Tu.rco, show (8 * v + u) % 8 = u by omega, show (8 * v + u) / 8 = v by omega]; simp [hq]] at h3
            rw [ints_set, h3] at h2
            exact h2
          · have v2 : ((v : Int) % 2 == 1) = false := beq_eq_false_iff_ne.2 (by omega)
            go_wp2_with fail
            refine ⟨⟨u + 1, by omega, by go_num, b0.other _ _ (by show N ≠ N + 1 + 1; omega), b1.other _ _ (by show N + 1 ≠ N + 1 + 1; omega), ?_, hB.setCell (by show N ≤ N + 1 + 1; omega) _⟩, by simp [intOf]; omega⟩
            have h2 := b2.set (8 * v + u) (.int .i16 (y))
            have h3 := Tu.rTo_succ false false true xs (8 * v + u) (by omega)
            rw [show Tu.rco false false true xs (8 * v + u) = y from by rw [← HY.out]; simp only [Tu.rco, show (8 * v + u) % 8 = u by omega, show (8 * v + u) / 8 = v by omega]; simp [hq]] at h3
            rw [ints_set, h3] at h2
            exact h2
        · obtain rfl : u = 8 := by omega
          go_wp2_with fail
          exact ⟨⟨v + 1, by omega, by go_num, b0, b1, b2, hB⟩, by simp [intOf]; omega⟩
    · obtain rfl : v = 8 := by omega
      go_wp2_with (first | (refine wpList_load_row rfl 47 _ rfl (N + 2) rfl 47 _ _ _ b2 Tryd.underlying47 rfl (by rw [ints_size, Tu.rTo_len]; kernel_rfl) ?_) | (refine wpList_store_row rfl 47 _ _ rfl (N + 1) _ rfl rfl 47 _ b1 (by rw [ints_size, Tu.rTo_len]; kernel_rfl) (by simp [Tu.rTo_len]) (ints_one _ _) ?_))
      refine bodyPost_ret (results_cell_row rfl _ _ (N + 1) 47 _ _ _ rfl (b1.row _) Tryd.underlying47 rfl (by rw [ints_size, Tu.rTo_len]; kernel_rfl)) rfl ⟨rfl, ?_⟩
      exact Below.setRow hB (by omega) _
set_option maxRecDepth 100000 in
set_option maxHeartbeats 4000000 in
theorem rblock_010 (k : Int) (h0 : 0 ≤ k) (h7 : k ≤ 7) (hs : k < 4) (ha : k % 2 = 1) (hd : k / 2 % 2 ≠ 1) (xs : List Int) (hx : xs.length = 64) (w : World) :
    Calls Tryd.prog 24 #[.int .i64 k, .agg (ints .i16 xs)] w fun e w' => e = .returned (.agg (ints .i16 (Tu.rTo false true false xs 64))) ∧ Below w.heap.size w w' := by
  have t1 : (k % 2 == 1) = true := beq_iff_eq.2 (by omega)
  have t2 : (k / 2 % 2 == 1) = false := beq_eq_false_iff_ne.2 (by omega)
  clear ha hd
  obtain ⟨N, hN⟩ : ∃ N, N = w.heap.size := ⟨_, rfl⟩
  have HN := Lib.hid hN
  rw [← hN]
  clear hN
  go_enter Tryd.func24, Tryd.ntmps24
  go_wp2_with fail
  refine wp_world (fun W => Blk W N (ints .i16 xs) 47 ∧ Blk W (N+1) (ints .i16 (List.replicate 64 0)) 47 ∧ Blk W (N+2) (ints .i16 (Tu.rTo false true false xs 0)) 47 ∧ Below N w W) ⟨?_, ?_, ?_, ?_⟩ ?_
  · exact ((Blk.new' _ _ _ HN.out).alloc _).alloc _
  · exact (Blk.new' _ _ _ (by rw [HN.out]; simp)).alloc _
  · rw [Tu.rTo_zero]; exact Blk.new' _ _ _ (by rw [HN.out]; simp)
  · exact (((Below.refl _ _).alloc (by rw [HN.out]; exact Nat.le_refl _) _).alloc (by rw [HN.out]; simp) _).alloc (by rw [HN.out]; simp; omega) _
  rintro W0 ⟨b0, b1, b2, hB⟩
  rw [← HN.out]
  go_loopw [6, 7, 8] (fun iv _ _ wr => ∃ v : Nat, v ≤ 8 ∧ iv = .int .i64 v ∧ Blk wr N (ints .i16 xs) 47 ∧ Blk wr (N+1) (ints .i16 (List.replicate 64 0)) 47 ∧ Blk wr (N+2) (ints .i16 (Tu.rTo false true false xs (8 * v))) 47 ∧ Below N w wr) (fun iv _ _ _ => 8 - (intOf iv).toNat)
  case atStart => exact ⟨0, by omega, rfl, b0, b1, b2, hB⟩
  case round =>
    clear b0 b1 b2 hB
    obtain ⟨v, hv, rfl, b0, b1, b2, hB⟩ := hrel
    by_cases hlt : v < 8
    · go_wp2_with fail
      obtain ⟨wo, hwo⟩ : ∃ wo : World, wo = wr := ⟨_, rfl⟩
      subst hwo
      go_loopw [7, 8] (fun iu _ wr => ∃ u : Nat, u ≤ 8 ∧ iu = .int .i64 u ∧ Blk wr N (ints .i16 xs) 47 ∧ Blk wr (N+1) (ints .i16 (List.replicate 64 0)) 47 ∧ Blk wr (N+2) (ints .i16 (Tu.rTo false true false xs (8 * v + u))) 47 ∧ Below N w wr) (fun iu _ _ => 8 - (intOf iu).toNat)
      case atStart => exact ⟨0, by omega, rfl, b0, b1, b2, hB⟩
      case round =>
        clear b0 b1 b2 hB
        obtain ⟨u, hu, rfl, b0, b1, b2, hB⟩ := hrel
        by_cases hlu : u < 8
        · have c0 := (b0.cell (8 * v + u)).trans (ints_get _ _ _ (by omega))
          obtain ⟨y, hy0⟩ : ∃ y, xs.getD (8 * v + u) 0 = y := ⟨_, rfl⟩
          rw [hy0] at c0
          have HY := Lib.hid hy0
          clear hy0
          have c2 := (b2.cell (8 * v + u)).trans (ints_get _ _ _ (by rw [Tu.rTo_len]; omega))
          have f2 := b2.free (8 * v + u)
          by_cases hp : u % 2 = 1
          · have v1 : ((u : Int) % 2 == 1) = true := beq_iff_eq.2 (by omega)
            go_wp2_with fail
            refine ⟨⟨u + 1, by omega, by go_num, b0.other _ _ (by show N ≠ N + 1 + 1; omega), b1.other _ _ (by show N + 1 ≠ N + 1 + 1; omega), ?_, hB.setCell (by show N ≤ N + 1 + 1; omega) _⟩, by simp [intOf]; omega⟩
            have h2 := b2.set (8 * v + u) (.int .i16 (IntKind.i16.wrap (-y)))
            have h3 := Tu.rTo_succ false true false xs (8 * v + u) (by omega)
            rw [show Tu.rco false true false xs (8 * v + u) = IntKind.i16.wrap (-y) from by rw [← HY.out]; simp only [Tu.rco, show (8 * v + u) % 8 = u by omega, show (8 * v + u) / 8 = v by omega]; simp [hp]] at h3
            rw [ints_set, h3] at h2
            exact h2
          · have v1 : ((u : Int) % 2 == 1) = false := beq_eq_false_iff_ne.2 (by omega)
            go_wp2_with fail
            refine ⟨⟨u + 1, by omega, by go_num, b0.other _ _ (by show N ≠ N + 1 + 1; omega), b1.other _ _ (by show N + 1 ≠ N + 1 + 1; omega), ?_, hB.setCell (by show N ≤ N + 1 + 1; omega) _⟩, by simp [intOf]; omega⟩
            have h2 := b2.set (8 * v + u) (.int .i16 (y))
            have h3 := Tu.rTo_succ false true false xs (8 * v + u) (by omega)
            rw [show Tu.rco false true false xs (8 * v + u) = y from by rw [← HY.out]; simp only [Tu.rco, show (8 * v + u) % 8 = u by omega, show (8 * v + u) / 8 = v by omega]; simp [hp]] at h3
            rw [ints_set, h3] at h2
            exact h2
        · obtain rfl : u = 8 := by omega
          go_wp2_with fail
          exact ⟨⟨v + 1, by omega, by go_num, b0, b1, b2, hB⟩, by simp [intOf]; omega⟩
    · obtain rfl : v = 8 := by omega
      go_wp2_with (first | (refine wpList_load_row rfl 47 _ rfl (N + 2) rfl 47 _ _ _ b2 Tryd.underlying47 rfl (by rw [ints_size, Tu.rTo_len]; kernel_rfl) ?_) | (refine wpList_store_row rfl 47 _ _ rfl (N + 1) _ rfl rfl 47 _ b1 (by rw [ints_size, Tu.rTo_len]; kernel_rfl) (by simp [Tu.rTo_len]) (ints_one _ _) ?_))
      refine bodyPost_ret (results_cell_row rfl _ _ (N + 1) 47 _ _ _ rfl (b1.row _) Tryd.underlying47 rfl (by rw [ints_size, Tu.rTo_len]; kernel_rfl)) rfl ⟨rfl, ?_⟩
      exact Below.setRow hB (by omega) _
set_option maxRecDepth 100000 in
set_option maxHeartbeats 4000000 in
theorem rblock_011 (k : Int) (h0 : 0 ≤ k) (h7 : k ≤ 7) (hs : k < 4) (ha : k % 2 = 1) (hd : k / 2 % 2 = 1) (xs : List Int) (hx : xs.length = 64) (w : World) :
    Calls Tryd.prog 24 #[.int .i64 k, .agg (ints .i16 xs)] w fun e w' => e = .returned (.agg (ints .i16 (Tu.rTo false true true xs 64))) ∧ Below w.heap.size w w' := by
  have t1 : (k % 2 == 1) = true := beq_iff_eq.2 (by omega)
  have t2 : (k / 2 % 2 == 1) = true := beq_iff_eq.2 (by omega)
  clear ha hd
  obtain ⟨N, hN⟩ : ∃ N, N = w.heap.size := ⟨_, rfl⟩
  have HN := Lib.hid hN
  rw [← hN]
  clear hN
  go_enter Tryd.func24, Tryd.ntmps24
  go_wp2_with fail
  refine wp_world (fun W => Blk W N (ints .i16 xs) 47 ∧ Blk W (N+1) (ints .i16 (List.replicate 64 0)) 47 ∧ Blk W (N+2) (ints .i16 (Tu.rTo false true true xs 0)) 47 ∧ Below N w W) ⟨?_, ?_, ?_, ?_⟩ ?_
  · exact ((Blk.new' _ _ _ HN.out).alloc _).alloc _
  · exact (Blk.new' _ _ _ (by rw [HN.out]; simp)).alloc _
  · rw [Tu.rTo_zero]; exact Blk.new' _ _ _ (by rw [HN.out]; simp)
  · exact (((Below.refl _ _).alloc (by rw [HN.out]; exact Nat.le_refl _) _).alloc (by rw [HN.out]; simp) _).alloc (by rw [HN.out]; simp; omega) _
  rintro W0 ⟨b0, b1, b2, hB⟩
  rw [← HN.out]
  go_loopw [6, 7, 8] (fun iv _ _ wr => ∃ v : Nat, v ≤ 8 ∧ iv = .int .i64 v ∧ Blk wr N (ints .i16 xs) 47 ∧ Blk wr (N+1) (ints .i16 (List.replicate 64 0)) 47 ∧ Blk wr (N+2) (ints .i16 (Tu.rTo false true true xs (8 * v))) 47 ∧ Below N w wr) (fun iv _ _ _ => 8 - (intOf iv).toNat)
  case atStart => exact ⟨0, by omega, rfl, b0, b1, b2, hB⟩
  case round =>
    clear b0 b1 b2 hB
    obtain ⟨v, hv, rfl, b0, b1, b2, hB⟩ := hrel
    by_cases hlt : v < 8
    · go_wp2_with fail
      obtain ⟨wo, hwo⟩ : ∃ wo : World, wo = wr := ⟨_, rfl⟩
      subst hwo
      go_loopw [7, 8] (fun iu _ wr => ∃ u : Nat, u ≤ 8 ∧ iu = .int .i64 u ∧ Blk wr N (ints .i16 xs) 47 ∧ Blk wr (N+1) (ints .i16 (List.replicate 64 0)) 47 ∧ Blk wr (N+2) (ints .i16 (Tu.rTo false true true xs (8 * v + u))) 47 ∧ Below N w wr) (fun iu _ _ => 8 - (intOf iu).toNat)
      case atStart => exact ⟨0, by omega, rfl, b0, b1, b2, hB⟩
      case round =>
        clear b0 b1 b2 hB
        obtain ⟨u, hu, rfl, b0, b1, b2, hB⟩ := hrel
        by_cases hlu : u < 8
        · have c0 := (b0.cell (8 * v + u)).trans (ints_get _ _ _ (by omega))
          obtain ⟨y, hy0⟩ : ∃ y, xs.getD (8 * v + u) 0 = y := ⟨_, rfl⟩
          rw [hy0] at c0
          have HY := Lib.hid hy0
          clear hy0
          have c2 := (b2.cell (8 * v + u)).trans (ints_get _ _ _ (by rw [Tu.rTo_len]; omega))
          have f2 := b2.free (8 * v + u)
          by_cases hp : u % 2 = 1
          · have v1 : ((u : Int) % 2 == 1) = true := beq_iff_eq.2 (by omega)
            by_cases hq : v % 2 = 1
            · have v2 : ((v : Int) % 2 == 1) = true := beq_iff_eq.2 (by omega)
              go_wp2_with fail
              refine ⟨⟨u + 1, by omega, by go_num, b0.other _ _ (by show N ≠ N + 1 + 1; omega), b1.other _ _ (by show N + 1 ≠ N + 1 + 1; omega), ?_, hB.setCell (by show N ≤ N + 1 + 1; omega) _⟩, by simp [intOf]; omega⟩
              have h2 := b2.set (8 * v + u) (.int .i16 (IntKind.i16.wrap (-(IntKind.i16.wrap (-y)))))
              have h3 := Tu.rTo_succ false true true xs (8 * v + u) (by omega)
              rw [show Tu.rco false true true xs (8 * v + u) = IntKind.i16.wrap (-(IntKind.i16.wrap (-y))) from by rw [← HY.out]; simp only [Tu.rco, show (8 * v + u) % 8 = u by omega, show (8 * v + u) / 8 = v by omega]; simp [hp, hq]] at h3
              rw [ints_set, h3] at h2
              exact h2
            · have v2 : ((v : Int) % 2 == 1) = false := beq_eq_false_iff_ne.2 (by omega)
              go_wp2_with fail
              refine ⟨⟨u + 1, by omega, by go_num, b0.other _ _ (by show N ≠ N + 1 + 1; omega), b1.other _ _ (by show N + 1 ≠ N + 1 + 1; omega), ?_, hB.setCell (by show N ≤ N + 1 + 1; omega) _⟩, by simp [intOf]; omega⟩
              have h2 := b2.set (8 * v + u) (.int .i16 (IntKind.i16.wrap (-y)))
              have h3 := Tu.rTo_succ false true true xs (8 * v + u) (by omega)
              rw [show Tu.rco false true true xs (8 * v + u) = IntKind.i16.wrap (-y) from by rw [← HY.out]; simp only [Tu.rco, show (8 * v + u) % 8 = u by omega, show (8 * v + u) / 8 = v by omega]; simp [hp, hq]] at h3
              rw [ints_set, h3] at h2
              exact h2
          · have v1 : ((u : Int) % 2 == 1) = false := beq_eq_false_iff_ne.2 (by omega)
            by_cases hq : v % 2 = 1
            · have v2 : ((v : Int) % 2 == 1) = true := beq_iff_eq.2 (by omega)
              go_wp2_with fail
              refine ⟨⟨u + 1, by omega, by go_num, b0.other _ _ (by show N ≠ N + 1 + 1; omega), b1.other _ _ (by show N + 1 ≠ N + 1 + 1; omega), ?_, hB.setCell (by show N ≤ N + 1 + 1; omega) _⟩, by simp [intOf]; omega⟩
              have h2 := b2.set (8 * v + u) (.int .i16 (IntKind.i16.wrap (-y)))
              have h3 := Tu.rTo_succ false true true xs (8 * v + u) (by omega)
              rw [show Tu.rco false true true xs (8 * v + u) = IntKind.i16.wrap (-y) from by rw [← HY.out]; simp only [Tu.rco, show (8 * v + u) % 8 = u by omega, show (8 * v + u) / 8 = v by omega]; simp [hp, hq]] at h3
              rw [ints_set, h3] at h2
              exact h2
            · have v2 : ((v : Int) % 2 == 1) = false := beq_eq_false_iff_ne.2 (by omega)
              go_wp2_with fail
              refine ⟨⟨u + 1, by omega, by go_num, b0.other _ _ (by show N ≠ N + 1 + 1; omega), b1.other _ _ (by show N + 1 ≠ N + 1 + 1; omega), ?_, hB.setCell (by show N ≤ N + 1 + 1; omega) _⟩, by simp [intOf]; omega⟩
              have h2 := b2.set (8 * v + u) (.int .i16 (y))
              have h3 := Tu.rTo_succ false true true xs (8 * v + u) (by omega)
              rw [show Tu.rco false true true xs (8 * v + u) = y from by rw [← HY.out]; simp only [Tu.rco, show (8 * v + u) % 8 = u by omega, show (8 * v + u) / 8 = v by omega]; simp [hp, hq]] at h3
              rw [ints_set, h3] at h2
              exact h2
        · obtain rfl : u = 8 := by omega
          go_wp2_with fail
          exact ⟨⟨v + 1, by omega, by go_num, b0, b1, b2, hB⟩, by simp [intOf]; omega⟩
    · obtain rfl : v = 8 := by omega
      go_wp2_with (first | (refine wpList_load_row rfl 47 _ rfl (N + 2) rfl 47 _ _ _ b2 Tryd.underlying47 rfl (by rw [ints_size, Tu.rTo_len]; kernel_rfl) ?_) | (refine wpList_store_row rfl 47 _ _ rfl (N + 1) _ rfl rfl 47 _ b1 (by rw [ints_size, Tu.rTo_len]; kernel_rfl) (by simp [Tu.rTo_len]) (ints_one _ _) ?_))
      refine bodyPost_ret (results_cell_row rfl _ _ (N + 1) 47 _ _ _ rfl (b1.row _) Tryd.underlying47 rfl (by rw [ints_size, Tu.rTo_len]; kernel_rfl)) rfl ⟨rfl, ?_⟩
      exact Below.setRow hB (by omega) _
set_option maxRecDepth 100000 in
set_option maxHeartbeats 4000000 in
theorem rblock_100 (k : Int) (h0 : 0 ≤ k) (h7 : k ≤ 7) (hs : 4 ≤ k) (ha : k % 2 ≠ 1) (hd : k / 2 % 2 ≠ 1) (xs : List Int) (hx : xs.length = 64) (w : World) :
    Calls Tryd.prog 24 #[.int .i64 k, .agg (ints .i16 xs)] w fun e w' => e = .returned (.agg (ints .i16 (Tu.rTo true false false xs 64))) ∧ Below w.heap.size w w' := by
  have t1 : (k % 2 == 1) = false := beq_eq_false_iff_ne.2 (by omega)
  have t2 : (k / 2 % 2 == 1) = false := beq_eq_false_iff_ne.2 (by omega)
  clear ha hd
  obtain ⟨N, hN⟩ : ∃ N, N = w.heap.size := ⟨_, rfl⟩
  have HN := Lib.hid hN
  rw [← hN]
  clear hN
  go_enter Tryd.func24, Tryd.ntmps24
  go_wp2_with fail
  refine wp_world (fun W => Blk W N (ints .i16 xs) 47 ∧ Blk W (N+1) (ints .i16 (List.replicate 64 0)) 47 ∧ Blk W (N+2) (ints .i16 (Tu.rTo true false false xs 0)) 47 ∧ Below N w W) ⟨?_, ?_, ?_, ?_⟩ ?_
  · exact ((Blk.new' _ _ _ HN.out).alloc _).alloc _
  · exact (Blk.new' _ _ _ (by rw [HN.out]; simp)).alloc _
  · rw [Tu.rTo_zero]; exact Blk.new' _ _ _ (by rw [HN.out]; simp)
  · exact (((Below.refl _ _).alloc (by rw [HN.out]; exact Nat.le_refl _) _).alloc (by rw [HN.out]; simp) _).alloc (by rw [HN.out]; simp; omega) _
  rintro W0 ⟨b0, b1, b2, hB⟩
  rw [← HN.out]
  go_loopw [6, 7, 8] (fun iv _ _ wr => ∃ v : Nat, v ≤ 8 ∧ iv = .int .i64 v ∧ Blk wr N (ints .i16 xs) 47 ∧ Blk wr (N+1) (ints .i16 (List.replicate 64 0)) 47 ∧ Blk wr (N+2) (ints .i16 (Tu.rTo true false false xs (8 * v))) 47 ∧ Below N w wr) (fun iv _ _ _ => 8 - (intOf iv).toNat)
  case atStart => exact ⟨0, by omega, rfl, b0, b1, b2, hB⟩
  case round =>
    clear b0 b1 b2 hB
    obtain ⟨v, hv, rfl, b0, b1, b2, hB⟩ := hrel
    by_cases hlt : v < 8
    · go_wp2_with fail
      obtain ⟨wo, hwo⟩ : ∃ wo : World, wo = wr := ⟨_, rfl⟩
      subst hwo
      go_loopw [7, 8] (fun iu _ wr => ∃ u : Nat, u ≤ 8 ∧ iu = .int .i64 u ∧ Blk wr N (ints .i16 xs) 47 ∧ Blk wr (N+1) (ints .i16 (List.replicate 64 0)) 47 ∧ Blk wr (N+2) (ints .i16 (Tu.rTo true false false xs (8 * v + u))) 47 ∧ Below N w wr) (fun iu _ _ => 8 - (intOf iu).toNat)
      case atStart => exact ⟨0, by omega, rfl, b0, b1, b2, hB⟩
      case round =>
        clear b0 b1 b2 hB
        obtain ⟨u, hu, rfl, b0, b1, b2, hB⟩ := hrel
        by_cases hlu : u < 8
        · have c0 := (b0.cell (8 * v + u)).trans (ints_get _ _ _ (by omega))
          obtain ⟨y, hy0⟩ : ∃ y, xs.getD (8 * v + u) 0 = y := ⟨_, rfl⟩
          rw [hy0] at c0
          have HY := Lib.hid hy0
          clear hy0
          have c1 := (b0.cell (8 * u + v)).trans (ints_get _ _ _ (by omega))
          obtain ⟨x, hx0⟩ : ∃ x, xs.getD (8 * u + v) 0 = x := ⟨_, rfl⟩
          rw [hx0] at c1
          have HX := Lib.hid hx0
          clear hx0
          have c2 := (b2.cell (8 * v + u)).trans (ints_get _ _ _ (by rw [Tu.rTo_len]; omega))
          have f2 := b2.free (8 * v + u)
          go_wp2_with fail
          refine ⟨⟨u + 1, by omega, by go_num, b0.other _ _ (by show N ≠ N + 1 + 1; omega), b1.other _ _ (by show N + 1 ≠ N + 1 + 1; omega), ?_, hB.setCell (by show N ≤ N + 1 + 1; omega) _⟩, by simp [intOf]; omega⟩
          have h2 := b2.set (8 * v + u) (.int .i16 (x))
          have h3 := Tu.rTo_succ true false false xs (8 * v + u) (by omega)
          rw [show Tu.rco true false false xs (8 * v + u) = x from by rw [← HX.out]; simp only [Tu.rco, show (8 * v + u) % 8 = u by omega, show (8 * v + u) / 8 = v by omega]; simp] at h3
          rw [ints_set, h3] at h2
          exact h2
        · obtain rfl : u = 8 := by omega
          go_wp2_with fail
          exact ⟨⟨v + 1, by omega, by go_num, b0, b1, b2, hB⟩, by simp [intOf]; omega⟩
    · obtain rfl : v = 8 := by omega
      go_wp2_with (first | (refine wpList_load_row rfl 47 _ rfl (N + 2) rfl 47 _ _ _ b2 Tryd.underlying47 rfl (by rw [ints_size, Tu.rTo_len]; kernel_rfl) ?_) | (refine wpList_store_row rfl 47 _ _ rfl (N + 1) _ rfl rfl 47 _ b1 (by rw [ints_size, Tu.rTo_len]; kernel_rfl) (by simp [Tu.rTo_len]) (ints_one _ _) ?_))
      refine bodyPost_ret (results_cell_row rfl _ _ (N + 1) 47 _ _ _ rfl (b1.row _) Tryd.underlying47 rfl (by rw [ints_size, Tu.rTo_len]; kernel_rfl)) rfl ⟨rfl, ?_⟩
      exact Below.setRow hB (by omega) _
set_option maxRecDepth 100000 in
set_option maxHeartbeats 4000000 in
theorem rblock_101 (k : Int) (h0 : 0 ≤ k) (h7 : k ≤ 7) (hs : 4 ≤ k) (ha : k % 2 ≠ 1) (hd : k / 2 % 2 = 1) (xs : List Int) (hx : xs.length = 64) (w : World) :
    Calls Tryd.prog 24 #[.int .i64 k, .agg (ints .i16 xs)] w fun e w' => e = .returned (.agg (ints .i16 (Tu.rTo true false true xs 64))) ∧ Below w.heap.size w w' := by
  have t1 : (k % 2 == 1) = false := beq_eq_false_iff_ne.2 (by omega)
  have t2 : (k / 2 % 2 == 1) = true := beq_iff_eq.2 (by omega)
  clear ha hd
  obtain ⟨N, hN⟩ : ∃ N, N = w.heap.size := ⟨_, rfl⟩
  have HN := Lib.hid hN
  rw [← hN]
  clear hN
  go_enter Tryd.func24, Tryd.ntmps24
  go_wp2_with fail
  refine wp_world (fun W => Blk W N (ints .i16 xs) 47 ∧ Blk W (N+1) (ints .i16 (List.replicate 64 0)) 47 ∧ Blk W (N+2) (ints .i16 (Tu.rTo true false true xs 0)) 47 ∧ Below N w W) ⟨?_, ?_, ?_, ?_⟩ ?_
  · exact ((Blk.new' _ _ _ HN.out).alloc _).alloc _
  · exact (Blk.new' _ _ _ (by rw [HN.out]; simp)).alloc _
  · rw [Tu.rTo_zero]; exact Blk.new' _ _ _ (by rw [HN.out]; simp)
  · exact (((Below.refl _ _).alloc (by rw [HN.out]; exact Nat.le_refl _) _).alloc (by rw [HN.out]; simp) _).alloc (by rw [HN.out]; simp; omega) _
  rintro W0 ⟨b0, b1, b2, hB⟩
  rw [← HN.out]
  go_loopw [6, 7, 8] (fun iv _ _ wr => ∃ v : Nat, v ≤ 8 ∧ iv = .int .i64 v ∧ Blk wr N (ints .i16 xs) 47 ∧ Blk wr (N+1) (ints .i16 (List.replicate 64 0)) 47 ∧ Blk wr (N+2) (ints .i16 (Tu.rTo true false true xs (8 * v))) 47 ∧ Below N w wr) (fun iv _ _ _ => 8 - (intOf iv).toNat)
  case atStart => exact ⟨0, by omega, rfl, b0, b1, b2, hB⟩
  case round =>
    clear b0 b1 b2 hB
    obtain ⟨v, hv, rfl, b0, b1, b2, hB⟩ := hrel
    by_cases hlt : v < 8
    · go_wp2_with fail
      obtain ⟨wo, hwo⟩ : ∃ wo : World, wo = wr := ⟨_, rfl⟩
      subst hwo
      go_loopw [7, 8] (fun iu _ wr => ∃ u : Nat, u ≤ 8 ∧ iu = .int .i64 u ∧ Blk wr N (ints .i16 xs) 47 ∧ Blk wr (N+1) (ints .i16 (List.replicate 64 0)) 47 ∧ Blk wr (N+2) (ints .i16 (Tu.rTo true false true xs (8 * v + u))) 47 ∧ Below N w wr) (fun iu _ _ => 8 - (intOf iu).toNat)
      case atStart => exact ⟨0, by omega, rfl, b0, b1, b2, hB⟩
      case round =>
        clear b0 b1 b2 hB
        obtain ⟨u, hu, rfl, b0, b1, b2, hB⟩ := hrel
        by_cases hlu : u < 8
        · have c0 := (b0.cell (8 * v + u)).trans (ints_get _ _ _ (by omega))
          obtain ⟨y, hy0⟩ : ∃ y, xs.getD (8 * v + u) 0 = y := ⟨_, rfl⟩
          rw [hy0] at c0
          have HY := Lib.hid hy0
          clear hy0
          have c1 := (b0.cell (8 * u + v)).trans (ints_get _ _ _ (by omega))
          obtain ⟨x, hx0⟩ : ∃ x, xs.getD (8 * u + v) 0 = x := ⟨_, rfl⟩
          rw [hx0] at c1
          have HX := Lib.hid hx0
          clear hx0
          have c2 := (b2.cell (8 * v + u)).trans (ints_get _ _ _ (by rw [Tu.rTo_len]; omega))
          have f2 := b2.free (8 * v + u)
          by_cases hq : v % 2 = 1
          · have v2 : ((v : Int) % 2 == 1) = true := beq_iff_eq.2 (by omega)
            go_wp2_with fail
            refine ⟨⟨u + 1, by omega, by go_num, b0.other _ _ (by show N ≠ N + 1 + 1; omega), b1.other _ _ (by show N + 1 ≠ N + 1 + 1; omega), ?_, hB.setCell (by show N ≤ N + 1 + 1; omega) _⟩, by simp [intOf]; omega⟩
            have h2 := b2.set (8 * v + u) (.int .i16 (IntKind.i16.wrap (-x)))
            have h3 := Tu.rTo_succ true false true xs (8 * v + u) (by omega)
            rw [show Tu.rco true false true xs (8 * v + u) = IntKind.i16.wrap (-x) from by rw [← HX.out]; simp only [Tu.rco, show (8 * v + u) % 8 = u by omega, show (8 * v + u) / 8 = v by omega]; simp [hq]] at h3
            rw [ints_set, h3] at h2
            exact h2
          · have v2 : ((v : Int) % 2 == 1) = false := beq_eq_false_iff_ne.2 (by omega)
            go_wp2_with fail
            refine ⟨⟨u + 1, by omega, by go_num, b0.other _ _ (by show N ≠ N + 1 + 1; omega), b1.other _ _ (by show N + 1 ≠ N + 1 + 1; omega), ?_, hB.setCell (by show N ≤ N + 1 + 1; omega) _⟩, by simp [intOf]; omega⟩
            have h2 := b2.set (8 * v + u) (.int .i16 (x))
            have h3 := Tu.rTo_succ true false true xs (8 * v + u) (by omega)
            rw [show Tu.rco true false true xs (8 * v + u) = x from by rw [← HX.out]; simp only [Tu.rco, show (8 * v + u) % 8 = u by omega, show (8 * v + u) / 8 = v by omega]; simp [hq]] at h3
            rw [ints_set, h3] at h2
            exact h2
        · obtain rfl : u = 8 := by omega
          go_wp2_with fail
          exact ⟨⟨v + 1, by omega, by go_num, b0, b1, b2, hB⟩, by simp [intOf]; omega⟩
    · obtain rfl : v = 8 := by omega
      go_wp2_with (first | (refine wpList_load_row rfl 47 _ rfl (N + 2) rfl 47 _ _ _ b2 Tryd.underlying47 rfl (by rw [ints_size, Tu.rTo_len]; kernel_rfl) ?_) | (refine wpList_store_row rfl 47 _ _ rfl (N + 1) _ rfl rfl 47 _ b1 (by rw [ints_size, Tu.rTo_len]; kernel_rfl) (by simp [Tu.rTo_len]) (ints_one _ _) ?_))
      refine bodyPost_ret (results_cell_row rfl _ _ (N + 1) 47 _ _ _ rfl (b1.row _) Tryd.underlying47 rfl (by rw [ints_size, Tu.rTo_len]; kernel_rfl)) rfl ⟨rfl, ?_⟩
      exact Below.setRow hB (by omega) _
set_option maxRecDepth 100000 in
set_option maxHeartbeats 4000000 in
theorem rblock_110 (k : Int) (h0 : 0 ≤ k) (h7 : k ≤ 7) (hs : 4 ≤ k) (ha : k % 2 = 1) (hd : k / 2 % 2 ≠ 1) (xs : List Int) (hx : xs.length = 64) (w : World) :
    Calls Tryd.prog 24 #[.int .i64 k, .agg (ints .i16 xs)] w fun e w' => e = .returned (.agg (ints .i16 (Tu.rTo true true false xs 64))) ∧ Below w.heap.size w w' := by
  have t1 : (k % 2 == 1) = true := beq_iff_eq.2 (by omega)
  have t2 : (k / 2 % 2 == 1) = false := beq_eq_false_iff_ne.2 (by omega)
  clear ha hd
  obtain ⟨N, hN⟩ : ∃ N, N = w.heap.size := ⟨_, rfl⟩
  have HN := Lib.hid hN
  rw [← hN]
  clear hN
  go_enter Tryd.func24, Tryd.ntmps24
  go_wp2_with fail
  refine wp_world (fun W => Blk W N (ints .i16 xs) 47 ∧ Blk W (N+1) (ints .i16 (List.replicate 64 0)) 47 ∧ Blk W (N+2) (ints .i16 (Tu.rTo true true false xs 0)) 47 ∧ Below N w W) ⟨?_, ?_, ?_, ?_⟩ ?_
  · exact ((Blk.new' _ _ _ HN.out).alloc _).alloc _
  · exact (Blk.new' _ _ _ (by rw [HN.out]; simp)).alloc _
  · rw [Tu.rTo_zero]; exact Blk.new' _ _ _ (by rw [HN.out]; simp)
  · exact (((Below.refl _ _).alloc (by rw [HN.out]; exact Nat.le_refl _) _).alloc (by rw [HN.out]; simp) _).alloc (by rw [HN.out]; simp; omega) _
  rintro W0 ⟨b0, b1, b2, hB⟩
  rw [← HN.out]
  go_loopw [6, 7, 8] (fun iv _ _ wr => ∃ v : Nat, v ≤ 8 ∧ iv = .int .i64 v ∧ Blk wr N (ints .i16 xs) 47 ∧ Blk wr (N+1) (ints .i16 (List.replicate 64 0)) 47 ∧ Blk wr (N+2) (ints .i16 (Tu.rTo true true false xs (8 * v))) 47 ∧ Below N w wr) (fun iv _ _ _ => 8 - (intOf iv).toNat)
  case atStart => exact ⟨0, by omega, rfl, b0, b1, b2, hB⟩
  case round =>
    clear b0 b1 b2 hB
    obtain ⟨v, hv, rfl, b0, b1, b2, hB⟩ := hrel
    by_cases hlt : v < 8
    · go_wp2_with fail
      obtain ⟨wo, hwo⟩ : ∃ wo : World, wo = wr := ⟨_, rfl⟩
      subst hwo
      go_loopw [7, 8] (fun iu _ wr => ∃ u : Nat, u ≤ 8 ∧ iu = .int .i64 u ∧ Blk wr N (ints .i16 xs) 47 ∧ Blk wr (N+1) (ints .i16 (List.replicate 64 0)) 47 ∧ Blk wr (N+2) (ints .i16 (Tu.rTo true true false xs (8 * v + u))) 47 ∧ Below N w wr) (fun iu _ _ => 8 - (intOf iu).toNat)
      case atStart => exact ⟨0, by omega, rfl, b0, b1, b2, hB⟩
      case round =>
        clear b0 b1 b2 hB
        obtain ⟨u, hu, rfl, b0, b1, b2, hB⟩ := hrel
        by_cases hlu : u < 8
        · have c0 := (b0.cell (8 * v + u)).trans (ints_get _ _ _ (by omega))
          obtain ⟨y, hy0⟩ : ∃ y, xs.getD (8 * v + u) 0 = y := ⟨_, rfl⟩
          rw [hy0] at c0
          have HY := Lib.hid hy0
          clear hy0
          have c1 := (b0.cell (8 * u + v)).trans (ints_get _ _ _ (by omega))
          obtain ⟨x, hx0⟩ : ∃ x, xs.getD (8 * u + v) 0 = x := ⟨_, rfl⟩
          rw [hx0] at c1
          have HX := Lib.hid hx0
          clear hx0
          have c2 := (b2.cell (8 * v + u)).trans (ints_get _ _ _ (by rw [Tu.rTo_len]; omega))
          have f2 := b2.free (8 * v + u)
          by_cases hp : u % 2 = 1
          · have v1 : ((u : Int) % 2 == 1) = true := beq_iff_eq.2 (by omega)
            go_wp2_with fail
            refine ⟨⟨u + 1, by omega, by go_num, b0.other _ _ (by show N ≠ N + 1 + 1; omega), b1.other _ _ (by show N + 1 ≠ N + 1 + 1; omega), ?_, hB.setCell (by show N ≤ N + 1 + 1; omega) _⟩, by simp [intOf]; omega⟩
            have h2 := b2.set (8 * v + u) (.int .i16 (IntKind.i16.wrap (-x)))
            have h3 := Tu.rTo_succ true true false xs (8 * v + u) (by omega)
            rw [show Tu.rco true true false xs (8 * v + u) = IntKind.i16.wrap (-x) from by rw [← HX.out]; simp only [Tu.rco, show (8 * v + u) % 8 = u by omega, show (8 * v + u) / 8 = v by omega]; simp [hp]] at h3
            rw [ints_set, h3] at h2
            exact h2
          · have v1 : ((u : Int) % 2 == 1) = false := beq_eq_false_iff_ne.2 (by omega)
            go_wp2_with fail
            refine ⟨⟨u + 1, by omega, by go_num, b0.other _ _ (by show N ≠ N + 1 + 1; omega), b1.other _ _ (by show N + 1 ≠ N + 1 + 1; omega), ?_, hB.setCell (by show N ≤ N + 1 + 1; omega) _⟩, by simp [intOf]; omega⟩
            have h2 := b2.set (8 * v + u) (.int .i16 (x))
            have h3 := Tu.rTo_succ true true false xs (8 * v + u) (by omega)
            rw [show Tu.rco true true false xs (8 * v + u) = x from by rw [← HX.out]; simp only [Tu.rco, show (8 * v + u) % 8 = u by omega, show (8 * v + u) / 8 = v by omega]; simp [hp]] at h3
            rw [ints_set, h3] at h2
            exact h2
        · obtain rfl : u = 8 := by omega
          go_wp2_with fail
          exact ⟨⟨v + 1, by omega, by go_num, b0, b1, b2, hB⟩, by simp [intOf]; omega⟩
    · obtain rfl : v = 8 := by omega
      go_wp2_with (first | (refine wpList_load_row rfl 47 _ rfl (N + 2) rfl 47 _ _ _ b2 Tryd.underlying47 rfl (by rw [ints_size, Tu.rTo_len]; kernel_rfl) ?_) | (refine wpList_store_row rfl 47 _ _ rfl (N + 1) _ rfl rfl 47 _ b1 (by rw [ints_size, Tu.rTo_len]; kernel_rfl) (by simp [Tu.rTo_len]) (ints_one _ _) ?_))
      refine bodyPost_ret (results_cell_row rfl _ _ (N + 1) 47 _ _ _ rfl (b1.row _) Tryd.underlying47 rfl (by rw [ints_size, Tu.rTo_len]; kernel_rfl)) rfl ⟨rfl, ?_⟩
      exact Below.setRow hB (by omega) _
set_option maxRecDepth 100000 in
set_option maxHeartbeats 4000000 in
theorem rblock_111 (k : Int) (h0 : 0 ≤ k) (h7 : k ≤ 7) (hs : 4 ≤ k) (ha : k % 2 = 1) (hd : k / 2 % 2 = 1) (xs : List Int) (hx : xs.length = 64) (w : World) :
    Calls Tryd.prog 24 #[.int .i64 k, .agg (ints .i16 xs)] w fun e w' => e = .returned (.agg (ints .i16 (Tu.rTo true true true xs 64))) ∧ Below w.heap.size w w' := by
  have t1 : (k % 2 == 1) = true := beq_iff_eq.2 (by omega)
  have t2 : (k / 2 % 2 == 1) = true := beq_iff_eq.2 (by omega)
  clear ha hd
  obtain ⟨N, hN⟩ : ∃ N, N = w.heap.size := ⟨_, rfl⟩
  have HN := Lib.hid hN
  rw [← hN]
  clear hN
  go_enter Tryd.func24, Tryd.ntmps24
  go_wp2_with fail
  refine wp_world (fun W => Blk W N (ints .i16 xs) 47 ∧ Blk W (N+1) (ints .i16 (List.replicate 64 0)) 47 ∧ Blk W (N+2) (ints .i16 (Tu.rTo true true true xs 0)) 47 ∧ Below N w W) ⟨?_, ?_, ?_, ?_⟩ ?_
  · exact ((Blk.new' _ _ _ HN.out).alloc _).alloc _
  · exact (Blk.new' _ _ _ (by rw [HN.out]; simp)).alloc _
  · rw [Tu.rTo_zero]; exact Blk.new' _ _ _ (by rw [HN.out]; simp)
  · exact (((Below.refl _ _).alloc (by rw [HN.out]; exact Nat.le_refl _) _).alloc (by rw [HN.out]; simp) _).alloc (by rw [HN.out]; simp; omega) _
  rintro W0 ⟨b0, b1, b2, hB⟩
  rw [← HN.out]
  go_loopw [6, 7, 8] (fun iv _ _ wr => ∃ v : Nat, v ≤ 8 ∧ iv = .int .i64 v ∧ Blk wr N (ints .i16 xs) 47 ∧ Blk wr (N+1) (ints .i16 (List.replicate 64 0)) 47 ∧ Blk wr (N+2) (ints .i16 (Tu.rTo true true true xs (8 * v))) 47 ∧ Below N w wr) (fun iv _ _ _ => 8 - (intOf iv).toNat)
  case atStart => exact ⟨0, by omega, rfl, b0, b1, b2, hB⟩
  case round =>
    clear b0 b1 b2 hB
    obtain ⟨v, hv, rfl, b0, b1, b2, hB⟩ := hrel
    by_cases hlt : v < 8
    · go_wp2_with fail
      obtain ⟨wo, hwo⟩ : ∃ wo : World, wo = wr := ⟨_, rfl⟩
      subst hwo
      go_loopw [7, 8] (fun iu _ wr => ∃ u : Nat, u ≤ 8 ∧ iu = .int .i64 u ∧ Blk wr N (ints .i16 xs) 47 ∧ Blk wr (N+1) (ints .i16 (List.replicate 64 0)) 47 ∧ Blk wr (N+2) (ints .i16 (Tu.rTo true true true xs (8 * v + u))) 47 ∧ Below N w wr) (fun iu _ _ => 8 - (intOf iu).toNat)
      case atStart => exact ⟨0, by omega, rfl, b0, b1, b2, hB⟩
      case round =>
        clear b0 b1 b2 hB
        obtain ⟨u, hu, rfl, b0, b1, b2, hB⟩ := hrel
        by_cases hlu : u < 8
        · have c0 := (b0.cell (8 * v + u)).trans (ints_get _ _ _ (by omega))
          obtain ⟨y, hy0⟩ : ∃ y, xs.getD (8 * v + u) 0 = y := ⟨_, rfl⟩
          rw [hy0] at c0
          have HY := Lib.hid hy0
          clear hy0
          have c1 := (b0.cell (8 * u + v)).trans (ints_get _ _ _ (by omega))
          obtain ⟨x, hx0⟩ : ∃ x, xs.getD (8 * u + v) 0 = x := ⟨_, rfl⟩
          rw [hx0] at c1
          have HX := Lib.hid hx0
          clear hx0
          have c2 := (b2.cell (8 * v + u)).trans (ints_get _ _ _ (by rw [Tu.rTo_len]; omega))
          have f2 := b2.free (8 * v + u)
          by_cases hp : u % 2 = 1
          · have v1 : ((u : Int) % 2 == 1) = true := beq_iff_eq.2 (by omega)
            by_cases hq : v % 2 = 1
            · have v2 : ((v : Int) % 2 == 1) = true := beq_iff_eq.2 (by omega)
              go_wp2_with fail
              refine ⟨⟨u + 1, by omega, by go_num, b0.other _ _ (by show N ≠ N + 1 + 1; omega), b1.other _ _ (by show N + 1 ≠ N + 1 + 1; omega), ?_, hB.setCell (by show N ≤ N + 1 + 1; omega) _⟩, by simp [intOf]; omega⟩
              have h2 := b2.set (8 * v + u) (.int .i16 (IntKind.i16.wrap (-(IntKind.i16.wrap (-x)))))
              have h3 := Tu.rTo_succ true true true xs (8 * v + u) (by omega)
              rw [show Tu.rco true true true xs (8 * v + u) = IntKind.i16.wrap (-(IntKind.i16.wrap (-x))) from by rw [← HX.out]; simp only [Tu.rco, show (8 * v + u) % 8 = u by omega, show (8 * v + u) / 8 = v by omega]; simp [hp, hq]] at h3
              rw [ints_set, h3] at h2
              exact h2
            · have v2 : ((v : Int) % 2 == 1) = false := beq_eq_false_iff_ne.2 (by omega)
              go_wp2_with fail
              refine ⟨⟨u + 1, by omega, by go_num, b0.other _ _ (by show N ≠ N + 1 + 1; omega), b1.other _ _ (by show N + 1 ≠ N + 1 + 1; omega), ?_, hB.setCell (by show N ≤ N + 1 + 1; omega) _⟩, by simp [intOf]; omega⟩
              have h2 := b2.set (8 * v + u) (.int .i16 (IntKind.i16.wrap (-x)))
              have h3 := Tu.rTo_succ true true true xs (8 * v + u) (by omega)
              rw [show Tu.rco true true true xs (8 * v + u) = IntKind.i16.wrap (-x) from by rw [← HX.out]; simp only [Tu.rco, show (8 * v + u) % 8 = u by omega, show (8 * v + u) / 8 = v by omega]; simp [hp, hq]] at h3
              rw [ints_set, h3] at h2
              exact h2
          · have v1 : ((u : Int) % 2 == 1) = false := beq_eq_false_iff_ne.2 (by omega)
            by_cases hq : v % 2 = 1
            · have v2 : ((v : Int) % 2 == 1) = true := beq_iff_eq.2 (by omega)
              go_wp2_with fail
              refine ⟨⟨u + 1, by omega, by go_num, b0.other _ _ (by show N ≠ N + 1 + 1; omega), b1.other _ _ (by show N + 1 ≠ N + 1 + 1; omega), ?_, hB.setCell (by show N ≤ N + 1 + 1; omega) _⟩, by simp [intOf]; omega⟩
              have h2 := b2.set (8 * v + u) (.int .i16 (IntKind.i16.wrap (-x)))
              have h3 := Tu.rTo_succ true true true xs (8 * v + u) (by omega)
              rw [show Tu.rco true true true xs (8 * v + u) = IntKind.i16.wrap (-x) from by rw [← HX.out]; simp only [Tu.rco, show (8 * v + u) % 8 = u by omega, show (8 * v + u) / 8 = v by omega]; simp [hp, hq]] at h3
              rw [ints_set, h3] at h2
              exact h2
            · have v2 : ((v : Int) % 2 == 1) = false := beq_eq_false_iff_ne.2 (by omega)
              go_wp2_with fail
              refine ⟨⟨u + 1, by omega, by go_num, b0.other _ _ (by show N ≠ N + 1 + 1; omega), b1.other _ _ (by show N + 1 ≠ N + 1 + 1; omega), ?_, hB.setCell (by show N ≤ N + 1 + 1; omega) _⟩, by simp [intOf]; omega⟩
              have h2 := b2.set (8 * v + u) (.int .i16 (x))
              have h3 := Tu.rTo_succ true true true xs (8 * v + u) (by omega)
              rw [show Tu.rco true true true xs (8 * v + u) = x from by rw [← HX.out]; simp only [Tu.rco, show (8 * v + u) % 8 = u by omega, show (8 * v + u) / 8 = v by omega]; simp [hp, hq]] at h3
              rw [ints_set, h3] at h2
              exact h2
        · obtain rfl : u = 8 := by omega
          go_wp2_with fail
          exact ⟨⟨v + 1, by omega, by go_num, b0, b1, b2, hB⟩, by simp [intOf]; omega⟩
    · obtain rfl : v = 8 := by omega
      go_wp2_with (first | (refine wpList_load_row rfl 47 _ rfl (N + 2) rfl 47 _ _ _ b2 Tryd.underlying47 rfl (by rw [ints_size, Tu.rTo_len]; kernel_rfl) ?_) | (refine wpList_store_row rfl 47 _ _ rfl (N + 1) _ rfl rfl 47 _ b1 (by rw [ints_size, Tu.rTo_len]; kernel_rfl) (by simp [Tu.rTo_len]) (ints_one _ _) ?_))
      refine bodyPost_ret (results_cell_row rfl _ _ (N + 1) 47 _ _ _ rfl (b1.row _) Tryd.underlying47 rfl (by rw [ints_size, Tu.rTo_len]; kernel_rfl)) rfl ⟨rfl, ?_⟩
      exact Below.setRow hB (by omega) _
theorem rblock_any (k : Int) (xs : List Int) (hx : xs.length = 64) (hb : ∀ i, -32768 ≤ xs.getD i 0 ∧ xs.getD i 0 ≤ 32767) (w : World) :
    Calls Tryd.prog 24 #[.int .i64 k, .agg (ints .i16 xs)] w fun e w' => e = .returned (.agg (ints .i16 (Tu.block k xs))) ∧ Below w.heap.size w w' := by
  by_cases h : 0 ≤ k ∧ k < 8
  · obtain ⟨h0, h8⟩ := h
    unfold Tu.block
    rw [if_pos ⟨h0, h8⟩]
    have h7 : k ≤ 7 := by omega
    by_cases hs : 4 ≤ k <;> by_cases ha : k % 2 = 1 <;> by_cases hd : k / 2 % 2 = 1 <;> simp only [hs, ha, hd, if_true, if_false, decide_true, decide_false]
    · have := Tu.rTo_all true true true xs hx hb; simp only [if_true] at this; rw [← this]; exact rblock_111 k h0 h7 hs ha hd xs hx w
    · have := Tu.rTo_all true true false xs hx hb; simp only [if_true] at this; rw [← this]; exact rblock_110 k h0 h7 hs ha hd xs hx w
    · have := Tu.rTo_all true false true xs hx hb; simp only [if_true] at this; rw [← this]; exact rblock_101 k h0 h7 hs ha hd xs hx w
    · have := Tu.rTo_all true false false xs hx hb; simp only [if_true] at this; rw [← this]; exact rblock_100 k h0 h7 hs ha hd xs hx w
    · have := Tu.rTo_all false true true xs hx hb; simp only [Bool.false_eq_true, if_false] at this; rw [← this]; exact rblock_011 k h0 h7 (by omega) ha hd xs hx w
    · have := Tu.rTo_all false true false xs hx hb; simp only [Bool.false_eq_true, if_false] at this; rw [← this]; exact rblock_010 k h0 h7 (by omega) ha hd xs hx w
    · have := Tu.rTo_all false false true xs hx hb; simp only [Bool.false_eq_true, if_false] at this; rw [← this]; exact rblock_001 k h0 h7 (by omega) ha hd xs hx w
    · have := Tu.rTo_all false false false xs hx hb; simp only [Bool.false_eq_true, if_false] at this; rw [← this]; exact rblock_000 k h0 h7 (by omega) ha hd xs hx w
  · unfold Tu.block
    rw [if_neg h]
    exact rblock_no k (by omega) xs hx w
end Go.Proofs.YtcdfamllamjpeaaDoor
