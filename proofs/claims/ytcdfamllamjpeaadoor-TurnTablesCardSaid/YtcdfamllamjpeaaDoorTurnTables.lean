/- A quantization table is turned as a block of amounts is. -/
import Derived.Test.YtcdfamllamjpeaaDoorTable
import Derived.Test.YtcdfamllamjpeaaDoorTurnGroup
import Derived.Test.YtcdfamllamjpeaaDoorMono
import Derived.Deep.RegionHeld3
import Derived.Deep.DeepCutAuto
namespace Go.Proofs.YtcdfamllamjpeaaDoor
open Go.RowKit Go.ChangeShapes
namespace turnTables
def amt (q : List Int) : List Int := (List.range 64).map fun j => q.getD j 0 % 30000
def amtTo (q : List Int) (n : Nat) : List Int := (List.range 64).map fun j => if j < n then q.getD j 0 % 30000 else 0
theorem amtTo_len (q : List Int) (n : Nat) : (amtTo q n).length = 64 := by simp [amtTo]
theorem amtTo_zero (q : List Int) : amtTo q 0 = List.replicate 64 0 := by
  unfold amtTo
  apply List.ext_getElem?
  intro j
  by_cases hj : j < 64
  · rw [List.getElem?_replicate, if_pos hj]; simp [hj]
  · rw [List.getElem?_eq_none (by simp; omega), List.getElem?_eq_none (by simp; omega)]
theorem amtTo_succ (q : List Int) (n : Nat) (h : n < 64) : (amtTo q n).set n (q.getD n 0 % 30000) = amtTo q (n + 1) := by
  apply List.ext_getElem?
  intro j
  rw [List.getElem?_set]
  by_cases hj : j < 64
  · by_cases e : n = j
    · subst e; rw [if_pos rfl, if_pos (by rw [amtTo_len]; exact h)]; simp [amtTo, h]
    · rw [if_neg e]
      simp only [amtTo, List.getElem?_map, List.getElem?_range hj, Option.map_some]
      by_cases h2 : j < n
      · rw [if_pos h2, if_pos (by omega)]
      · rw [if_neg h2, if_neg (by omega)]
  · rw [if_neg (by omega), List.getElem?_eq_none (by rw [amtTo_len]; omega), List.getElem?_eq_none (by rw [amtTo_len]; omega)]
theorem amtTo_get (q : List Int) (j : Nat) (hj : j < 64) : (amtTo q 64).getD j 0 = q.getD j 0 % 30000 := by
  simp [amtTo, List.getD_eq_getElem?_getD, hj]
theorem table_get (k : Int) (h0 : 0 ≤ k) (h8 : k < 8) (q : List Int) (j : Nat) (hj : j < 64) : (Tu.table k q).getD j 0 = q.getD (Tu.perm k j) 0 := by
  unfold Tu.table Tu.perm
  rw [if_pos ⟨h0, h8⟩]
  split
  · simp [Zg.swap, List.getD_eq_getElem?_getD, hj]
  · rfl
def absw (x : Int) : Int := if x < 0 then IntKind.i16.wrap (-x) else x
theorem same_at (k : Int) (q : List Int) (hb : ∀ i, 0 ≤ q.getD i 0 ∧ q.getD i 0 ≤ 65535) (j : Nat) (hj : j < 64) :
    absw ((Tu.block k (amtTo q 64)).getD j 0) = (Tu.table k q).getD j 0 % 30000 ∧ 0 ≤ (Tu.table k q).getD j 0 ∧ (Tu.table k q).getD j 0 ≤ 65535 := by
  by_cases h : 0 ≤ k ∧ k < 8
  · rw [Tu.block_get k h.1 h.2 _ (amtTo_len _ _) j hj, table_get k h.1 h.2 q j hj, amtTo_get q _ (Tu.perm_lt k j hj)]
    have hx := hb (Tu.perm k j)
    generalize q.getD (Tu.perm k j) 0 = x at hx
    refine ⟨?_, hx⟩
    have hw : ∀ y : Int, 0 ≤ y → y < 30000 → IntKind.i16.wrap (-y) = -y := by
      intro y h0 h1; rw [Tu.wrap16_eq]; split <;> omega
    have hw2 : ∀ y : Int, 0 ≤ y → y < 30000 → IntKind.i16.wrap (- -y) = y := by
      intro y h0 h1; rw [Tu.wrap16_eq]; split <;> omega
    have y0 : 0 ≤ x % 30000 := by omega
    have y1 : x % 30000 < 30000 := by omega
    generalize x % 30000 = y at *
    unfold absw Tu.neg
    cases Tu.sgn k j
    · simp only [Bool.false_eq_true, if_false]
      rw [if_neg (by omega)]
    · simp only [if_true, hw y y0 y1]
      split
      · exact hw2 y y0 y1
      · omega
  · have e1 : (Tu.block k (amtTo q 64)).getD j 0 = 0 := by unfold Tu.block; rw [if_neg h, List.getD_eq_getElem?_getD, List.getElem?_replicate, if_pos hj]; rfl
    have e2 : (Tu.table k q).getD j 0 = 0 := by unfold Tu.table; rw [if_neg h, List.getD_eq_getElem?_getD, List.getElem?_replicate, if_pos hj]; rfl
    rw [e1, e2]; decide
set_option maxRecDepth 100000 in
set_option maxHeartbeats 4000000 in
theorem walk (k : Int) (q : List Int) (hq : q.length = 64) (hb : ∀ i, 0 ≤ q.getD i 0 ∧ q.getD i 0 ≤ 65535) (w : World) (hw : Tu.Named w) :
    Calls Tryd.prog 9 #[.int .i64 k, .agg (ints .u16 q)] w fun e w' => e = .returned (.bool true) ∧ Below w.heap.size w w' := by
  obtain ⟨N, hN⟩ : ∃ N, N = w.heap.size := ⟨_, rfl⟩
  have HN := Lib.hid hN
  have HNn : 0 < N := by rw [hN]; exact hw.lt
  rw [← hN]
  clear hN
  go_enter Tryd.func9, Tryd.ntmps9
  go_wp2_with fail
  refine wp_world (fun W => Blk W N (ints .u16 q) 52 ∧ Blk W (N+1) (ints .i16 (amtTo q 0)) 47 ∧ Below N w W) ⟨?_, ?_, ?_⟩ ?_
  · exact (Blk.new' _ _ _ HN.out).alloc _
  · rw [amtTo_zero]; exact (Blk.new' _ _ _ (by rw [HN.out]; simp))
  · exact (((Below.refl _ _).alloc (by rw [HN.out]; exact Nat.le_refl _) _).alloc (by rw [HN.out]; simp) _)
  rintro W0 ⟨b0, b1, hB⟩
  rw [← HN.out]
  go_loopw [6] (fun i wr => ∃ j : Nat, j ≤ 64 ∧ i = .int .i64 j ∧ Blk wr N (ints .u16 q) 52 ∧ Blk wr (N+1) (ints .i16 (amtTo q j)) 47 ∧ Below N w wr) (fun i _ => 64 - (intOf i).toNat)
  case atStart => exact ⟨0, by omega, rfl, b0, b1, hB⟩
  case round =>
    clear b0 b1 hB
    obtain ⟨j, hj, rfl, b0, b1, hB⟩ := hrel
    by_cases hlt : j < 64
    · have c0 := (b0.cell j).trans (ints_get _ _ _ (by omega))
      have hbj := hb j
      obtain ⟨x, hx0⟩ : ∃ x, q.getD j 0 = x := ⟨_, rfl⟩
      rw [hx0] at c0 hbj
      obtain ⟨hb0, hb1⟩ := hbj
      have HX := Lib.hid hx0
      clear hx0
      have c1 := (b1.cell j).trans (ints_get _ _ _ (by rw [amtTo_len]; omega))
      have f1 := b1.free j
      go_wp2_with fail
      refine ⟨⟨j + 1, by omega, by go_num, b0.other _ _ (by show N ≠ N + 1; omega), ?_, hB.setCell (by show N ≤ N + 1; omega) _⟩, by simp [intOf]; omega⟩
      have h2 := b1.set j (.int .i16 (x % 30000))
      have h3 := amtTo_succ q j hlt
      rw [HX.out] at h3
      rw [ints_set, h3] at h2
      exact h2
    · obtain rfl : j = 64 := by omega
      go_wp2_with fail
      obtain ⟨bb, hbb⟩ : ∃ bb, amtTo q 64 = bb := ⟨_, rfl⟩
      have hbl : bb.length = 64 := by rw [← hbb]; exact amtTo_len _ _
      rw [hbb] at b1
      have HBB := Lib.hid hbb
      clear hbb
      go_cut [7, 8] from 22 to 27 (fun s7 s8 wx => ∃ g7 g8 : Nat, s7 = .pointer (some ⟨g7, 0, none⟩) ∧ s8 = .pointer (some ⟨g8, 0, none⟩) ∧ Blk wx g7 (ints .u16 (Tu.table k q)) 52 ∧ Blk wx g8 (ints .i16 (Tu.block k bb)) 47 ∧ Blk wx N (ints .u16 q) 52 ∧ Below N w wx)
      case first =>
        refine wp_region_mono 8 (fun W => Blk W N (ints .u16 q) 52 ∧ Blk W (N+1) (ints .i16 bb) 47 ∧ Below N w W)
          (fun | 2 => some (sFix (.agg (ints .u16 (Tu.table k q)))) | 5 => some (sFix (.agg (ints .i16 (Tu.block k bb)))) | 6 => some (sNew (ints .u16 (List.replicate 64 0)) 52) | 7 => some (sNew (ints .i16 (List.replicate 64 0)) 47) | _ => none)
          (by kernel_rfl) (by kernel_rfl) ⟨b0.drew, b1.drew, hB.drew⟩ ?_ ?_
        · intro i s hs
          match i with
          | 2 => cases hs; exact fun _ _ => sFix_mono _ _ _
          | 5 => cases hs; exact fun _ _ => sFix_mono _ _ _
          | 6 => cases hs; exact fun _ _ => sNew_mono _ _ _ _
          | 7 => cases hs; exact fun _ _ => sNew_mono _ _ _ _
        have hGm : ∀ W W', (Blk W N (ints .u16 q) 52 ∧ Blk W (N+1) (ints .i16 bb) 47 ∧ Below N w W) → Below W.heap.size W W' → (Blk W' N (ints .u16 q) 52 ∧ Blk W' (N+1) (ints .i16 bb) 47 ∧ Below N w W') :=
          fun W W' h hb2 => ⟨h.1.below hb2 h.1.lt, h.2.1.below hb2 h.2.1.lt, h.2.2.trans (hb2.mono (by rw [HN.out]; exact h.2.2.size))⟩
        (first | (refine mono_skip (by rfl) ?_; simp only [Act.put, List.setIfInBounds_toArray, List.set_cons_zero, List.set_cons_succ]) | (refine mono_pure (v := ?_) (by rfl) rfl ?_ ?_; rotate_left; (intro wS hS; go_simp; try with_reducible rfl); simp only [Act.put, List.setIfInBounds_toArray, List.set_cons_zero, List.set_cons_succ]))
        refine mono_pure (by rfl) rfl (fun w1 hG => run_exec_load_row 52 _ rfl N rfl 52 (ints .u16 q) _ hG.1 Tryd.underlying52 rfl (by rw [ints_size, hq]; kernel_rfl)) ?_
        simp only [Act.put, List.setIfInBounds_toArray, List.set_cons_zero, List.set_cons_succ]
        refine mono_fix (.agg (ints .u16 (Tu.table k q))) (by rfl) rfl hGm (by intro wS hS; go_simp; first | done | exact ⟨rfl, rfl⟩) (fun w1 hG => table_any k q hq w1) ?_
        simp only [Act.put, List.setIfInBounds_toArray, List.set_cons_zero, List.set_cons_succ]
        (first | (refine mono_skip (by rfl) ?_; simp only [Act.put, List.setIfInBounds_toArray, List.set_cons_zero, List.set_cons_succ]) | (refine mono_pure (v := ?_) (by rfl) rfl ?_ ?_; rotate_left; (intro wS hS; go_simp; try with_reducible rfl); simp only [Act.put, List.setIfInBounds_toArray, List.set_cons_zero, List.set_cons_succ]))
        refine mono_pure (by rfl) rfl (fun w1 hG => run_exec_load_row 47 _ rfl (N+1) rfl 47 (ints .i16 bb) _ hG.2.1 Tryd.underlying47 rfl (by rw [ints_size, hbl]; kernel_rfl)) ?_
        simp only [Act.put, List.setIfInBounds_toArray, List.set_cons_zero, List.set_cons_succ]
        refine mono_fix (.agg (ints .i16 (Tu.block k bb))) (by rfl) rfl hGm (by intro wS hS; go_simp; first | done | exact ⟨rfl, rfl⟩) (fun w1 hG => block_any k bb hbl w1) ?_
        simp only [Act.put, List.setIfInBounds_toArray, List.set_cons_zero, List.set_cons_succ]
        refine mono_alloc (ints .u16 (List.replicate 64 0)) 52 (by rfl) rfl hGm (by intro wS; go_simp; try rfl) (fun g7 => ?_)
        simp only [Act.put, List.setIfInBounds_toArray, List.set_cons_zero, List.set_cons_succ]
        refine mono_alloc (ints .i16 (List.replicate 64 0)) 47 (by rfl) rfl hGm (by intro wS; go_simp; try rfl) (fun g8 => ?_)
        simp only [Act.put, List.setIfInBounds_toArray, List.set_cons_zero, List.set_cons_succ]
        refine mono_nil ?_
        rintro w1 ⟨c0, c1, hB1⟩ ⟨hbs, I, hI1, hI2⟩
        obtain ⟨i1, i2, i3, ⟨g, hg, i4, i5, i6⟩⟩ := hI1 6 _ rfl
        obtain ⟨j1, j2, j3, ⟨g', hg', j4, j5, j6⟩⟩ := hI1 7 _ rfl
        have hd := hI2 6 7 _ _ (by omega) rfl rfl
        obtain rfl : g7 = g := by simpa using hg
        obtain rfl : g8 = g' := by simpa using hg'
        have hne : g8 ≠ g7 := by omega
        have hNs : N + 1 < wr.heap.size := b1.lt
        simp only [List.drop_succ_cons, List.drop_zero]
        go_wp2_with (first | (refine wpList_store_row rfl 52 _ _ rfl g7 _ rfl rfl 52 _ i6 (by rw [ints_size, Tu.table_len _ _ hq]; kernel_rfl) (by simp [Tu.table_len _ _ hq]) (ints_one _ _) ?_) | (refine wpList_store_row rfl 47 _ _ rfl g8 _ rfl rfl 47 _ (j6.rowOther _ _ hne) (by rw [ints_size, Tu.block_len]; kernel_rfl) (by simp [Tu.block_len]) (ints_one _ _) ?_))
        go_meet
        exact ⟨g7, g8, rfl, rfl, (i6.row _).rowOther _ _ (fun e => hne e.symm), (j6.rowOther _ _ hne).row _, (c0.rowOther _ _ (by omega)).rowOther _ _ (by omega), Below.setRow (Below.setRow hB1 (by omega) _) (by omega) _⟩
      case rest =>
        obtain ⟨g7, g8, rfl, rfl, b7, b8, c0, hB⟩ := hcut
        go_wp2_with fail
        have hwN : Tu.Named wc := hw.below hB HNn
        go_loopw [9, 10] (fun i _ wr => ∃ j : Nat, j ≤ 64 ∧ i = .int .i64 j ∧ wr = wc) (fun i _ _ => 64 - (intOf i).toNat)
        case atStart => exact ⟨0, by omega, rfl, rfl⟩
        case round =>
          obtain ⟨j, hj, rfl, rfl⟩ := hrel
          by_cases hlt : j < 64
          · have hs := same_at k q hb j hlt
            rw [HBB.out] at hs
            have c7 := (b7.cell j).trans (ints_get _ _ _ (by rw [Tu.table_len _ _ hq]; exact hlt))
            have c8 := (b8.cell j).trans (ints_get _ _ _ (by rw [Tu.block_len]; exact hlt))
            generalize (Tu.table k q).getD j 0 = t at hs c7
            generalize (Tu.block k bb).getD j 0 = x at hs c8
            obtain ⟨hs1, hs2, hs3⟩ := hs
            by_cases hneg : x < 0
            · unfold absw at hs1
              rw [if_pos hneg] at hs1
              have H := Lib.hid hs1
              have t1 : (t % 30000 != IntKind.i16.wrap (-x)) = false := by rw [hs1]; simp
              clear hs1
              go_wp2_with fail
              exact ⟨⟨j + 1, by omega, by go_num, trivial⟩, by simp [intOf]; omega⟩
            · unfold absw at hs1
              rw [if_neg hneg] at hs1
              have t1 : (t % 30000 != x) = false := by rw [hs1]; simp
              clear hs1
              go_wp2_with fail
              exact ⟨⟨j + 1, by omega, by go_num, trivial⟩, by simp [intOf]; omega⟩
          · obtain rfl : j = 64 := by omega
            go_wp2_with fail
            refine wp_region_det (fun W => Blk W N (ints .u16 q) 52 ∧ Below N w W ∧ Tu.Named W ∧ Blk W g7 (ints .u16 (Tu.table k q)) 52) (by kernel_rfl) (by kernel_rfl) ⟨c0.drew, hB.drew, hwN.drewN 1, b7.drew⟩ ?_
            refine det_call (v := .bool true) (by rfl) (by intro wS hS; go_simp; first | done | exact ⟨rfl, rfl⟩) (fun W hS => ?_) ?_
            · exact (awake17 W hS.2.2.1).mono fun e w' h => by obtain ⟨rfl, rfl⟩ := h; exact ⟨rfl, hS⟩
            simp only [Act.put, List.setIfInBounds_toArray, List.set_cons_zero, List.set_cons_succ]
            by_cases h4 : k = 4
            · have h4' : (k != 4) = false := by simpa using h4
              have e4 : Tu.table k q = Zg.swap q := by subst h4; rfl
              have H4 := Lib.hid e4
              clear h4 e4
              (first | (refine det_skip (by rfl) ?_; simp only [Act.put, List.setIfInBounds_toArray, List.set_cons_zero, List.set_cons_succ]) | (refine det_pure (v := ?_) (by rfl) ?_ ?_; rotate_left; (intro wS hS; go_simp; try with_reducible rfl); simp only [Act.put, List.setIfInBounds_toArray, List.set_cons_zero, List.set_cons_succ]))
              (first | (refine det_skip (by rfl) ?_; simp only [Act.put, List.setIfInBounds_toArray, List.set_cons_zero, List.set_cons_succ]) | (refine det_pure (v := ?_) (by rfl) ?_ ?_; rotate_left; (intro wS hS; go_simp; try with_reducible rfl); simp only [Act.put, List.setIfInBounds_toArray, List.set_cons_zero, List.set_cons_succ]))
              (first | (refine det_skip (by rfl) ?_; simp only [Act.put, List.setIfInBounds_toArray, List.set_cons_zero, List.set_cons_succ]) | (refine det_pure (v := ?_) (by rfl) ?_ ?_; rotate_left; (intro wS hS; go_simp; try with_reducible rfl); simp only [Act.put, List.setIfInBounds_toArray, List.set_cons_zero, List.set_cons_succ]))
              (first | (refine det_skip (by rfl) ?_; simp only [Act.put, List.setIfInBounds_toArray, List.set_cons_zero, List.set_cons_succ]) | (refine det_pure (v := ?_) (by rfl) ?_ ?_; rotate_left; (intro wS hS; go_simp; try with_reducible rfl); simp only [Act.put, List.setIfInBounds_toArray, List.set_cons_zero, List.set_cons_succ]))
              refine det_load_row (by rfl) 52 _ rfl g7 rfl 52 (ints .u16 (Tu.table k q)) _ (fun _ h => h.2.2.2) Tryd.underlying52 rfl (by rw [ints_size, Tu.table_len _ _ hq]; kernel_rfl) ?_
              simp only [Act.put, List.setIfInBounds_toArray, List.set_cons_zero, List.set_cons_succ]
              refine det_load_row (by rfl) 52 _ rfl N rfl 52 (ints .u16 q) _ (fun _ h => h.1) Tryd.underlying52 rfl (by rw [ints_size, hq]; kernel_rfl) ?_
              simp only [Act.put, List.setIfInBounds_toArray, List.set_cons_zero, List.set_cons_succ]
              refine det_call (v := .agg (ints .u16 (Zg.swap q))) (by rfl) (by intro wS hS; go_simp; first | done | exact ⟨rfl, rfl⟩) (fun W hS => ?_) ?_
              · exact (swap_u16 q hq W).mono fun e w' h => by obtain ⟨rfl, h2⟩ := h; exact ⟨rfl, hS.1.below h2 hS.1.lt, hS.2.1.trans (h2.mono (by rw [HN.out]; exact hS.2.1.size)), hS.2.2.1.below h2 hS.2.2.1.lt, hS.2.2.2.below h2 hS.2.2.2.lt⟩
              simp only [Act.put, List.setIfInBounds_toArray, List.set_cons_zero, List.set_cons_succ]
              refine det_pure (by rfl) (fun w1 _ => run_exec_eql_ints 52 _ _ _ rfl 51 64 .u16 (Tu.table k q) (Zg.swap q) rfl rfl Tryd.underlying52 Tryd.underlying51 (by kernel_rfl) (Tu.table_len _ _ hq) (Zg.swap_len _) (by kernel_rfl)) ?_
              rw [decide_eq_true H4.out]
              simp only [Act.put, List.setIfInBounds_toArray, List.set_cons_zero, List.set_cons_succ]
              (repeat (first | (refine det_skip (by rfl) ?_; simp only [Act.put, List.setIfInBounds_toArray, List.set_cons_zero, List.set_cons_succ]) | (refine det_pure (v := ?_) (by rfl) ?_ ?_; rotate_left; (intro wS hS; go_simp; try with_reducible rfl); simp only [Act.put, List.setIfInBounds_toArray, List.set_cons_zero, List.set_cons_succ])))
              refine det_nil ?_
              rintro w1 ⟨_, hB1, _⟩
              go_wp2_with fail
              go_ret
              exact ⟨rfl, hB1⟩
            · have h4' : (k != 4) = true := by simpa using h4
              clear h4
              (repeat (first | (refine det_skip (by rfl) ?_; simp only [Act.put, List.setIfInBounds_toArray, List.set_cons_zero, List.set_cons_succ]) | (refine det_pure (v := ?_) (by rfl) ?_ ?_; rotate_left; (intro wS hS; go_simp; try with_reducible rfl); simp only [Act.put, List.setIfInBounds_toArray, List.set_cons_zero, List.set_cons_succ])))
              refine det_nil ?_
              rintro w1 ⟨_, hB1, _⟩
              go_wp2_with fail
              go_ret
              exact ⟨rfl, hB1⟩
end turnTables
theorem u16_bounds {xs : List Int} (h : ∀ y ∈ xs, (Lit.int .u16 y).wf = true) (i : Nat) : 0 ≤ xs.getD i 0 ∧ xs.getD i 0 ≤ 65535 := by
  have := wf_getD h (by decide) i
  generalize xs.getD i 0 = x at *
  simp [Lit.wf, IntKind.min, IntKind.max, IntKind.signed, IntKind.bits] at this
  omega
theorem turnTables.core (k : Int) (q : List Int) (_wk : (Lit.int .i64 k).wf = true) (hq : q.length = 64) (wq : ∀ y ∈ q, (Lit.int .u16 y).wf = true) (W : World) (hL : laidMetH Tryd.prog Rows.turnTablesRow.laid W) :
    Calls Tryd.prog 9 #[.int .i64 k, .agg (ints .u16 q)] W fun e w' => e = .returned (.bool true) ∧ Below W.heap.size W w' :=
  turnTables.walk k q hq (u16_bounds wq) W (Tu.named_of hL)
end Go.Proofs.YtcdfamllamjpeaaDoor
