/- A turn behind another one is the turn that Then says, for blocks; Back undoes; three turns don't hang on which two are put together first. -/
import Derived.Test.YtcdfamllamjpeaaDoorTurnBlocks
namespace Go.Proofs.YtcdfamllamjpeaaDoor
open Go.RowKit Go.ChangeShapes
namespace Tu
def sgn (k : Int) (j : Nat) : Bool := (decide (k % 2 = 1) && decide (j % 2 = 1)) != (decide (k / 2 % 2 = 1) && decide (j / 8 % 2 = 1))
def perm (k : Int) (j : Nat) : Nat := if 4 ≤ k then j % 8 * 8 + j / 8 else j
def neg (b : Bool) (x : Int) : Int := if b then IntKind.i16.wrap (-x) else x
def In16 (xs : List Int) : Prop := ∀ i, -32768 ≤ xs.getD i 0 ∧ xs.getD i 0 ≤ 32767
theorem neg_in (b : Bool) (x : Int) (h0 : -32768 ≤ x) (h1 : x ≤ 32767) : -32768 ≤ neg b x ∧ neg b x ≤ 32767 := by
  unfold neg; rw [wrap16_eq]; split
  · split <;> omega
  · exact ⟨h0, h1⟩
theorem neg_neg (a b : Bool) (x : Int) (h0 : -32768 ≤ x) (h1 : x ≤ 32767) : neg a (neg b x) = neg (a != b) x := by
  have := wrap16_neg x h0 h1
  cases a <;> cases b <;> simp [neg, this]
theorem perm_lt (k : Int) (j : Nat) (h : j < 64) : perm k j < 64 := by unfold perm; split <;> omega
theorem block_get (k : Int) (h0 : 0 ≤ k) (h8 : k < 8) (xs : List Int) (_hx : xs.length = 64) (j : Nat) (hj : j < 64) : (block k xs).getD j 0 = neg (sgn k j) (xs.getD (perm k j) 0) := by
  have e : (if 4 ≤ k then Zg.swap xs else xs).getD j 0 = xs.getD (perm k j) 0 := by
    unfold perm
    split
    · simp [Zg.swap, List.getD_eq_getElem?_getD, hj]
    · rfl
  unfold block
  rw [if_pos ⟨h0, h8⟩]
  simp only [flip, List.getD_eq_getElem?_getD, List.getElem?_map, List.getElem?_range hj, Option.map_some, Option.getD_some]
  rw [← List.getD_eq_getElem?_getD, ← List.getD_eq_getElem?_getD, e]
  rfl
theorem block_in (k : Int) (h0 : 0 ≤ k) (h8 : k < 8) (xs : List Int) (hx : xs.length = 64) (hb : In16 xs) : In16 (block k xs) := by
  intro i
  by_cases hi : i < 64
  · rw [block_get k h0 h8 xs hx i hi]; exact neg_in _ _ (hb _).1 (hb _).2
  · rw [List.getD_eq_getElem?_getD, List.getElem?_eq_none (by rw [block_len]; omega)]; simp
theorem ext64 {xs ys : List Int} (hx : xs.length = 64) (hy : ys.length = 64) (h : ∀ j, j < 64 → xs.getD j 0 = ys.getD j 0) : xs = ys := by
  apply List.ext_getElem?
  intro j
  by_cases hj : j < 64
  · have := h j hj
    rw [List.getD_eq_getElem?_getD, List.getD_eq_getElem?_getD, List.getElem?_eq_getElem (by omega), List.getElem?_eq_getElem (by omega)] at this
    rw [List.getElem?_eq_getElem (by omega), List.getElem?_eq_getElem (by omega)]
    simpa using this
  · rw [List.getElem?_eq_none (by omega), List.getElem?_eq_none (by omega)]
theorem comp_fin : ∀ a b : Fin 8, ∀ j : Fin 64, (sgn (b.1 : Int) j.1 != sgn (a.1 : Int) (perm (b.1 : Int) j.1)) = sgn (then_ (a.1 : Int) (b.1 : Int)) j.1 ∧ perm (a.1 : Int) (perm (b.1 : Int) j.1) = perm (then_ (a.1 : Int) (b.1 : Int)) j.1 := by decide +kernel
theorem comp (a b : Int) (a0 : 0 ≤ a) (a8 : a < 8) (b0 : 0 ≤ b) (b8 : b < 8) (xs : List Int) (hx : xs.length = 64) (hb : In16 xs) : block b (block a xs) = block (then_ a b) xs := by
  have ht : 0 ≤ then_ a b ∧ then_ a b < 8 := by
    rcases eight a0 a8 with rfl | rfl | rfl | rfl | rfl | rfl | rfl | rfl <;> rcases eight b0 b8 with rfl | rfl | rfl | rfl | rfl | rfl | rfl | rfl <;> decide +kernel
  refine ext64 (block_len _ _) (block_len _ _) fun j hj => ?_
  rw [block_get b b0 b8 _ (block_len _ _) j hj, block_get a a0 a8 xs hx _ (perm_lt b j hj), neg_neg _ _ _ (hb _).1 (hb _).2, block_get _ ht.1 ht.2 xs hx j hj]
  have h := comp_fin ⟨a.toNat, by omega⟩ ⟨b.toNat, by omega⟩ ⟨j, hj⟩
  simp only [Int.toNat_of_nonneg a0, Int.toNat_of_nonneg b0] at h
  rw [h.1, h.2]
theorem block_zero (xs : List Int) (hx : xs.length = 64) : block 0 xs = xs := by
  refine ext64 (block_len _ _) hx fun j hj => ?_
  rw [block_get 0 (by omega) (by omega) xs hx j hj]
  have h1 : sgn 0 j = false := by simp [sgn]
  have h2 : perm 0 j = j := by simp [perm]
  rw [h1, h2]; rfl
theorem group_fin : ∀ a b c : Fin 8, (then_ (then_ (a.1 : Int) (b.1 : Int)) (c.1 : Int) == then_ (a.1 : Int) (then_ (b.1 : Int) (c.1 : Int))) = true ∧
    then_ (a.1 : Int) (back (a.1 : Int)) = 0 ∧ then_ (back (a.1 : Int)) (a.1 : Int) = 0 ∧ 0 ≤ back (a.1 : Int) ∧ back (a.1 : Int) < 8 ∧ 0 ≤ then_ (a.1 : Int) (b.1 : Int) ∧ then_ (a.1 : Int) (b.1 : Int) < 8 ∧ 0 ≤ then_ (b.1 : Int) (c.1 : Int) ∧ then_ (b.1 : Int) (c.1 : Int) < 8 := by decide +kernel
end Tu
namespace turnGroup
set_option maxRecDepth 100000 in
set_option maxHeartbeats 4000000 in
theorem walk (a b c : Int) (a0 : 0 ≤ a) (b0 : 0 ≤ b) (c0 : 0 ≤ c) (a255 : a ≤ 255) (b255 : b ≤ 255) (c255 : c ≤ 255) (xs : List Int) (hx : xs.length = 64) (hb : Tu.In16 xs) (w : World) (hw : Tu.Named w) :
    Calls Tryd.prog 8 #[.int .u8 a, .int .u8 b, .int .u8 c, .agg (ints .i16 xs)] w fun e w' => e = .returned (.bool true) ∧ Below w.heap.size w w' := by
  obtain ⟨i, hi⟩ : ∃ i, a % 8 = i := ⟨_, rfl⟩
  obtain ⟨j, hj⟩ : ∃ j, b % 8 = j := ⟨_, rfl⟩
  obtain ⟨k, hk⟩ : ∃ k, c % 8 = k := ⟨_, rfl⟩
  have i0 : 0 ≤ i := by omega
  have i8 : i < 8 := by omega
  have j0 : 0 ≤ j := by omega
  have j8 : j < 8 := by omega
  have k0 : 0 ≤ k := by omega
  have k8 : k < 8 := by omega
  have g := Tu.group_fin ⟨i.toNat, by omega⟩ ⟨j.toNat, by omega⟩ ⟨k.toNat, by omega⟩
  simp only [Int.toNat_of_nonneg i0, Int.toNat_of_nonneg j0, Int.toNat_of_nonneg k0] at g
  obtain ⟨g1, g2, g3, g4, g5, g6, g7, g8, g9⟩ := g
  have E1 := Lib.hid (Tu.comp i j i0 i8 j0 j8 xs hx hb)
  have e2 : Tu.block (Tu.back i) (Tu.block i xs) = xs := by rw [Tu.comp i (Tu.back i) i0 i8 g4 g5 xs hx hb, g2, Tu.block_zero xs hx]
  have E2 := Lib.hid e2
  clear e2
  have H2 := Lib.hid g2
  have H3 := Lib.hid g3
  clear g2 g3
  obtain ⟨N, hN⟩ : ∃ N, N = w.heap.size := ⟨_, rfl⟩
  have HN := Lib.hid hN
  have HNn : 0 < N := by rw [hN]; exact hw.lt
  rw [← hN]
  clear hN
  go_enter Tryd.func8, Tryd.ntmps8
  go_wp2_with fail
  refine (then_yes i j i0 i8 j0 j8 _).mono ?_
  rintro e w' ⟨rfl, rfl⟩
  go_wp2_with fail
  refine (then_yes j k j0 j8 k0 k8 _).mono ?_
  rintro e w' ⟨rfl, rfl⟩
  go_wp2_with fail
  refine (then_yes _ k g6 g7 k0 k8 _).mono ?_
  rintro e w' ⟨rfl, rfl⟩
  go_wp2_with fail
  refine (then_yes i _ i0 i8 g8 g9 _).mono ?_
  rintro e w' ⟨rfl, rfl⟩
  go_wp2_with fail
  refine (back_yes i i0 i8 _).mono ?_
  rintro e w' ⟨rfl, rfl⟩
  go_wp2_with fail
  refine (then_yes i _ i0 i8 g4 g5 _).mono ?_
  rintro e w' ⟨rfl, rfl⟩
  rw [H2.out]
  go_wp2_with fail
  refine (then_yes _ i g4 g5 i0 i8 _).mono ?_
  rintro e w' ⟨rfl, rfl⟩
  rw [H3.out]
  go_wp2_with fail
  refine wp_region_det (fun W => Blk W N (ints .i16 xs) 47 ∧ Below N w W ∧ Tu.Named W) (by kernel_rfl) (by kernel_rfl) ?_ ?_
  · have h2 : Below N w (w.alloc (Obj.cells (ints IntKind.i16 xs) 47)) := (Below.refl _ _).alloc (by rw [HN.out]; exact Nat.le_refl _) _
    exact ⟨(Blk.new' _ _ _ HN.out).drew, h2.drew, (hw.below h2 HNn).drewN 1⟩
  rw [← HN.out]
  refine det_call (v := .bool true) (by rfl) (by intro wS hS; go_simp; first | done | exact ⟨rfl, rfl⟩) (fun W hS => ?_) ?_
  · exact (awake17 W hS.2.2).mono fun e w' h => by obtain ⟨rfl, rfl⟩ := h; exact ⟨rfl, hS⟩
  simp only [Act.put, List.setIfInBounds_toArray, List.set_cons_zero, List.set_cons_succ]
  (repeat (first | (refine det_skip (by rfl) ?_; simp only [Act.put, List.setIfInBounds_toArray, List.set_cons_zero, List.set_cons_succ]) | (refine det_pure (v := ?_) (by rfl) ?_ ?_; rotate_left; (intro wS hS; go_simp; try with_reducible rfl); simp only [Act.put, List.setIfInBounds_toArray, List.set_cons_zero, List.set_cons_succ])))
  refine det_load_row (by rfl) 47 _ rfl N rfl 47 (ints .i16 xs) _ (fun _ h => h.1) Tryd.underlying47 rfl (by rw [ints_size, hx]; kernel_rfl) ?_
  simp only [Act.put, List.setIfInBounds_toArray, List.set_cons_zero, List.set_cons_succ]
  refine det_call (v := .agg (ints .i16 (Tu.block i xs))) (by rfl) (by intro wS hS; go_simp; first | done | exact ⟨rfl, rfl⟩) (fun W hS => ?_) ?_
  · exact (block_any i _ hx W).mono fun e w' h => by obtain ⟨rfl, h2⟩ := h; exact ⟨rfl, hS.1.below h2 hS.1.lt, hS.2.1.trans (h2.mono (by rw [HN.out]; exact hS.2.1.size)), hS.2.2.below h2 hS.2.2.lt⟩
  simp only [Act.put, List.setIfInBounds_toArray, List.set_cons_zero, List.set_cons_succ]
  refine det_call (v := .agg (ints .i16 (Tu.block j (Tu.block i xs)))) (by rfl) (by intro wS hS; go_simp; first | done | exact ⟨rfl, rfl⟩) (fun W hS => ?_) ?_
  · exact (block_any j _ (Tu.block_len _ _) W).mono fun e w' h => by obtain ⟨rfl, h2⟩ := h; exact ⟨rfl, hS.1.below h2 hS.1.lt, hS.2.1.trans (h2.mono (by rw [HN.out]; exact hS.2.1.size)), hS.2.2.below h2 hS.2.2.lt⟩
  simp only [Act.put, List.setIfInBounds_toArray, List.set_cons_zero, List.set_cons_succ]
  (repeat (first | (refine det_skip (by rfl) ?_; simp only [Act.put, List.setIfInBounds_toArray, List.set_cons_zero, List.set_cons_succ]) | (refine det_pure (v := ?_) (by rfl) ?_ ?_; rotate_left; (intro wS hS; go_simp; try with_reducible rfl); simp only [Act.put, List.setIfInBounds_toArray, List.set_cons_zero, List.set_cons_succ])))
  refine det_load_row (by rfl) 47 _ rfl N rfl 47 (ints .i16 xs) _ (fun _ h => h.1) Tryd.underlying47 rfl (by rw [ints_size, hx]; kernel_rfl) ?_
  simp only [Act.put, List.setIfInBounds_toArray, List.set_cons_zero, List.set_cons_succ]
  refine det_call (v := .agg (ints .i16 (Tu.block (Tu.then_ i j) xs))) (by rfl) (by intro wS hS; go_simp; first | done | exact ⟨rfl, rfl⟩) (fun W hS => ?_) ?_
  · exact (block_any (Tu.then_ i j) _ hx W).mono fun e w' h => by obtain ⟨rfl, h2⟩ := h; exact ⟨rfl, hS.1.below h2 hS.1.lt, hS.2.1.trans (h2.mono (by rw [HN.out]; exact hS.2.1.size)), hS.2.2.below h2 hS.2.2.lt⟩
  simp only [Act.put, List.setIfInBounds_toArray, List.set_cons_zero, List.set_cons_succ]
  refine det_pure (by rfl) (fun w1 _ => run_exec_eql_ints 47 _ _ _ rfl 45 64 .i16 (Tu.block j (Tu.block i xs)) (Tu.block (Tu.then_ i j) xs) rfl rfl Tryd.underlying47 Tryd.underlying45 (by kernel_rfl) (Tu.block_len _ _) (Tu.block_len _ _) (by kernel_rfl)) ?_
  rw [decide_eq_true E1.out]
  simp only [Act.put, List.setIfInBounds_toArray, List.set_cons_zero, List.set_cons_succ]
  (repeat (first | (refine det_skip (by rfl) ?_; simp only [Act.put, List.setIfInBounds_toArray, List.set_cons_zero, List.set_cons_succ]) | (refine det_pure (v := ?_) (by rfl) ?_ ?_; rotate_left; (intro wS hS; go_simp; try with_reducible rfl); simp only [Act.put, List.setIfInBounds_toArray, List.set_cons_zero, List.set_cons_succ])))
  refine det_load_row (by rfl) 47 _ rfl N rfl 47 (ints .i16 xs) _ (fun _ h => h.1) Tryd.underlying47 rfl (by rw [ints_size, hx]; kernel_rfl) ?_
  simp only [Act.put, List.setIfInBounds_toArray, List.set_cons_zero, List.set_cons_succ]
  refine det_call (v := .agg (ints .i16 (Tu.block i xs))) (by rfl) (by intro wS hS; go_simp; first | done | exact ⟨rfl, rfl⟩) (fun W hS => ?_) ?_
  · exact (block_any i _ hx W).mono fun e w' h => by obtain ⟨rfl, h2⟩ := h; exact ⟨rfl, hS.1.below h2 hS.1.lt, hS.2.1.trans (h2.mono (by rw [HN.out]; exact hS.2.1.size)), hS.2.2.below h2 hS.2.2.lt⟩
  simp only [Act.put, List.setIfInBounds_toArray, List.set_cons_zero, List.set_cons_succ]
  refine det_call (v := .agg (ints .i16 (Tu.block (Tu.back i) (Tu.block i xs)))) (by rfl) (by intro wS hS; go_simp; first | done | exact ⟨rfl, rfl⟩) (fun W hS => ?_) ?_
  · exact (block_any (Tu.back i) _ (Tu.block_len _ _) W).mono fun e w' h => by obtain ⟨rfl, h2⟩ := h; exact ⟨rfl, hS.1.below h2 hS.1.lt, hS.2.1.trans (h2.mono (by rw [HN.out]; exact hS.2.1.size)), hS.2.2.below h2 hS.2.2.lt⟩
  simp only [Act.put, List.setIfInBounds_toArray, List.set_cons_zero, List.set_cons_succ]
  refine det_load_row (by rfl) 47 _ rfl N rfl 47 (ints .i16 xs) _ (fun _ h => h.1) Tryd.underlying47 rfl (by rw [ints_size, hx]; kernel_rfl) ?_
  simp only [Act.put, List.setIfInBounds_toArray, List.set_cons_zero, List.set_cons_succ]
  refine det_pure (by rfl) (fun w1 _ => run_exec_eql_ints 47 _ _ _ rfl 45 64 .i16 (Tu.block (Tu.back i) (Tu.block i xs)) xs rfl rfl Tryd.underlying47 Tryd.underlying45 (by kernel_rfl) (Tu.block_len _ _) hx (by kernel_rfl)) ?_
  rw [decide_eq_true E2.out]
  simp only [Act.put, List.setIfInBounds_toArray, List.set_cons_zero, List.set_cons_succ]
  (repeat (first | (refine det_skip (by rfl) ?_; simp only [Act.put, List.setIfInBounds_toArray, List.set_cons_zero, List.set_cons_succ]) | (refine det_pure (v := ?_) (by rfl) ?_ ?_; rotate_left; (intro wS hS; go_simp; try with_reducible rfl); simp only [Act.put, List.setIfInBounds_toArray, List.set_cons_zero, List.set_cons_succ])))
  refine det_nil ?_
  rintro w1 ⟨_, hB, _⟩
  go_wp2_with fail
  go_ret
  exact ⟨rfl, hB⟩
end turnGroup
theorem turnGroup.core (a b c : Int) (xs : List Int) (wa : (Lit.int .u8 a).wf = true) (wb : (Lit.int .u8 b).wf = true) (wc : (Lit.int .u8 c).wf = true) (hx : xs.length = 64) (wx : ∀ y ∈ xs, (Lit.int .i16 y).wf = true) (W : World) (hL : laidMetH Tryd.prog Rows.turnGroupRow.laid W) :
    Calls Tryd.prog 8 #[.int .u8 a, .int .u8 b, .int .u8 c, .agg (ints .i16 xs)] W fun e w' => e = .returned (.bool true) ∧ Below W.heap.size W w' :=
  turnGroup.walk a b c (bounds_u8 wa).1 (bounds_u8 wb).1 (bounds_u8 wc).1 (bounds_u8 wa).2 (bounds_u8 wb).2 (bounds_u8 wc).2 xs hx (i16_bounds wx) W (Tu.named_of hL)
end Go.Proofs.YtcdfamllamjpeaaDoor
