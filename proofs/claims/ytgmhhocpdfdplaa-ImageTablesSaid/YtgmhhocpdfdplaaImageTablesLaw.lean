/- aquatintlaw11.ImageTables, walked. -/
import Derived.Test.YtgmhhocpdfdplaaImgLaw
namespace Go.Proofs.Ytgmhhocpdfdplaa
open Go.RowKit
set_option maxRecDepth 100000
theorem idxF_first (p : Nat → Bool) (k : Nat) : ∀ (n i : Nat), i ≤ k → k < i + n → (∀ j, i ≤ j → j < k → p j = false) → p k = true → idxF p n i = (k : Int)
  | 0, i, h1, h2, _, _ => absurd h2 (by omega)
  | n + 1, i, h1, h2, h3, h4 => by
    by_cases hik : i = k
    · subst hik; unfold idxF; rw [if_pos h4]
    · unfold idxF
      rw [if_neg (by rw [h3 i (Nat.le_refl _) (by omega)]; decide)]
      exact idxF_first p k n (i + 1) (by omega) (by omega) (fun j hj => h3 j (by omega)) h4
theorem idxF_none (p : Nat → Bool) : ∀ (n i : Nat), (∀ j, i ≤ j → j < i + n → p j = false) → idxF p n i = -1
  | 0, i, _ => rfl
  | n + 1, i, h => by
    unfold idxF
    rw [if_neg (by rw [h i (Nat.le_refl _) (by omega)]; decide)]
    exact idxF_none p n (i + 1) (fun j h1 h2 => h j (by omega) (by omega))
namespace imageTables
structure EarlyQ (qs : List QuantArg) (y : Int) (i : Nat) : Prop where
  z : ∀ j, j < i → decide ((qs.getD j noQuant).at_ = y) = false
set_option maxHeartbeats 8000000 in
theorem walk (x : ImgArg) (y : Int) (v : Value) (w : World) (h : IsImg w v x) :
    Calls Try.prog 4 #[v, .int .i64 y] w fun e w' => e = .returned (.bool true) ∧ Below w.heap.size w w' := by
  have hv := h.val
  subst hv
  obtain ⟨qb, qcap, hqu⟩ := h.qs.len
  have HQU := Lib.hid hqu
  clear hqu
  have hL := LI.begin h
  obtain ⟨N, hN⟩ : ∃ N, N = w.heap.size := ⟨_, rfl⟩
  rw [← hN] at hL
  have HN := Lib.hid hN
  clear hN h
  unfold ImgArg.val
  go_enter Try.func4, Try.ntmps4
  go_upto_region 1 with fail
  refine wp_world (LI N x w) hL ?_
  rw [← HN.out]
  clear hL
  intro W hL
  have hsm := fun W h => law_small (.agg #[.int .i64 x.w, .int .i64 x.h, x.cu, x.qu, x.tu]) x W h
  go_upto_region 3 with (first | (go_at_call 18; refine (awake11a _).mono ?_; rintro e w1 ⟨rfl, hb1⟩; have hL1 := hL.below hb1; have p0 := hL1.bN.cell 0; have p1 := hL1.bN.cell 1; have p2 := hL1.bN.cell 2; have p3 := hL1.bN.cell 3; have p4 := hL1.bN.cell 4) | (go_at_call 19; refine (hsm _ hL1.img).mono ?_; rintro e w2 ⟨rfl | ⟨rfl, hf⟩, hb2⟩))
  · go_wp2_with (go_at_call 18; refine (awake11a _).mono ?_; rintro e w3 ⟨rfl, hb3⟩)
    go_ret
    exact ⟨rfl, ((hL1.below hb2).below hb3).hB⟩
  have hL2 := hL1.below hb2
  clear hL hL1 hb1 hb2 hsm p0 p1 p2 p3 p4
  clear w1 W
  have hq20 := hf.q20
  have htl := tabQ_len hL2.img.qs y
  have htb := fun W h => img_table (.agg #[.int .i64 x.w, .int .i64 x.h, x.cu, x.qu, x.tu]) x y (by omega) W h
  have bN := hL2.bN
  obtain ⟨tq, hQ⟩ : ∃ t, tabQ x.qs y = t := ⟨_, rfl⟩
  obtain ⟨r, hR⟩ : ∃ t, tabI x.qs y = t := ⟨_, rfl⟩
  rw [hQ, hR] at htb
  rw [hQ] at htl
  have HQ := Lib.hid hQ
  have HR := Lib.hid hR
  clear hQ hR
  obtain ⟨b, hb⟩ : ∃ b, decide (0 ≤ r) = b := ⟨_, rfl⟩
  rw [hb] at htb
  have HB := Lib.hid hb
  clear hb
  go_upto_region 4 with (first | (refine wpList_load_row rfl 26 _ rfl N rfl 26 _ _ _ bN Try.underlying26 rfl (by kernel_rfl) ?_) | (go_at_call 24; refine (htb _ hL2.img).mono ?_; rintro e w3 ⟨rfl, hb3⟩; obtain ⟨M, hM⟩ : ∃ M, M = w3.heap.size := ⟨_, rfl⟩; have HM := Lib.hid hM; clear hM) | (refine Great.wpList_runTo rfl _ rfl _ _ (run_alloc_tab _ rfl) ?_) | (refine wpList_store_row rfl 35 _ _ rfl M _ (by rw [HM.out]; rfl) rfl 35 _ (Blk.new' _ _ _ HM.out) (by rw [ints_size, htl]; kernel_rfl) (by rw [ints_size, ints_size, htl]; rfl) (ints_one _ _) ?_))
  have hbM : Below w3.heap.size w3 ((w3.alloc (.cells (ints .u16 (List.replicate 64 0)) 35)).setRow M (ints .u16 tq)) := Below.setRow ((Below.refl _ _).alloc (Nat.le_refl _) _) (Nat.le_of_eq HM.out.symm) _
  rw [← HM.out]
  refine wp_world (fun W => LI N x w W ∧ Blk W M (ints .u16 tq) 35) ⟨(hL2.below hb3).below hbM, (Blk.new' _ _ _ HM.out).row _⟩ ?_
  clear hbM hb3 hL2 bN htb
  rintro W ⟨hL, bM⟩
  go_wp2
  go_loopw [7] (fun iv wr => ∃ i : Nat, i ≤ x.qs.length ∧ iv = .int .i64 i ∧ EarlyQ x.qs y i ∧ LI N x w wr ∧ Blk wr M (ints .u16 tq) 35) (fun iv _ => x.qs.length - (intOf iv).toNat)
  case atStart => exact ⟨0, Nat.zero_le _, rfl, ⟨fun j hj => absurd hj (by omega)⟩, hL, bM⟩
  case round =>
    clear hL bM
    obtain ⟨i, hi, rfl, hE, hL, bM⟩ := hrel
    have q3 : wr.cell? ⟨N, 3, none⟩ = some (.slice qb x.qs.length qcap) := by rw [← HQU.out]; exact hL.bN.cell 3
    by_cases hlt : i < x.qs.length
    · have tl : decide (i < x.qs.length) = true := by simpa using hlt
      have hqs : IsQuants wr (.slice qb x.qs.length qcap) x.qs := by have := hL.img.qs; rwa [HQU.out] at this
      obtain ⟨a, rfl, c0⟩ := hqs.place hlt
      have j0 : (0 : Int) ≤ (i : Int) := by omega
      have j1 : (i : Int) < (x.qs.length : Int) := by omega
      by_cases hy : (x.qs[i]'hlt).at_ = y
      · have t1 : decide ((x.qs[i]'hlt).at_ = y) = true := by simpa using hy
        have t2 : ((x.qs[i]'hlt).at_ == y) = true := by simpa using hy
        have hr : r = (i : Int) := by
          rw [← HR.out]
          unfold tabI
          exact idxF_first _ i x.qs.length 0 (by omega) (by omega) (fun j _ hj => hE.z j hj) (by rw [quant_getD hlt]; exact t1)
        have hq : tq = (x.qs[i]'hlt).q := by
          rw [← HQ.out]
          unfold tabQ
          rw [HR.out, hr, if_neg (by omega), Int.toNat_natCast, quant_getD hlt]
        have hb : b = true := by rw [← HB.out, hr]; simp
        subst hb
        have HQ2 := Lib.hid hq
        clear hr hq hy hE HB HR HQ
        go_upto_region 8 with fail
        refine wp_region_det (fun W => LI N x w W ∧ Blk W M (ints .u16 tq) 35) (by kernel_rfl) (by kernel_rfl) ⟨hL.below (Below.refl _ _).drew, bM.drew⟩ ?_
        have hl64 := (hqs.ok _ (List.getElem_mem hlt)).l64
        have hqq : ∀ W, LI N x w W → IsQuants W (.slice (some a) x.qs.length qcap) x.qs := fun W h => by have := h.img.qs; rwa [HQU.out] at this
        (first | (refine det_skip (by rfl) ?_; simp only [Act.put, List.setIfInBounds_toArray, List.set_cons_zero, List.set_cons_succ]) | (refine det_pure (v := ?_) (by rfl) ?_ ?_; rotate_left; (intro wS hS; go_simp; try with_reducible rfl); simp only [Act.put, List.setIfInBounds_toArray, List.set_cons_zero, List.set_cons_succ]))
        (first | (refine det_skip (by rfl) ?_; simp only [Act.put, List.setIfInBounds_toArray, List.set_cons_zero, List.set_cons_succ]) | (refine det_pure (v := ?_) (by rfl) ?_ ?_; rotate_left; (intro wS hS; go_simp; try with_reducible rfl); simp only [Act.put, List.setIfInBounds_toArray, List.set_cons_zero, List.set_cons_succ]))
        refine det_pure (by rfl) (fun w1 hS => run_exec_load_row 35 _ rfl M rfl 35 _ _ hS.2 Try.underlying35 rfl (by rw [ints_size, htl]; kernel_rfl)) ?_
        simp only [Act.put, List.setIfInBounds_toArray, List.set_cons_zero, List.set_cons_succ]
        (first | (refine det_skip (by rfl) ?_; simp only [Act.put, List.setIfInBounds_toArray, List.set_cons_zero, List.set_cons_succ]) | (refine det_pure (v := ?_) (by rfl) ?_ ?_; rotate_left; (intro wS hS; go_simp; try with_reducible rfl); simp only [Act.put, List.setIfInBounds_toArray, List.set_cons_zero, List.set_cons_succ]))
        refine det_pure (v := .slice (some a) x.qs.length qcap) (by rfl) (fun w1 hS => by have cy : w1.cell? ⟨N, 3, none⟩ = some (.slice (some a) x.qs.length qcap) := by rw [← HQU.out]; exact hS.1.bN.cell 3
                                                                                          go_simp; try with_reducible rfl) ?_
        simp only [Act.put, List.setIfInBounds_toArray, List.set_cons_zero, List.set_cons_succ]
        (first | (refine det_skip (by rfl) ?_; simp only [Act.put, List.setIfInBounds_toArray, List.set_cons_zero, List.set_cons_succ]) | (refine det_pure (v := ?_) (by rfl) ?_ ?_; rotate_left; (intro wS hS; go_simp; try with_reducible rfl); simp only [Act.put, List.setIfInBounds_toArray, List.set_cons_zero, List.set_cons_succ]))
        (first | (refine det_skip (by rfl) ?_; simp only [Act.put, List.setIfInBounds_toArray, List.set_cons_zero, List.set_cons_succ]) | (refine det_pure (v := ?_) (by rfl) ?_ ?_; rotate_left; (intro wS hS; go_simp; try with_reducible rfl); simp only [Act.put, List.setIfInBounds_toArray, List.set_cons_zero, List.set_cons_succ]))
        (first | (refine det_skip (by rfl) ?_; simp only [Act.put, List.setIfInBounds_toArray, List.set_cons_zero, List.set_cons_succ]) | (refine det_pure (v := ?_) (by rfl) ?_ ?_; rotate_left; (intro wS hS; go_simp; try with_reducible rfl); simp only [Act.put, List.setIfInBounds_toArray, List.set_cons_zero, List.set_cons_succ]))
        refine det_pure (by rfl) (fun w1 hS => q_load_tab (hqq _ hS.1) hlt _ rfl rfl) ?_
        simp only [Act.put, List.setIfInBounds_toArray, List.set_cons_zero, List.set_cons_succ]
        refine det_pure (v := .bool true) (by rfl) (fun w1 _ => by rw [run_exec_eql_ints 35 _ _ _ rfl 34 64 .u16 tq (x.qs[i]'hlt).q rfl rfl Try.underlying35 Try.underlying34 (by kernel_rfl) htl hl64 (by kernel_rfl), decide_eq_true HQ2.out]) ?_
        simp only [Act.put, List.setIfInBounds_toArray, List.set_cons_zero, List.set_cons_succ]
        (repeat (first | (refine det_skip (by rfl) ?_; simp only [Act.put, List.setIfInBounds_toArray, List.set_cons_zero, List.set_cons_succ]) | (refine det_pure (v := ?_) (by rfl) ?_ ?_; rotate_left; (intro wS hS; go_simp; try with_reducible rfl); simp only [Act.put, List.setIfInBounds_toArray, List.set_cons_zero, List.set_cons_succ])))
        refine det_nil ?_
        intro W9 hS
        go_wp2
        go_ret
        exact ⟨rfl, hS.1.hB⟩
      · have t1 : decide ((x.qs[i]'hlt).at_ = y) = false := by simpa using hy
        have t2 : ((x.qs[i]'hlt).at_ == y) = false := by simpa using hy
        have hE2 : EarlyQ x.qs y (i + 1) := ⟨fun j hj => by
          by_cases hji : j = i
          · rw [hji, quant_getD hlt]; exact t1
          · exact hE.z j (by omega)⟩
        have HE := Lib.hid hE2
        clear hE hE2 hy hqs
        go_wp2
        go_roundw
        case rel => exact ⟨i + 1, by omega, by go_num, HE.out, hL, bM⟩
        case measure => simp [intOf]; omega
    · obtain rfl : i = x.qs.length := by omega
      have tl : decide (x.qs.length < x.qs.length) = false := by simp
      have hr : r = -1 := by
        rw [← HR.out]
        unfold tabI
        exact idxF_none _ x.qs.length 0 (fun j _ hj => hE.z j (by omega))
      have hq : tq = List.replicate 64 0 := by
        rw [← HQ.out]
        unfold tabQ
        rw [HR.out, hr, if_pos (by decide)]
      have hb : b = false := by rw [← HB.out, hr]; rfl
      subst hb
      have HQ2 := Lib.hid hq
      clear hr hq hE HB HR HQ
      go_upto_region 9 with fail
      refine wp_region_seq (fun W => LI N x w W ∧ Blk W M (ints .u16 tq) 35) ⟨hL, bM⟩ ?_
      (first | (refine det_skip (by rfl) ?_; simp only [Act.put, List.setIfInBounds_toArray, List.set_cons_zero, List.set_cons_succ]) | (refine det_pure (v := ?_) (by rfl) ?_ ?_; rotate_left; (intro wS hS; go_simp; try with_reducible rfl); simp only [Act.put, List.setIfInBounds_toArray, List.set_cons_zero, List.set_cons_succ]))
      (first | (refine det_skip (by rfl) ?_; simp only [Act.put, List.setIfInBounds_toArray, List.set_cons_zero, List.set_cons_succ]) | (refine det_pure (v := ?_) (by rfl) ?_ ?_; rotate_left; (intro wS hS; go_simp; try with_reducible rfl); simp only [Act.put, List.setIfInBounds_toArray, List.set_cons_zero, List.set_cons_succ]))
      (first | (refine det_skip (by rfl) ?_; simp only [Act.put, List.setIfInBounds_toArray, List.set_cons_zero, List.set_cons_succ]) | (refine det_pure (v := ?_) (by rfl) ?_ ?_; rotate_left; (intro wS hS; go_simp; try with_reducible rfl); simp only [Act.put, List.setIfInBounds_toArray, List.set_cons_zero, List.set_cons_succ]))
      refine det_pure (by rfl) (fun w1 hS => run_exec_load_row 35 _ rfl M rfl 35 _ _ hS.2 Try.underlying35 rfl (by rw [ints_size, htl]; kernel_rfl)) ?_
      simp only [Act.put, List.setIfInBounds_toArray, List.set_cons_zero, List.set_cons_succ]
      refine det_pure (by rfl) (fun w1 _ => run_exec_build 35 _ rfl (ints .u16 (List.replicate 64 0)) (by kernel_rfl)) ?_
      simp only [Act.put, List.setIfInBounds_toArray, List.set_cons_zero, List.set_cons_succ]
      refine det_pure (v := .bool true) (by rfl) (fun w1 _ => by rw [run_exec_eql_ints 35 _ _ _ rfl 34 64 .u16 tq (List.replicate 64 0) rfl rfl Try.underlying35 Try.underlying34 (by kernel_rfl) htl (by simp) (by kernel_rfl), decide_eq_true HQ2.out]) ?_
      simp only [Act.put, List.setIfInBounds_toArray, List.set_cons_zero, List.set_cons_succ]
      (repeat (first | (refine det_skip (by rfl) ?_; simp only [Act.put, List.setIfInBounds_toArray, List.set_cons_zero, List.set_cons_succ]) | (refine det_pure (v := ?_) (by rfl) ?_ ?_; rotate_left; (intro wS hS; go_simp; try with_reducible rfl); simp only [Act.put, List.setIfInBounds_toArray, List.set_cons_zero, List.set_cons_succ])))
      refine det_nil ?_
      intro W9 hS
      go_wp2
      go_ret
      exact ⟨rfl, hS.1.hB⟩
end imageTables
theorem imageTables.core (v0 : Value) (a0 : ImgArg) (a1 : Int) (_w1 : (Lit.int .i64 a1).wf = true) (W : World) (s0 : IsImg W v0 a0) :
    Calls Try.prog 4 #[v0, .int .i64 a1] W fun e w' => e = .returned (.bool true) ∧ Below W.heap.size W w' := imageTables.walk a0 a1 v0 W s0
end Go.Proofs.Ytgmhhocpdfdplaa
