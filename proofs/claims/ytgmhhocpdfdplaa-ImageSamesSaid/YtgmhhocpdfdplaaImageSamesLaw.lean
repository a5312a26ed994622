/- aquatintlaw11.ImageSames, walked. -/
import Derived.Test.YtgmhhocpdfdplaaR11s
namespace Go.Proofs.Ytgmhhocpdfdplaa
open Go.RowKit
set_option maxRecDepth 100000
theorem sameB_self (x : ImgArg) : sameB x x = true := by simp [sameB]
namespace imageSames
set_option maxHeartbeats 8000000 in
theorem walk (x y : ImgArg) (v0 v1 : Value) (w : World) (h1 : IsImg w v0 x) (h2 : IsImg w v1 y) :
    Calls Try.prog 7 #[v0, v1] w fun e w' => e = .returned (.bool true) ∧ Below w.heap.size w w' := by
  have hv0 := h1.val
  have hv1 := h2.val
  subst hv0 hv1
  have hT := TwoI.begin h1 h2
  obtain ⟨N, hN⟩ : ∃ N, N = w.heap.size := ⟨_, rfl⟩
  rw [← hN] at hT
  have HN := Lib.hid hN
  clear hN h1 h2
  unfold ImgArg.val
  go_enter Try.func7, Try.ntmps7
  go_upto_region 1 with fail
  refine wp_world (TwoI N x y w) hT ?_
  rw [← HN.out]
  clear hT
  intro W hT
  have hsm := fun W h => law_small (.agg #[.int .i64 x.w, .int .i64 x.h, x.cu, x.qu, x.tu]) x W h
  have hsn := fun W h => law_small (.agg #[.int .i64 y.w, .int .i64 y.h, y.cu, y.qu, y.tu]) y W h
  go_upto_region 3 with (first | (go_at_call 18; refine (awake11a _).mono ?_; rintro e w1 ⟨rfl, hb1⟩; have hT1 := hT.below hb1; have p0 := hT1.bN.cell 0; have p1 := hT1.bN.cell 1; have p2 := hT1.bN.cell 2; have p3 := hT1.bN.cell 3; have p4 := hT1.bN.cell 4) | (go_at_call 19; refine (hsm _ hT1.hx).mono ?_; rintro e w2 ⟨he, hb2⟩; have hT2 := hT1.below hb2; have q0 := hT2.bM.cell 0; have q1 := hT2.bM.cell 1; have q2 := hT2.bM.cell 2; have q3 := hT2.bM.cell 3; have q4 := hT2.bM.cell 4; rcases he with rfl | ⟨rfl, hf⟩) | (go_at_call 19; refine (hsn _ hT2.hy).mono ?_; rintro e w3 ⟨he, hb3⟩; have hT3 := hT2.below hb3; rcases he with rfl | ⟨rfl, hfy⟩))
  · go_wp2_with (go_at_call 18; refine (awake11a _).mono ?_; rintro e w3 ⟨rfl, hb3⟩)
    go_ret
    exact ⟨rfl, (hT2.below hb3).hB⟩
  · go_wp2_with (go_at_call 18; refine (awake11a _).mono ?_; rintro e w4 ⟨rfl, hb4⟩)
    go_ret
    exact ⟨rfl, (hT3.below hb4).hB⟩
  have hs1 := fun W (h : TwoI N x y w W) => img_same x y hf W h.hx h.hy
  have hs2 := fun W (h : TwoI N x y w W) => ref11_same x y hf W h.hx h.hy
  have hs3 := fun W (h : TwoI N x y w W) => img_same x x hf W h.hx h.hx
  rw [sameB_self] at hs3
  unfold ImgArg.val at hs1 hs2 hs3
  generalize sameB x y = R at *
  refine wp_region_det (fun W => TwoI N x y w W) (by kernel_rfl) (by kernel_rfl) (hT3.below (Below.refl _ _).drew) ?_
  refine det_pure (by rfl) (fun w1 hS => run_exec_load_row 26 _ rfl N rfl 26 _ _ hS.bN Try.underlying26 rfl (by kernel_rfl)) ?_
  simp only [Act.put, List.setIfInBounds_toArray, List.set_cons_zero, List.set_cons_succ]
  refine det_pure (by rfl) (fun w1 hS => run_exec_load_row 26 _ rfl (N + 1) rfl 26 _ _ hS.bM Try.underlying26 rfl (by kernel_rfl)) ?_
  simp only [Act.put, List.setIfInBounds_toArray, List.set_cons_zero, List.set_cons_succ]
  refine det_call (v := .bool R) (by rfl) (by intro wS hS; go_simp; first | done | exact ⟨rfl, rfl⟩) (fun W hS => (hs1 W hS).mono fun e w' hh => ⟨hh.1, hS.below hh.2⟩) ?_
  simp only [Act.put, List.setIfInBounds_toArray, List.set_cons_zero, List.set_cons_succ]
  refine det_pure (by rfl) (fun w1 hS => run_exec_load_row 26 _ rfl N rfl 26 _ _ hS.bN Try.underlying26 rfl (by kernel_rfl)) ?_
  simp only [Act.put, List.setIfInBounds_toArray, List.set_cons_zero, List.set_cons_succ]
  refine det_pure (by rfl) (fun w1 hS => run_exec_load_row 26 _ rfl (N + 1) rfl 26 _ _ hS.bM Try.underlying26 rfl (by kernel_rfl)) ?_
  simp only [Act.put, List.setIfInBounds_toArray, List.set_cons_zero, List.set_cons_succ]
  refine det_call (v := .bool R) (by rfl) (by intro wS hS; go_simp; first | done | exact ⟨rfl, rfl⟩) (fun W hS => (hs2 W hS).mono fun e w' hh => ⟨hh.1, hS.below hh.2⟩) ?_
  simp only [Act.put, List.setIfInBounds_toArray, List.set_cons_zero, List.set_cons_succ]
  refine det_pure (v := .bool true) (by rfl) (fun wS hS => by go_simp; try simp) ?_
  simp only [Act.put, List.setIfInBounds_toArray, List.set_cons_zero, List.set_cons_succ]
  (first | (refine det_skip (by rfl) ?_; simp only [Act.put, List.setIfInBounds_toArray, List.set_cons_zero, List.set_cons_succ]) | (refine det_pure (v := ?_) (by rfl) ?_ ?_; rotate_left; (intro wS hS; go_simp; try with_reducible rfl); simp only [Act.put, List.setIfInBounds_toArray, List.set_cons_zero, List.set_cons_succ]))
  refine det_pure (by rfl) (fun w1 hS => run_exec_load_row 26 _ rfl N rfl 26 _ _ hS.bN Try.underlying26 rfl (by kernel_rfl)) ?_
  simp only [Act.put, List.setIfInBounds_toArray, List.set_cons_zero, List.set_cons_succ]
  refine det_pure (by rfl) (fun w1 hS => run_exec_load_row 26 _ rfl N rfl 26 _ _ hS.bN Try.underlying26 rfl (by kernel_rfl)) ?_
  simp only [Act.put, List.setIfInBounds_toArray, List.set_cons_zero, List.set_cons_succ]
  refine det_call (v := .bool true) (by rfl) (by intro wS hS; go_simp; first | done | exact ⟨rfl, rfl⟩) (fun W hS => (hs3 W hS).mono fun e w' hh => ⟨hh.1, hS.below hh.2⟩) ?_
  simp only [Act.put, List.setIfInBounds_toArray, List.set_cons_zero, List.set_cons_succ]
  (repeat (first | (refine det_skip (by rfl) ?_; simp only [Act.put, List.setIfInBounds_toArray, List.set_cons_zero, List.set_cons_succ]) | (refine det_pure (v := ?_) (by rfl) ?_ ?_; rotate_left; (intro wS hS; go_simp; try with_reducible rfl); simp only [Act.put, List.setIfInBounds_toArray, List.set_cons_zero, List.set_cons_succ])))
  refine det_nil ?_
  intro W9 hS
  go_wp2
  go_ret
  exact ⟨rfl, hS.hB⟩
end imageSames
theorem imageSames.core (v0 : Value) (a0 : ImgArg) (v1 : Value) (a1 : ImgArg) (W : World) (s0 : IsImg W v0 a0) (s1 : IsImg W v1 a1) :
    Calls Try.prog 7 #[v0, v1] W fun e w' => e = .returned (.bool true) ∧ Below W.heap.size W w' := imageSames.walk a0 a1 v0 v1 W s0 s1
end Go.Proofs.Ytgmhhocpdfdplaa
