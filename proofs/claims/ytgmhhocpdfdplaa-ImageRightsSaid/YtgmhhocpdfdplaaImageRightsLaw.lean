/- aquatintlaw11.ImageRights, walked. -/
import Derived.Test.YtgmhhocpdfdplaaR11r
namespace Go.Proofs.Ytgmhhocpdfdplaa
open Go.RowKit
set_option maxRecDepth 100000
namespace imageRights
set_option maxHeartbeats 8000000 in
theorem walk (x : ImgArg) (v : Value) (w : World) (h : IsImg w v x) :
    Calls Try.prog 3 #[v] w fun e w' => e = .returned (.bool true) ∧ Below w.heap.size w w' := by
  have hv := h.val
  subst hv
  have hL := LI.begin h
  obtain ⟨N, hN⟩ : ∃ N, N = w.heap.size := ⟨_, rfl⟩
  rw [← hN] at hL
  have HN := Lib.hid hN
  clear hN h
  unfold ImgArg.val
  go_enter Try.func3, Try.ntmps3
  go_upto_region 1 with fail
  refine wp_world (LI N x w) hL ?_
  rw [← HN.out]
  clear hL
  intro W hL
  have hsm := fun W h => law_small (.agg #[.int .i64 x.w, .int .i64 x.h, x.cu, x.qu, x.tu]) x W h
  go_upto_region 3 with (first | (go_at_call 18; refine (awake11a _).mono ?_; rintro e w1 ⟨rfl, hb1⟩; have hL1 := hL.below hb1; have p0 := hL1.bN.cell 0; have p1 := hL1.bN.cell 1; have p2 := hL1.bN.cell 2; have p3 := hL1.bN.cell 3; have p4 := hL1.bN.cell 4) | (go_at_call 19; refine (hsm _ hL1.img).mono ?_; rintro e w2 ⟨rfl | ⟨rfl, hf⟩, hb2⟩))
  · go_wp2_with (go_at_call 18; refine (awake11a _).mono ?_; rintro e w3 ⟨rfl, hb3⟩)
    go_ret
    exact ⟨rfl, ((hL1.below hb2).below hb3).hB⟩
  have hL2 := hL1.below hb2
  clear hL hL1 hb1 hb2 hsm p0 p1 p2 p3 p4
  clear w1 W
  have hr := fun W h => img_right x W h hf
  have hrr := fun W h => ref_right11 x hf W h
  obtain ⟨E, hE⟩ : ∃ E, imgE x = E := ⟨_, rfl⟩
  rw [hE] at hr hrr
  have hs1 := fun (h0 : E = 0) W h => img_size_ok x.val x W h hf (fun W h => by have := hr W h; rwa [h0] at this)
  have hs2 := fun (h0 : E ≠ 0) W h => img_size_bad x.val x E h0 W h hr
  have hs3 := fun W h => ref_size x.val x W h hf
  obtain ⟨M, hM⟩ : ∃ M, sizeN x = M := ⟨_, rfl⟩
  rw [hM] at hs1 hs3
  unfold ImgArg.val at hr hrr hs1 hs2 hs3
  clear hE hM
  have bN := hL2.bN
  by_cases h0 : E = 0
  · subst h0
    replace hs1 := hs1 rfl
    clear hs2
    go_wp2_with (first
      | (refine wpList_load_row rfl 26 _ rfl N rfl 26 _ _ _ hL2.bN Try.underlying26 rfl (by kernel_rfl) ?_)
      | (go_at_call 20; refine (hr _ hL2.img).mono ?_; rintro e w3 ⟨rfl, hb3⟩; replace hL2 := hL2.below hb3)
      | (go_at_call 21; refine (hs1 _ hL2.img).mono ?_; rintro e w3 ⟨rfl, hb3⟩; replace hL2 := hL2.below hb3)
      | (go_at_call 22; refine (hrr _ hL2.img).mono ?_; rintro e w3 ⟨rfl, hb3⟩; replace hL2 := hL2.below hb3; have p0 := hL2.bN.cell 0; have p1 := hL2.bN.cell 1; have p2 := hL2.bN.cell 2; have p3 := hL2.bN.cell 3; have p4 := hL2.bN.cell 4)
      | (go_at_call 23; refine (hs3 _ hL2.img).mono ?_; rintro e w3 ⟨rfl, hb3⟩; replace hL2 := hL2.below hb3))
    go_ret
    exact ⟨rfl, hL2.hB⟩
  · replace hs2 := hs2 h0
    have t0 : (E != 0) = true := by simpa using h0
    have t1 : (E == 0) = false := by simpa using h0
    clear hs1 hs3 h0
    go_wp2_with (first
      | (refine wpList_load_row rfl 26 _ rfl N rfl 26 _ _ _ hL2.bN Try.underlying26 rfl (by kernel_rfl) ?_)
      | (go_at_call 20; refine (hr _ hL2.img).mono ?_; rintro e w3 ⟨rfl, hb3⟩; replace hL2 := hL2.below hb3)
      | (go_at_call 21; refine (hs2 _ hL2.img).mono ?_; rintro e w3 ⟨rfl, hb3⟩; replace hL2 := hL2.below hb3)
      | (go_at_call 22; refine (hrr _ hL2.img).mono ?_; rintro e w3 ⟨rfl, hb3⟩; replace hL2 := hL2.below hb3))
    go_ret
    exact ⟨rfl, hL2.hB⟩
end imageRights
theorem imageRights.core (v0 : Value) (a0 : ImgArg) (W : World) (s0 : IsImg W v0 a0) :
    Calls Try.prog 3 #[v0] W fun e w' => e = .returned (.bool true) ∧ Below W.heap.size W w' := imageRights.walk a0 v0 W s0
end Go.Proofs.Ytgmhhocpdfdplaa
