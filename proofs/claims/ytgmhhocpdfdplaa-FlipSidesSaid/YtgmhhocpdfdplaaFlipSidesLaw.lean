/- aquatintlaw18.FlipSides, walked. -/
import Derived.Test.YtgmhhocpdfdplaaGO
namespace Go.Proofs.Ytgmhhocpdfdplaa
open Go.RowKit
set_option maxRecDepth 100000
namespace flipSides
set_option maxHeartbeats 16000000 in
theorem walk (x : ImgArg) (v : Value) (w : World) (h : IsImg w v x) :
    Calls Try.prog 15 #[v] w fun e w' => e = .returned (.bool true) ∧ Below w.heap.size w w' := by
  have hv := h.val
  subst hv
  have hL := LI.begin h
  obtain ⟨N, hN⟩ : ∃ N, N = w.heap.size := ⟨_, rfl⟩
  rw [← hN] at hL
  have HN := Lib.hid hN
  have hsm := fun V h => law_small18 x V h
  have hri := fun hf V h => img_right x V h hf
  obtain ⟨E, hE⟩ : ∃ E, imgE x = E := ⟨_, rfl⟩
  rw [hE] at hri
  have HE := Lib.hid hE
  unfold ImgArg.val at hsm hri ⊢
  clear hN h hE
  go_enter Try.func15, Try.ntmps15
  go_upto_region 1 with fail
  refine wp_world (LI N x w) hL ?_
  rw [← HN.out]
  clear hL
  intro V hL
  by_cases h0 : E = 0
  case neg =>
    have t0 : (E != 0) = true := by simpa using h0
    clear h0 HE
    go_wp2_with (first
      | (go_at_call 44; refine (awake18a _).mono ?_; rintro e w1 ⟨rfl, hb1⟩; replace hL := hL.below hb1; have p0 := hL.bN.cell 0; have p1 := hL.bN.cell 1; have p2 := hL.bN.cell 2; have p3 := hL.bN.cell 3; have p4 := hL.bN.cell 4)
      | (go_at_call 45; refine (hsm _ hL.img).mono ?_; rintro e w2 ⟨⟨bb, rfl, hbf⟩, hb2⟩; replace hL := hL.below hb2; have p0 := hL.bN.cell 0; have p1 := hL.bN.cell 1; have p2 := hL.bN.cell 2; have p3 := hL.bN.cell 3; have p4 := hL.bN.cell 4; cases bb)
      | (go_at_call 20; refine (hri (hbf (by first | rfl | trivial)) _ hL.img).mono ?_; rintro e w3 ⟨rfl, hb3⟩; replace hL := hL.below hb3))
    all_goals
      go_ret
      exact ⟨rfl, hL.hB⟩
  subst h0
  go_upto_region 3 with (first
      | (go_at_call 44; refine (awake18a _).mono ?_; rintro e w1 ⟨rfl, hb1⟩; replace hL := hL.below hb1; have p0 := hL.bN.cell 0; have p1 := hL.bN.cell 1; have p2 := hL.bN.cell 2; have p3 := hL.bN.cell 3; have p4 := hL.bN.cell 4)
      | (go_at_call 45; refine (hsm _ hL.img).mono ?_; rintro e w2 ⟨⟨bb, rfl, hbf⟩, hb2⟩; replace hL := hL.below hb2; have p0 := hL.bN.cell 0; have p1 := hL.bN.cell 1; have p2 := hL.bN.cell 2; have p3 := hL.bN.cell 3; have p4 := hL.bN.cell 4; cases bb)
      | (go_at_call 20; refine (hri (hbf (by first | rfl | trivial)) _ hL.img).mono ?_; rintro e w3 ⟨rfl, hb3⟩; replace hL := hL.below hb3))
  · go_wp2_with (go_at_call 44; refine (awake18a _).mono ?_; rintro e w3 ⟨rfl, hb3⟩; replace hL := hL.below hb3)
    go_ret
    exact ⟨rfl, hL.hB⟩
  have hf := hbf (by first | rfl | trivial)
  have hR := right_of_imgE HE.out
  have hfr := fun V h => img_frame x V h hf.c20
  have hf0 := hR.fr
  rw [hf0] at hfr
  obtain ⟨hnw, hnh, hnu, hnv, -⟩ := hR.nums
  have hmay := fun k V h => flip_may x hf k V h
  have HM := Lib.hid (fun k (k0 : 0 ≤ k) (k8 : k < 8) => mayE_right hR (k := k) k0 k8)
  have HU1 := Lib.hid (show uwI x = 8 * hhN (partsOf (psOf x.cs)) from rfl)
  have HU2 := Lib.hid (show uhI x = 8 * vvN (partsOf (psOf x.cs)) from rfl)
  generalize 8 * hhN (partsOf (psOf x.cs)) = uw at *
  generalize 8 * vvN (partsOf (psOf x.cs)) = uh at *
  rw [HU1.out] at hnu
  rw [HU2.out] at hnv
  generalize acN x.w (partsOf (psOf x.cs)) = ac at *
  generalize dnN x.h (partsOf (psOf x.cs)) = dn at *
  unfold ImgArg.val at hmay
  have hu0 : uw ≠ 0 := by omega
  have hv0 : uh ≠ 0 := by omega
  have hu1 : uw ≠ -1 := by omega
  have hv1 : uh ≠ -1 := by omega
  clear hsm hri hbf hR hf0 HE p0 p1 p2 p3 p4 hb1 hb2 hb3
  go_upto_region 5 with (first
    | (refine wpList_load_row rfl 26 _ rfl N rfl 26 _ _ _ hL.bN Try.underlying26 rfl (by kernel_rfl) ?_)
    | (go_at_call 48; refine (hfr _ hL.img).mono ?_; rintro r w4 ⟨f, rfl, hb4, -, hf2⟩; obtain ⟨F, rfl, -, hFU⟩ := hf2 (by first | rfl | trivial); replace hL := hL.below hb4)
    | (go_at_call 49; refine (fr_unit F uw uh ac dn _ hFU).mono ?_; rintro r w5 ⟨rfl, hb5⟩; replace hL := hL.below hb5))
  refine wp_world (LI N x w) hL ?_
  clear hL hfr hf2 hFU hb4 hb5
  intro V1 hL
  go_wp2
  go_loopw [7] (fun iv wr => ∃ k : Nat, k ≤ 8 ∧ iv = .int .i64 k ∧ LI N x w wr) (fun iv _ => 8 - (intOf iv).toNat)
  case atStart => exact ⟨0, by omega, rfl, hL⟩
  case round =>
    clear hL
    obtain ⟨k, hk, rfl, hL⟩ := hrel
    by_cases hlt : k < 8
    · have tl : decide ((k : Int) < 8) = true := by simp; omega
      have hm := HM.out (k : Int) (by omega) (by omega)
      have hmi := fun V => mirrors_yes (k : Int) (by omega) (by omega) V
      have hmk := fun V h => hmay (k : Int) V h
      rw [HU1.out, HU2.out] at hm
      obtain ⟨E, hE⟩ : ∃ E, mayE x k = E := ⟨_, rfl⟩
      rw [hE] at hm hmk
      obtain ⟨b1, t1⟩ : ∃ b, (x.w % uw == 0) = b := ⟨_, rfl⟩
      obtain ⟨b2, t2⟩ : ∃ b, (x.h % uh == 0) = b := ⟨_, rfl⟩
      generalize Tu.mirA (k : Int) = A at *
      generalize Tu.mirD (k : Int) = D at *
      have hb : E = if (A = true ∧ b1 = false) ∨ (D = true ∧ b2 = false) then 13 else 0 := by
        rw [hm, ← t1, ← t2]
        simp only [beq_eq_false_iff_ne]
      have HB := Lib.hid hb
      clear hb hm hE hmay
      have n0 := hL.bN.cell 0
      go_upto_region 10 with (first
        | (refine wpList_load_row rfl 26 _ rfl N rfl 26 _ _ _ hL.bN Try.underlying26 rfl (by kernel_rfl) ?_)
        | (go_at_call 50; refine (hmk _ hL.img).mono ?_; rintro r w5 ⟨rfl, hb5⟩; replace hL := hL.below hb5)
        | (go_at_call 51; refine (hmi _).mono ?_; rintro r w5 ⟨rfl, rfl⟩))
      have n0 := hL.bN.cell 0; have n1 := hL.bN.cell 1
      clear hmk hmi
      cases A <;> cases D <;> cases b1 <;> cases b2 <;> (
        have hb := HB.out
        simp at hb
        subst hb
        clear HB
        go_wp2
        exact ⟨⟨k + 1, by omega, by go_num, hL⟩, by simp [intOf]; omega⟩)
    · obtain rfl : k = 8 := by omega
      have tl : decide ((8 : Int) < 8) = false := rfl
      go_wp2
      go_ret
      exact ⟨rfl, hL.hB⟩
end flipSides
theorem flipSides.core (v0 : Value) (a0 : ImgArg) (W : World) (s0 : IsImg W v0 a0) :
    Calls Try.prog 15 #[v0] W fun e w' => e = .returned (.bool true) ∧ Below W.heap.size W w' := flipSides.walk a0 v0 W s0
end Go.Proofs.Ytgmhhocpdfdplaa
