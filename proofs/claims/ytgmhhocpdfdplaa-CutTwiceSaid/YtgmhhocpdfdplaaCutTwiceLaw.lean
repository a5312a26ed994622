/- aquatintlaw19.CutTwice, walked. -/
import Derived.Test.YtgmhhocpdfdplaaCutK
import Derived.Test.YtgmhhocpdfdplaaCutT
import Derived.Test.YtgmhhocpdfdplaaOpenCut
namespace Go.Proofs.Ytgmhhocpdfdplaa
open Go.RowKit
set_option maxRecDepth 100000
namespace cutTwice
set_option maxHeartbeats 16000000 in
theorem walk (x : ImgArg) (X Y W H X2 Y2 W2 H2 : Int) (hW : (Lit.int .i64 W).wf = true) (hH : (Lit.int .i64 H).wf = true) (hW2 : (Lit.int .i64 W2).wf = true) (hH2 : (Lit.int .i64 H2).wf = true) (v : Value) (w : World) (h : IsImg w v x) :
    Calls Try.prog 11 #[v, .agg #[.int .i64 X, .int .i64 Y, .int .i64 W, .int .i64 H], .agg #[.int .i64 X2, .int .i64 Y2, .int .i64 W2, .int .i64 H2]] w fun e w' => e = .returned (.bool true) ∧ Below w.heap.size w w' := by
  have hv := h.val
  subst hv
  have HI := Lib.hid h
  have hL := LR.begin h X Y W H 68
  obtain ⟨N, hN⟩ : ∃ N, N = w.heap.size := ⟨_, rfl⟩
  rw [← hN] at hL
  have HN := Lib.hid hN
  have hsm := fun V h => law_small19 x V h
  unfold ImgArg.val at hsm
  clear hN h
  unfold ImgArg.val
  go_enter Try.func11, Try.ntmps11
  go_upto_region 1 with fail
  refine wp_world (fun V => LR N x X Y W H 68 w V ∧ Blk V (N + 2) #[.int .i64 X2, .int .i64 Y2, .int .i64 W2, .int .i64 H2] 68) ⟨hL.below ((Below.refl _ _).alloc (Nat.le_refl _) _), Blk.new' _ _ _ (by rw [HN.out]; simp)⟩ ?_
  rw [← HN.out]
  clear hL
  rintro V ⟨hL, bS⟩
  go_upto_region 3 with (first | (go_at_call 32; refine (awake19a _).mono ?_; rintro e w1 ⟨rfl, hb1⟩; have hL1 := hL.below hb1; have bS1 := bS.below hb1 bS.lt; have p0 := hL1.l.bN.cell 0; have p1 := hL1.l.bN.cell 1; have p2 := hL1.l.bN.cell 2; have p3 := hL1.l.bN.cell 3; have p4 := hL1.l.bN.cell 4) | (go_at_call 33; refine (hsm _ hL1.l.img).mono ?_; rintro e w2 ⟨⟨bb, rfl, hbf⟩, hb2⟩; cases bb))
  · go_wp2_with (go_at_call 32; refine (awake19a _).mono ?_; rintro e w3 ⟨rfl, hb3⟩)
    go_ret
    exact ⟨rfl, ((hL1.below hb2).below hb3).hB⟩
  have hf := hbf (by first | rfl | trivial)
  have hG0 := And.intro (hL1.below hb2) (bS1.below hb2 bS1.lt)
  clear hL hL1 bS bS1 hb1 hb2 hsm p0 p1 p2 p3 p4 hbf
  have hc1 := fun V hI => cut_crop x hf X Y W H hW hH V hI
  have HC3 := Lib.hid (fun V hI => cut_crop x hf (X + X2) (Y + Y2) W2 H2 hW2 hH2 V hI)
  have HR1 := Lib.hid (fun (h0 : unE x X Y W H = 0) => (crop_right h0).imgE)
  have HTW := Lib.hid (fun (h0 : unE x X Y W H = 0) => crop_twice (X2 := X2) (Y2 := Y2) (W2 := W2) (H2 := H2) h0)
  have HB1 := Lib.hid (fun (h0 : unE x X Y W H = 0) => And.intro (wiE_zero (unE_zero h0).1) (right_of_imgE (wiE_zero (unE_zero h0).1).1).nums)
  have HS := Lib.hid (fun (h0 : unE x X Y W H = 0) => (show (cropD x X Y W H).w = W ∧ (cropD x X Y W H).h = H by unfold cropD; rw [if_pos h0]; exact ⟨rfl, rfl⟩))
  generalize cropD x X Y W H = D1 at *
  generalize unE x X Y W H = E1 at *
  unfold ImgArg.val at hc1 HC3
  have hlN := hG0.1.bR.lt
  have hGm : ∀ V V', (fun V => LR N x X Y W H 68 w V ∧ Blk V (N + 2) #[.int .i64 X2, .int .i64 Y2, .int .i64 W2, .int .i64 H2] 68) V → Below V.heap.size V V' → (fun V => LR N x X Y W H 68 w V ∧ Blk V (N + 2) #[.int .i64 X2, .int .i64 Y2, .int .i64 W2, .int .i64 H2] 68) V' := fun V V' hG hb => ⟨hG.1.below hb, hG.2.below hb hG.2.lt⟩
  refine wp_region_late [6] [0, 1, 2, 3, 4, 5, 6, 7] [8, 9] (fun V => LR N x X Y W H 68 w V ∧ Blk V (N + 2) #[.int .i64 X2, .int .i64 Y2, .int .i64 W2, .int .i64 H2] 68)
    (fun | 2 => some (sFix (.agg #[.int .i64 X, .int .i64 Y, .int .i64 W, .int .i64 H])) | 3 => some (sRel (shI E1) (fI D1)) | 7 => some (sNew #[.int .i64 0, .int .i64 0, .slice none 0 0, .slice none 0 0, .slice none 0 0] 26) | _ => none) (fun _ => []) (by kernel_rfl) (by kernel_rfl) (by intro j hj; simp at hj; subst hj; rfl) (hGm _ _ hG0 (Below.refl _ _).drew) ?_ ?_
  · intro i s hs
    match i with
    | 2 => cases hs; exact fun _ _ => sFix_mono _ _ _
    | 3 => cases hs; exact fun _ _ => fI_mono _ _
    | 7 => cases hs; exact fun _ _ => sNew_mono _ _ _ _
  simp only [pick, List.getD_cons_succ, List.getD_cons_zero, List.zip_cons_cons, List.zip_nil_right]
  refine mono_pure (by rfl) rfl (fun w1 hG => run_exec_load_row 26 _ rfl N rfl 26 _ _ hG.1.l.bN Try.underlying26 rfl (by kernel_rfl)) ?_
  simp only [Act.put, List.setIfInBounds_toArray, List.set_cons_zero, List.set_cons_succ]
  refine mono_pure (by rfl) rfl (fun w1 hG => run_exec_load_row 68 _ rfl (N + 1) rfl 68 _ _ hG.1.bR Try.underlying68 rfl (by kernel_rfl)) ?_
  simp only [Act.put, List.setIfInBounds_toArray, List.set_cons_zero, List.set_cons_succ]
  refine mono_fix (.agg #[.int .i64 X, .int .i64 Y, .int .i64 W, .int .i64 H]) (by rfl) rfl hGm (by intro w hG; go_simp; first | done | exact ⟨rfl, rfl⟩) (fun w1 hG hH => law_of19 _ _ _ _ w1) ?_
  simp only [Act.put, List.setIfInBounds_toArray, List.set_cons_zero, List.set_cons_succ]
  refine mono_rel (shI E1) (fI D1) (by rfl) rfl hGm (by intro w hG; go_simp; first | done | exact ⟨rfl, rfl⟩) ⟨_, 0, 0, none, 0, 0, none, 0, 0, none, 0, 0, rfl⟩ (fun w1 hG hH => ?_) (fun v3 hv3 => ?_)
  · refine (hc1 w1 hG.1.l.img).mono ?_
    rintro e w2 ⟨⟨x1, hres⟩, hb⟩
    obtain ⟨v, e1, e2, e3⟩ := hres.vals
    exact ⟨v, e1, e2, hb, e3 _ _⟩
  obtain ⟨aw, ah, ab, am, ac, aqb, aqn, aqc, atb, atn, atc, rfl⟩ := hv3
  simp only [Act.put, List.setIfInBounds_toArray, List.set_cons_zero, List.set_cons_succ]
  (repeat (first | (refine mono_skip (by rfl) ?_; simp only [Act.put, List.setIfInBounds_toArray, List.set_cons_zero, List.set_cons_succ]) | (refine mono_pure (v := ?_) (by rfl) rfl ?_ ?_; rotate_left; (intro wS hS; go_simp; try with_reducible rfl); simp only [Act.put, List.setIfInBounds_toArray, List.set_cons_zero, List.set_cons_succ])))
  refine mono_alloc #[.int .i64 0, .int .i64 0, .slice none 0 0, .slice none 0 0, .slice none 0 0] 26 (by rfl) rfl hGm (by intro w; go_simp; try with_reducible rfl) ?_
  intro ga
  simp only [Act.put, List.setIfInBounds_toArray, List.set_cons_zero, List.set_cons_succ]
  refine mono_nil ?_
  rintro w3 hG ⟨_, I, hI1, _⟩
  obtain ⟨hg0, hg1, hg2, g', hge, hg3, -, hgb⟩ := hI1 7 _ (upd_self _ _ _)
  obtain rfl : ga = g' := by simpa using hge
  obtain ⟨-, -, -, hfi⟩ := hI1 3 _ rfl
  obtain ⟨acs, aqs, ats, hsd, hot, hfe, hw1, hw2⟩ := fI_get hfi
  have hgn : N + 1 < ga := Nat.lt_of_lt_of_le hlN (Nat.le_trans hg0 hg3)
  have hNew : BX ga D1 ⟨aw, ah, .slice ab am ac, .slice aqb aqn aqc, .slice atb atn atc, acs, aqs, ats⟩ (w3.setRow ga #[.int .i64 aw, .int .i64 ah, .slice ab am ac, .slice aqb aqn aqc, .slice atb atn atc]) := BX.new hgb hot hsd hfe hw1 hw2
  go_wp2_with (refine wpList_store_row rfl 26 _ _ rfl ga _ rfl rfl 26 _ hgb (by kernel_rfl) rfl (by simp [Value.oneCell']) ?_)
  refine onlyN_intro ?_
  go_upto_region 4 with fail
  have hgn2 : N + 2 < ga := Nat.lt_of_lt_of_le hG0.2.lt (Nat.le_trans hg0 hg3)
  have hX : (fun V => (LR N x X Y W H 68 w V ∧ Blk V (N + 2) #[.int .i64 X2, .int .i64 Y2, .int .i64 W2, .int .i64 H2] 68) ∧ BX ga D1 ⟨aw, ah, .slice ab am ac, .slice aqb aqn aqc, .slice atb atn atc, acs, aqs, ats⟩ V) (w3.setRow ga #[.int .i64 aw, .int .i64 ah, .slice ab am ac, .slice aqb aqn aqc, .slice atb atn atc]) := ⟨⟨hG.1.setRow HI.out hgn _, hG.2.rowOther _ _ (Nat.ne_of_lt hgn2)⟩, hNew⟩
  refine wp_world (fun V => (LR N x X Y W H 68 w V ∧ Blk V (N + 2) #[.int .i64 X2, .int .i64 Y2, .int .i64 W2, .int .i64 H2] 68) ∧ BX ga D1 ⟨aw, ah, .slice ab am ac, .slice aqb aqn aqc, .slice atb atn atc, acs, aqs, ats⟩ V) hX ?_
  clear hX hNew hG hgb hfi hot hsd hfe hw1 hw2 hI1 hGm hG0 hgn hgn2 hg0 hg1 hg2 hg3 hc1 hlN
  intro V1 hG0
  by_cases h1 : E1 = 0
  · subst h1
    have hD1 := hG0.2.d
    have hf1 := hG0.2.few
    have hc2 := fun V hI => cut_crop ⟨aw, ah, .slice ab am ac, .slice aqb aqn aqc, .slice atb atn atc, acs, aqs, ats⟩ hf1 X2 Y2 W2 H2 hW2 hH2 V hI
    have hue : unE ⟨aw, ah, .slice ab am ac, .slice aqb aqn aqc, .slice atb atn atc, acs, aqs, ats⟩ X2 Y2 W2 H2 = unE D1 X2 Y2 W2 H2 := hD1.unE X2 Y2 W2 H2
    have HSD := Lib.hid (hD1.crop X2 Y2 W2 H2)
    have htw := HTW.out rfl
    have hu2 := unE_two (X := X2) (Y := Y2) (W := W2) (H := H2) (HR1.out rfl)
    have hU := fun (h0 : unE D1 X2 Y2 W2 H2 = 0) => wiE_zero (unE_zero h0).1
    rw [(HS.out rfl).1, (HS.out rfl).2] at hU
    rw [hue] at hc2
    generalize cropD ⟨aw, ah, .slice ab am ac, .slice aqb aqn aqc, .slice atb atn atc, acs, aqs, ats⟩ X2 Y2 W2 H2 = D2 at *
    generalize cropD D1 X2 Y2 W2 H2 = D3 at *
    generalize unE D1 X2 Y2 W2 H2 = E2 at *
    unfold ImgArg.val at hc2
    simp only at hc2
    have HTW2 := Lib.hid htw; have HU2 := Lib.hid hu2; have HUU := Lib.hid hU
    clear HTW htw hu2 hU hue hD1 HR1 HS
    have hlN := hG0.1.1.bR.lt
    have hltga := hG0.2.b.lt
    have hlN2 := hG0.1.2.lt
    go_upto_region 6 with fail
    have hGm : ∀ V V', (fun V => (LR N x X Y W H 68 w V ∧ Blk V (N + 2) #[.int .i64 X2, .int .i64 Y2, .int .i64 W2, .int .i64 H2] 68) ∧ BX ga D1 ⟨aw, ah, .slice ab am ac, .slice aqb aqn aqc, .slice atb atn atc, acs, aqs, ats⟩ V) V → Below V.heap.size V V' → (fun V => (LR N x X Y W H 68 w V ∧ Blk V (N + 2) #[.int .i64 X2, .int .i64 Y2, .int .i64 W2, .int .i64 H2] 68) ∧ BX ga D1 ⟨aw, ah, .slice ab am ac, .slice aqb aqn aqc, .slice atb atn atc, acs, aqs, ats⟩ V) V' := fun V V' hG hb => ⟨⟨hG.1.1.below hb, hG.1.2.below hb hG.1.2.lt⟩, hG.2.below hb⟩
    refine wp_region_late [6] [0, 1, 2, 3, 4, 5, 6, 7] [8, 9] (fun V => (LR N x X Y W H 68 w V ∧ Blk V (N + 2) #[.int .i64 X2, .int .i64 Y2, .int .i64 W2, .int .i64 H2] 68) ∧ BX ga D1 ⟨aw, ah, .slice ab am ac, .slice aqb aqn aqc, .slice atb atn atc, acs, aqs, ats⟩ V)
      (fun | 2 => some (sFix (.agg #[.int .i64 X2, .int .i64 Y2, .int .i64 W2, .int .i64 H2])) | 3 => some (sRel (shI E2) (fI D2)) | 7 => some (sNew #[.int .i64 0, .int .i64 0, .slice none 0 0, .slice none 0 0, .slice none 0 0] 26) | _ => none) (fun _ => []) (by kernel_rfl) (by kernel_rfl) (by intro j hj; simp at hj; subst hj; rfl) (hGm _ _ hG0 (Below.refl _ _).drew) ?_ ?_
    · intro i s hs
      match i with
      | 2 => cases hs; exact fun _ _ => sFix_mono _ _ _
      | 3 => cases hs; exact fun _ _ => fI_mono _ _
      | 7 => cases hs; exact fun _ _ => sNew_mono _ _ _ _
    simp only [pick, List.getD_cons_succ, List.getD_cons_zero, List.zip_cons_cons, List.zip_nil_right]
    refine mono_pure (by rfl) rfl (fun w1 hG => run_exec_load_row 26 _ rfl ga rfl 26 _ _ hG.2.b Try.underlying26 rfl (by kernel_rfl)) ?_
    simp only [Act.put, List.setIfInBounds_toArray, List.set_cons_zero, List.set_cons_succ]
    refine mono_pure (by rfl) rfl (fun w1 hG => run_exec_load_row 68 _ rfl (N + 2) rfl 68 _ _ hG.1.2 Try.underlying68 rfl (by kernel_rfl)) ?_
    simp only [Act.put, List.setIfInBounds_toArray, List.set_cons_zero, List.set_cons_succ]
    refine mono_fix (.agg #[.int .i64 X2, .int .i64 Y2, .int .i64 W2, .int .i64 H2]) (by rfl) rfl hGm (by intro w hG; go_simp; first | done | exact ⟨rfl, rfl⟩) (fun w1 hG hH => law_of19 _ _ _ _ w1) ?_
    simp only [Act.put, List.setIfInBounds_toArray, List.set_cons_zero, List.set_cons_succ]
    refine mono_rel (shI E2) (fI D2) (by rfl) rfl hGm (by intro w hG; go_simp; first | done | exact ⟨rfl, rfl⟩) ⟨_, 0, 0, none, 0, 0, none, 0, 0, none, 0, 0, rfl⟩ (fun w1 hG hH => ?_) (fun v3 hv3 => ?_)
    · refine (hc2 w1 hG.2.img).mono ?_
      rintro e w2 ⟨⟨x1, hres⟩, hb⟩
      obtain ⟨v, e1, e2, e3⟩ := hres.vals
      exact ⟨v, e1, e2, hb, e3 _ _⟩
    obtain ⟨bw, bh, bb, bm, bc, bqb, bqn, bqc, btb, btn, btc, rfl⟩ := hv3
    simp only [Act.put, List.setIfInBounds_toArray, List.set_cons_zero, List.set_cons_succ]
    (repeat (first | (refine mono_skip (by rfl) ?_; simp only [Act.put, List.setIfInBounds_toArray, List.set_cons_zero, List.set_cons_succ]) | (refine mono_pure (v := ?_) (by rfl) rfl ?_ ?_; rotate_left; (intro wS hS; go_simp; try with_reducible rfl); simp only [Act.put, List.setIfInBounds_toArray, List.set_cons_zero, List.set_cons_succ])))
    refine mono_alloc #[.int .i64 0, .int .i64 0, .slice none 0 0, .slice none 0 0, .slice none 0 0] 26 (by rfl) rfl hGm (by intro w; go_simp; try with_reducible rfl) ?_
    intro gb
    simp only [Act.put, List.setIfInBounds_toArray, List.set_cons_zero, List.set_cons_succ]
    refine mono_nil ?_
    rintro w3 hG ⟨_, I, hI1, _⟩
    obtain ⟨hg0, hg1, hg2, g', hge, hg3, -, hgb⟩ := hI1 7 _ (upd_self _ _ _)
    obtain rfl : gb = g' := by simpa using hge
    obtain ⟨-, -, -, hfi⟩ := hI1 3 _ rfl
    obtain ⟨bcs, bqs, bts, hsd, hot, hfe, hw1, hw2⟩ := fI_get hfi
    have hgn : N + 1 < gb := Nat.lt_of_lt_of_le hlN (Nat.le_trans hg0 hg3)
    have hnega : ga ≠ gb := Nat.ne_of_lt (Nat.lt_of_lt_of_le hltga (Nat.le_trans hg0 hg3))
    have hNew : BX gb D2 ⟨bw, bh, .slice bb bm bc, .slice bqb bqn bqc, .slice btb btn btc, bcs, bqs, bts⟩ (w3.setRow gb #[.int .i64 bw, .int .i64 bh, .slice bb bm bc, .slice bqb bqn bqc, .slice btb btn btc]) := BX.new hgb hot hsd hfe hw1 hw2
    go_wp2_with (refine wpList_store_row rfl 26 _ _ rfl gb _ rfl rfl 26 _ hgb (by kernel_rfl) rfl (by simp [Value.oneCell']) ?_)
    refine onlyN_intro ?_
    go_upto_region 7 with fail
    have hgn2 : N + 2 < gb := Nat.lt_of_lt_of_le hlN2 (Nat.le_trans hg0 hg3)
    have hX : (fun V => ((LR N x X Y W H 68 w V ∧ Blk V (N + 2) #[.int .i64 X2, .int .i64 Y2, .int .i64 W2, .int .i64 H2] 68) ∧ BX ga D1 ⟨aw, ah, .slice ab am ac, .slice aqb aqn aqc, .slice atb atn atc, acs, aqs, ats⟩ V) ∧ BX gb D2 ⟨bw, bh, .slice bb bm bc, .slice bqb bqn bqc, .slice btb btn btc, bcs, bqs, bts⟩ V) (w3.setRow gb #[.int .i64 bw, .int .i64 bh, .slice bb bm bc, .slice bqb bqn bqc, .slice btb btn btc]) := ⟨⟨⟨hG.1.1.setRow HI.out hgn _, hG.1.2.rowOther _ _ (Nat.ne_of_lt hgn2)⟩, hG.2.setRow hgb hnega _⟩, hNew⟩
    refine wp_world (fun V => ((LR N x X Y W H 68 w V ∧ Blk V (N + 2) #[.int .i64 X2, .int .i64 Y2, .int .i64 W2, .int .i64 H2] 68) ∧ BX ga D1 ⟨aw, ah, .slice ab am ac, .slice aqb aqn aqc, .slice atb atn atc, acs, aqs, ats⟩ V) ∧ BX gb D2 ⟨bw, bh, .slice bb bm bc, .slice bqb bqn bqc, .slice btb btn btc, bcs, bqs, bts⟩ V) hX ?_
    clear hX hNew hG hgb hfi hot hsd hfe hw1 hw2 hI1 hGm hG0 hgn hgn2 hg0 hg1 hg2 hg3 hc2 hlN hlN2 hltga hnega
    intro V2 hG0
    by_cases h2 : E2 = 0
    · subst h2
      obtain ⟨-, ⟨z1, z2, z3, z4⟩, t1, t2, t3, t4⟩ := HUU.out (by first | rfl | trivial)
      obtain ⟨⟨-, ⟨x1, x2, x3, x4⟩, y1, y2, y3, y4⟩, ⟨-, hw16⟩, ⟨-, hh16⟩, -⟩ := HB1.out (by first | rfl | trivial)
      obtain ⟨he3, hsd3⟩ := HTW2.out (by first | rfl | trivial)
      have hc3 := HC3.out
      rw [he3] at hc3
      have e1 : IntKind.i64.wrap (X + X2) = X + X2 := IntWalk.i64_in _ (by omega)
      have e2 : IntKind.i64.wrap (Y + Y2) = Y + Y2 := IntWalk.i64_in _ (by omega)
      generalize cropD x (X + X2) (Y + Y2) W2 H2 = D4 at *
      have HD4 := Lib.hid (hsd3.trans HSD.out)
      have r0 := hG0.1.1.1.bR.cell 0; have r1 := hG0.1.1.1.bR.cell 1
      have s0 := hG0.1.1.2.cell 0; have s1 := hG0.1.1.2.cell 1; have s2 := hG0.1.1.2.cell 2; have s3 := hG0.1.1.2.cell 3
      clear HC3 HTW2 HU2 HUU HB1 HSD he3 hsd3 z1 z2 z3 z4 t1 t2 t3 t4
      go_upto_region 10 with (first
        | (refine wpList_load_row rfl 26 _ rfl N rfl 26 _ _ _ hG0.1.1.1.l.bN Try.underlying26 rfl (by kernel_rfl) ?_)
        | (go_at_call 39; refine (hc3 _ hG0.1.1.1.l.img).mono ?_; rintro r w4 ⟨⟨⟨cw, ch, ccu, cqu, ctu, ccs, cqs, cts⟩, hres⟩, hb4⟩; obtain ⟨rfl, hcd, hco, hcf, hcw, hch⟩ := hres; obtain ⟨cb2, cc, rfl⟩ : ∃ b c, ccu = .slice b ccs.length c := hco.row.len; obtain ⟨cqb, cqc, rfl⟩ : ∃ b c, cqu = .slice b cqs.length c := hco.q.len; obtain ⟨ctb, ctc, rfl⟩ : ∃ b c, ctu = .slice b cts.length c := hco.t.len; obtain ⟨Q, hQ⟩ : ∃ Q, Q = w4.heap.size := ⟨_, rfl⟩; have HQ := Lib.hid hQ; clear hQ)
        | (refine wpList_store_row rfl 26 _ _ rfl Q _ (by rw [HQ.out]; rfl) rfl 26 _ (Blk.new' _ _ _ HQ.out) (by kernel_rfl) rfl (by simp [Value.oneCell']) ?_; simp only [Act.put]))
      have hbe : Below w4.heap.size w4 ((w4.alloc (.cells #[.int .i64 0, .int .i64 0, .slice none 0 0, .slice none 0 0, .slice none 0 0] 26)).setRow Q #[.int .i64 cw, .int .i64 ch, .slice cb2 ccs.length cc, .slice cqb cqs.length cqc, .slice ctb cts.length ctc]) := Below.setRow ((Below.refl _ _).alloc (Nat.le_refl _) _) (Nat.le_of_eq HQ.out.symm) _
      try rw [← HQ.out]
      refine wp_world (fun V => (BX gb D2 ⟨bw, bh, .slice bb bm bc, .slice bqb bqn bqc, .slice btb btn btc, bcs, bqs, bts⟩ V ∧ BX Q D4 ⟨cw, ch, .slice cb2 ccs.length cc, .slice cqb cqs.length cqc, .slice ctb cts.length ctc, ccs, cqs, cts⟩ V) ∧ Below w.heap.size w V) ⟨⟨(hG0.2.below hb4).below hbe, ⟨(Blk.new' _ _ _ HQ.out).row _, hco.below hbe, hcd, hcf, hcw, hch⟩⟩, (hG0.1.1.1.below hb4).below hbe |>.hB⟩ ?_
      clear hbe hb4 hco hG0 hc3 r0 r1 s0 s1 s2 s3 HQ e1 e2
      rintro V3 ⟨⟨hbb, hbc⟩, hB⟩
      have hsm := hbc.d.symm.trans (HD4.out.trans hbb.d)
      have hs := fun V h1 h2 => img_same ⟨bw, bh, .slice bb bm bc, .slice bqb bqn bqc, .slice btb btn btc, bcs, bqs, bts⟩ ⟨cw, ch, .slice cb2 ccs.length cc, .slice cqb cqs.length cqc, .slice ctb cts.length ctc, ccs, cqs, cts⟩ hbb.few V h1 h2
      rw [hsm.same] at hs
      unfold ImgArg.val at hs
      simp only at hs
      have b0 := hbb.b.cell 0; have c0 := hbc.b.cell 0
      have b1 := hbb.b.cell 1; have c1 := hbc.b.cell 1
      have b2 := hbb.b.cell 2; have c2 := hbc.b.cell 2
      have b3 := hbb.b.cell 3; have c3 := hbc.b.cell 3
      have b4 := hbb.b.cell 4; have c4 := hbc.b.cell 4
      clear HD4 hsm
      go_wp2_with (go_at_call 29; refine (hs _ hbb.img hbc.img).mono ?_; rintro r w5 ⟨rfl, hb5⟩)
      go_ret
      exact ⟨rfl, hB.trans (hb5.mono hB.size)⟩
    · have t1 : (E2 != 0) = true := by simpa using h2
      rcases HU2.out with h3 | h3 | h3
      · exact absurd h3 h2
      · subst h3
        go_wp2
        go_ret
        exact ⟨rfl, hG0.1.1.1.hB⟩
      · subst h3
        go_wp2
        go_ret
        exact ⟨rfl, hG0.1.1.1.hB⟩
  · have t1 : (E1 != 0) = true := by simpa using h1
    go_wp2
    go_ret
    exact ⟨rfl, hG0.1.1.hB⟩
end cutTwice
theorem cutTwice.core (v0 : Value) (a0 : ImgArg) (v1 : Value) (a1 : Rect19) (v2 : Value) (a2 : Rect19) (W : World) (s0 : IsImg W v0 a0) (s1 : IsRect19 W v1 a1) (s2 : IsRect19 W v2 a2) :
    Calls Try.prog 11 #[v0, v1, v2] W fun e w' => e = .returned (.bool true) ∧ Below W.heap.size W w' := by
  obtain ⟨rfl, _, _, h3, h4⟩ := s1
  obtain ⟨rfl, _, _, h5, h6⟩ := s2
  exact cutTwice.walk a0 a1.x a1.y a1.w a1.h a2.x a2.y a2.w a2.h h3 h4 h5 h6 v0 W s0
end Go.Proofs.Ytgmhhocpdfdplaa
