/- aquatintlaw19.CutRight, walked. -/
import Derived.Test.YtgmhhocpdfdplaaCutK
import Derived.Test.YtgmhhocpdfdplaaOpenCut
namespace Go.Proofs.Ytgmhhocpdfdplaa
open Go.RowKit
set_option maxRecDepth 100000
namespace cutRight
set_option maxHeartbeats 16000000 in
theorem walk (x : ImgArg) (X Y W H : Int) (hW : (Lit.int .i64 W).wf = true) (hH : (Lit.int .i64 H).wf = true) (v : Value) (w : World) (h : IsImg w v x) :
    Calls Try.prog 12 #[v, .agg #[.int .i64 X, .int .i64 Y, .int .i64 W, .int .i64 H]] w fun e w' => e = .returned (.bool true) ∧ Below w.heap.size w w' := by
  have hv := h.val
  subst hv
  have HI := Lib.hid h
  have hL := LR.begin h X Y W H 68
  obtain ⟨N, hN⟩ : ∃ N, N = w.heap.size := ⟨_, rfl⟩
  rw [← hN] at hL
  have HN := Lib.hid hN
  have hsm := fun V h => law_small19 x V h
  unfold ImgArg.val at hsm
  clear hN h
  unfold ImgArg.val
  go_enter Try.func12, Try.ntmps12
  go_upto_region 1 with fail
  refine wp_world (fun V => LR N x X Y W H 68 w V) hL ?_
  rw [← HN.out]
  clear hL
  intro V hL
  go_upto_region 3 with (first | (go_at_call 32; refine (awake19a _).mono ?_; rintro e w1 ⟨rfl, hb1⟩; have hL1 := hL.below hb1; have p0 := hL1.l.bN.cell 0; have p1 := hL1.l.bN.cell 1; have p2 := hL1.l.bN.cell 2; have p3 := hL1.l.bN.cell 3; have p4 := hL1.l.bN.cell 4) | (go_at_call 33; refine (hsm _ hL1.l.img).mono ?_; rintro e w2 ⟨⟨bb, rfl, hbf⟩, hb2⟩; cases bb))
  · go_wp2_with (go_at_call 32; refine (awake19a _).mono ?_; rintro e w3 ⟨rfl, hb3⟩)
    go_ret
    exact ⟨rfl, ((hL1.below hb2).below hb3).hB⟩
  have hf := hbf (by first | rfl | trivial)
  have hG0 := hL1.below hb2
  clear hL hL1 hb1 hb2 hsm p0 p1 p2 p3 p4 hbf
  have hc1 := fun V hI => cut_crop x hf X Y W H hW hH V hI
  have hc2 := fun V hI => cut_redact x hf X Y W H V hI
  have HR1 := Lib.hid (fun (h0 : unE x X Y W H = 0) => (crop_right h0).imgE)
  have HR2 := Lib.hid (fun (h0 : reE x X Y W H = 0) => And.intro (red_right h0).1 (red_right h0).2.imgE)
  have HZ1 := Lib.hid (fun (h0 : unE x X Y W H ≠ 0) => (show cropD x X Y W H = zeroI from if_neg h0))
  have HZ2 := Lib.hid (fun (h0 : reE x X Y W H ≠ 0) => (show redD x X Y W H = zeroI from if_neg h0))
  have HS := Lib.hid (fun (h0 : unE x X Y W H = 0) => (show (cropD x X Y W H).w = W ∧ (cropD x X Y W H).h = H by unfold cropD; rw [if_pos h0]; exact ⟨rfl, rfl⟩))
  generalize cropD x X Y W H = D1 at *
  generalize redD x X Y W H = D2 at *
  generalize unE x X Y W H = E1 at *
  generalize reE x X Y W H = E2 at *
  unfold ImgArg.val at hc1 hc2
  have hlN := hG0.bR.lt
  have hGm : ∀ V V', (fun V => LR N x X Y W H 68 w V) V → Below V.heap.size V V' → (fun V => LR N x X Y W H 68 w V) V' := fun V V' hG hb => hG.below hb
  refine wp_region_late [6] [0, 1, 2, 3, 4, 5, 6, 7] [8, 9] (fun V => LR N x X Y W H 68 w V)
    (fun | 2 => some (sFix (.agg #[.int .i64 X, .int .i64 Y, .int .i64 W, .int .i64 H])) | 3 => some (sRel (shI E1) (fI D1)) | 7 => some (sNew #[.int .i64 0, .int .i64 0, .slice none 0 0, .slice none 0 0, .slice none 0 0] 26) | _ => none) (fun _ => []) (by kernel_rfl) (by kernel_rfl) (by intro j hj; simp at hj; subst hj; rfl) (hGm _ _ hG0 (Below.refl _ _).drew) ?_ ?_
  · intro i s hs
    match i with
    | 2 => cases hs; exact fun _ _ => sFix_mono _ _ _
    | 3 => cases hs; exact fun _ _ => fI_mono _ _
    | 7 => cases hs; exact fun _ _ => sNew_mono _ _ _ _
  simp only [pick, List.getD_cons_succ, List.getD_cons_zero, List.zip_cons_cons, List.zip_nil_right]
  refine mono_pure (by rfl) rfl (fun w1 hG => run_exec_load_row 26 _ rfl N rfl 26 _ _ hG.l.bN Try.underlying26 rfl (by kernel_rfl)) ?_
  simp only [Act.put, List.setIfInBounds_toArray, List.set_cons_zero, List.set_cons_succ]
  refine mono_pure (by rfl) rfl (fun w1 hG => run_exec_load_row 68 _ rfl (N + 1) rfl 68 _ _ hG.bR Try.underlying68 rfl (by kernel_rfl)) ?_
  simp only [Act.put, List.setIfInBounds_toArray, List.set_cons_zero, List.set_cons_succ]
  refine mono_fix (.agg #[.int .i64 X, .int .i64 Y, .int .i64 W, .int .i64 H]) (by rfl) rfl hGm (by intro w hG; go_simp; first | done | exact ⟨rfl, rfl⟩) (fun w1 hG hH => law_of19 _ _ _ _ w1) ?_
  simp only [Act.put, List.setIfInBounds_toArray, List.set_cons_zero, List.set_cons_succ]
  refine mono_rel (shI E1) (fI D1) (by rfl) rfl hGm (by intro w hG; go_simp; first | done | exact ⟨rfl, rfl⟩) ⟨_, 0, 0, none, 0, 0, none, 0, 0, none, 0, 0, rfl⟩ (fun w1 hG hH => ?_) (fun v3 hv3 => ?_)
  · refine (hc1 w1 hG.l.img).mono ?_
    rintro e w2 ⟨⟨x1, hres⟩, hb⟩
    obtain ⟨v, e1, e2, e3⟩ := hres.vals
    exact ⟨v, e1, e2, hb, e3 _ _⟩
  obtain ⟨aw, ah, ab, am, ac, aqb, aqn, aqc, atb, atn, atc, rfl⟩ := hv3
  simp only [Act.put, List.setIfInBounds_toArray, List.set_cons_zero, List.set_cons_succ]
  (repeat (first | (refine mono_skip (by rfl) ?_; simp only [Act.put, List.setIfInBounds_toArray, List.set_cons_zero, List.set_cons_succ]) | (refine mono_pure (v := ?_) (by rfl) rfl ?_ ?_; rotate_left; (intro wS hS; go_simp; try with_reducible rfl); simp only [Act.put, List.setIfInBounds_toArray, List.set_cons_zero, List.set_cons_succ])))
  refine mono_alloc #[.int .i64 0, .int .i64 0, .slice none 0 0, .slice none 0 0, .slice none 0 0] 26 (by rfl) rfl hGm (by intro w; go_simp; try with_reducible rfl) ?_
  intro ga
  simp only [Act.put, List.setIfInBounds_toArray, List.set_cons_zero, List.set_cons_succ]
  refine mono_nil ?_
  rintro w3 hG ⟨_, I, hI1, _⟩
  obtain ⟨hg0, hg1, hg2, g', hge, hg3, -, hgb⟩ := hI1 7 _ (upd_self _ _ _)
  obtain rfl : ga = g' := by simpa using hge
  obtain ⟨-, -, -, hfi⟩ := hI1 3 _ rfl
  obtain ⟨acs, aqs, ats, hsd, hot, hfe, hw1, hw2⟩ := fI_get hfi
  have hgn : N + 1 < ga := Nat.lt_of_lt_of_le hlN (Nat.le_trans hg0 hg3)
  have hNew : BX ga D1 ⟨aw, ah, .slice ab am ac, .slice aqb aqn aqc, .slice atb atn atc, acs, aqs, ats⟩ (w3.setRow ga #[.int .i64 aw, .int .i64 ah, .slice ab am ac, .slice aqb aqn aqc, .slice atb atn atc]) := BX.new hgb hot hsd hfe hw1 hw2
  go_wp2_with (refine wpList_store_row rfl 26 _ _ rfl ga _ rfl rfl 26 _ hgb (by kernel_rfl) rfl (by simp [Value.oneCell']) ?_)
  refine onlyN_intro ?_
  go_upto_region 4 with fail
  have hX : (fun V => LR N x X Y W H 68 w V ∧ BX ga D1 ⟨aw, ah, .slice ab am ac, .slice aqb aqn aqc, .slice atb atn atc, acs, aqs, ats⟩ V) (w3.setRow ga #[.int .i64 aw, .int .i64 ah, .slice ab am ac, .slice aqb aqn aqc, .slice atb atn atc]) := ⟨hG.setRow HI.out hgn _, hNew⟩
  refine wp_world (fun V => LR N x X Y W H 68 w V ∧ BX ga D1 ⟨aw, ah, .slice ab am ac, .slice aqb aqn aqc, .slice atb atn atc, acs, aqs, ats⟩ V) hX ?_
  clear hX hNew hG hgb hfi hot hsd hfe hw1 hw2 hI1 hGm hG0 hgn hg0 hg1 hg2 hg3 hc1 hlN
  intro V1 hG0
  have hlN := hG0.1.bR.lt
  have hltga := hG0.2.b.lt
  have hGm : ∀ V V', (fun V => LR N x X Y W H 68 w V ∧ BX ga D1 ⟨aw, ah, .slice ab am ac, .slice aqb aqn aqc, .slice atb atn atc, acs, aqs, ats⟩ V) V → Below V.heap.size V V' → (fun V => LR N x X Y W H 68 w V ∧ BX ga D1 ⟨aw, ah, .slice ab am ac, .slice aqb aqn aqc, .slice atb atn atc, acs, aqs, ats⟩ V) V' := fun V V' hG hb => ⟨hG.1.below hb, hG.2.below hb⟩
  refine wp_region_late [6] [0, 1, 2, 3, 4, 5, 6, 7] [8, 9] (fun V => LR N x X Y W H 68 w V ∧ BX ga D1 ⟨aw, ah, .slice ab am ac, .slice aqb aqn aqc, .slice atb atn atc, acs, aqs, ats⟩ V)
    (fun | 2 => some (sFix (.agg #[.int .i64 X, .int .i64 Y, .int .i64 W, .int .i64 H])) | 3 => some (sRel (shI E2) (fI D2)) | 7 => some (sNew #[.int .i64 0, .int .i64 0, .slice none 0 0, .slice none 0 0, .slice none 0 0] 26) | _ => none) (fun _ => []) (by kernel_rfl) (by kernel_rfl) (by intro j hj; simp at hj; subst hj; rfl) (hGm _ _ hG0 (Below.refl _ _).drew) ?_ ?_
  · intro i s hs
    match i with
    | 2 => cases hs; exact fun _ _ => sFix_mono _ _ _
    | 3 => cases hs; exact fun _ _ => fI_mono _ _
    | 7 => cases hs; exact fun _ _ => sNew_mono _ _ _ _
  simp only [pick, List.getD_cons_succ, List.getD_cons_zero, List.zip_cons_cons, List.zip_nil_right]
  refine mono_pure (by rfl) rfl (fun w1 hG => run_exec_load_row 26 _ rfl N rfl 26 _ _ hG.1.l.bN Try.underlying26 rfl (by kernel_rfl)) ?_
  simp only [Act.put, List.setIfInBounds_toArray, List.set_cons_zero, List.set_cons_succ]
  refine mono_pure (by rfl) rfl (fun w1 hG => run_exec_load_row 68 _ rfl (N + 1) rfl 68 _ _ hG.1.bR Try.underlying68 rfl (by kernel_rfl)) ?_
  simp only [Act.put, List.setIfInBounds_toArray, List.set_cons_zero, List.set_cons_succ]
  refine mono_fix (.agg #[.int .i64 X, .int .i64 Y, .int .i64 W, .int .i64 H]) (by rfl) rfl hGm (by intro w hG; go_simp; first | done | exact ⟨rfl, rfl⟩) (fun w1 hG hH => law_of19 _ _ _ _ w1) ?_
  simp only [Act.put, List.setIfInBounds_toArray, List.set_cons_zero, List.set_cons_succ]
  refine mono_rel (shI E2) (fI D2) (by rfl) rfl hGm (by intro w hG; go_simp; first | done | exact ⟨rfl, rfl⟩) ⟨_, 0, 0, none, 0, 0, none, 0, 0, none, 0, 0, rfl⟩ (fun w1 hG hH => ?_) (fun v3 hv3 => ?_)
  · refine (hc2 w1 hG.1.l.img).mono ?_
    rintro e w2 ⟨⟨x1, hres⟩, hb⟩
    obtain ⟨v, e1, e2, e3⟩ := hres.vals
    exact ⟨v, e1, e2, hb, e3 _ _⟩
  obtain ⟨bw, bh, bb, bm, bc, bqb, bqn, bqc, btb, btn, btc, rfl⟩ := hv3
  simp only [Act.put, List.setIfInBounds_toArray, List.set_cons_zero, List.set_cons_succ]
  (repeat (first | (refine mono_skip (by rfl) ?_; simp only [Act.put, List.setIfInBounds_toArray, List.set_cons_zero, List.set_cons_succ]) | (refine mono_pure (v := ?_) (by rfl) rfl ?_ ?_; rotate_left; (intro wS hS; go_simp; try with_reducible rfl); simp only [Act.put, List.setIfInBounds_toArray, List.set_cons_zero, List.set_cons_succ])))
  refine mono_alloc #[.int .i64 0, .int .i64 0, .slice none 0 0, .slice none 0 0, .slice none 0 0] 26 (by rfl) rfl hGm (by intro w; go_simp; try with_reducible rfl) ?_
  intro gb
  simp only [Act.put, List.setIfInBounds_toArray, List.set_cons_zero, List.set_cons_succ]
  refine mono_nil ?_
  rintro w3 hG ⟨_, I, hI1, _⟩
  obtain ⟨hg0, hg1, hg2, g', hge, hg3, -, hgb⟩ := hI1 7 _ (upd_self _ _ _)
  obtain rfl : gb = g' := by simpa using hge
  obtain ⟨-, -, -, hfi⟩ := hI1 3 _ rfl
  obtain ⟨bcs, bqs, bts, hsd, hot, hfe, hw1, hw2⟩ := fI_get hfi
  have hgn : N + 1 < gb := Nat.lt_of_lt_of_le hlN (Nat.le_trans hg0 hg3)
  have hnega : ga ≠ gb := Nat.ne_of_lt (Nat.lt_of_lt_of_le hltga (Nat.le_trans hg0 hg3))
  have hNew : BX gb D2 ⟨bw, bh, .slice bb bm bc, .slice bqb bqn bqc, .slice btb btn btc, bcs, bqs, bts⟩ (w3.setRow gb #[.int .i64 bw, .int .i64 bh, .slice bb bm bc, .slice bqb bqn bqc, .slice btb btn btc]) := BX.new hgb hot hsd hfe hw1 hw2
  go_wp2_with (refine wpList_store_row rfl 26 _ _ rfl gb _ rfl rfl 26 _ hgb (by kernel_rfl) rfl (by simp [Value.oneCell']) ?_)
  refine onlyN_intro ?_
  go_upto_region 5 with fail
  have hX : (fun V => (LR N x X Y W H 68 w V ∧ BX ga D1 ⟨aw, ah, .slice ab am ac, .slice aqb aqn aqc, .slice atb atn atc, acs, aqs, ats⟩ V) ∧ BX gb D2 ⟨bw, bh, .slice bb bm bc, .slice bqb bqn bqc, .slice btb btn btc, bcs, bqs, bts⟩ V) (w3.setRow gb #[.int .i64 bw, .int .i64 bh, .slice bb bm bc, .slice bqb bqn bqc, .slice btb btn btc]) := ⟨⟨hG.1.setRow HI.out hgn _, hG.2.setRow hgb hnega _⟩, hNew⟩
  refine wp_world (fun V => (LR N x X Y W H 68 w V ∧ BX ga D1 ⟨aw, ah, .slice ab am ac, .slice aqb aqn aqc, .slice atb atn atc, acs, aqs, ats⟩ V) ∧ BX gb D2 ⟨bw, bh, .slice bb bm bc, .slice bqb bqn bqc, .slice btb btn btc, bcs, bqs, bts⟩ V) hX ?_
  clear hX hNew hG hgb hfi hot hsd hfe hw1 hw2 hI1 hGm hG0 hgn hg0 hg1 hg2 hg3 hc2 hlN hltga hnega
  intro V2 hG0
  have hGm : ∀ V V', (fun V => (LR N x X Y W H 68 w V ∧ BX ga D1 ⟨aw, ah, .slice ab am ac, .slice aqb aqn aqc, .slice atb atn atc, acs, aqs, ats⟩ V) ∧ BX gb D2 ⟨bw, bh, .slice bb bm bc, .slice bqb bqn bqc, .slice btb btn btc, bcs, bqs, bts⟩ V) V → Below V.heap.size V V' → (fun V => (LR N x X Y W H 68 w V ∧ BX ga D1 ⟨aw, ah, .slice ab am ac, .slice aqb aqn aqc, .slice atb atn atc, acs, aqs, ats⟩ V) ∧ BX gb D2 ⟨bw, bh, .slice bb bm bc, .slice bqb bqn bqc, .slice btb btn btc, bcs, bqs, bts⟩ V) V' := fun V V' hG hb => ⟨⟨hG.1.1.below hb, hG.1.2.below hb⟩, hG.2.below hb⟩
  have hd1 := hG0.1.2.d
  have hd2 := hG0.2.d
  have hf1 := hG0.1.2.few
  have hf2 := hG0.2.few
  have hr1 := fun V hI => img_right ⟨aw, ah, .slice ab am ac, .slice aqb aqn aqc, .slice atb atn atc, acs, aqs, ats⟩ V hI hf1
  have hr2 := fun V hI => img_right ⟨bw, bh, .slice bb bm bc, .slice bqb bqn bqc, .slice btb btn btc, bcs, bqs, bts⟩ V hI hf2
  rw [hd1.err] at hr1
  rw [hd2.err] at hr2
  have hs1 := fun V hI => img_same ⟨aw, ah, .slice ab am ac, .slice aqb aqn aqc, .slice atb atn atc, acs, aqs, ats⟩ zeroI hf1 V hI (zeroI_img V)
  have hs2 := fun V hI => img_same ⟨bw, bh, .slice bb bm bc, .slice bqb bqn bqc, .slice btb btn btc, bcs, bqs, bts⟩ zeroI hf2 V hI (zeroI_img V)
  have HD1 := Lib.hid hd1; have HD2 := Lib.hid hd2
  unfold ImgArg.val zeroI at hs1 hs2
  unfold ImgArg.val at hr1 hr2
  simp only at hr1 hr2 hs1 hs2
  have hg0 := hG0.1.1.bR.cell 2
  have hg1 := hG0.1.1.bR.cell 3
  have a0 := hG0.1.2.b.cell 0
  have a1 := hG0.1.2.b.cell 1
  have a2 := hG0.1.2.b.cell 2
  have a3 := hG0.1.2.b.cell 3
  have a4 := hG0.1.2.b.cell 4
  have b0 := hG0.2.b.cell 0
  have b1 := hG0.2.b.cell 1
  have b2 := hG0.2.b.cell 2
  have b3 := hG0.2.b.cell 3
  have b4 := hG0.2.b.cell 4
  clear hf1 hf2 hd1 hd2
  by_cases h1 : E1 = 0
  · subst h1
    have hw0 := HS.out rfl
    have haw := HD1.out.w
    have hah := HD1.out.h
    simp only at haw hah
    rw [hw0.1] at haw
    rw [hw0.2] at hah
    rw [HR1.out rfl] at hr1
    clear hw0 HS HR1 HZ1 hs1
    subst haw hah
    by_cases h2 : E2 = 0
    · subst h2
      rw [(HR2.out rfl).2] at hr2
      clear HR2 HZ2 hs2
      go_wp2_with (first
        | (go_at_call 20; (with_reducible refine (hr1 _ hG0.1.2.img).mono ?_); rintro e w4 ⟨rfl, hb4⟩; replace hG0 := hGm _ _ hG0 hb4; have hg0 := hG0.1.1.bR.cell 2; have hg1 := hG0.1.1.bR.cell 3; have a0 := hG0.1.2.b.cell 0; have a1 := hG0.1.2.b.cell 1; have a2 := hG0.1.2.b.cell 2; have a3 := hG0.1.2.b.cell 3; have a4 := hG0.1.2.b.cell 4; have b0 := hG0.2.b.cell 0; have b1 := hG0.2.b.cell 1; have b2 := hG0.2.b.cell 2; have b3 := hG0.2.b.cell 3; have b4 := hG0.2.b.cell 4)
        | (go_at_call 20; (with_reducible refine (hr2 _ hG0.2.img).mono ?_); rintro e w4 ⟨rfl, hb4⟩; replace hG0 := hGm _ _ hG0 hb4))
      go_ret
      exact ⟨rfl, hG0.1.1.hB⟩
    · obtain rfl : D2 = zeroI := HZ2.out h2
      have hz := HD2.out.same
      unfold zeroI at hz
      have t2 : (E2 == 0) = false := by simpa using h2
      rw [hz] at hs2
      clear HR2 HZ2 h2 hz hr2
      go_wp2_with (first
        | (go_at_call 20; (with_reducible refine (hr1 _ hG0.1.2.img).mono ?_); rintro e w4 ⟨rfl, hb4⟩; replace hG0 := hGm _ _ hG0 hb4; have hg0 := hG0.1.1.bR.cell 2; have hg1 := hG0.1.1.bR.cell 3; have a0 := hG0.1.2.b.cell 0; have a1 := hG0.1.2.b.cell 1; have a2 := hG0.1.2.b.cell 2; have a3 := hG0.1.2.b.cell 3; have a4 := hG0.1.2.b.cell 4; have b0 := hG0.2.b.cell 0; have b1 := hG0.2.b.cell 1; have b2 := hG0.2.b.cell 2; have b3 := hG0.2.b.cell 3; have b4 := hG0.2.b.cell 4)
        | (go_at_call 29; (with_reducible refine (hs2 _ hG0.2.img).mono ?_); rintro e w4 ⟨rfl, hb4⟩; replace hG0 := hGm _ _ hG0 hb4))
      go_ret
      exact ⟨rfl, hG0.1.1.hB⟩
  · have h2 : E2 ≠ 0 := fun h => h1 (HR2.out h).1
    obtain rfl : D1 = zeroI := HZ1.out h1
    obtain rfl : D2 = zeroI := HZ2.out h2
    have hz1 := HD1.out.same
    have hz2 := HD2.out.same
    unfold zeroI at hz1 hz2
    rw [hz1] at hs1
    rw [hz2] at hs2
    have t1 : (E1 == 0) = false := by simpa using h1
    have t2 : (E2 == 0) = false := by simpa using h2
    have t3 : (E1 != 0) = true := by simpa using h1
    clear HR1 HR2 HZ1 HZ2 HS h1 h2 hz1 hz2 hr1 hr2
    go_wp2_with (first
      | (go_at_call 29; (with_reducible refine (hs1 _ hG0.1.2.img).mono ?_); rintro e w4 ⟨rfl, hb4⟩; replace hG0 := hGm _ _ hG0 hb4; have a0 := hG0.1.2.b.cell 0; have a1 := hG0.1.2.b.cell 1; have a2 := hG0.1.2.b.cell 2; have a3 := hG0.1.2.b.cell 3; have a4 := hG0.1.2.b.cell 4; have b0 := hG0.2.b.cell 0; have b1 := hG0.2.b.cell 1; have b2 := hG0.2.b.cell 2; have b3 := hG0.2.b.cell 3; have b4 := hG0.2.b.cell 4)
      | (go_at_call 29; (with_reducible refine (hs2 _ hG0.2.img).mono ?_); rintro e w4 ⟨rfl, hb4⟩; replace hG0 := hGm _ _ hG0 hb4))
    go_ret
    exact ⟨rfl, hG0.1.1.hB⟩
end cutRight
theorem cutRight.core (v0 : Value) (a0 : ImgArg) (v1 : Value) (a1 : Rect19) (W : World) (s0 : IsImg W v0 a0) (s1 : IsRect19 W v1 a1) :
    Calls Try.prog 12 #[v0, v1] W fun e w' => e = .returned (.bool true) ∧ Below W.heap.size W w' := by
  obtain ⟨rfl, _, _, h3, h4⟩ := s1
  exact cutRight.walk a0 a1.x a1.y a1.w a1.h h3 h4 v0 W s0
end Go.Proofs.Ytgmhhocpdfdplaa
