/- aquatintlaw19.CutPlays, walked. -/
import Derived.Test.YtgmhhocpdfdplaaCutK
import Derived.Test.YtgmhhocpdfdplaaGI
import Derived.Test.YtgmhhocpdfdplaaGH
import Derived.Test.YtgmhhocpdfdplaaOpenCut
namespace Go.Proofs.Ytgmhhocpdfdplaa
open Go.RowKit
set_option maxRecDepth 100000
/-- An image of the reference's in a box. -/
structure RB (P : Nat) (D y : ImgArg) (V : World) : Prop where
  b : Blk V P #[.int .i64 y.w, .int .i64 y.h, y.cu, y.qu, y.tu] 26
  img : IsImg V y.val y
  d : SameD D y
  few : FewOk y
theorem RB.below {P : Nat} {D y : ImgArg} {V V' : World} (h : RB P D y V) (hb : Below V.heap.size V V') : RB P D y V' := ⟨h.b.below hb h.b.lt, h.img.below hb, h.d, h.few⟩
namespace cutPlays
set_option maxHeartbeats 16000000 in
theorem walk (x : ImgArg) (X Y W H : Int) (hW : (Lit.int .i64 W).wf = true) (hH : (Lit.int .i64 H).wf = true) (v : Value) (w : World) (h : IsImg w v x) :
    Calls Try.prog 10 #[v, .agg #[.int .i64 X, .int .i64 Y, .int .i64 W, .int .i64 H]] w fun e w' => e = .returned (.bool true) ∧ Below w.heap.size w w' := by
  have hv := h.val
  subst hv
  have HI := Lib.hid h
  have hL := LR.begin h X Y W H 68
  obtain ⟨N, hN⟩ : ∃ N, N = w.heap.size := ⟨_, rfl⟩
  rw [← hN] at hL
  have HN := Lib.hid hN
  have hsm := fun V h => law_small19 x V h
  unfold ImgArg.val at hsm
  clear hN h
  unfold ImgArg.val
  go_enter Try.func10, Try.ntmps10
  go_upto_region 1 with fail
  refine wp_world (fun V => LR N x X Y W H 68 w V) hL ?_
  rw [← HN.out]
  clear hL
  intro V hL
  go_upto_region 3 with (first | (go_at_call 32; refine (awake19a _).mono ?_; rintro e w1 ⟨rfl, hb1⟩; have hL1 := hL.below hb1; have p0 := hL1.l.bN.cell 0; have p1 := hL1.l.bN.cell 1; have p2 := hL1.l.bN.cell 2; have p3 := hL1.l.bN.cell 3; have p4 := hL1.l.bN.cell 4) | (go_at_call 33; refine (hsm _ hL1.l.img).mono ?_; rintro e w2 ⟨⟨bb, rfl, hbf⟩, hb2⟩; cases bb))
  · go_wp2_with (go_at_call 32; refine (awake19a _).mono ?_; rintro e w3 ⟨rfl, hb3⟩)
    go_ret
    exact ⟨rfl, ((hL1.below hb2).below hb3).hB⟩
  have hf := hbf (by first | rfl | trivial)
  have hG0 := hL1.below hb2
  clear hL hL1 hb1 hb2 hsm p0 p1 p2 p3 p4 hbf
  have hS0 := hG0
  clear hG0
  have hc1 := fun V hI => cut_crop x hf X Y W H hW hH V hI
  have hc2 := fun V hI => ref_crop x hf X Y W H hW hH V hI
  have hc3 := fun V hI => cut_redact x hf X Y W H V hI
  have hc4 := fun V hI => ref_redact x hf X Y W H V hI
  have hw1 := fun V hI => cut_within x hf X Y W H V hI
  have hw2 := fun V hI => ref_within19 x hf X Y W H V hI
  unfold RefRes at hc2 hc4
  generalize cropD x X Y W H = D1 at *
  generalize redD x X Y W H = D2 at *
  generalize unE x X Y W H = E1 at *
  generalize reE x X Y W H = E2 at *
  generalize wiE x X Y W H = E0 at *
  unfold ImgArg.val at hc1 hc2 hc3 hc4 hw1 hw2
  obtain ⟨V0, hV0⟩ : ∃ V, V = w2 := ⟨_, rfl⟩
  subst hV0
  have hG0 : Below V0.heap.size V0 V0 := Below.refl _ _
  have hlN := (hS0).bR.lt
  have hGm : ∀ V V', (fun V => Below V0.heap.size V0 V) V → Below V.heap.size V V' → (fun V => Below V0.heap.size V0 V) V' := fun V V' hG hb => hG.trans (hb.mono hG.size)
  refine wp_region_late [6] [0, 1, 2, 3, 4, 5, 6, 7] [8, 9] (fun V => Below V0.heap.size V0 V)
    (fun | 2 => some (sFix (.agg #[.int .i64 X, .int .i64 Y, .int .i64 W, .int .i64 H])) | 3 => some (sRel (shI E1) (fI D1)) | 7 => some (sNew #[.int .i64 0, .int .i64 0, .slice none 0 0, .slice none 0 0, .slice none 0 0] 26) | _ => none) (fun _ => []) (by kernel_rfl) (by kernel_rfl) (by intro j hj; simp at hj; subst hj; rfl) (hGm _ _ hG0 (Below.refl _ _).drew) ?_ ?_
  · intro i s hs
    match i with
    | 2 => cases hs; exact fun _ _ => sFix_mono _ _ _
    | 3 => cases hs; exact fun _ _ => fI_mono _ _
    | 7 => cases hs; exact fun _ _ => sNew_mono _ _ _ _
  simp only [pick, List.getD_cons_succ, List.getD_cons_zero, List.zip_cons_cons, List.zip_nil_right]
  refine mono_pure (by rfl) rfl (fun w1 hG => run_exec_load_row 26 _ rfl N rfl 26 _ _ ((hS0).below hG).l.bN Try.underlying26 rfl (by kernel_rfl)) ?_
  simp only [Act.put, List.setIfInBounds_toArray, List.set_cons_zero, List.set_cons_succ]
  refine mono_pure (by rfl) rfl (fun w1 hG => run_exec_load_row 68 _ rfl (N + 1) rfl 68 _ _ ((hS0).below hG).bR Try.underlying68 rfl (by kernel_rfl)) ?_
  simp only [Act.put, List.setIfInBounds_toArray, List.set_cons_zero, List.set_cons_succ]
  refine mono_fix (.agg #[.int .i64 X, .int .i64 Y, .int .i64 W, .int .i64 H]) (by rfl) rfl hGm (by intro w hG; go_simp; first | done | exact ⟨rfl, rfl⟩) (fun w1 hG hH => law_of19 _ _ _ _ w1) ?_
  simp only [Act.put, List.setIfInBounds_toArray, List.set_cons_zero, List.set_cons_succ]
  refine mono_rel (shI E1) (fI D1) (by rfl) rfl hGm (by intro w hG; go_simp; first | done | exact ⟨rfl, rfl⟩) ⟨_, 0, 0, none, 0, 0, none, 0, 0, none, 0, 0, rfl⟩ (fun w1 hG hH => ?_) (fun v3 hv3 => ?_)
  · refine (hc1 w1 ((hS0).below hG).l.img).mono ?_
    rintro e w2 ⟨⟨x1, hres⟩, hb⟩
    obtain ⟨v, e1, e2, e3⟩ := hres.vals
    exact ⟨v, e1, e2, hb, e3 _ _⟩
  obtain ⟨aw, ah, ab, am, ac, aqb, aqn, aqc, atb, atn, atc, rfl⟩ := hv3
  simp only [Act.put, List.setIfInBounds_toArray, List.set_cons_zero, List.set_cons_succ]
  (repeat (first | (refine mono_skip (by rfl) ?_; simp only [Act.put, List.setIfInBounds_toArray, List.set_cons_zero, List.set_cons_succ]) | (refine mono_pure (v := ?_) (by rfl) rfl ?_ ?_; rotate_left; (intro wS hS; go_simp; try with_reducible rfl); simp only [Act.put, List.setIfInBounds_toArray, List.set_cons_zero, List.set_cons_succ])))
  refine mono_alloc #[.int .i64 0, .int .i64 0, .slice none 0 0, .slice none 0 0, .slice none 0 0] 26 (by rfl) rfl hGm (by intro w; go_simp; try with_reducible rfl) ?_
  intro ga
  simp only [Act.put, List.setIfInBounds_toArray, List.set_cons_zero, List.set_cons_succ]
  refine mono_nil ?_
  rintro w3 hG ⟨_, I, hI1, _⟩
  obtain ⟨hg0, hg1, hg2, g', hge, hg3, -, hgb⟩ := hI1 7 _ (upd_self _ _ _)
  obtain rfl : ga = g' := by simpa using hge
  obtain ⟨-, -, -, hfi⟩ := hI1 3 _ rfl
  obtain ⟨acs, aqs, ats, hsd, hot, hfe, hw1_1, hw2_1⟩ := fI_get hfi
  have hgn : N + 1 < ga := Nat.lt_of_lt_of_le hlN (Nat.le_trans hg0 hg3)
  have hNew : BX ga D1 ⟨aw, ah, .slice ab am ac, .slice aqb aqn aqc, .slice atb atn atc, acs, aqs, ats⟩ (w3.setRow ga #[.int .i64 aw, .int .i64 ah, .slice ab am ac, .slice aqb aqn aqc, .slice atb atn atc]) := BX.new hgb hot hsd hfe hw1_1 hw2_1
  go_wp2_with (refine wpList_store_row rfl 26 _ _ rfl ga _ rfl rfl 26 _ hgb (by kernel_rfl) rfl (by simp [Value.oneCell']) ?_)
  refine onlyN_intro ?_
  go_upto_region 4 with fail
  have hBB : Below V0.heap.size V0 (w3.setRow ga #[.int .i64 aw, .int .i64 ah, .slice ab am ac, .slice aqb aqn aqc, .slice atb atn atc]) := Below.setRow hG (Nat.le_trans hg0 hg3) _
  refine wp_world (fun V => LR N x X Y W H 68 w V ∧ BX ga D1 ⟨aw, ah, .slice ab am ac, .slice aqb aqn aqc, .slice atb atn atc, acs, aqs, ats⟩ V) ⟨hS0.below hBB, hNew⟩ ?_
  clear hBB hNew hG hgb hfi hot hsd hfe hw1_1 hw2_1 hI1 hGm hG0 hgn hg0 hg1 hg2 hg3 hc1 hlN hS0

  intro V1 hS1
  go_upto_region 5 with (first
    | (refine wpList_load_row rfl 26 _ rfl N rfl 26 _ _ _ (hS1.1).l.bN Try.underlying26 rfl (by kernel_rfl) ?_)
    | (refine wpList_load_row rfl 68 _ rfl (N + 1) rfl 68 _ _ _ (hS1.1).bR Try.underlying68 rfl (by kernel_rfl) ?_)
    | (go_at_call 40; refine (hc2 _ (hS1.1).l.img).mono ?_; rintro e w5 ⟨⟨⟨bw, bh, bcu, bqu, btu, bcs, bqs, bts⟩, rfl, hd, him, hfe⟩, hb5⟩; obtain ⟨bb, bc, rfl⟩ : ∃ b c, bcu = .slice b bcs.length c := him.cs.len; obtain ⟨bqb, bqc, rfl⟩ : ∃ b c, bqu = .slice b bqs.length c := him.qs.len; obtain ⟨btb, btc, rfl⟩ : ∃ b c, btu = .slice b bts.length c := him.ts.len; obtain ⟨gb, hg⟩ : ∃ g, g = w5.heap.size := ⟨_, rfl⟩; have HG := Lib.hid hg; clear hg)
    | (refine wpList_store_row rfl 26 _ _ rfl gb _ (by rw [HG.out]; rfl) rfl 26 _ (Blk.new' _ _ _ HG.out) (by kernel_rfl) rfl (by simp [Value.oneCell']) ?_; simp only [Act.put]))
  have hbe : Below w5.heap.size w5 ((w5.alloc (.cells #[.int .i64 0, .int .i64 0, .slice none 0 0, .slice none 0 0, .slice none 0 0] 26)).setRow gb #[.int .i64 bw, .int .i64 bh, .slice bb bcs.length bc, .slice bqb bqs.length bqc, .slice btb bts.length btc]) := Below.setRow ((Below.refl _ _).alloc (Nat.le_refl _) _) (Nat.le_of_eq HG.out.symm) _
  try rw [← HG.out]
  refine wp_world (fun V => (LR N x X Y W H 68 w V ∧ BX ga D1 ⟨aw, ah, .slice ab am ac, .slice aqb aqn aqc, .slice atb atn atc, acs, aqs, ats⟩ V) ∧ RB gb D1 ⟨bw, bh, .slice bb bcs.length bc, .slice bqb bqs.length bqc, .slice btb bts.length btc, bcs, bqs, bts⟩ V) ⟨⟨(hS1.1.below hb5).below hbe, (hS1.2.below hb5).below hbe⟩, ⟨(Blk.new' _ _ _ HG.out).row _, him.below hbe, hd, hfe⟩⟩ ?_
  clear hbe hb5 hS1 HG him hd hfe hc2
  intro V2 hS2
  have hG0 : Below V2.heap.size V2 V2 := Below.refl _ _
  have hlN := (hS2.1.1).bR.lt
  have hGm : ∀ V V', (fun V => Below V2.heap.size V2 V) V → Below V.heap.size V V' → (fun V => Below V2.heap.size V2 V) V' := fun V V' hG hb => hG.trans (hb.mono hG.size)
  refine wp_region_late [6] [0, 1, 2, 3, 4, 5, 6, 7] [8, 9] (fun V => Below V2.heap.size V2 V)
    (fun | 2 => some (sFix (.agg #[.int .i64 X, .int .i64 Y, .int .i64 W, .int .i64 H])) | 3 => some (sRel (shI E2) (fI D2)) | 7 => some (sNew #[.int .i64 0, .int .i64 0, .slice none 0 0, .slice none 0 0, .slice none 0 0] 26) | _ => none) (fun _ => []) (by kernel_rfl) (by kernel_rfl) (by intro j hj; simp at hj; subst hj; rfl) (hGm _ _ hG0 (Below.refl _ _).drew) ?_ ?_
  · intro i s hs
    match i with
    | 2 => cases hs; exact fun _ _ => sFix_mono _ _ _
    | 3 => cases hs; exact fun _ _ => fI_mono _ _
    | 7 => cases hs; exact fun _ _ => sNew_mono _ _ _ _
  simp only [pick, List.getD_cons_succ, List.getD_cons_zero, List.zip_cons_cons, List.zip_nil_right]
  refine mono_pure (by rfl) rfl (fun w1 hG => run_exec_load_row 26 _ rfl N rfl 26 _ _ ((hS2.1.1).below hG).l.bN Try.underlying26 rfl (by kernel_rfl)) ?_
  simp only [Act.put, List.setIfInBounds_toArray, List.set_cons_zero, List.set_cons_succ]
  refine mono_pure (by rfl) rfl (fun w1 hG => run_exec_load_row 68 _ rfl (N + 1) rfl 68 _ _ ((hS2.1.1).below hG).bR Try.underlying68 rfl (by kernel_rfl)) ?_
  simp only [Act.put, List.setIfInBounds_toArray, List.set_cons_zero, List.set_cons_succ]
  refine mono_fix (.agg #[.int .i64 X, .int .i64 Y, .int .i64 W, .int .i64 H]) (by rfl) rfl hGm (by intro w hG; go_simp; first | done | exact ⟨rfl, rfl⟩) (fun w1 hG hH => law_of19 _ _ _ _ w1) ?_
  simp only [Act.put, List.setIfInBounds_toArray, List.set_cons_zero, List.set_cons_succ]
  refine mono_rel (shI E2) (fI D2) (by rfl) rfl hGm (by intro w hG; go_simp; first | done | exact ⟨rfl, rfl⟩) ⟨_, 0, 0, none, 0, 0, none, 0, 0, none, 0, 0, rfl⟩ (fun w1 hG hH => ?_) (fun v3 hv3 => ?_)
  · refine (hc3 w1 ((hS2.1.1).below hG).l.img).mono ?_
    rintro e w2 ⟨⟨x1, hres⟩, hb⟩
    obtain ⟨v, e1, e2, e3⟩ := hres.vals
    exact ⟨v, e1, e2, hb, e3 _ _⟩
  obtain ⟨cw, ch, cb, cm, cc, cqb, cqn, cqc, ctb, ctn, ctc, rfl⟩ := hv3
  simp only [Act.put, List.setIfInBounds_toArray, List.set_cons_zero, List.set_cons_succ]
  (repeat (first | (refine mono_skip (by rfl) ?_; simp only [Act.put, List.setIfInBounds_toArray, List.set_cons_zero, List.set_cons_succ]) | (refine mono_pure (v := ?_) (by rfl) rfl ?_ ?_; rotate_left; (intro wS hS; go_simp; try with_reducible rfl); simp only [Act.put, List.setIfInBounds_toArray, List.set_cons_zero, List.set_cons_succ])))
  refine mono_alloc #[.int .i64 0, .int .i64 0, .slice none 0 0, .slice none 0 0, .slice none 0 0] 26 (by rfl) rfl hGm (by intro w; go_simp; try with_reducible rfl) ?_
  intro gc
  simp only [Act.put, List.setIfInBounds_toArray, List.set_cons_zero, List.set_cons_succ]
  refine mono_nil ?_
  rintro w6 hG ⟨_, I2, hI1, _⟩
  obtain ⟨hg0, hg1, hg2, g', hge, hg3, -, hgb⟩ := hI1 7 _ (upd_self _ _ _)
  obtain rfl : gc = g' := by simpa using hge
  obtain ⟨-, -, -, hfi⟩ := hI1 3 _ rfl
  obtain ⟨ccs, cqs, cts, hsd, hot, hfe, hw1_1, hw2_1⟩ := fI_get hfi
  have hgn : N + 1 < gc := Nat.lt_of_lt_of_le hlN (Nat.le_trans hg0 hg3)
  have hNew : BX gc D2 ⟨cw, ch, .slice cb cm cc, .slice cqb cqn cqc, .slice ctb ctn ctc, ccs, cqs, cts⟩ (w6.setRow gc #[.int .i64 cw, .int .i64 ch, .slice cb cm cc, .slice cqb cqn cqc, .slice ctb ctn ctc]) := BX.new hgb hot hsd hfe hw1_1 hw2_1
  go_wp2_with (refine wpList_store_row rfl 26 _ _ rfl gc _ rfl rfl 26 _ hgb (by kernel_rfl) rfl (by simp [Value.oneCell']) ?_)
  refine onlyN_intro ?_
  go_upto_region 6 with fail
  have hBB : Below V2.heap.size V2 (w6.setRow gc #[.int .i64 cw, .int .i64 ch, .slice cb cm cc, .slice cqb cqn cqc, .slice ctb ctn ctc]) := Below.setRow hG (Nat.le_trans hg0 hg3) _
  refine wp_world (fun V => ((LR N x X Y W H 68 w V ∧ BX ga D1 ⟨aw, ah, .slice ab am ac, .slice aqb aqn aqc, .slice atb atn atc, acs, aqs, ats⟩ V) ∧ RB gb D1 ⟨bw, bh, .slice bb bcs.length bc, .slice bqb bqs.length bqc, .slice btb bts.length btc, bcs, bqs, bts⟩ V) ∧ BX gc D2 ⟨cw, ch, .slice cb cm cc, .slice cqb cqn cqc, .slice ctb ctn ctc, ccs, cqs, cts⟩ V) ⟨⟨⟨hS2.1.1.below hBB, hS2.1.2.below hBB⟩, hS2.2.below hBB⟩, hNew⟩ ?_
  clear hBB hNew hG hgb hfi hot hsd hfe hw1_1 hw2_1 hI1 hGm hG0 hgn hg0 hg1 hg2 hg3 hc3 hlN hS2
  intro V3 hS3
  go_upto_region 7 with (first
    | (refine wpList_load_row rfl 26 _ rfl N rfl 26 _ _ _ (hS3.1.1.1).l.bN Try.underlying26 rfl (by kernel_rfl) ?_)
    | (refine wpList_load_row rfl 68 _ rfl (N + 1) rfl 68 _ _ _ (hS3.1.1.1).bR Try.underlying68 rfl (by kernel_rfl) ?_)
    | (go_at_call 42; refine (hc4 _ (hS3.1.1.1).l.img).mono ?_; rintro e w7 ⟨⟨⟨dw, dh, dcu, dqu, dtu, dcs, dqs, dts⟩, rfl, hd, him, hfe⟩, hb7⟩; obtain ⟨db, dc, rfl⟩ : ∃ b c, dcu = .slice b dcs.length c := him.cs.len; obtain ⟨dqb, dqc, rfl⟩ : ∃ b c, dqu = .slice b dqs.length c := him.qs.len; obtain ⟨dtb, dtc, rfl⟩ : ∃ b c, dtu = .slice b dts.length c := him.ts.len; obtain ⟨gd, hg⟩ : ∃ g, g = w7.heap.size := ⟨_, rfl⟩; have HG := Lib.hid hg; clear hg)
    | (refine wpList_store_row rfl 26 _ _ rfl gd _ (by rw [HG.out]; rfl) rfl 26 _ (Blk.new' _ _ _ HG.out) (by kernel_rfl) rfl (by simp [Value.oneCell']) ?_; simp only [Act.put]))
  have hbe : Below w7.heap.size w7 ((w7.alloc (.cells #[.int .i64 0, .int .i64 0, .slice none 0 0, .slice none 0 0, .slice none 0 0] 26)).setRow gd #[.int .i64 dw, .int .i64 dh, .slice db dcs.length dc, .slice dqb dqs.length dqc, .slice dtb dts.length dtc]) := Below.setRow ((Below.refl _ _).alloc (Nat.le_refl _) _) (Nat.le_of_eq HG.out.symm) _
  try rw [← HG.out]
  refine wp_world (fun V => (((LR N x X Y W H 68 w V ∧ BX ga D1 ⟨aw, ah, .slice ab am ac, .slice aqb aqn aqc, .slice atb atn atc, acs, aqs, ats⟩ V) ∧ RB gb D1 ⟨bw, bh, .slice bb bcs.length bc, .slice bqb bqs.length bqc, .slice btb bts.length btc, bcs, bqs, bts⟩ V) ∧ BX gc D2 ⟨cw, ch, .slice cb cm cc, .slice cqb cqn cqc, .slice ctb ctn ctc, ccs, cqs, cts⟩ V) ∧ RB gd D2 ⟨dw, dh, .slice db dcs.length dc, .slice dqb dqs.length dqc, .slice dtb dts.length dtc, dcs, dqs, dts⟩ V) ⟨⟨⟨⟨(hS3.1.1.1.below hb7).below hbe, (hS3.1.1.2.below hb7).below hbe⟩, (hS3.1.2.below hb7).below hbe⟩, (hS3.2.below hb7).below hbe⟩, ⟨(Blk.new' _ _ _ HG.out).row _, him.below hbe, hd, hfe⟩⟩ ?_
  clear hbe hb7 hS3 HG him hd hfe hc4
  intro V4 hS4
  have hs1 := fun V h1 h2 => ref11_same ⟨aw, ah, .slice ab am ac, .slice aqb aqn aqc, .slice atb atn atc, acs, aqs, ats⟩ ⟨bw, bh, .slice bb bcs.length bc, .slice bqb bqs.length bqc, .slice btb bts.length btc, bcs, bqs, bts⟩ hS4.1.1.1.2.few V h1 h2
  have hs2 := fun V h1 h2 => ref11_same ⟨cw, ch, .slice cb cm cc, .slice cqb cqn cqc, .slice ctb ctn ctc, ccs, cqs, cts⟩ ⟨dw, dh, .slice db dcs.length dc, .slice dqb dqs.length dqc, .slice dtb dts.length dtc, dcs, dqs, dts⟩ hS4.1.2.few V h1 h2
  rw [(hS4.1.1.2.d.symm.trans hS4.1.1.1.2.d).same] at hs1
  rw [(hS4.2.d.symm.trans hS4.1.2.d).same] at hs2
  unfold ImgArg.val at hs1 hs2
  have hbm : ∀ {V V' : World}, (fun V => (((LR N x X Y W H 68 w V ∧ BX ga D1 ⟨aw, ah, .slice ab am ac, .slice aqb aqn aqc, .slice atb atn atc, acs, aqs, ats⟩ V) ∧ RB gb D1 ⟨bw, bh, .slice bb bcs.length bc, .slice bqb bqs.length bqc, .slice btb bts.length btc, bcs, bqs, bts⟩ V) ∧ BX gc D2 ⟨cw, ch, .slice cb cm cc, .slice cqb cqn cqc, .slice ctb ctn ctc, ccs, cqs, cts⟩ V) ∧ RB gd D2 ⟨dw, dh, .slice db dcs.length dc, .slice dqb dqs.length dqc, .slice dtb dts.length dtc, dcs, dqs, dts⟩ V) V → Below V.heap.size V V' → (fun V => (((LR N x X Y W H 68 w V ∧ BX ga D1 ⟨aw, ah, .slice ab am ac, .slice aqb aqn aqc, .slice atb atn atc, acs, aqs, ats⟩ V) ∧ RB gb D1 ⟨bw, bh, .slice bb bcs.length bc, .slice bqb bqs.length bqc, .slice btb bts.length btc, bcs, bqs, bts⟩ V) ∧ BX gc D2 ⟨cw, ch, .slice cb cm cc, .slice cqb cqn cqc, .slice ctb ctn ctc, ccs, cqs, cts⟩ V) ∧ RB gd D2 ⟨dw, dh, .slice db dcs.length dc, .slice dqb dqs.length dqc, .slice dtb dts.length dtc, dcs, dqs, dts⟩ V) V' := fun h hb => ⟨⟨⟨⟨h.1.1.1.1.below hb, h.1.1.1.2.below hb⟩, h.1.1.2.below hb⟩, h.1.2.below hb⟩, h.2.below hb⟩
  refine wp_region_det (fun V => (((LR N x X Y W H 68 w V ∧ BX ga D1 ⟨aw, ah, .slice ab am ac, .slice aqb aqn aqc, .slice atb atn atc, acs, aqs, ats⟩ V) ∧ RB gb D1 ⟨bw, bh, .slice bb bcs.length bc, .slice bqb bqs.length bqc, .slice btb bts.length btc, bcs, bqs, bts⟩ V) ∧ BX gc D2 ⟨cw, ch, .slice cb cm cc, .slice cqb cqn cqc, .slice ctb ctn ctc, ccs, cqs, cts⟩ V) ∧ RB gd D2 ⟨dw, dh, .slice db dcs.length dc, .slice dqb dqs.length dqc, .slice dtb dts.length dtc, dcs, dqs, dts⟩ V) (by kernel_rfl) (by kernel_rfl) (hbm hS4 (Below.refl _ _).drew) ?_
  clear hS4
  refine det_load_row (by rfl) 26 _ rfl N rfl 26 _ _ (fun w1 hS => hS.1.1.1.1.l.bN) Try.underlying26 rfl (by kernel_rfl) ?_
  simp only [Act.put, List.setIfInBounds_toArray, List.set_cons_zero, List.set_cons_succ]
  refine det_load_row (by rfl) 68 _ rfl (N + 1) rfl 68 _ _ (fun w1 hS => hS.1.1.1.1.bR) Try.underlying68 rfl (by kernel_rfl) ?_
  simp only [Act.put, List.setIfInBounds_toArray, List.set_cons_zero, List.set_cons_succ]
  refine det_call (v := .agg #[.int .i64 X, .int .i64 Y, .int .i64 W, .int .i64 H]) (by rfl) (by intro wS hS; go_simp; first | done | exact ⟨rfl, rfl⟩) (fun V hS => (law_of19 _ _ _ _ V).mono fun e w' hh => ⟨hh.1, hbm hS hh.2⟩) ?_
  simp only [Act.put, List.setIfInBounds_toArray, List.set_cons_zero, List.set_cons_succ]
  refine det_call (v := .int .i64 E0) (by rfl) (by intro wS hS; go_simp; first | done | exact ⟨rfl, rfl⟩) (fun V hS => (hw1 V hS.1.1.1.1.l.img).mono fun e w' hh => ⟨hh.1, hbm hS hh.2⟩) ?_
  simp only [Act.put, List.setIfInBounds_toArray, List.set_cons_zero, List.set_cons_succ]
  refine det_load_row (by rfl) 26 _ rfl N rfl 26 _ _ (fun w1 hS => hS.1.1.1.1.l.bN) Try.underlying26 rfl (by kernel_rfl) ?_
  simp only [Act.put, List.setIfInBounds_toArray, List.set_cons_zero, List.set_cons_succ]
  refine det_load_row (by rfl) 68 _ rfl (N + 1) rfl 68 _ _ (fun w1 hS => hS.1.1.1.1.bR) Try.underlying68 rfl (by kernel_rfl) ?_
  simp only [Act.put, List.setIfInBounds_toArray, List.set_cons_zero, List.set_cons_succ]
  refine det_call (v := .int .i64 E0) (by rfl) (by intro wS hS; go_simp; first | done | exact ⟨rfl, rfl⟩) (fun V hS => (hw2 V hS.1.1.1.1.l.img).mono fun e w' hh => ⟨hh.1, hbm hS hh.2⟩) ?_
  simp only [Act.put, List.setIfInBounds_toArray, List.set_cons_zero, List.set_cons_succ]
  refine det_pure (v := .bool true) (by rfl) (fun w1 hS => by go_simp) ?_
  simp only [Act.put, List.setIfInBounds_toArray, List.set_cons_zero, List.set_cons_succ]
  iterate 3 (first | (refine det_skip (by rfl) ?_; simp only [Act.put, List.setIfInBounds_toArray, List.set_cons_zero, List.set_cons_succ]) | (refine det_pure (v := ?_) (by rfl) ?_ ?_; rotate_left; (intro wS hS; go_simp; try with_reducible rfl); simp only [Act.put, List.setIfInBounds_toArray, List.set_cons_zero, List.set_cons_succ]))
  refine det_pure (v := .bool true) (by rfl) (fun w1 hS => by go_simp) ?_
  simp only [Act.put, List.setIfInBounds_toArray, List.set_cons_zero, List.set_cons_succ]
  iterate 2 (first | (refine det_skip (by rfl) ?_; simp only [Act.put, List.setIfInBounds_toArray, List.set_cons_zero, List.set_cons_succ]) | (refine det_pure (v := ?_) (by rfl) ?_ ?_; rotate_left; (intro wS hS; go_simp; try with_reducible rfl); simp only [Act.put, List.setIfInBounds_toArray, List.set_cons_zero, List.set_cons_succ]))
  refine det_load_row (by rfl) 26 _ rfl ga rfl 26 _ _ (fun w1 hS => hS.1.1.1.2.b) Try.underlying26 rfl (by kernel_rfl) ?_
  simp only [Act.put, List.setIfInBounds_toArray, List.set_cons_zero, List.set_cons_succ]
  refine det_load_row (by rfl) 26 _ rfl gb rfl 26 _ _ (fun w1 hS => hS.1.1.2.b) Try.underlying26 rfl (by kernel_rfl) ?_
  simp only [Act.put, List.setIfInBounds_toArray, List.set_cons_zero, List.set_cons_succ]
  refine det_call (v := .bool true) (by rfl) (by intro wS hS; go_simp; first | done | exact ⟨rfl, rfl⟩) (fun V hS => (hs1 V hS.1.1.1.2.img hS.1.1.2.img).mono fun e w' hh => ⟨hh.1, hbm hS hh.2⟩) ?_
  simp only [Act.put, List.setIfInBounds_toArray, List.set_cons_zero, List.set_cons_succ]
  iterate 4 (first | (refine det_skip (by rfl) ?_; simp only [Act.put, List.setIfInBounds_toArray, List.set_cons_zero, List.set_cons_succ]) | (refine det_pure (v := ?_) (by rfl) ?_ ?_; rotate_left; (intro wS hS; go_simp; try with_reducible rfl); simp only [Act.put, List.setIfInBounds_toArray, List.set_cons_zero, List.set_cons_succ]))
  refine det_pure (v := .bool true) (by rfl) (fun w1 hS => by go_simp) ?_
  simp only [Act.put, List.setIfInBounds_toArray, List.set_cons_zero, List.set_cons_succ]
  iterate 2 (first | (refine det_skip (by rfl) ?_; simp only [Act.put, List.setIfInBounds_toArray, List.set_cons_zero, List.set_cons_succ]) | (refine det_pure (v := ?_) (by rfl) ?_ ?_; rotate_left; (intro wS hS; go_simp; try with_reducible rfl); simp only [Act.put, List.setIfInBounds_toArray, List.set_cons_zero, List.set_cons_succ]))
  refine det_load_row (by rfl) 26 _ rfl gc rfl 26 _ _ (fun w1 hS => hS.1.2.b) Try.underlying26 rfl (by kernel_rfl) ?_
  simp only [Act.put, List.setIfInBounds_toArray, List.set_cons_zero, List.set_cons_succ]
  refine det_load_row (by rfl) 26 _ rfl gd rfl 26 _ _ (fun w1 hS => hS.2.b) Try.underlying26 rfl (by kernel_rfl) ?_
  simp only [Act.put, List.setIfInBounds_toArray, List.set_cons_zero, List.set_cons_succ]
  refine det_call (v := .bool true) (by rfl) (by intro wS hS; go_simp; first | done | exact ⟨rfl, rfl⟩) (fun V hS => (hs2 V hS.1.2.img hS.2.img).mono fun e w' hh => ⟨hh.1, hbm hS hh.2⟩) ?_
  simp only [Act.put, List.setIfInBounds_toArray, List.set_cons_zero, List.set_cons_succ]
  iterate 2 (first | (refine det_skip (by rfl) ?_; simp only [Act.put, List.setIfInBounds_toArray, List.set_cons_zero, List.set_cons_succ]) | (refine det_pure (v := ?_) (by rfl) ?_ ?_; rotate_left; (intro wS hS; go_simp; try with_reducible rfl); simp only [Act.put, List.setIfInBounds_toArray, List.set_cons_zero, List.set_cons_succ]))
  refine det_nil ?_
  intro V9 hS
  go_wp2
  go_ret
  exact ⟨rfl, hS.1.1.1.1.hB⟩
end cutPlays
theorem cutPlays.core (v0 : Value) (a0 : ImgArg) (v1 : Value) (a1 : Rect19) (W : World) (s0 : IsImg W v0 a0) (s1 : IsRect19 W v1 a1) :
    Calls Try.prog 10 #[v0, v1] W fun e w' => e = .returned (.bool true) ∧ Below W.heap.size W w' := by
  obtain ⟨rfl, _, _, h3, h4⟩ := s1
  exact cutPlays.walk a0 a1.x a1.y a1.w a1.h h3 h4 v0 W s0
end Go.Proofs.Ytgmhhocpdfdplaa
