/- aquatintlaw19.CutBlots, walked. -/
import Derived.Test.YtgmhhocpdfdplaaCutK
import Derived.Test.YtgmhhocpdfdplaaCutR
import Derived.Test.YtgmhhocpdfdplaaCutI
import Derived.Test.YtgmhhocpdfdplaaOpenCut
namespace Go.Proofs.Ytgmhhocpdfdplaa
open Go.RowKit
set_option maxRecDepth 100000
namespace cutBlots
set_option maxHeartbeats 16000000 in
theorem walk (x : ImgArg) (X Y W H : Int) (v : Value) (w : World) (h : IsImg w v x) :
    Calls Try.prog 13 #[v, .agg #[.int .i64 X, .int .i64 Y, .int .i64 W, .int .i64 H]] w fun e w' => e = .returned (.bool true) ∧ Below w.heap.size w w' := by
  have hv := h.val
  subst hv
  have HI := Lib.hid h
  have hL := LR.begin h X Y W H 68
  obtain ⟨N, hN⟩ : ∃ N, N = w.heap.size := ⟨_, rfl⟩
  rw [← hN] at hL
  have HN := Lib.hid hN
  have hsm := fun V h => law_small19 x V h
  unfold ImgArg.val at hsm
  clear hN h
  unfold ImgArg.val
  go_enter Try.func13, Try.ntmps13
  go_upto_region 1 with fail
  refine wp_world (fun V => LR N x X Y W H 68 w V) hL ?_
  rw [← HN.out]
  clear hL
  intro V hL
  go_upto_region 3 with (first | (go_at_call 32; refine (awake19a _).mono ?_; rintro e w1 ⟨rfl, hb1⟩; have hL1 := hL.below hb1; have p0 := hL1.l.bN.cell 0; have p1 := hL1.l.bN.cell 1; have p2 := hL1.l.bN.cell 2; have p3 := hL1.l.bN.cell 3; have p4 := hL1.l.bN.cell 4) | (go_at_call 33; refine (hsm _ hL1.l.img).mono ?_; rintro e w2 ⟨⟨bb, rfl, hbf⟩, hb2⟩; cases bb))
  · go_wp2_with (go_at_call 32; refine (awake19a _).mono ?_; rintro e w3 ⟨rfl, hb3⟩)
    go_ret
    exact ⟨rfl, ((hL1.below hb2).below hb3).hB⟩
  have hf := hbf (by first | rfl | trivial)
  have hG0 := hL1.below hb2
  clear hL hL1 hb1 hb2 hsm p0 p1 p2 p3 p4 hbf
  have hc1 := fun V hI => cut_redact x hf X Y W H V hI
  have HC4 := Lib.hid (fun i V hI => cut_Blocks x hf X Y W H i V hI)
  have HTW := Lib.hid (fun (h0 : reE x X Y W H = 0) (y : ImgArg) => red_twice (y := y) h0)
  have HRB := Lib.hid (fun (h0 : reE x X Y W H = 0) (y : ImgArg) (hy : SameD (redD x X Y W H) y) (i : Nat) (hi : i < x.cs.length) (hi' : i < y.cs.length) (c r a b hh d : Nat) (n : CutN x i hi X Y W H c r a b hh d) => red_blk h0 hy hi hi' n)
  have HUN := Lib.hid (fun (h0 : reE x X Y W H = 0) => (red_right h0).1)
  have HS := Lib.hid (fun (h0 : reE x X Y W H = 0) => (show (redD x X Y W H).w = x.w ∧ (redD x X Y W H).h = x.h ∧ (redD x X Y W H).qs = x.qs ∧ (redD x X Y W H).ts = x.ts ∧ (redD x X Y W H).cs.length = x.cs.length by unfold redD; rw [if_pos h0]; exact ⟨rfl, rfl, rfl, rfl, putAll_len _ _⟩))
  generalize redD x X Y W H = D1 at *
  generalize reE x X Y W H = E1 at *
  unfold ImgArg.val at hc1 HC4
  have hlN := hG0.bR.lt
  have hGm : ∀ V V', (fun V => LR N x X Y W H 68 w V) V → Below V.heap.size V V' → (fun V => LR N x X Y W H 68 w V) V' := fun V V' hG hb => hG.below hb
  refine wp_region_late [6] [0, 1, 2, 3, 4, 5, 6, 7] [8, 9] (fun V => LR N x X Y W H 68 w V)
    (fun | 2 => some (sFix (.agg #[.int .i64 X, .int .i64 Y, .int .i64 W, .int .i64 H])) | 3 => some (sRel (shI E1) (fI D1)) | 7 => some (sNew #[.int .i64 0, .int .i64 0, .slice none 0 0, .slice none 0 0, .slice none 0 0] 26) | _ => none) (fun _ => []) (by kernel_rfl) (by kernel_rfl) (by intro j hj; simp at hj; subst hj; rfl) (hGm _ _ hG0 (Below.refl _ _).drew) ?_ ?_
  · intro i s hs
    match i with
    | 2 => cases hs; exact fun _ _ => sFix_mono _ _ _
    | 3 => cases hs; exact fun _ _ => fI_mono _ _
    | 7 => cases hs; exact fun _ _ => sNew_mono _ _ _ _
  simp only [pick, List.getD_cons_succ, List.getD_cons_zero, List.zip_cons_cons, List.zip_nil_right]
  refine mono_pure (by rfl) rfl (fun w1 hG => run_exec_load_row 26 _ rfl N rfl 26 _ _ hG.l.bN Try.underlying26 rfl (by kernel_rfl)) ?_
  simp only [Act.put, List.setIfInBounds_toArray, List.set_cons_zero, List.set_cons_succ]
  refine mono_pure (by rfl) rfl (fun w1 hG => run_exec_load_row 68 _ rfl (N + 1) rfl 68 _ _ hG.bR Try.underlying68 rfl (by kernel_rfl)) ?_
  simp only [Act.put, List.setIfInBounds_toArray, List.set_cons_zero, List.set_cons_succ]
  refine mono_fix (.agg #[.int .i64 X, .int .i64 Y, .int .i64 W, .int .i64 H]) (by rfl) rfl hGm (by intro w hG; go_simp; first | done | exact ⟨rfl, rfl⟩) (fun w1 hG hH => law_of19 _ _ _ _ w1) ?_
  simp only [Act.put, List.setIfInBounds_toArray, List.set_cons_zero, List.set_cons_succ]
  refine mono_rel (shI E1) (fI D1) (by rfl) rfl hGm (by intro w hG; go_simp; first | done | exact ⟨rfl, rfl⟩) ⟨_, 0, 0, none, 0, 0, none, 0, 0, none, 0, 0, rfl⟩ (fun w1 hG hH => ?_) (fun v3 hv3 => ?_)
  · refine (hc1 w1 hG.l.img).mono ?_
    rintro e w2 ⟨⟨x1, hres⟩, hb⟩
    obtain ⟨v, e1, e2, e3⟩ := hres.vals
    exact ⟨v, e1, e2, hb, e3 _ _⟩
  obtain ⟨aw, ah, ab, am, ac, aqb, aqn, aqc, atb, atn, atc, rfl⟩ := hv3
  simp only [Act.put, List.setIfInBounds_toArray, List.set_cons_zero, List.set_cons_succ]
  (repeat (first | (refine mono_skip (by rfl) ?_; simp only [Act.put, List.setIfInBounds_toArray, List.set_cons_zero, List.set_cons_succ]) | (refine mono_pure (v := ?_) (by rfl) rfl ?_ ?_; rotate_left; (intro wS hS; go_simp; try with_reducible rfl); simp only [Act.put, List.setIfInBounds_toArray, List.set_cons_zero, List.set_cons_succ])))
  refine mono_alloc #[.int .i64 0, .int .i64 0, .slice none 0 0, .slice none 0 0, .slice none 0 0] 26 (by rfl) rfl hGm (by intro w; go_simp; try with_reducible rfl) ?_
  intro ga
  simp only [Act.put, List.setIfInBounds_toArray, List.set_cons_zero, List.set_cons_succ]
  refine mono_nil ?_
  rintro w3 hG ⟨_, I, hI1, _⟩
  obtain ⟨hg0, hg1, hg2, g', hge, hg3, -, hgb⟩ := hI1 7 _ (upd_self _ _ _)
  obtain rfl : ga = g' := by simpa using hge
  obtain ⟨-, -, -, hfi⟩ := hI1 3 _ rfl
  obtain ⟨acs, aqs, ats, hsd, hot, hfe, hw1, hw2⟩ := fI_get hfi
  have hgn : N + 1 < ga := Nat.lt_of_lt_of_le hlN (Nat.le_trans hg0 hg3)
  have hNew : BX ga D1 ⟨aw, ah, .slice ab am ac, .slice aqb aqn aqc, .slice atb atn atc, acs, aqs, ats⟩ (w3.setRow ga #[.int .i64 aw, .int .i64 ah, .slice ab am ac, .slice aqb aqn aqc, .slice atb atn atc]) := BX.new hgb hot hsd hfe hw1 hw2
  go_wp2_with (refine wpList_store_row rfl 26 _ _ rfl ga _ rfl rfl 26 _ hgb (by kernel_rfl) rfl (by simp [Value.oneCell']) ?_)
  refine onlyN_intro ?_
  go_upto_region 4 with fail
  have hX : (fun V => LR N x X Y W H 68 w V ∧ BX ga D1 ⟨aw, ah, .slice ab am ac, .slice aqb aqn aqc, .slice atb atn atc, acs, aqs, ats⟩ V) (w3.setRow ga #[.int .i64 aw, .int .i64 ah, .slice ab am ac, .slice aqb aqn aqc, .slice atb atn atc]) := ⟨hG.setRow HI.out hgn _, hNew⟩
  have HGN := Lib.hid hgn
  refine wp_world (fun V => LR N x X Y W H 68 w V ∧ BX ga D1 ⟨aw, ah, .slice ab am ac, .slice aqb aqn aqc, .slice atb atn atc, acs, aqs, ats⟩ V) hX ?_
  clear hX hNew hG hgb hfi hot hsd hfe hw1 hw2 hI1 hGm hG0 hgn hg0 hg1 hg2 hg3 hc1 hlN
  intro V1 hG0
  by_cases h1 : E1 = 0
  case neg =>
    have t1 : (E1 != 0) = true := by simpa using h1
    clear HC4 HTW HRB HUN HS
    go_wp2
    go_ret
    exact ⟨rfl, hG0.1.hB⟩
  subst h1
  have hD1 := hG0.2.d
  have hf1 := hG0.2.few
  obtain ⟨he2, hsd2⟩ := HTW.out rfl ⟨aw, ah, .slice ab am ac, .slice aqb aqn aqc, .slice atb atn atc, acs, aqs, ats⟩ hD1
  have hc2 := fun V hI => cut_redact ⟨aw, ah, .slice ab am ac, .slice aqb aqn aqc, .slice atb atn atc, acs, aqs, ats⟩ hf1 X Y W H V hI
  rw [he2] at hc2
  have HSD := Lib.hid hsd2
  generalize redD ⟨aw, ah, .slice ab am ac, .slice aqb aqn aqc, .slice atb atn atc, acs, aqs, ats⟩ X Y W H = D2 at *
  unfold ImgArg.val at hc2
  simp only at hc2
  clear HTW he2 hsd2
  have hlN := hG0.1.bR.lt
  have hltga := hG0.2.b.lt
  go_upto_region 6 with fail
  have hGm : ∀ V V', (fun V => LR N x X Y W H 68 w V ∧ BX ga D1 ⟨aw, ah, .slice ab am ac, .slice aqb aqn aqc, .slice atb atn atc, acs, aqs, ats⟩ V) V → Below V.heap.size V V' → (fun V => LR N x X Y W H 68 w V ∧ BX ga D1 ⟨aw, ah, .slice ab am ac, .slice aqb aqn aqc, .slice atb atn atc, acs, aqs, ats⟩ V) V' := fun V V' hG hb => ⟨hG.1.below hb, hG.2.below hb⟩
  refine wp_region_late [6] [0, 1, 2, 3, 4, 5, 6, 7] [8, 9] (fun V => LR N x X Y W H 68 w V ∧ BX ga D1 ⟨aw, ah, .slice ab am ac, .slice aqb aqn aqc, .slice atb atn atc, acs, aqs, ats⟩ V)
    (fun | 2 => some (sFix (.agg #[.int .i64 X, .int .i64 Y, .int .i64 W, .int .i64 H])) | 3 => some (sRel (shI 0) (fI D2)) | 7 => some (sNew #[.int .i64 0, .int .i64 0, .slice none 0 0, .slice none 0 0, .slice none 0 0] 26) | _ => none) (fun _ => []) (by kernel_rfl) (by kernel_rfl) (by intro j hj; simp at hj; subst hj; rfl) (hGm _ _ hG0 (Below.refl _ _).drew) ?_ ?_
  · intro i s hs
    match i with
    | 2 => cases hs; exact fun _ _ => sFix_mono _ _ _
    | 3 => cases hs; exact fun _ _ => fI_mono _ _
    | 7 => cases hs; exact fun _ _ => sNew_mono _ _ _ _
  simp only [pick, List.getD_cons_succ, List.getD_cons_zero, List.zip_cons_cons, List.zip_nil_right]
  refine mono_pure (by rfl) rfl (fun w1 hG => run_exec_load_row 26 _ rfl ga rfl 26 _ _ hG.2.b Try.underlying26 rfl (by kernel_rfl)) ?_
  simp only [Act.put, List.setIfInBounds_toArray, List.set_cons_zero, List.set_cons_succ]
  refine mono_pure (by rfl) rfl (fun w1 hG => run_exec_load_row 68 _ rfl (N + 1) rfl 68 _ _ hG.1.bR Try.underlying68 rfl (by kernel_rfl)) ?_
  simp only [Act.put, List.setIfInBounds_toArray, List.set_cons_zero, List.set_cons_succ]
  refine mono_fix (.agg #[.int .i64 X, .int .i64 Y, .int .i64 W, .int .i64 H]) (by rfl) rfl hGm (by intro w hG; go_simp; first | done | exact ⟨rfl, rfl⟩) (fun w1 hG hH => law_of19 _ _ _ _ w1) ?_
  simp only [Act.put, List.setIfInBounds_toArray, List.set_cons_zero, List.set_cons_succ]
  refine mono_rel (shI 0) (fI D2) (by rfl) rfl hGm (by intro w hG; go_simp; first | done | exact ⟨rfl, rfl⟩) ⟨_, 0, 0, none, 0, 0, none, 0, 0, none, 0, 0, rfl⟩ (fun w1 hG hH => ?_) (fun v3 hv3 => ?_)
  · refine (hc2 w1 hG.2.img).mono ?_
    rintro e w2 ⟨⟨x1, hres⟩, hb⟩
    obtain ⟨v, e1, e2, e3⟩ := hres.vals
    exact ⟨v, e1, e2, hb, e3 _ _⟩
  obtain ⟨bw, bh, bb, bm, bc, bqb, bqn, bqc, btb, btn, btc, rfl⟩ := hv3
  simp only [Act.put, List.setIfInBounds_toArray, List.set_cons_zero, List.set_cons_succ]
  (repeat (first | (refine mono_skip (by rfl) ?_; simp only [Act.put, List.setIfInBounds_toArray, List.set_cons_zero, List.set_cons_succ]) | (refine mono_pure (v := ?_) (by rfl) rfl ?_ ?_; rotate_left; (intro wS hS; go_simp; try with_reducible rfl); simp only [Act.put, List.setIfInBounds_toArray, List.set_cons_zero, List.set_cons_succ])))
  refine mono_alloc #[.int .i64 0, .int .i64 0, .slice none 0 0, .slice none 0 0, .slice none 0 0] 26 (by rfl) rfl hGm (by intro w; go_simp; try with_reducible rfl) ?_
  intro gb
  simp only [Act.put, List.setIfInBounds_toArray, List.set_cons_zero, List.set_cons_succ]
  refine mono_nil ?_
  rintro w3 hG ⟨_, I, hI1, _⟩
  obtain ⟨hg0, hg1, hg2, g', hge, hg3, -, hgb⟩ := hI1 7 _ (upd_self _ _ _)
  obtain rfl : gb = g' := by simpa using hge
  obtain ⟨-, -, -, hfi⟩ := hI1 3 _ rfl
  obtain ⟨bcs, bqs, bts, hsd, hot, hfe, hw1, hw2⟩ := fI_get hfi
  have hgn : N + 1 < gb := Nat.lt_of_lt_of_le hlN (Nat.le_trans hg0 hg3)
  have hnega : ga ≠ gb := Nat.ne_of_lt (Nat.lt_of_lt_of_le hltga (Nat.le_trans hg0 hg3))
  have hNew : BX gb D2 ⟨bw, bh, .slice bb bm bc, .slice bqb bqn bqc, .slice btb btn btc, bcs, bqs, bts⟩ (w3.setRow gb #[.int .i64 bw, .int .i64 bh, .slice bb bm bc, .slice bqb bqn bqc, .slice btb btn btc]) := BX.new hgb hot hsd hfe hw1 hw2
  go_wp2_with (refine wpList_store_row rfl 26 _ _ rfl gb _ rfl rfl 26 _ hgb (by kernel_rfl) rfl (by simp [Value.oneCell']) ?_)
  refine onlyN_intro ?_
  go_upto_region 7 with fail
  have hX : (fun V => (LR N x X Y W H 68 w V ∧ BX ga D1 ⟨aw, ah, .slice ab am ac, .slice aqb aqn aqc, .slice atb atn atc, acs, aqs, ats⟩ V) ∧ BX gb D2 ⟨bw, bh, .slice bb bm bc, .slice bqb bqn bqc, .slice btb btn btc, bcs, bqs, bts⟩ V) (w3.setRow gb #[.int .i64 bw, .int .i64 bh, .slice bb bm bc, .slice bqb bqn bqc, .slice btb btn btc]) := ⟨⟨hG.1.setRow HI.out hgn _, hG.2.setRow hgb hnega _⟩, hNew⟩
  refine wp_world (fun V => (LR N x X Y W H 68 w V ∧ BX ga D1 ⟨aw, ah, .slice ab am ac, .slice aqb aqn aqc, .slice atb atn atc, acs, aqs, ats⟩ V) ∧ BX gb D2 ⟨bw, bh, .slice bb bm bc, .slice bqb bqn bqc, .slice btb btn btc, bcs, bqs, bts⟩ V) hX ?_
  clear hX hNew hG hgb hfi hot hsd hfe hw1 hw2 hI1 hGm hG0 hgn hg0 hg1 hg2 hg3 hc2 hlN hltga hnega
  intro V2 hG0
  have hsm := HSD.out.trans hG0.2.d
  have hs := fun V h1 h2 => img_same ⟨aw, ah, .slice ab am ac, .slice aqb aqn aqc, .slice atb atn atc, acs, aqs, ats⟩ ⟨bw, bh, .slice bb bm bc, .slice bqb bqn bqc, .slice btb btn btc, bcs, bqs, bts⟩ hf1 V h1 h2
  have hss : sameB ⟨aw, ah, .slice ab am ac, .slice aqb aqn aqc, .slice atb atn atc, acs, aqs, ats⟩ ⟨bw, bh, .slice bb bm bc, .slice bqb bqn bqc, .slice btb btn btc, bcs, bqs, bts⟩ = true := by
    have := hsm.same
    unfold sameB at this ⊢
    simp only [decide_eq_true_eq] at this ⊢
    exact ⟨this.1.symm, this.2.1.symm, this.2.2.1.symm, this.2.2.2.1.symm, this.2.2.2.2.symm⟩
  rw [hss] at hs
  unfold ImgArg.val at hs
  simp only at hs
  have b0 := hG0.2.b.cell 0; have c0 := hG0.1.2.b.cell 0
  have b1 := hG0.2.b.cell 1; have c1 := hG0.1.2.b.cell 1
  have b2 := hG0.2.b.cell 2; have c2 := hG0.1.2.b.cell 2
  have b3 := hG0.2.b.cell 3; have c3 := hG0.1.2.b.cell 3
  have b4 := hG0.2.b.cell 4; have c4 := hG0.1.2.b.cell 4
  clear hsm HSD hss
  go_upto_region 9 with (go_at_call 29; refine (hs _ hG0.1.2.img hG0.2.img).mono ?_; rintro r w5 ⟨rfl, hb5⟩)
  clear b0 b1 b2 b3 b4 c0 c1 c2 c3 c4 hs
  have hGA := And.intro (hG0.1.1.below hb5) (hG0.1.2.below hb5)
  clear hG0 hb5
  obtain ⟨cb, ccap, hcu⟩ := HI.out.cs.len
  have HCU := Lib.hid hcu
  have hcl : acs.length = x.cs.length := by rw [hD1.len]; exact (HS.out (by first | rfl | trivial)).2.2.2.2
  obtain ⟨hyb, hyc, hye⟩ : ∃ b c, Value.slice ab am ac = .slice b acs.length c := hGA.2.own.row.len
  simp only [Value.slice.injEq] at hye
  obtain ⟨rfl, rfl, rfl⟩ := hye
  have hu0 := HUN.out (by first | rfl | trivial)
  have hrb := HRB.out (by first | rfl | trivial) ⟨aw, ah, .slice ab acs.length ac, .slice aqb aqn aqc, .slice atb atn atc, acs, aqs, ats⟩ hD1
  obtain ⟨s1, s2, s3, s4, -⟩ := HS.out (by first | rfl | trivial)
  have HEQ := Lib.hid (show aw = x.w ∧ ah = x.h ∧ aqs = x.qs ∧ ats = x.ts from ⟨hD1.w.trans s1, hD1.h.trans s2, hD1.qs.trans s3, hD1.ts.trans s4⟩)
  have HU0 := Lib.hid hu0
  have HRB2 := Lib.hid hrb
  have HCL := Lib.hid hcl
  have hc20 := hf.c20
  clear HUN HRB HS s1 s2 s3 s4 hu0 hrb hcl hcu hD1 hf1
  go_wp2
  go_loopw [9] (fun iv wr => ∃ k : Nat, k ≤ x.cs.length ∧ iv = .int .i64 k ∧ (fun V => LR N x X Y W H 68 w V ∧ BX ga D1 ⟨aw, ah, .slice ab acs.length ac, .slice aqb aqn aqc, .slice atb atn atc, acs, aqs, ats⟩ V) wr) (fun iv _ => x.cs.length - (intOf iv).toNat)
  case atStart => exact ⟨0, Nat.zero_le _, rfl, hGA⟩
  case round =>
    clear hGA
    obtain ⟨k, hk, rfl, hG⟩ := hrel
    have hG : LR N x X Y W H 68 w wr ∧ BX ga D1 ⟨aw, ah, .slice ab acs.length ac, .slice aqb aqn aqc, .slice atb atn atc, acs, aqs, ats⟩ wr := hG
    have q2 : wr.cell? ⟨N, 2, none⟩ = some (.slice cb x.cs.length ccap) := by rw [← HCU.out]; exact hG.1.l.bN.cell 2
    by_cases hlt : k < x.cs.length
    · have tl : decide (k < x.cs.length) = true := by simpa using hlt
      go_upto_region 12 with fail
      clear tl q2
      obtain ⟨c, r, a, b, h, d, n⟩ := (un_ok HU0.out).nats hlt
      have hE : blkE x X Y W H k = 0 := by unfold blkE; rw [HU0.out, if_neg (by simp), if_neg (by omega)]
      have hV : blkV x X Y W H k = #[.int .i64 a, .int .i64 b, .int .i64 h, .int .i64 d] := by unfold blkV; rw [if_pos hE, Int.toNat_natCast, n.ea, n.eb, n.eh, n.ed]
      have hc4 := fun V hI => HC4.out k V hI
      rw [hE, hV] at hc4
      have hky : k < acs.length := by rw [HCL.out]; exact hlt
      have hrb := HRB2.out k hlt hky c r a b h d n
      have n' := Lib.hid n
      clear hE hV
      have hlN := hG.1.bR.lt
      have hltga := hG.2.b.lt
      have hGm : ∀ V V', (fun V => LR N x X Y W H 68 w V ∧ BX ga D1 ⟨aw, ah, .slice ab acs.length ac, .slice aqb aqn aqc, .slice atb atn atc, acs, aqs, ats⟩ V) V → Below V.heap.size V V' → (fun V => LR N x X Y W H 68 w V ∧ BX ga D1 ⟨aw, ah, .slice ab acs.length ac, .slice aqb aqn aqc, .slice atb atn atc, acs, aqs, ats⟩ V) V' := fun V V' hG hb => ⟨hG.1.below hb, hG.2.below hb⟩
      refine wp_region_late [7] [0, 1, 2, 3, 4, 5, 6, 7, 8] [9, 10] (fun V => LR N x X Y W H 68 w V ∧ BX ga D1 ⟨aw, ah, .slice ab acs.length ac, .slice aqb aqn aqc, .slice atb atn atc, acs, aqs, ats⟩ V)
        (fun | 2 => some (sFix (.agg #[.int .i64 X, .int .i64 Y, .int .i64 W, .int .i64 H])) | 4 => some (sFix (.tuple #[.agg #[.int .i64 a, .int .i64 b, .int .i64 h, .int .i64 d], .int .i64 0])) | 8 => some (sNew #[.int .i64 0, .int .i64 0, .int .i64 0, .int .i64 0] 70) | _ => none) (fun _ => []) (by kernel_rfl) (by kernel_rfl) (by intro j hj; simp at hj; subst hj; rfl) (hGm _ _ hG (Below.refl _ _).drew) ?_ ?_
      · intro i s hs
        match i with
        | 2 => cases hs; exact fun _ _ => sFix_mono _ _ _
        | 4 => cases hs; exact fun _ _ => sFix_mono _ _ _
        | 8 => cases hs; exact fun _ _ => sNew_mono _ _ _ _
      simp only [pick, List.getD_cons_succ, List.getD_cons_zero, List.zip_cons_cons, List.zip_nil_right]
      refine mono_pure (by rfl) rfl (fun w1 hG => run_exec_load_row 26 _ rfl N rfl 26 _ _ hG.1.l.bN Try.underlying26 rfl (by kernel_rfl)) ?_
      simp only [Act.put, List.setIfInBounds_toArray, List.set_cons_zero, List.set_cons_succ]
      refine mono_pure (by rfl) rfl (fun w1 hG => run_exec_load_row 68 _ rfl (N + 1) rfl 68 _ _ hG.1.bR Try.underlying68 rfl (by kernel_rfl)) ?_
      simp only [Act.put, List.setIfInBounds_toArray, List.set_cons_zero, List.set_cons_succ]
      refine mono_fix (.agg #[.int .i64 X, .int .i64 Y, .int .i64 W, .int .i64 H]) (by rfl) rfl hGm (by intro w hG; go_simp; first | done | exact ⟨rfl, rfl⟩) (fun w1 hG hH => law_of19 _ _ _ _ w1) ?_
      simp only [Act.put, List.setIfInBounds_toArray, List.set_cons_zero, List.set_cons_succ]
      (first | (refine mono_skip (by rfl) ?_; simp only [Act.put, List.setIfInBounds_toArray, List.set_cons_zero, List.set_cons_succ]) | (refine mono_pure (v := ?_) (by rfl) rfl ?_ ?_; rotate_left; (intro wS hS; go_simp; try with_reducible rfl); simp only [Act.put, List.setIfInBounds_toArray, List.set_cons_zero, List.set_cons_succ]))
      refine mono_fix (.tuple #[.agg #[.int .i64 a, .int .i64 b, .int .i64 h, .int .i64 d], .int .i64 0]) (by rfl) rfl hGm (by intro w hG; go_simp; first | done | exact ⟨rfl, rfl⟩) (fun w1 hG hH => hc4 w1 hG.1.l.img) ?_
      simp only [Act.put, List.setIfInBounds_toArray, List.set_cons_zero, List.set_cons_succ]
      (repeat (first | (refine mono_skip (by rfl) ?_; simp only [Act.put, List.setIfInBounds_toArray, List.set_cons_zero, List.set_cons_succ]) | (refine mono_pure (v := ?_) (by rfl) rfl ?_ ?_; rotate_left; (intro wS hS; go_simp; try with_reducible rfl); simp only [Act.put, List.setIfInBounds_toArray, List.set_cons_zero, List.set_cons_succ])))
      refine mono_alloc #[.int .i64 0, .int .i64 0, .int .i64 0, .int .i64 0] 70 (by rfl) rfl hGm (by intro w; go_simp; try with_reducible rfl) ?_
      intro g
      simp only [Act.put, List.setIfInBounds_toArray, List.set_cons_zero, List.set_cons_succ]
      refine mono_nil ?_
      rintro w3' hG2 ⟨_, I', hI1, _⟩
      obtain ⟨hg0, hg1, hg2, g', hge, hg3, -, hgb⟩ := hI1 8 _ (upd_self _ _ _)
      obtain rfl : g = g' := by simpa using hge
      have hgn : N + 1 < g := Nat.lt_of_lt_of_le hlN (Nat.le_trans hg0 hg3)
      have hne : ga ≠ g := Nat.ne_of_lt (Nat.lt_of_lt_of_le hltga (Nat.le_trans hg0 hg3))
      go_wp2_with (refine wpList_store_row rfl 70 _ _ rfl g _ rfl rfl 70 _ hgb (by kernel_rfl) rfl (by simp [Value.oneCell']) ?_)
      refine onlyN_intro ?_
      go_upto_region 15 with fail
      have hX : (fun V => (LR N x X Y W H 68 w V ∧ BX ga D1 ⟨aw, ah, .slice ab acs.length ac, .slice aqb aqn aqc, .slice atb atn atc, acs, aqs, ats⟩ V) ∧ Blk V g #[.int .i64 a, .int .i64 b, .int .i64 h, .int .i64 d] 70) (w3'.setRow g #[.int .i64 a, .int .i64 b, .int .i64 h, .int .i64 d]) := ⟨⟨hG2.1.setRow HI.out hgn _, ⟨hG2.2.b.rowOther _ _ hne, hG2.2.own.at' _ (fun g2 cs t hg2 ht => setRow_other _ _ _ _ (fun he => by subst he; have := hg2.symm.trans hgb; simp at this; rcases ht with h | h | h | h <;> (rw [h] at this; exact absurd this.2 (by decide)))), hG2.2.d, hG2.2.few, hG2.2.ww, hG2.2.wh⟩⟩, hgb.row _⟩
      refine wp_world (fun V => (LR N x X Y W H 68 w V ∧ BX ga D1 ⟨aw, ah, .slice ab acs.length ac, .slice aqb aqn aqc, .slice atb atn atc, acs, aqs, ats⟩ V) ∧ Blk V g #[.int .i64 a, .int .i64 b, .int .i64 h, .int .i64 d] 70) hX ?_
      clear hX hG hG2 hgb hI1 hGm hgn hne hg0 hg1 hg2 hg3 hlN hltga hc4

      rintro V4 hK
      have hK : (LR N x X Y W H 68 w V4 ∧ BX ga D1 ⟨aw, ah, .slice ab acs.length ac, .slice aqb aqn aqc, .slice atb atn atc, acs, aqs, ats⟩ V4) ∧ Blk V4 g #[.int .i64 a, .int .i64 b, .int .i64 h, .int .i64 d] 70 := hK
      have hcx := hK.1.1.l.img.cs
      rw [HCU.out] at hcx
      obtain ⟨aa, rfl, -, -, -, -, -, -, -⟩ := hcx.at hlt
      obtain ⟨ya, rfl, -, -, -, -, -, -, -⟩ := (hK.1.2.img.cs).at hky
      obtain ⟨ub, uc, hu, -, -⟩ := (hcx.ok _ (List.getElem_mem hlt)).ar.len
      obtain ⟨vb, vc, hv, -, -⟩ := ((hK.1.2.img.cs).ok _ (List.getElem_mem hky)).ar.len
      have hx64 := (hcx.ok _ (List.getElem_mem hlt)).h64
      have hy64 := ((hK.1.2.img.cs).ok _ (List.getElem_mem hky)).h64
      have hce : ∀ V, (LR N x X Y W H 68 w V ∧ BX ga D1 ⟨aw, ah, .slice (some ya) acs.length ac, .slice aqb aqn aqc, .slice atb atn atc, acs, aqs, ats⟩ V) → V.cell? ⟨N, 2, none⟩ = some (.slice (some aa) x.cs.length ccap) ∧ V.cell? ⟨(aa.add (k * 7)).block, (aa.add (k * 7)).off + 4, none⟩ = some (.int .i64 c) ∧ V.cell? ⟨(aa.add (k * 7)).block, (aa.add (k * 7)).off + 4 + 2, none⟩ = some (.slice ub (x.cs[k]'hlt).bs.length uc) ∧ Ar V 64 (.slice ub (x.cs[k]'hlt).bs.length uc) (x.cs[k]'hlt).bs.length (bcells (x.cs[k]'hlt).bs)
          ∧ V.cell? ⟨ga, 2, none⟩ = some (.slice (some ya) acs.length ac) ∧ V.cell? ⟨(ya.add (k * 7)).block, (ya.add (k * 7)).off + 4 + 2, none⟩ = some (.slice vb (acs[k]'hky).bs.length vc) ∧ Ar V 64 (.slice vb (acs[k]'hky).bs.length vc) (acs[k]'hky).bs.length (bcells (acs[k]'hky).bs) := by
        rintro V ⟨h1, h2⟩
        have hcx := h1.l.img.cs
        rw [HCU.out] at hcx
        obtain ⟨a', ha', -, -, -, -, c4, -, c6⟩ := hcx.at hlt
        cases ha'
        obtain ⟨a', ha', -, -, -, -, -, -, y6⟩ := (h2.img.cs).at hky
        cases ha'
        have hA := (hcx.ok _ (List.getElem_mem hlt)).ar
        have hB := ((h2.img.cs).ok _ (List.getElem_mem hky)).ar
        rw [hu] at hA c6
        rw [hv] at hB y6
        rw [n'.out.ec] at c4
        refine ⟨by rw [← HCU.out]; exact h1.l.bN.cell 2, c4, c6, hA, h2.b.cell 2, y6, hB⟩
      have HCE := Lib.hid hce
      have HRB3 := Lib.hid hrb.2
      have hyl := hrb.1
      have HYL := Lib.hid hyl
      clear hce hrb hu hv hcx hyl
      have n := n'.out
      have hL16 : (x.cs[k]'hlt).bs.length ≤ 16384 := by rw [n.n]; exact n.cr
      have m1 : (0 : Int) ≤ (a : Int) := by omega
      have m2 : (0 : Int) ≤ (b : Int) := by omega
      have m3 : (1 : Int) ≤ (h : Int) := by have := n.h1; omega
      have m4 : (1 : Int) ≤ (d : Int) := by have := n.d1; omega
      have m5 : (a : Int) + (h : Int) ≤ (r : Int) := by have := n.ah; omega
      have m6 : (b : Int) + (d : Int) ≤ (c : Int) := by have := n.bd; omega
      have m7 : (c : Int) ≤ 16384 := by have := n.c1; omega
      have m8 : (r : Int) ≤ 16384 := by have := n.r1; omega
      clear n n'
      have hins : ∀ z : Nat, Pl.insI a b h d c z = decide (((a : Int) ≤ (z : Int) / (c : Int) ∧ (z : Int) / (c : Int) < a + h) ∧ (b : Int) ≤ (z : Int) % (c : Int) ∧ (z : Int) % (c : Int) < b + d) := by
        intro z
        unfold Pl.insI Pl.insB
        rw [Int.natCast_ediv, Int.natCast_emod, decide_eq_decide]
        omega
      have hrb3 : ∀ z, z < (x.cs[k]'hlt).bs.length → Pl.blk (acs[k]'hky).bs z = if decide (((a : Int) ≤ (z : Int) / (c : Int) ∧ (z : Int) / (c : Int) < a + h) ∧ (b : Int) ≤ (z : Int) % (c : Int) ∧ (z : Int) % (c : Int) < b + d) = true then zero64 else Pl.blk (x.cs[k]'hlt).bs z := by
        intro z hz
        rw [← hins]
        exact HRB3.out z hz
      clear HRB3 hins
      have HRB3 := Lib.hid hrb3
      clear hrb3
      generalize (a : Int) = A at *
      generalize (b : Int) = B at *
      generalize (h : Int) = Hh at *
      generalize (d : Int) = D at *
      generalize (c : Int) = C at *
      generalize (r : Int) = R at *
      generalize (x.cs[k]'hlt).bs = bs at *
      generalize (acs[k]'hky).bs = bs2 at *
      have j0 : (0 : Int) ≤ (k : Int) := by omega
      have j1 : (k : Int) < (x.cs.length : Int) := by omega
      have j2 : (k : Int) < (acs.length : Int) := by omega
      go_wp2
      go_loopw [12] (fun iv wr => ∃ z : Nat, z ≤ bs.length ∧ iv = .int .i64 z ∧ (fun V => (LR N x X Y W H 68 w V ∧ BX ga D1 ⟨aw, ah, .slice (some ya) acs.length ac, .slice aqb aqn aqc, .slice atb atn atc, acs, aqs, ats⟩ V) ∧ Blk V g #[.int .i64 A, .int .i64 B, .int .i64 Hh, .int .i64 D] 70) wr) (fun iv _ => bs.length - (intOf iv).toNat)
      case atStart => exact ⟨0, Nat.zero_le _, rfl, hK⟩
      case round =>
        clear hK
        obtain ⟨z, hz, rfl, hK⟩ := hrel
        have hK : (LR N x X Y W H 68 w wr ∧ BX ga D1 ⟨aw, ah, .slice (some ya) acs.length ac, .slice aqb aqn aqc, .slice atb atn atc, acs, aqs, ats⟩ wr) ∧ Blk wr g #[.int .i64 A, .int .i64 B, .int .i64 Hh, .int .i64 D] 70 := hK
        obtain ⟨q2, c4, c6, -, -, -, -⟩ := HCE.out wr hK.1
        by_cases hzl : z < bs.length
        · have tl : decide (z < bs.length) = true := by simpa using hzl
          go_upto_region 18 with fail
          clear q2 c4 c6 tl
          have z1 : (0 : Int) ≤ (z : Int) := by omega
          have z2 : (z : Int) ≤ 16384 := by omega
          have z3 : (z : Int) < (bs.length : Int) := by omega
          have c1 : 1 ≤ C := by omega
          have a1 : 0 ≤ (z : Int) / C := Int.ediv_nonneg z1 (by omega)
          have a2 : (z : Int) / C ≤ z := Int.ediv_le_self _ z1
          have a3 : 0 ≤ (z : Int) % C := Int.emod_nonneg _ (by omega)
          have a4 : (z : Int) % C < C := Int.emod_lt_of_pos _ (by omega)
          have b1 : (z : Int).tmod C = (z : Int) % C := Int.tmod_eq_emod_of_nonneg z1
          have hbk := HRB3.out z hzl
          obtain ⟨ro, hro⟩ : ∃ r, (z : Int) / C = r := ⟨_, rfl⟩
          obtain ⟨co, hco⟩ : ∃ r, (z : Int) % C = r := ⟨_, rfl⟩
          rw [hro] at a1 a2
          rw [hco] at a3 a4 b1
          rw [hro, hco] at hbk
          have Q1 := Lib.hid hro
          have Q2 := Lib.hid b1
          have HBK := Lib.hid hbk
          clear hro hco b1 hbk
          have c0 : C ≠ 0 := by omega
          have c2 : C ≠ -1 := by omega
          refine wp_region_det (fun V => (LR N x X Y W H 68 w V ∧ BX ga D1 ⟨aw, ah, .slice (some ya) acs.length ac, .slice aqb aqn aqc, .slice atb atn atc, acs, aqs, ats⟩ V) ∧ Blk V g #[.int .i64 A, .int .i64 B, .int .i64 Hh, .int .i64 D] 70) (by kernel_rfl) (by kernel_rfl) ⟨⟨hK.1.1.below (Below.refl _ _).drew, hK.1.2.below (Below.refl _ _).drew⟩, hK.2.drew⟩ ?_
          clear hK
          iterate 8 (first | (refine det_skip (by rfl) ?_; simp only [Act.put, List.setIfInBounds_toArray, List.set_cons_zero, List.set_cons_succ]) | (refine det_pure (v := ?_) (by rfl) ?_ ?_; rotate_left; (intro wS hS; have g0 := hS.2.cell 0; obtain ⟨q2, c4, c6, hA, p2, y6, hB⟩ := HCE.out wS hS.1; go_simp; try with_reducible rfl); simp only [Act.put, List.setIfInBounds_toArray, List.set_cons_zero, List.set_cons_succ]))
          refine det_pure (v := .int .i64 ro) (by rfl) (fun w1 hS => by go_simp; rw [Q1.out]; exact IntWalk.i64_in _ (by omega)) ?_
          simp only [Act.put, List.setIfInBounds_toArray, List.set_cons_zero, List.set_cons_succ]
          iterate 8 (first | (refine det_skip (by rfl) ?_; simp only [Act.put, List.setIfInBounds_toArray, List.set_cons_zero, List.set_cons_succ]) | (refine det_pure (v := ?_) (by rfl) ?_ ?_; rotate_left; (intro wS hS; have g0 := hS.2.cell 0; obtain ⟨q2, c4, c6, hA, p2, y6, hB⟩ := HCE.out wS hS.1; go_simp; try with_reducible rfl); simp only [Act.put, List.setIfInBounds_toArray, List.set_cons_zero, List.set_cons_succ]))
          refine det_pure (v := .int .i64 co) (by rfl) (fun w1 hS => by go_simp; rw [Q2.out]) ?_
          simp only [Act.put, List.setIfInBounds_toArray, List.set_cons_zero, List.set_cons_succ]
          iterate 2 (first | (refine det_skip (by rfl) ?_; simp only [Act.put, List.setIfInBounds_toArray, List.set_cons_zero, List.set_cons_succ]) | (refine det_pure (v := ?_) (by rfl) ?_ ?_; rotate_left; (intro wS hS; have g0 := hS.2.cell 0; obtain ⟨q2, c4, c6, hA, p2, y6, hB⟩ := HCE.out wS hS.1; go_simp; try with_reducible rfl); simp only [Act.put, List.setIfInBounds_toArray, List.set_cons_zero, List.set_cons_succ]))
          refine det_nil ?_
          intro W7 hK
          have hK : (LR N x X Y W H 68 w W7 ∧ BX ga D1 ⟨aw, ah, .slice (some ya) acs.length ac, .slice aqb aqn aqc, .slice atb atn atc, acs, aqs, ats⟩ W7) ∧ Blk W7 g #[.int .i64 A, .int .i64 B, .int .i64 Hh, .int .i64 D] 70 := hK
          clear Q1 Q2 c0 c2
          have g0 := hK.2.cell 0; have g1 := hK.2.cell 1; have g2 := hK.2.cell 2; have g3 := hK.2.cell 3
          go_upto_region 19 with fail
          obtain ⟨T, hT⟩ : ∃ T, decide ((A ≤ ro ∧ ro < A + Hh) ∧ B ≤ co ∧ co < B + D) = T := ⟨_, rfl⟩
          have HT2 := Lib.hid hT
          have hbk := HBK.out
          rw [hT] at hbk
          have HBK2 := Lib.hid hbk
          clear hT hbk HBK
          go_cut [15] from 65 to 164 (fun cv wx => cv = .bool T ∧ wx = W7)
          case first =>
            by_cases h1 : ro ≥ A
            · have t1 : decide (ro ≥ A) = true := decide_eq_true h1
              by_cases h2 : ro < A + Hh
              · have t2 : decide (ro < A + Hh) = true := decide_eq_true h2
                by_cases h3 : co ≥ B
                · have t3 : decide (co ≥ B) = true := decide_eq_true h3
                  by_cases h4 : co < B + D
                  · have t4 : decide (co < B + D) = true := decide_eq_true h4
                    obtain rfl : T = true := by rw [← HT2.out]; simp; omega
                    go_wp2
                    go_meet
                    exact ⟨rfl, rfl⟩
                  · have t4 : decide (co < B + D) = false := decide_eq_false h4
                    obtain rfl : T = false := by rw [← HT2.out]; simp; omega
                    go_wp2
                    go_meet
                    exact ⟨rfl, rfl⟩
                · have t3 : decide (co ≥ B) = false := decide_eq_false h3
                  obtain rfl : T = false := by rw [← HT2.out]; simp; omega
                  go_wp2
                  go_meet
                  exact ⟨rfl, rfl⟩
              · have t2 : decide (ro < A + Hh) = false := decide_eq_false h2
                obtain rfl : T = false := by rw [← HT2.out]; simp; omega
                go_wp2
                go_meet
                exact ⟨rfl, rfl⟩
            · have t1 : decide (ro ≥ A) = false := decide_eq_false h1
              obtain rfl : T = false := by rw [← HT2.out]; simp; omega
              go_wp2
              go_meet
              exact ⟨rfl, rfl⟩
          obtain ⟨rfl, rfl⟩ := hcut
          clear g0 g1 g2 g3 HT2 HRB3
          go_upto_region 20 with fail
          have z4 : (z : Int) < (bs2.length : Int) := by rw [HYL.out]; exact z3
          have hz2 : z < bs2.length := by rw [HYL.out]; exact hzl
          have hB0 := Pl.blk_len hy64 z
          have hA0 := Pl.blk_len hx64 z
          have hgA := Pl.blk_get hzl
          have hgB := Pl.blk_get hz2
          have hbk := HBK2.out
          generalize Pl.blk bs2 z = y2 at *
          generalize Pl.blk bs z = y1 at *
          have hz64 : zero64.length = 64 := by simp [zero64]
          have HGA := Lib.hid hgA; have HGB := Lib.hid hgB
          clear HBK2 hgA hgB
          obtain ⟨va, rfl⟩ : ∃ a, vb = some a := by obtain ⟨-, -, -, -, -, -, hB⟩ := HCE.out _ hK.1; obtain ⟨ad, cap', he, -, -⟩ := hB.some (by omega); simp only [Value.slice.injEq] at he; exact ⟨ad, he.1⟩
          obtain ⟨ua, rfl⟩ : ∃ a, ub = some a := by obtain ⟨-, -, -, hA, -, -, -⟩ := HCE.out _ hK.1; obtain ⟨ad, cap', he, -, -⟩ := hA.some (by omega); simp only [Value.slice.injEq] at he; exact ⟨ad, he.1⟩
          refine wp_region_det (fun V => (LR N x X Y W H 68 w V ∧ BX ga D1 ⟨aw, ah, .slice (some ya) acs.length ac, .slice aqb aqn aqc, .slice atb atn atc, acs, aqs, ats⟩ V) ∧ Blk V g #[.int .i64 A, .int .i64 B, .int .i64 Hh, .int .i64 D] 70) (by kernel_rfl) (by kernel_rfl) ⟨⟨hK.1.1.below (Below.refl _ _).drew, hK.1.2.below (Below.refl _ _).drew⟩, hK.2.drew⟩ ?_
          clear hK
          cases T with
          | true =>
            obtain rfl : y2 = zero64 := hbk
            iterate 11 (first | (refine det_skip (by rfl) ?_; simp only [Act.put, List.setIfInBounds_toArray, List.set_cons_zero, List.set_cons_succ]) | (refine det_pure (v := ?_) (by rfl) ?_ ?_; rotate_left; (intro wS hS; have g0 := hS.2.cell 0; obtain ⟨q2, c4, c6, hA, p2, y6, hB⟩ := HCE.out wS hS.1; go_simp; try with_reducible rfl); simp only [Act.put, List.setIfInBounds_toArray, List.set_cons_zero, List.set_cons_succ]))
            refine det_pure (v := .agg (ints .i16 zero64)) (by rfl) (fun w1 hS => by obtain ⟨-, -, -, -, -, -, hB⟩ := HCE.out w1 hS.1; exact ar_loadx hB hy64 z hz2 _ HGB.out _ rfl rfl) ?_
            simp only [Act.put, List.setIfInBounds_toArray, List.set_cons_zero, List.set_cons_succ]
            refine det_pure (v := .agg (ints .i16 zero64)) (by rfl) (fun w1 _ => run_exec_build 57 _ rfl (ints .i16 zero64) (by kernel_rfl)) ?_
            simp only [Act.put, List.setIfInBounds_toArray, List.set_cons_zero, List.set_cons_succ]
            refine det_pure (v := .bool false) (by rfl) (fun w1 _ => (run_exec_neq_ints 57 _ _ _ rfl 55 64 .i16 zero64 zero64 rfl rfl Try.underlying57 Try.underlying55 (by kernel_rfl) hz64 hz64 (by kernel_rfl)).trans (by simp)) ?_
            simp only [Act.put, List.setIfInBounds_toArray, List.set_cons_zero, List.set_cons_succ]
            iterate 28 (first | (refine det_skip (by rfl) ?_; simp only [Act.put, List.setIfInBounds_toArray, List.set_cons_zero, List.set_cons_succ]) | (refine det_pure (v := ?_) (by rfl) ?_ ?_; rotate_left; (intro wS hS; have g0 := hS.2.cell 0; obtain ⟨q2, c4, c6, hA, p2, y6, hB⟩ := HCE.out wS hS.1; go_simp; try with_reducible rfl); simp only [Act.put, List.setIfInBounds_toArray, List.set_cons_zero, List.set_cons_succ]))
            refine det_nil ?_
            intro W9 hK
            go_wp2
            go_roundw
            case rel => exact ⟨z + 1, hzl, rfl, hK⟩
            case measure => simp only [intOf]; omega
          | false =>
            obtain rfl : y2 = y1 := hbk
            iterate 28 (first | (refine det_skip (by rfl) ?_; simp only [Act.put, List.setIfInBounds_toArray, List.set_cons_zero, List.set_cons_succ]) | (refine det_pure (v := ?_) (by rfl) ?_ ?_; rotate_left; (intro wS hS; have g0 := hS.2.cell 0; obtain ⟨q2, c4, c6, hA, p2, y6, hB⟩ := HCE.out wS hS.1; go_simp; try with_reducible rfl); simp only [Act.put, List.setIfInBounds_toArray, List.set_cons_zero, List.set_cons_succ]))
            refine det_pure (v := .agg (ints .i16 y2)) (by rfl) (fun w1 hS => by obtain ⟨-, -, -, -, -, -, hB⟩ := HCE.out w1 hS.1; exact ar_loadx hB hy64 z hz2 _ HGB.out _ rfl rfl) ?_
            simp only [Act.put, List.setIfInBounds_toArray, List.set_cons_zero, List.set_cons_succ]
            iterate 9 (first | (refine det_skip (by rfl) ?_; simp only [Act.put, List.setIfInBounds_toArray, List.set_cons_zero, List.set_cons_succ]) | (refine det_pure (v := ?_) (by rfl) ?_ ?_; rotate_left; (intro wS hS; have g0 := hS.2.cell 0; obtain ⟨q2, c4, c6, hA, p2, y6, hB⟩ := HCE.out wS hS.1; go_simp; try with_reducible rfl); simp only [Act.put, List.setIfInBounds_toArray, List.set_cons_zero, List.set_cons_succ]))
            refine det_pure (v := .agg (ints .i16 y2)) (by rfl) (fun w1 hS => by obtain ⟨-, -, -, hA, -, -, -⟩ := HCE.out w1 hS.1; exact ar_loadx hA hx64 z hzl _ HGA.out _ rfl rfl) ?_
            simp only [Act.put, List.setIfInBounds_toArray, List.set_cons_zero, List.set_cons_succ]
            refine det_pure (v := .bool false) (by rfl) (fun w1 _ => (run_exec_neq_ints 57 _ _ _ rfl 55 64 .i16 y2 y2 rfl rfl Try.underlying57 Try.underlying55 (by kernel_rfl) hA0 hA0 (by kernel_rfl)).trans (by simp)) ?_
            simp only [Act.put, List.setIfInBounds_toArray, List.set_cons_zero, List.set_cons_succ]
            iterate 2 (first | (refine det_skip (by rfl) ?_; simp only [Act.put, List.setIfInBounds_toArray, List.set_cons_zero, List.set_cons_succ]) | (refine det_pure (v := ?_) (by rfl) ?_ ?_; rotate_left; (intro wS hS; have g0 := hS.2.cell 0; obtain ⟨q2, c4, c6, hA, p2, y6, hB⟩ := HCE.out wS hS.1; go_simp; try with_reducible rfl); simp only [Act.put, List.setIfInBounds_toArray, List.set_cons_zero, List.set_cons_succ]))
            refine det_nil ?_
            intro W9 hK
            go_wp2
            go_roundw
            case rel => exact ⟨z + 1, hzl, rfl, hK⟩
            case measure => simp only [intOf]; omega
        · have tl : decide (z < bs.length) = false := by simpa using hzl
          go_wp2
          go_roundw
          case rel => exact ⟨k + 1, hlt, rfl, hK.1⟩
          case measure => simp only [intOf]; omega
    · have tl : decide (k < x.cs.length) = false := by simpa using hlt
      have e2 := hG.2.b.cell 2; have f2 := hG.2.b.free 2
      go_upto_region 23 with fail
      clear e2 f2 tl q2
      have hgn := HGN.out
      have hNe : N ≠ ga := by omega
      have hbs : Below w.heap.size w (wr.setCell ⟨ga, 2, none⟩ (.slice cb x.cs.length ccap)) := hG.1.l.hB.setCell (p := ⟨ga, 2, none⟩) (by show _ ≤ ga; rw [← HN.out]; omega) _
      have hbN : Blk (wr.setCell ⟨ga, 2, none⟩ (.slice cb x.cs.length ccap)) N #[.int .i64 x.w, .int .i64 x.h, x.cu, x.qu, x.tu] 26 := hG.1.l.bN.other _ _ hNe
      have hbG : Blk (wr.setCell ⟨ga, 2, none⟩ (.slice cb x.cs.length ccap)) ga #[.int .i64 aw, .int .i64 ah, .slice cb x.cs.length ccap, .slice aqb aqn aqc, .slice atb atn atc] 26 := hG.2.b.set 2 _
      have hown : OwnT ⟨aw, ah, .slice ab acs.length ac, .slice aqb aqn aqc, .slice atb atn atc, acs, aqs, ats⟩ (wr.setCell ⟨ga, 2, none⟩ (.slice cb x.cs.length ccap)) := hG.2.own.at' _ (fun g2 cs t hg2 ht => heap_setCell_other _ _ _ _ (fun he => by subst he; have := hg2.symm.trans hG.2.b; simp at this; rcases ht with h | h | h | h <;> (rw [h] at this; exact absurd this.2 (by decide))))
      have him := hown.img hG.2.few hG.2.ww hG.2.wh
      have hix := HI.out.below hbs
      have hic := hix.cs
      rw [HCU.out] at hic
      have himx : IsImg (wr.setCell ⟨ga, 2, none⟩ (.slice cb x.cs.length ccap)) (.agg #[.int .i64 aw, .int .i64 ah, .slice cb x.cs.length ccap, .slice aqb aqn aqc, .slice atb atn atc]) ⟨aw, ah, .slice cb x.cs.length ccap, .slice aqb aqn aqc, .slice atb atn atc, x.cs, aqs, ats⟩ := ⟨rfl, him.ww, him.wh, hic, him.qs, him.ts⟩
      have hfx : FewOk ⟨aw, ah, .slice cb x.cs.length ccap, .slice aqb aqn aqc, .slice atb atn atc, x.cs, aqs, ats⟩ := ⟨hf.c20, hG.2.few.q20, hG.2.few.t100, hf.b300, hG.2.few.t140⟩
      have hs := fun V h1 h2 => img_same ⟨aw, ah, .slice cb x.cs.length ccap, .slice aqb aqn aqc, .slice atb atn atc, x.cs, aqs, ats⟩ x hfx V h1 h2
      have hss : sameB ⟨aw, ah, .slice cb x.cs.length ccap, .slice aqb aqn aqc, .slice atb atn atc, x.cs, aqs, ats⟩ x = true := by
        obtain ⟨e1, e2, e3, e4⟩ := HEQ.out
        unfold sameB
        simp only [e1, e2, e3, e4]
        simp
      rw [hss] at hs
      unfold ImgArg.val at hs
      simp only at hs
      have hix2 : IsImg (wr.setCell ⟨ga, 2, none⟩ (.slice cb x.cs.length ccap)) (.agg #[.int .i64 x.w, .int .i64 x.h, x.cu, x.qu, x.tu]) x := hix
      clear hown him hix hic hss hfx HC4 HRB2 HCL hG
      generalize wr.setCell ⟨ga, 2, none⟩ (.slice cb x.cs.length ccap) = Z at *
      go_wp2_with (first
        | (refine wpList_load_row rfl 26 _ rfl ga rfl 26 _ _ _ hbG Try.underlying26 rfl (by kernel_rfl) ?_)
        | (refine wpList_load_row rfl 26 _ rfl N rfl 26 _ _ _ hbN Try.underlying26 rfl (by kernel_rfl) ?_)
        | (go_at_call 29; refine (hs _ himx hix2).mono ?_; rintro r w5 ⟨rfl, hb5⟩))
      go_ret
      exact ⟨rfl, hbs.trans (hb5.mono hbs.size)⟩
end cutBlots
theorem cutBlots.core (v0 : Value) (a0 : ImgArg) (v1 : Value) (a1 : Rect19) (W : World) (s0 : IsImg W v0 a0) (s1 : IsRect19 W v1 a1) :
    Calls Try.prog 13 #[v0, v1] W fun e w' => e = .returned (.bool true) ∧ Below W.heap.size W w' := by
  obtain ⟨rfl, _, _, h3, h4⟩ := s1
  exact cutBlots.walk a0 a1.x a1.y a1.w a1.h v0 W s0
end Go.Proofs.Ytgmhhocpdfdplaa
