/- Package cut: blocks. -/
import Derived.Test.YtgmhhocpdfdplaaCutB
namespace Go.Proofs.Ytgmhhocpdfdplaa
open Go.RowKit
set_option maxRecDepth 100000
set_option maxHeartbeats 4000000
theorem frG_get (x : ImgArg) {i : Nat} (hi : i < x.cs.length) (hg : i < (frG x).length) : ((frG x)[i]'hg).c = acI x * pH x i ∧ ((frG x)[i]'hg).r = dnI x * pV x i := by
  have h := frG_at x hi
  rw [List.getD_eq_getElem?_getD, List.getElem?_eq_getElem hg, Option.getD_some] at h
  rw [h]
  exact ⟨rfl, rfl⟩
theorem ediv_fac {a b z : Int} (h : 1 ≤ a) (e : z = a * b) : z / a = b := by rw [e]; exact Int.mul_ediv_cancel_left b (by omega)
theorem cut_blocks (x : ImgArg) (hc20 : x.cs.length ≤ 20) (hR : RightI x) (i : Nat) (hi : i < x.cs.length) (a b h d : Int) (ha : 0 ≤ a ∧ a ≤ 20000) (hb : 0 ≤ b ∧ b ≤ 20000) (hh : 0 ≤ h ∧ h ≤ 20000) (hd : 0 ≤ d ∧ d ≤ 20000) (w : World) (hI : IsImg w x.val x) :
    Calls Try.prog 86 #[x.val, .agg #[.int .i64 a, .int .i64 b, .int .i64 h, .int .i64 d], .int .i64 i] w fun r w' => r = .returned (.agg #[.int .i64 (a * pV x i), .int .i64 (b * pH x i), .int .i64 (h * pV x i), .int .i64 (d * pH x i)]) ∧ Below w.heap.size w w' := by
  have hL := LR.begin hI a b h d 70
  obtain ⟨N, hN⟩ : ∃ N, N = w.heap.size := ⟨_, rfl⟩
  rw [← hN] at hL
  have HN := Lib.hid hN
  have hfr := fun V h => img_frame x V h hc20
  rw [hR.fr] at hfr
  have hg : i < (frG x).length := by rw [frG_len]; exact hi
  obtain ⟨e1, e2⟩ := frG_get x hi hg
  have hgr := fun F V h => fr_grid F (frG x) i hg V h
  generalize ((frG x)[i]'hg).oc = g2 at *
  generalize ((frG x)[i]'hg).or_ = g3 at *
  generalize ((frG x)[i]'hg).c = cg at *
  generalize ((frG x)[i]'hg).r = rg at *
  obtain ⟨-, -, -, -, hac, hdn⟩ := hR.nums
  obtain ⟨hp1, hp2, hp3, hp4⟩ := hR.part hi
  have K1 : acN x.w (partsOf (psOf x.cs)) = acI x := rfl
  have K2 : dnN x.h (partsOf (psOf x.cs)) = dnI x := rfl
  rw [K1, K2] at hfr
  clear K1 K2
  generalize 8 * hhN (partsOf (psOf x.cs)) = uw at *
  generalize 8 * vvN (partsOf (psOf x.cs)) = uh at *
  generalize acI x = ac at *
  generalize dnI x = dn at *
  generalize pH x i = p at *
  generalize pV x i = q at *
  have b1 := mul_in (a := ac) (b := p) (A := 3000) (B := 4) (by omega) hac.2 (by omega) hp2
  have b2 := mul_in (a := dn) (b := q) (A := 3000) (B := 4) (by omega) hdn.2 (by omega) hp4
  rw [← e1] at b1
  rw [← e2] at b2
  have q1 := ediv_fac hac.1 e1
  have q2 := ediv_fac hdn.1 e2
  have n1 : ac ≠ 0 := by omega
  have n2 : ac ≠ -1 := by omega
  have n3 : dn ≠ 0 := by omega
  have n4 : dn ≠ -1 := by omega
  obtain ⟨m1, hm1⟩ : ∃ m, a * q = m := ⟨_, rfl⟩
  obtain ⟨m2, hm2⟩ : ∃ m, b * p = m := ⟨_, rfl⟩
  obtain ⟨m3, hm3⟩ : ∃ m, h * q = m := ⟨_, rfl⟩
  obtain ⟨m4, hm4⟩ : ∃ m, d * p = m := ⟨_, rfl⟩
  have c1 := mul_in (a := a) (b := q) (A := 20000) (B := 4) ha.1 ha.2 (by omega) hp4
  have c2 := mul_in (a := b) (b := p) (A := 20000) (B := 4) hb.1 hb.2 (by omega) hp2
  have c3 := mul_in (a := h) (b := q) (A := 20000) (B := 4) hh.1 hh.2 (by omega) hp4
  have c4 := mul_in (a := d) (b := p) (A := 20000) (B := 4) hd.1 hd.2 (by omega) hp2
  rw [hm1] at c1; rw [hm2] at c2; rw [hm3] at c3; rw [hm4] at c4
  rw [hm1, hm2, hm3, hm4]
  have W1 := Lib.hid (show IntKind.i64.wrap (a * q) = m1 by rw [hm1]; exact IntWalk.i64_in _ (by omega))
  have W2 := Lib.hid (show IntKind.i64.wrap (b * p) = m2 by rw [hm2]; exact IntWalk.i64_in _ (by omega))
  have W3 := Lib.hid (show IntKind.i64.wrap (h * q) = m3 by rw [hm3]; exact IntWalk.i64_in _ (by omega))
  have W4 := Lib.hid (show IntKind.i64.wrap (d * p) = m4 by rw [hm4]; exact IntWalk.i64_in _ (by omega))
  have Q1 := Lib.hid (show IntKind.i64.wrap (cg.tdiv ac) = p by rw [Int.tdiv_eq_ediv_of_nonneg b1.1, q1]; exact IntWalk.i64_in _ (by omega)); have Q2 := Lib.hid (show IntKind.i64.wrap (rg.tdiv dn) = q by rw [Int.tdiv_eq_ediv_of_nonneg b2.1, q2]; exact IntWalk.i64_in _ (by omega))
  unfold ImgArg.val at *
  clear hN hI e1 e2 hm1 hm2 hm3 hm4 q1 q2
  go_enter Try.func86, Try.ntmps86
  go_upto_region 1 with fail
  refine wp_world (fun V => LR N x a b h d 70 w V ∧ Blk V (N + 2) #[.int .i64 0, .int .i64 0, .int .i64 0, .int .i64 0] 70) ⟨hL.below ((Below.refl _ _).alloc (Nat.le_refl _) _), Blk.new' _ _ _ (by rw [HN.out]; simp)⟩ ?_
  rw [← HN.out]
  clear hL
  rintro V ⟨hL, bQ⟩
  have hNN := hL.l.hM
  go_upto_region 4 with (first
    | (refine wpList_load_row rfl 26 _ rfl N rfl 26 _ _ _ hL.l.bN Try.underlying26 rfl (by kernel_rfl) ?_)
    | (go_at_call 48; refine (hfr _ hL.l.img).mono ?_; rintro r w4 ⟨f, rfl, hb4, -, hf2⟩; obtain ⟨F, rfl, hIF, hFU⟩ := hf2 rfl; replace hL := hL.below hb4; replace bQ := bQ.below hb4 bQ.lt)
    | (go_at_call 130; refine (fr_units F uw uh ac dn _ hFU).mono ?_; rintro r w5 ⟨rfl, hb5⟩; replace hL := hL.below hb5; replace bQ := bQ.below hb5 bQ.lt; replace hIF := hIF.below hb5)
    | (go_at_call 73; refine (hgr F _ hIF).mono ?_; rintro r w6 ⟨rfl, hb6⟩; replace hL := hL.below hb6; replace bQ := bQ.below hb6 bQ.lt; obtain ⟨M, hM⟩ : ∃ M, M = w6.heap.size := ⟨_, rfl⟩; have HM := Lib.hid hM; clear hM)
    | (refine wpList_store_row rfl 116 _ _ rfl M _ (by rw [HM.out]; rfl) rfl 116 _ (Blk.new' _ _ _ HM.out) (by kernel_rfl) rfl (by simp [Value.oneCell']) ?_; simp only [Act.put]))
  have hbe : Below w6.heap.size w6 ((w6.alloc (.cells #[.int .i64 0, .int .i64 0, .int .i64 0, .int .i64 0] 116)).setRow M #[.int .i64 cg, .int .i64 rg, .int .i64 g2, .int .i64 g3]) := Below.setRow ((Below.refl _ _).alloc (Nat.le_refl _) _) (Nat.le_of_eq HM.out.symm) _
  try rw [← HM.out]
  refine wp_region_det (fun V => LR N x a b h d 70 w V ∧ Blk V (N + 2) #[.int .i64 0, .int .i64 0, .int .i64 0, .int .i64 0] 70 ∧ Blk V M #[.int .i64 cg, .int .i64 rg, .int .i64 g2, .int .i64 g3] 116) (by kernel_rfl) (by kernel_rfl) ⟨(hL.below hbe).below (Below.refl _ _).drew, (bQ.below hbe bQ.lt).drew, ((Blk.new' _ _ _ HM.out).row _).drew⟩ ?_
  clear hbe hL bQ hIF hFU hf2 hb4 hb5 hb6 HM
  iterate 3 (first | (refine det_skip (by rfl) ?_; simp only [Act.put, List.setIfInBounds_toArray, List.set_cons_zero, List.set_cons_succ]) | (refine det_pure (v := ?_) (by rfl) ?_ ?_; rotate_left; (intro wS hS; have g0 := hS.2.2.cell 0; have g1 := hS.2.2.cell 1; go_simp; try with_reducible rfl); simp only [Act.put, List.setIfInBounds_toArray, List.set_cons_zero, List.set_cons_succ]))
  refine det_pure (v := .int .i64 p) (by rfl) (fun w1 hS => by go_simp; rw [Q1.out]) ?_
  simp only [Act.put, List.setIfInBounds_toArray, List.set_cons_zero, List.set_cons_succ]
  iterate 3 (first | (refine det_skip (by rfl) ?_; simp only [Act.put, List.setIfInBounds_toArray, List.set_cons_zero, List.set_cons_succ]) | (refine det_pure (v := ?_) (by rfl) ?_ ?_; rotate_left; (intro wS hS; have g0 := hS.2.2.cell 0; have g1 := hS.2.2.cell 1; go_simp; try with_reducible rfl); simp only [Act.put, List.setIfInBounds_toArray, List.set_cons_zero, List.set_cons_succ]))
  refine det_pure (v := .int .i64 q) (by rfl) (fun w1 hS => by go_simp; rw [Q2.out]) ?_
  simp only [Act.put, List.setIfInBounds_toArray, List.set_cons_zero, List.set_cons_succ]
  iterate 2 (first | (refine det_skip (by rfl) ?_; simp only [Act.put, List.setIfInBounds_toArray, List.set_cons_zero, List.set_cons_succ]) | (refine det_pure (v := ?_) (by rfl) ?_ ?_; rotate_left; (intro wS hS; have g0 := hS.2.2.cell 0; have g1 := hS.2.2.cell 1; go_simp; try with_reducible rfl); simp only [Act.put, List.setIfInBounds_toArray, List.set_cons_zero, List.set_cons_succ]))
  refine det_nil ?_
  rintro W7 ⟨hL, bQ, -⟩
  have w1 := W1.out; have w2 := W2.out; have w3 := W3.out; have w4 := W4.out
  have r0 := hL.bR.cell 0; have r1 := hL.bR.cell 1; have r2 := hL.bR.cell 2; have r3 := hL.bR.cell 3
  go_wp2_with (refine wpList_store_row rfl 70 _ _ rfl (N + 2) _ rfl rfl 70 _ bQ (by kernel_rfl) rfl (by simp [Value.oneCell']) ?_)
  simp only [Act.put]
  refine bodyPost_ret (results_cell_row rfl _ _ (N + 2) 70 _ (0, 0) _ rfl (bQ.row _) Try.underlying70 rfl (by kernel_rfl)) rfl ?_
  exact ⟨rfl, Below.setRow hL.hB (by omega) _⟩
end Go.Proofs.Ytgmhhocpdfdplaa
