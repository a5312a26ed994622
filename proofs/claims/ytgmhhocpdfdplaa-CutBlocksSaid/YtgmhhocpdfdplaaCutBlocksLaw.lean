/- aquatintlaw19.CutBlocks, walked. -/
import Derived.Test.YtgmhhocpdfdplaaCutK
import Derived.Test.YtgmhhocpdfdplaaCutQ
import Derived.Test.YtgmhhocpdfdplaaOpenCut
namespace Go.Proofs.Ytgmhhocpdfdplaa
open Go.RowKit
set_option maxRecDepth 100000
theorem blkV_get (x : ImgArg) (X Y W H i : Int) : ∃ p q r s : Int, blkV x X Y W H i = #[.int .i64 p, .int .i64 q, .int .i64 r, .int .i64 s] ∧ (blkE x X Y W H i = 0 → p = unA x Y * pV x i.toNat ∧ q = unB x X * pH x i.toNat ∧ r = upI H (uhI x) * pV x i.toNat ∧ s = upI W (uwI x) * pH x i.toNat) := by
  unfold blkV
  by_cases h : blkE x X Y W H i = 0
  · rw [if_pos h]; exact ⟨_, _, _, _, rfl, fun _ => ⟨rfl, rfl, rfl, rfl⟩⟩
  · rw [if_neg h]; exact ⟨0, 0, 0, 0, rfl, fun k => absurd k h⟩
theorem blk_wi {x : ImgArg} {X Y W H i : Int} (h : wiE x X Y W H ≠ 0) : blkE x X Y W H i = wiE x X Y W H := by
  have hu : unE x X Y W H = wiE x X Y W H := by unfold unE; rw [if_neg h]
  have h1 := (wiE_ne x X Y W H).1
  unfold blkE
  rw [hu, if_pos ⟨h, h1⟩]
theorem unE_beg {x : ImgArg} {X Y W H : Int} (h : wiE x X Y W H = 0) : unE x X Y W H = if begB x X Y = true then 0 else 13 := by
  unfold unE begB
  rw [if_pos h]
  simp only [decide_eq_true_eq]
theorem blk_out {x : ImgArg} {X Y W H i : Int} (h : wiE x X Y W H = 0) (hi : i < 0 ∨ (x.cs.length : Int) ≤ i) : blkE x X Y W H i = 1 := by
  unfold blkE
  rw [unE_beg h, if_neg (by split <;> simp), if_pos hi]
theorem blk_in {x : ImgArg} {X Y W H i : Int} (h : wiE x X Y W H = 0) (hi : ¬ (i < 0 ∨ (x.cs.length : Int) ≤ i)) : blkE x X Y W H i = if begB x X Y = true then 0 else 13 := by
  unfold blkE
  rw [unE_beg h, if_neg (by split <;> simp), if_neg hi]
/-- The frame's box, the plane's, the rectangle of blocks'. -/
structure KB (N g F M : Nat) (x : ImgArg) (X Y W H : Int) (p q r s c rr : Int) (pl u gv : Value) (w V : World) : Prop where
  l : LR N x X Y W H 68 w V
  bg : Blk V g #[.int .i64 p, .int .i64 q, .int .i64 r, .int .i64 s] 70
  bF : Blk V F (frV x u gv) 44
  f : RFr x u gv V
  bM : Blk V M #[.int .i64 c, .int .i64 rr, pl] 61
theorem KB.below {N g F M : Nat} {x : ImgArg} {X Y W H : Int} {p q r s c rr : Int} {pl u gv : Value} {w V V' : World} (h : KB N g F M x X Y W H p q r s c rr pl u gv w V) (hb : Below V.heap.size V V') : KB N g F M x X Y W H p q r s c rr pl u gv w V' :=
  ⟨h.l.below hb, h.bg.below hb h.bg.lt, h.bF.below hb h.bF.lt, h.f.below hb, h.bM.below hb h.bM.lt⟩
namespace cutBlocks
set_option maxHeartbeats 16000000 in
theorem walk (x : ImgArg) (X Y W H i : Int) (v : Value) (w : World) (h : IsImg w v x) :
    Calls Try.prog 9 #[v, .agg #[.int .i64 X, .int .i64 Y, .int .i64 W, .int .i64 H], .int .i64 i] w fun e w' => e = .returned (.bool true) ∧ Below w.heap.size w w' := by
  have hv := h.val
  subst hv
  have HI := Lib.hid h
  have hL := LR.begin h X Y W H 68
  obtain ⟨N, hN⟩ : ∃ N, N = w.heap.size := ⟨_, rfl⟩
  rw [← hN] at hL
  have HN := Lib.hid hN
  have hsm := fun V h => law_small19 x V h
  unfold ImgArg.val at hsm
  clear hN h
  unfold ImgArg.val
  go_enter Try.func9, Try.ntmps9
  go_upto_region 1 with fail
  refine wp_world (fun V => LR N x X Y W H 68 w V) hL ?_
  rw [← HN.out]
  clear hL
  intro V hL
  go_upto_region 3 with (first | (go_at_call 32; refine (awake19a _).mono ?_; rintro e w1 ⟨rfl, hb1⟩; have hL1 := hL.below hb1; have p0 := hL1.l.bN.cell 0; have p1 := hL1.l.bN.cell 1; have p2 := hL1.l.bN.cell 2; have p3 := hL1.l.bN.cell 3; have p4 := hL1.l.bN.cell 4) | (go_at_call 33; refine (hsm _ hL1.l.img).mono ?_; rintro e w2 ⟨⟨bb, rfl, hbf⟩, hb2⟩; cases bb))
  · go_wp2_with (go_at_call 32; refine (awake19a _).mono ?_; rintro e w3 ⟨rfl, hb3⟩)
    go_ret
    exact ⟨rfl, ((hL1.below hb2).below hb3).hB⟩
  have hf := hbf (by first | rfl | trivial)
  have hG0 := hL1.below hb2
  clear hL hL1 hb1 hb2 hsm p0 p1 p2 p3 p4 hbf
  have hc1 := fun V hI => cut_Blocks x hf X Y W H i V hI
  obtain ⟨p, q, r, s, hv, hpq⟩ := blkV_get x X Y W H i
  have HPQ := Lib.hid hpq
  have hwi := fun V h => ref_within19 x hf X Y W H V h
  have HB1 := Lib.hid (fun h => blk_wi (x := x) (X := X) (Y := Y) (W := W) (H := H) (i := i) h)
  have HB2 := Lib.hid (fun h => blk_out (x := x) (X := X) (Y := Y) (W := W) (H := H) (i := i) h)
  have HB3 := Lib.hid (fun h => blk_in (x := x) (X := X) (Y := Y) (W := W) (H := H) (i := i) h)
  have HBG := Lib.hid (fun h => unE_beg (x := x) (X := X) (Y := Y) (W := W) (H := H) h)
  have HWZ := Lib.hid (fun h => wiE_zero (x := x) (X := X) (Y := Y) (W := W) (H := H) h)
  rw [hv] at hc1
  clear hpq hv
  generalize blkE x X Y W H i = E at *
  generalize wiE x X Y W H = G at *
  unfold ImgArg.val at hc1 hwi
  have hlN := hG0.bR.lt
  have hGm : ∀ V V', (fun V => LR N x X Y W H 68 w V) V → Below V.heap.size V V' → (fun V => LR N x X Y W H 68 w V) V' := fun V V' hG hb => hG.below hb
  refine wp_region_late [7] [0, 1, 2, 3, 4, 5, 6, 7, 8] [9, 10] (fun V => LR N x X Y W H 68 w V)
    (fun | 2 => some (sFix (.agg #[.int .i64 X, .int .i64 Y, .int .i64 W, .int .i64 H])) | 4 => some (sFix (.tuple #[.agg #[.int .i64 p, .int .i64 q, .int .i64 r, .int .i64 s], .int .i64 E])) | 8 => some (sNew #[.int .i64 0, .int .i64 0, .int .i64 0, .int .i64 0] 70) | _ => none) (fun _ => []) (by kernel_rfl) (by kernel_rfl) (by intro j hj; simp at hj; subst hj; rfl) (hGm _ _ hG0 (Below.refl _ _).drew) ?_ ?_
  · intro i s hs
    match i with
    | 2 => cases hs; exact fun _ _ => sFix_mono _ _ _
    | 4 => cases hs; exact fun _ _ => sFix_mono _ _ _
    | 8 => cases hs; exact fun _ _ => sNew_mono _ _ _ _
  simp only [pick, List.getD_cons_succ, List.getD_cons_zero, List.zip_cons_cons, List.zip_nil_right]
  refine mono_pure (by rfl) rfl (fun w1 hG => run_exec_load_row 26 _ rfl N rfl 26 _ _ hG.l.bN Try.underlying26 rfl (by kernel_rfl)) ?_
  simp only [Act.put, List.setIfInBounds_toArray, List.set_cons_zero, List.set_cons_succ]
  refine mono_pure (by rfl) rfl (fun w1 hG => run_exec_load_row 68 _ rfl (N + 1) rfl 68 _ _ hG.bR Try.underlying68 rfl (by kernel_rfl)) ?_
  simp only [Act.put, List.setIfInBounds_toArray, List.set_cons_zero, List.set_cons_succ]
  refine mono_fix (.agg #[.int .i64 X, .int .i64 Y, .int .i64 W, .int .i64 H]) (by rfl) rfl hGm (by intro w hG; go_simp; first | done | exact ⟨rfl, rfl⟩) (fun w1 hG hH => law_of19 _ _ _ _ w1) ?_
  simp only [Act.put, List.setIfInBounds_toArray, List.set_cons_zero, List.set_cons_succ]
  (first | (refine mono_skip (by rfl) ?_; simp only [Act.put, List.setIfInBounds_toArray, List.set_cons_zero, List.set_cons_succ]) | (refine mono_pure (v := ?_) (by rfl) rfl ?_ ?_; rotate_left; (intro wS hS; go_simp; try with_reducible rfl); simp only [Act.put, List.setIfInBounds_toArray, List.set_cons_zero, List.set_cons_succ]))
  refine mono_fix (.tuple #[.agg #[.int .i64 p, .int .i64 q, .int .i64 r, .int .i64 s], .int .i64 E]) (by rfl) rfl hGm (by intro w hG; go_simp; first | done | exact ⟨rfl, rfl⟩) (fun w1 hG hH => hc1 w1 hG.l.img) ?_
  simp only [Act.put, List.setIfInBounds_toArray, List.set_cons_zero, List.set_cons_succ]
  (repeat (first | (refine mono_skip (by rfl) ?_; simp only [Act.put, List.setIfInBounds_toArray, List.set_cons_zero, List.set_cons_succ]) | (refine mono_pure (v := ?_) (by rfl) rfl ?_ ?_; rotate_left; (intro wS hS; go_simp; try with_reducible rfl); simp only [Act.put, List.setIfInBounds_toArray, List.set_cons_zero, List.set_cons_succ])))
  refine mono_alloc #[.int .i64 0, .int .i64 0, .int .i64 0, .int .i64 0] 70 (by rfl) rfl hGm (by intro w; go_simp; try with_reducible rfl) ?_
  intro g
  simp only [Act.put, List.setIfInBounds_toArray, List.set_cons_zero, List.set_cons_succ]
  refine mono_nil ?_
  rintro w3 hG ⟨_, I, hI1, _⟩
  obtain ⟨hg0, hg1, hg2, g', hge, hg3, -, hgb⟩ := hI1 8 _ (upd_self _ _ _)
  obtain rfl : g = g' := by simpa using hge
  have hgn : N + 1 < g := Nat.lt_of_lt_of_le hlN (Nat.le_trans hg0 hg3)
  go_wp2_with (refine wpList_store_row rfl 70 _ _ rfl g _ rfl rfl 70 _ hgb (by kernel_rfl) rfl (by simp [Value.oneCell']) ?_)
  refine onlyN_intro ?_
  go_upto_region 4 with fail
  refine wp_world (fun V => LR N x X Y W H 68 w V ∧ Blk V g #[.int .i64 p, .int .i64 q, .int .i64 r, .int .i64 s] 70) ⟨hG.setRow HI.out hgn _, hgb.row _⟩ ?_
  clear hG hgb hI1 hGm hG0 hgn hg0 hg1 hg2 hg3 hc1 hlN
  rintro V1 ⟨hL, bg⟩
  go_upto_region 5 with (first
    | (refine wpList_load_row rfl 26 _ rfl N rfl 26 _ _ _ hL.l.bN Try.underlying26 rfl (by kernel_rfl) ?_)
    | (refine wpList_load_row rfl 68 _ rfl (N + 1) rfl 68 _ _ _ hL.bR Try.underlying68 rfl (by kernel_rfl) ?_)
    | (go_at_call 36; refine (hwi _ hL.l.img).mono ?_; rintro e w4 ⟨rfl, hb4⟩; replace hL := hL.below hb4; replace bg := bg.below hb4 bg.lt))
  clear hwi
  by_cases hG : G = 0
  case neg =>
    obtain rfl := HB1.out hG
    have t1 : (E != 0) = true := by simpa using hG
    clear HB1 HB2 HB3 HBG HWZ hG HPQ
    go_wp2
    go_ret
    exact ⟨rfl, hL.hB⟩
  subst hG
  have hb2 := HB2.out rfl
  have hb3 := HB3.out rfl
  have hwz := HWZ.out rfl
  have HB2' := Lib.hid hb2; have HB3' := Lib.hid hb3
  have hbgz := HBG.out rfl
  have HUN := Lib.hid hbgz
  clear HB1 HB2 HB3 HBG HWZ hb2 hb3 hbgz
  obtain ⟨cb, ccap, hcu⟩ := (hL.l.img).cs.len
  have q2 := hL.l.bN.cell 2
  have HCU := Lib.hid hcu
  rw [hcu] at q2
  clear hcu
  have hc20 := hf.c20
  have HWZ := Lib.hid hwz
  clear hwz
  by_cases ho : i < 0 ∨ (x.cs.length : Int) ≤ i
  · obtain rfl := HB2'.out ho
    clear HB2' HB3' HPQ HWZ HUN
    by_cases h2 : i < 0
    · have t2 : decide (i < 0) = true := decide_eq_true h2
      clear ho h2
      go_wp2
      go_ret
      exact ⟨rfl, hL.hB⟩
    · have t2 : decide (i < 0) = false := decide_eq_false h2
      have t3 : decide (i ≥ (x.cs.length : Int)) = true := decide_eq_true (by omega)
      clear ho h2
      go_wp2
      go_ret
      exact ⟨rfl, hL.hB⟩
  have hb3 := HB3'.out ho
  have HE := Lib.hid hb3
  clear HB2' HB3' hb3
  obtain ⟨k, rfl⟩ : ∃ k : Nat, i = k := ⟨i.toNat, by omega⟩
  have hk : k < x.cs.length := by omega
  have t2 : decide ((k : Int) < 0) = false := decide_eq_false (by omega)
  have t3 : decide ((x.cs.length : Int) ≤ (k : Int)) = false := decide_eq_false (by omega)
  clear ho
  go_upto_region 9 with fail
  have hR := right_of_imgE (HWZ.out).1
  have hfr := fun V hI => ref_frame19 x hR V hI hc20
  unfold ImgArg.val at hfr
  go_upto_region 10 with (first
    | (refine wpList_load_row rfl 26 _ rfl N rfl 26 _ _ _ hL.l.bN Try.underlying26 rfl (by kernel_rfl) ?_)
    | (go_at_call 25; refine (hfr _ hL.l.img).mono ?_; rintro e w5 ⟨⟨u, gv, rfl, hF⟩, hb5⟩; replace hL := hL.below hb5; replace bg := bg.below hb5 bg.lt; have hone : (frV x u gv).all (·.oneCell') = true := (by obtain ⟨_, _, h1⟩ := hF.pr.len; obtain ⟨_, _, _, h2⟩ := hF.gr; rw [h1, h2]; simp [frV, Value.oneCell']); obtain ⟨F, hF0⟩ : ∃ F, F = w5.heap.size := ⟨_, rfl⟩; have HF := Lib.hid hF0; clear hF0)
    | (refine wpList_store_row rfl 44 _ _ rfl F _ (by rw [HF.out]; rfl) rfl 44 _ (Blk.new' _ _ _ HF.out) (by kernel_rfl) rfl hone ?_; simp only [Act.put]))
  have hbe : Below w5.heap.size w5 ((w5.alloc (.cells #[.int .i64 0, .int .i64 0, .int .i64 0, .int .i64 0, .slice none 0 0, .slice none 0 0] 44)).setRow F (frV x u gv)) := Below.setRow ((Below.refl _ _).alloc (Nat.le_refl _) _) (Nat.le_of_eq HF.out.symm) _
  refine wp_world (fun V => LR N x X Y W H 68 w V ∧ Blk V g #[.int .i64 p, .int .i64 q, .int .i64 r, .int .i64 s] 70 ∧ Blk V F (frV x u gv) 44 ∧ RFr x u gv V) ⟨hL.below hbe, bg.below hbe bg.lt, (Blk.new' _ _ _ HF.out).row _, hF.below hbe⟩ ?_
  rw [← HF.out]
  clear hbe hL bg hF HF hb5 hfr hone
  rintro V2 ⟨hL, bg, bF, hF⟩
  obtain ⟨n1, n2, n3, n4, n5, n6⟩ := hR.nums
  obtain ⟨-, ⟨x1, x2, x3, x4⟩, y1, y2, y3, y4⟩ := HWZ.out
  have hbg := fun V hI => ref_begins x hR u gv X Y W H ⟨x1, by omega⟩ ⟨y1, by omega⟩ V hI
  have htc := fun row col hr hc V hI => ref_touched x hR u gv X Y W H ⟨x1, by omega⟩ ⟨y1, by omega⟩ ⟨by omega, by omega⟩ ⟨by omega, by omega⟩ k hk row col hr hc V hI
  clear x1 x2 x3 x4 y1 y2 y3 y4 n1 n2 n3 n4 n5 n6
  unfold frV at hbg
  have hE := HE.out
  have hU := HUN.out
  clear HE HUN
  generalize begB x X Y = B at *
  cases B with
  | false =>
    obtain rfl : E = 13 := hE
    clear hU HPQ HWZ htc
    go_wp2_with (first
      | (refine wpList_load_row rfl 44 _ rfl F rfl 44 _ _ _ bF Try.underlying44 rfl (by kernel_rfl) ?_)
      | (refine wpList_load_row rfl 68 _ rfl (N + 1) rfl 68 _ _ _ hL.bR Try.underlying68 rfl (by kernel_rfl) ?_)
      | (go_at_call 37; refine (hbg _ hF).mono ?_; rintro e w6 ⟨rfl, hb6⟩; replace hL := hL.below hb6))
    go_ret
    exact ⟨rfl, hL.hB⟩
  | true =>
  obtain rfl : E = 0 := hE
  replace hU : unE x X Y W H = 0 := hU
  obtain ⟨hp, hq, hr, hs⟩ := HPQ.out rfl
  rw [Int.toNat_natCast] at hp hq hr hs
  have HT := Lib.hid (fun row col => touB_in hU hk row col)
  obtain ⟨c, rr, a, b, h, d, n⟩ := (un_ok hU).nats hk
  rw [n.ea] at hp; rw [n.eb] at hq; rw [n.eh] at hr; rw [n.ed] at hs
  rw [n.ea, n.eb, n.eh, n.ed] at HT
  subst hp hq hr hs
  have n' := Lib.hid n
  clear HPQ HWZ hU
  have hcs := hL.l.img.cs
  have HCS := Lib.hid (fun V (h : IsImg V x.val x) => h.cs)
  simp only [HCU.out] at HCS
  have q2' : ∀ V, LR N x X Y W H 68 w V → V.cell? ⟨N, 2, none⟩ = some (.slice cb x.cs.length ccap) := fun V h => by rw [← HCU.out]; exact h.l.bN.cell 2
  have HQ2 := Lib.hid q2'
  clear q2' hcs q2
  go_upto_region 12 with (first
    | (refine wpList_load_row rfl 44 _ rfl F rfl 44 _ _ _ bF Try.underlying44 rfl (by kernel_rfl) ?_)
    | (refine wpList_load_row rfl 68 _ rfl (N + 1) rfl 68 _ _ _ hL.bR Try.underlying68 rfl (by kernel_rfl) ?_)
    | (go_at_call 37; refine (hbg _ hF).mono ?_; rintro e w6 ⟨rfl, hb6⟩; replace hL := hL.below hb6; replace bg := bg.below hb6 bg.lt; replace bF := bF.below hb6 bF.lt; replace hF := hF.below hb6))
  clear hbg
  have q2 := HQ2.out _ hL
  obtain ⟨aa, rfl, c0, c1, c2, c3, c4, c5, c6⟩ := (HCS.out _ hL.l.img).at hk
  obtain ⟨ub, uc, hu⟩ : ∃ ub uc, (x.cs[k]'hk).u = .slice ub (x.cs[k]'hk).bs.length uc := by obtain ⟨ub, uc, hu, -, -⟩ := ((HCS.out _ hL.l.img).ok _ (List.getElem_mem hk)).ar.len; exact ⟨ub, uc, hu⟩
  rw [n.ec] at c4
  rw [n.er] at c5
  rw [hu, n.n] at c6
  have j0 : (0 : Int) ≤ (k : Int) := by omega
  have j1 : (k : Int) < (x.cs.length : Int) := by omega
  clear n hu
  go_upto_region 13 with fail
  have hbe : Below w6.heap.size w6 (w6.alloc (.cells #[.int .i64 c, .int .i64 rr, .slice ub (c * rr) uc] 61)) := (Below.refl _ _).alloc (Nat.le_refl _) _
  have hbM : Blk (w6.alloc (.cells #[.int .i64 c, .int .i64 rr, .slice ub (c * rr) uc] 61)) w6.heap.size #[.int .i64 c, .int .i64 rr, .slice ub (c * rr) uc] 61 := Blk.new' _ _ _ rfl
  have hX : KB N g F w6.heap.size x X Y W H a b h d c rr (.slice ub (c * rr) uc) u gv w (w6.alloc (.cells #[.int .i64 c, .int .i64 rr, .slice ub (c * rr) uc] 61)) := ⟨hL.below hbe, bg.below hbe bg.lt, bF.below hbe bF.lt, hF.below hbe, hbM⟩
  generalize w6.heap.size = M at *
  refine wp_world (KB N g F M x X Y W H a b h d c rr (.slice ub (c * rr) uc) u gv w) hX ?_
  clear hX hbM hbe hL bg bF hF c0 c1 c2 c3 c4 c5 c6 q2 HQ2 HCS HCU hb6 hb4 t2 t3 j0 j1
  have n := n'.out
  have m1 : (0 : Int) ≤ (a : Int) := by omega
  have m2 : (0 : Int) ≤ (b : Int) := by omega
  have m3 : (1 : Int) ≤ (h : Int) := by have := n.h1; omega
  have m4 : (1 : Int) ≤ (d : Int) := by have := n.d1; omega
  have m5 : (a : Int) + (h : Int) ≤ (rr : Int) := by have := n.ah; omega
  have m6 : (b : Int) + (d : Int) ≤ (c : Int) := by have := n.bd; omega
  have m7 : (c : Int) ≤ 16384 := by have := n.c1; omega
  have m8 : (rr : Int) ≤ 16384 := by have := n.r1; omega
  have m9 := n.cr
  clear n n'
  generalize c * rr = L at *
  generalize (a : Int) = A at *
  generalize (b : Int) = B at *
  generalize (h : Int) = Hh at *
  generalize (d : Int) = D at *
  generalize (c : Int) = C at *
  generalize (rr : Int) = R at *
  intro V3 hK
  have HK := Lib.hid hK
  go_wp2
  go_loopw [13] (fun iv wr => ∃ z : Nat, z ≤ L ∧ iv = .int .i64 z ∧ KB N g F M x X Y W H A B Hh D C R (.slice ub L uc) u gv w wr) (fun iv _ => L - (intOf iv).toNat)
  case atStart => exact ⟨0, Nat.zero_le _, rfl, hK⟩
  case round =>
    clear hK HK
    obtain ⟨z, hz, rfl, hK⟩ := hrel
    have k2 := hK.bM.cell 2
    by_cases hlt : z < L
    · have tl : decide (z < L) = true := by simpa using hlt
      go_upto_region 16 with fail
      clear k2 tl
      have z1 : (0 : Int) ≤ (z : Int) := by omega
      have z2 : (z : Int) ≤ 16384 := by omega
      have c1 : 1 ≤ C := by omega
      have a1 : 0 ≤ (z : Int) / C := Int.ediv_nonneg z1 (by omega)
      have a2 : (z : Int) / C ≤ z := Int.ediv_le_self _ z1
      have a3 : 0 ≤ (z : Int) % C := Int.emod_nonneg _ (by omega)
      have a4 : (z : Int) % C < C := Int.emod_lt_of_pos _ (by omega)
      have b1 : (z : Int).tmod C = (z : Int) % C := Int.tmod_eq_emod_of_nonneg z1
      obtain ⟨ro, hro⟩ : ∃ r, (z : Int) / C = r := ⟨_, rfl⟩
      obtain ⟨co, hco⟩ : ∃ r, (z : Int) % C = r := ⟨_, rfl⟩
      rw [hro] at a1 a2
      rw [hco] at a3 a4 b1
      have Q1 := Lib.hid hro
      have Q2 := Lib.hid b1
      clear hro hco b1
      have c0 : C ≠ 0 := by omega
      have c2 : C ≠ -1 := by omega
      refine wp_region_det (KB N g F M x X Y W H A B Hh D C R (.slice ub L uc) u gv w) (by kernel_rfl) (by kernel_rfl) (hK.below (Below.refl _ _).drew) ?_
      clear hK
      iterate 3 (first | (refine det_skip (by rfl) ?_; simp only [Act.put, List.setIfInBounds_toArray, List.set_cons_zero, List.set_cons_succ]) | (refine det_pure (v := ?_) (by rfl) ?_ ?_; rotate_left; (intro wS hS; have k0 := hS.bM.cell 0; go_simp; try with_reducible rfl); simp only [Act.put, List.setIfInBounds_toArray, List.set_cons_zero, List.set_cons_succ]))
      refine det_pure (v := .int .i64 ro) (by rfl) (fun w1 hS => by go_simp; rw [Q1.out]; exact IntWalk.i64_in _ (by omega)) ?_
      simp only [Act.put, List.setIfInBounds_toArray, List.set_cons_zero, List.set_cons_succ]
      iterate 3 (first | (refine det_skip (by rfl) ?_; simp only [Act.put, List.setIfInBounds_toArray, List.set_cons_zero, List.set_cons_succ]) | (refine det_pure (v := ?_) (by rfl) ?_ ?_; rotate_left; (intro wS hS; have k0 := hS.bM.cell 0; go_simp; try with_reducible rfl); simp only [Act.put, List.setIfInBounds_toArray, List.set_cons_zero, List.set_cons_succ]))
      refine det_pure (v := .int .i64 co) (by rfl) (fun w1 hS => by go_simp; rw [Q2.out]) ?_
      simp only [Act.put, List.setIfInBounds_toArray, List.set_cons_zero, List.set_cons_succ]
      iterate 2 (first | (refine det_skip (by rfl) ?_; simp only [Act.put, List.setIfInBounds_toArray, List.set_cons_zero, List.set_cons_succ]) | (refine det_pure (v := ?_) (by rfl) ?_ ?_; rotate_left; (intro wS hS; have k0 := hS.bM.cell 0; go_simp; try with_reducible rfl); simp only [Act.put, List.setIfInBounds_toArray, List.set_cons_zero, List.set_cons_succ]))
      refine det_nil ?_
      intro W7 hK
      clear Q1 Q2 z1 z2 c0 c2
      have g0 := hK.bg.cell 0; have g1 := hK.bg.cell 1; have g2 := hK.bg.cell 2; have g3 := hK.bg.cell 3
      go_upto_region 17 with fail
      obtain ⟨T, hT⟩ : ∃ T, decide ((A ≤ ro ∧ ro < A + Hh) ∧ B ≤ co ∧ co < B + D) = T := ⟨_, rfl⟩
      have HT2 := Lib.hid hT
      have HTT : touB x X Y W H k ro co = T := by rw [HT.out, hT]
      clear hT HT
      have htc := htc ro co ⟨by omega, by omega⟩ ⟨by omega, by omega⟩
      rw [HTT] at htc
      clear HTT
      go_cut [16] from 69 to 119 (fun c wx => c = .bool T ∧ wx = W7)
      case first =>
        clear htc
        by_cases h1 : ro ≥ A
        · have t1 : decide (ro ≥ A) = true := decide_eq_true h1
          by_cases h2 : ro < A + Hh
          · have t2 : decide (ro < A + Hh) = true := decide_eq_true h2
            by_cases h3 : co ≥ B
            · have t3 : decide (co ≥ B) = true := decide_eq_true h3
              by_cases h4 : co < B + D
              · have t4 : decide (co < B + D) = true := decide_eq_true h4
                obtain rfl : T = true := by rw [← HT2.out]; simp; omega
                go_wp2
                go_meet
                exact ⟨rfl, rfl⟩
              · have t4 : decide (co < B + D) = false := decide_eq_false h4
                obtain rfl : T = false := by rw [← HT2.out]; simp; omega
                go_wp2
                go_meet
                exact ⟨rfl, rfl⟩
            · have t3 : decide (co ≥ B) = false := decide_eq_false h3
              obtain rfl : T = false := by rw [← HT2.out]; simp; omega
              go_wp2
              go_meet
              exact ⟨rfl, rfl⟩
          · have t2 : decide (ro < A + Hh) = false := decide_eq_false h2
            obtain rfl : T = false := by rw [← HT2.out]; simp; omega
            go_wp2
            go_meet
            exact ⟨rfl, rfl⟩
        · have t1 : decide (ro ≥ A) = false := decide_eq_false h1
          obtain rfl : T = false := by rw [← HT2.out]; simp; omega
          go_wp2
          go_meet
          exact ⟨rfl, rfl⟩
      obtain ⟨rfl, rfl⟩ := hcut
      clear g0 g1 g2 g3 HT2
      unfold frV at htc
      have te : (T != T) = false := by simp
      go_wp2_with (first
        | (refine wpList_load_row rfl 44 _ rfl F rfl 44 _ _ _ hK.bF Try.underlying44 rfl (by kernel_rfl) ?_)
        | (refine wpList_load_row rfl 68 _ rfl (N + 1) rfl 68 _ _ _ hK.l.bR Try.underlying68 rfl (by kernel_rfl) ?_)
        | (go_at_call 38; refine (htc _ hK.f).mono ?_; rintro e w8 ⟨rfl, hb8⟩; replace hK := hK.below hb8))
      go_roundw
      case rel => exact ⟨z + 1, hlt, rfl, hK⟩
      case measure => simp only [intOf]; omega
    · have tl : decide (z < L) = false := by simpa using hlt
      have g0 := hK.bg.cell 0; have g1 := hK.bg.cell 1; have g2 := hK.bg.cell 2; have g3 := hK.bg.cell 3
      have k0 := hK.bM.cell 0; have k1 := hK.bM.cell 1
      have t1 : decide (Hh ≥ 1) = true := decide_eq_true m3
      have t2 : decide (D ≥ 1) = true := decide_eq_true m4
      have t3 : decide (A + Hh ≤ R) = true := decide_eq_true m5
      have t4 : decide (B + D ≤ C) = true := decide_eq_true m6
      go_wp2
      go_ret
      exact ⟨rfl, hK.l.hB⟩
end cutBlocks
theorem cutBlocks.core (v0 : Value) (a0 : ImgArg) (v1 : Value) (a1 : Rect19) (a : Int) (_w2 : (Lit.int .i64 a).wf = true) (W : World) (s0 : IsImg W v0 a0) (s1 : IsRect19 W v1 a1) :
    Calls Try.prog 9 #[v0, v1, .int .i64 a] W fun e w' => e = .returned (.bool true) ∧ Below W.heap.size W w' := by
  obtain ⟨rfl, _, _, h3, h4⟩ := s1
  exact cutBlocks.walk a0 a1.x a1.y a1.w a1.h a v0 W s0
end Go.Proofs.Ytgmhhocpdfdplaa
