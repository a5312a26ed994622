/- The reference's small functions on cuts: Begins, Touched. -/
import Derived.Test.YtgmhhocpdfdplaaCutI
import Derived.BigQuiet
namespace Go.Proofs.Ytgmhhocpdfdplaa
open Go.RowKit
set_option maxRecDepth 100000
set_option maxHeartbeats 4000000
/-- The reference's frame of an image, as a value. -/
structure RFr (x : ImgArg) (u gv : Value) (W : World) : Prop where
  pr : Row W 0 112 2 u (qsP x).length ((qsP x).map partC).flatten
  gr : ∃ b n cap, gv = .slice b n cap
theorem RFr.below {x : ImgArg} {u gv : Value} {W W' : World} (h : RFr x u gv W) (hb : Below W.heap.size W W') : RFr x u gv W' := ⟨h.pr.grow hb, h.gr⟩
def frV (x : ImgArg) (u gv : Value) : Array Value := #[.int .i64 (uwI x), .int .i64 (uhI x), .int .i64 (acI x), .int .i64 (dnI x), u, gv]
theorem ref_frame19 (x : ImgArg) (hR : RightI x) (w : World) (h : IsImg w x.val x) (hf : x.cs.length ≤ 20) :
    Calls Try.prog 25 #[x.val] w fun r w' => (∃ u gv, r = .returned (.tuple #[.agg (frV x u gv), .int .i64 0]) ∧ RFr x u gv w') ∧ Below w.heap.size w w' := by
  refine (ref_frame x w h hf).mono ?_
  rintro r w' ⟨⟨v, rfl, -, h2⟩, hb⟩
  have hz : newE x.w x.h (psOf x.cs) = 0 := hR.fr
  obtain ⟨u, gv, rfl, hu, hg⟩ := h2 hz
  obtain ⟨gb, gc, rfl⟩ := hg.len
  exact ⟨⟨u, _, by rw [hz]; rfl, ⟨hu.down (Nat.zero_le _), ⟨_, _, _, rfl⟩⟩⟩, hb⟩
/-- The frame's box, the rectangle's. -/
structure TB (N : Nat) (x : ImgArg) (u gv : Value) (X Y W H : Int) (w V : World) : Prop where
  bF : Blk V N #[.int .i64 (uwI x), .int .i64 (uhI x), .int .i64 (acI x), .int .i64 (dnI x), u, gv] 44
  bR : Blk V (N + 1) #[.int .i64 X, .int .i64 Y, .int .i64 W, .int .i64 H] 68
  f : RFr x u gv V
  hB : Below N w V
theorem TB.below {N : Nat} {x : ImgArg} {u gv : Value} {X Y W H : Int} {w V V' : World} (h : TB N x u gv X Y W H w V) (hb : Below V.heap.size V V') : TB N x u gv X Y W H w V' :=
  ⟨h.bF.below hb h.bF.lt, h.bR.below hb h.bR.lt, h.f.below hb, h.hB.trans (hb.mono (Nat.le_of_lt h.bF.lt))⟩
theorem TB.begin {x : ImgArg} {u gv : Value} {X Y W H : Int} {w : World} (h : RFr x u gv w) :
    TB w.heap.size x u gv X Y W H w ((w.alloc (.cells #[.int .i64 (uwI x), .int .i64 (uhI x), .int .i64 (acI x), .int .i64 (dnI x), u, gv] 44)).alloc (.cells #[.int .i64 X, .int .i64 Y, .int .i64 W, .int .i64 H] 68)) :=
  ⟨(Blk.new _ _ _).alloc _, Blk.new' _ _ _ (by simp), (h.below ((Below.refl _ _).alloc (Nat.le_refl _) _)).below ((Below.refl _ _).alloc (Nat.le_refl _) _), ((Below.refl _ _).alloc (Nat.le_refl _) _).alloc (by simp) _⟩
def begB (x : ImgArg) (X Y : Int) : Bool := decide (X % uwI x = 0 ∧ Y % uhI x = 0)
theorem ref_begins (x : ImgArg) (hR : RightI x) (u gv : Value) (X Y W H : Int) (hX : 0 ≤ X ∧ X ≤ 20000) (hY : 0 ≤ Y ∧ Y ≤ 20000) (w : World) (h : RFr x u gv w) :
    Calls Try.prog 37 #[.agg (frV x u gv), .agg #[.int .i64 X, .int .i64 Y, .int .i64 W, .int .i64 H]] w fun r w' => r = .returned (.bool (begB x X Y)) ∧ Below w.heap.size w w' := by
  obtain ⟨R, hR2⟩ : ∃ R, begB x X Y = R := ⟨_, rfl⟩
  rw [hR2]
  unfold begB at hR2
  have hS := TB.begin (X := X) (Y := Y) (W := W) (H := H) h
  obtain ⟨N, hN⟩ : ∃ N, N = w.heap.size := ⟨_, rfl⟩
  have HN := Lib.hid hN
  rw [← hN] at hS ⊢
  obtain ⟨-, -, hu, hv, -⟩ := hR.nums
  have HR := Lib.hid hR2
  unfold frV
  have hX1 := hX.1; have hX2 := hX.2; have hY1 := hY.1; have hY2 := hY.2
  clear hN hR2 hR h
  go_enter Try.func37, Try.ntmps37
  go_upto_region 1 with fail
  rw [← HN.out]
  refine wp_world (TB N x u gv X Y W H w) hS ?_
  clear hS
  intro V hS
  have f0 := hS.bF.cell 0; have f1 := hS.bF.cell 1; have r0 := hS.bR.cell 0; have r1 := hS.bR.cell 1
  generalize uwI x = uw at *
  generalize uhI x = uh at *
  have n0 : uw ≠ 0 := by omega
  have n1 : uw ≠ -1 := by omega
  have n2 : uh ≠ 0 := by omega
  have n3 : uh ≠ -1 := by omega
  by_cases h1 : X % uw = 0
  · have t1 : (X % uw == 0) = true := by simpa using h1
    by_cases h2 : Y % uh = 0
    · have t2 : (Y % uh == 0) = true := by simpa using h2
      obtain rfl : R = true := by rw [← HR.out]; exact decide_eq_true ⟨h1, h2⟩
      clear HR h1 h2
      go_wp2
      go_ret
      exact ⟨rfl, hS.hB⟩
    · have t2 : (Y % uh == 0) = false := by simpa using h2
      obtain rfl : R = false := by rw [← HR.out]; exact decide_eq_false fun h => h2 h.2
      clear HR h1 h2
      go_wp2
      go_ret
      exact ⟨rfl, hS.hB⟩
  · have t1 : (X % uw == 0) = false := by simpa using h1
    obtain rfl : R = false := by rw [← HR.out]; exact decide_eq_false fun h => h1 h.1
    clear HR h1
    go_wp2
    go_ret
    exact ⟨rfl, hS.hB⟩
def touN (uw uh cx cy X Y W H : Int) : Bool := decide (X < cx + uw ∧ cx < X + W ∧ Y < cy + uh ∧ cy < Y + H)
def touB (x : ImgArg) (X Y W H : Int) (i : Nat) (row col : Int) : Bool := touN (uwI x) (uhI x) (col / pH x i * uwI x) (row / pV x i * uhI x) X Y W H
theorem ref_touched (x : ImgArg) (hR : RightI x) (u gv : Value) (X Y W H : Int) (hX : 0 ≤ X ∧ X ≤ 20000) (hY : 0 ≤ Y ∧ Y ≤ 20000) (hW : 0 ≤ W ∧ W ≤ 20000) (hH : 0 ≤ H ∧ H ≤ 20000) (i : Nat) (hi : i < x.cs.length) (row col : Int) (hrow : 0 ≤ row ∧ row ≤ 20000) (hcol : 0 ≤ col ∧ col ≤ 20000) (w : World) (h : RFr x u gv w) :
    Calls Try.prog 38 #[.agg (frV x u gv), .agg #[.int .i64 X, .int .i64 Y, .int .i64 W, .int .i64 H], .int .i64 i, .int .i64 row, .int .i64 col] w fun r w' => r = .returned (.bool (touB x X Y W H i row col)) ∧ Below w.heap.size w w' := by
  obtain ⟨R, hR2⟩ : ∃ R, touB x X Y W H i row col = R := ⟨_, rfl⟩
  rw [hR2]
  unfold touB at hR2
  have hS := TB.begin (X := X) (Y := Y) (W := W) (H := H) h
  have hql : i < (qsP x).length := by rw [qsP_len]; exact hi
  have hq4 := hR.ok.n2
  have hpe : (qsP x)[i]'hql = (pH x i, pV x i) := by unfold pH pV hA vA; simp [List.getD_eq_getElem?_getD, hql]
  obtain ⟨ub, uc, rfl⟩ := h.pr.len
  have hel : ∀ V, RFr x (.slice ub (qsP x).length uc) gv V → Elems V 2 (.slice ub (qsP x).length uc) ((qsP x).map partC) := fun V h =>
    Ar.elems h.pr.ar (fun c hc => by obtain ⟨p, _, rfl⟩ := List.mem_map.1 hc; rfl) (by simp) (by simp only [maxLen]; omega)
  have hce : ∀ V, RFr x (.slice ub (qsP x).length uc) gv V → ∃ a, ub = some a ∧ V.cell? (a.add (i * 2)) = some (.int .i64 (pH x i)) ∧ V.cell? ⟨(a.add (i * 2)).block, (a.add (i * 2)).off + 1, none⟩ = some (.int .i64 (pV x i)) := fun V h => by
    obtain ⟨a, cap', he, c0, cj⟩ := (hel V h).get (by decide) (i := i) (by simpa using hql)
    rw [getD_map' _ _ _ _ hql, hpe] at c0 cj
    simp only [List.length_map, Value.slice.injEq] at he
    exact ⟨a, he.1, c0, cj 1 (by decide) (by decide)⟩
  obtain ⟨-, -, hu, hv, -⟩ := hR.nums
  obtain ⟨p1, p2, p3, p4⟩ := hR.part hi
  obtain ⟨N, hN⟩ : ∃ N, N = w.heap.size := ⟨_, rfl⟩
  have HN := Lib.hid hN
  rw [← hN] at hS ⊢
  have HR := Lib.hid hR2
  have HCE := Lib.hid hce
  obtain ⟨hX1, hX2⟩ := hX; obtain ⟨hY1, hY2⟩ := hY; obtain ⟨hW1, hW2⟩ := hW; obtain ⟨hH1, hH2⟩ := hH; obtain ⟨hr1, hr2⟩ := hrow; obtain ⟨hc1, hc2⟩ := hcol
  have j0 : (0 : Int) ≤ (i : Int) := by omega
  have j1 : (i : Int) < ((qsP x).length : Int) := by omega
  unfold frV
  clear hN hR2 hR h hel hce hpe
  go_enter Try.func38, Try.ntmps38
  go_upto_region 1 with fail
  rw [← HN.out]
  refine wp_world (TB N x (.slice ub (qsP x).length uc) gv X Y W H w) hS ?_
  clear hS
  intro V hS
  have f4 := hS.bF.cell 4
  obtain ⟨a, rfl, c0, c1⟩ := HCE.out V hS.f
  obtain ⟨K, hK⟩ : ∃ K, K = V.heap.size := ⟨_, rfl⟩
  have HK := Lib.hid hK
  clear hK HCE
  generalize (qsP x).length = ql at *
  go_upto_region 2 with fail
  have hbe : Below V.heap.size V (V.alloc (.cells #[.int .i64 (pH x i), .int .i64 (pV x i)] 112)) := (Below.refl _ _).alloc (Nat.le_refl _) _
  rw [← HK.out]
  refine wp_region_det (fun V => Blk V K #[.int .i64 (pH x i), .int .i64 (pV x i)] 112 ∧ TB N x (.slice (some a) ql uc) gv X Y W H w V) (by kernel_rfl) (by kernel_rfl) ⟨(Blk.new' _ _ _ HK.out).drew, (hS.below hbe).below (Below.refl _ _).drew⟩ ?_
  clear hbe hS HK c0 c1 f4
  generalize pH x i = p at *
  generalize pV x i = q at *
  have a1 : 0 ≤ col / p := Int.ediv_nonneg hc1 (by omega)
  have a2 : col / p ≤ col := Int.ediv_le_self _ hc1
  have a3 : 0 ≤ row / q := Int.ediv_nonneg hr1 (by omega)
  have a4 : row / q ≤ row := Int.ediv_le_self _ hr1
  have Q1 := Lib.hid (show IntKind.i64.wrap (col.tdiv p) = col / p by rw [Int.tdiv_eq_ediv_of_nonneg hc1]; exact IntWalk.i64_in _ (by omega))
  have Q2 := Lib.hid (show IntKind.i64.wrap (row.tdiv q) = row / q by rw [Int.tdiv_eq_ediv_of_nonneg hr1]; exact IntWalk.i64_in _ (by omega))
  generalize col / p = c1 at *
  generalize row / q = r1 at *
  have b1 := mul_in (a := c1) (b := uwI x) (A := 20000) (B := 32) a1 (by omega) (by omega) hu.2
  have b2 := mul_in (a := r1) (b := uhI x) (A := 20000) (B := 32) a3 (by omega) (by omega) hv.2
  obtain ⟨cx, hcx⟩ : ∃ z, c1 * uwI x = z := ⟨_, rfl⟩
  obtain ⟨cy, hcy⟩ : ∃ z, r1 * uhI x = z := ⟨_, rfl⟩
  have hR3 := HR.out
  rw [hcx, hcy] at hR3
  rw [hcx] at b1
  rw [hcy] at b2
  have M1 := Lib.hid (show IntKind.i64.wrap (c1 * uwI x) = cx by rw [hcx]; exact IntWalk.i64_in _ (by omega))
  have M2 := Lib.hid (show IntKind.i64.wrap (r1 * uhI x) = cy by rw [hcy]; exact IntWalk.i64_in _ (by omega))
  clear HR
  have HR := Lib.hid hR3
  clear hR3 hcx hcy
  have np : p ≠ 0 := by omega
  have nq : q ≠ 0 := by omega
  have np1 : p ≠ -1 := by omega
  have nq1 : q ≠ -1 := by omega
  iterate 3 (first | (refine det_skip (by rfl) ?_; simp only [Act.put, List.setIfInBounds_toArray, List.set_cons_zero, List.set_cons_succ]) | (refine det_pure (v := ?_) (by rfl) ?_ ?_; rotate_left; (intro wS hS; have k0 := hS.1.cell 0; have k1 := hS.1.cell 1; have f0 := hS.2.bF.cell 0; have f1 := hS.2.bF.cell 1; go_simp; try with_reducible rfl); simp only [Act.put, List.setIfInBounds_toArray, List.set_cons_zero, List.set_cons_succ]))
  refine det_pure (v := .int .i64 c1) (by rfl) (fun w1 hS => by go_simp; rw [Q1.out]) ?_
  simp only [Act.put, List.setIfInBounds_toArray, List.set_cons_zero, List.set_cons_succ]
  iterate 2 (first | (refine det_skip (by rfl) ?_; simp only [Act.put, List.setIfInBounds_toArray, List.set_cons_zero, List.set_cons_succ]) | (refine det_pure (v := ?_) (by rfl) ?_ ?_; rotate_left; (intro wS hS; have k0 := hS.1.cell 0; have k1 := hS.1.cell 1; have f0 := hS.2.bF.cell 0; have f1 := hS.2.bF.cell 1; go_simp; try with_reducible rfl); simp only [Act.put, List.setIfInBounds_toArray, List.set_cons_zero, List.set_cons_succ]))
  refine det_pure (v := .int .i64 cx) (by rfl) (fun w1 hS => by go_simp; rw [M1.out]) ?_
  simp only [Act.put, List.setIfInBounds_toArray, List.set_cons_zero, List.set_cons_succ]
  iterate 3 (first | (refine det_skip (by rfl) ?_; simp only [Act.put, List.setIfInBounds_toArray, List.set_cons_zero, List.set_cons_succ]) | (refine det_pure (v := ?_) (by rfl) ?_ ?_; rotate_left; (intro wS hS; have k0 := hS.1.cell 0; have k1 := hS.1.cell 1; have f0 := hS.2.bF.cell 0; have f1 := hS.2.bF.cell 1; go_simp; try with_reducible rfl); simp only [Act.put, List.setIfInBounds_toArray, List.set_cons_zero, List.set_cons_succ]))
  refine det_pure (v := .int .i64 r1) (by rfl) (fun w1 hS => by go_simp; rw [Q2.out]) ?_
  simp only [Act.put, List.setIfInBounds_toArray, List.set_cons_zero, List.set_cons_succ]
  iterate 2 (first | (refine det_skip (by rfl) ?_; simp only [Act.put, List.setIfInBounds_toArray, List.set_cons_zero, List.set_cons_succ]) | (refine det_pure (v := ?_) (by rfl) ?_ ?_; rotate_left; (intro wS hS; have k0 := hS.1.cell 0; have k1 := hS.1.cell 1; have f0 := hS.2.bF.cell 0; have f1 := hS.2.bF.cell 1; go_simp; try with_reducible rfl); simp only [Act.put, List.setIfInBounds_toArray, List.set_cons_zero, List.set_cons_succ]))
  refine det_pure (v := .int .i64 cy) (by rfl) (fun w1 hS => by go_simp; rw [M2.out]) ?_
  simp only [Act.put, List.setIfInBounds_toArray, List.set_cons_zero, List.set_cons_succ]
  iterate 2 (first | (refine det_skip (by rfl) ?_; simp only [Act.put, List.setIfInBounds_toArray, List.set_cons_zero, List.set_cons_succ]) | (refine det_pure (v := ?_) (by rfl) ?_ ?_; rotate_left; (intro wS hS; have k0 := hS.1.cell 0; have k1 := hS.1.cell 1; have f0 := hS.2.bF.cell 0; have f1 := hS.2.bF.cell 1; go_simp; try with_reducible rfl); simp only [Act.put, List.setIfInBounds_toArray, List.set_cons_zero, List.set_cons_succ]))
  refine det_nil ?_
  rintro W7 ⟨-, hS⟩
  have f0 := hS.bF.cell 0; have f1 := hS.bF.cell 1; have r0 := hS.bR.cell 0; have r1 := hS.bR.cell 1; have r2 := hS.bR.cell 2; have r3 := hS.bR.cell 3
  generalize uwI x = uw at *
  generalize uhI x = uh at *
  clear Q1 Q2 M1 M2 a1 a2 a3 a4 np nq np1 nq1 hr1 hr2 hc1 hc2 p1 p2 p3 p4
  by_cases h1 : cx + uw > X
  · have t1 : decide (cx + uw > X) = true := decide_eq_true h1
    by_cases h2 : cx < X + W
    · have t2 : decide (cx < X + W) = true := decide_eq_true h2
      by_cases h3 : cy + uh > Y
      · have t3 : decide (cy + uh > Y) = true := decide_eq_true h3
        by_cases h4 : cy < Y + H
        · have t4 : decide (cy < Y + H) = true := decide_eq_true h4
          obtain rfl : R = true := by rw [← HR.out]; unfold touN; simp; omega
          clear HR
          go_wp2
          go_ret
          exact ⟨rfl, hS.hB⟩
        · have t4 : decide (cy < Y + H) = false := decide_eq_false h4
          obtain rfl : R = false := by rw [← HR.out]; unfold touN; simp; omega
          clear HR
          go_wp2
          go_ret
          exact ⟨rfl, hS.hB⟩
      · have t3 : decide (cy + uh > Y) = false := decide_eq_false h3
        obtain rfl : R = false := by rw [← HR.out]; unfold touN; simp; omega
        clear HR
        go_wp2
        go_ret
        exact ⟨rfl, hS.hB⟩
    · have t2 : decide (cx < X + W) = false := decide_eq_false h2
      obtain rfl : R = false := by rw [← HR.out]; unfold touN; simp; omega
      clear HR
      go_wp2
      go_ret
      exact ⟨rfl, hS.hB⟩
  · have t1 : decide (cx + uw > X) = false := decide_eq_false h1
    obtain rfl : R = false := by rw [← HR.out]; unfold touN; simp; omega
    clear HR
    go_wp2
    go_ret
    exact ⟨rfl, hS.hB⟩
end Go.Proofs.Ytgmhhocpdfdplaa
