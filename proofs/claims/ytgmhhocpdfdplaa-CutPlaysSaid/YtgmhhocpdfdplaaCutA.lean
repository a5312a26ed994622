/- Package cut: inside, Within; the reference's Within. -/
import Derived.Test.YtgmhhocpdfdplaaRightI
import Derived.Test.YtgmhhocpdfdplaaFrU
namespace Go.Proofs.Ytgmhhocpdfdplaa
open Go.RowKit
set_option maxRecDepth 100000
set_option maxHeartbeats 4000000
def insideB (a n l : Int) : Bool := decide (0 ≤ a ∧ 1 ≤ n ∧ a < l ∧ n ≤ l - a)
theorem cut_inside (a n l : Int) (hl : l ≤ 16384) (w : World) : Calls Try.prog 93 #[.int .i64 a, .int .i64 n, .int .i64 l] w fun r w' => r = .returned (.bool (insideB a n l)) ∧ w = w' := by
  obtain ⟨R, hR⟩ : ∃ R, insideB a n l = R := ⟨_, rfl⟩
  rw [hR]
  by_cases h1 : 0 ≤ a
  · have t1 : decide (0 ≤ a) = true := decide_eq_true h1
    by_cases h2 : 1 ≤ n
    · have t2 : decide (1 ≤ n) = true := decide_eq_true h2
      by_cases h3 : a < l
      · have t3 : decide (a < l) = true := decide_eq_true h3
        by_cases h4 : n ≤ l - a
        · have t4 : decide (n ≤ l - a) = true := decide_eq_true h4
          obtain rfl : R = true := by rw [← hR]; unfold insideB; simp; omega
          clear hR
          go_enter Try.func93, Try.ntmps93
          go_wp2
          go_ret
          exact ⟨rfl, rfl⟩
        · have t4 : decide (n ≤ l - a) = false := decide_eq_false h4
          obtain rfl : R = false := by rw [← hR]; unfold insideB; simp; omega
          clear hR
          go_enter Try.func93, Try.ntmps93
          go_wp2
          go_ret
          exact ⟨rfl, rfl⟩
      · have t3 : decide (a < l) = false := decide_eq_false h3
        obtain rfl : R = false := by rw [← hR]; unfold insideB; simp; omega
        clear hR
        go_enter Try.func93, Try.ntmps93
        go_wp2
        go_ret
        exact ⟨rfl, rfl⟩
    · have t2 : decide (1 ≤ n) = false := decide_eq_false h2
      obtain rfl : R = false := by rw [← hR]; unfold insideB; simp; omega
      clear hR
      go_enter Try.func93, Try.ntmps93
      go_wp2
      go_ret
      exact ⟨rfl, rfl⟩
  · have t1 : decide (0 ≤ a) = false := decide_eq_false h1
    obtain rfl : R = false := by rw [← hR]; unfold insideB; simp; omega
    clear hR
    go_enter Try.func93, Try.ntmps93
    go_wp2
    go_ret
    exact ⟨rfl, rfl⟩
/-- Does a rectangle lie within an image? -/
def wiE (x : ImgArg) (X Y W H : Int) : Int := if imgE x = 0 then (if insideB X W x.w = true ∧ insideB Y H x.h = true then 0 else 14) else imgE x
/-- The image's box, a rectangle's behind it. -/
structure LR (N : Nat) (x : ImgArg) (X Y W H : Int) (t : TypeId) (w V : World) : Prop where
  l : LI N x w V
  bR : Blk V (N + 1) #[.int .i64 X, .int .i64 Y, .int .i64 W, .int .i64 H] t
theorem LR.below {N : Nat} {x : ImgArg} {X Y W H : Int} {t : TypeId} {w V V' : World} (h : LR N x X Y W H t w V) (hb : Below V.heap.size V V') : LR N x X Y W H t w V' := ⟨h.l.below hb, h.bR.below hb h.bR.lt⟩
theorem LR.hB {N : Nat} {x : ImgArg} {X Y W H : Int} {t : TypeId} {w V : World} (h : LR N x X Y W H t w V) : Below w.heap.size w V := h.l.hB
theorem LR.begin {x : ImgArg} {w : World} (h : IsImg w x.val x) (X Y W H : Int) (t : TypeId) :
    LR w.heap.size x X Y W H t w ((w.alloc (.cells #[.int .i64 x.w, .int .i64 x.h, x.cu, x.qu, x.tu] 26)).alloc (.cells #[.int .i64 X, .int .i64 Y, .int .i64 W, .int .i64 H] t)) :=
  ⟨(LI.begin h).below ((Below.refl _ _).alloc (Nat.le_refl _) _), Blk.new' _ _ _ (by simp)⟩
theorem cut_within (x : ImgArg) (hf : FewOk x) (X Y W H : Int) (w : World) (h : IsImg w x.val x) :
    Calls Try.prog 43 #[x.val, .agg #[.int .i64 X, .int .i64 Y, .int .i64 W, .int .i64 H]] w fun r w' => r = .returned (.int .i64 (wiE x X Y W H)) ∧ Below w.heap.size w w' := by
  obtain ⟨R, hR⟩ : ∃ R, wiE x X Y W H = R := ⟨_, rfl⟩
  rw [hR]
  have HR := Lib.hid hR
  have hL := LR.begin h X Y W H 73
  obtain ⟨N, hN⟩ : ∃ N, N = w.heap.size := ⟨_, rfl⟩
  rw [← hN] at hL
  have HN := Lib.hid hN
  have hr := fun W h => img_right x W h hf
  have HRI := Lib.hid (fun h => RightI.nums (@right_of_imgE x h))
  unfold ImgArg.val at *
  clear hN h hR
  go_enter Try.func43, Try.ntmps43
  go_upto_region 1 with fail
  refine wp_world (LR N x X Y W H 73 w) hL ?_
  rw [← HN.out]
  clear hL
  intro V hL
  by_cases h0 : imgE x = 0
  · have hnum := HRI.out h0
    obtain ⟨⟨-, hw2⟩, ⟨-, hh2⟩, -⟩ := hnum
    rw [h0] at hr
    have hi := fun W => cut_inside X W x.w hw2
    obtain ⟨b1, hb1⟩ : ∃ b, insideB X W x.w = b := ⟨_, rfl⟩
    obtain ⟨b2, hb2⟩ : ∃ b, insideB Y H x.h = b := ⟨_, rfl⟩
    have hi1 := cut_inside X W x.w hw2
    have hi2 := cut_inside Y H x.h hh2
    rw [hb1] at hi1
    rw [hb2] at hi2
    have HR2 := Lib.hid (show (if b1 = true ∧ b2 = true then 0 else 14) = R by rw [← HR.out]; unfold wiE; rw [if_pos h0, hb1, hb2])
    clear HR HRI hw2 hh2 hb1 hb2 hi h0
    cases b1
    · obtain rfl : R = 14 := by rw [← HR2.out]; rfl
      clear HR2
      go_wp2_with (first
        | (refine wpList_load_row rfl 26 _ rfl N rfl 26 _ _ _ hL.l.bN Try.underlying26 rfl (by kernel_rfl) ?_)
        | (go_at_call 20; refine (hr _ hL.l.img).mono ?_; rintro e w3 ⟨rfl, hb3⟩; replace hL := hL.below hb3; have r0 := hL.bR.cell 0; have r1 := hL.bR.cell 1; have r2 := hL.bR.cell 2; have r3 := hL.bR.cell 3; have n0 := hL.l.bN.cell 0; have n1 := hL.l.bN.cell 1)
        | (go_at_call 93; (with_reducible refine (hi1 _).mono ?_); rintro e w4 ⟨rfl, rfl⟩))
      go_ret
      exact ⟨rfl, hL.hB⟩
    · cases b2
      · obtain rfl : R = 14 := by rw [← HR2.out]; rfl
        clear HR2
        go_wp2_with (first
          | (refine wpList_load_row rfl 26 _ rfl N rfl 26 _ _ _ hL.l.bN Try.underlying26 rfl (by kernel_rfl) ?_)
          | (go_at_call 20; refine (hr _ hL.l.img).mono ?_; rintro e w3 ⟨rfl, hb3⟩; replace hL := hL.below hb3; have r0 := hL.bR.cell 0; have r1 := hL.bR.cell 1; have r2 := hL.bR.cell 2; have r3 := hL.bR.cell 3; have n0 := hL.l.bN.cell 0; have n1 := hL.l.bN.cell 1)
          | (go_at_call 93; (with_reducible refine (hi1 _).mono ?_); rintro e w4 ⟨rfl, rfl⟩)
          | (go_at_call 93; (with_reducible refine (hi2 _).mono ?_); rintro e w4 ⟨rfl, rfl⟩))
        go_ret
        exact ⟨rfl, hL.hB⟩
      · obtain rfl : R = 0 := by rw [← HR2.out]; rfl
        clear HR2
        go_wp2_with (first
          | (refine wpList_load_row rfl 26 _ rfl N rfl 26 _ _ _ hL.l.bN Try.underlying26 rfl (by kernel_rfl) ?_)
          | (go_at_call 20; refine (hr _ hL.l.img).mono ?_; rintro e w3 ⟨rfl, hb3⟩; replace hL := hL.below hb3; have r0 := hL.bR.cell 0; have r1 := hL.bR.cell 1; have r2 := hL.bR.cell 2; have r3 := hL.bR.cell 3; have n0 := hL.l.bN.cell 0; have n1 := hL.l.bN.cell 1)
          | (go_at_call 93; (with_reducible refine (hi1 _).mono ?_); rintro e w4 ⟨rfl, rfl⟩)
          | (go_at_call 93; (with_reducible refine (hi2 _).mono ?_); rintro e w4 ⟨rfl, rfl⟩))
        go_ret
        exact ⟨rfl, hL.hB⟩
  · have hR : imgE x = R := by rw [← HR.out]; exact (if_neg h0).symm
    rw [hR] at hr h0
    have t0 : (R != 0) = true := by simpa using h0
    clear HR HRI hR
    go_wp2_with (first
      | (refine wpList_load_row rfl 26 _ rfl N rfl 26 _ _ _ hL.l.bN Try.underlying26 rfl (by kernel_rfl) ?_)
      | (go_at_call 20; refine (hr _ hL.l.img).mono ?_; rintro e w3 ⟨rfl, hb3⟩; replace hL := hL.below hb3))
    go_ret
    exact ⟨rfl, hL.hB⟩
theorem ref_within19 (x : ImgArg) (hf : FewOk x) (X Y W H : Int) (w : World) (h : IsImg w x.val x) :
    Calls Try.prog 36 #[x.val, .agg #[.int .i64 X, .int .i64 Y, .int .i64 W, .int .i64 H]] w fun r w' => r = .returned (.int .i64 (wiE x X Y W H)) ∧ Below w.heap.size w w' := by
  obtain ⟨R, hR⟩ : ∃ R, wiE x X Y W H = R := ⟨_, rfl⟩
  rw [hR]
  have HR := Lib.hid hR
  have hL := LR.begin h X Y W H 68
  obtain ⟨N, hN⟩ : ∃ N, N = w.heap.size := ⟨_, rfl⟩
  rw [← hN] at hL
  have HN := Lib.hid hN
  have hr := fun W h => ref_right11 x hf W h
  have HRI := Lib.hid (fun h => RightI.nums (@right_of_imgE x h))
  unfold ImgArg.val at *
  clear hN h hR
  go_enter Try.func36, Try.ntmps36
  go_upto_region 1 with fail
  refine wp_world (LR N x X Y W H 68 w) hL ?_
  rw [← HN.out]
  clear hL
  intro V hL
  by_cases h0 : imgE x = 0
  · have hnum := HRI.out h0
    obtain ⟨⟨hw1, hw2⟩, ⟨hh1, hh2⟩, -⟩ := hnum
    rw [h0] at hr
    go_upto_region 4 with (first
      | (refine wpList_load_row rfl 26 _ rfl N rfl 26 _ _ _ hL.l.bN Try.underlying26 rfl (by kernel_rfl) ?_)
      | (go_at_call 22; refine (hr _ hL.l.img).mono ?_; rintro e w3 ⟨rfl, hb3⟩; replace hL := hL.below hb3))
    have r0 := hL.bR.cell 0; have r1 := hL.bR.cell 1; have r2 := hL.bR.cell 2; have r3 := hL.bR.cell 3; have n0 := hL.l.bN.cell 0; have n1 := hL.l.bN.cell 1
    clear hr HRI hb3
    by_cases h1 : X < 0
    · have t1 : decide (X < 0) = true := decide_eq_true h1
      obtain rfl : R = 14 := by rw [← HR.out]; unfold wiE; rw [if_pos h0]; rw [if_neg (by unfold insideB; simp; omega)]
      clear HR
      go_wp2
      go_ret
      exact ⟨rfl, hL.hB⟩
    · have t1 : decide (X < 0) = false := decide_eq_false h1
      by_cases h2 : Y < 0
      · have t2 : decide (Y < 0) = true := decide_eq_true h2
        obtain rfl : R = 14 := by rw [← HR.out]; unfold wiE; rw [if_pos h0]; rw [if_neg (by unfold insideB; simp; omega)]
        clear HR
        go_wp2
        go_ret
        exact ⟨rfl, hL.hB⟩
      · have t2 : decide (Y < 0) = false := decide_eq_false h2
        by_cases h3 : W < 1
        · have t3 : decide (W < 1) = true := decide_eq_true h3
          obtain rfl : R = 14 := by rw [← HR.out]; unfold wiE; rw [if_pos h0]; rw [if_neg (by unfold insideB; simp; omega)]
          clear HR
          go_wp2
          go_ret
          exact ⟨rfl, hL.hB⟩
        · have t3 : decide (W < 1) = false := decide_eq_false h3
          by_cases h4 : H < 1
          · have t4 : decide (H < 1) = true := decide_eq_true h4
            obtain rfl : R = 14 := by rw [← HR.out]; unfold wiE; rw [if_pos h0]; rw [if_neg (by unfold insideB; simp; omega)]
            clear HR
            go_wp2
            go_ret
            exact ⟨rfl, hL.hB⟩
          · have t4 : decide (H < 1) = false := decide_eq_false h4
            by_cases h5 : X > x.w
            · have t5 : decide (X > x.w) = true := decide_eq_true h5
              obtain rfl : R = 14 := by rw [← HR.out]; unfold wiE; rw [if_pos h0]; rw [if_neg (by unfold insideB; simp; omega)]
              clear HR
              go_wp2
              go_ret
              exact ⟨rfl, hL.hB⟩
            · have t5 : decide (X > x.w) = false := decide_eq_false h5
              by_cases h6 : Y > x.h
              · have t6 : decide (Y > x.h) = true := decide_eq_true h6
                obtain rfl : R = 14 := by rw [← HR.out]; unfold wiE; rw [if_pos h0]; rw [if_neg (by unfold insideB; simp; omega)]
                clear HR
                go_wp2
                go_ret
                exact ⟨rfl, hL.hB⟩
              · have t6 : decide (Y > x.h) = false := decide_eq_false h6
                by_cases h7 : W > x.w - X
                · have t7 : decide (W > x.w - X) = true := decide_eq_true h7
                  obtain rfl : R = 14 := by rw [← HR.out]; unfold wiE; rw [if_pos h0]; rw [if_neg (by unfold insideB; simp; omega)]
                  clear HR
                  go_wp2
                  go_ret
                  exact ⟨rfl, hL.hB⟩
                · have t7 : decide (W > x.w - X) = false := decide_eq_false h7
                  by_cases h8 : H > x.h - Y
                  · have t8 : decide (H > x.h - Y) = true := decide_eq_true h8
                    obtain rfl : R = 14 := by rw [← HR.out]; unfold wiE; rw [if_pos h0]; rw [if_neg (by unfold insideB; simp; omega)]
                    clear HR
                    go_wp2
                    go_ret
                    exact ⟨rfl, hL.hB⟩
                  · have t8 : decide (H > x.h - Y) = false := decide_eq_false h8
                    obtain rfl : R = 0 := by rw [← HR.out]; unfold wiE; rw [if_pos h0]; rw [if_pos (by unfold insideB; simp; omega)]
                    clear HR
                    go_wp2
                    go_ret
                    exact ⟨rfl, hL.hB⟩
  · have hR : imgE x = R := by rw [← HR.out]; exact (if_neg h0).symm
    rw [hR] at hr h0
    have t0 : (R != 0) = true := by simpa using h0
    clear HR HRI hR
    go_wp2_with (first
      | (refine wpList_load_row rfl 26 _ rfl N rfl 26 _ _ _ hL.l.bN Try.underlying26 rfl (by kernel_rfl) ?_)
      | (go_at_call 22; refine (hr _ hL.l.img).mono ?_; rintro e w3 ⟨rfl, hb3⟩; replace hL := hL.below hb3))
    go_ret
    exact ⟨rfl, hL.hB⟩
end Go.Proofs.Ytgmhhocpdfdplaa
