/- aquatintlaw10.PlaneWindows, walked. -/
import Derived.Test.YtpjocfcemjdneaaWin2
import Derived.Test.YtpjocfcemjdneaaMonoL
import Derived.Test.YtpjocfcemjdneaaOpenPl
import Derived.Test.YtpjocfcemjdneaaRows
namespace Go.Proofs.Ytpjocfcemjdneaa
open Go.RowKit Go.ChangeShapes
set_option maxRecDepth 100000
def fWin (d h : Int) (n : Nat) (xs : List Value) (v : Value) : Fact := fun lo _ w => ∃ u, v = .tuple #[.agg #[.int .i64 d, .int .i64 h, u], .int .i64 0] ∧ Row w lo 34 64 u n xs
theorem fWin_mono (d h : Int) (n : Nat) (xs : List Value) (v : Value) : (fWin d h n xs v).Mono := by
  rintro lo hi w w' ⟨u, e, hR⟩ _ hb
  exact ⟨u, e, hR.grow hb⟩
def shWin (d h : Int) (n : Nat) (v : Value) : Prop := ∃ b cap, v = .tuple #[.agg #[.int .i64 d, .int .i64 h, .slice b n cap], .int .i64 0]
namespace Pl
theorem werr_zero {c r : Int} {n : Nat} {a b h d : Int} (hz : werr c r n a b h d = 0) : right c r n = true ∧ ¬ out c r a b h d := by
  unfold werr at hz
  by_cases hr : right c r n = true
  · rw [if_pos hr] at hz
    by_cases ho : out c r a b h d
    · rw [if_pos ho] at hz; cases hz
    · exact ⟨hr, ho⟩
  · rw [if_neg hr] at hz; cases hz
theorem werr_right {c r : Int} {n : Nat} {a b h d : Int} (hr : right c r n = true) (hz : ¬ werr c r n a b h d = 0) : werr c r n a b h d = 14 := by
  unfold werr at hz ⊢
  rw [if_pos hr] at hz ⊢
  by_cases ho : out c r a b h d
  · rw [if_pos ho]
  · rw [if_neg ho] at hz; exact absurd rfl hz
end Pl
theorem Row.setRow {w : World} {lo : Nat} {e : TypeId} {size : Nat} {v : Value} {n : Nat} {xs : List Value} {g : Nat} {cs : Array Value} {t : TypeId} (h : Row w lo e size v n xs) (hb : Blk w g cs t) (ht : t ≠ e) (ds : Array Value) : Row (w.setRow g ds) lo e size v n xs :=
  h.same fun k hk => setRow_other _ _ _ _ (h.typed hb ht k hk)
namespace planeWin
structure Wb (N : Nat) (x : PlaneArg) (r s : RectArg) (w W : World) : Prop where
  bP : Blk W N #[.int .i64 x.c, .int .i64 x.r, x.u] 24
  bR : Blk W (N + 1) #[.int .i64 r.a, .int .i64 r.b, .int .i64 r.h, .int .i64 r.d] 36
  bS : Blk W (N + 1 + 1) #[.int .i64 s.a, .int .i64 s.b, .int .i64 s.h, .int .i64 s.d] 36
  hB : Below N w W
theorem Wb.hN {N : Nat} {x : PlaneArg} {r s : RectArg} {w W : World} (h : Wb N x r s w W) : N ≤ W.heap.size := Nat.le_of_lt h.bP.lt
theorem Wb.below {N : Nat} {x : PlaneArg} {r s : RectArg} {w W W' : World} (h : Wb N x r s w W) (hb : Below W.heap.size W W') : Wb N x r s w W' := ⟨h.bP.below hb h.bP.lt, h.bR.below hb h.bR.lt, h.bS.below hb h.bS.lt, h.hB.trans (hb.mono h.hN)⟩
/-- Behind the first window: its plane, too. -/
structure P2 (N : Nat) (x : PlaneArg) (r s : RectArg) (w : World) (g : Nat) (L : List (List Int)) (v : Value) (W : World) : Prop where
  box : Wb N x r s w W
  bG : Blk W g #[.int .i64 r.d, .int .i64 r.h, v] 24
  row : Row W N 34 64 v L.length (bcells L)
theorem P2.below {N : Nat} {x : PlaneArg} {r s : RectArg} {w : World} {g : Nat} {L : List (List Int)} {v : Value} {W W' : World} (h : P2 N x r s w g L v W) (hb : Below W.heap.size W W') : P2 N x r s w g L v W' := ⟨h.box.below hb, h.bG.below hb h.bG.lt, h.row.grow hb⟩
/-- Behind the second one. -/
structure P3 (N : Nat) (x : PlaneArg) (r s : RectArg) (w : World) (g : Nat) (L : List (List Int)) (v : Value) (k : Nat) (L2 : List (List Int)) (v2 : Value) (W : World) : Prop where
  p2 : P2 N x r s w g L v W
  bK : Blk W k #[.int .i64 s.d, .int .i64 s.h, v2] 24
  row2 : Row W N 34 64 v2 L2.length (bcells L2)
theorem P3.below {N : Nat} {x : PlaneArg} {r s : RectArg} {w : World} {g : Nat} {L : List (List Int)} {v : Value} {k : Nat} {L2 : List (List Int)} {v2 : Value} {W W' : World} (h : P3 N x r s w g L v k L2 v2 W) (hb : Below W.heap.size W W') : P3 N x r s w g L v k L2 v2 W' := ⟨h.p2.below hb, h.bK.below hb h.bK.lt, h.row2.grow hb⟩
theorem blk_ne {W : World} {g k : Nat} {cs ds : Array Value} {t t' : TypeId} (h : Blk W g cs t) (h' : Blk W k ds t') (ht : t ≠ t') : g ≠ k := by
  rintro rfl
  have := h.symm.trans h'
  simp at this
  exact ht this.2
set_option maxHeartbeats 4000000 in
theorem walk (x : PlaneArg) (r s : RectArg) (v0 v1 v2 : Value) (w : World) (h : IsPlane w v0 x) (hr : IsRect w v1 r) (hs : IsRect w v2 s) :
    Calls Try.prog 4 #[v0, v1, v2] w fun e w' => e = .returned (.bool true) ∧ Below w.heap.size w w' := by
  obtain ⟨rfl, hA, h64, _, _, _⟩ := h
  obtain ⟨rfl, _⟩ := hr
  obtain ⟨rfl, _⟩ := hs
  obtain ⟨c, r0, u, bs⟩ := x
  obtain ⟨a1, b1, h1, d1⟩ := r
  obtain ⟨a2, b2, h2, d2⟩ := s
  simp only at hA h64 ⊢
  obtain ⟨bu, cap, rfl, hcap, hcm⟩ := hA.len
  have hbl : bs.length ≤ 9223372036854775807 := Nat.le_trans hcap (Nat.le_trans hcm (by unfold maxLen; decide))
  obtain ⟨N, hN⟩ : ∃ N, N = w.heap.size := ⟨_, rfl⟩
  have HN := Lib.hid hN
  rw [← hN]
  clear hN
  go_enter Try.func4, Try.ntmps4
  go_upto_region 1 with fail
  refine wp_world (fun W => Wb N ⟨c, r0, .slice bu bs.length cap, bs⟩ ⟨a1, b1, h1, d1⟩ ⟨a2, b2, h2, d2⟩ w W) ?_ ?_
  · rw [HN.out]
    exact ⟨((Blk.new _ _ _).alloc _).alloc _, by simpa using (Blk.new' (w.alloc _) _ _ (by simp)).alloc _, Blk.new' _ _ _ (by simp), (((Below.refl _ _).alloc (Nat.le_refl _) _).alloc (by simp) _).alloc (by simp; omega) _⟩
  have hhN := HN.out
  rw [← hhN]
  clear hhN
  rintro W0 hI
  have p0 := hI.bP.cell 0
  have p1 := hI.bP.cell 1
  have p2 := hI.bP.cell 2
  by_cases hf : bs.length ≤ 400
  · have tf : decide (bs.length ≤ 400) = true := by simpa using hf
    clear p0 p1 p2
    go_upto_region 3 with (first
      | (go_at_call 10; refine (law_few _ _ _ _ _ hbl _).mono ?_; rintro e w2 ⟨rfl, hb2⟩)
      | (go_at_call 9; refine (awake10 _).mono ?_; rintro e w1 ⟨rfl, hb1⟩; have hI1 := hI.below hb1; have p0 := hI1.bP.cell 0; have p1 := hI1.bP.cell 1; have p2 := hI1.bP.cell 2))
    have hI2 := hI1.below hb2
    clear hb1 hb2 hI hI1 p0 p1 p2
    have hGm : ∀ W W', Wb N ⟨c, r0, .slice bu bs.length cap, bs⟩ ⟨a1, b1, h1, d1⟩ ⟨a2, b2, h2, d2⟩ w W → Below W.heap.size W W' → Wb N ⟨c, r0, .slice bu bs.length cap, bs⟩ ⟨a1, b1, h1, d1⟩ ⟨a2, b2, h2, d2⟩ w W' := fun W W' h hb => h.below hb
    obtain ⟨e1, he1⟩ : ∃ e, Pl.werr c r0 bs.length a1 b1 h1 d1 = e := ⟨_, rfl⟩
    have hwin := fun W hA => plane_window_any c r0 (.slice bu bs.length cap) bs h64 a1 b1 h1 d1 W hA
    rw [he1] at hwin
    by_cases hz : e1 = 0
    · subst hz
      obtain ⟨hri, hou⟩ := Pl.werr_zero he1
      obtain ⟨k1, k2, k3, k4, k5, k6⟩ := Pl.right_nat hri
      obtain ⟨o1, o2, o3, o4, o5, o6⟩ := Pl.not_out hou
      obtain ⟨c, rfl⟩ : ∃ k : Nat, c = k := ⟨c.toNat, by omega⟩
      obtain ⟨r0, rfl⟩ : ∃ k : Nat, r0 = k := ⟨r0.toNat, by omega⟩
      obtain ⟨a1, rfl⟩ : ∃ k : Nat, a1 = k := ⟨a1.toNat, by omega⟩
      obtain ⟨b1, rfl⟩ : ∃ k : Nat, b1 = k := ⟨b1.toNat, by omega⟩
      obtain ⟨h1, rfl⟩ : ∃ k : Nat, h1 = k := ⟨h1.toNat, by omega⟩
      obtain ⟨d1, rfl⟩ : ∃ k : Nat, d1 = k := ⟨d1.toNat, by omega⟩
      have hn : bs.length = c * r0 := by exact_mod_cast k5
      have HNN := Lib.hid hn
      have HRI := Lib.hid hri
      clear hn k5 he1 hou hwin hri
      have o5' : a1 + h1 ≤ r0 := by omega
      have o6' : b1 + d1 ≤ c := by omega
      have hwin := fun W hA => plane_window c r0 a1 b1 h1 d1 (.slice bu bs.length cap) bs h64 HNN.out HRI.out o5' o6' (by omega) (by omega) W hA
      have hL1 := Pl.win_len HNN.out o5' o6' h1 (Nat.le_refl _)
      have hR1 := Pl.win_right h64 c a1 b1 d1 h1
      obtain ⟨L1, hLL⟩ : ∃ L, Pl.win bs c a1 b1 d1 h1 = L := ⟨_, rfl⟩
      rw [hLL] at hL1 hR1 hwin
      have HLL := Lib.hid hLL
      clear hLL
      rw [← hL1] at hwin
      have HL1 := Lib.hid hL1
      clear hL1
      refine wp_region_late [6] [0, 1, 2, 3, 4, 5, 6, 7] [8, 9] (fun W => Wb N ⟨c, r0, .slice bu bs.length cap, bs⟩ ⟨a1, b1, h1, d1⟩ ⟨a2, b2, h2, d2⟩ w W)
        (fun | 2 => some (sFix (.agg #[.int .i64 a1, .int .i64 b1, .int .i64 h1, .int .i64 d1])) | 3 => some (sRel (shWin d1 h1 L1.length) (fWin d1 h1 L1.length (bcells L1))) | 7 => some (sNew #[.int .i64 0, .int .i64 0, .slice none 0 0] 24) | _ => none)
        (fun _ => []) (by kernel_rfl) (by kernel_rfl) (by intro j hj; simp at hj; subst hj; rfl) (hI2.below (Below.refl _ _).drew) ?_ ?_
      · intro i s hs
        match i with
        | 2 => cases hs; exact fun _ _ => sFix_mono _ _ _
        | 3 => cases hs; exact fun _ _ => fWin_mono _ _ _ _ _
        | 7 => cases hs; exact fun _ _ => sNew_mono _ _ _ _
      simp only [pick, List.getD_cons_succ, List.getD_cons_zero, List.zip_cons_cons, List.zip_nil_right]
      refine mono_pure (by rfl) rfl (fun w1 hG => run_exec_load_row 24 _ rfl N rfl 24 _ _ hG.bP Try.underlying24 rfl (by kernel_rfl)) ?_
      simp only [Act.put, List.setIfInBounds_toArray, List.set_cons_zero, List.set_cons_succ]
      refine mono_pure (by rfl) rfl (fun w1 hG => run_exec_load_row 36 _ rfl (N + 1) rfl 36 _ _ hG.bR Try.underlying36 rfl (by kernel_rfl)) ?_
      simp only [Act.put, List.setIfInBounds_toArray, List.set_cons_zero, List.set_cons_succ]
      refine mono_fix (.agg #[.int .i64 a1, .int .i64 b1, .int .i64 h1, .int .i64 d1]) (by rfl) rfl hGm (by intro w hG; go_simp; first | done | exact ⟨rfl, rfl⟩) (fun w1 hG hH => law_of10 a1 b1 h1 d1 w1) ?_
      simp only [Act.put, List.setIfInBounds_toArray, List.set_cons_zero, List.set_cons_succ]
      refine mono_rel (shWin d1 h1 L1.length) (fWin d1 h1 L1.length (bcells L1)) (by rfl) rfl hGm (by intro w hG; go_simp; first | done | exact ⟨rfl, rfl⟩) ⟨_, none, 0, rfl⟩ (fun w1 hG hH => ?_) (fun v3 hv3 => ?_)
      · refine (hwin w1 (hA.below (by rw [← HN.out]; exact hG.hB))).mono ?_
        rintro e w2 ⟨v, rfl, hR, hb⟩
        obtain ⟨bv, cv, rfl⟩ := hR.len
        exact ⟨_, rfl, ⟨bv, cv, rfl⟩, hb, _, rfl, hR⟩
      obtain ⟨bv, cv, rfl⟩ := hv3
      simp only [Act.put, List.setIfInBounds_toArray, List.set_cons_zero, List.set_cons_succ]
      (repeat (first | (refine mono_skip (by rfl) ?_; simp only [Act.put, List.setIfInBounds_toArray, List.set_cons_zero, List.set_cons_succ]) | (refine mono_pure (v := ?_) (by rfl) rfl ?_ ?_; rotate_left; (intro wS hS; go_simp; try with_reducible rfl); simp only [Act.put, List.setIfInBounds_toArray, List.set_cons_zero, List.set_cons_succ])))
      refine mono_alloc #[.int .i64 0, .int .i64 0, .slice none 0 0] 24 (by rfl) rfl hGm (by intro w; go_simp; try with_reducible rfl) ?_
      intro g
      simp only [Act.put, List.setIfInBounds_toArray, List.set_cons_zero, List.set_cons_succ]
      refine mono_nil ?_
      rintro w3 hG ⟨_, I, hI1, _⟩
      obtain ⟨hg0, hg1, hg2, g', hge, hg3, _, hgb⟩ := hI1 7 _ (upd_self _ _ _)
      obtain rfl : g = g' := by simpa using hge
      obtain ⟨hq0, hq1, hq2, uu, hue, hRr⟩ := hI1 3 _ rfl
      obtain rfl : uu = .slice bv L1.length cv := by simpa using hue.symm
      have hgN : N ≤ g := Nat.le_trans hI2.hN (Nat.le_trans hg0 hg3)
      have hRN := hRr.down (lo' := N) (Nat.le_trans hI2.hN hq0)
      go_wp2_with (refine wpList_store_row rfl 24 _ _ rfl g _ rfl rfl 24 _ hgb (by kernel_rfl) rfl (by simp [Value.oneCell']) ?_)
      refine onlyN_intro ?_
      go_upto_region 4 with fail
      refine wp_world (fun W => P2 N ⟨c, r0, .slice bu bs.length cap, bs⟩ ⟨a1, b1, h1, d1⟩ ⟨a2, b2, h2, d2⟩ w g L1 (.slice bv L1.length cv) W) ⟨⟨hG.bP.rowOther _ _ (Nat.ne_of_lt (Nat.lt_of_lt_of_le hI2.bP.lt (Nat.le_trans hg0 hg3))), hG.bR.rowOther _ _ (blk_ne hG.bR hgb (by decide)), hG.bS.rowOther _ _ (blk_ne hG.bS hgb (by decide)), Below.setRow hG.hB hgN _⟩, hgb.row _, hRN.setRow hgb (by decide) _⟩ ?_
      clear hG hgb hRr hRN hI1 hwin hGm hI2 hq0 hq1 hq2 hg0 hg1 hg2 hg3
      rintro W5 hP
      go_upto_region 6 with fail
      have hGm : ∀ W W', P2 N ⟨c, r0, .slice bu bs.length cap, bs⟩ ⟨a1, b1, h1, d1⟩ ⟨a2, b2, h2, d2⟩ w g L1 (.slice bv L1.length cv) W → Below W.heap.size W W' → P2 N ⟨c, r0, .slice bu bs.length cap, bs⟩ ⟨a1, b1, h1, d1⟩ ⟨a2, b2, h2, d2⟩ w g L1 (.slice bv L1.length cv) W' := fun W W' h hb => h.below hb
      obtain ⟨e2, he2⟩ : ∃ e, Pl.werr d1 h1 L1.length a2 b2 h2 d2 = e := ⟨_, rfl⟩
      have hwin := fun W hA => plane_window_any d1 h1 (.slice bv L1.length cv) L1 hR1 a2 b2 h2 d2 W hA
      rw [he2] at hwin
      by_cases hz : e2 = 0
      · subst hz
        obtain ⟨hri2, hou2⟩ := Pl.werr_zero he2
        obtain ⟨q1, q2, q3, q4, q5, q6⟩ := Pl.not_out hou2
        obtain ⟨a2, rfl⟩ : ∃ k : Nat, a2 = k := ⟨a2.toNat, by omega⟩
        obtain ⟨b2, rfl⟩ : ∃ k : Nat, b2 = k := ⟨b2.toNat, by omega⟩
        obtain ⟨h2, rfl⟩ : ∃ k : Nat, h2 = k := ⟨h2.toNat, by omega⟩
        obtain ⟨d2, rfl⟩ : ∃ k : Nat, d2 = k := ⟨d2.toNat, by omega⟩
        have HRI2 := Lib.hid hri2
        clear hri2 hou2 he2 hwin
        have q5' : a2 + h2 ≤ h1 := by omega
        have q6' : b2 + d2 ≤ d1 := by omega
        have hL1' : L1.length = d1 * h1 := by rw [HL1.out, Nat.mul_comm]
        have hwin := fun W hA => plane_window d1 h1 a2 b2 h2 d2 (.slice bv L1.length cv) L1 hR1 hL1' HRI2.out q5' q6' (by omega) (by omega) W hA
        have hL2 := Pl.win_len hL1' q5' q6' h2 (Nat.le_refl _)
        have hR2 := Pl.win_right hR1 d1 a2 b2 d2 h2
        have hww : Pl.win L1 d1 a2 b2 d2 h2 = Pl.win bs c (a1 + a2) (b1 + b2) d2 h2 := by
          rw [← HLL.out]
          exact Pl.win_win bs c a1 b1 d1 h1 a2 b2 d2 h2 (fun j hj => Pl.row_fits HNN.out o5' o6' hj) q5' q6'
        have hwin3 := fun W hA => plane_window c r0 (a1 + a2) (b1 + b2) h2 d2 (.slice bu bs.length cap) bs h64 HNN.out HRI.out (by omega) (by omega) (by omega) (by omega) W hA
        rw [← hww] at hwin3
        clear hww hL1'
        obtain ⟨L2, hLL2⟩ : ∃ L, Pl.win L1 d1 a2 b2 d2 h2 = L := ⟨_, rfl⟩
        rw [hLL2] at hL2 hR2 hwin hwin3
        rw [← hL2] at hwin hwin3
        have HL2 := Lib.hid hL2
        clear hL2 hLL2
        refine wp_region_late [6] [0, 1, 2, 3, 4, 5, 6, 7] [8, 9] (fun W => P2 N ⟨c, r0, .slice bu bs.length cap, bs⟩ ⟨a1, b1, h1, d1⟩ ⟨a2, b2, h2, d2⟩ w g L1 (.slice bv L1.length cv) W)
          (fun | 2 => some (sFix (.agg #[.int .i64 a2, .int .i64 b2, .int .i64 h2, .int .i64 d2])) | 3 => some (sRel (shWin d2 h2 L2.length) (fWin d2 h2 L2.length (bcells L2))) | 7 => some (sNew #[.int .i64 0, .int .i64 0, .slice none 0 0] 24) | _ => none)
          (fun _ => []) (by kernel_rfl) (by kernel_rfl) (by intro j hj; simp at hj; subst hj; rfl) (hP.below (Below.refl _ _).drew) ?_ ?_
        · intro i s hs
          match i with
          | 2 => cases hs; exact fun _ _ => sFix_mono _ _ _
          | 3 => cases hs; exact fun _ _ => fWin_mono _ _ _ _ _
          | 7 => cases hs; exact fun _ _ => sNew_mono _ _ _ _
        simp only [pick, List.getD_cons_succ, List.getD_cons_zero, List.zip_cons_cons, List.zip_nil_right]
        refine mono_pure (by rfl) rfl (fun w1 hG => run_exec_load_row 24 _ rfl g rfl 24 _ _ hG.bG Try.underlying24 rfl (by kernel_rfl)) ?_
        simp only [Act.put, List.setIfInBounds_toArray, List.set_cons_zero, List.set_cons_succ]
        refine mono_pure (by rfl) rfl (fun w1 hG => run_exec_load_row 36 _ rfl (N + 1 + 1) rfl 36 _ _ hG.box.bS Try.underlying36 rfl (by kernel_rfl)) ?_
        simp only [Act.put, List.setIfInBounds_toArray, List.set_cons_zero, List.set_cons_succ]
        refine mono_fix (.agg #[.int .i64 a2, .int .i64 b2, .int .i64 h2, .int .i64 d2]) (by rfl) rfl hGm (by intro w hG; go_simp; first | done | exact ⟨rfl, rfl⟩) (fun w1 hG hH => law_of10 a2 b2 h2 d2 w1) ?_
        simp only [Act.put, List.setIfInBounds_toArray, List.set_cons_zero, List.set_cons_succ]
        refine mono_rel (shWin d2 h2 L2.length) (fWin d2 h2 L2.length (bcells L2)) (by rfl) rfl hGm (by intro w hG; go_simp; first | done | exact ⟨rfl, rfl⟩) ⟨_, none, 0, rfl⟩ (fun w1 hG hH => ?_) (fun v3 hv3 => ?_)
        · refine (hwin w1 hG.row.ar).mono ?_
          rintro e w2 ⟨v, rfl, hR, hb⟩
          obtain ⟨bv, cv, rfl⟩ := hR.len
          exact ⟨_, rfl, ⟨bv, cv, rfl⟩, hb, _, rfl, hR⟩
        obtain ⟨bv2, cv2, rfl⟩ := hv3
        simp only [Act.put, List.setIfInBounds_toArray, List.set_cons_zero, List.set_cons_succ]
        (repeat (first | (refine mono_skip (by rfl) ?_; simp only [Act.put, List.setIfInBounds_toArray, List.set_cons_zero, List.set_cons_succ]) | (refine mono_pure (v := ?_) (by rfl) rfl ?_ ?_; rotate_left; (intro wS hS; go_simp; try with_reducible rfl); simp only [Act.put, List.setIfInBounds_toArray, List.set_cons_zero, List.set_cons_succ])))
        refine mono_alloc #[.int .i64 0, .int .i64 0, .slice none 0 0] 24 (by rfl) rfl hGm (by intro w; go_simp; try with_reducible rfl) ?_
        intro k
        simp only [Act.put, List.setIfInBounds_toArray, List.set_cons_zero, List.set_cons_succ]
        refine mono_nil ?_
        rintro w6 hG ⟨_, I, hI1, _⟩
        obtain ⟨hg0, hg1, hg2, g', hge, hg3, _, hgb⟩ := hI1 7 _ (upd_self _ _ _)
        obtain rfl : k = g' := by simpa using hge
        obtain ⟨hq0, hq1, hq2, uu, hue, hRr⟩ := hI1 3 _ rfl
        obtain rfl : uu = .slice bv2 L2.length cv2 := by simpa using hue.symm
        have hlo := Nat.le_trans hg0 hg3
        have hkN : N ≤ k := Nat.le_trans hP.box.hN hlo
        have hRN := hRr.down (lo' := N) (Nat.le_trans hP.box.hN hq0)
        go_wp2_with (refine wpList_store_row rfl 24 _ _ rfl k _ rfl rfl 24 _ hgb (by kernel_rfl) rfl (by simp [Value.oneCell']) ?_)
        refine onlyN_intro ?_
        go_upto_region 7 with fail
        refine wp_world (fun W => P3 N ⟨c, r0, .slice bu bs.length cap, bs⟩ ⟨a1, b1, h1, d1⟩ ⟨a2, b2, h2, d2⟩ w g L1 (.slice bv L1.length cv) k L2 (.slice bv2 L2.length cv2) W) ⟨⟨⟨hG.box.bP.rowOther _ _ (Nat.ne_of_lt (Nat.lt_of_lt_of_le hP.box.bP.lt hlo)), hG.box.bR.rowOther _ _ (blk_ne hG.box.bR hgb (by decide)), hG.box.bS.rowOther _ _ (blk_ne hG.box.bS hgb (by decide)), Below.setRow hG.box.hB hkN _⟩, hG.bG.rowOther _ _ (Nat.ne_of_lt (Nat.lt_of_lt_of_le hP.bG.lt hlo)), hG.row.setRow hgb (by decide) _⟩, hgb.row _, hRN.setRow hgb (by decide) _⟩ ?_
        clear hG hgb hRr hRN hI1 hwin hGm hP hq0 hq1 hq2 hg0 hg1 hg2 hg3 hlo
        rintro W7 hT
        have x0 := hT.p2.box.bP.cell 0
        have x1 := hT.p2.box.bP.cell 1
        have x2 := hT.p2.box.bP.cell 2
        have y0 := hT.p2.box.bR.cell 0
        have y1 := hT.p2.box.bR.cell 1
        have z0 := hT.p2.box.bS.cell 0
        have z1 := hT.p2.box.bS.cell 1
        have z2 := hT.p2.box.bS.cell 2
        have z3 := hT.p2.box.bS.cell 3
        simp only at x0 x1 x2 y0 y1 z0 z1 z2 z3
        have hw3 := hwin3 W7 (hA.below (by rw [← HN.out]; exact hT.p2.box.hB))
        clear hwin3
        push_cast at hw3
        go_upto_region 10 with (go_at_call 13; refine hw3.mono ?_; rintro e w8 ⟨v8, rfl, hR8, hb8⟩; obtain ⟨bv3, cv3, rfl⟩ := hR8.len)
        have hb9 : Below w8.heap.size w8 (w8.alloc (.cells #[.int .i64 d2, .int .i64 h2, .slice bv3 L2.length cv3] 24)) := (Below.refl _ _).alloc (Nat.le_refl _) _
        obtain ⟨M, hM⟩ : ∃ M, M = w8.heap.size := ⟨_, rfl⟩
        refine wp_world (fun W => P3 N ⟨c, r0, .slice bu bs.length cap, bs⟩ ⟨a1, b1, h1, d1⟩ ⟨a2, b2, h2, d2⟩ w g L1 (.slice bv L1.length cv) k L2 (.slice bv2 L2.length cv2) W ∧ Row W 0 34 64 (.slice bv3 L2.length cv3) L2.length (bcells L2) ∧ Blk W M #[.int .i64 d2, .int .i64 h2, .slice bv3 L2.length cv3] 24) ⟨(hT.below hb8).below hb9, (hR8.grow hb9).down (Nat.zero_le _), Blk.new' _ _ _ hM⟩ ?_
        rw [← hM]
        clear hM hb9 hb8 hR8 hw3 hT x0 x1 x2 y0 y1 z0 z1 z2 z3
        rintro W9 ⟨hT9, hR9, b9⟩
        have x0 := hT9.bK.cell 0
        have x1 := hT9.bK.cell 1
        have x2 := hT9.bK.cell 2
        have y0 := b9.cell 0
        have y1 := b9.cell 1
        have y2 := b9.cell 2
        simp only at x0 x1 x2
        have hsm := plane_same d2 h2 d2 h2 (.slice bv2 L2.length cv2) (.slice bv3 L2.length cv3) L2 L2 hR2 hR2 W9 hT9.row2.ar hR9.ar (Nat.le_trans (Nat.le_of_eq HL2.out) (Nat.le_trans (Nat.mul_le_mul (show h2 ≤ 16384 by omega) (show d2 ≤ 16384 by omega)) (by decide)))
        rw [decide_eq_true (p := (d2 : Int) = d2 ∧ (h2 : Int) = h2 ∧ L2 = L2) ⟨rfl, rfl, rfl⟩] at hsm
        go_wp2_with (go_at_call 15; refine hsm.mono ?_; rintro e w10 ⟨rfl, hb10⟩)
        go_ret
        exact ⟨rfl, (hT9.below hb10).p2.box.hB⟩
      · have h14 : e2 = 14 := by
          rw [← he2]
          refine Pl.werr_right ?_ (by rw [he2]; exact hz)
          rw [HL1.out, Nat.mul_comm]
          exact Pl.right_of (by omega) (by omega) (Nat.le_trans (Nat.mul_le_mul (show d1 ≤ c by omega) (show h1 ≤ r0 by omega)) (by rw [← HNN.out]; exact k6))
        subst h14
        refine wp_region_late [6] [0, 1, 2, 3, 4, 5, 6, 7] [8, 9] (fun W => P2 N ⟨c, r0, .slice bu bs.length cap, bs⟩ ⟨a1, b1, h1, d1⟩ ⟨a2, b2, h2, d2⟩ w g L1 (.slice bv L1.length cv) W)
          (fun | 2 => some (sFix (.agg #[.int .i64 a2, .int .i64 b2, .int .i64 h2, .int .i64 d2])) | 3 => some (sFix (.tuple #[.agg #[.int .i64 0, .int .i64 0, .slice none 0 0], .int .i64 14])) | 7 => some (sNew #[.int .i64 0, .int .i64 0, .slice none 0 0] 24) | _ => none)
          (fun _ => []) (by kernel_rfl) (by kernel_rfl) (by intro j hj; simp at hj; subst hj; rfl) (hP.below (Below.refl _ _).drew) ?_ ?_
        · intro i s hs
          match i with
          | 2 => cases hs; exact fun _ _ => sFix_mono _ _ _
          | 3 => cases hs; exact fun _ _ => sFix_mono _ _ _
          | 7 => cases hs; exact fun _ _ => sNew_mono _ _ _ _
        simp only [pick, List.getD_cons_succ, List.getD_cons_zero, List.zip_cons_cons, List.zip_nil_right]
        refine mono_pure (by rfl) rfl (fun w1 hG => run_exec_load_row 24 _ rfl g rfl 24 _ _ hG.bG Try.underlying24 rfl (by kernel_rfl)) ?_
        simp only [Act.put, List.setIfInBounds_toArray, List.set_cons_zero, List.set_cons_succ]
        refine mono_pure (by rfl) rfl (fun w1 hG => run_exec_load_row 36 _ rfl (N + 1 + 1) rfl 36 _ _ hG.box.bS Try.underlying36 rfl (by kernel_rfl)) ?_
        simp only [Act.put, List.setIfInBounds_toArray, List.set_cons_zero, List.set_cons_succ]
        refine mono_fix (.agg #[.int .i64 a2, .int .i64 b2, .int .i64 h2, .int .i64 d2]) (by rfl) rfl hGm (by intro w hG; go_simp; first | done | exact ⟨rfl, rfl⟩) (fun w1 hG hH => law_of10 a2 b2 h2 d2 w1) ?_
        simp only [Act.put, List.setIfInBounds_toArray, List.set_cons_zero, List.set_cons_succ]
        refine mono_fix (.tuple #[.agg #[.int .i64 0, .int .i64 0, .slice none 0 0], .int .i64 14]) (by rfl) rfl hGm (by intro w hG; go_simp; first | done | exact ⟨rfl, rfl⟩) (fun w1 hG hH => ?_) ?_
        · refine (hwin w1 hG.row.ar).mono ?_
          rintro e w2 ⟨hb, h1, _⟩
          exact ⟨h1 hz, hb⟩
        simp only [Act.put, List.setIfInBounds_toArray, List.set_cons_zero, List.set_cons_succ]
        (repeat (first | (refine mono_skip (by rfl) ?_; simp only [Act.put, List.setIfInBounds_toArray, List.set_cons_zero, List.set_cons_succ]) | (refine mono_pure (v := ?_) (by rfl) rfl ?_ ?_; rotate_left; (intro wS hS; go_simp; try with_reducible rfl); simp only [Act.put, List.setIfInBounds_toArray, List.set_cons_zero, List.set_cons_succ])))
        refine mono_alloc #[.int .i64 0, .int .i64 0, .slice none 0 0] 24 (by rfl) rfl hGm (by intro w; go_simp; try with_reducible rfl) ?_
        intro k
        simp only [Act.put, List.setIfInBounds_toArray, List.set_cons_zero, List.set_cons_succ]
        refine mono_nil ?_
        rintro w6 hG ⟨_, I, hI1, _⟩
        obtain ⟨hg0, hg1, hg2, g', hge, hg3, _, hgb⟩ := hI1 7 _ (upd_self _ _ _)
        obtain rfl : k = g' := by simpa using hge
        go_wp2_with (refine wpList_store_row rfl 24 _ _ rfl k _ rfl rfl 24 _ hgb (by kernel_rfl) rfl (by simp [Value.oneCell']) ?_)
        refine onlyN_intro ?_
        go_wp2_with fail
        go_ret
        exact ⟨rfl, Below.setRow hG.box.hB (Nat.le_trans hP.box.hN (Nat.le_trans hg0 hg3)) _⟩
    · refine wp_region_late [6] [0, 1, 2, 3, 4, 5, 6, 7] [8, 9] (fun W => Wb N ⟨c, r0, .slice bu bs.length cap, bs⟩ ⟨a1, b1, h1, d1⟩ ⟨a2, b2, h2, d2⟩ w W)
        (fun | 2 => some (sFix (.agg #[.int .i64 a1, .int .i64 b1, .int .i64 h1, .int .i64 d1])) | 3 => some (sFix (.tuple #[.agg #[.int .i64 0, .int .i64 0, .slice none 0 0], .int .i64 e1])) | 7 => some (sNew #[.int .i64 0, .int .i64 0, .slice none 0 0] 24) | _ => none)
        (fun _ => []) (by kernel_rfl) (by kernel_rfl) (by intro j hj; simp at hj; subst hj; rfl) (hI2.below (Below.refl _ _).drew) ?_ ?_
      · intro i s hs
        match i with
        | 2 => cases hs; exact fun _ _ => sFix_mono _ _ _
        | 3 => cases hs; exact fun _ _ => sFix_mono _ _ _
        | 7 => cases hs; exact fun _ _ => sNew_mono _ _ _ _
      simp only [pick, List.getD_cons_succ, List.getD_cons_zero, List.zip_cons_cons, List.zip_nil_right]
      refine mono_pure (by rfl) rfl (fun w1 hG => run_exec_load_row 24 _ rfl N rfl 24 _ _ hG.bP Try.underlying24 rfl (by kernel_rfl)) ?_
      simp only [Act.put, List.setIfInBounds_toArray, List.set_cons_zero, List.set_cons_succ]
      refine mono_pure (by rfl) rfl (fun w1 hG => run_exec_load_row 36 _ rfl (N + 1) rfl 36 _ _ hG.bR Try.underlying36 rfl (by kernel_rfl)) ?_
      simp only [Act.put, List.setIfInBounds_toArray, List.set_cons_zero, List.set_cons_succ]
      refine mono_fix (.agg #[.int .i64 a1, .int .i64 b1, .int .i64 h1, .int .i64 d1]) (by rfl) rfl hGm (by intro w hG; go_simp; first | done | exact ⟨rfl, rfl⟩) (fun w1 hG hH => law_of10 a1 b1 h1 d1 w1) ?_
      simp only [Act.put, List.setIfInBounds_toArray, List.set_cons_zero, List.set_cons_succ]
      refine mono_fix (.tuple #[.agg #[.int .i64 0, .int .i64 0, .slice none 0 0], .int .i64 e1]) (by rfl) rfl hGm (by intro w hG; go_simp; first | done | exact ⟨rfl, rfl⟩) (fun w1 hG hH => ?_) ?_
      · refine (hwin w1 (hA.below (by rw [← HN.out]; exact hG.hB))).mono ?_
        rintro e w2 ⟨hb, h1, _⟩
        exact ⟨h1 hz, hb⟩
      simp only [Act.put, List.setIfInBounds_toArray, List.set_cons_zero, List.set_cons_succ]
      (repeat (first | (refine mono_skip (by rfl) ?_; simp only [Act.put, List.setIfInBounds_toArray, List.set_cons_zero, List.set_cons_succ]) | (refine mono_pure (v := ?_) (by rfl) rfl ?_ ?_; rotate_left; (intro wS hS; go_simp; try with_reducible rfl); simp only [Act.put, List.setIfInBounds_toArray, List.set_cons_zero, List.set_cons_succ])))
      refine mono_alloc #[.int .i64 0, .int .i64 0, .slice none 0 0] 24 (by rfl) rfl hGm (by intro w; go_simp; try with_reducible rfl) ?_
      intro g
      simp only [Act.put, List.setIfInBounds_toArray, List.set_cons_zero, List.set_cons_succ]
      refine mono_nil ?_
      rintro w3 hG ⟨_, I, hI1, _⟩
      obtain ⟨hg0, hg1, hg2, g', hge, hg3, _, hgb⟩ := hI1 7 _ (upd_self _ _ _)
      obtain rfl : g = g' := by simpa using hge
      have tz : decide (e1 = 0) = false := by simpa using hz
      go_wp2_with (refine wpList_store_row rfl 24 _ _ rfl g _ rfl rfl 24 _ hgb (by kernel_rfl) rfl (by simp [Value.oneCell']) ?_)
      refine onlyN_intro ?_
      have hgc := (hgb.row #[.int .i64 0, .int .i64 0, .slice none 0 0]).cell 2
      go_wp2_with fail
      go_ret
      exact ⟨rfl, Below.setRow hG.hB (Nat.le_trans hI2.hN (Nat.le_trans hg0 hg3)) _⟩
  · have tf : decide (bs.length ≤ 400) = false := by simpa using hf
    clear p0 p1 p2
    go_upto_region 2 with (first
      | (go_at_call 10; refine (law_few _ _ _ _ _ hbl _).mono ?_; rintro e w2 ⟨rfl, hb2⟩)
      | (go_at_call 9; refine (awake10 _).mono ?_; rintro e w1 ⟨rfl, hb1⟩; have hI1 := hI.below hb1; have p0 := hI1.bP.cell 0; have p1 := hI1.bP.cell 1; have p2 := hI1.bP.cell 2))
    have hI2 := hI1.below hb2
    go_wp2_with (go_at_call 9; refine (awake10 _).mono ?_; rintro e w3 ⟨rfl, hb3⟩)
    go_ret
    exact ⟨rfl, (hI2.below hb3).hB⟩
end planeWin
theorem planeWindows.core (v0 : Value) (a0 : PlaneArg) (v1 : Value) (a1 : RectArg) (v2 : Value) (a2 : RectArg) (W : World) (s0 : IsPlane W v0 a0) (s1 : IsRect W v1 a1) (s2 : IsRect W v2 a2) :
    Calls Try.prog 4 #[v0, v1, v2] W fun e w' => e = .returned (.bool true) ∧ Below W.heap.size W w' := planeWin.walk a0 a1 a2 v0 v1 v2 W s0 s1 s2
end Go.Proofs.Ytpjocfcemjdneaa
