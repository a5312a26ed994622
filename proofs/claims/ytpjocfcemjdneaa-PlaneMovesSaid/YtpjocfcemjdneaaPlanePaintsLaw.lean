/- aquatintlaw10.PlanePaints, walked. -/
import Derived.Test.YtpjocfcemjdneaaPlaneCutsLaw
import Derived.Test.YtpjocfcemjdneaaSheetAt
namespace Go.Proofs.Ytpjocfcemjdneaa
open Go.RowKit Go.ChangeShapes
set_option maxRecDepth 100000
theorem sheet_at_i (lo b c r : Nat) (u : Value) (bs : List (List Int)) (i : Nat) (hi : i < c * r) (hcr : c * r ≤ 16384) (w : World) (h : Pl.Sheet w lo b c r u bs) :
    Calls Try.prog 19 #[.pointer (some ⟨b, 0, none⟩), .int .i64 ((i : Int) / (c : Int)), .int .i64 ((i : Int) % (c : Int))] w fun e w' => e = .returned (.tuple #[.agg (ints .i16 (Pl.blk bs i)), .bool true]) ∧ Below w.heap.size w w' := by
  have hc : 0 < c := Nat.pos_of_ne_zero fun e => by rw [e, Nat.zero_mul] at hi; omega
  have h1 : i / c < r := Nat.div_lt_of_lt_mul hi
  have h2 : i % c < c := Nat.mod_lt _ hc
  have h3 : i / c * c + i % c = i := by have := Nat.div_add_mod i c; rw [Nat.mul_comm] at this; exact this
  have h4 := sheet_at lo b c r u bs (i / c) (i % c) h1 h2 hcr w h
  rw [h3, Int.natCast_ediv, Int.natCast_emod] at h4
  exact h4
theorem Sheet.setRowP {W : World} {lo b c r : Nat} {u : Value} {bs : List (List Int)} {k : Nat} {cs : Array Value} (h : Pl.Sheet W lo b c r u bs) (hk : Blk W k cs 24) (ds : Array Value) : Pl.Sheet (W.setRow k ds) lo b c r u bs :=
  ⟨h.box.rowOther _ _ (blkk_ne h.box hk (by decide)), h.row.setRowT hk (by decide) _, h.h64, h.len⟩
theorem Sheet.setRowN {W : World} {lo b c r : Nat} {u : Value} {bs : List (List Int)} {k : Nat} (h : Pl.Sheet W lo b c r u bs) (hb : b ≠ k) (hu : ∀ g, u.ownBlock = some g → g ≠ k) (ds : Array Value) : Pl.Sheet (W.setRow k ds) lo b c r u bs :=
  ⟨h.box.rowOther _ _ hb, h.row.same fun g hg => setRow_other _ _ _ _ (hu g hg), h.h64, h.len⟩
theorem Sheet.low {W : World} {lo lo' b c r : Nat} {u : Value} {bs : List (List Int)} (h : Pl.Sheet W lo b c r u bs) (hl : lo' ≤ lo) : Pl.Sheet W lo' b c r u bs := ⟨h.box, h.row.down hl, h.h64, h.len⟩
namespace Pl
theorem pnt_blk (bs : List (List Int)) (S : Nat → Bool) (x : List Int) {n i : Nat} (hi : i < n) : blk (pnt bs S x n) i = if S i = true then x else blk bs i := by
  unfold pnt
  rw [← blk_eq (by simpa using hi)]
  simp
end Pl
namespace planeCuts
theorem Wb.putN {N : Nat} {x : PlaneArg} {r : RectArg} {q : List Int} {w W : World} {k : Nat} (h : Wb N x r q w W) (hn : N + 1 + 1 < k) (ds : Array Value) : Wb N x r q w (W.setRow k ds) :=
  ⟨h.bP.rowOther _ _ (by omega), h.bR.rowOther _ _ (by omega), h.bX.rowOther _ _ (by omega), Below.setRow h.hB (by omega) _⟩
end planeCuts
namespace planePaints
open planeCuts
set_option maxHeartbeats 8000000 in
theorem walk (x : PlaneArg) (r : RectArg) (q : List Int) (v0 v1 : Value) (w : World) (hq : q.length = 64) (h : IsPlane w v0 x) (hr : IsRect w v1 r) :
    Calls Try.prog 7 #[v0, v1, .agg (ints .i16 q)] w fun e w' => e = .returned (.bool true) ∧ Below w.heap.size w w' := by
  obtain ⟨rfl, hA, h64, -, -, -⟩ := h
  obtain ⟨rfl, -⟩ := hr
  obtain ⟨c, r0, u, bs⟩ := x
  obtain ⟨a, b, h, d⟩ := r
  simp only at hA h64 ⊢
  obtain ⟨bu, cap, rfl, hcap, hcm⟩ := hA.len
  have hbl : bs.length ≤ 9223372036854775807 := Nat.le_trans hcap (Nat.le_trans hcm (by unfold maxLen; decide))
  clear hcap hcm
  obtain ⟨N, hN⟩ : ∃ N, N = w.heap.size := ⟨_, rfl⟩
  have HN := Lib.hid hN
  rw [← hN]
  clear hN
  go_enter Try.func7, Try.ntmps7
  go_upto_region 1 with fail
  refine wp_world (fun W => Wb N ⟨c, r0, .slice bu bs.length cap, bs⟩ ⟨a, b, h, d⟩ q w W) ?_ ?_
  · rw [HN.out]
    exact ⟨((Blk.new _ _ _).alloc _).alloc _, by simpa using (Blk.new' (w.alloc _) _ _ (by simp)).alloc _, Blk.new' _ _ _ (by simp), (((Below.refl _ _).alloc (Nat.le_refl _) _).alloc (by simp) _).alloc (by simp; omega) _⟩
  have hhN := HN.out
  rw [← hhN]
  clear hhN
  rintro W0 hI
  by_cases hf : bs.length ≤ 400
  · have tf : decide (bs.length ≤ 400) = true := by simpa using hf
    go_upto_region 3 with (first
      | (go_at_call 10; refine (law_few _ _ _ _ _ hbl _).mono ?_; rintro e w2 ⟨rfl, hb2⟩)
      | (go_at_call 9; refine (awake10 _).mono ?_; rintro e w1 ⟨rfl, hb1⟩; have hI1 := hI.below hb1; have p0 := hI1.bP.cell 0; have p1 := hI1.bP.cell 1; have p2 := hI1.bP.cell 2))
    have hI2 := hI1.below hb2
    clear hb1 hb2 hI hI1 p0 p1 p2
    have hpl := Pl.pntR_len bs q c r0 a b h d
    have hp64 := Pl.pntR_right h64 hq c r0 a b h d
    have hc3 := fun W hA => pnt_fn c r0 (.slice bu bs.length cap) bs h64 a b h d W hA q hq
    obtain ⟨T, hT⟩ : ∃ T, Pl.pntR c r0 bs q a b h d = T := ⟨_, rfl⟩
    rw [hT] at hpl hp64
    simp only [hT] at hc3
    by_cases hri : Pl.right c r0 bs.length = true
    · obtain ⟨k1, k2, k3, k4, k5, k6⟩ := Pl.right_nat hri
      obtain ⟨c, rfl⟩ : ∃ k : Nat, c = k := ⟨c.toNat, by omega⟩
      obtain ⟨r0, rfl⟩ : ∃ k : Nat, r0 = k := ⟨r0.toNat, by omega⟩
      have hn : bs.length = c * r0 := by exact_mod_cast k5
      have HNN := Lib.hid hn
      have HRI := Lib.hid hri
      have hof := fun W hA => plane_of c r0 (.slice bu bs.length cap) bs h64 hri hn W hA
      have hcr : c * r0 ≤ 16384 := by rw [← hn]; omega
      have HCR := Lib.hid hcr
      by_cases hou : Pl.out c r0 a b h d
      · have hTT : T = ⟨0, 0, [], 14⟩ := by rw [← hT]; unfold Pl.pntR Pl.werr; rw [if_pos hri, if_pos hou, if_neg (by decide)]
        have HT := Lib.hid hTT
        clear hTT hT hn k5 hri hcr hou
        have hw3 := hof _ (hA.below (by rw [← HN.out]; exact hI2.hB))
        go_upto_region 4 with (first | (refine wpList_load_row rfl 24 _ rfl N rfl 24 _ _ _ hI2.bP Try.underlying24 rfl (by kernel_rfl) ?_) | (go_at_call 21; refine hw3.mono ?_; rintro e w5 ⟨bw, vw, rfl, hSw, hbw, hb5⟩))
        have hG0 : Wb N ⟨c, r0, .slice bu bs.length cap, bs⟩ ⟨a, b, h, d⟩ q w w5 ∧ Pl.Sheet w5 N bw c r0 vw bs := ⟨hI2.below hb5, Sheet.low hSw hI2.hN⟩
        clear hI2 hSw hb5 hbw hw3 hof
        have hGm : ∀ W W', (Wb N ⟨c, r0, .slice bu bs.length cap, bs⟩ ⟨a, b, h, d⟩ q w W ∧ Pl.Sheet W N bw c r0 vw bs) → Below W.heap.size W W' → (Wb N ⟨c, r0, .slice bu bs.length cap, bs⟩ ⟨a, b, h, d⟩ q w W' ∧ Pl.Sheet W' N bw c r0 vw bs) := fun W W' h hb => ⟨h.1.below hb, h.2.below hb⟩
        refine wp_region_late [7] [0, 1, 2, 3, 4, 5, 6, 7, 8] [9, 10] (fun W => (Wb N ⟨c, r0, .slice bu bs.length cap, bs⟩ ⟨a, b, h, d⟩ q w W ∧ Pl.Sheet W N bw c r0 vw bs))
          (fun | 2 => some (sFix (.agg #[.int .i64 a, .int .i64 b, .int .i64 h, .int .i64 d])) | 4 => some (sRel (shRes T) (fRes T)) | 8 => some (sNew #[.int .i64 0, .int .i64 0, .slice none 0 0] 24) | _ => none)
          (fun _ => []) (by kernel_rfl) (by kernel_rfl) (by intro j hj; simp at hj; subst hj; rfl) (hGm _ _ hG0 (Below.refl _ _).drew) ?_ ?_
        · intro i s hs
          match i with
          | 2 => cases hs; exact fun _ _ => sFix_mono _ _ _
          | 4 => cases hs; exact fun _ _ => fRes_mono _ _
          | 8 => cases hs; exact fun _ _ => sNew_mono _ _ _ _
        simp only [pick, List.getD_cons_succ, List.getD_cons_zero, List.zip_cons_cons, List.zip_nil_right]
        refine mono_pure (by rfl) rfl (fun w1 hG => run_exec_load_row 24 _ rfl N rfl 24 _ _ hG.1.bP Try.underlying24 rfl (by kernel_rfl)) ?_
        simp only [Act.put, List.setIfInBounds_toArray, List.set_cons_zero, List.set_cons_succ]
        refine mono_pure (by rfl) rfl (fun w1 hG => run_exec_load_row 36 _ rfl (N + 1) rfl 36 _ _ hG.1.bR Try.underlying36 rfl (by kernel_rfl)) ?_
        simp only [Act.put, List.setIfInBounds_toArray, List.set_cons_zero, List.set_cons_succ]
        refine mono_fix (.agg #[.int .i64 a, .int .i64 b, .int .i64 h, .int .i64 d]) (by rfl) rfl hGm (by intro w hG; go_simp; first | done | exact ⟨rfl, rfl⟩) (fun w1 hG hH => law_of10 a b h d w1) ?_
        simp only [Act.put, List.setIfInBounds_toArray, List.set_cons_zero, List.set_cons_succ]
        refine mono_pure (by rfl) rfl (fun w1 hG => run_exec_load_row 34 _ rfl (N + 1 + 1) rfl 34 _ _ hG.1.bX Try.underlying34 rfl (by rw [ints_size, hq]; kernel_rfl)) ?_
        simp only [Act.put, List.setIfInBounds_toArray, List.set_cons_zero, List.set_cons_succ]
        refine mono_rel (shRes T) (fRes T) (by rfl) rfl hGm (by intro w hG; go_simp; first | done | exact ⟨rfl, rfl⟩) ⟨_, none, 0, rfl⟩ (fun w1 hG hH => ?_) (fun v3 hv3 => ?_)
        · refine (hc3 w1 (hA.below (by rw [← HN.out]; exact hG.1.hB))).mono ?_
          rintro e w2 ⟨hR, hb⟩
          obtain ⟨v, e1, e2, e3⟩ := hR.rel w2.heap.size
          exact ⟨v, e1, e2, hb, e3⟩
        obtain ⟨bv3, cv3, rfl⟩ := hv3
        simp only [Act.put, List.setIfInBounds_toArray, List.set_cons_zero, List.set_cons_succ]
        (repeat (first | (refine mono_skip (by rfl) ?_; simp only [Act.put, List.setIfInBounds_toArray, List.set_cons_zero, List.set_cons_succ]) | (refine mono_pure (v := ?_) (by rfl) rfl ?_ ?_; rotate_left; (intro wS hS; go_simp; try with_reducible rfl); simp only [Act.put, List.setIfInBounds_toArray, List.set_cons_zero, List.set_cons_succ])))
        refine mono_alloc #[.int .i64 0, .int .i64 0, .slice none 0 0] 24 (by rfl) rfl hGm (by intro w; go_simp; try with_reducible rfl) ?_
        intro g3
        simp only [Act.put, List.setIfInBounds_toArray, List.set_cons_zero, List.set_cons_succ]
        refine mono_nil ?_
        rintro w3 hG ⟨_, I, hI1, _⟩
        obtain ⟨hg0, hg1, hg2, g', hge, hg3, -, hgb⟩ := hI1 8 _ (upd_self _ _ _)
        obtain rfl : g3 = g' := by simpa using hge
        obtain ⟨hq0, hq1, hq2, uu, hue, hRr⟩ := hI1 4 _ rfl
        obtain rfl : uu = .slice bv3 T.l.length cv3 := by simpa using hue.symm
        have hlo := Nat.le_trans hg0 hg3
        have hRN := hRr.down (lo' := N) (Nat.le_trans hG0.1.hN hq0)
        go_wp2_with (refine wpList_store_row rfl 24 _ _ rfl g3 _ rfl rfl 24 _ hgb (by kernel_rfl) rfl (by simp [Value.oneCell']) ?_)
        refine onlyN_intro ?_
        go_upto_region 5 with fail
        refine wp_world (fun W => (Wb N ⟨c, r0, .slice bu bs.length cap, bs⟩ ⟨a, b, h, d⟩ q w W ∧ Pl.Sheet W N bw c r0 vw bs) ∧ Res N g3 T (.slice bv3 T.l.length cv3) W) ⟨⟨hG.1.put hgb (Nat.lt_of_lt_of_le hG0.1.bP.lt hlo) _, Sheet.setRowP hG.2 hgb _⟩, Res.new hgb hRN⟩ ?_
        clear hG hgb hRr hRN hI1 hc3 hGm hG0 hq0 hq1 hq2 hg0 hg1 hg2 hg3 hlo
        rintro W7 ⟨⟨hI, hX⟩, h3⟩
        have hTe := HT.out
        subst hTe
        have q2 := h3.box.cell 2
        go_wp2_with fail
        go_ret
        exact ⟨rfl, hI.hB⟩
      · obtain ⟨o1, o2, o3, o4, o5, o6⟩ := Pl.not_out hou
        have hTT : T = ⟨c, r0, Pl.pnt bs (Pl.insI a.toNat b.toNat h.toNat d.toNat c) q bs.length, 0⟩ := by
          rw [← hT]; unfold Pl.pntR Pl.werr; rw [if_pos hri, if_neg hou, if_pos rfl]; simp
        obtain ⟨a, rfl⟩ : ∃ k : Nat, a = k := ⟨a.toNat, by omega⟩
        obtain ⟨b, rfl⟩ : ∃ k : Nat, b = k := ⟨b.toNat, by omega⟩
        obtain ⟨h, rfl⟩ : ∃ k : Nat, h = k := ⟨h.toNat, by omega⟩
        obtain ⟨d, rfl⟩ : ∃ k : Nat, d = k := ⟨d.toNat, by omega⟩
        simp only [Int.toNat_natCast] at hTT
        have HT := Lib.hid hTT
        clear hTT hT hn k5 hri hcr hou
        have hw3 := hof _ (hA.below (by rw [← HN.out]; exact hI2.hB))
        go_upto_region 4 with (first | (refine wpList_load_row rfl 24 _ rfl N rfl 24 _ _ _ hI2.bP Try.underlying24 rfl (by kernel_rfl) ?_) | (go_at_call 21; refine hw3.mono ?_; rintro e w5 ⟨bw, vw, rfl, hSw, hbw, hb5⟩))
        have hG0 : Wb N ⟨c, r0, .slice bu bs.length cap, bs⟩ ⟨a, b, h, d⟩ q w w5 ∧ Pl.Sheet w5 N bw c r0 vw bs := ⟨hI2.below hb5, Sheet.low hSw hI2.hN⟩
        clear hI2 hSw hb5 hbw hw3 hof
        have hGm : ∀ W W', (Wb N ⟨c, r0, .slice bu bs.length cap, bs⟩ ⟨a, b, h, d⟩ q w W ∧ Pl.Sheet W N bw c r0 vw bs) → Below W.heap.size W W' → (Wb N ⟨c, r0, .slice bu bs.length cap, bs⟩ ⟨a, b, h, d⟩ q w W' ∧ Pl.Sheet W' N bw c r0 vw bs) := fun W W' h hb => ⟨h.1.below hb, h.2.below hb⟩
        refine wp_region_late [7] [0, 1, 2, 3, 4, 5, 6, 7, 8] [9, 10] (fun W => (Wb N ⟨c, r0, .slice bu bs.length cap, bs⟩ ⟨a, b, h, d⟩ q w W ∧ Pl.Sheet W N bw c r0 vw bs))
          (fun | 2 => some (sFix (.agg #[.int .i64 a, .int .i64 b, .int .i64 h, .int .i64 d])) | 4 => some (sRel (shRes T) (fRes T)) | 8 => some (sNew #[.int .i64 0, .int .i64 0, .slice none 0 0] 24) | _ => none)
          (fun _ => []) (by kernel_rfl) (by kernel_rfl) (by intro j hj; simp at hj; subst hj; rfl) (hGm _ _ hG0 (Below.refl _ _).drew) ?_ ?_
        · intro i s hs
          match i with
          | 2 => cases hs; exact fun _ _ => sFix_mono _ _ _
          | 4 => cases hs; exact fun _ _ => fRes_mono _ _
          | 8 => cases hs; exact fun _ _ => sNew_mono _ _ _ _
        simp only [pick, List.getD_cons_succ, List.getD_cons_zero, List.zip_cons_cons, List.zip_nil_right]
        refine mono_pure (by rfl) rfl (fun w1 hG => run_exec_load_row 24 _ rfl N rfl 24 _ _ hG.1.bP Try.underlying24 rfl (by kernel_rfl)) ?_
        simp only [Act.put, List.setIfInBounds_toArray, List.set_cons_zero, List.set_cons_succ]
        refine mono_pure (by rfl) rfl (fun w1 hG => run_exec_load_row 36 _ rfl (N + 1) rfl 36 _ _ hG.1.bR Try.underlying36 rfl (by kernel_rfl)) ?_
        simp only [Act.put, List.setIfInBounds_toArray, List.set_cons_zero, List.set_cons_succ]
        refine mono_fix (.agg #[.int .i64 a, .int .i64 b, .int .i64 h, .int .i64 d]) (by rfl) rfl hGm (by intro w hG; go_simp; first | done | exact ⟨rfl, rfl⟩) (fun w1 hG hH => law_of10 a b h d w1) ?_
        simp only [Act.put, List.setIfInBounds_toArray, List.set_cons_zero, List.set_cons_succ]
        refine mono_pure (by rfl) rfl (fun w1 hG => run_exec_load_row 34 _ rfl (N + 1 + 1) rfl 34 _ _ hG.1.bX Try.underlying34 rfl (by rw [ints_size, hq]; kernel_rfl)) ?_
        simp only [Act.put, List.setIfInBounds_toArray, List.set_cons_zero, List.set_cons_succ]
        refine mono_rel (shRes T) (fRes T) (by rfl) rfl hGm (by intro w hG; go_simp; first | done | exact ⟨rfl, rfl⟩) ⟨_, none, 0, rfl⟩ (fun w1 hG hH => ?_) (fun v3 hv3 => ?_)
        · refine (hc3 w1 (hA.below (by rw [← HN.out]; exact hG.1.hB))).mono ?_
          rintro e w2 ⟨hR, hb⟩
          obtain ⟨v, e1, e2, e3⟩ := hR.rel w2.heap.size
          exact ⟨v, e1, e2, hb, e3⟩
        obtain ⟨bv3, cv3, rfl⟩ := hv3
        simp only [Act.put, List.setIfInBounds_toArray, List.set_cons_zero, List.set_cons_succ]
        (repeat (first | (refine mono_skip (by rfl) ?_; simp only [Act.put, List.setIfInBounds_toArray, List.set_cons_zero, List.set_cons_succ]) | (refine mono_pure (v := ?_) (by rfl) rfl ?_ ?_; rotate_left; (intro wS hS; go_simp; try with_reducible rfl); simp only [Act.put, List.setIfInBounds_toArray, List.set_cons_zero, List.set_cons_succ])))
        refine mono_alloc #[.int .i64 0, .int .i64 0, .slice none 0 0] 24 (by rfl) rfl hGm (by intro w; go_simp; try with_reducible rfl) ?_
        intro g3
        simp only [Act.put, List.setIfInBounds_toArray, List.set_cons_zero, List.set_cons_succ]
        refine mono_nil ?_
        rintro w3 hG ⟨_, I, hI1, _⟩
        obtain ⟨hg0, hg1, hg2, g', hge, hg3, -, hgb⟩ := hI1 8 _ (upd_self _ _ _)
        obtain rfl : g3 = g' := by simpa using hge
        obtain ⟨hq0, hq1, hq2, uu, hue, hRr⟩ := hI1 4 _ rfl
        obtain rfl : uu = .slice bv3 T.l.length cv3 := by simpa using hue.symm
        have hlo := Nat.le_trans hg0 hg3
        have hRN := hRr.down (lo' := N) (Nat.le_trans hG0.1.hN hq0)
        go_wp2_with (refine wpList_store_row rfl 24 _ _ rfl g3 _ rfl rfl 24 _ hgb (by kernel_rfl) rfl (by simp [Value.oneCell']) ?_)
        refine onlyN_intro ?_
        go_upto_region 5 with fail
        refine wp_world (fun W => (Wb N ⟨c, r0, .slice bu bs.length cap, bs⟩ ⟨a, b, h, d⟩ q w W ∧ Pl.Sheet W N bw c r0 vw bs) ∧ Res N g3 T (.slice bv3 T.l.length cv3) W) ⟨⟨hG.1.put hgb (Nat.lt_of_lt_of_le hG0.1.bP.lt hlo) _, Sheet.setRowP hG.2 hgb _⟩, Res.new hgb hRN⟩ ?_
        clear hG hgb hRr hRN hI1 hc3 hGm hG0 hq0 hq1 hq2 hg0 hg1 hg2 hg3 hlo
        rintro W7 ⟨⟨hI, hX⟩, h3⟩
        have hTe := HT.out
        subst hTe
        obtain ⟨L, hL⟩ : ∃ L, Pl.pnt bs (Pl.insI a b h d c) q bs.length = L := ⟨_, rfl⟩
        simp only [hL] at h3 hp64
        have hLl : L.length = bs.length := by rw [← hL, Pl.pnt_len]
        have hLb : ∀ i, i < bs.length → Pl.blk L i = if Pl.insI a b h d c i = true then q else Pl.blk bs i := fun i hi => by rw [← hL]; exact Pl.pnt_blk _ _ _ hi
        have HLL := Lib.hid hLl
        have HLB := Lib.hid hLb
        have hofL := fun W hA => plane_of c r0 (.slice bv3 L.length cv3) L hp64 (by rw [HLL.out]; exact HRI.out) (HLL.out.trans HNN.out) W hA
        clear hL hLl hLb hpl HT
        have hw9 := hofL W7 h3.row.ar
        have hN7 := hI.hN
        go_upto_region 8 with (first | (refine wpList_load_row rfl 24 _ rfl g3 rfl 24 _ _ _ h3.box Try.underlying24 rfl (by kernel_rfl) ?_) | (go_at_call 21; refine hw9.mono ?_; rintro e w9 ⟨b2, v2, rfl, hS2, hbw, hb9⟩))
        have hG0 : ((Wb N ⟨c, r0, .slice bu bs.length cap, bs⟩ ⟨a, b, h, d⟩ q w w9 ∧ Pl.Sheet w9 N bw c r0 vw bs) ∧ Pl.Sheet w9 N b2 c r0 v2 L) := ⟨⟨hI.below hb9, hX.below hb9⟩, Sheet.low hS2 hN7⟩
        clear hI hX h3 hS2 hbw hb9 hw9 hofL hN7
        refine wp_world (fun W => ((Wb N ⟨c, r0, .slice bu bs.length cap, bs⟩ ⟨a, b, h, d⟩ q w W ∧ Pl.Sheet W N bw c r0 vw bs) ∧ Pl.Sheet W N b2 c r0 v2 L)) hG0 ?_
        clear hG0
        rintro W8 hG0
        go_wp2_with fail
        go_loopw [13] (fun i W => ∃ k : Nat, k ≤ bs.length ∧ i = .int .i64 k ∧ ((Wb N ⟨c, r0, .slice bu bs.length cap, bs⟩ ⟨a, b, h, d⟩ q w W ∧ Pl.Sheet W N bw c r0 vw bs) ∧ Pl.Sheet W N b2 c r0 v2 L)) (fun i _ => bs.length - (intOf i).toNat)
        case atStart => exact ⟨0, Nat.zero_le _, rfl, hG0⟩
        case round =>
          clear hG0
          obtain ⟨k, hk, rfl, hG0⟩ := hrel
          have q2 := hG0.1.1.bP.cell 2
          by_cases hlt : k < bs.length
          · have tk : decide (k < bs.length) = true := by simpa using hlt
            obtain ⟨ad, cp, hsl, -, -⟩ := hA.some (by omega)
            obtain ⟨rfl, rfl⟩ : bu = some ad ∧ cap = cp := by simpa using hsl
            clear hsl
            go_upto_region 11 with fail
            clear q2
            have hcN : ¬ c = 0 := by omega
            have hq1 : IntKind.i64.wrap ((k : Int) / (c : Int)) = (k : Int) / (c : Int) := by
              have := IntWalk.i64_quo k c (by omega)
              rwa [Int.tdiv_eq_ediv_of_nonneg (by omega)] at this
            have hkc0 : (0 : Int) ≤ (k : Int) / (c : Int) ∧ (k : Int) / (c : Int) ≤ 1000000000000 := by rw [← Int.natCast_ediv]; have := Nat.div_le_self k c; generalize k / c = q at *; omega
            have hkm0 : (0 : Int) ≤ (k : Int) % (c : Int) ∧ (k : Int) % (c : Int) ≤ 1000000000000 := by rw [← Int.natCast_emod]; have := Nat.mod_le k c; generalize k % c = q at *; omega
            have hins := fun W => ref_inside a b h d ((k : Int) / (c : Int)) ((k : Int) % (c : Int)) (by omega) (by omega) hkc0 hkm0 W
            have hS : Pl.insB a b h d ((k : Int) / (c : Int)) ((k : Int) % (c : Int)) = Pl.insI a b h d c k := by unfold Pl.insI; rw [Int.natCast_ediv, Int.natCast_emod]
            rw [hS] at hins
            clear hS hkc0 hkm0
            have hkcr : k < c * r0 := by rw [← HNN.out]; exact hlt
            have hatx := fun lo b2 v2 W => sheet_at_i lo b2 c r0 v2 L k hkcr HCR.out W
            have haty := fun lo b2 v2 W => sheet_at_i lo b2 c r0 v2 bs k hkcr HCR.out W
            have hbx := Pl.blk_get hlt
            have hy64 := Pl.blk_len h64 k
            have hx64 := Pl.blk_len hp64 k
            have hxy := HLB.out k hlt
            have ij0 : (0 : Int) ≤ (k : Int) := by omega
            have ij1 : (k : Int) < (bs.length : Int) := by omega
            generalize Pl.blk bs k = y at *
            generalize Pl.blk L k = x at *
            have HXY := Lib.hid hxy
            clear hkcr hxy
            have hGm : ∀ W W', ((Wb N ⟨c, r0, .slice (some ad) bs.length cap, bs⟩ ⟨a, b, h, d⟩ q w W ∧ Pl.Sheet W N bw c r0 vw bs) ∧ Pl.Sheet W N b2 c r0 v2 L) → Below W.heap.size W W' → ((Wb N ⟨c, r0, .slice (some ad) bs.length cap, bs⟩ ⟨a, b, h, d⟩ q w W' ∧ Pl.Sheet W' N bw c r0 vw bs) ∧ Pl.Sheet W' N b2 c r0 v2 L) := fun W W' h hb => ⟨⟨h.1.1.below hb, h.1.2.below hb⟩, h.2.below hb⟩
            refine wp_region_late [12] [0, 1, 2, 3, 4, 5, 6, 7, 8, 9, 10, 11, 12, 13] [14, 15] (fun W => ((Wb N ⟨c, r0, .slice (some ad) bs.length cap, bs⟩ ⟨a, b, h, d⟩ q w W ∧ Pl.Sheet W N bw c r0 vw bs) ∧ Pl.Sheet W N b2 c r0 v2 L))
              (fun | 9 => some (sFix (.tuple #[.agg (ints .i16 x), .bool true])) | 13 => some (sNew (ints .i16 (List.replicate 64 0)) 34) | _ => none)
              (fun _ => []) (by kernel_rfl) (by kernel_rfl) (by intro j hj; simp at hj; subst hj; rfl) (hGm _ _ hG0 (Below.refl _ _).drew) ?_ ?_
            · intro i s hs
              match i with
              | 9 => cases hs; exact fun _ _ => sFix_mono _ _ _
              | 13 => cases hs; exact fun _ _ => sNew_mono _ _ _ _
            simp only [pick, List.getD_cons_succ, List.getD_cons_zero, List.zip_cons_cons, List.zip_nil_right]
            (repeat (first | (refine mono_skip (by rfl) ?_; simp only [Act.put, List.setIfInBounds_toArray, List.set_cons_zero, List.set_cons_succ]) | (refine mono_pure (v := ?_) (by rfl) rfl ?_ ?_; rotate_left; (intro wS hS; go_simp; try with_reducible rfl); simp only [Act.put, List.setIfInBounds_toArray, List.set_cons_zero, List.set_cons_succ])))
            refine mono_pure (v := .int .i64 c) (by rfl) rfl (fun w1 hG => by have cy := hG.1.1.bP.cell 0; go_simp; try with_reducible rfl) ?_
            simp only [Act.put, List.setIfInBounds_toArray, List.set_cons_zero, List.set_cons_succ]
            refine mono_pure (v := .int .i64 ((k : Int) / (c : Int))) (by rfl) rfl (fun w1 hS => by go_simp) ?_
            simp only [Act.put, List.setIfInBounds_toArray, List.set_cons_zero, List.set_cons_succ]
            (repeat (first | (refine mono_skip (by rfl) ?_; simp only [Act.put, List.setIfInBounds_toArray, List.set_cons_zero, List.set_cons_succ]) | (refine mono_pure (v := ?_) (by rfl) rfl ?_ ?_; rotate_left; (intro wS hS; go_simp; try with_reducible rfl); simp only [Act.put, List.setIfInBounds_toArray, List.set_cons_zero, List.set_cons_succ])))
            refine mono_pure (v := .int .i64 c) (by rfl) rfl (fun w1 hG => by have cy := hG.1.1.bP.cell 0; go_simp; try with_reducible rfl) ?_
            simp only [Act.put, List.setIfInBounds_toArray, List.set_cons_zero, List.set_cons_succ]
            refine mono_pure (v := .int .i64 ((k : Int) % (c : Int))) (by rfl) rfl (fun w1 hS => by go_simp; exact Int.tmod_eq_emod_of_nonneg (by omega)) ?_
            simp only [Act.put, List.setIfInBounds_toArray, List.set_cons_zero, List.set_cons_succ]
            refine mono_fix (.tuple #[.agg (ints .i16 x), .bool true]) (by rfl) rfl hGm (by intro w hG; go_simp; first | done | exact ⟨rfl, rfl⟩) (fun w1 hG hH => ?_) ?_
            · exact hatx N b2 v2 w1 hG.2
            simp only [Act.put, List.setIfInBounds_toArray, List.set_cons_zero, List.set_cons_succ]
            (repeat (first | (refine mono_skip (by rfl) ?_; simp only [Act.put, List.setIfInBounds_toArray, List.set_cons_zero, List.set_cons_succ]) | (refine mono_pure (v := ?_) (by rfl) rfl ?_ ?_; rotate_left; (intro wS hS; go_simp; try with_reducible rfl); simp only [Act.put, List.setIfInBounds_toArray, List.set_cons_zero, List.set_cons_succ])))
            refine mono_alloc (ints .i16 (List.replicate 64 0)) 34 (by rfl) rfl hGm (fun w => run_alloc_blk w rfl) ?_
            intro gx
            simp only [Act.put, List.setIfInBounds_toArray, List.set_cons_zero, List.set_cons_succ]
            refine mono_nil ?_
            rintro w3 hG ⟨_, I, hI1, _⟩
            obtain ⟨hg0, hg1, hg2, g', hge, hg3, -, hgb⟩ := hI1 13 _ (upd_self _ _ _)
            obtain rfl : gx = g' := by simpa using hge
            have hlo := Nat.le_trans hg0 hg3
            go_wp2_with (refine wpList_store_rowTo rfl 34 _ _ rfl rfl gx (ints .i16 x) rfl rfl 34 (ints .i16 (List.replicate 64 0)) hgb (by rw [ints_size, hx64]; kernel_rfl) (by rw [ints_size, ints_size, hx64]; rfl) (ints_one _ _) ?_)
            refine onlyN_intro ?_
            go_upto_region 12 with fail
            have hG1 : ((Wb N ⟨c, r0, .slice (some ad) bs.length cap, bs⟩ ⟨a, b, h, d⟩ q w (w3.setRow gx (ints .i16 x)) ∧ Pl.Sheet (w3.setRow gx (ints .i16 x)) N bw c r0 vw bs) ∧ Pl.Sheet (w3.setRow gx (ints .i16 x)) N b2 c r0 v2 L) ∧ Blk (w3.setRow gx (ints .i16 x)) gx (ints .i16 x) 34 :=
              ⟨⟨⟨hG.1.1.putN (Nat.lt_of_lt_of_le hG0.1.1.bX.lt hlo) _, Sheet.setRowN hG.1.2 (Nat.ne_of_lt (Nat.lt_of_lt_of_le hG0.1.2.box.lt hlo)) (fun g hg => Nat.ne_of_lt (Nat.lt_of_lt_of_le (hG0.1.2.row.lt g hg).2 hlo)) _⟩, Sheet.setRowN hG.2 (Nat.ne_of_lt (Nat.lt_of_lt_of_le hG0.2.box.lt hlo)) (fun g hg => Nat.ne_of_lt (Nat.lt_of_lt_of_le (hG0.2.row.lt g hg).2 hlo)) _⟩, hgb.row _⟩
            refine wp_world (fun W => ((Wb N ⟨c, r0, .slice (some ad) bs.length cap, bs⟩ ⟨a, b, h, d⟩ q w W ∧ Pl.Sheet W N bw c r0 vw bs) ∧ Pl.Sheet W N b2 c r0 v2 L) ∧ Blk W gx (ints .i16 x) 34) hG1 ?_
            clear hG1 hG hgb hI1 hGm hG0 hg0 hg1 hg2 hg3 hlo hatx
            rintro W9 hG0
            have hGm : ∀ W W', (((Wb N ⟨c, r0, .slice (some ad) bs.length cap, bs⟩ ⟨a, b, h, d⟩ q w W ∧ Pl.Sheet W N bw c r0 vw bs) ∧ Pl.Sheet W N b2 c r0 v2 L) ∧ Blk W gx (ints .i16 x) 34) → Below W.heap.size W W' → (((Wb N ⟨c, r0, .slice (some ad) bs.length cap, bs⟩ ⟨a, b, h, d⟩ q w W' ∧ Pl.Sheet W' N bw c r0 vw bs) ∧ Pl.Sheet W' N b2 c r0 v2 L) ∧ Blk W' gx (ints .i16 x) 34) := fun W W' h hb => ⟨⟨⟨h.1.1.1.below hb, h.1.1.2.below hb⟩, h.1.2.below hb⟩, h.2.below hb h.2.lt⟩
            refine wp_region_late [12] [0, 1, 2, 3, 4, 5, 6, 7, 8, 9, 10, 11, 12, 13] [14, 15] (fun W => (((Wb N ⟨c, r0, .slice (some ad) bs.length cap, bs⟩ ⟨a, b, h, d⟩ q w W ∧ Pl.Sheet W N bw c r0 vw bs) ∧ Pl.Sheet W N b2 c r0 v2 L) ∧ Blk W gx (ints .i16 x) 34))
              (fun | 9 => some (sFix (.tuple #[.agg (ints .i16 y), .bool true])) | 13 => some (sNew (ints .i16 (List.replicate 64 0)) 34) | _ => none)
              (fun _ => []) (by kernel_rfl) (by kernel_rfl) (by intro j hj; simp at hj; subst hj; rfl) (hGm _ _ hG0 (Below.refl _ _).drew) ?_ ?_
            · intro i s hs
              match i with
              | 9 => cases hs; exact fun _ _ => sFix_mono _ _ _
              | 13 => cases hs; exact fun _ _ => sNew_mono _ _ _ _
            simp only [pick, List.getD_cons_succ, List.getD_cons_zero, List.zip_cons_cons, List.zip_nil_right]
            (repeat (first | (refine mono_skip (by rfl) ?_; simp only [Act.put, List.setIfInBounds_toArray, List.set_cons_zero, List.set_cons_succ]) | (refine mono_pure (v := ?_) (by rfl) rfl ?_ ?_; rotate_left; (intro wS hS; go_simp; try with_reducible rfl); simp only [Act.put, List.setIfInBounds_toArray, List.set_cons_zero, List.set_cons_succ])))
            refine mono_pure (v := .int .i64 c) (by rfl) rfl (fun w1 hG => by have cy := hG.1.1.1.bP.cell 0; go_simp; try with_reducible rfl) ?_
            simp only [Act.put, List.setIfInBounds_toArray, List.set_cons_zero, List.set_cons_succ]
            refine mono_pure (v := .int .i64 ((k : Int) / (c : Int))) (by rfl) rfl (fun w1 hS => by go_simp) ?_
            simp only [Act.put, List.setIfInBounds_toArray, List.set_cons_zero, List.set_cons_succ]
            (repeat (first | (refine mono_skip (by rfl) ?_; simp only [Act.put, List.setIfInBounds_toArray, List.set_cons_zero, List.set_cons_succ]) | (refine mono_pure (v := ?_) (by rfl) rfl ?_ ?_; rotate_left; (intro wS hS; go_simp; try with_reducible rfl); simp only [Act.put, List.setIfInBounds_toArray, List.set_cons_zero, List.set_cons_succ])))
            refine mono_pure (v := .int .i64 c) (by rfl) rfl (fun w1 hG => by have cy := hG.1.1.1.bP.cell 0; go_simp; try with_reducible rfl) ?_
            simp only [Act.put, List.setIfInBounds_toArray, List.set_cons_zero, List.set_cons_succ]
            refine mono_pure (v := .int .i64 ((k : Int) % (c : Int))) (by rfl) rfl (fun w1 hS => by go_simp; exact Int.tmod_eq_emod_of_nonneg (by omega)) ?_
            simp only [Act.put, List.setIfInBounds_toArray, List.set_cons_zero, List.set_cons_succ]
            refine mono_fix (.tuple #[.agg (ints .i16 y), .bool true]) (by rfl) rfl hGm (by intro w hG; go_simp; first | done | exact ⟨rfl, rfl⟩) (fun w1 hG hH => ?_) ?_
            · exact haty N bw vw w1 hG.1.1.2
            simp only [Act.put, List.setIfInBounds_toArray, List.set_cons_zero, List.set_cons_succ]
            (repeat (first | (refine mono_skip (by rfl) ?_; simp only [Act.put, List.setIfInBounds_toArray, List.set_cons_zero, List.set_cons_succ]) | (refine mono_pure (v := ?_) (by rfl) rfl ?_ ?_; rotate_left; (intro wS hS; go_simp; try with_reducible rfl); simp only [Act.put, List.setIfInBounds_toArray, List.set_cons_zero, List.set_cons_succ])))
            refine mono_alloc (ints .i16 (List.replicate 64 0)) 34 (by rfl) rfl hGm (fun w => run_alloc_blk w rfl) ?_
            intro gy
            simp only [Act.put, List.setIfInBounds_toArray, List.set_cons_zero, List.set_cons_succ]
            refine mono_nil ?_
            rintro w3 hG ⟨_, I, hI1, _⟩
            obtain ⟨hg0, hg1, hg2, g', hge, hg3, -, hgb⟩ := hI1 13 _ (upd_self _ _ _)
            obtain rfl : gy = g' := by simpa using hge
            have hlo := Nat.le_trans hg0 hg3
            go_wp2_with (refine wpList_store_rowTo rfl 34 _ _ rfl rfl gy (ints .i16 y) rfl rfl 34 (ints .i16 (List.replicate 64 0)) hgb (by rw [ints_size, hy64]; kernel_rfl) (by rw [ints_size, ints_size, hy64]; rfl) (ints_one _ _) ?_)
            refine onlyN_intro ?_
            go_upto_region 13 with fail
            have hG1 : (((Wb N ⟨c, r0, .slice (some ad) bs.length cap, bs⟩ ⟨a, b, h, d⟩ q w (w3.setRow gy (ints .i16 y)) ∧ Pl.Sheet (w3.setRow gy (ints .i16 y)) N bw c r0 vw bs) ∧ Pl.Sheet (w3.setRow gy (ints .i16 y)) N b2 c r0 v2 L) ∧ Blk (w3.setRow gy (ints .i16 y)) gx (ints .i16 x) 34) ∧ Blk (w3.setRow gy (ints .i16 y)) gy (ints .i16 y) 34 :=
              ⟨⟨⟨⟨hG.1.1.1.putN (Nat.lt_of_lt_of_le hG0.1.1.1.bX.lt hlo) _, Sheet.setRowN hG.1.1.2 (Nat.ne_of_lt (Nat.lt_of_lt_of_le hG0.1.1.2.box.lt hlo)) (fun g hg => Nat.ne_of_lt (Nat.lt_of_lt_of_le (hG0.1.1.2.row.lt g hg).2 hlo)) _⟩, Sheet.setRowN hG.1.2 (Nat.ne_of_lt (Nat.lt_of_lt_of_le hG0.1.2.box.lt hlo)) (fun g hg => Nat.ne_of_lt (Nat.lt_of_lt_of_le (hG0.1.2.row.lt g hg).2 hlo)) _⟩, hG.2.rowOther _ _ (Nat.ne_of_lt (Nat.lt_of_lt_of_le hG0.2.lt hlo))⟩, hgb.row _⟩
            clear hGm
            obtain ⟨S, hSd⟩ : ∃ S : World → Prop, S = fun W => (((Wb N ⟨c, r0, .slice (some ad) bs.length cap, bs⟩ ⟨a, b, h, d⟩ q w W ∧ Pl.Sheet W N bw c r0 vw bs) ∧ Pl.Sheet W N b2 c r0 v2 L) ∧ Blk W gx (ints .i16 x) 34) ∧ Blk W gy (ints .i16 y) 34 := ⟨_, rfl⟩
            have hS1 : ∀ W, S W → Wb N ⟨c, r0, .slice (some ad) bs.length cap, bs⟩ ⟨a, b, h, d⟩ q w W := fun W hS => by rw [hSd] at hS; exact hS.1.1.1.1
            have hS2 : ∀ W, S W → Blk W gx (ints .i16 x) 34 := fun W hS => by rw [hSd] at hS; exact hS.1.2
            have hS3 : ∀ W, S W → Blk W gy (ints .i16 y) 34 := fun W hS => by rw [hSd] at hS; exact hS.2
            have hS4 : ∀ W, S W → ((Wb N ⟨c, r0, .slice (some ad) bs.length cap, bs⟩ ⟨a, b, h, d⟩ q w W ∧ Pl.Sheet W N bw c r0 vw bs) ∧ Pl.Sheet W N b2 c r0 v2 L) := fun W hS => by rw [hSd] at hS; exact hS.1.1
            have hGm : ∀ W W', S W → Below W.heap.size W W' → S W' := fun W W' hS hb => by rw [hSd] at hS ⊢; exact ⟨⟨⟨⟨hS.1.1.1.1.below hb, hS.1.1.1.2.below hb⟩, hS.1.1.2.below hb⟩, hS.1.2.below hb hS.1.2.lt⟩, hS.2.below hb hS.2.lt⟩
            have hS0 : S (w3.setRow gy (ints .i16 y)) := by rw [hSd]; exact hG1
            clear hG1 hG hgb hI1 hG0 hg0 hg1 hg2 hg3 hlo haty hSd
            refine wp_world S hS0 ?_
            clear hS0
            rintro W10 hS0
            have hA' : ∀ W, S W → Ar W 64 (.slice (some ad) bs.length cap) bs.length (bcells bs) := fun W hS => hA.below (by rw [← HN.out]; exact (hS1 W hS).hB)
            have hq64 := hq
            by_cases hin : Pl.insI a b h d c k = true
            · rw [hin] at hins
              have hxe : x = q := by rw [HXY.out, if_pos hin]
              subst hxe
              clear HXY
              refine wp_region_det S (by kernel_rfl) (by kernel_rfl) (hGm _ _ hS0 (Below.refl _ _).drew) ?_
              refine det_load_row (by rfl) 34 _ rfl gy rfl 34 _ _ (fun w1 hS => hS3 w1 hS) Try.underlying34 rfl (by rw [ints_size, hy64]; kernel_rfl) ?_
              simp only [Act.put, List.setIfInBounds_toArray, List.set_cons_zero, List.set_cons_succ]
              (repeat (first | (refine det_skip (by rfl) ?_; simp only [Act.put, List.setIfInBounds_toArray, List.set_cons_zero, List.set_cons_succ]) | (refine det_pure (v := ?_) (by rfl) ?_ ?_; rotate_left; (intro wS hS; go_simp; try with_reducible rfl); simp only [Act.put, List.setIfInBounds_toArray, List.set_cons_zero, List.set_cons_succ])))
              refine det_pure (v := .slice (some ad) bs.length cap) (by rfl) (fun w1 hS => by have cy := (hS1 w1 hS).bP.cell 2; go_simp; try with_reducible rfl) ?_
              simp only [Act.put, List.setIfInBounds_toArray, List.set_cons_zero, List.set_cons_succ]
              (repeat (first | (refine det_skip (by rfl) ?_; simp only [Act.put, List.setIfInBounds_toArray, List.set_cons_zero, List.set_cons_succ]) | (refine det_pure (v := ?_) (by rfl) ?_ ?_; rotate_left; (intro wS hS; go_simp; try with_reducible rfl); simp only [Act.put, List.setIfInBounds_toArray, List.set_cons_zero, List.set_cons_succ])))
              refine det_pure (by rfl) (fun w1 hS => ar_loadx (hA' w1 hS) h64 k hlt y hbx _ rfl rfl) ?_
              simp only [Act.put, List.setIfInBounds_toArray, List.set_cons_zero, List.set_cons_succ]
              refine det_pure (by rfl) (fun w1 _ => run_exec_neq_ints 34 _ _ _ rfl 32 64 .i16 y y rfl rfl Try.underlying34 Try.underlying32 (by kernel_rfl) hy64 hy64 (by kernel_rfl)) ?_
              rw [decide_eq_true rfl]
              simp only [Act.put, List.setIfInBounds_toArray, List.set_cons_zero, List.set_cons_succ]
              (repeat (first | (refine det_skip (by rfl) ?_; simp only [Act.put, List.setIfInBounds_toArray, List.set_cons_zero, List.set_cons_succ]) | (refine det_pure (v := ?_) (by rfl) ?_ ?_; rotate_left; (intro wS hS; go_simp; try with_reducible rfl); simp only [Act.put, List.setIfInBounds_toArray, List.set_cons_zero, List.set_cons_succ])))
              refine det_load_row (by rfl) 36 _ rfl (N + 1) rfl 36 _ _ (fun w1 hS => (hS1 w1 hS).bR) Try.underlying36 rfl (by kernel_rfl) ?_
              simp only [Act.put, List.setIfInBounds_toArray, List.set_cons_zero, List.set_cons_succ]
              (repeat (first | (refine det_skip (by rfl) ?_; simp only [Act.put, List.setIfInBounds_toArray, List.set_cons_zero, List.set_cons_succ]) | (refine det_pure (v := ?_) (by rfl) ?_ ?_; rotate_left; (intro wS hS; go_simp; try with_reducible rfl); simp only [Act.put, List.setIfInBounds_toArray, List.set_cons_zero, List.set_cons_succ])))
              refine det_pure (v := .int .i64 c) (by rfl) (fun w1 hS => by have cy := (hS1 w1 hS).bP.cell 0; go_simp; try with_reducible rfl) ?_
              simp only [Act.put, List.setIfInBounds_toArray, List.set_cons_zero, List.set_cons_succ]
              refine det_pure (v := .int .i64 ((k : Int) / (c : Int))) (by rfl) (fun w1 hS => by go_simp) ?_
              simp only [Act.put, List.setIfInBounds_toArray, List.set_cons_zero, List.set_cons_succ]
              (repeat (first | (refine det_skip (by rfl) ?_; simp only [Act.put, List.setIfInBounds_toArray, List.set_cons_zero, List.set_cons_succ]) | (refine det_pure (v := ?_) (by rfl) ?_ ?_; rotate_left; (intro wS hS; go_simp; try with_reducible rfl); simp only [Act.put, List.setIfInBounds_toArray, List.set_cons_zero, List.set_cons_succ])))
              refine det_pure (v := .int .i64 c) (by rfl) (fun w1 hS => by have cy := (hS1 w1 hS).bP.cell 0; go_simp; try with_reducible rfl) ?_
              simp only [Act.put, List.setIfInBounds_toArray, List.set_cons_zero, List.set_cons_succ]
              refine det_pure (v := .int .i64 ((k : Int) % (c : Int))) (by rfl) (fun w1 hS => by go_simp; exact Int.tmod_eq_emod_of_nonneg (by omega)) ?_
              simp only [Act.put, List.setIfInBounds_toArray, List.set_cons_zero, List.set_cons_succ]
              refine det_call (v := .bool true) (by rfl) (by intro wS hS; go_simp; first | done | exact ⟨rfl, rfl⟩) (fun W hS => (hins W).mono fun e w' hh => ⟨hh.1, hGm _ _ hS hh.2⟩) ?_
              simp only [Act.put, List.setIfInBounds_toArray, List.set_cons_zero, List.set_cons_succ]
              (repeat (first | (refine det_skip (by rfl) ?_; simp only [Act.put, List.setIfInBounds_toArray, List.set_cons_zero, List.set_cons_succ]) | (refine det_pure (v := ?_) (by rfl) ?_ ?_; rotate_left; (intro wS hS; go_simp; try with_reducible rfl); simp only [Act.put, List.setIfInBounds_toArray, List.set_cons_zero, List.set_cons_succ])))
              refine det_load_row (by rfl) 34 _ rfl gx rfl 34 _ _ (fun w1 hS => hS2 w1 hS) Try.underlying34 rfl (by rw [ints_size, hx64]; kernel_rfl) ?_
              simp only [Act.put, List.setIfInBounds_toArray, List.set_cons_zero, List.set_cons_succ]
              refine det_load_row (by rfl) 34 _ rfl (N + 1 + 1) rfl 34 _ _ (fun w1 hS => (hS1 w1 hS).bX) Try.underlying34 rfl (by rw [ints_size, hx64]; kernel_rfl) ?_
              simp only [Act.put, List.setIfInBounds_toArray, List.set_cons_zero, List.set_cons_succ]
              refine det_pure (by rfl) (fun w1 _ => run_exec_neq_ints 34 _ _ _ rfl 32 64 .i16 x x rfl rfl Try.underlying34 Try.underlying32 (by kernel_rfl) hx64 hx64 (by kernel_rfl)) ?_
              rw [decide_eq_true rfl]
              simp only [Act.put, List.setIfInBounds_toArray, List.set_cons_zero, List.set_cons_succ]
              (repeat (first | (refine det_skip (by rfl) ?_; simp only [Act.put, List.setIfInBounds_toArray, List.set_cons_zero, List.set_cons_succ]) | (refine det_pure (v := ?_) (by rfl) ?_ ?_; rotate_left; (intro wS hS; go_simp; try with_reducible rfl); simp only [Act.put, List.setIfInBounds_toArray, List.set_cons_zero, List.set_cons_succ])))
              refine det_load_row (by rfl) 36 _ rfl (N + 1) rfl 36 _ _ (fun w1 hS => (hS1 w1 hS).bR) Try.underlying36 rfl (by kernel_rfl) ?_
              simp only [Act.put, List.setIfInBounds_toArray, List.set_cons_zero, List.set_cons_succ]
              (repeat (first | (refine det_skip (by rfl) ?_; simp only [Act.put, List.setIfInBounds_toArray, List.set_cons_zero, List.set_cons_succ]) | (refine det_pure (v := ?_) (by rfl) ?_ ?_; rotate_left; (intro wS hS; go_simp; try with_reducible rfl); simp only [Act.put, List.setIfInBounds_toArray, List.set_cons_zero, List.set_cons_succ])))
              refine det_pure (v := .int .i64 c) (by rfl) (fun w1 hS => by have cy := (hS1 w1 hS).bP.cell 0; go_simp; try with_reducible rfl) ?_
              simp only [Act.put, List.setIfInBounds_toArray, List.set_cons_zero, List.set_cons_succ]
              refine det_pure (v := .int .i64 ((k : Int) / (c : Int))) (by rfl) (fun w1 hS => by go_simp) ?_
              simp only [Act.put, List.setIfInBounds_toArray, List.set_cons_zero, List.set_cons_succ]
              (repeat (first | (refine det_skip (by rfl) ?_; simp only [Act.put, List.setIfInBounds_toArray, List.set_cons_zero, List.set_cons_succ]) | (refine det_pure (v := ?_) (by rfl) ?_ ?_; rotate_left; (intro wS hS; go_simp; try with_reducible rfl); simp only [Act.put, List.setIfInBounds_toArray, List.set_cons_zero, List.set_cons_succ])))
              refine det_pure (v := .int .i64 c) (by rfl) (fun w1 hS => by have cy := (hS1 w1 hS).bP.cell 0; go_simp; try with_reducible rfl) ?_
              simp only [Act.put, List.setIfInBounds_toArray, List.set_cons_zero, List.set_cons_succ]
              refine det_pure (v := .int .i64 ((k : Int) % (c : Int))) (by rfl) (fun w1 hS => by go_simp; exact Int.tmod_eq_emod_of_nonneg (by omega)) ?_
              simp only [Act.put, List.setIfInBounds_toArray, List.set_cons_zero, List.set_cons_succ]
              refine det_call (v := .bool true) (by rfl) (by intro wS hS; go_simp; first | done | exact ⟨rfl, rfl⟩) (fun W hS => (hins W).mono fun e w' hh => ⟨hh.1, hGm _ _ hS hh.2⟩) ?_
              simp only [Act.put, List.setIfInBounds_toArray, List.set_cons_zero, List.set_cons_succ]
              (repeat (first | (refine det_skip (by rfl) ?_; simp only [Act.put, List.setIfInBounds_toArray, List.set_cons_zero, List.set_cons_succ]) | (refine det_pure (v := ?_) (by rfl) ?_ ?_; rotate_left; (intro wS hS; go_simp; try with_reducible rfl); simp only [Act.put, List.setIfInBounds_toArray, List.set_cons_zero, List.set_cons_succ])))
              refine det_nil ?_
              intro W11 hS
              have hG0 := hS4 W11 hS
              clear hS1 hS2 hS3 hS4 hGm hA' hins hq1
              go_wp2_with fail
              exact ⟨⟨k + 1, by omega, by go_num, hG0⟩, by simp [intOf]; omega⟩
            · have hin : Pl.insI a b h d c k = false := by simpa using hin
              rw [hin] at hins
              have hxe : y = x := by rw [HXY.out, if_neg (by rw [hin]; decide)]
              subst hxe
              clear HXY
              refine wp_region_det S (by kernel_rfl) (by kernel_rfl) (hGm _ _ hS0 (Below.refl _ _).drew) ?_
              refine det_load_row (by rfl) 34 _ rfl gy rfl 34 _ _ (fun w1 hS => hS3 w1 hS) Try.underlying34 rfl (by rw [ints_size, hy64]; kernel_rfl) ?_
              simp only [Act.put, List.setIfInBounds_toArray, List.set_cons_zero, List.set_cons_succ]
              (repeat (first | (refine det_skip (by rfl) ?_; simp only [Act.put, List.setIfInBounds_toArray, List.set_cons_zero, List.set_cons_succ]) | (refine det_pure (v := ?_) (by rfl) ?_ ?_; rotate_left; (intro wS hS; go_simp; try with_reducible rfl); simp only [Act.put, List.setIfInBounds_toArray, List.set_cons_zero, List.set_cons_succ])))
              refine det_pure (v := .slice (some ad) bs.length cap) (by rfl) (fun w1 hS => by have cy := (hS1 w1 hS).bP.cell 2; go_simp; try with_reducible rfl) ?_
              simp only [Act.put, List.setIfInBounds_toArray, List.set_cons_zero, List.set_cons_succ]
              (repeat (first | (refine det_skip (by rfl) ?_; simp only [Act.put, List.setIfInBounds_toArray, List.set_cons_zero, List.set_cons_succ]) | (refine det_pure (v := ?_) (by rfl) ?_ ?_; rotate_left; (intro wS hS; go_simp; try with_reducible rfl); simp only [Act.put, List.setIfInBounds_toArray, List.set_cons_zero, List.set_cons_succ])))
              refine det_pure (by rfl) (fun w1 hS => ar_loadx (hA' w1 hS) h64 k hlt y hbx _ rfl rfl) ?_
              simp only [Act.put, List.setIfInBounds_toArray, List.set_cons_zero, List.set_cons_succ]
              refine det_pure (by rfl) (fun w1 _ => run_exec_neq_ints 34 _ _ _ rfl 32 64 .i16 y y rfl rfl Try.underlying34 Try.underlying32 (by kernel_rfl) hy64 hy64 (by kernel_rfl)) ?_
              rw [decide_eq_true rfl]
              simp only [Act.put, List.setIfInBounds_toArray, List.set_cons_zero, List.set_cons_succ]
              (repeat (first | (refine det_skip (by rfl) ?_; simp only [Act.put, List.setIfInBounds_toArray, List.set_cons_zero, List.set_cons_succ]) | (refine det_pure (v := ?_) (by rfl) ?_ ?_; rotate_left; (intro wS hS; go_simp; try with_reducible rfl); simp only [Act.put, List.setIfInBounds_toArray, List.set_cons_zero, List.set_cons_succ])))
              refine det_load_row (by rfl) 36 _ rfl (N + 1) rfl 36 _ _ (fun w1 hS => (hS1 w1 hS).bR) Try.underlying36 rfl (by kernel_rfl) ?_
              simp only [Act.put, List.setIfInBounds_toArray, List.set_cons_zero, List.set_cons_succ]
              (repeat (first | (refine det_skip (by rfl) ?_; simp only [Act.put, List.setIfInBounds_toArray, List.set_cons_zero, List.set_cons_succ]) | (refine det_pure (v := ?_) (by rfl) ?_ ?_; rotate_left; (intro wS hS; go_simp; try with_reducible rfl); simp only [Act.put, List.setIfInBounds_toArray, List.set_cons_zero, List.set_cons_succ])))
              refine det_pure (v := .int .i64 c) (by rfl) (fun w1 hS => by have cy := (hS1 w1 hS).bP.cell 0; go_simp; try with_reducible rfl) ?_
              simp only [Act.put, List.setIfInBounds_toArray, List.set_cons_zero, List.set_cons_succ]
              refine det_pure (v := .int .i64 ((k : Int) / (c : Int))) (by rfl) (fun w1 hS => by go_simp) ?_
              simp only [Act.put, List.setIfInBounds_toArray, List.set_cons_zero, List.set_cons_succ]
              (repeat (first | (refine det_skip (by rfl) ?_; simp only [Act.put, List.setIfInBounds_toArray, List.set_cons_zero, List.set_cons_succ]) | (refine det_pure (v := ?_) (by rfl) ?_ ?_; rotate_left; (intro wS hS; go_simp; try with_reducible rfl); simp only [Act.put, List.setIfInBounds_toArray, List.set_cons_zero, List.set_cons_succ])))
              refine det_pure (v := .int .i64 c) (by rfl) (fun w1 hS => by have cy := (hS1 w1 hS).bP.cell 0; go_simp; try with_reducible rfl) ?_
              simp only [Act.put, List.setIfInBounds_toArray, List.set_cons_zero, List.set_cons_succ]
              refine det_pure (v := .int .i64 ((k : Int) % (c : Int))) (by rfl) (fun w1 hS => by go_simp; exact Int.tmod_eq_emod_of_nonneg (by omega)) ?_
              simp only [Act.put, List.setIfInBounds_toArray, List.set_cons_zero, List.set_cons_succ]
              refine det_call (v := .bool false) (by rfl) (by intro wS hS; go_simp; first | done | exact ⟨rfl, rfl⟩) (fun W hS => (hins W).mono fun e w' hh => ⟨hh.1, hGm _ _ hS hh.2⟩) ?_
              simp only [Act.put, List.setIfInBounds_toArray, List.set_cons_zero, List.set_cons_succ]
              (repeat (first | (refine det_skip (by rfl) ?_; simp only [Act.put, List.setIfInBounds_toArray, List.set_cons_zero, List.set_cons_succ]) | (refine det_pure (v := ?_) (by rfl) ?_ ?_; rotate_left; (intro wS hS; go_simp; try with_reducible rfl); simp only [Act.put, List.setIfInBounds_toArray, List.set_cons_zero, List.set_cons_succ])))
              refine det_load_row (by rfl) 36 _ rfl (N + 1) rfl 36 _ _ (fun w1 hS => (hS1 w1 hS).bR) Try.underlying36 rfl (by kernel_rfl) ?_
              simp only [Act.put, List.setIfInBounds_toArray, List.set_cons_zero, List.set_cons_succ]
              (repeat (first | (refine det_skip (by rfl) ?_; simp only [Act.put, List.setIfInBounds_toArray, List.set_cons_zero, List.set_cons_succ]) | (refine det_pure (v := ?_) (by rfl) ?_ ?_; rotate_left; (intro wS hS; go_simp; try with_reducible rfl); simp only [Act.put, List.setIfInBounds_toArray, List.set_cons_zero, List.set_cons_succ])))
              refine det_pure (v := .int .i64 c) (by rfl) (fun w1 hS => by have cy := (hS1 w1 hS).bP.cell 0; go_simp; try with_reducible rfl) ?_
              simp only [Act.put, List.setIfInBounds_toArray, List.set_cons_zero, List.set_cons_succ]
              refine det_pure (v := .int .i64 ((k : Int) / (c : Int))) (by rfl) (fun w1 hS => by go_simp) ?_
              simp only [Act.put, List.setIfInBounds_toArray, List.set_cons_zero, List.set_cons_succ]
              (repeat (first | (refine det_skip (by rfl) ?_; simp only [Act.put, List.setIfInBounds_toArray, List.set_cons_zero, List.set_cons_succ]) | (refine det_pure (v := ?_) (by rfl) ?_ ?_; rotate_left; (intro wS hS; go_simp; try with_reducible rfl); simp only [Act.put, List.setIfInBounds_toArray, List.set_cons_zero, List.set_cons_succ])))
              refine det_pure (v := .int .i64 c) (by rfl) (fun w1 hS => by have cy := (hS1 w1 hS).bP.cell 0; go_simp; try with_reducible rfl) ?_
              simp only [Act.put, List.setIfInBounds_toArray, List.set_cons_zero, List.set_cons_succ]
              refine det_pure (v := .int .i64 ((k : Int) % (c : Int))) (by rfl) (fun w1 hS => by go_simp; exact Int.tmod_eq_emod_of_nonneg (by omega)) ?_
              simp only [Act.put, List.setIfInBounds_toArray, List.set_cons_zero, List.set_cons_succ]
              refine det_call (v := .bool false) (by rfl) (by intro wS hS; go_simp; first | done | exact ⟨rfl, rfl⟩) (fun W hS => (hins W).mono fun e w' hh => ⟨hh.1, hGm _ _ hS hh.2⟩) ?_
              simp only [Act.put, List.setIfInBounds_toArray, List.set_cons_zero, List.set_cons_succ]
              (repeat (first | (refine det_skip (by rfl) ?_; simp only [Act.put, List.setIfInBounds_toArray, List.set_cons_zero, List.set_cons_succ]) | (refine det_pure (v := ?_) (by rfl) ?_ ?_; rotate_left; (intro wS hS; go_simp; try with_reducible rfl); simp only [Act.put, List.setIfInBounds_toArray, List.set_cons_zero, List.set_cons_succ])))
              refine det_load_row (by rfl) 34 _ rfl gx rfl 34 _ _ (fun w1 hS => hS2 w1 hS) Try.underlying34 rfl (by rw [ints_size, hx64]; kernel_rfl) ?_
              simp only [Act.put, List.setIfInBounds_toArray, List.set_cons_zero, List.set_cons_succ]
              refine det_load_row (by rfl) 34 _ rfl gy rfl 34 _ _ (fun w1 hS => hS3 w1 hS) Try.underlying34 rfl (by rw [ints_size, hx64]; kernel_rfl) ?_
              simp only [Act.put, List.setIfInBounds_toArray, List.set_cons_zero, List.set_cons_succ]
              refine det_pure (by rfl) (fun w1 _ => run_exec_neq_ints 34 _ _ _ rfl 32 64 .i16 y y rfl rfl Try.underlying34 Try.underlying32 (by kernel_rfl) hy64 hy64 (by kernel_rfl)) ?_
              rw [decide_eq_true rfl]
              simp only [Act.put, List.setIfInBounds_toArray, List.set_cons_zero, List.set_cons_succ]
              (repeat (first | (refine det_skip (by rfl) ?_; simp only [Act.put, List.setIfInBounds_toArray, List.set_cons_zero, List.set_cons_succ]) | (refine det_pure (v := ?_) (by rfl) ?_ ?_; rotate_left; (intro wS hS; go_simp; try with_reducible rfl); simp only [Act.put, List.setIfInBounds_toArray, List.set_cons_zero, List.set_cons_succ])))
              refine det_nil ?_
              intro W11 hS
              have hG0 := hS4 W11 hS
              clear hS1 hS2 hS3 hS4 hGm hA' hins hq1
              go_wp2_with fail
              exact ⟨⟨k + 1, by omega, by go_num, hG0⟩, by simp [intOf]; omega⟩
          · have tk : decide (k < bs.length) = false := by simpa using hlt
            go_wp2_with fail
            go_ret
            exact ⟨rfl, hG0.1.1.hB⟩
    · have hTT : T = ⟨0, 0, [], 1⟩ := by rw [← hT]; unfold Pl.pntR Pl.werr; rw [if_neg hri, if_neg (by decide)]
      have HT := Lib.hid hTT
      have hri : Pl.right c r0 bs.length = false := by simpa using hri
      have hof := fun W => plane_of_no c r0 bu bs.length cap hri W
      clear hTT hT hri
      have hw3 := hof
      go_upto_region 4 with (first | (refine wpList_load_row rfl 24 _ rfl N rfl 24 _ _ _ hI2.bP Try.underlying24 rfl (by kernel_rfl) ?_) | (go_at_call 21; refine (hw3 _).mono ?_; rintro e w5 ⟨rfl, hb5⟩))
      have hG0 : Wb N ⟨c, r0, .slice bu bs.length cap, bs⟩ ⟨a, b, h, d⟩ q w w5 ∧ True := ⟨hI2.below hb5, trivial⟩
      clear hI2 hb5 hw3 hof
      have hGm : ∀ W W', (Wb N ⟨c, r0, .slice bu bs.length cap, bs⟩ ⟨a, b, h, d⟩ q w W ∧ True) → Below W.heap.size W W' → (Wb N ⟨c, r0, .slice bu bs.length cap, bs⟩ ⟨a, b, h, d⟩ q w W' ∧ True) := fun W W' h hb => ⟨h.1.below hb, trivial⟩
      refine wp_region_late [7] [0, 1, 2, 3, 4, 5, 6, 7, 8] [9, 10] (fun W => (Wb N ⟨c, r0, .slice bu bs.length cap, bs⟩ ⟨a, b, h, d⟩ q w W ∧ True))
        (fun | 2 => some (sFix (.agg #[.int .i64 a, .int .i64 b, .int .i64 h, .int .i64 d])) | 4 => some (sRel (shRes T) (fRes T)) | 8 => some (sNew #[.int .i64 0, .int .i64 0, .slice none 0 0] 24) | _ => none)
        (fun _ => []) (by kernel_rfl) (by kernel_rfl) (by intro j hj; simp at hj; subst hj; rfl) (hGm _ _ hG0 (Below.refl _ _).drew) ?_ ?_
      · intro i s hs
        match i with
        | 2 => cases hs; exact fun _ _ => sFix_mono _ _ _
        | 4 => cases hs; exact fun _ _ => fRes_mono _ _
        | 8 => cases hs; exact fun _ _ => sNew_mono _ _ _ _
      simp only [pick, List.getD_cons_succ, List.getD_cons_zero, List.zip_cons_cons, List.zip_nil_right]
      refine mono_pure (by rfl) rfl (fun w1 hG => run_exec_load_row 24 _ rfl N rfl 24 _ _ hG.1.bP Try.underlying24 rfl (by kernel_rfl)) ?_
      simp only [Act.put, List.setIfInBounds_toArray, List.set_cons_zero, List.set_cons_succ]
      refine mono_pure (by rfl) rfl (fun w1 hG => run_exec_load_row 36 _ rfl (N + 1) rfl 36 _ _ hG.1.bR Try.underlying36 rfl (by kernel_rfl)) ?_
      simp only [Act.put, List.setIfInBounds_toArray, List.set_cons_zero, List.set_cons_succ]
      refine mono_fix (.agg #[.int .i64 a, .int .i64 b, .int .i64 h, .int .i64 d]) (by rfl) rfl hGm (by intro w hG; go_simp; first | done | exact ⟨rfl, rfl⟩) (fun w1 hG hH => law_of10 a b h d w1) ?_
      simp only [Act.put, List.setIfInBounds_toArray, List.set_cons_zero, List.set_cons_succ]
      refine mono_pure (by rfl) rfl (fun w1 hG => run_exec_load_row 34 _ rfl (N + 1 + 1) rfl 34 _ _ hG.1.bX Try.underlying34 rfl (by rw [ints_size, hq]; kernel_rfl)) ?_
      simp only [Act.put, List.setIfInBounds_toArray, List.set_cons_zero, List.set_cons_succ]
      refine mono_rel (shRes T) (fRes T) (by rfl) rfl hGm (by intro w hG; go_simp; first | done | exact ⟨rfl, rfl⟩) ⟨_, none, 0, rfl⟩ (fun w1 hG hH => ?_) (fun v3 hv3 => ?_)
      · refine (hc3 w1 (hA.below (by rw [← HN.out]; exact hG.1.hB))).mono ?_
        rintro e w2 ⟨hR, hb⟩
        obtain ⟨v, e1, e2, e3⟩ := hR.rel w2.heap.size
        exact ⟨v, e1, e2, hb, e3⟩
      obtain ⟨bv3, cv3, rfl⟩ := hv3
      simp only [Act.put, List.setIfInBounds_toArray, List.set_cons_zero, List.set_cons_succ]
      (repeat (first | (refine mono_skip (by rfl) ?_; simp only [Act.put, List.setIfInBounds_toArray, List.set_cons_zero, List.set_cons_succ]) | (refine mono_pure (v := ?_) (by rfl) rfl ?_ ?_; rotate_left; (intro wS hS; go_simp; try with_reducible rfl); simp only [Act.put, List.setIfInBounds_toArray, List.set_cons_zero, List.set_cons_succ])))
      refine mono_alloc #[.int .i64 0, .int .i64 0, .slice none 0 0] 24 (by rfl) rfl hGm (by intro w; go_simp; try with_reducible rfl) ?_
      intro g3
      simp only [Act.put, List.setIfInBounds_toArray, List.set_cons_zero, List.set_cons_succ]
      refine mono_nil ?_
      rintro w3 hG ⟨_, I, hI1, _⟩
      obtain ⟨hg0, hg1, hg2, g', hge, hg3, -, hgb⟩ := hI1 8 _ (upd_self _ _ _)
      obtain rfl : g3 = g' := by simpa using hge
      obtain ⟨hq0, hq1, hq2, uu, hue, hRr⟩ := hI1 4 _ rfl
      obtain rfl : uu = .slice bv3 T.l.length cv3 := by simpa using hue.symm
      have hlo := Nat.le_trans hg0 hg3
      have hRN := hRr.down (lo' := N) (Nat.le_trans hG0.1.hN hq0)
      go_wp2_with (refine wpList_store_row rfl 24 _ _ rfl g3 _ rfl rfl 24 _ hgb (by kernel_rfl) rfl (by simp [Value.oneCell']) ?_)
      refine onlyN_intro ?_
      go_upto_region 5 with fail
      refine wp_world (fun W => (Wb N ⟨c, r0, .slice bu bs.length cap, bs⟩ ⟨a, b, h, d⟩ q w W ∧ True) ∧ Res N g3 T (.slice bv3 T.l.length cv3) W) ⟨⟨hG.1.put hgb (Nat.lt_of_lt_of_le hG0.1.bP.lt hlo) _, trivial⟩, Res.new hgb hRN⟩ ?_
      clear hG hgb hRr hRN hI1 hc3 hGm hG0 hq0 hq1 hq2 hg0 hg1 hg2 hg3 hlo
      rintro W7 ⟨⟨hI, hX⟩, h3⟩
      have hTe := HT.out
      subst hTe
      have q2 := h3.box.cell 2
      go_wp2_with fail
      go_ret
      exact ⟨rfl, hI.hB⟩
  · have tf : decide (bs.length ≤ 400) = false := by simpa using hf
    go_upto_region 2 with (first
      | (go_at_call 10; refine (law_few _ _ _ _ _ hbl _).mono ?_; rintro e w2 ⟨rfl, hb2⟩)
      | (go_at_call 9; refine (awake10 _).mono ?_; rintro e w1 ⟨rfl, hb1⟩; have hI1 := hI.below hb1; have p0 := hI1.bP.cell 0; have p1 := hI1.bP.cell 1; have p2 := hI1.bP.cell 2))
    have hI2 := hI1.below hb2
    go_wp2_with (go_at_call 9; refine (awake10 _).mono ?_; rintro e w3 ⟨rfl, hb3⟩)
    go_ret
    exact ⟨rfl, (hI2.below hb3).hB⟩
end planePaints
theorem planePaints.core (v0 : Value) (a0 : PlaneArg) (v1 : Value) (a1 : RectArg) (a2 : List Int) (l2 : a2.length = 64) (_w2 : ∀ y ∈ a2, (Lit.int .i16 y).wf = true) (W : World) (s0 : IsPlane W v0 a0) (s1 : IsRect W v1 a1) :
    Calls Try.prog 7 #[v0, v1, .agg (ints .i16 a2)] W fun e w' => e = .returned (.bool true) ∧ Below W.heap.size W w' := planePaints.walk a0 a1 a2 v0 v1 W l2 s0 s1
end Go.Proofs.Ytpjocfcemjdneaa
