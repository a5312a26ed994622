/- aquatintlaw10.PlaneCuts, walked. -/
import Derived.Test.YtpjocfcemjdneaaRes
import Derived.Test.YtpjocfcemjdneaaAwake10
import Derived.Test.YtpjocfcemjdneaaOpenPl
import Derived.Test.YtpjocfcemjdneaaRows
namespace Go.Proofs.Ytpjocfcemjdneaa
open Go.RowKit Go.ChangeShapes
set_option maxRecDepth 100000
def fRes (R : PlaneRes) (v : Value) : Fact := fun lo _ w => ∃ u, v = .tuple #[.agg #[.int .i64 R.c, .int .i64 R.r, u], .int .i64 R.e] ∧ Row w lo 34 64 u R.l.length (bcells R.l)
theorem fRes_mono (R : PlaneRes) (v : Value) : (fRes R v).Mono := by
  rintro lo hi w w' ⟨u, e, hR⟩ _ hb
  exact ⟨u, e, hR.grow hb⟩
def shRes (R : PlaneRes) (v : Value) : Prop := ∃ b cap, v = .tuple #[.agg #[.int .i64 R.c, .int .i64 R.r, .slice b R.l.length cap], .int .i64 R.e]
theorem IsRes.rel {lo : Nat} {W' : World} {R : PlaneRes} {e : Ending} (h : IsRes lo W' R e) (hi : Nat) : ∃ v, e = .returned v ∧ shRes R v ∧ fRes R v lo hi W' := by
  obtain ⟨u, rfl, hR⟩ := h
  obtain ⟨b, cap, rfl⟩ := hR.len
  exact ⟨_, rfl, ⟨b, cap, rfl⟩, _, rfl, hR⟩
theorem blkk_ne {W : World} {g k : Nat} {cs ds : Array Value} {t t' : TypeId} (h : Blk W g cs t) (h' : Blk W k ds t') (ht : t ≠ t') : g ≠ k := by
  rintro rfl
  have := h.symm.trans h'
  simp at this
  exact ht this.2
theorem Row.setRowT {w : World} {lo : Nat} {e : TypeId} {size : Nat} {v : Value} {n : Nat} {xs : List Value} {g : Nat} {cs : Array Value} {t : TypeId} (h : Row w lo e size v n xs) (hb : Blk w g cs t) (ht : t ≠ e) (ds : Array Value) : Row (w.setRow g ds) lo e size v n xs :=
  h.same fun k hk => setRow_other _ _ _ _ (h.typed hb ht k hk)
namespace planeCuts
structure Wb (N : Nat) (x : PlaneArg) (r : RectArg) (q : List Int) (w W : World) : Prop where
  bP : Blk W N #[.int .i64 x.c, .int .i64 x.r, x.u] 24
  bR : Blk W (N + 1) #[.int .i64 r.a, .int .i64 r.b, .int .i64 r.h, .int .i64 r.d] 36
  bX : Blk W (N + 1 + 1) (ints .i16 q) 34
  hB : Below N w W
theorem Wb.hN {N : Nat} {x : PlaneArg} {r : RectArg} {q : List Int} {w W : World} (h : Wb N x r q w W) : N ≤ W.heap.size := Nat.le_of_lt h.bP.lt
theorem Wb.below {N : Nat} {x : PlaneArg} {r : RectArg} {q : List Int} {w W W' : World} (h : Wb N x r q w W) (hb : Below W.heap.size W W') : Wb N x r q w W' := ⟨h.bP.below hb h.bP.lt, h.bR.below hb h.bR.lt, h.bX.below hb h.bX.lt, h.hB.trans (hb.mono h.hN)⟩
theorem Wb.put {N : Nat} {x : PlaneArg} {r : RectArg} {q : List Int} {w W : World} {k : Nat} {cs : Array Value} (h : Wb N x r q w W) (hk : Blk W k cs 24) (hn : N < k) (ds : Array Value) : Wb N x r q w (W.setRow k ds) :=
  ⟨h.bP.rowOther _ _ (Nat.ne_of_lt hn), h.bR.rowOther _ _ (blkk_ne h.bR hk (by decide)), h.bX.rowOther _ _ (blkk_ne h.bX hk (by decide)), Below.setRow h.hB (Nat.le_of_lt hn) _⟩
/-- A result's plane, in its box. -/
structure Res (N g : Nat) (R : PlaneRes) (u : Value) (W : World) : Prop where
  box : Blk W g #[.int .i64 R.c, .int .i64 R.r, u] 24
  row : Row W N 34 64 u R.l.length (bcells R.l)
theorem Res.below {N g : Nat} {R : PlaneRes} {u : Value} {W W' : World} (h : Res N g R u W) (hb : Below W.heap.size W W') : Res N g R u W' := ⟨h.box.below hb h.box.lt, h.row.grow hb⟩
theorem Res.put {N g : Nat} {R : PlaneRes} {u : Value} {W : World} {k : Nat} {cs : Array Value} (h : Res N g R u W) (hk : Blk W k cs 24) (hn : g < k) (ds : Array Value) : Res N g R u (W.setRow k ds) :=
  ⟨h.box.rowOther _ _ (Nat.ne_of_lt hn), h.row.setRowT hk (by decide) _⟩
theorem Res.new {N k : Nat} {R : PlaneRes} {u : Value} {W : World} {cs : Array Value} (hk : Blk W k cs 24) (hR : Row W N 34 64 u R.l.length (bcells R.l)) : Res N k R u (W.setRow k #[.int .i64 R.c, .int .i64 R.r, u]) :=
  ⟨hk.row _, hR.setRowT hk (by decide) _⟩
set_option maxHeartbeats 8000000 in
theorem walk (x : PlaneArg) (r : RectArg) (q : List Int) (v0 v1 : Value) (w : World) (hq : q.length = 64) (h : IsPlane w v0 x) (hr : IsRect w v1 r) :
    Calls Try.prog 6 #[v0, v1, .agg (ints .i16 q)] w fun e w' => e = .returned (.bool true) ∧ Below w.heap.size w w' := by
  obtain ⟨rfl, hA, h64, -, -, -⟩ := h
  obtain ⟨rfl, -⟩ := hr
  obtain ⟨c, r0, u, bs⟩ := x
  obtain ⟨a, b, h, d⟩ := r
  simp only at hA h64 ⊢
  obtain ⟨bu, cap, rfl, hcap, hcm⟩ := hA.len
  have hbl : bs.length ≤ 9223372036854775807 := Nat.le_trans hcap (Nat.le_trans hcm (by unfold maxLen; decide))
  clear hcap hcm
  obtain ⟨N, hN⟩ : ∃ N, N = w.heap.size := ⟨_, rfl⟩
  have HN := Lib.hid hN
  rw [← hN]
  clear hN
  go_enter Try.func6, Try.ntmps6
  go_upto_region 1 with fail
  refine wp_world (fun W => Wb N ⟨c, r0, .slice bu bs.length cap, bs⟩ ⟨a, b, h, d⟩ q w W) ?_ ?_
  · rw [HN.out]
    exact ⟨((Blk.new _ _ _).alloc _).alloc _, by simpa using (Blk.new' (w.alloc _) _ _ (by simp)).alloc _, Blk.new' _ _ _ (by simp), (((Below.refl _ _).alloc (Nat.le_refl _) _).alloc (by simp) _).alloc (by simp; omega) _⟩
  have hhN := HN.out
  rw [← hhN]
  clear hhN
  rintro W0 hI
  by_cases hf : bs.length ≤ 400
  · have tf : decide (bs.length ≤ 400) = true := by simpa using hf
    go_upto_region 3 with (first
      | (go_at_call 10; refine (law_few _ _ _ _ _ hbl _).mono ?_; rintro e w2 ⟨rfl, hb2⟩)
      | (go_at_call 9; refine (awake10 _).mono ?_; rintro e w1 ⟨rfl, hb1⟩; have hI1 := hI.below hb1; have p0 := hI1.bP.cell 0; have p1 := hI1.bP.cell 1; have p2 := hI1.bP.cell 2))
    have hI2 := hI1.below hb2
    clear hb1 hb2 hI hI1 p0 p1 p2
    have hwl := Pl.winR_len (bs := bs) c r0 a b h d
    have hw64 := Pl.winR_right h64 c r0 a b h d
    have hpl := Pl.pntR_len bs q c r0 a b h d
    have hp64 := Pl.pntR_right h64 hq c r0 a b h d
    have hc1 := fun W hA => win_fn c r0 (.slice bu bs.length cap) bs h64 a b h d W hA
    have hc2 := fun W hA => ref_win_fn c r0 (.slice bu bs.length cap) bs h64 a b h d W hA
    have hc3 := fun W hA => pnt_fn c r0 (.slice bu bs.length cap) bs h64 a b h d W hA q hq
    have hc4 := fun W hA => ref_pnt_fn c r0 (.slice bu bs.length cap) bs h64 a b h d W hA q hq
    generalize Pl.winR c r0 bs a b h d = R at *
    generalize Pl.pntR c r0 bs q a b h d = T at *
    have hGm : ∀ W W', Wb N ⟨c, r0, .slice bu bs.length cap, bs⟩ ⟨a, b, h, d⟩ q w W → Below W.heap.size W W' → Wb N ⟨c, r0, .slice bu bs.length cap, bs⟩ ⟨a, b, h, d⟩ q w W' := fun W W' h hb => h.below hb
    refine wp_region_late [6] [0, 1, 2, 3, 4, 5, 6, 7] [8, 9] (fun W => Wb N ⟨c, r0, .slice bu bs.length cap, bs⟩ ⟨a, b, h, d⟩ q w W)
      (fun | 2 => some (sFix (.agg #[.int .i64 a, .int .i64 b, .int .i64 h, .int .i64 d])) | 3 => some (sRel (shRes R) (fRes R)) | 7 => some (sNew #[.int .i64 0, .int .i64 0, .slice none 0 0] 24) | _ => none)
      (fun _ => []) (by kernel_rfl) (by kernel_rfl) (by intro j hj; simp at hj; subst hj; rfl) (hI2.below (Below.refl _ _).drew) ?_ ?_
    · intro i s hs
      match i with
      | 2 => cases hs; exact fun _ _ => sFix_mono _ _ _
      | 3 => cases hs; exact fun _ _ => fRes_mono _ _
      | 7 => cases hs; exact fun _ _ => sNew_mono _ _ _ _
    simp only [pick, List.getD_cons_succ, List.getD_cons_zero, List.zip_cons_cons, List.zip_nil_right]
    refine mono_pure (by rfl) rfl (fun w1 hG => run_exec_load_row 24 _ rfl N rfl 24 _ _ hG.bP Try.underlying24 rfl (by kernel_rfl)) ?_
    simp only [Act.put, List.setIfInBounds_toArray, List.set_cons_zero, List.set_cons_succ]
    refine mono_pure (by rfl) rfl (fun w1 hG => run_exec_load_row 36 _ rfl (N + 1) rfl 36 _ _ hG.bR Try.underlying36 rfl (by kernel_rfl)) ?_
    simp only [Act.put, List.setIfInBounds_toArray, List.set_cons_zero, List.set_cons_succ]
    refine mono_fix (.agg #[.int .i64 a, .int .i64 b, .int .i64 h, .int .i64 d]) (by rfl) rfl hGm (by intro w hG; go_simp; first | done | exact ⟨rfl, rfl⟩) (fun w1 hG hH => law_of10 a b h d w1) ?_
    simp only [Act.put, List.setIfInBounds_toArray, List.set_cons_zero, List.set_cons_succ]
    refine mono_rel (shRes R) (fRes R) (by rfl) rfl hGm (by intro w hG; go_simp; first | done | exact ⟨rfl, rfl⟩) ⟨_, none, 0, rfl⟩ (fun w1 hG hH => ?_) (fun v3 hv3 => ?_)
    · refine (hc1 w1 (hA.below (by rw [← HN.out]; exact hG.hB))).mono ?_
      rintro e w2 ⟨hR, hb⟩
      obtain ⟨v, e1, e2, e3⟩ := hR.rel w2.heap.size
      exact ⟨v, e1, e2, hb, e3⟩
    obtain ⟨bv, cv, rfl⟩ := hv3
    simp only [Act.put, List.setIfInBounds_toArray, List.set_cons_zero, List.set_cons_succ]
    (repeat (first | (refine mono_skip (by rfl) ?_; simp only [Act.put, List.setIfInBounds_toArray, List.set_cons_zero, List.set_cons_succ]) | (refine mono_pure (v := ?_) (by rfl) rfl ?_ ?_; rotate_left; (intro wS hS; go_simp; try with_reducible rfl); simp only [Act.put, List.setIfInBounds_toArray, List.set_cons_zero, List.set_cons_succ])))
    refine mono_alloc #[.int .i64 0, .int .i64 0, .slice none 0 0] 24 (by rfl) rfl hGm (by intro w; go_simp; try with_reducible rfl) ?_
    intro g1
    simp only [Act.put, List.setIfInBounds_toArray, List.set_cons_zero, List.set_cons_succ]
    refine mono_nil ?_
    rintro w3 hG ⟨_, I, hI1, _⟩
    obtain ⟨hg0, hg1, hg2, g', hge, hg3, -, hgb⟩ := hI1 7 _ (upd_self _ _ _)
    obtain rfl : g1 = g' := by simpa using hge
    obtain ⟨hq0, hq1, hq2, uu, hue, hRr⟩ := hI1 3 _ rfl
    obtain rfl : uu = .slice bv R.l.length cv := by simpa using hue.symm
    have hNg : N < g1 := Nat.lt_of_lt_of_le hI2.bP.lt (Nat.le_trans hg0 hg3)
    have hRN := hRr.down (lo' := N) (Nat.le_trans hI2.hN hq0)
    go_wp2_with (refine wpList_store_row rfl 24 _ _ rfl g1 _ rfl rfl 24 _ hgb (by kernel_rfl) rfl (by simp [Value.oneCell']) ?_)
    refine onlyN_intro ?_
    go_upto_region 4 with fail
    refine wp_world (fun W => Wb N ⟨c, r0, .slice bu bs.length cap, bs⟩ ⟨a, b, h, d⟩ q w W ∧ Res N g1 R (.slice bv R.l.length cv) W) ⟨hG.put hgb hNg _, Res.new hgb hRN⟩ ?_
    clear hG hgb hRr hRN hI1 hc1 hGm hI2 hq0 hq1 hq2 hg0 hg1 hg2 hg3
    rintro W4 ⟨hI, h1⟩
    have hw2 := hc2 W4 (hA.below (by rw [← HN.out]; exact hI.hB))
    go_upto_region 5 with (first
      | (refine wpList_load_row rfl 24 _ rfl N rfl 24 _ _ _ hI.bP Try.underlying24 rfl (by kernel_rfl) ?_)
      | (refine wpList_load_row rfl 36 _ rfl (N + 1) rfl 36 _ _ _ hI.bR Try.underlying36 rfl (by kernel_rfl) ?_)
      | (refine wpList_store_row rfl 24 _ _ rfl g2 _ (by rw [G2.out]; rfl) rfl 24 _ (Blk.new' _ _ _ G2.out) (by kernel_rfl) rfl (by simp [Value.oneCell']) ?_)
      | (go_at_call 22; refine hw2.mono ?_; rintro e w5 ⟨⟨v, rfl, hR⟩, hb5⟩; obtain ⟨bv2, cv2, rfl⟩ := hR.len; obtain ⟨g2, hg2⟩ : ∃ g, g = w5.heap.size := ⟨_, rfl⟩; have G2 := Lib.hid hg2; clear hg2))
    refine wp_world (fun W => (Wb N ⟨c, r0, .slice bu bs.length cap, bs⟩ ⟨a, b, h, d⟩ q w W ∧ Res N g1 R (.slice bv R.l.length cv) W) ∧ Res N g2 R (.slice bv2 R.l.length cv2) W) ?_ ?_
    · have hg := (Below.refl w5.heap.size w5).alloc (Nat.le_refl _) (.cells #[.int .i64 0, .int .i64 0, .slice none 0 0] 24)
      have hk := Blk.new' w5 #[.int .i64 0, .int .i64 0, .slice none 0 0] 24 G2.out
      have hsz := hb5.size
      have e2 := G2.out
      exact ⟨⟨((hI.below hb5).below hg).put hk (by have := hI.bP.lt; omega) _, ((h1.below hb5).below hg).put hk (by have := h1.box.lt; omega) _⟩, Res.new hk ((hR.grow hg).down hI.hN)⟩
    rw [← G2.out]
    clear hI h1 hw2 hc2 hR hb5
    rintro W6 ⟨⟨hI, h1⟩, h2⟩
    have hGm : ∀ W W', ((Wb N ⟨c, r0, .slice bu bs.length cap, bs⟩ ⟨a, b, h, d⟩ q w W ∧ Res N g1 R (.slice bv R.l.length cv) W) ∧ Res N g2 R (.slice bv2 R.l.length cv2) W) → Below W.heap.size W W' → ((Wb N ⟨c, r0, .slice bu bs.length cap, bs⟩ ⟨a, b, h, d⟩ q w W' ∧ Res N g1 R (.slice bv R.l.length cv) W') ∧ Res N g2 R (.slice bv2 R.l.length cv2) W') := fun W W' h hb => ⟨⟨h.1.1.below hb, h.1.2.below hb⟩, h.2.below hb⟩
    refine wp_region_late [7] [0, 1, 2, 3, 4, 5, 6, 7, 8] [9, 10] (fun W => (Wb N ⟨c, r0, .slice bu bs.length cap, bs⟩ ⟨a, b, h, d⟩ q w W ∧ Res N g1 R (.slice bv R.l.length cv) W) ∧ Res N g2 R (.slice bv2 R.l.length cv2) W)
      (fun | 2 => some (sFix (.agg #[.int .i64 a, .int .i64 b, .int .i64 h, .int .i64 d])) | 4 => some (sRel (shRes T) (fRes T)) | 8 => some (sNew #[.int .i64 0, .int .i64 0, .slice none 0 0] 24) | _ => none)
      (fun _ => []) (by kernel_rfl) (by kernel_rfl) (by intro j hj; simp at hj; subst hj; rfl) (hGm _ _ ⟨⟨hI, h1⟩, h2⟩ (Below.refl _ _).drew) ?_ ?_
    · intro i s hs
      match i with
      | 2 => cases hs; exact fun _ _ => sFix_mono _ _ _
      | 4 => cases hs; exact fun _ _ => fRes_mono _ _
      | 8 => cases hs; exact fun _ _ => sNew_mono _ _ _ _
    simp only [pick, List.getD_cons_succ, List.getD_cons_zero, List.zip_cons_cons, List.zip_nil_right]
    refine mono_pure (by rfl) rfl (fun w1 hG => run_exec_load_row 24 _ rfl N rfl 24 _ _ hG.1.1.bP Try.underlying24 rfl (by kernel_rfl)) ?_
    simp only [Act.put, List.setIfInBounds_toArray, List.set_cons_zero, List.set_cons_succ]
    refine mono_pure (by rfl) rfl (fun w1 hG => run_exec_load_row 36 _ rfl (N + 1) rfl 36 _ _ hG.1.1.bR Try.underlying36 rfl (by kernel_rfl)) ?_
    simp only [Act.put, List.setIfInBounds_toArray, List.set_cons_zero, List.set_cons_succ]
    refine mono_fix (.agg #[.int .i64 a, .int .i64 b, .int .i64 h, .int .i64 d]) (by rfl) rfl hGm (by intro w hG; go_simp; first | done | exact ⟨rfl, rfl⟩) (fun w1 hG hH => law_of10 a b h d w1) ?_
    simp only [Act.put, List.setIfInBounds_toArray, List.set_cons_zero, List.set_cons_succ]
    refine mono_pure (by rfl) rfl (fun w1 hG => run_exec_load_row 34 _ rfl (N + 1 + 1) rfl 34 _ _ hG.1.1.bX Try.underlying34 rfl (by rw [ints_size, hq]; kernel_rfl)) ?_
    simp only [Act.put, List.setIfInBounds_toArray, List.set_cons_zero, List.set_cons_succ]
    refine mono_rel (shRes T) (fRes T) (by rfl) rfl hGm (by intro w hG; go_simp; first | done | exact ⟨rfl, rfl⟩) ⟨_, none, 0, rfl⟩ (fun w1 hG hH => ?_) (fun v3 hv3 => ?_)
    · refine (hc3 w1 (hA.below (by rw [← HN.out]; exact hG.1.1.hB))).mono ?_
      rintro e w2 ⟨hR, hb⟩
      obtain ⟨v, e1, e2, e3⟩ := hR.rel w2.heap.size
      exact ⟨v, e1, e2, hb, e3⟩
    obtain ⟨bv3, cv3, rfl⟩ := hv3
    simp only [Act.put, List.setIfInBounds_toArray, List.set_cons_zero, List.set_cons_succ]
    (repeat (first | (refine mono_skip (by rfl) ?_; simp only [Act.put, List.setIfInBounds_toArray, List.set_cons_zero, List.set_cons_succ]) | (refine mono_pure (v := ?_) (by rfl) rfl ?_ ?_; rotate_left; (intro wS hS; go_simp; try with_reducible rfl); simp only [Act.put, List.setIfInBounds_toArray, List.set_cons_zero, List.set_cons_succ])))
    refine mono_alloc #[.int .i64 0, .int .i64 0, .slice none 0 0] 24 (by rfl) rfl hGm (by intro w; go_simp; try with_reducible rfl) ?_
    intro g3
    simp only [Act.put, List.setIfInBounds_toArray, List.set_cons_zero, List.set_cons_succ]
    refine mono_nil ?_
    rintro w3 hG ⟨_, I, hI1, _⟩
    obtain ⟨hg0, hg1, hg2, g', hge, hg3, -, hgb⟩ := hI1 8 _ (upd_self _ _ _)
    obtain rfl : g3 = g' := by simpa using hge
    obtain ⟨hq0, hq1, hq2, uu, hue, hRr⟩ := hI1 4 _ rfl
    obtain rfl : uu = .slice bv3 T.l.length cv3 := by simpa using hue.symm
    have hlo := Nat.le_trans hg0 hg3
    have hRN := hRr.down (lo' := N) (Nat.le_trans hI.hN hq0)
    go_wp2_with (refine wpList_store_row rfl 24 _ _ rfl g3 _ rfl rfl 24 _ hgb (by kernel_rfl) rfl (by simp [Value.oneCell']) ?_)
    refine onlyN_intro ?_
    go_upto_region 6 with fail
    refine wp_world (fun W => ((Wb N ⟨c, r0, .slice bu bs.length cap, bs⟩ ⟨a, b, h, d⟩ q w W ∧ Res N g1 R (.slice bv R.l.length cv) W) ∧ Res N g2 R (.slice bv2 R.l.length cv2) W) ∧ Res N g3 T (.slice bv3 T.l.length cv3) W) ⟨⟨⟨hG.1.1.put hgb (Nat.lt_of_lt_of_le hI.bP.lt hlo) _, hG.1.2.put hgb (Nat.lt_of_lt_of_le h1.box.lt hlo) _⟩, hG.2.put hgb (Nat.lt_of_lt_of_le h2.box.lt hlo) _⟩, Res.new hgb hRN⟩ ?_
    clear hG hgb hRr hRN hI1 hc3 hGm hI h1 h2 hq0 hq1 hq2 hg0 hg1 hg2 hg3 hlo
    rintro W7 ⟨⟨⟨hI, h1⟩, h2⟩, h3⟩
    have hw4 := hc4 W7 (hA.below (by rw [← HN.out]; exact hI.hB))
    go_upto_region 7 with (first
      | (refine wpList_load_row rfl 24 _ rfl N rfl 24 _ _ _ hI.bP Try.underlying24 rfl (by kernel_rfl) ?_)
      | (refine wpList_load_row rfl 36 _ rfl (N + 1) rfl 36 _ _ _ hI.bR Try.underlying36 rfl (by kernel_rfl) ?_)
      | (refine wpList_load_row rfl 34 _ rfl (N + 1 + 1) rfl 34 _ _ _ hI.bX Try.underlying34 rfl (by rw [ints_size, hq]; kernel_rfl) ?_)
      | (refine wpList_store_row rfl 24 _ _ rfl g4 _ (by rw [G4.out]; rfl) rfl 24 _ (Blk.new' _ _ _ G4.out) (by kernel_rfl) rfl (by simp [Value.oneCell']) ?_)
      | (go_at_call 24; refine hw4.mono ?_; rintro e w8 ⟨⟨v, rfl, hR⟩, hb8⟩; obtain ⟨bv4, cv4, rfl⟩ := hR.len; obtain ⟨g4, hg4⟩ : ∃ g, g = w8.heap.size := ⟨_, rfl⟩; have G4 := Lib.hid hg4; clear hg4))
    refine wp_world (fun W => (((Wb N ⟨c, r0, .slice bu bs.length cap, bs⟩ ⟨a, b, h, d⟩ q w W ∧ Res N g1 R (.slice bv R.l.length cv) W) ∧ Res N g2 R (.slice bv2 R.l.length cv2) W) ∧ Res N g3 T (.slice bv3 T.l.length cv3) W) ∧ Res N g4 T (.slice bv4 T.l.length cv4) W) ?_ ?_
    · have hg := (Below.refl w8.heap.size w8).alloc (Nat.le_refl _) (.cells #[.int .i64 0, .int .i64 0, .slice none 0 0] 24)
      have hk := Blk.new' w8 #[.int .i64 0, .int .i64 0, .slice none 0 0] 24 G4.out
      have hsz := hb8.size
      have e2 := G4.out
      exact ⟨⟨⟨⟨((hI.below hb8).below hg).put hk (by have := hI.bP.lt; omega) _, ((h1.below hb8).below hg).put hk (by have := h1.box.lt; omega) _⟩, ((h2.below hb8).below hg).put hk (by have := h2.box.lt; omega) _⟩, ((h3.below hb8).below hg).put hk (by have := h3.box.lt; omega) _⟩, Res.new hk ((hR.grow hg).down hI.hN)⟩
    rw [← G4.out]
    clear hI h1 h2 h3 hw4 hc4 hR hb8
    rintro W9 hS0
    obtain ⟨S, hSd⟩ : ∃ S : World → Prop, S = fun W => (((Wb N ⟨c, r0, .slice bu bs.length cap, bs⟩ ⟨a, b, h, d⟩ q w W ∧ Res N g1 R (.slice bv R.l.length cv) W) ∧ Res N g2 R (.slice bv2 R.l.length cv2) W) ∧ Res N g3 T (.slice bv3 T.l.length cv3) W) ∧ Res N g4 T (.slice bv4 T.l.length cv4) W := ⟨_, rfl⟩
    have hS1 : ∀ W, S W → Wb N ⟨c, r0, .slice bu bs.length cap, bs⟩ ⟨a, b, h, d⟩ q w W := fun W hS => by rw [hSd] at hS; exact hS.1.1.1.1
    have hS2 : ∀ W, S W → Res N g1 R (.slice bv R.l.length cv) W := fun W hS => by rw [hSd] at hS; exact hS.1.1.1.2
    have hS3 : ∀ W, S W → Res N g2 R (.slice bv2 R.l.length cv2) W := fun W hS => by rw [hSd] at hS; exact hS.1.1.2
    have hS4 : ∀ W, S W → Res N g3 T (.slice bv3 T.l.length cv3) W := fun W hS => by rw [hSd] at hS; exact hS.1.2
    have hS5 : ∀ W, S W → Res N g4 T (.slice bv4 T.l.length cv4) W := fun W hS => by rw [hSd] at hS; exact hS.2
    have hGm : ∀ W W', S W → Below W.heap.size W W' → S W' := fun W W' hS hb => by rw [hSd] at hS ⊢; exact ⟨⟨⟨⟨hS.1.1.1.1.below hb, hS.1.1.1.2.below hb⟩, hS.1.1.2.below hb⟩, hS.1.2.below hb⟩, hS.2.below hb⟩
    have hS0' : S W9 := by rw [hSd]; exact hS0
    clear hS0 hSd
    have hA' : ∀ W, S W → Ar W 64 (.slice bu bs.length cap) bs.length (bcells bs) := fun W hS => hA.below (by rw [← HN.out]; exact (hS1 W hS).hB)
    refine wp_region_det S (by kernel_rfl) (by kernel_rfl) (hGm _ _ hS0' (Below.refl _ _).drew) ?_
    refine det_load_row (by rfl) 24 _ rfl N rfl 24 _ _ (fun w1 hS => (hS1 w1 hS).bP) Try.underlying24 rfl (by kernel_rfl) ?_
    simp only [Act.put, List.setIfInBounds_toArray, List.set_cons_zero, List.set_cons_succ]
    refine det_call (v := .bool (Pl.right c r0 bs.length)) (by rfl) (by intro wS hS; go_simp; first | done | exact ⟨rfl, rfl⟩) (fun W hS => (plane_right c r0 bs.length bu cap W).mono fun e w' hh => ⟨hh.1, hGm _ _ hS hh.2⟩) ?_
    simp only [Act.put, List.setIfInBounds_toArray, List.set_cons_zero, List.set_cons_succ]
    refine det_load_row (by rfl) 24 _ rfl N rfl 24 _ _ (fun w1 hS => (hS1 w1 hS).bP) Try.underlying24 rfl (by kernel_rfl) ?_
    simp only [Act.put, List.setIfInBounds_toArray, List.set_cons_zero, List.set_cons_succ]
    refine det_call (v := .bool (Pl.right c r0 bs.length)) (by rfl) (by intro wS hS; go_simp; first | done | exact ⟨rfl, rfl⟩) (fun W hS => (ref_right c r0 bs.length bu cap W).mono fun e w' hh => ⟨hh.1, hGm _ _ hS hh.2⟩) ?_
    simp only [Act.put, List.setIfInBounds_toArray, List.set_cons_zero, List.set_cons_succ]
    (repeat (first | (refine det_skip (by rfl) ?_; simp only [Act.put, List.setIfInBounds_toArray, List.set_cons_zero, List.set_cons_succ]) | (refine det_pure (v := ?_) (by rfl) ?_ ?_; rotate_left; (intro wS hS; go_simp; try with_reducible rfl); simp only [Act.put, List.setIfInBounds_toArray, List.set_cons_zero, List.set_cons_succ])))
    refine det_load_row (by rfl) 24 _ rfl g1 rfl 24 _ _ (fun w1 hS => (hS2 w1 hS).box) Try.underlying24 rfl (by kernel_rfl) ?_
    simp only [Act.put, List.setIfInBounds_toArray, List.set_cons_zero, List.set_cons_succ]
    refine det_load_row (by rfl) 24 _ rfl g2 rfl 24 _ _ (fun w1 hS => (hS3 w1 hS).box) Try.underlying24 rfl (by kernel_rfl) ?_
    simp only [Act.put, List.setIfInBounds_toArray, List.set_cons_zero, List.set_cons_succ]
    refine det_call (v := .bool true) (by rfl) (by intro wS hS; go_simp; first | done | exact ⟨rfl, rfl⟩) (fun W hS => ?_) ?_
    · refine (ref_same R.c R.r R.c R.r _ _ R.l R.l hw64 hw64 W (hS2 W hS).row.ar (hS3 W hS).row.ar (by omega)).mono fun e w' hh => ⟨?_, hGm _ _ hS hh.2⟩
      rw [hh.1, decide_eq_true ⟨rfl, rfl, rfl⟩]
    simp only [Act.put, List.setIfInBounds_toArray, List.set_cons_zero, List.set_cons_succ]
    (repeat (first | (refine det_skip (by rfl) ?_; simp only [Act.put, List.setIfInBounds_toArray, List.set_cons_zero, List.set_cons_succ]) | (refine det_pure (v := ?_) (by rfl) ?_ ?_; rotate_left; (intro wS hS; go_simp; try with_reducible rfl); simp only [Act.put, List.setIfInBounds_toArray, List.set_cons_zero, List.set_cons_succ])))
    refine det_load_row (by rfl) 24 _ rfl g3 rfl 24 _ _ (fun w1 hS => (hS4 w1 hS).box) Try.underlying24 rfl (by kernel_rfl) ?_
    simp only [Act.put, List.setIfInBounds_toArray, List.set_cons_zero, List.set_cons_succ]
    refine det_load_row (by rfl) 24 _ rfl g4 rfl 24 _ _ (fun w1 hS => (hS5 w1 hS).box) Try.underlying24 rfl (by kernel_rfl) ?_
    simp only [Act.put, List.setIfInBounds_toArray, List.set_cons_zero, List.set_cons_succ]
    refine det_call (v := .bool true) (by rfl) (by intro wS hS; go_simp; first | done | exact ⟨rfl, rfl⟩) (fun W hS => ?_) ?_
    · refine (ref_same T.c T.r T.c T.r _ _ T.l T.l hp64 hp64 W (hS4 W hS).row.ar (hS5 W hS).row.ar (by omega)).mono fun e w' hh => ⟨?_, hGm _ _ hS hh.2⟩
      rw [hh.1, decide_eq_true ⟨rfl, rfl, rfl⟩]
    simp only [Act.put, List.setIfInBounds_toArray, List.set_cons_zero, List.set_cons_succ]
    (repeat (first | (refine det_skip (by rfl) ?_; simp only [Act.put, List.setIfInBounds_toArray, List.set_cons_zero, List.set_cons_succ]) | (refine det_pure (v := ?_) (by rfl) ?_ ?_; rotate_left; (intro wS hS; go_simp; try with_reducible rfl); simp only [Act.put, List.setIfInBounds_toArray, List.set_cons_zero, List.set_cons_succ])))
    refine det_load_row (by rfl) 24 _ rfl N rfl 24 _ _ (fun w1 hS => (hS1 w1 hS).bP) Try.underlying24 rfl (by kernel_rfl) ?_
    simp only [Act.put, List.setIfInBounds_toArray, List.set_cons_zero, List.set_cons_succ]
    refine det_load_row (by rfl) 24 _ rfl g3 rfl 24 _ _ (fun w1 hS => (hS4 w1 hS).box) Try.underlying24 rfl (by kernel_rfl) ?_
    simp only [Act.put, List.setIfInBounds_toArray, List.set_cons_zero, List.set_cons_succ]
    obtain ⟨D, hD⟩ : ∃ D : Bool, decide (c = T.c ∧ r0 = T.r ∧ bs = T.l) = D := ⟨_, rfl⟩
    refine det_call (v := .bool D) (by rfl) (by intro wS hS; go_simp; first | done | exact ⟨rfl, rfl⟩) (fun W hS => ?_) ?_
    · refine (plane_same c r0 T.c T.r _ _ bs T.l h64 hp64 W (hA' W hS) (hS4 W hS).row.ar (by omega)).mono fun e w' hh => ⟨?_, hGm _ _ hS hh.2⟩
      rw [hh.1, hD]
    simp only [Act.put, List.setIfInBounds_toArray, List.set_cons_zero, List.set_cons_succ]
    refine det_load_row (by rfl) 24 _ rfl N rfl 24 _ _ (fun w1 hS => (hS1 w1 hS).bP) Try.underlying24 rfl (by kernel_rfl) ?_
    simp only [Act.put, List.setIfInBounds_toArray, List.set_cons_zero, List.set_cons_succ]
    refine det_load_row (by rfl) 24 _ rfl g3 rfl 24 _ _ (fun w1 hS => (hS4 w1 hS).box) Try.underlying24 rfl (by kernel_rfl) ?_
    simp only [Act.put, List.setIfInBounds_toArray, List.set_cons_zero, List.set_cons_succ]
    refine det_call (v := .bool D) (by rfl) (by intro wS hS; go_simp; first | done | exact ⟨rfl, rfl⟩) (fun W hS => ?_) ?_
    · refine (ref_same c r0 T.c T.r _ _ bs T.l h64 hp64 W (hA' W hS) (hS4 W hS).row.ar (by omega)).mono fun e w' hh => ⟨?_, hGm _ _ hS hh.2⟩
      rw [hh.1, hD]
    clear hD
    simp only [Act.put, List.setIfInBounds_toArray, List.set_cons_zero, List.set_cons_succ]
    (repeat (first | (refine det_skip (by rfl) ?_; simp only [Act.put, List.setIfInBounds_toArray, List.set_cons_zero, List.set_cons_succ]) | (refine det_pure (v := ?_) (by rfl) ?_ ?_; rotate_left; (intro wS hS; go_simp; try with_reducible rfl); simp only [Act.put, List.setIfInBounds_toArray, List.set_cons_zero, List.set_cons_succ])))
    refine det_nil ?_
    intro W10 hS
    have hB := (hS1 W10 hS).hB
    clear hS1 hS2 hS3 hS4 hS5 hGm hA'
    go_wp2_with fail
    go_ret
    exact ⟨rfl, hB⟩
  · have tf : decide (bs.length ≤ 400) = false := by simpa using hf
    go_upto_region 2 with (first
      | (go_at_call 10; refine (law_few _ _ _ _ _ hbl _).mono ?_; rintro e w2 ⟨rfl, hb2⟩)
      | (go_at_call 9; refine (awake10 _).mono ?_; rintro e w1 ⟨rfl, hb1⟩; have hI1 := hI.below hb1; have p0 := hI1.bP.cell 0; have p1 := hI1.bP.cell 1; have p2 := hI1.bP.cell 2))
    have hI2 := hI1.below hb2
    go_wp2_with (go_at_call 9; refine (awake10 _).mono ?_; rintro e w3 ⟨rfl, hb3⟩)
    go_ret
    exact ⟨rfl, (hI2.below hb3).hB⟩
end planeCuts
theorem planeCuts.core (v0 : Value) (a0 : PlaneArg) (v1 : Value) (a1 : RectArg) (a2 : List Int) (l2 : a2.length = 64) (_w2 : ∀ y ∈ a2, (Lit.int .i16 y).wf = true) (W : World) (s0 : IsPlane W v0 a0) (s1 : IsRect W v1 a1) :
    Calls Try.prog 6 #[v0, v1, .agg (ints .i16 a2)] W fun e w' => e = .returned (.bool true) ∧ Below W.heap.size W w' := planeCuts.walk a0 a1 a2 v0 v1 W l2 s0 s1
end Go.Proofs.Ytpjocfcemjdneaa
