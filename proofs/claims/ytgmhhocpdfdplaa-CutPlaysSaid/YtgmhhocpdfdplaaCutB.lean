/- Package cut: units; the reference's Begins. -/
import Derived.Test.YtgmhhocpdfdplaaCutA
namespace Go.Proofs.Ytgmhhocpdfdplaa
open Go.RowKit
set_option maxRecDepth 100000
set_option maxHeartbeats 4000000
/-- The error of a rectangle that should begin at a unit. -/
def unE (x : ImgArg) (X Y W H : Int) : Int := if wiE x X Y W H = 0 then (if X % uwI x = 0 ∧ Y % uhI x = 0 then 0 else 13) else wiE x X Y W H
/-- Its units. -/
def unA (x : ImgArg) (Y : Int) : Int := Y / uhI x
def unB (x : ImgArg) (X : Int) : Int := X / uwI x
def unV (x : ImgArg) (X Y W H : Int) : Array Value := if unE x X Y W H = 0 then #[.int .i64 (unA x Y), .int .i64 (unB x X), .int .i64 (upI H (uhI x)), .int .i64 (upI W (uwI x))] else #[.int .i64 0, .int .i64 0, .int .i64 0, .int .i64 0]
theorem wiE_zero {x : ImgArg} {X Y W H : Int} (h : wiE x X Y W H = 0) : imgE x = 0 ∧ (0 ≤ X ∧ 1 ≤ W ∧ X < x.w ∧ W ≤ x.w - X) ∧ 0 ≤ Y ∧ 1 ≤ H ∧ Y < x.h ∧ H ≤ x.h - Y := by
  unfold wiE at h
  by_cases h0 : imgE x = 0
  · rw [if_pos h0] at h
    split at h
    · rename_i hh
      exact ⟨h0, of_decide_eq_true hh.1, of_decide_eq_true hh.2⟩
    · cases h
  · rw [if_neg h0] at h
    exact absurd h h0
theorem cut_units (x : ImgArg) (hf : FewOk x) (X Y W H : Int) (w : World) (h : IsImg w x.val x) :
    Calls Try.prog 85 #[x.val, .agg #[.int .i64 X, .int .i64 Y, .int .i64 W, .int .i64 H]] w fun r w' => r = .returned (.tuple #[.agg (unV x X Y W H), .int .i64 (unE x X Y W H)]) ∧ Below w.heap.size w w' := by
  obtain ⟨E, hE⟩ : ∃ E, unE x X Y W H = E := ⟨_, rfl⟩
  obtain ⟨vs, hvs⟩ : ∃ vs, unV x X Y W H = vs := ⟨_, rfl⟩
  rw [hE, hvs]
  unfold unV at hvs
  rw [hE] at hvs
  unfold unE at hE
  have HE := Lib.hid hE
  have HVS := Lib.hid hvs
  have hL := LR.begin h X Y W H 73
  obtain ⟨N, hN⟩ : ∃ N, N = w.heap.size := ⟨_, rfl⟩
  rw [← hN] at hL
  have HN := Lib.hid hN
  have hr := fun V h => cut_within x hf X Y W H V h
  obtain ⟨e, he⟩ : ∃ e, wiE x X Y W H = e := ⟨_, rfl⟩
  rw [he] at hr
  have HEE := Lib.hid he
  have hfr := fun V h => img_frame x V h hf.c20
  unfold ImgArg.val at *
  clear hN h hE hvs he
  go_enter Try.func85, Try.ntmps85
  go_upto_region 1 with fail
  refine wp_world (fun V => LR N x X Y W H 73 w V ∧ Blk V (N + 2) #[.int .i64 0, .int .i64 0, .int .i64 0, .int .i64 0] 70) ⟨hL.below ((Below.refl _ _).alloc (Nat.le_refl _) _), Blk.new' _ _ _ (by rw [HN.out]; simp)⟩ ?_
  rw [← HN.out]
  clear hL
  rintro V ⟨hL, bQ⟩
  have hNN := hL.l.hM
  go_upto_region 2 with (first
    | (refine wpList_load_row rfl 26 _ rfl N rfl 26 _ _ _ hL.l.bN Try.underlying26 rfl (by kernel_rfl) ?_)
    | (refine wpList_load_row rfl 73 _ rfl (N + 1) rfl 73 _ _ _ hL.bR Try.underlying73 rfl (by kernel_rfl) ?_)
    | (go_at_call 43; refine (hr _ hL.l.img).mono ?_; rintro r w3 ⟨rfl, hb3⟩; replace hL := hL.below hb3; replace bQ := bQ.below hb3 bQ.lt))
  clear hr hb3
  by_cases h0 : e = 0
  · subst h0
    obtain ⟨hi0, ⟨hX1, hX2, hX3, hX4⟩, hY1, hY2, hY3, hY4⟩ := wiE_zero HEE.out
    have hR := right_of_imgE hi0
    obtain ⟨hnw, hnh, hnu, hnv, -⟩ := hR.nums
    have hf0 := hR.fr
    rw [hf0] at hfr
    have HU1 := Lib.hid (show uwI x = 8 * hhN (partsOf (psOf x.cs)) from rfl)
    have HU2 := Lib.hid (show uhI x = 8 * vvN (partsOf (psOf x.cs)) from rfl)
    generalize 8 * hhN (partsOf (psOf x.cs)) = uw at *
    generalize 8 * vvN (partsOf (psOf x.cs)) = uh at *
    rw [HU1.out] at hnu
    rw [HU2.out] at hnv
    have hE := HE.out
    rw [HEE.out, if_pos rfl, HU1.out, HU2.out] at hE
    have hvs := HVS.out
    unfold unA unB at hvs
    rw [HU1.out, HU2.out] at hvs
    clear HE HVS hi0 hR hf0 HEE
    have HE := Lib.hid hE
    have HVS := Lib.hid hvs
    clear hE hvs
    generalize acN x.w (partsOf (psOf x.cs)) = ac at *
    generalize dnN x.h (partsOf (psOf x.cs)) = dn at *
    go_upto_region 6 with (first
      | (refine wpList_load_row rfl 26 _ rfl N rfl 26 _ _ _ hL.l.bN Try.underlying26 rfl (by kernel_rfl) ?_)
      | (go_at_call 48; refine (hfr _ hL.l.img).mono ?_; rintro r w4 ⟨f, rfl, hb4, -, hf2⟩; obtain ⟨F, rfl, -, hFU⟩ := hf2 rfl; replace hL := hL.below hb4; replace bQ := bQ.below hb4 bQ.lt)
      | (go_at_call 49; refine (fr_unit F uw uh ac dn _ hFU).mono ?_; rintro r w5 ⟨rfl, hb5⟩; replace hL := hL.below hb5; replace bQ := bQ.below hb5 bQ.lt))
    clear hfr hf2 hFU hb4 hb5
    have r0 := hL.bR.cell 0; have r1 := hL.bR.cell 1; have r2 := hL.bR.cell 2; have r3 := hL.bR.cell 3
    have hu0 : uw ≠ 0 := by omega
    have hv0 : uh ≠ 0 := by omega
    have humm : uw ≠ -1 := by omega
    have hvmm : uh ≠ -1 := by omega
    by_cases hx : X % uw = 0
    · have tx : (X % uw != 0) = false := by simpa using hx
      by_cases hy : Y % uh = 0
      · have ty : (Y % uh != 0) = false := by simpa using hy
        obtain rfl : E = 0 := by rw [← HE.out]; exact if_pos ⟨hx, hy⟩
        have hvs := HVS.out
        rw [if_pos rfl] at hvs
        subst hvs
        clear HE HVS hx hy
        have hW16 : W ≤ 16384 := by omega
        have hH16 : H ≤ 16384 := by omega
        have hX16 : X ≤ 16384 := by omega
        have hY16 : Y ≤ 16384 := by omega
        have a1 : 0 ≤ Y / uh := Int.ediv_nonneg hY1 (by omega)
        have a2 : Y / uh ≤ Y := Int.ediv_le_self _ hY1
        have a3 : 0 ≤ X / uw := Int.ediv_nonneg hX1 (by omega)
        have a4 : X / uw ≤ X := Int.ediv_le_self _ hX1
        have a5 : 0 ≤ (H + uh - 1) / uh := Int.ediv_nonneg (by omega) (by omega)
        have a6 : (H + uh - 1) / uh ≤ H + uh - 1 := Int.ediv_le_self _ (by omega)
        have a7 : 0 ≤ (W + uw - 1) / uw := Int.ediv_nonneg (by omega) (by omega)
        have a8 : (W + uw - 1) / uw ≤ W + uw - 1 := Int.ediv_le_self _ (by omega)
        have h1 : 0 ≤ H + uh - 1 := by omega
        have h2 : 0 ≤ W + uw - 1 := by omega
        have e1 : IntKind.i64.wrap (H + uh) = H + uh := IntWalk.i64_in _ (by omega)
        have e2 : IntKind.i64.wrap (H + uh - 1) = H + uh - 1 := IntWalk.i64_in _ (by omega)
        have e3 : IntKind.i64.wrap (W + uw) = W + uw := IntWalk.i64_in _ (by omega)
        have e4 : IntKind.i64.wrap (W + uw - 1) = W + uw - 1 := IntWalk.i64_in _ (by omega)
        go_upto_region 8 with fail
        refine wp_region_mono [0, 1, 2, 3, 4, 5, 6, 7, 8, 9, 10, 11, 12, 13, 14, 15, 16, 17, 18, 19, 20, 21, 22] [23, 24] (fun V => LR N x X Y W H 73 w V ∧ Blk V (N + 2) #[.int .i64 0, .int .i64 0, .int .i64 0, .int .i64 0] 70) (fun _ => none) (fun _ => []) (by kernel_rfl) (by kernel_rfl) ⟨hL.below (Below.refl _ _).drew, bQ.drew⟩ ?_ ?_
        · intro i s hs; cases hs
        clear hL bQ r0 r1 r2 r3
        simp only [pick, List.getD_cons_succ, List.getD_cons_zero, List.zip_cons_cons, List.zip_nil_right]
        iterate 23 (first | (refine mono_skip (by rfl) ?_; simp only [Act.put, List.setIfInBounds_toArray, List.set_cons_zero, List.set_cons_succ]) | (refine mono_pure (v := ?_) (by rfl) rfl ?_ ?_; rotate_left; (intro wS hS; have r0 := hS.1.bR.cell 0; have r1 := hS.1.bR.cell 1; have r2 := hS.1.bR.cell 2; have r3 := hS.1.bR.cell 3; have n0 := hS.1.l.bN.cell 0; have n1 := hS.1.l.bN.cell 1; go_simp; try with_reducible rfl); simp only [Act.put, List.setIfInBounds_toArray, List.set_cons_zero, List.set_cons_succ]))
        refine mono_nil ?_
        rintro W9 ⟨hL, bQ⟩ -
        go_wp2_with (refine wpList_store_row rfl 70 _ _ rfl (N + 2) _ rfl rfl 70 _ bQ (by kernel_rfl) rfl (by simp [Value.oneCell']) ?_)
        refine bodyPost_ret (results_row_tmp rfl _ _ (N + 2) 70 _ _ rfl (bQ.row _) Try.underlying70 rfl (by kernel_rfl)) rfl ?_
        exact ⟨rfl, Below.setRow hL.hB (by omega) _⟩
      · have ty : (Y % uh != 0) = true := by simpa using hy
        obtain rfl : E = 13 := by rw [← HE.out]; exact if_neg (fun h => hy h.2)
        have hvs := HVS.out
        rw [if_neg (by decide)] at hvs
        subst hvs
        clear HE HVS hx hy
        go_wp2_with (refine wpList_store_row rfl 70 _ _ rfl (N + 2) _ rfl rfl 70 _ bQ (by kernel_rfl) rfl (by simp [Value.oneCell']) ?_)
        refine bodyPost_ret (results_row_tmp rfl _ _ (N + 2) 70 _ _ rfl (bQ.row _) Try.underlying70 rfl (by kernel_rfl)) rfl ?_
        exact ⟨rfl, Below.setRow hL.hB (by omega) _⟩
    · have tx : (X % uw != 0) = true := by simpa using hx
      obtain rfl : E = 13 := by rw [← HE.out]; exact if_neg (fun h => hx h.1)
      have hvs := HVS.out
      rw [if_neg (by decide)] at hvs
      subst hvs
      clear HE HVS hx
      go_wp2_with (refine wpList_store_row rfl 70 _ _ rfl (N + 2) _ rfl rfl 70 _ bQ (by kernel_rfl) rfl (by simp [Value.oneCell']) ?_)
      refine bodyPost_ret (results_row_tmp rfl _ _ (N + 2) 70 _ _ rfl (bQ.row _) Try.underlying70 rfl (by kernel_rfl)) rfl ?_
      exact ⟨rfl, Below.setRow hL.hB (by omega) _⟩
  · have hE := HE.out
    rw [HEE.out, if_neg h0] at hE
    subst hE
    have hvs := HVS.out
    rw [if_neg h0] at hvs
    subst hvs
    have t0 : (e != 0) = true := by simpa using h0
    clear HE HVS HEE h0 hfr
    go_wp2_with (refine wpList_store_row rfl 70 _ _ rfl (N + 2) _ rfl rfl 70 _ bQ (by kernel_rfl) rfl (by simp [Value.oneCell']) ?_)
    refine bodyPost_ret (results_row_tmp rfl _ _ (N + 2) 70 _ _ rfl (bQ.row _) Try.underlying70 rfl (by kernel_rfl)) rfl ?_
    exact ⟨rfl, Below.setRow hL.hB (by omega) _⟩
end Go.Proofs.Ytgmhhocpdfdplaa
