/- Package past's Push, walked. -/
import Derived.Test.YtcdfamllamjpeaaPast
import Derived.Test.YtcdfamllamjpeaaInert
namespace Go.Proofs.Ytcdfamllamjpeaa
open Go.RowKit
namespace Pa
/-- What holds while Push lays its entry. -/
def Gp (w : World) (b most : Nat) (u : Value) (l : List Ent) (N : Nat) (x : Ent) (W : World) : Prop :=
  At W b most u l ∧ Blk W N #[.int .i64 x.1, .int .i64 x.2.1, .int .i64 x.2.2] 29 ∧ Blk W (N+1) #[.int .i64 0, .int .i64 0, .int .i64 0] 29 ∧ Blk W (N+2) #[.int .i64 0, .int .i64 0, .int .i64 0] 29 ∧ Below N w W
theorem Gp.keep {w : World} {b most : Nat} {u : Value} {l : List Ent} {N : Nat} {x : Ent} {W W' : World} (h : Gp w b most u l N x W) (hb : Below W.heap.size W W') : Gp w b most u l N x W' := by
  obtain ⟨h1, h2, h3, h4, h5⟩ := h
  exact ⟨h1.below hb, h2.below hb h2.lt, h3.below hb h3.lt, h4.below hb h4.lt, h5.trans (hb.mono (by have := h2.lt; omega))⟩
end Pa
set_option maxRecDepth 100000 in
set_option maxHeartbeats 2000000 in
theorem past_push (b most : Nat) (u : Value) (x : Pa.Ent) (l : List Pa.Ent) (hl : l.length ≤ 100000) (w : World) (h : Pa.At w b most u l) :
    Calls Try.prog 10 #[.pointer (some ⟨b, 0, none⟩), Pa.val x] w fun e w' =>
      (most < l.length + 1 → ∀ y m, l ++ [x] = y :: m → e = .returned (.tuple #[Pa.val y, .bool true]) ∧ ∃ u', Pa.At w' b most u' m ∧ Chg (Pa.May b u) w w' ∧ ∀ g, u'.ownBlock = some g → u.ownBlock = some g ∨ w.heap.size ≤ g) ∧
      (l.length + 1 ≤ most → e = .returned (.tuple #[Pa.val (0, 0, 0), .bool false]) ∧ ∃ u', Pa.At w' b most u' (l ++ [x]) ∧ Chg (Pa.May b u) w w' ∧ ∀ g, u'.ownBlock = some g → u.ownBlock = some g ∨ w.heap.size ≤ g) := by
  obtain ⟨N, hN⟩ : ∃ N, N = w.heap.size := ⟨_, rfl⟩
  have HN := Lib.hid hN
  have hbN : b < N := by rw [hN]; exact h.box.lt
  have hgN : ∀ g, u.ownBlock = some g → g < N := fun g hg => by rw [hN]; exact (h.row.lt g hg).2
  rw [← hN]
  clear hN
  obtain ⟨bu, cu, rfl⟩ := h.row.len
  obtain ⟨x1, x2, x3⟩ := x
  unfold Pa.val
  go_enter Try.func10, Try.ntmps10
  go_upto_region 2 with fail
  refine wp_world (fun W => Blk W N #[.int .i64 x1, .int .i64 x2, .int .i64 x3] 29 ∧ Blk W (N+1) #[.int .i64 0, .int .i64 0, .int .i64 0] 29 ∧ Blk W (N+2) #[.int .i64 0, .int .i64 0, .int .i64 0] 29 ∧ Below N w W) ⟨?_, ?_, ?_, ?_⟩ ?_
  · exact ((Blk.new' _ _ _ HN.out).alloc _).alloc _
  · exact (Blk.new' _ _ _ (by rw [HN.out]; simp)).alloc _
  · exact Blk.new' _ _ _ (by rw [HN.out]; simp)
  · exact (((Below.refl _ _).alloc (by rw [HN.out]; exact Nat.le_refl _) _).alloc (by rw [HN.out]; simp) _).alloc (by rw [HN.out]; simp; omega) _
  rintro W0 ⟨b0, b1, b2, hB⟩
  rw [← HN.out]
  go_upto_region 4 with fail
  have hGm : ∀ W W', Pa.Gp w b most (.slice bu l.length cu) l N (x1, x2, x3) W → Below W.heap.size W W' → Pa.Gp w b most (.slice bu l.length cu) l N (x1, x2, x3) W' := fun W W' h hb => h.keep hb
  refine wp_region_in [0] [1, 2, 3, 4, 5, 6] [7, 8, 9, 10] (Pa.Gp w b most (.slice bu l.length cu) l N (x1, x2, x3))
    (fun | 6 => some (sSlice 1 #[.int .i64 x1, .int .i64 x2, .int .i64 x3] 29) | _ => none) (fun _ => []) (by kernel_rfl) (by kernel_rfl) ⟨⟨(h.box.below hB hbN).drew, (h.row.below hB.drew hgN)⟩, b0.drew, b1.drew, b2.drew, hB.drew⟩ ?_ ?_
  · intro i s hs
    match i with
    | 6 => cases hs; exact fun _ _ => sSlice_mono _ _ _ _ _
  clear b0 b1 b2 hB
  simp only [pick, List.getD_cons_succ, List.getD_cons_zero, List.zip_cons_cons, List.zip_nil_right]
  refine ins_step (.pointer (some ⟨b, 0, none⟩)) (by intro wS; go_simp; try rfl) ?_
  simp only [Act.put, List.setIfInBounds_toArray, List.set_cons_zero, List.set_cons_succ]
  refine ins_nil ?_
  (repeat (first | (refine mono_skip (by rfl) ?_; simp only [Act.put, List.setIfInBounds_toArray, List.set_cons_zero, List.set_cons_succ]) | (refine mono_pure (v := ?_) (by rfl) rfl ?_ ?_; rotate_left; (intro wS hS; go_simp; try with_reducible rfl); simp only [Act.put, List.setIfInBounds_toArray, List.set_cons_zero, List.set_cons_succ])))
  refine mono_pure (v := .slice bu l.length cu) (by rfl) rfl (fun w1 hG => by have cy := hG.1.box.cell 1; go_simp; try with_reducible rfl) ?_
  simp only [Act.put, List.setIfInBounds_toArray, List.set_cons_zero, List.set_cons_succ]
  refine mono_pure (by rfl) rfl (fun w1 hG => run_exec_load_row 29 _ rfl N rfl 29 _ _ hG.2.1 Try.underlying29 rfl (by kernel_rfl)) ?_
  simp only [Act.put, List.setIfInBounds_toArray, List.set_cons_zero, List.set_cons_succ]
  refine mono_slice 1 #[.int .i64 x1, .int .i64 x2, .int .i64 x3] 29 (by rfl) rfl hGm (by intro wS; go_simp; try rfl) (fun gs => ?_)
  simp only [Act.put, List.setIfInBounds_toArray, List.set_cons_zero, List.set_cons_succ]
  refine mono_nil ?_
  rintro w1 ⟨hAt, b0, b1, b2, hB⟩ ⟨hbs, I, hI1, hI2⟩
  obtain ⟨i1, i2, i3, ⟨g, hg, i4, i5, i6⟩⟩ := hI1 6 _ (upd_self _ _ _)
  obtain rfl : gs = g := by simpa using hg
  go_wp2_with (refine wpList_append_Row _ rfl _ _ 59 rfl 0 29 _ _ 3 24 rfl rfl rfl rfl rfl rfl _ _ _ rfl hAt.row _ 1 1 (Pa.ent (x1, x2, x3)) rfl (by omega) rfl (i6.cells) (by intro u hu; simp [Pa.ent] at hu; rcases hu with rfl | rfl | rfl <;> rfl) (by simp only [maxLen]; omega) (by omega) (by omega) (fun v' w2 hR1 hg hat => ?_); obtain ⟨bv, cv, rfl⟩ := hR1.len; have hne := (hAt.row.typed hAt.box (by decide)); have hbx := hAt.box.grown hg (fun e => hne _ e.symm rfl); have q1 := hbx.cell 1; have f1 := hbx.free 1)
  refine onlyN_intro ?_
  go_upto_region 5 with fail
  have hhg : w1.grownBy w2 (Value.slice bu l.length cu).ownBlock := hg
  have hhat : (Value.slice bv (l.length + 1) cv).ownBlock = (Value.slice bu l.length cu).ownBlock ∨ (Value.slice bv (l.length + 1) cv).ownBlock = some w1.heap.size := hat
  have hw1 : N ≤ w1.heap.size := by rw [HN.out]; exact hB.size
  have hN2 := b2.lt
  have nr : ∀ k, N ≤ k → some k ≠ (Value.slice bu l.length cu).ownBlock := fun k hk e => by have := hgN k e.symm; omega
  rw [Pa.cells_add] at hR1
  have hlen : (l ++ [((x1, x2, x3) : Pa.Ent)]).length = l.length + 1 := by simp
  have hv' : ∀ g, (Value.slice bv (l.length + 1) cv).ownBlock = some g → g ≠ b := fun g e => hR1.typed hbx (by decide) g e
  refine wp_world (fun W => Blk W (N+1) #[.int .i64 0, .int .i64 0, .int .i64 0] 29 ∧ Blk W (N+2) #[.int .i64 0, .int .i64 0, .int .i64 0] 29 ∧ Pa.At W b most (.slice bv (l.length + 1) cv) (l ++ [(x1, x2, x3)]) ∧ Chg (Pa.May b (.slice bu l.length cu)) w W) ⟨?_, ?_, ⟨?_, ?_⟩, ?_⟩ ?_
  · exact (b1.grown hhg (nr _ (by omega))).other _ _ (by show N + 1 ≠ b; omega)
  · exact (b2.grown hhg (nr _ (by omega))).other _ _ (by show N + 2 ≠ b; omega)
  · exact hbx.set 1 _
  · rw [hlen]; exact hR1.other _ _ hv'
  · refine ⟨hhg.os.trans hB.os, hhg.tape.trans hB.tape, hhg.output.trans hB.output, by simpa using Nat.le_trans hB.size hhg.size, fun k hk hm => ?_⟩
    have hkb : k ≠ b := fun e => hm (.inl e)
    exact (heap_setCell_other _ _ _ _ hkb).trans ((hhg.block k (by have := hB.size; omega) (fun e => hm (.inr e.symm))).trans (hB.block k (by rw [HN.out]; exact hk)))
  have hfar : ∀ g, (Value.slice bv (l.length + 1) cv).ownBlock = some g → g ≠ N + 1 := by
    intro g e
    rcases hhat with e2 | e2
    · rw [e2] at e; have := hgN _ e; omega
    · rw [e2] at e; cases e; omega
  have hnew : ∀ g, (Value.slice bv (l.length + 1) cv).ownBlock = some g → (Value.slice bu l.length cu).ownBlock = some g ∨ N ≤ g := by
    intro g e
    rcases hhat with e2 | e2
    · exact .inl (e2 ▸ e)
    · rw [e2] at e; cases e; exact .inr hw1
  clear hGm b0 b1 b2 hB hI1 hI2 i1 i2 i3 i4 i5 i6 hg hat hhg hR1 hbx q1 f1 hne hAt
  rintro W5 ⟨b1, b2, hA, hC⟩
  have q0 := hA.box.cell 0
  have q1 := hA.box.cell 1
  by_cases hfull : most < l.length + 1
  · have tf : decide ((most : Int) < (l.length : Int) + 1) = true := by simp; omega
    go_wp2_with fail
    go_quiet (fail)
    obtain ⟨y, m, hym⟩ : ∃ y m, l ++ [((x1, x2, x3) : Pa.Ent)] = y :: m := by cases l <;> exact ⟨_, _, rfl⟩
    have hml : m.length = l.length := by have := congrArg List.length hym; simp at this; omega
    have hA' : Pa.At (W5.drewN nq) b most (.slice bv (l.length + 1) cv) (y :: m) := by rw [← hym]; exact ⟨hA.box.drewN _, hA.row.same fun _ _ => rfl⟩
    have hC' : Chg (Pa.May b (.slice bu l.length cu)) w (W5.drewN nq) := hC.trans (C := fun _ => False) ⟨rfl, rfl, rfl, Nat.le_refl _, fun _ _ _ => rfl⟩ (fun _ _ h => h.elim)
    have b1' := b1.drewN nq
    have hPF := past_first b most _ y m (by omega) _ hA'
    obtain ⟨y1, y2, y3⟩ := y
    unfold Pa.val at hPF
    have HYM := Lib.hid hym
    clear b1 b2 hA hC q0 q1 tf hym
    go_wp2_with (first | (refine hPF.mono ?_; rintro e w' ⟨rfl, u', hA2, hC2, hn2⟩; have b3 := b1'.chg hC2 (fun h => h.elim (fun e => by omega) (fun e => hfar _ e rfl))) | (refine wpList_store_row rfl 29 _ _ rfl (N+1) _ rfl rfl 29 _ b3 (by kernel_rfl) rfl (by simp [Value.oneCell']) ?_))
    refine bodyPost_ret (results_row_tmp rfl _ _ (N+1) 29 _ _ rfl (b3.row _) Try.underlying29 rfl (by kernel_rfl)) rfl ?_
    have hN1 : N + 1 < (W5.drewN nq).heap.size := b1'.lt
    refine ⟨fun _ y' m' e' => ?_, fun h => absurd hfull (by omega)⟩
    rw [HYM.out] at e'
    obtain ⟨rfl, rfl⟩ := List.cons.inj e'
    refine ⟨rfl, _, ⟨hA2.box.rowOther _ _ (by omega), Row.same hA2.row fun g e => setRow_other _ _ _ _ (by have := hn2 g e; omega)⟩, ?_, fun g e => .inr (by have := hn2 g e; omega)⟩
    have hC3 := hC'.trans hC2 (fun n hn hm => by
      rcases hm with h | h
      · exact .inl h
      · rcases hnew n h with h | h
        · exact .inr h
        · rw [← HN.out] at hn; omega)
    exact ⟨hC3.os, hC3.tape, hC3.output, by simpa using hC3.size, fun k hk hm => (setRow_other _ _ _ _ (by rw [← HN.out] at hk; omega)).trans (hC3.block k hk hm)⟩
  · have tf : decide ((most : Int) < (l.length : Int) + 1) = false := by simp; omega
    go_wp2_with fail
    go_quiet (fail)
    go_wp2_with (first | (refine wpList_load_row rfl 29 _ rfl (N+2) rfl 29 _ _ _ (b2.drewN _) Try.underlying29 rfl (by kernel_rfl) ?_) | (refine wpList_store_row rfl 29 _ _ rfl (N+1) _ rfl rfl 29 _ (b1.drewN _) (by kernel_rfl) rfl (by simp [Value.oneCell']) ?_))
    refine bodyPost_ret (results_row_tmp rfl _ _ (N+1) 29 _ _ rfl ((b1.drewN nq).row _) Try.underlying29 rfl (by kernel_rfl)) rfl ?_
    refine ⟨fun h => absurd h hfull, fun _ => ⟨rfl, _, ⟨(hA.box.drewN nq).rowOther _ _ (by omega), Row.same (w := W5) hA.row fun g e => setRow_other _ _ _ _ (hfar g e)⟩, ?_, hnew⟩⟩
    exact ⟨hC.os, hC.tape, hC.output, by simpa using hC.size, fun k hk hm => (setRow_other _ _ _ _ (by rw [← HN.out] at hk; omega)).trans (hC.block k hk hm)⟩
end Go.Proofs.Ytcdfamllamjpeaa
