/- The reference's past: Pop and Size, walked. -/
import Derived.Test.YtcdfamllamjpeaaRPast
import Derived.Test.YtcdfamllamjpeaaInert
import Derived.Test.YtcdfamllamjpeaaDet2
namespace Go.Proofs.Ytcdfamllamjpeaa
open Go.RowKit
set_option maxRecDepth 100000
set_option maxHeartbeats 4000000
theorem rpast_pop0 (b most : Nat) (u : Value) (w : World) (h : Pa.RAt w b most u []) :
    Calls Try.prog 17 #[.pointer (some ⟨b, 0, none⟩)] w fun e w' => e = .returned (.tuple #[Pa.val (0, 0, 0), .bool false]) ∧ Below w.heap.size w w' := by
  obtain ⟨bu, cu, rfl, _, _⟩ := h.view.len
  obtain ⟨N, hN⟩ : ∃ N, N = w.heap.size := ⟨_, rfl⟩
  have HN := Lib.hid hN
  have hbN : b < N := by rw [hN]; exact h.box.lt
  rw [← hN]
  clear hN
  simp only [Pa.val]
  go_enter Try.func17, Try.ntmps17
  go_upto_region 1 with fail
  refine wp_world (fun W => Blk W N #[.int .i64 0, .int .i64 0, .int .i64 0] 44 ∧ Below N w W) ⟨Blk.new' _ _ _ HN.out, (Below.refl _ _).alloc (by rw [HN.out]; exact Nat.le_refl _) _⟩ ?_
  rintro W0 ⟨b0, hB⟩
  rw [← HN.out]
  have q1 := (h.box.below hB hbN).cell 1
  go_wp2_with (refine wpList_store_row rfl 44 _ _ rfl N _ rfl rfl 44 _ b0 (by kernel_rfl) rfl (by simp [Value.oneCell']) ?_)
  refine bodyPost_ret (results_row_tmp rfl _ _ N 44 _ _ rfl (b0.row _) Try.underlying44 rfl (by kernel_rfl)) rfl ?_
  exact ⟨rfl, Below.setRow hB (Nat.le_refl _) _⟩
theorem rpast_size (b most : Nat) (u : Value) (l : List Pa.Ent) (hl : l.length ≤ 100000) (w : World) (h : Pa.RAt w b most u l) :
    Calls Try.prog 22 #[.pointer (some ⟨b, 0, none⟩)] w fun e w' => e = .returned (.int .i64 (l.foldl (fun n e => wrap64 (n + e.2.1)) 0)) ∧ w' = w := by
  obtain ⟨bu, cu, rfl, _, _⟩ := h.view.len
  have q1 := h.box.cell 1
  go_enter Try.func22, Try.ntmps22
  go_wp2_with fail
  go_loopw [3, 4] (fun s i wr => wr = w ∧ ∃ k : Nat, k ≤ l.length ∧ i = .int .i64 k ∧ s = .int .i64 ((l.take k).foldl (fun n e => wrap64 (n + e.2.1)) 0)) (fun _ i _ => l.length - (intOf i).toNat)
  case atStart => exact ⟨rfl, 0, Nat.zero_le _, rfl, rfl⟩
  case round =>
    obtain ⟨rfl, k, hk, rfl, rfl⟩ := hrel
    by_cases hlt : k < l.length
    · obtain ⟨g, off, cap, hge, _, _, hgl, hc⟩ := h.view.cells (by omega)
      obtain ⟨rfl, rfl⟩ : bu = some ⟨g, off, none⟩ ∧ cu = cap := by simpa using hge
      have c1 := (hc (k * 3 + 1) (by omega)).trans (Pa.cells_get1 l k hlt)
      rw [← Nat.add_assoc] at c1
      obtain ⟨x, hx⟩ : ∃ x, l.getD k (0, 0, 0) = x := ⟨_, rfl⟩
      obtain ⟨x1, x2, x3⟩ := x
      rw [hx] at c1
      simp only at c1
      have hst : (l.take (k + 1)).foldl (fun n e => wrap64 (n + e.2.1)) 0 = wrap64 ((l.take k).foldl (fun n e => wrap64 (n + e.2.1)) 0 + x2) := by
        rw [List.take_add_one, List.foldl_append]
        have : l[k]? = some (x1, x2, x3) := by rw [← hx, List.getD_eq_getElem?_getD, List.getElem?_eq_getElem hlt]; rfl
        rw [this]
        rfl
      obtain ⟨s, hs⟩ : ∃ s, (l.take k).foldl (fun n e => wrap64 (n + e.2.1)) 0 = s := ⟨_, rfl⟩
      rw [hs] at hst ⊢
      clear hc hs hx hge
      have ik0 : (0 : Int) ≤ (k : Int) := by omega
      have ik1 : (k : Int) < (l.length : Int) := by omega
      go_wp2_with fail
      refine ⟨⟨trivial, k + 1, by omega, by go_num, by rw [hst]⟩, by simp [intOf]; omega⟩
    · obtain rfl : k = l.length := by omega
      rw [List.take_length]
      go_wp2_with fail
      go_ret
      exact ⟨rfl, rfl⟩
theorem View.take {w : World} {e : TypeId} {size n m cap : Nat} {a : Addr} {xs ys : List Value} (h : View w e size (.slice (some a) (n + m) cap) (n + m) (xs ++ ys)) (hx : xs.length = n * size) : View w e size (.slice (some a) n cap) n xs := by
  refine ⟨hx, ?_⟩
  rcases h.2 with ⟨h1, _⟩ | ⟨g, off, cap', cur, h1, h2, h3, h4, h5⟩
  · cases h1
  · cases h1
    refine .inr ⟨g, off, cap, cur, rfl, by omega, h3, h4, fun i hi => ?_⟩
    rw [h5 i (by rw [Nat.add_mul]; omega), List.getElem?_append_left (by omega)]
theorem rpast_pop (b most : Nat) (u : Value) (x : Pa.Ent) (l : List Pa.Ent) (hl : l.length ≤ 100000) (w : World) (h : Pa.RAt w b most u (l ++ [x])) :
    Calls Try.prog 17 #[.pointer (some ⟨b, 0, none⟩)] w fun e w' => e = .returned (.tuple #[Pa.val x, .bool true]) ∧ ∃ u', Pa.RAt w' b most u' l ∧ Chg (· = b) w w' := by
  have hlen : (l ++ [x]).length = l.length + 1 := by simp
  obtain ⟨g, off, cap, hge, hcap, hmx, hgl, hc⟩ := h.view.cells (by omega)
  subst hge
  rw [hlen] at h hc hcap
  have hx3 := Pa.cells_get3 (l ++ [x]) l.length (by omega)
  have hxl : (l ++ [x]).getD l.length (0, 0, 0) = x := by simp [List.getD_eq_getElem?_getD]
  rw [hxl] at hx3
  have c0 := (hc (l.length * 3) (by omega)).trans hx3.1
  have c1 := (hc (l.length * 3 + 1) (by omega)).trans hx3.2.1
  have c2 := (hc (l.length * 3 + 2) (by omega)).trans hx3.2.2
  rw [← Nat.add_assoc] at c1 c2
  clear hc hx3 hxl
  obtain ⟨x1, x2, x3⟩ := x
  simp only at c0 c1 c2
  simp only [Pa.val]
  obtain ⟨N, hN⟩ : ∃ N, N = w.heap.size := ⟨_, rfl⟩
  have HN := Lib.hid hN
  have hbN : b < N := by rw [hN]; exact h.box.lt
  have hgN : g < N := by rw [hN]; exact hgl
  clear hN hgl
  have hgb : g ≠ b := h.view.typed h.box (by decide) g rfl
  have ik0 : (0 : Int) ≤ (l.length : Int) := by omega
  have ik1 : (l.length : Int) < (l.length : Int) + 1 := by omega
  have kd : IntKind.i64.wrap (l.length : Int) = (l.length : Int) := IntWalk.i64_in _ (by omega)
  go_enter Try.func17, Try.ntmps17
  go_upto_region 1 with fail
  refine wp_world (fun W => Blk W N #[.int .i64 0, .int .i64 0, .int .i64 0] 44 ∧ Below N w W) ⟨Blk.new' _ _ _ HN.out, (Below.refl _ _).alloc (by rw [HN.out]; exact Nat.le_refl _) _⟩ ?_
  rintro W0 ⟨b0, hB⟩
  rw [← HN.out]
  have hN0 : N < W0.heap.size := b0.lt
  have q1 := (h.box.below hB hbN).cell 1
  go_upto_region 3 with fail
  have hGm : ∀ W W', (Blk W N #[.int .i64 0, .int .i64 0, .int .i64 0] 44 ∧ Below N w W) → Below W.heap.size W W' → (Blk W' N #[.int .i64 0, .int .i64 0, .int .i64 0] 44 ∧ Below N w W') := fun W W' h hb => ⟨h.1.below hb h.1.lt, h.2.trans (hb.mono (by have := h.1.lt; omega))⟩
  refine wp_region_mono [0, 1, 2, 3, 4, 5, 6, 7, 8, 9, 10, 11, 12] [13] (fun W => Blk W N #[.int .i64 0, .int .i64 0, .int .i64 0] 44 ∧ Below N w W)
    (fun | 12 => some (sNew #[.int .i64 0, .int .i64 0, .int .i64 0] 44) | _ => none) (fun _ => []) (by kernel_rfl) (by kernel_rfl) ⟨b0.drew, hB.drew⟩ ?_ ?_
  · intro i s hs
    match i with
    | 12 => cases hs; exact fun _ _ => sNew_mono _ _ _ _
  clear b0 hB q1
  simp only [pick, List.getD_cons_succ, List.getD_cons_zero, List.zip_cons_cons, List.zip_nil_right]
  (repeat (first | (refine mono_skip (by rfl) ?_; simp only [Act.put, List.setIfInBounds_toArray, List.set_cons_zero, List.set_cons_succ]) | (refine mono_pure (v := ?_) (by rfl) rfl ?_ ?_; rotate_left; (intro wS hS; go_simp; try with_reducible rfl); simp only [Act.put, List.setIfInBounds_toArray, List.set_cons_zero, List.set_cons_succ])))
  refine mono_pure (v := .slice (some ⟨g, off, none⟩) (l.length + 1) cap) (by rfl) rfl (fun w1 hS => by have cy := (h.box.below hS.2 hbN).cell 1; go_simp; try with_reducible rfl) ?_
  simp only [Act.put, List.setIfInBounds_toArray, List.set_cons_zero, List.set_cons_succ]
  (repeat (first | (refine mono_skip (by rfl) ?_; simp only [Act.put, List.setIfInBounds_toArray, List.set_cons_zero, List.set_cons_succ]) | (refine mono_pure (v := ?_) (by rfl) rfl ?_ ?_; rotate_left; (intro wS hS; go_simp; try with_reducible rfl); simp only [Act.put, List.setIfInBounds_toArray, List.set_cons_zero, List.set_cons_succ])))
  refine mono_pure (v := .slice (some ⟨g, off, none⟩) (l.length + 1) cap) (by rfl) rfl (fun w1 hS => by have cy := (h.box.below hS.2 hbN).cell 1; go_simp; try with_reducible rfl) ?_
  simp only [Act.put, List.setIfInBounds_toArray, List.set_cons_zero, List.set_cons_succ]
  refine mono_pure (v := .int .i64 ((l.length : Int) + 1)) (by rfl) rfl (fun w1 hS => by go_simp; try with_reducible rfl) ?_
  simp only [Act.put, List.setIfInBounds_toArray, List.set_cons_zero, List.set_cons_succ]
  refine mono_pure (v := .int .i64 l.length) (by rfl) rfl (fun w1 hS => by go_simp; try with_reducible rfl) ?_
  simp only [Act.put, List.setIfInBounds_toArray, List.set_cons_zero, List.set_cons_succ]
  refine mono_pure (v := .pointer (some ⟨g, off + l.length * 3, none⟩)) (by rfl) rfl (fun w1 hS => by go_simp; try with_reducible rfl) ?_
  simp only [Act.put, List.setIfInBounds_toArray, List.set_cons_zero, List.set_cons_succ]
  refine mono_pure (v := .agg #[.int .i64 x1, .int .i64 x2, .int .i64 x3]) (by rfl) rfl (fun w1 hS => by
    have d0 := (hS.2.cell (p := ⟨g, off + l.length * 3, none⟩) hgN).trans c0
    have d1 := (hS.2.cell (p := ⟨g, off + l.length * 3 + 1, none⟩) hgN).trans c1
    have d2 := (hS.2.cell (p := ⟨g, off + l.length * 3 + 2, none⟩) hgN).trans c2
    clear c0 c1 c2
    go_simp; try with_reducible rfl) ?_
  simp only [Act.put, List.setIfInBounds_toArray, List.set_cons_zero, List.set_cons_succ]
  refine mono_alloc #[.int .i64 0, .int .i64 0, .int .i64 0] 44 (by rfl) rfl hGm (by intro wS; go_simp; try rfl) (fun gs => ?_)
  simp only [Act.put, List.setIfInBounds_toArray, List.set_cons_zero, List.set_cons_succ]
  refine mono_nil ?_
  rintro W1 ⟨b0, hB⟩ ⟨hbs, I, hI1, hI2⟩
  obtain ⟨i1, i2, i3, ⟨M, hg, i4, i5, bM⟩⟩ := hI1 12 _ (upd_self _ _ _)
  obtain rfl : gs = M := by simpa using hg
  have hNM : N < gs := by omega
  go_wp2_with (refine wpList_store_row rfl 44 _ _ rfl gs _ rfl rfl 44 _ bM (by kernel_rfl) rfl (by simp [Value.oneCell']) ?_)
  refine wp_world (fun W => Blk W N #[.int .i64 0, .int .i64 0, .int .i64 0] 44 ∧ Blk W gs #[.int .i64 x1, .int .i64 x2, .int .i64 x3] 44 ∧ Below N w W) ⟨b0.rowOther _ _ (by omega), bM.row _, Below.setRow hB (by omega) _⟩ ?_
  clear b0 bM hB hI1 hI2 i1 i2 i3 i4 i5 hbs hGm c0 c1 c2 I
  rintro W2 ⟨b0, bM, hB⟩
  refine wp_region_in [0] [1, 2, 3, 4, 5, 6, 7, 8, 9, 10, 11, 12] [13, 14, 15, 16] (fun W => Blk W N #[.int .i64 0, .int .i64 0, .int .i64 0] 44 ∧ Blk W gs #[.int .i64 x1, .int .i64 x2, .int .i64 x3] 44 ∧ Below N w W) (fun _ => none) (fun _ => []) (by kernel_rfl) (by kernel_rfl) ⟨b0.drew, bM.drew, hB.drew⟩ (by intro i s hs; cases hs) ?_
  clear b0 bM hB
  simp only [pick, List.getD_cons_succ, List.getD_cons_zero, List.zip_cons_cons, List.zip_nil_right]
  refine ins_step (.pointer (some ⟨b, 0, none⟩)) (by intro wS; go_simp; try rfl) ?_
  simp only [Act.put, List.setIfInBounds_toArray, List.set_cons_zero, List.set_cons_succ]
  refine ins_nil ?_
  (repeat (first | (refine mono_skip (by rfl) ?_; simp only [Act.put, List.setIfInBounds_toArray, List.set_cons_zero, List.set_cons_succ]) | (refine mono_pure (v := ?_) (by rfl) rfl ?_ ?_; rotate_left; (intro wS hS; go_simp; try with_reducible rfl); simp only [Act.put, List.setIfInBounds_toArray, List.set_cons_zero, List.set_cons_succ])))
  refine mono_pure (v := .slice (some ⟨g, off, none⟩) (l.length + 1) cap) (by rfl) rfl (fun w1 hS => by have cy := (h.box.below hS.2.2 hbN).cell 1; go_simp; try with_reducible rfl) ?_
  simp only [Act.put, List.setIfInBounds_toArray, List.set_cons_zero, List.set_cons_succ]
  (repeat (first | (refine mono_skip (by rfl) ?_; simp only [Act.put, List.setIfInBounds_toArray, List.set_cons_zero, List.set_cons_succ]) | (refine mono_pure (v := ?_) (by rfl) rfl ?_ ?_; rotate_left; (intro wS hS; go_simp; try with_reducible rfl); simp only [Act.put, List.setIfInBounds_toArray, List.set_cons_zero, List.set_cons_succ])))
  refine mono_pure (v := .slice (some ⟨g, off, none⟩) (l.length + 1) cap) (by rfl) rfl (fun w1 hS => by have cy := (h.box.below hS.2.2 hbN).cell 1; go_simp; try with_reducible rfl) ?_
  simp only [Act.put, List.setIfInBounds_toArray, List.set_cons_zero, List.set_cons_succ]
  refine mono_pure (v := .int .i64 ((l.length : Int) + 1)) (by rfl) rfl (fun w1 hS => by go_simp; try with_reducible rfl) ?_
  simp only [Act.put, List.setIfInBounds_toArray, List.set_cons_zero, List.set_cons_succ]
  refine mono_pure (v := .int .i64 l.length) (by rfl) rfl (fun w1 hS => by go_simp; try with_reducible rfl) ?_
  simp only [Act.put, List.setIfInBounds_toArray, List.set_cons_zero, List.set_cons_succ]
  have ik2 : l.length ≤ cap := by omega
  have ik3 : (l.length : Int) ≤ (cap : Int) := by omega
  refine mono_pure (v := .slice (some ⟨g, off, none⟩) l.length cap) (by rfl) rfl (fun w1 hS => by go_simp; try with_reducible rfl) ?_
  simp only [Act.put, List.setIfInBounds_toArray, List.set_cons_zero, List.set_cons_succ]
  refine mono_nil ?_
  rintro W3 ⟨b0, bM, hB⟩ _
  have hV0 : View W3 44 3 (.slice (some ⟨g, off, none⟩) l.length cap) l.length (Pa.cells l) := by
    have hv := h.view
    rw [hlen, ← Pa.cells_add] at hv
    exact (View.take hv (Pa.cells_len l)).below hB (fun k hk => by cases hk; exact hgN)
  have hbx := h.box.below hB hbN
  have hw3 : N < W3.heap.size := b0.lt
  go_wp2_with (refine wpList_append_view _ rfl _ _ 41 rfl 0 44 _ _ 3 24 rfl rfl rfl rfl rfl rfl (.slice none 0 0) 0 [] rfl (Row.nil _ _ _ _) _ l.length (Pa.cells l) rfl hV0 (Pa.cells_oneCell l) (by simp only [maxLen]; omega) (by omega) (by omega) (fun v' w4 hR4 hg4 hat => ?_); obtain ⟨bz, cz, rfl⟩ := hR4.len; have hb4 := hbx.grown (row := none) hg4 (by simp); have q4 := hb4.cell 1; have f4 := hb4.free 1)
  refine onlyN_intro ?_
  simp only [Nat.zero_add, List.nil_append] at hR4
  have hg5 : W3.grownBy w4 none := hg4
  have hat2 : ∀ k, (Value.slice bz (0 + l.length) cz).ownBlock = some k → N < k := by
    intro k hk
    rcases hat with e | e
    · rw [e] at hk; cases hk
    · rw [e] at hk; cases hk; exact hw3
  rw [Nat.zero_add] at hat2
  have hB4 : Below N w w4 := Below.grown hB (by omega) hg5 (fun _ e => by cases e)
  have hbNe : b ≠ N := by omega
  have hbGs : b ≠ gs := by omega
  go_upto_region 6 with fail
  refine wp_world (fun W => Blk W N #[.int .i64 0, .int .i64 0, .int .i64 0] 44 ∧ Blk W gs #[.int .i64 x1, .int .i64 x2, .int .i64 x3] 44 ∧ Pa.RAt W b most (.slice bz l.length cz) l ∧ Chg (· = b) w W)
    ⟨(b0.grown (row := none) hg5 (by simp)).other _ _ (fun e => hbNe e.symm), (bM.grown (row := none) hg5 (by simp)).other _ _ (fun e => hbGs e.symm), ⟨?_, ?_⟩, ?_⟩ ?_
  · have := hb4.set 1 (.slice bz l.length cz)
    simpa using this
  · exact (hR4.view.other _ _ (fun k hk => by have := hat2 k hk; show k ≠ b; omega))
  · exact ⟨hB4.os, hB4.tape, hB4.output, by simpa [← HN.out] using hB4.size, fun k hk hkb => (heap_setCell_other _ _ _ _ hkb).trans (hB4.block k (by rw [HN.out]; exact hk))⟩
  clear b0 bM hB hV0 hbx hb4 q4 f4 hg4 hg5 hR4 hat hB4
  rintro W5 ⟨b0, bM, hA, hC⟩
  go_wp2_with (first | (refine wpList_load_row rfl 44 _ rfl gs rfl 44 _ _ _ bM Try.underlying44 rfl (by kernel_rfl) ?_) | (refine wpList_store_row rfl 44 _ _ rfl N _ rfl rfl 44 _ b0 (by kernel_rfl) rfl (by simp [Value.oneCell']) ?_))
  refine bodyPost_ret (results_row_tmp rfl _ _ N 44 _ _ rfl (b0.row _) Try.underlying44 rfl (by kernel_rfl)) rfl ?_
  refine ⟨rfl, .slice bz l.length cz, ⟨hA.box.rowOther _ _ hbNe, hA.view.rowOther _ _ (fun k hk => by have := hat2 k hk; omega)⟩, ?_⟩
  exact ⟨hC.os, hC.tape, hC.output, by simpa using hC.size, fun k hk hm => (setRow_other _ _ _ _ (by rw [← HN.out] at hk; omega)).trans (hC.block k hk hm)⟩
end Go.Proofs.Ytcdfamllamjpeaa
