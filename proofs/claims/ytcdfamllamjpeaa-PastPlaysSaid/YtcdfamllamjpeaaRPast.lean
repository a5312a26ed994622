/- The reference's past: Push, walked. -/
import Derived.Test.YtcdfamllamjpeaaPast3
import Derived.Test.YtcdfamllamjpeaaView
namespace Go.Proofs.Ytcdfamllamjpeaa
open Go.RowKit
set_option maxRecDepth 100000
set_option maxHeartbeats 2000000
namespace Pa
/-- The reference's past at block b: at most so many, these entries, in the slice u (anywhere). -/
structure RAt (w : World) (b : Nat) (most : Nat) (u : Value) (l : List Ent) : Prop where
  box : Blk w b #[.int .i64 most, u] 43
  view : View w 44 3 u l.length (cells l)
theorem RAt.ne {w : World} {b most : Nat} {u : Value} {l : List Ent} (h : RAt w b most u l) : ∀ g, u.ownBlock = some g → g ≠ b := h.view.typed h.box (by decide)
theorem RAt.below {w w' : World} {b most : Nat} {u : Value} {l : List Ent} (h : RAt w b most u l) (hb : Below w.heap.size w w') : RAt w' b most u l := ⟨h.box.below hb h.box.lt, h.view.grow hb⟩
theorem cells_oneCell (l : List Ent) : ∀ u ∈ cells l, u.oneCell' = true := by
  intro v hv
  simp only [cells, List.mem_flatMap, ent] at hv
  obtain ⟨e, _, hv⟩ := hv
  simp at hv
  rcases hv with rfl | rfl | rfl <;> rfl
theorem cells_get3 (l : List Ent) (i : Nat) (hi : i < l.length) : (cells l)[i * 3]? = some (.int .i64 (l.getD i (0, 0, 0)).1) ∧ (cells l)[i * 3 + 1]? = some (.int .i64 (l.getD i (0, 0, 0)).2.1) ∧ (cells l)[i * 3 + 2]? = some (.int .i64 (l.getD i (0, 0, 0)).2.2) := by
  induction l generalizing i with
  | nil => simp at hi
  | cons e l ih =>
    rw [cells_cons]
    cases i with
    | zero => simp [ent]
    | succ i =>
      have := ih i (by simpa using hi)
      have e3 : (i + 1) * 3 = i * 3 + 3 := by omega
      rw [e3, List.getElem?_append_right (by simp [ent]), List.getElem?_append_right (by simp [ent]), List.getElem?_append_right (by simp [ent])]
      simpa [ent] using this
theorem cells_get1 (l : List Ent) (i : Nat) (hi : i < l.length) : (cells l)[i * 3 + 1]? = some (.int .i64 (l.getD i (0, 0, 0)).2.1) := (cells_get3 l i hi).2.1
end Pa
theorem rpast_push (b most : Nat) (u : Value) (x : Pa.Ent) (l : List Pa.Ent) (hl : l.length ≤ 100000) (w : World) (h : Pa.RAt w b most u l) :
    Calls Try.prog 14 #[.pointer (some ⟨b, 0, none⟩), Pa.val x] w fun e w' =>
      (most < l.length + 1 → ∀ y m, l ++ [x] = y :: m → e = .returned (.tuple #[Pa.val y, .bool true]) ∧ ∃ u', Pa.RAt w' b most u' m ∧ Chg (· = b) w w' ∧ ∀ g, u'.ownBlock = some g → w.heap.size ≤ g) ∧
      (l.length + 1 ≤ most → e = .returned (.tuple #[Pa.val (0, 0, 0), .bool false]) ∧ ∃ u', Pa.RAt w' b most u' (l ++ [x]) ∧ Chg (· = b) w w' ∧ ∀ g, u'.ownBlock = some g → w.heap.size ≤ g) := by
  obtain ⟨N, hN⟩ : ∃ N, N = w.heap.size := ⟨_, rfl⟩
  have HN := Lib.hid hN
  have hbN : b < N := by rw [hN]; exact h.box.lt
  have hgN : ∀ g, u.ownBlock = some g → g < N := fun g hg => by rw [hN]; exact h.view.lt g hg
  rw [← hN]
  clear hN
  obtain ⟨bu, cu, rfl, hcu, hcm⟩ := h.view.len
  obtain ⟨x1, x2, x3⟩ := x
  unfold Pa.val
  go_enter Try.func14, Try.ntmps14
  go_upto_region 1 with fail
  refine wp_world (fun W => Blk W N #[.int .i64 x1, .int .i64 x2, .int .i64 x3] 44 ∧ Blk W (N+1) #[.int .i64 0, .int .i64 0, .int .i64 0] 44 ∧ Below N w W) ⟨(Blk.new' _ _ _ HN.out).alloc _, Blk.new' _ _ _ (by rw [HN.out]; simp), ((Below.refl _ _).alloc (by rw [HN.out]; exact Nat.le_refl _) _).alloc (by rw [HN.out]; simp) _⟩ ?_
  rintro W0 ⟨b0, b1, hB⟩
  rw [← HN.out]
  have hW0 := hB.size
  have q1 := (h.box.below hB hbN).cell 1
  have hv0 := h.view.below hB hgN
  have HW := Lib.hid hW0
  clear hW0
  have hNW : N < W0.heap.size := b0.lt
  go_upto_region 3 with (refine wpList_append_view _ rfl _ _ 41 rfl N 44 _ _ 3 24 rfl rfl rfl rfl rfl rfl (.slice none 0 0) 0 [] rfl (Row.nil _ _ _ _) _ l.length (Pa.cells l) rfl hv0 (Pa.cells_oneCell l) (by simp only [maxLen]; omega) (by omega) (by omega) (fun v' w3 hR1 hg hat => ?_); obtain ⟨bv, cv, rfl⟩ := hR1.len)
  simp only [Nat.zero_add, List.nil_append] at hR1
  rw [Nat.zero_add] at hat
  have hlo : ∀ k, (Value.slice bv l.length cv).ownBlock = some k → N + 2 ≤ k := by
    have := b1.lt
    intro k hk
    rcases hat with e | e
    · rw [e] at hk; cases hk
    · rw [e] at hk; cases hk; omega
  have hB3 : Below N w w3 := Below.grown hB (by omega) hg (fun _ e => by cases e)
  have b03 := b0.grown hg (by simp [Value.ownBlock])
  have b13 := b1.grown hg (by simp [Value.ownBlock])
  have hR3 := hR1.relo hlo
  clear b0 b1 hB hv0 hR1 hlo hat hg q1 hNW
  obtain ⟨M, hM⟩ : ∃ M, M = w3.heap.size := ⟨_, rfl⟩
  have hMN : N + 2 ≤ M := by rw [hM]; exact b13.lt
  have bM : Blk (w3.alloc (.cells #[.int .i64 x1, .int .i64 x2, .int .i64 x3] 44)) M [.int .i64 x1, .int .i64 x2, .int .i64 x3].toArray 44 := Blk.new' _ _ _ hM
  have hRa := hR3.grow ((Below.refl w3.heap.size w3).alloc (Nat.le_refl _) (.cells #[.int .i64 x1, .int .i64 x2, .int .i64 x3] 44))
  rw [hM] at bM
  go_upto_region 4 with (first
    | (refine wpList_load_row rfl 44 _ rfl N rfl 44 _ _ _ b03 Try.underlying44 rfl (by kernel_rfl) ?_)
    | (refine wpList_append_any _ rfl _ _ 41 rfl (N + 2) 44 _ _ 3 24 rfl rfl rfl rfl rfl rfl _ l.length (Pa.cells l) rfl hRa ⟨w3.heap.size, 0, none⟩ 1 _ (Pa.ent (x1, x2, x3)) rfl rfl bM.cells (by intro u hu; simp [Pa.ent] at hu; rcases hu with rfl | rfl | rfl <;> rfl) (by simp only [maxLen]; omega) (by omega) (by simp; omega) (fun v' w4 hR4 hg4 hat4 => ?_); obtain ⟨bz, cz, rfl⟩ := hR4.len))
  have hg5 : (w3.alloc (.cells #[.int .i64 x1, .int .i64 x2, .int .i64 x3] 44)).grownBy w4 (Value.slice bv l.length cv).ownBlock := hg4
  have hlen : (l ++ [((x1, x2, x3) : Pa.Ent)]).length = l.length + 1 := by simp
  rw [Pa.cells_add] at hR4
  have hrn : ∀ k, k < N + 2 → some k ≠ (Value.slice bv l.length cv).ownBlock := fun k hk e => by have := (hR3.lt k e.symm).1; omega
  have hB4 : Below N w w4 := Below.grown (hB3.alloc (by omega) _) (by simp; omega) hg5 (fun k e => by have := (hR3.lt k e).1; omega)
  have hw4 : N ≤ w4.heap.size := by have := hg5.size; simp at this; omega
  refine wp_world (fun W => Blk W (N+1) #[.int .i64 0, .int .i64 0, .int .i64 0] 44 ∧ Row W (N + 2) 44 3 (.slice bz (l.length + 1) cz) (l.length + 1) (Pa.cells (l ++ [(x1, x2, x3)])) ∧ Blk W b #[.int .i64 most, .slice bu l.length cu] 43 ∧ Below N w W) ⟨(b13.alloc _).grown hg5 (hrn _ (by omega)), hR4, h.box.below hB4 hbN, hB4⟩ ?_
  clear hg4 hg5 hat4 hR4 hB4 hw4 hrn hB3 b03 b13 hR3 hRa bM hM hMN hgN
  rintro W5 ⟨b1, hR, hX, hB⟩
  have q0 := hX.cell 0
  have q1 := hX.cell 1
  have f1 := hX.free 1
  have hbN1 : b ≠ N + 1 := by omega
  by_cases hfull : most < l.length + 1
  · have tf : decide ((most : Int) < (l.length : Int) + 1) = true := by simp; omega
    obtain ⟨y, m, hym⟩ : ∃ y m, l ++ [((x1, x2, x3) : Pa.Ent)] = y :: m := by cases l <;> exact ⟨_, _, rfl⟩
    have hml : m.length = l.length := by have := congrArg List.length hym; simp at this; omega
    obtain ⟨g, cz', hcz, hgN2, hg5, hcs⟩ := hR.cells (by omega)
    cases hcz
    rw [hym, Pa.cells_cons] at hcs hR
    obtain ⟨y1, y2, y3⟩ := y
    have c0 := hcs 0 (by omega)
    have c1 := hcs 1 (by omega)
    have c2 := hcs 2 (by omega)
    simp only [Pa.ent, List.cons_append, List.getElem?_cons_zero, List.getElem?_cons_succ] at c0 c1 c2
    clear hcs
    have hgb : g ≠ b := by omega
    have HV := Lib.hid hR.view
    have HYM := Lib.hid hym
    have hcc : l.length + 1 ≤ cz := by
      rcases hR.2 with ⟨_, h0⟩ | ⟨_, _, _, h1, _, _, h4, _⟩
      · omega
      · cases h1; exact h4
    have hfin : ∀ off', (l.length = 0 ∨ off' = 3) → View W5 44 3 (.slice (some ⟨g, off', none⟩) l.length (cz - 1)) l.length (Pa.cells m) := fun off' ho => View.tail (off := 0) HV.out (by simp [Pa.ent]) off' (by simpa using ho)
    clear hR hym
    have fin : ∀ u', View W5 44 3 u' l.length (Pa.cells m) → u'.ownBlock = some g →
        Pa.RAt ((W5.setCell ⟨b, 1, none⟩ u').setRow (N + 1) #[.int .i64 y1, .int .i64 y2, .int .i64 y3]) b most u' m ∧ Chg (· = b) w ((W5.setCell ⟨b, 1, none⟩ u').setRow (N + 1) #[.int .i64 y1, .int .i64 y2, .int .i64 y3]) ∧ ∀ k, u'.ownBlock = some k → N ≤ k := by
      intro u' hv hu
      refine ⟨⟨(hX.set 1 _).rowOther _ _ hbN1, ?_⟩, ?_, fun k hk => by rw [hu] at hk; cases hk; omega⟩
      · rw [hml]
        exact (hv.other _ _ (fun k hk => by rw [hu] at hk; cases hk; exact hgb)).rowOther _ _ (fun k hk => by rw [hu] at hk; cases hk; omega)
      · exact ⟨hB.os, hB.tape, hB.output, by simpa [← HN.out] using hB.size, fun k hk hkb => (setRow_other _ _ _ _ (by rw [← HN.out] at hk; omega)).trans ((heap_setCell_other _ _ _ _ hkb).trans (hB.block k (by rw [HN.out]; exact hk)))⟩
    have out : ∀ u', View W5 44 3 u' l.length (Pa.cells m) → u'.ownBlock = some g →
        (most < l.length + 1 → ∀ y m, l ++ [((x1, x2, x3) : Pa.Ent)] = y :: m → Ending.returned (.tuple #[.agg #[.int .i64 y1, .int .i64 y2, .int .i64 y3], .bool true]) = .returned (.tuple #[.agg #[.int .i64 y.1, .int .i64 y.2.1, .int .i64 y.2.2], .bool true]) ∧ ∃ u'', Pa.RAt ((W5.setCell ⟨b, 1, none⟩ u').setRow (N + 1) #[.int .i64 y1, .int .i64 y2, .int .i64 y3]) b most u'' m ∧ Chg (· = b) w ((W5.setCell ⟨b, 1, none⟩ u').setRow (N + 1) #[.int .i64 y1, .int .i64 y2, .int .i64 y3]) ∧ ∀ k, u''.ownBlock = some k → N ≤ k) := by
      intro u' hv hu _ y' m' e'
      rw [HYM.out] at e'
      obtain ⟨rfl, rfl⟩ := List.cons.inj e'
      exact ⟨rfl, u', fin u' hv hu⟩
    by_cases hz : cz = 1
    · subst hz
      have hl0 : l.length = 0 := by omega
      have o := out (.slice (some ⟨g, 0, none⟩) 0 0) (by have := hfin 0 (.inl hl0); simpa [hl0] using this) rfl
      clear out fin
      go_wp2_with (refine wpList_store_row rfl 44 _ _ rfl (N+1) _ rfl rfl 44 _ (b1.other _ _ (fun e => hbN1 e.symm)) (by kernel_rfl) rfl (by simp [Value.oneCell']) ?_)
      refine bodyPost_ret (results_row_tmp rfl _ _ (N+1) 44 _ _ rfl ((b1.other _ _ (fun e => hbN1 e.symm)).row _) Try.underlying44 rfl (by kernel_rfl)) rfl ?_
      exact ⟨o, fun h => absurd hfull (by omega)⟩
    · have o := out (.slice (some ⟨g, 3, none⟩) l.length (cz - 1)) (hfin 3 (.inr rfl)) rfl
      clear out fin
      go_wp2_with (refine wpList_store_row rfl 44 _ _ rfl (N+1) _ rfl rfl 44 _ (b1.other _ _ (fun e => hbN1 e.symm)) (by kernel_rfl) rfl (by simp [Value.oneCell']) ?_)
      refine bodyPost_ret (results_row_tmp rfl _ _ (N+1) 44 _ _ rfl ((b1.other _ _ (fun e => hbN1 e.symm)).row _) Try.underlying44 rfl (by kernel_rfl)) rfl ?_
      exact ⟨o, fun h => absurd hfull (by omega)⟩
  · have tf : decide ((most : Int) < (l.length : Int) + 1) = false := by simp; omega
    go_wp2_with (refine wpList_store_row rfl 44 _ _ rfl (N+1) _ rfl rfl 44 _ (b1.other _ _ (fun e => hbN1 e.symm)) (by kernel_rfl) rfl (by simp [Value.oneCell']) ?_)
    refine bodyPost_ret (results_row_tmp rfl _ _ (N+1) 44 _ _ rfl ((b1.other _ _ (fun e => hbN1 e.symm)).row _) Try.underlying44 rfl (by kernel_rfl)) rfl ?_
    have hne : ∀ k, (Value.slice bz (l.length + 1) cz).ownBlock = some k → N + 2 ≤ k := fun k hk => (hR.lt k hk).1
    refine ⟨fun h => absurd h hfull, fun _ => ⟨rfl, .slice bz (l.length + 1) cz, ⟨(hX.set 1 _).rowOther _ _ hbN1, ?_⟩, ?_, fun k hk => by have := hne k hk; omega⟩⟩
    · rw [hlen]
      exact (hR.view.other _ _ (fun k hk => by have := hne k hk; show k ≠ b; omega)).rowOther _ _ (fun k hk => by have := hne k hk; omega)
    · exact ⟨hB.os, hB.tape, hB.output, by simpa [← HN.out] using hB.size, fun k hk hkb => (setRow_other _ _ _ _ (by rw [← HN.out] at hk; omega)).trans ((heap_setCell_other _ _ _ _ hkb).trans (hB.block k (by rw [HN.out]; exact hk)))⟩
end Go.Proofs.Ytcdfamllamjpeaa
