/- GlyphCuts: a cut text is a beginning that cuts no rune. -/
import Derived.Test.YtjldmlnohkknpaaDoorAwake01
import Derived.Test.YtjldmlnohkknpaaDoorTabs01
import Derived.Test.YtjldmlnohkknpaaDoorCutPlain
import Derived.Test.YtjldmlnohkknpaaDoorDet
namespace Go.Proofs.YtjldmlnohkknpaaDoor
open Go.RowKit
set_option maxRecDepth 100000
set_option maxHeartbeats 4000000
theorem cut_facts (s : ByteArray) (n : Int) : ∃ c : ByteArray, cutOf s n = c ∧ c.size ≤ s.size ∧ s.extract 0 c.size = c ∧ (poss c).length + (poss (s.extract c.size s.size)).length = (poss s).length ∧ ((c.size : Int) ≤ n ∨ c.size = 0) ∧ (c.size = s.size ∨ n - (c.size : Int) < 4) := by
  obtain ⟨h1, h2, h3, h4, h5⟩ := cut_count s n s.size 0 (by omega) (Nat.zero_le _)
  refine ⟨_, rfl, ?_⟩
  unfold cutOf
  generalize cutLen s n 0 = L at *
  have hz : (s.extract 0 L).size = L := by simp [ByteArray.size_extract]; omega
  rw [hz]
  have ht := rest_tail s L h1 s.size 0 (by omega)
  rw [rest_zero, Nat.add_zero] at ht
  rw [rest_zero, rest_zero] at h2
  exact ⟨h1, rfl, by omega, h4, h5⟩
theorem glyphCuts.core (s : ByteArray) (n : Int) (_ws : s.size ≤ maxLen) (_wn : (Lit.int .i64 n).wf = true) (W : World) (hL : laidMetH Tryd.prog Rows.glyphCutsRow.laid W) :
    Calls Tryd.prog 5 #[.string s, .int .i64 n] W fun e w' => e = .returned (.bool true) ∧ Below W.heap.size W w' := by
  have hT := tabs_of hL
  clear hL _ws _wn
  by_cases hs : (5000 : Int) < (s.size : Int)
  · have tg : decide ((5000 : Int) < (s.size : Int)) = true := by simpa using hs
    go_enter Tryd.func5, Tryd.ntmps5
    go_wp2_with (go_at_call 11; refine (awake01 _ hT).mono ?_; rintro e w1 ⟨rfl, hb1⟩)
    go_ret
    exact ⟨rfl, hb1⟩
  · have tg : decide ((5000 : Int) < (s.size : Int)) = false := by simpa using hs
    obtain ⟨c, hc, c1, c2, c3, c4, c5⟩ := cut_facts s n
    have h0 := fun w => gl_cut s n (by omega) w
    rw [hc] at h0
    have h1 := fun w => gl_count c (by omega) w
    have h2 := fun w => gl_count (s.extract c.size s.size) (by simp [ByteArray.size_extract]; omega) w
    have h3 := fun w => gl_count s (by omega) w
    have hB := Below.refl W.heap.size W
    have k1 : (poss c).length ≤ 5000 := by have := rest_len c c.size 0 (by omega); rw [rest_zero] at this; omega
    have t1 : decide ((s.size : Int) < (c.size : Int)) = false := by simp; omega
    have t2 : decide (max n 0 < (c.size : Int)) = false := by simp; omega
    have i0 : (0 : Int) ≤ (c.size : Int) := by omega
    have i1 : (c.size : Int) ≤ (s.size : Int) := by omega
    have k2 : (poss (s.extract c.size s.size)).length ≤ 5000 := by have := rest_len s s.size 0 (by omega); rw [rest_zero] at this; omega
    generalize (poss c).length = q1 at *
    generalize (poss (s.extract c.size s.size)).length = q2 at *
    generalize (poss s).length = q3 at *
    have e1 : decide ((q1 : Int) + (q2 : Int) = (q3 : Int)) = true := by simp; omega
    have x1 : (IntKind.i64.wrap ((q1 : Int) + (q2 : Int)) == (q3 : Int)) = true := by rw [IntWalk.i64_in _ (by omega)]; simp; omega
    have hcs : (((c.size : Int) == (s.size : Int)) = true ∧ decide ((c.size : Int) = (s.size : Int)) = true) ∨ (((c.size : Int) == (s.size : Int)) = false ∧ decide ((c.size : Int) = (s.size : Int)) = false ∧ decide (n < 0) = true) ∨ (((c.size : Int) == (s.size : Int)) = false ∧ decide ((c.size : Int) = (s.size : Int)) = false ∧ decide (n < 0) = false ∧ IntKind.i64.wrap (n - (c.size : Int)) = n - (c.size : Int) ∧ decide (n - (c.size : Int) < 4) = true) := by
      by_cases a : c.size = s.size
      · exact .inl (by simp; omega)
      · by_cases b : n < 0
        · exact .inr (.inl ⟨by simp; omega, by simp; omega, by simpa using b⟩)
        · exact .inr (.inr ⟨by simp; omega, by simp; omega, by simpa using b, IntWalk.i64_in _ (by omega), by simp; omega⟩)
    clear hs c3 c4 c5 hc e1
    go_enter Tryd.func5, Tryd.ntmps5
    go_upto_region 6 with (go_at_call 16; refine (h0 _).mono ?_; rintro e w6 ⟨rfl, hb6⟩; replace hB := hB.trans (hb6.mono hB.size))
    rcases hcs with ⟨d0, d9⟩ | ⟨d0, d9, d1⟩ | ⟨d0, d9, d1, d2, d3⟩
    all_goals
      refine wp_region_det (fun w' => Below W.heap.size W w') (by kernel_rfl) (by kernel_rfl) hB.drew ?_
      refine det_call (v := .bool true) (by rfl) (by intro wS hS; go_simp; first | done | exact ⟨rfl, rfl⟩) (fun w1 hS => ?_) ?_
      · exact (awake01 _ (tabs_below hT hS)).mono fun e w' h => by obtain ⟨rfl, hb⟩ := h; exact ⟨rfl, hS.trans (hb.mono hS.size)⟩
      simp only [Act.put, List.setIfInBounds_toArray, List.set_cons_zero, List.set_cons_succ]
      (first | (refine det_skip (by rfl) ?_; simp only [Act.put, List.setIfInBounds_toArray, List.set_cons_zero, List.set_cons_succ]) | (refine det_pure (v := ?_) (by rfl) ?_ ?_; rotate_left; (intro wS hS; go_simp; try with_reducible rfl); simp only [Act.put, List.setIfInBounds_toArray, List.set_cons_zero, List.set_cons_succ]))
      (first | (refine det_skip (by rfl) ?_; simp only [Act.put, List.setIfInBounds_toArray, List.set_cons_zero, List.set_cons_succ]) | (refine det_pure (v := ?_) (by rfl) ?_ ?_; rotate_left; (intro wS hS; go_simp; try with_reducible rfl); simp only [Act.put, List.setIfInBounds_toArray, List.set_cons_zero, List.set_cons_succ]))
      refine det_call (v := .int .i64 q1) (by rfl) (by intro wS hS; go_simp; first | done | exact ⟨rfl, rfl⟩) (fun w1 hS => ?_) ?_
      · exact (h1 _).mono fun e w' h => by obtain ⟨rfl, hb⟩ := h; exact ⟨rfl, hS.trans (hb.mono hS.size)⟩
      simp only [Act.put, List.setIfInBounds_toArray, List.set_cons_zero, List.set_cons_succ]
      (first | (refine det_skip (by rfl) ?_; simp only [Act.put, List.setIfInBounds_toArray, List.set_cons_zero, List.set_cons_succ]) | (refine det_pure (v := ?_) (by rfl) ?_ ?_; rotate_left; (intro wS hS; go_simp; try with_reducible rfl); simp only [Act.put, List.setIfInBounds_toArray, List.set_cons_zero, List.set_cons_succ]))
      (first | (refine det_skip (by rfl) ?_; simp only [Act.put, List.setIfInBounds_toArray, List.set_cons_zero, List.set_cons_succ]) | (refine det_pure (v := ?_) (by rfl) ?_ ?_; rotate_left; (intro wS hS; go_simp; try with_reducible rfl); simp only [Act.put, List.setIfInBounds_toArray, List.set_cons_zero, List.set_cons_succ]))
      (first | (refine det_skip (by rfl) ?_; simp only [Act.put, List.setIfInBounds_toArray, List.set_cons_zero, List.set_cons_succ]) | (refine det_pure (v := ?_) (by rfl) ?_ ?_; rotate_left; (intro wS hS; go_simp; try with_reducible rfl); simp only [Act.put, List.setIfInBounds_toArray, List.set_cons_zero, List.set_cons_succ]))
      (first | (refine det_skip (by rfl) ?_; simp only [Act.put, List.setIfInBounds_toArray, List.set_cons_zero, List.set_cons_succ]) | (refine det_pure (v := ?_) (by rfl) ?_ ?_; rotate_left; (intro wS hS; go_simp; try with_reducible rfl); simp only [Act.put, List.setIfInBounds_toArray, List.set_cons_zero, List.set_cons_succ]))
      refine det_call (v := .int .i64 q2) (by rfl) (by intro wS hS; go_simp; first | done | exact ⟨rfl, rfl⟩) (fun w1 hS => ?_) ?_
      · exact (h2 _).mono fun e w' h => by obtain ⟨rfl, hb⟩ := h; exact ⟨rfl, hS.trans (hb.mono hS.size)⟩
      simp only [Act.put, List.setIfInBounds_toArray, List.set_cons_zero, List.set_cons_succ]
      (first | (refine det_skip (by rfl) ?_; simp only [Act.put, List.setIfInBounds_toArray, List.set_cons_zero, List.set_cons_succ]) | (refine det_pure (v := ?_) (by rfl) ?_ ?_; rotate_left; (intro wS hS; go_simp; try with_reducible rfl); simp only [Act.put, List.setIfInBounds_toArray, List.set_cons_zero, List.set_cons_succ]))
      (first | (refine det_skip (by rfl) ?_; simp only [Act.put, List.setIfInBounds_toArray, List.set_cons_zero, List.set_cons_succ]) | (refine det_pure (v := ?_) (by rfl) ?_ ?_; rotate_left; (intro wS hS; go_simp; try with_reducible rfl); simp only [Act.put, List.setIfInBounds_toArray, List.set_cons_zero, List.set_cons_succ]))
      refine det_call (v := .int .i64 q3) (by rfl) (by intro wS hS; go_simp; first | done | exact ⟨rfl, rfl⟩) (fun w1 hS => ?_) ?_
      · exact (h3 _).mono fun e w' h => by obtain ⟨rfl, hb⟩ := h; exact ⟨rfl, hS.trans (hb.mono hS.size)⟩
      simp only [Act.put, List.setIfInBounds_toArray, List.set_cons_zero, List.set_cons_succ]
      (repeat (first | (refine det_skip (by rfl) ?_; simp only [Act.put, List.setIfInBounds_toArray, List.set_cons_zero, List.set_cons_succ]) | (refine det_pure (v := ?_) (by rfl) ?_ ?_; rotate_left; (intro wS hS; go_simp; try with_reducible rfl); simp only [Act.put, List.setIfInBounds_toArray, List.set_cons_zero, List.set_cons_succ])))
      refine det_nil ?_
      intro w9 hS
      go_wp2_with fail
      go_ret
      exact ⟨rfl, hS⟩
end Go.Proofs.YtjldmlnohkknpaaDoor
