/- What was pushed is popped, newest first, as far as there was room. -/
import Derived.Test.YtcdfamllamjpeaaPastLaw
import Derived.Test.YtcdfamllamjpeaaOpenSl
import Derived.Test.YtcdfamllamjpeaaRows
namespace Go.Proofs.Ytcdfamllamjpeaa
open Go.RowKit Go.ChangeShapes
namespace pastBack
def en (xs : List Int) (i : Nat) : Pa.Ent := ((i : Int), 0, xs.getD i 0)
/-- The entries from a on, of the first j. -/
def seg (xs : List Int) (a j : Nat) : List Pa.Ent := ((List.range j).drop a).map (en xs)
theorem seg_len (xs : List Int) (a j : Nat) : (seg xs a j).length = j - a := by simp [seg]
theorem seg_add (xs : List Int) (a j : Nat) (h : a ≤ j) : seg xs a j ++ [en xs j] = seg xs a (j + 1) := by
  unfold seg
  rw [List.range_succ, List.drop_append_of_le_length (by simpa using h), List.map_append]
  rfl
theorem seg_cons (xs : List Int) (a j : Nat) (h : a < j) : seg xs a j = en xs a :: seg xs (a + 1) j := by
  unfold seg
  rw [List.drop_eq_getElem_cons (by simpa using h)]
  simp
set_option maxRecDepth 100000 in
set_option maxHeartbeats 2000000 in
theorem walk (m : Int) (m0 : 0 ≤ m) (m1 : m ≤ 255) (n : Nat) (hn : m % 65 = n) (v : Value) (xs : List Int) (w : World) (hv : Ints w .i64 v xs) :
    Calls Try.prog 3 #[.int .u8 m, v] w fun e w' => e = .returned (.bool true) ∧ Below w.heap.size w w' := by
  have hn65 : n ≤ 64 := by omega
  obtain ⟨N, hN⟩ : ∃ N, N = w.heap.size := ⟨_, rfl⟩
  have HN := Lib.hid hN
  have hR0 : Below N w w ∧ N ≤ w.heap.size := ⟨Below.refl _ _, by omega⟩
  rw [← hN]
  clear hN
  have hmax := hv.1
  obtain ⟨bv, cv, rfl⟩ := hv.len
  by_cases hlen : 200 < xs.length
  · go_enter Try.func3, Try.ntmps3
    have hmx : xs.length ≤ 9223372036854775807 := by simp only [maxLen] at hmax; omega
    go_wp2_with (first
      | (go_at_call 8; refine (awake22 _).mono ?_; rintro e w1 ⟨rfl, hb⟩; replace hR0 : Below N w w1 ∧ N ≤ w1.heap.size := ⟨hR0.1.trans (hb.mono hR0.2), Nat.le_trans hR0.2 hb.size⟩))
    go_ret
    exact ⟨rfl, hR0.1⟩
  · have hmx : xs.length ≤ 200 := by omega
    go_enter Try.func3, Try.ntmps3
    go_upto_region 4 with (first
      | (go_at_call 8; refine (awake22 _).mono ?_; rintro e w1 ⟨rfl, hb⟩; replace hR0 : Below N w w1 ∧ N ≤ w1.heap.size := ⟨hR0.1.trans (hb.mono hR0.2), Nat.le_trans hR0.2 hb.size⟩))
    go_upto_region 5 with (go_at_call 9; refine (own_new n hn65 N w _ hR0.1 hR0.2).mono ?_; rintro e w2 ⟨b, rfl, hO⟩)
    have hv2 : Ints w2 .i64 (.slice bv xs.length cv) xs := hv.below (by rw [← HN.out]; exact hO.1)
    clear hb hR0
    go_wp2_with fail
    go_loopw [8] (fun i wr => ∃ (j : Nat) (u : Value), j ≤ xs.length ∧ i = .int .i64 j ∧ Pa.Own N w wr b n u (seg xs (j - n) j)) (fun i _ => xs.length - (intOf i).toNat)
    case atStart => exact ⟨0, _, by omega, rfl, by simpa [seg] using hO⟩
    case round =>
      clear hO hv2
      obtain ⟨j, u, hj, rfl, hO⟩ := hrel
      by_cases hlt : j < xs.length
      · have hv3 : Ints wr .i64 (.slice bv xs.length cv) xs := hv.below (by rw [← HN.out]; exact hO.1)
        rcases hv3.2.2 with ⟨_, h0⟩ | ⟨ad, cap, hsl, hc⟩
        · subst h0; simp at hlt
        obtain ⟨rfl, rfl⟩ : bv = some ad ∧ cv = cap := by simpa using hsl
        have cj := hc j hlt
        obtain ⟨x, hx⟩ : ∃ x, xs.getD j 0 = x := ⟨_, rfl⟩
        rw [hx] at cj
        have hen : en xs j = ((j : Int), 0, x) := by unfold en; rw [hx]
        have HEN := Lib.hid hen
        have HX := Lib.hid hx
        have hc' := hc
        clear hx hen hc hv3
        by_cases hjn : j < n
        · have hp := own_push_room ((j : Int), 0, x) (by rw [seg_len]; omega) (by omega) hO
          unfold Pa.val at hp
          have tj : decide ((n : Int) ≤ (j : Int)) = false := by simp; omega
          have tj3 : decide (n ≤ j) = false := by simp; omega
          go_upto_region 11 with (go_at_call 10; refine hp.mono ?_; rintro e w4 ⟨rfl, u4', hO4, _⟩)
          have hO5 := hO4.grow (W' := w4.alloc (.cells #[.int .i64 0, .int .i64 0, .int .i64 0] 29)) ((Below.refl _ _).alloc (Nat.le_refl _) _)
          refine wp_world (fun W => Pa.Own N w W b n u4' (seg xs (j - n) j ++ [((j : Int), 0, x)])) hO5 ?_
          clear hO4 hO5 hp hO cj
          rintro W5 hO
          refine wp_region_det (fun W => Pa.Own N w W b n u4' (seg xs (j - n) j ++ [((j : Int), 0, x)])) (by kernel_rfl) (by kernel_rfl) (hO.grow (W' := W5.drew) ((Below.refl _ _).drew)) ?_
          (repeat (first | (refine det_skip (by rfl) ?_; simp only [Act.put, List.setIfInBounds_toArray, List.set_cons_zero, List.set_cons_succ]) | (refine det_pure (v := ?_) (by rfl) ?_ ?_; rotate_left; (intro wS hS; go_simp; try with_reducible rfl); simp only [Act.put, List.setIfInBounds_toArray, List.set_cons_zero, List.set_cons_succ])))
          refine det_nil ?_
          rintro W6 hO6
          go_wp2_with fail
          refine ⟨⟨j + 1, u4', by omega, by go_num, ?_⟩, by simp [intOf]; omega⟩
          rw [← HEN.out, seg_add _ _ _ (by omega), show j - n = j + 1 - n by omega] at hO6
          exact hO6
        · obtain ⟨d, hd⟩ : ∃ d, j - n = d := ⟨_, rfl⟩
          have hdl : d < xs.length := by omega
          obtain ⟨y, hy⟩ : ∃ y, xs.getD d 0 = y := ⟨_, rfl⟩
          have hO' := hO
          rw [hd] at hO'
          have hp := own_push_full ((j : Int), 0, x) ((d : Int), 0, y) (seg xs (d + 1) (j + 1)) (by rw [seg_len]; omega) (by rw [seg_len]; omega) (by rw [← HEN.out, seg_add _ _ _ (by omega), seg_cons _ _ _ (by omega)]; unfold en; rw [hy]) hO'
          unfold Pa.val at hp
          have cd := hc' d hdl
          rw [hy] at cd
          go_upto_region 11 with (go_at_call 10; refine hp.mono ?_; rintro e w4 ⟨rfl, u4', hO4, _⟩)
          have tj : decide ((n : Int) ≤ (j : Int)) = true := by simp; omega
          have tj3 : decide (n ≤ j) = true := by simp; omega
          have kd : IntKind.i64.wrap ((j : Int) - (n : Int)) = (d : Int) := by rw [show (j : Int) - (n : Int) = (d : Int) by omega]; exact IntWalk.i64_in _ (by omega)
          obtain ⟨c1, hc1⟩ : ∃ c, c = w4.heap.size := ⟨_, rfl⟩
          refine wp_world (fun W => Blk W c1 #[.int .i64 d, .int .i64 0, .int .i64 y] 29 ∧ Pa.Own N w W b n u4' (seg xs (d + 1) (j + 1))) ⟨Blk.new' _ _ _ hc1, hO4.grow ((Below.refl _ _).alloc (Nat.le_refl _) _)⟩ ?_
          rw [← hc1]
          clear hc1 hp hO hO' hO4 cj cd hc'
          rintro W5 ⟨b5, hO⟩
          refine wp_region_det (fun W => Blk W c1 #[.int .i64 d, .int .i64 0, .int .i64 y] 29 ∧ Pa.Own N w W b n u4' (seg xs (d + 1) (j + 1))) (by kernel_rfl) (by kernel_rfl) ⟨b5.drew, hO.grow (W' := W5.drew) ((Below.refl _ _).drew)⟩ ?_
          (repeat (first | (refine det_skip (by rfl) ?_; simp only [Act.put, List.setIfInBounds_toArray, List.set_cons_zero, List.set_cons_succ]) | (refine det_pure (v := ?_) (by rfl) ?_ ?_; rotate_left; (intro wS hS; go_simp; try with_reducible rfl); simp only [Act.put, List.setIfInBounds_toArray, List.set_cons_zero, List.set_cons_succ])))
          refine det_pure (v := .int .i64 d) (by rfl) (fun w1 hS => by have cy := hS.1.cell 0; go_simp; try with_reducible rfl) ?_
          simp only [Act.put, List.setIfInBounds_toArray, List.set_cons_zero, List.set_cons_succ]
          (repeat (first | (refine det_skip (by rfl) ?_; simp only [Act.put, List.setIfInBounds_toArray, List.set_cons_zero, List.set_cons_succ]) | (refine det_pure (v := ?_) (by rfl) ?_ ?_; rotate_left; (intro wS hS; go_simp; try with_reducible rfl); simp only [Act.put, List.setIfInBounds_toArray, List.set_cons_zero, List.set_cons_succ])))
          refine det_pure (v := .int .i64 y) (by rfl) (fun w1 hS => by have cy := hS.1.cell 2; go_simp; try with_reducible rfl) ?_
          simp only [Act.put, List.setIfInBounds_toArray, List.set_cons_zero, List.set_cons_succ]
          (repeat (first | (refine det_skip (by rfl) ?_; simp only [Act.put, List.setIfInBounds_toArray, List.set_cons_zero, List.set_cons_succ]) | (refine det_pure (v := ?_) (by rfl) ?_ ?_; rotate_left; (intro wS hS; go_simp; try with_reducible rfl); simp only [Act.put, List.setIfInBounds_toArray, List.set_cons_zero, List.set_cons_succ])))
          refine det_pure (v := .int .i64 y) (by rfl) (fun w1 hS => by have cy := (hv.below (w' := w1) (by rw [← HN.out]; exact hS.2.1)).at hdl; rw [hy] at cy; go_simp; try with_reducible rfl) ?_
          simp only [Act.put, List.setIfInBounds_toArray, List.set_cons_zero, List.set_cons_succ]
          (repeat (first | (refine det_skip (by rfl) ?_; simp only [Act.put, List.setIfInBounds_toArray, List.set_cons_zero, List.set_cons_succ]) | (refine det_pure (v := ?_) (by rfl) ?_ ?_; rotate_left; (intro wS hS; go_simp; try with_reducible rfl); simp only [Act.put, List.setIfInBounds_toArray, List.set_cons_zero, List.set_cons_succ])))
          refine det_nil ?_
          rintro W6 ⟨_, hO6⟩
          go_wp2_with fail
          refine ⟨⟨j + 1, u4', by omega, by go_num, ?_⟩, by simp [intOf]; omega⟩
          rw [show j + 1 - n = d + 1 by omega]
          exact hO6
      · obtain rfl : j = xs.length := by omega
        obtain ⟨a, ha⟩ : ∃ a, xs.length - n = a := ⟨_, rfl⟩
        rw [ha] at hO
        go_wp2_with fail
        rename World => W0
        go_loopw [11] (fun i wr => ∃ (k : Nat) (u : Value), k ≤ xs.length ∧ i = .int .i64 ((k : Int) - 1) ∧ Pa.Own N w wr b n u (seg xs a k)) (fun i _ => (intOf i + 1).toNat)
        case atStart => exact ⟨xs.length, _, by omega, by go_num, hO⟩
        case round =>
          clear hO
          obtain ⟨k, u, hk, rfl, hO⟩ := hrel
          by_cases hak : a < k
          · obtain ⟨i, rfl⟩ : ∃ i, k = i + 1 := ⟨k - 1, by omega⟩
            have hi : i < xs.length := by omega
            obtain ⟨x, hx⟩ : ∃ x, xs.getD i 0 = x := ⟨_, rfl⟩
            have hO' := hO
            rw [← seg_add _ _ _ (by omega)] at hO'
            have hp := own_pop ((i : Int), 0, x) (by rw [seg_len]; omega) (show Pa.Own N w wr b n u (seg xs a i ++ [((i : Int), 0, x)]) by have := hO'; unfold en at this; rw [hx] at this; exact this)
            unfold Pa.val at hp
            have ei : ((i + 1 : Nat) : Int) - 1 = (i : Int) := by omega
            go_upto_region 17 with (go_at_call 11; refine hp.mono ?_; rintro e w4 ⟨rfl, u4', hO4, _⟩)
            obtain ⟨c1, hc1⟩ : ∃ c, c = w4.heap.size := ⟨_, rfl⟩
            refine wp_world (fun W => Blk W c1 #[.int .i64 i, .int .i64 0, .int .i64 x] 29 ∧ Pa.Own N w W b n u4' (seg xs a i)) ⟨Blk.new' _ _ _ hc1, hO4.grow ((Below.refl _ _).alloc (Nat.le_refl _) _)⟩ ?_
            rw [← hc1]
            clear hc1 hp hO hO' hO4
            rintro W5 ⟨b5, hO⟩
            have hv5 : Ints W5 .i64 (.slice bv xs.length cv) xs := hv.below (by rw [← HN.out]; exact hO.1)
            obtain ⟨ad, rfl⟩ : ∃ ad, bv = some ad := by
              rcases hv5.2.2 with ⟨_, h0⟩ | ⟨ad, c, h, _⟩
              · subst h0; simp at hi
              · simp only [Value.slice.injEq] at h; exact ⟨ad, h.1⟩
            clear hv5
            refine wp_region_det (fun W => Blk W c1 #[.int .i64 i, .int .i64 0, .int .i64 x] 29 ∧ Pa.Own N w W b n u4' (seg xs a i)) (by kernel_rfl) (by kernel_rfl) ⟨b5.drew, hO.grow (W' := W5.drew) ((Below.refl _ _).drew)⟩ ?_
            (repeat (first | (refine det_skip (by rfl) ?_; simp only [Act.put, List.setIfInBounds_toArray, List.set_cons_zero, List.set_cons_succ]) | (refine det_pure (v := ?_) (by rfl) ?_ ?_; rotate_left; (intro wS hS; go_simp; try with_reducible rfl); simp only [Act.put, List.setIfInBounds_toArray, List.set_cons_zero, List.set_cons_succ])))
            refine det_pure (v := .int .i64 i) (by rfl) (fun w1 hS => by have cy := hS.1.cell 0; go_simp; try with_reducible rfl) ?_
            simp only [Act.put, List.setIfInBounds_toArray, List.set_cons_zero, List.set_cons_succ]
            (repeat (first | (refine det_skip (by rfl) ?_; simp only [Act.put, List.setIfInBounds_toArray, List.set_cons_zero, List.set_cons_succ]) | (refine det_pure (v := ?_) (by rfl) ?_ ?_; rotate_left; (intro wS hS; go_simp; try with_reducible rfl); simp only [Act.put, List.setIfInBounds_toArray, List.set_cons_zero, List.set_cons_succ])))
            refine det_pure (v := .int .i64 x) (by rfl) (fun w1 hS => by have cy := hS.1.cell 2; go_simp; try with_reducible rfl) ?_
            simp only [Act.put, List.setIfInBounds_toArray, List.set_cons_zero, List.set_cons_succ]
            (repeat (first | (refine det_skip (by rfl) ?_; simp only [Act.put, List.setIfInBounds_toArray, List.set_cons_zero, List.set_cons_succ]) | (refine det_pure (v := ?_) (by rfl) ?_ ?_; rotate_left; (intro wS hS; go_simp; try with_reducible rfl); simp only [Act.put, List.setIfInBounds_toArray, List.set_cons_zero, List.set_cons_succ])))
            refine det_pure (v := .int .i64 x) (by rfl) (fun w1 hS => by have cy := (hv.below (w' := w1) (by rw [← HN.out]; exact hS.2.1)).at hi; rw [hx] at cy; go_simp; try with_reducible rfl) ?_
            simp only [Act.put, List.setIfInBounds_toArray, List.set_cons_zero, List.set_cons_succ]
            (repeat (first | (refine det_skip (by rfl) ?_; simp only [Act.put, List.setIfInBounds_toArray, List.set_cons_zero, List.set_cons_succ]) | (refine det_pure (v := ?_) (by rfl) ?_ ?_; rotate_left; (intro wS hS; go_simp; try with_reducible rfl); simp only [Act.put, List.setIfInBounds_toArray, List.set_cons_zero, List.set_cons_succ])))
            refine det_nil ?_
            rintro W6 ⟨_, hO6⟩
            go_wp2_with fail
            refine ⟨⟨i, u4', by omega, rfl, hO6⟩, by simp [intOf]⟩
          · have e0 : seg xs a k = [] := List.eq_nil_of_length_eq_zero (by rw [seg_len]; omega)
            rw [e0] at hO
            go_wp2_with (first
              | (go_at_call 11; refine (past_pop0 _ _ _ _ hO.2.2.1).mono ?_; rintro e w4 ⟨rfl, hb4⟩; simp only [Pa.val]; have hO2 := (hO.grow hb4).grow (W' := w4.alloc (.cells #[.int .i64 0, .int .i64 0, .int .i64 0] 29)) ((Below.refl _ _).alloc (Nat.le_refl _) _))
              | (go_at_call 12; refine (own_len hO2).mono ?_; rintro e w5 ⟨rfl, rfl⟩))
            all_goals (go_ret; exact ⟨rfl, hO2.1⟩)
end pastBack
theorem pastBack.core (a0 : Int) (v1 : Value) (a1 : List Int) (w0 : (Lit.int .u8 a0).wf = true) (W : World) (s1 : Ints W .i64 v1 a1) :
    Calls Try.prog 3 #[.int .u8 a0, v1] W fun e w' => e = .returned (.bool true) ∧ Below W.heap.size W w' := by
  obtain ⟨b0, b0'⟩ := bounds_u8 w0
  exact pastBack.walk a0 b0 b0' (a0 % 65).toNat (by omega) v1 a1 W s1
end Go.Proofs.Ytcdfamllamjpeaa
