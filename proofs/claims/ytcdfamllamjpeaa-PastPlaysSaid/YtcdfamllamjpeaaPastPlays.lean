/- aquatintlaw22.PastPlays, walked. -/
import Derived.Test.YtcdfamllamjpeaaPlays
import Derived.Test.YtcdfamllamjpeaaRows
import Derived.Deep.CutBlock
import Derived.Deep.CutRange
namespace Go.Proofs.Ytcdfamllamjpeaa
open Go.RowKit Go.ChangeShapes
set_option maxRecDepth 100000
theorem past_new_bad (m : Int) (hm : m < 0 ∨ 64 < m) (w : World) : Calls Try.prog 9 #[.int .i64 m] w fun e w' => e = .returned (.tuple #[.pointer none, .int .i64 1]) ∧ w = w' := by
  have t1 : decide (m < 0) = true ∨ (decide (m < 0) = false ∧ decide (64 < m) = true) := by
    by_cases h : m < 0
    · exact .inl (by simpa using h)
    · exact .inr ⟨by simpa using h, by simpa using hm.resolve_left h⟩
  go_enter Try.func9, Try.ntmps9
  rcases t1 with t1 | ⟨t1, t2⟩
  · go_wp2_with fail
    go_ret2
    exact ⟨rfl, rfl⟩
  · go_wp2_with fail
    go_ret2
    exact ⟨rfl, rfl⟩
namespace pastPlays
/-- Both pasts hold these. -/
structure Two (N : Nat) (w : World) (b rb n : Nat) (l : List Pa.Ent) (W : World) : Prop where
  own : ∃ u, Pa.Own N w W b n u l
  rat : ∃ ru, Pa.RAt W rb n ru l
  hN : N ≤ rb
theorem Two.grow {N : Nat} {w : World} {b rb n : Nat} {l : List Pa.Ent} {W W' : World} (h : Two N w b rb n l W) (hb : Below W.heap.size W W') : Two N w b rb n l W' :=
  ⟨h.own.elim fun u h => ⟨u, h.grow hb⟩, h.rat.elim fun u h => ⟨u, h.below hb⟩, h.hN⟩
set_option maxHeartbeats 40000000 in
theorem walk (m : Int) (v : Value) (xs : List (Int × Pa.Ent)) (w : World) (hv : Acts w v xs) :
    Calls Try.prog 6 #[.int .i64 m, v] w fun e w' => e = .returned (.bool true) ∧ Below w.heap.size w w' := by
  obtain ⟨N, hN⟩ : ∃ N, N = w.heap.size := ⟨_, rfl⟩
  have HN := Lib.hid hN
  have hR0 : Below N w w ∧ N ≤ w.heap.size := ⟨Below.refl _ _, by omega⟩
  rw [← hN]
  clear hN
  have hmax := hv.1.1
  obtain ⟨bv, cv, rfl, hcv, hcm⟩ := hv.1.len
  rw [List.length_map] at hmax hcv
  simp only [List.length_map] at *
  by_cases hlen : 200 < xs.length
  · go_enter Try.func6, Try.ntmps6
    have hmx : xs.length ≤ 9223372036854775807 := by simp only [maxLen] at hmax; omega
    go_wp2_with (first
      | (go_at_call 8; refine (awake22 _).mono ?_; rintro e w1 ⟨rfl, hb⟩; replace hR0 : Below N w w1 ∧ N ≤ w1.heap.size := ⟨hR0.1.trans (hb.mono hR0.2), Nat.le_trans hR0.2 hb.size⟩))
    go_ret
    exact ⟨rfl, hR0.1⟩
  · have hmx : xs.length ≤ 200 := by omega
    by_cases hbad : m < 0 ∨ 64 < m
    · have t1 : decide (m < 0) = true ∨ (decide (m < 0) = false ∧ decide (64 < m) = true) := by
        by_cases h : m < 0
        · exact .inl (by simpa using h)
        · exact .inr ⟨by simpa using h, by simpa using hbad.resolve_left h⟩
      go_enter Try.func6, Try.ntmps6
      rcases t1 with t1 | ⟨t1, t2⟩
      all_goals
        go_wp2_with (first
          | (go_at_call 8; refine (awake22 _).mono ?_; rintro e w1 ⟨rfl, hb⟩; replace hR0 : Below N w w1 ∧ N ≤ w1.heap.size := ⟨hR0.1.trans (hb.mono hR0.2), Nat.le_trans hR0.2 hb.size⟩)
          | (go_at_call 9; refine (past_new_bad m hbad _).mono ?_; rintro e w2 ⟨rfl, rfl⟩))
        go_ret
        exact ⟨rfl, hR0.1⟩
    · obtain ⟨n, rfl⟩ : ∃ n : Nat, m = n := ⟨m.toNat, by omega⟩
      have hn64 : n ≤ 64 := by omega
      have t1 : decide ((n : Int) < 0) = false := by simp
      have t2 : decide (64 < (n : Int)) = false := by simp; omega
      clear hbad
      go_enter Try.func6, Try.ntmps6
      go_upto_region 4 with (first
        | (go_at_call 8; refine (awake22 _).mono ?_; rintro e w1 ⟨rfl, hb⟩; replace hR0 : Below N w w1 ∧ N ≤ w1.heap.size := ⟨hR0.1.trans (hb.mono hR0.2), Nat.le_trans hR0.2 hb.size⟩)
        | (go_at_call 9; refine (own_new n hn64 N w _ hR0.1 hR0.2).mono ?_; rintro e w2 ⟨b, rfl, hO⟩))
      go_upto_region 7 with fail
      obtain ⟨rb, hrb⟩ : ∃ rb, rb = w2.heap.size := ⟨_, rfl⟩
      refine wp_world (fun W => Two N w b rb n [] W) ⟨⟨_, hO.grow ((Below.refl _ _).alloc (Nat.le_refl _) _)⟩, ⟨.slice none 0 0, Blk.new' _ _ _ hrb, View.nil _ _ _⟩, by rw [hrb]; exact hO.2.1⟩ ?_
      rw [← hrb]
      clear hrb hO hb hR0
      rintro W3 hT
      go_wp2_with fail
      go_loopw [8] (fun i wr => ∃ (j : Nat) (l : List Pa.Ent), j ≤ xs.length ∧ i = .int .i64 j ∧ l.length ≤ n ∧ Two N w b rb n l wr) (fun i _ => xs.length - (intOf i).toNat)
      case atStart => exact ⟨0, [], Nat.zero_le _, rfl, Nat.zero_le _, hT⟩
      case round =>
        clear hT
        obtain ⟨j, l, hj, rfl, hln, hT⟩ := hrel
        by_cases hlt : j < xs.length
        · have hBw : Below w.heap.size w wr := by rw [← HN.out]; exact (hT.own.elim fun u h => h.1)
          obtain ⟨ad, cap, hsl, hc⟩ := hv.1.at hBw (i := j) (by simpa using hlt)
          obtain ⟨rfl, rfl⟩ : bv = some ad ∧ cv = cap := by simpa using hsl
          obtain ⟨⟨d, x⟩, hx⟩ : ∃ a, xs.getD j (0, (0, 0, 0)) = a := ⟨_, rfl⟩
          have hd : (Lit.int .u8 d).wf = true := by
            have := hv.2 (xs[j]) (List.getElem_mem hlt)
            rw [List.getD_eq_getElem?_getD, List.getElem?_eq_getElem hlt] at hx
            simp only [Option.getD_some] at hx
            rw [hx] at this
            exact this
          have hcl : (xs.map actCells).getD j [] = actCells (d, x) := by
            rw [List.getD_eq_getElem?_getD, List.getElem?_map, List.getElem?_eq_getElem hlt]
            rw [List.getD_eq_getElem?_getD, List.getElem?_eq_getElem hlt] at hx
            simp only [Option.getD_some] at hx
            simp [hx]
          rw [hcl] at hc
          obtain ⟨d0, d1⟩ := bounds_u8 hd
          have e0 := hc 0 (by omega)
          have e1 := hc 1 (by omega)
          have e2 := hc 2 (by omega)
          have e3 := hc 3 (by omega)
          rw [Nat.add_zero] at e0
          rw [← Go.Deep.add_add] at e1 e2 e3
          obtain ⟨a2, ha2⟩ : ∃ a2, ad.add (j * 4) = a2 := ⟨_, rfl⟩
          rw [ha2] at e0 e1 e2 e3
          have g1 : ∀ k, k ≠ 0 → a2.add k = ⟨a2.block, a2.off + k, none⟩ := fun k hk => by unfold Addr.add; rw [if_neg hk]
          rw [g1 1 (by decide)] at e1
          rw [g1 2 (by decide)] at e2
          rw [g1 3 (by decide)] at e3
          clear g1
          simp only [actCells, List.getElem?_cons_zero, List.getElem?_cons_succ] at e0 e1 e2 e3
          obtain ⟨x1, x2, x3⟩ := x
          simp only at e1 e2 e3
          have ij0 : (0 : Int) ≤ (j : Int) := by omega
          have ij1 : (j : Int) < (xs.length : Int) := by omega
          clear hc hcl hx hsl
          go_upto_region 11 with fail
          obtain ⟨c9, hc9⟩ : ∃ c, c = wr.heap.size := ⟨_, rfl⟩
          refine wp_world (fun W => Blk W c9 #[.int .u8 d, .int .i64 x1, .int .i64 x2, .int .i64 x3] 54 ∧ Two N w b rb n l W) ⟨Blk.new' _ _ _ hc9, hT.grow ((Below.refl _ _).alloc (Nat.le_refl _) _)⟩ ?_
          rw [← hc9]
          clear hc9 hT hBw e0 e1 e2 e3 ha2
          rintro W4 ⟨b9, hT⟩
          have q2 := b9.cell 2
          by_cases hsz : x2 < 0 ∨ 1000000 < x2
          · have s1 : decide (x2 < 0) = true ∨ (decide (x2 < 0) = false ∧ decide (1000000 < x2) = true) := by
              by_cases h : x2 < 0
              · exact .inl (by simpa using h)
              · exact .inr ⟨by simpa using h, by simpa using hsz.resolve_left h⟩
            rcases s1 with s1 | ⟨s1, s2⟩
            all_goals
              go_wp2_with fail
              go_ret
              obtain ⟨u, hO⟩ := hT.own
              exact ⟨rfl, hO.1⟩
          · have s1 : decide (x2 < 0) = false := by simp; omega
            have s2 : decide (1000000 < x2) = false := by simp; omega
            have q0 := b9.cell 0
            obtain ⟨r, hr⟩ : ∃ r, d % 6 = r := ⟨_, rfl⟩
            have hr6 : 0 ≤ r ∧ r < 6 := by omega
            go_upto_block 2 with fail
            obtain ⟨u, hO⟩ := hT.own
            obtain ⟨ru, hRA⟩ := hT.rat
            have hNr := hT.hN
            clear hT q2 s1 s2
            go_cut [10, 11, 12, 13, 14, 15, 16, 17] from 48 to 186 (fun _ _ _ _ _ _ _ _ wx => ∃ l' : List Pa.Ent, l'.length ≤ n ∧ Two N w b rb n l' wx)
            case first =>
              by_cases hr4 : r = 4
              · subst hr4
                obtain ⟨⟨⟨y1, y2, y3⟩, ok⟩, hlast⟩ : ∃ y, Pa.last l = y := ⟨_, rfl⟩
                have hp := own_pop_any (by omega) hO
                have hrp := fun w h => rown_pop_any rb n ru l (by omega) w h
                rw [hlast] at hp hrp
                simp only [Pa.val] at hp hrp
                go_upto_region 21 with (first
                  | (go_at_call 11; refine hp.mono ?_; rintro e w5 ⟨rfl, u5, hO5, hC5⟩; have hRA5 := hRA.chg hO.2.2.1 hC5; have hRA6 := hRA5.below (w' := w5.alloc (.cells #[.int .i64 y1, .int .i64 y2, .int .i64 y3] 29)) ((Below.refl _ _).alloc (Nat.le_refl _) _))
                  | (go_at_call 17; refine (hrp _ hRA6).mono ?_; rintro e w7 ⟨rfl, ru7, hRA7, hC7⟩))
                have hB5 : Below w5.heap.size w5 (w5.alloc (.cells #[.int .i64 y1, .int .i64 y2, .int .i64 y3] 29)) := (Below.refl _ _).alloc (Nat.le_refl _) _
                have hO6 := hO5.grow hB5
                have hO7 := pastAll.own_rchg hO6 hRA6 hNr hC7
                have b10 : Blk (w5.alloc (.cells #[.int .i64 y1, .int .i64 y2, .int .i64 y3] 29)) w5.heap.size #[.int .i64 y1, .int .i64 y2, .int .i64 y3] 29 := Blk.new _ _ _
                have b10' := b10.chg hC7 (pastAll.blk_ne b10 hRA6.box (by decide))
                obtain ⟨c10, hc10⟩ : ∃ c, c = w5.heap.size := ⟨_, rfl⟩
                obtain ⟨c12, hc12⟩ : ∃ c, c = w7.heap.size := ⟨_, rfl⟩
                rw [← hc10] at b10'
                have hB7 : Below w7.heap.size w7 (w7.alloc (.cells #[.int .i64 y1, .int .i64 y2, .int .i64 y3] 44)) := (Below.refl _ _).alloc (Nat.le_refl _) _
                refine wp_world (fun W => Blk W c10 #[.int .i64 y1, .int .i64 y2, .int .i64 y3] 29 ∧ Blk W c12 #[.int .i64 y1, .int .i64 y2, .int .i64 y3] 44 ∧ Two N w b rb n l.dropLast W)
                  ⟨b10'.alloc _, Blk.new' _ _ _ hc12, ⟨_, hO7.grow hB7⟩, ⟨_, hRA7.below hB7⟩, hNr⟩ ?_
                rw [← hc10, ← hc12]
                have hl' : l.dropLast.length ≤ n := by simp; omega
                generalize l.dropLast = l' at hl' ⊢
                clear hc10 hc12 b10 b10' hO hO5 hO6 hO7 hRA hRA5 hRA6 hRA7 hC5 hC7 hB5 hB7 hp hrp hlast hln
                rintro W8 ⟨b10, b12, hT⟩
                refine wp_region_det (fun W => Blk W c10 #[.int .i64 y1, .int .i64 y2, .int .i64 y3] 29 ∧ Blk W c12 #[.int .i64 y1, .int .i64 y2, .int .i64 y3] 44 ∧ Two N w b rb n l' W) (by kernel_rfl) (by kernel_rfl) ⟨b10.drew, b12.drew, hT.grow (Below.refl _ _).drew⟩ ?_
                clear b10 b12 hT
                (first | (refine det_skip (by rfl) ?_; simp only [Act.put, List.setIfInBounds_toArray, List.set_cons_zero, List.set_cons_succ]) | (refine det_pure (v := ?_) (by rfl) ?_ ?_; rotate_left; (intro wS hS; go_simp; try with_reducible rfl); simp only [Act.put, List.setIfInBounds_toArray, List.set_cons_zero, List.set_cons_succ]))
                (first | (refine det_skip (by rfl) ?_; simp only [Act.put, List.setIfInBounds_toArray, List.set_cons_zero, List.set_cons_succ]) | (refine det_pure (v := ?_) (by rfl) ?_ ?_; rotate_left; (intro wS hS; go_simp; try with_reducible rfl); simp only [Act.put, List.setIfInBounds_toArray, List.set_cons_zero, List.set_cons_succ]))
                refine det_pure (v := .bool false) (by rfl) (fun w1 hS => by go_simp; try with_reducible rfl) ?_
                simp only [Act.put, List.setIfInBounds_toArray, List.set_cons_zero, List.set_cons_succ]
                (first | (refine det_skip (by rfl) ?_; simp only [Act.put, List.setIfInBounds_toArray, List.set_cons_zero, List.set_cons_succ]) | (refine det_pure (v := ?_) (by rfl) ?_ ?_; rotate_left; (intro wS hS; go_simp; try with_reducible rfl); simp only [Act.put, List.setIfInBounds_toArray, List.set_cons_zero, List.set_cons_succ]))
                refine det_load_row (by rfl) 29 _ rfl c10 rfl 29 _ _ (fun w1 hS => hS.1) Try.underlying29 rfl (by kernel_rfl) ?_
                simp only [Act.put, List.setIfInBounds_toArray, List.set_cons_zero, List.set_cons_succ]
                refine det_call (v := Pa.val (y1, y2, y3)) (by rfl) (by intro wS hS; go_simp; first | done | rfl) (fun w1 hS => (law_plain (y1, y2, y3) w1).mono fun e w2 h => ⟨h.1, hS.1.below h.2 hS.1.lt, hS.2.1.below h.2 hS.2.1.lt, hS.2.2.grow h.2⟩) ?_
                simp only [Act.put, List.setIfInBounds_toArray, List.set_cons_zero, List.set_cons_succ]
                refine det_load_row (by rfl) 44 _ rfl c12 rfl 44 _ _ (fun w1 hS => hS.2.1) Try.underlying44 rfl (by kernel_rfl) ?_
                simp only [Act.put, List.setIfInBounds_toArray, List.set_cons_zero, List.set_cons_succ]
                refine det_pure (v := .bool false) (by rfl) (fun w1 hS => (run_exec_neq_ent _ (.tmp 114) (.tmp 115) rfl (y1, y2, y3) (y1, y2, y3) rfl rfl).trans (by simp)) ?_
                simp only [Act.put, List.setIfInBounds_toArray, List.set_cons_zero, List.set_cons_succ]
                (repeat (first | (refine det_skip (by rfl) ?_; simp only [Act.put, List.setIfInBounds_toArray, List.set_cons_zero, List.set_cons_succ]) | (refine det_pure (v := ?_) (by rfl) ?_ ?_; rotate_left; (intro wS hS; go_simp; try with_reducible rfl); simp only [Act.put, List.setIfInBounds_toArray, List.set_cons_zero, List.set_cons_succ])))
                refine det_nil ?_
                rintro W9 ⟨_, _, hT⟩
                go_wp2_with fail
                go_meet
                exact ⟨l', hl', hT⟩
              · by_cases hr5 : r = 5
                · subst hr5
                  obtain ⟨br0, cr0, rfl, _, _⟩ := hRA.view.len
                  cases l with
                  | nil =>
                    go_upto_region 24 with fail
                    refine wp_region_one 1 (fun W => Pa.Own N w W b n u [] ∧ Pa.RAt W rb n (.slice br0 ([] : List Pa.Ent).length cr0) []) (fun W => (∃ u', Pa.Own N w W b n u' []) ∧ Pa.RAt W rb n (.slice br0 ([] : List Pa.Ent).length cr0) []) (by kernel_rfl) (by kernel_rfl) (by decide) ⟨hO.grow (Below.refl _ _).drew, hRA.below (Below.refl _ _).drew⟩ ?_
                    clear hO hRA
                    (refine one_pure (v := ?_) (by decide) (by rfl) ?_ ?_; rotate_left; (intro wS hS; go_simp; try with_reducible rfl); simp only [Act.put, List.setIfInBounds_toArray, List.set_cons_zero, List.set_cons_succ])
                    refine one_call (v := .bool false) rfl (by rfl) (by intro wS hS; go_simp; first | done | rfl) (fun w1 hS => (own_drop_any (by simp) hS.1).mono fun e w2 h => ⟨h.1, h.2.elim fun u' h2 => ⟨⟨u', h2.1⟩, hS.2.chg hS.1.2.2.1 h2.2⟩⟩) ?_
                    simp only [Act.put, List.setIfInBounds_toArray, List.set_cons_zero, List.set_cons_succ]
                    (refine one_pure (v := ?_) (by decide) (by rfl) ?_ ?_; rotate_left; (intro wS hS; go_simp; try with_reducible rfl); simp only [Act.put, List.setIfInBounds_toArray, List.set_cons_zero, List.set_cons_succ])
                    (refine one_pure (v := ?_) (by decide) (by rfl) ?_ ?_; rotate_left; (intro wS hS; go_simp; try with_reducible rfl); simp only [Act.put, List.setIfInBounds_toArray, List.set_cons_zero, List.set_cons_succ])
                    (refine one_pure (v := ?_) (by decide) (by rfl) ?_ ?_; rotate_left; (intro wS hS; go_simp; try with_reducible rfl); simp only [Act.put, List.setIfInBounds_toArray, List.set_cons_zero, List.set_cons_succ])
                    refine one_pure (v := .slice br0 ([] : List Pa.Ent).length cr0) (by decide) (by rfl) (fun w1 hS => by have cy := (hS.elim (fun h => h.2) (fun h => h.2)).box.cell 1; go_simp; try with_reducible rfl) ?_
                    simp only [Act.put, List.setIfInBounds_toArray, List.set_cons_zero, List.set_cons_succ]
                    refine one_pure (v := .int .i64 (([] : List Pa.Ent).length : Nat)) (by decide) (by rfl) (fun w1 hS => by go_simp; try with_reducible rfl) ?_
                    simp only [Act.put, List.setIfInBounds_toArray, List.set_cons_zero, List.set_cons_succ]
                    refine one_pure (v := .bool false) (by decide) (by rfl) (fun w1 hS => by go_simp; try with_reducible rfl) ?_
                    simp only [Act.put, List.setIfInBounds_toArray, List.set_cons_zero, List.set_cons_succ]
                    refine one_pure (v := .bool false) (by decide) (by rfl) (fun w1 hS => by go_simp; try with_reducible rfl) ?_
                    simp only [Act.put, List.setIfInBounds_toArray, List.set_cons_zero, List.set_cons_succ]
                    refine one_nil ⟨by rfl, ?_⟩
                    rintro W7 ⟨⟨u7, hO7⟩, hRA7⟩
                    have q7 := hRA7.box.cell 1
                    go_wp2_with fail
                    go_meet
                    exact ⟨[], Nat.zero_le _, ⟨_, hO7⟩, ⟨_, hRA7⟩, hNr⟩
                  | cons x0 t =>
                    go_upto_region 24 with fail
                    have hlt0 : t.length + 1 ≤ 64 := by simp only [List.length_cons] at hln; omega
                    have hdl : (0 : Int) < (((x0 :: t : List Pa.Ent).length : Nat) : Int) := by simp only [List.length_cons]; omega
                    refine wp_region_one 1 (fun W => Pa.Own N w W b n u (x0 :: t) ∧ Pa.RAt W rb n (.slice br0 (x0 :: t : List Pa.Ent).length cr0) (x0 :: t)) (fun W => (∃ u', Pa.Own N w W b n u' t) ∧ Pa.RAt W rb n (.slice br0 (x0 :: t : List Pa.Ent).length cr0) (x0 :: t)) (by kernel_rfl) (by kernel_rfl) (by decide) ⟨hO.grow (Below.refl _ _).drew, hRA.below (Below.refl _ _).drew⟩ ?_
                    clear hO hRA
                    (refine one_pure (v := ?_) (by decide) (by rfl) ?_ ?_; rotate_left; (intro wS hS; go_simp; try with_reducible rfl); simp only [Act.put, List.setIfInBounds_toArray, List.set_cons_zero, List.set_cons_succ])
                    refine one_call (v := .bool true) rfl (by rfl) (by intro wS hS; go_simp; first | done | rfl) (fun w1 hS => (own_drop_any (by simp only [List.length_cons]; omega) hS.1).mono fun e w2 h => ⟨h.1, h.2.elim fun u' h2 => ⟨⟨u', h2.1⟩, hS.2.chg hS.1.2.2.1 h2.2⟩⟩) ?_
                    simp only [Act.put, List.setIfInBounds_toArray, List.set_cons_zero, List.set_cons_succ]
                    (refine one_pure (v := ?_) (by decide) (by rfl) ?_ ?_; rotate_left; (intro wS hS; go_simp; try with_reducible rfl); simp only [Act.put, List.setIfInBounds_toArray, List.set_cons_zero, List.set_cons_succ])
                    (refine one_pure (v := ?_) (by decide) (by rfl) ?_ ?_; rotate_left; (intro wS hS; go_simp; try with_reducible rfl); simp only [Act.put, List.setIfInBounds_toArray, List.set_cons_zero, List.set_cons_succ])
                    (refine one_pure (v := ?_) (by decide) (by rfl) ?_ ?_; rotate_left; (intro wS hS; go_simp; try with_reducible rfl); simp only [Act.put, List.setIfInBounds_toArray, List.set_cons_zero, List.set_cons_succ])
                    refine one_pure (v := .slice br0 (x0 :: t : List Pa.Ent).length cr0) (by decide) (by rfl) (fun w1 hS => by have cy := (hS.elim (fun h => h.2) (fun h => h.2)).box.cell 1; go_simp; try with_reducible rfl) ?_
                    simp only [Act.put, List.setIfInBounds_toArray, List.set_cons_zero, List.set_cons_succ]
                    refine one_pure (v := .int .i64 ((x0 :: t : List Pa.Ent).length : Nat)) (by decide) (by rfl) (fun w1 hS => by go_simp; try with_reducible rfl) ?_
                    simp only [Act.put, List.setIfInBounds_toArray, List.set_cons_zero, List.set_cons_succ]
                    refine one_pure (v := .bool true) (by decide) (by rfl) (fun w1 hS => by go_simp; try with_reducible rfl) ?_
                    simp only [Act.put, List.setIfInBounds_toArray, List.set_cons_zero, List.set_cons_succ]
                    refine one_pure (v := .bool false) (by decide) (by rfl) (fun w1 hS => by go_simp; try with_reducible rfl) ?_
                    simp only [Act.put, List.setIfInBounds_toArray, List.set_cons_zero, List.set_cons_succ]
                    refine one_nil ⟨by rfl, ?_⟩
                    rintro W7 ⟨⟨u7, hO7⟩, hRA7⟩
                    obtain ⟨g, off, cap2, hge, hcp1, hcp2, hgl, _⟩ := hRA7.view.cells (by simp)
                    obtain ⟨rfl, rfl⟩ : br0 = some ⟨g, off, none⟩ ∧ cr0 = cap2 := by simpa using hge
                    clear hge
                    have q7 := hRA7.box.cell 1
                    have htl : ∀ off', (t.length = 0 ∨ off' = off + 3) → View W7 44 3 (.slice (some ⟨g, off', none⟩) t.length (cr0 - 1)) t.length (Pa.cells t) := fun off' ho => View.tail (xs := Pa.ent x0) hRA7.view rfl off' ho
                    have hcons : (x0 :: t : List Pa.Ent).length = t.length + 1 := rfl
                    rw [hcons] at hcp1 hRA7 q7 hdl ⊢
                    go_upto_region 27 with fail
                    have fin27 : ∀ (uv : Value) (W : World), View W7 44 3 uv t.length (Pa.cells t) → uv.ownBlock = some g → Below W7.heap.size W7 W → Two N w b rb n t (W.setCell ⟨rb, 1, none⟩ uv) := by
                      intro uv W hv hu hb
                      have hbx := hRA7.box.below hb hRA7.box.lt
                      have hgb : g ≠ rb := hRA7.view.typed hRA7.box (by decide) g rfl
                      have hch : Chg (· = rb) W (W.setCell ⟨rb, 1, none⟩ uv) := ⟨rfl, rfl, rfl, by simp, fun k _ hk => heap_setCell_other _ _ _ _ hk⟩
                      exact ⟨⟨u7, pastAll.own_rchg (hO7.grow hb) (hRA7.below hb) hNr hch⟩, ⟨uv, hbx.set 1 _, (hv.grow hb).other _ _ (fun k hk => by rw [hu] at hk; cases hk; exact hgb)⟩, hNr⟩
                    have hl' : t.length ≤ n := by simp only [List.length_cons] at hln; omega
                    by_cases hz : cr0 = 1
                    · subst hz
                      have ht0 : t.length = 0 := by omega
                      have hv0 : View W7 44 3 (.slice (some ⟨g, off, none⟩) 0 0) t.length (Pa.cells t) := by have := htl off (.inl ht0); simpa [ht0] using this
                      have fin := fun W hb => fin27 (.slice (some ⟨g, off, none⟩) 0 0) W hv0 rfl hb
                      clear htl hv0
                      have f7 := hRA7.box.free 1
                      go_wp2_with fail
                      go_meet
                      exact ⟨t, hl', fin _ (Below.refl _ _)⟩
                    · have hv0 := htl (off + 3) (.inr rfl)
                      have fin := fun W hb => fin27 (.slice (some ⟨g, off + 3, none⟩) t.length (cr0 - 1)) W hv0 rfl hb
                      clear htl hv0
                      have f7 := hRA7.box.free 1
                      go_wp2_with fail
                      go_meet
                      exact ⟨t, hl', fin _ (Below.refl _ _)⟩
                · have z4 : (r == 4) = false := by simpa using hr4
                  have z5 : (r == 5) = false := by simpa using hr5
                  have z4' : decide (r = 4) = false := by simpa using hr4
                  have z5' : decide (r = 5) = false := by simpa using hr5
                  have q1 := b9.cell 1
                  have q2 := b9.cell 2
                  have q3 := b9.cell 3
                  obtain ⟨⟨⟨y1, y2, y3⟩, ok⟩, hout⟩ : ∃ y, Pa.out n l (x1, x2, x3) = y := ⟨_, rfl⟩
                  have hp := fun W h => own_push_out (N := N) (w := w) (W := W) (b := b) (u := u) (x1, x2, x3) hln (by omega) h
                  have hrp := fun w h => rown_push_out rb n ru (x1, x2, x3) l hln (by omega) w h
                  have hof := fun w => law_of d (x1, x2, x3) w
                  simp only [hout, Pa.val] at hp hrp hof
                  go_upto_region 15 with (first
                    | (refine wpList_load_row rfl 54 _ rfl c9 rfl 54 _ _ _ b9 Try.underlying54 rfl (by kernel_rfl) ?_)
                    | (go_at_call 19; refine (hof _).mono ?_; rintro e w5 ⟨rfl, hb5⟩)
                    | (go_at_call 10; refine (hp _ (hO.grow hb5)).mono ?_; rintro e w6 ⟨rfl, u6, hO6, hC6⟩; have hRA6 := (hRA.below hb5).chg (hO.grow hb5).2.2.1 hC6; have b96 := (b9.below hb5 b9.lt).chg hC6 ((hO.grow hb5).2.2.1.apart (b9.below hb5 b9.lt) (by decide) (by decide))))
                  obtain ⟨c14, hc14⟩ : ∃ c, c = w6.heap.size := ⟨_, rfl⟩
                  have hB6 : Below w6.heap.size w6 (w6.alloc (.cells #[.int .i64 y1, .int .i64 y2, .int .i64 y3] 29)) := (Below.refl _ _).alloc (Nat.le_refl _) _
                  refine wp_world (fun W => Blk W c14 #[.int .i64 y1, .int .i64 y2, .int .i64 y3] 29 ∧ Blk W c9 #[.int .u8 d, .int .i64 x1, .int .i64 x2, .int .i64 x3] 54 ∧ Pa.Own N w W b n u6 (Pa.psh n l (x1, x2, x3)) ∧ Pa.RAt W rb n ru l) ⟨Blk.new' _ _ _ hc14, b96.alloc _, hO6.grow hB6, hRA6.below hB6⟩ ?_
                  rw [← hc14]
                  clear hc14 hB6 b96 hO6 hRA6 hC6 hO hRA b9 hb5 q0 q1 q2 q3 hp hof
                  rintro W6 ⟨b14, b9, hO6, hRA6⟩
                  have q1 := b9.cell 1
                  have q2 := b9.cell 2
                  have q3 := b9.cell 3
                  go_upto_region 16 with (go_at_call 14; refine (hrp _ hRA6).mono ?_; rintro e w7 ⟨rfl, ru7, hRA7, hC7⟩)
                  have hO7 := pastAll.own_rchg hO6 hRA6 hNr hC7
                  have b10' := b14.chg hC7 (pastAll.blk_ne b14 hRA6.box (by decide))
                  obtain ⟨c12, hc12⟩ : ∃ c, c = w7.heap.size := ⟨_, rfl⟩
                  have hB7 : Below w7.heap.size w7 (w7.alloc (.cells #[.int .i64 y1, .int .i64 y2, .int .i64 y3] 44)) := (Below.refl _ _).alloc (Nat.le_refl _) _
                  refine wp_world (fun W => Blk W c14 #[.int .i64 y1, .int .i64 y2, .int .i64 y3] 29 ∧ Blk W c12 #[.int .i64 y1, .int .i64 y2, .int .i64 y3] 44 ∧ Two N w b rb n (Pa.psh n l (x1, x2, x3)) W)
                    ⟨b10'.alloc _, Blk.new' _ _ _ hc12, ⟨_, hO7.grow hB7⟩, ⟨_, hRA7.below hB7⟩, hNr⟩ ?_
                  rw [← hc12]
                  have hl' := Pa.psh_len n l (x1, x2, x3) hln
                  generalize Pa.psh n l (x1, x2, x3) = l' at hl' ⊢
                  clear hc12 b14 b9 b10' hO6 hO7 hRA6 hRA7 hC7 hB7 hrp hout hln q1 q2 q3
                  rintro W8 ⟨b10, b12, hT⟩
                  refine wp_region_det (fun W => Blk W c14 #[.int .i64 y1, .int .i64 y2, .int .i64 y3] 29 ∧ Blk W c12 #[.int .i64 y1, .int .i64 y2, .int .i64 y3] 44 ∧ Two N w b rb n l' W) (by kernel_rfl) (by kernel_rfl) ⟨b10.drew, b12.drew, hT.grow (Below.refl _ _).drew⟩ ?_
                  clear b10 b12 hT
                  (first | (refine det_skip (by rfl) ?_; simp only [Act.put, List.setIfInBounds_toArray, List.set_cons_zero, List.set_cons_succ]) | (refine det_pure (v := ?_) (by rfl) ?_ ?_; rotate_left; (intro wS hS; go_simp; try with_reducible rfl); simp only [Act.put, List.setIfInBounds_toArray, List.set_cons_zero, List.set_cons_succ]))
                  (first | (refine det_skip (by rfl) ?_; simp only [Act.put, List.setIfInBounds_toArray, List.set_cons_zero, List.set_cons_succ]) | (refine det_pure (v := ?_) (by rfl) ?_ ?_; rotate_left; (intro wS hS; go_simp; try with_reducible rfl); simp only [Act.put, List.setIfInBounds_toArray, List.set_cons_zero, List.set_cons_succ]))
                  refine det_pure (v := .bool false) (by rfl) (fun w1 hS => by go_simp; try with_reducible rfl) ?_
                  simp only [Act.put, List.setIfInBounds_toArray, List.set_cons_zero, List.set_cons_succ]
                  (first | (refine det_skip (by rfl) ?_; simp only [Act.put, List.setIfInBounds_toArray, List.set_cons_zero, List.set_cons_succ]) | (refine det_pure (v := ?_) (by rfl) ?_ ?_; rotate_left; (intro wS hS; go_simp; try with_reducible rfl); simp only [Act.put, List.setIfInBounds_toArray, List.set_cons_zero, List.set_cons_succ]))
                  refine det_load_row (by rfl) 29 _ rfl c14 rfl 29 _ _ (fun w1 hS => hS.1) Try.underlying29 rfl (by kernel_rfl) ?_
                  simp only [Act.put, List.setIfInBounds_toArray, List.set_cons_zero, List.set_cons_succ]
                  refine det_call (v := Pa.val (y1, y2, y3)) (by rfl) (by intro wS hS; go_simp; first | done | rfl) (fun w1 hS => (law_plain (y1, y2, y3) w1).mono fun e w2 h => ⟨h.1, hS.1.below h.2 hS.1.lt, hS.2.1.below h.2 hS.2.1.lt, hS.2.2.grow h.2⟩) ?_
                  simp only [Act.put, List.setIfInBounds_toArray, List.set_cons_zero, List.set_cons_succ]
                  refine det_load_row (by rfl) 44 _ rfl c12 rfl 44 _ _ (fun w1 hS => hS.2.1) Try.underlying44 rfl (by kernel_rfl) ?_
                  simp only [Act.put, List.setIfInBounds_toArray, List.set_cons_zero, List.set_cons_succ]
                  refine det_pure (v := .bool false) (by rfl) (fun w1 hS => (run_exec_neq_ent _ (.tmp 93) (.tmp 94) rfl (y1, y2, y3) (y1, y2, y3) rfl rfl).trans (by simp)) ?_
                  simp only [Act.put, List.setIfInBounds_toArray, List.set_cons_zero, List.set_cons_succ]
                  (repeat (first | (refine det_skip (by rfl) ?_; simp only [Act.put, List.setIfInBounds_toArray, List.set_cons_zero, List.set_cons_succ]) | (refine det_pure (v := ?_) (by rfl) ?_ ?_; rotate_left; (intro wS hS; go_simp; try with_reducible rfl); simp only [Act.put, List.setIfInBounds_toArray, List.set_cons_zero, List.set_cons_succ])))
                  refine det_nil ?_
                  rintro W9 ⟨_, _, hT⟩
                  go_wp2_with fail
                  go_meet
                  exact ⟨l', hl', hT⟩
            case rest =>
              obtain ⟨l', hl', hT⟩ := hcut
              clear hO hRA b9 q0 hr hr6 hln
              obtain ⟨u9, hO9⟩ := hT.own
              obtain ⟨ru9, hRA9⟩ := hT.rat
              obtain ⟨br, cr, rfl, _, _⟩ := hRA9.view.len
              clear hT
              cases l' with
              | nil =>
                have hol := own_oldest_any hO9
                simp only [Pa.front, Pa.val] at hol
                go_upto_region 29 with (go_at_call 20; refine hol.mono ?_; rintro e wa ⟨rfl, hba⟩)
                obtain ⟨c18, hc18⟩ : ∃ c, c = wa.heap.size := ⟨_, rfl⟩
                have hBa : Below wa.heap.size wa (wa.alloc (.cells #[.int .i64 0, .int .i64 0, .int .i64 0] 29)) := (Below.refl _ _).alloc (Nat.le_refl _) _
                refine wp_world (fun W => Blk W c18 #[.int .i64 0, .int .i64 0, .int .i64 0] 29 ∧ Pa.Own N w W b n u9 ([] : List Pa.Ent) ∧ Pa.RAt W rb n (.slice br ([] : List Pa.Ent).length cr) ([] : List Pa.Ent)) ⟨Blk.new' _ _ _ hc18, (hO9.grow hba).grow hBa, (hRA9.below hba).below hBa⟩ ?_
                rw [← hc18]
                clear hc18 hO9 hRA9 hba hBa hol
                rintro Wb ⟨b18, hO9, hRA9⟩
                refine wp_region_det (fun W => Below Wb.heap.size Wb W) (by kernel_rfl) (by kernel_rfl) (Below.refl _ _).drew ?_
                (first | (refine det_skip (by rfl) ?_; simp only [Act.put, List.setIfInBounds_toArray, List.set_cons_zero, List.set_cons_succ]) | (refine det_pure (v := ?_) (by rfl) ?_ ?_; rotate_left; (intro wS hS; go_simp; try with_reducible rfl); simp only [Act.put, List.setIfInBounds_toArray, List.set_cons_zero, List.set_cons_succ]))
                refine det_call (v := .int .i64 (([] : List Pa.Ent).length : Nat)) (by rfl) (by intro wS hS; go_simp; first | done | rfl) (fun w1 hS => (own_len (hO9.grow hS)).mono fun e w2 h => ⟨h.1, by rw [← h.2]; exact hS⟩) ?_
                simp only [Act.put, List.setIfInBounds_toArray, List.set_cons_zero, List.set_cons_succ]
                (first | (refine det_skip (by rfl) ?_; simp only [Act.put, List.setIfInBounds_toArray, List.set_cons_zero, List.set_cons_succ]) | (refine det_pure (v := ?_) (by rfl) ?_ ?_; rotate_left; (intro wS hS; go_simp; try with_reducible rfl); simp only [Act.put, List.setIfInBounds_toArray, List.set_cons_zero, List.set_cons_succ]))
                (first | (refine det_skip (by rfl) ?_; simp only [Act.put, List.setIfInBounds_toArray, List.set_cons_zero, List.set_cons_succ]) | (refine det_pure (v := ?_) (by rfl) ?_ ?_; rotate_left; (intro wS hS; go_simp; try with_reducible rfl); simp only [Act.put, List.setIfInBounds_toArray, List.set_cons_zero, List.set_cons_succ]))
                (first | (refine det_skip (by rfl) ?_; simp only [Act.put, List.setIfInBounds_toArray, List.set_cons_zero, List.set_cons_succ]) | (refine det_pure (v := ?_) (by rfl) ?_ ?_; rotate_left; (intro wS hS; go_simp; try with_reducible rfl); simp only [Act.put, List.setIfInBounds_toArray, List.set_cons_zero, List.set_cons_succ]))
                refine det_pure (v := .slice br ([] : List Pa.Ent).length cr) (by rfl) (fun w1 hS => by have cy := (hRA9.box.below hS hRA9.box.lt).cell 1; go_simp; try with_reducible rfl) ?_
                simp only [Act.put, List.setIfInBounds_toArray, List.set_cons_zero, List.set_cons_succ]
                refine det_pure (v := .int .i64 (([] : List Pa.Ent).length : Nat)) (by rfl) (fun w1 hS => by go_simp; try with_reducible rfl) ?_
                simp only [Act.put, List.setIfInBounds_toArray, List.set_cons_zero, List.set_cons_succ]
                refine det_pure (v := .bool false) (by rfl) (fun w1 hS => by go_simp; try with_reducible rfl) ?_
                simp only [Act.put, List.setIfInBounds_toArray, List.set_cons_zero, List.set_cons_succ]
                (first | (refine det_skip (by rfl) ?_; simp only [Act.put, List.setIfInBounds_toArray, List.set_cons_zero, List.set_cons_succ]) | (refine det_pure (v := ?_) (by rfl) ?_ ?_; rotate_left; (intro wS hS; go_simp; try with_reducible rfl); simp only [Act.put, List.setIfInBounds_toArray, List.set_cons_zero, List.set_cons_succ]))
                (first | (refine det_skip (by rfl) ?_; simp only [Act.put, List.setIfInBounds_toArray, List.set_cons_zero, List.set_cons_succ]) | (refine det_pure (v := ?_) (by rfl) ?_ ?_; rotate_left; (intro wS hS; go_simp; try with_reducible rfl); simp only [Act.put, List.setIfInBounds_toArray, List.set_cons_zero, List.set_cons_succ]))
                refine det_call (v := .int .i64 (Pa.sum ([] : List Pa.Ent))) (by rfl) (by intro wS hS; go_simp; first | done | rfl) (fun w1 hS => (past_size b n u9 ([] : List Pa.Ent) (by omega) w1 (hO9.grow hS).2.2.1).mono fun e w2 h => ⟨h.1, hS.trans (h.2.mono hS.size)⟩) ?_
                simp only [Act.put, List.setIfInBounds_toArray, List.set_cons_zero, List.set_cons_succ]
                (first | (refine det_skip (by rfl) ?_; simp only [Act.put, List.setIfInBounds_toArray, List.set_cons_zero, List.set_cons_succ]) | (refine det_pure (v := ?_) (by rfl) ?_ ?_; rotate_left; (intro wS hS; go_simp; try with_reducible rfl); simp only [Act.put, List.setIfInBounds_toArray, List.set_cons_zero, List.set_cons_succ]))
                refine det_call (v := .int .i64 (Pa.sum ([] : List Pa.Ent))) (by rfl) (by intro wS hS; go_simp; first | done | rfl) (fun w1 hS => (rpast_size rb n _ ([] : List Pa.Ent) (by omega) w1 (hRA9.below hS)).mono fun e w2 h => ⟨h.1, by rw [h.2]; exact hS⟩) ?_
                simp only [Act.put, List.setIfInBounds_toArray, List.set_cons_zero, List.set_cons_succ]
                refine det_pure (v := .bool false) (by rfl) (fun w1 hS => by go_simp; try with_reducible rfl) ?_
                simp only [Act.put, List.setIfInBounds_toArray, List.set_cons_zero, List.set_cons_succ]
                (first | (refine det_skip (by rfl) ?_; simp only [Act.put, List.setIfInBounds_toArray, List.set_cons_zero, List.set_cons_succ]) | (refine det_pure (v := ?_) (by rfl) ?_ ?_; rotate_left; (intro wS hS; go_simp; try with_reducible rfl); simp only [Act.put, List.setIfInBounds_toArray, List.set_cons_zero, List.set_cons_succ]))
                (first | (refine det_skip (by rfl) ?_; simp only [Act.put, List.setIfInBounds_toArray, List.set_cons_zero, List.set_cons_succ]) | (refine det_pure (v := ?_) (by rfl) ?_ ?_; rotate_left; (intro wS hS; go_simp; try with_reducible rfl); simp only [Act.put, List.setIfInBounds_toArray, List.set_cons_zero, List.set_cons_succ]))
                (first | (refine det_skip (by rfl) ?_; simp only [Act.put, List.setIfInBounds_toArray, List.set_cons_zero, List.set_cons_succ]) | (refine det_pure (v := ?_) (by rfl) ?_ ?_; rotate_left; (intro wS hS; go_simp; try with_reducible rfl); simp only [Act.put, List.setIfInBounds_toArray, List.set_cons_zero, List.set_cons_succ]))
                (first | (refine det_skip (by rfl) ?_; simp only [Act.put, List.setIfInBounds_toArray, List.set_cons_zero, List.set_cons_succ]) | (refine det_pure (v := ?_) (by rfl) ?_ ?_; rotate_left; (intro wS hS; go_simp; try with_reducible rfl); simp only [Act.put, List.setIfInBounds_toArray, List.set_cons_zero, List.set_cons_succ]))
                (first | (refine det_skip (by rfl) ?_; simp only [Act.put, List.setIfInBounds_toArray, List.set_cons_zero, List.set_cons_succ]) | (refine det_pure (v := ?_) (by rfl) ?_ ?_; rotate_left; (intro wS hS; go_simp; try with_reducible rfl); simp only [Act.put, List.setIfInBounds_toArray, List.set_cons_zero, List.set_cons_succ]))
                (first | (refine det_skip (by rfl) ?_; simp only [Act.put, List.setIfInBounds_toArray, List.set_cons_zero, List.set_cons_succ]) | (refine det_pure (v := ?_) (by rfl) ?_ ?_; rotate_left; (intro wS hS; go_simp; try with_reducible rfl); simp only [Act.put, List.setIfInBounds_toArray, List.set_cons_zero, List.set_cons_succ]))
                refine det_pure (v := .slice br ([] : List Pa.Ent).length cr) (by rfl) (fun w1 hS => by have cy := (hRA9.box.below hS hRA9.box.lt).cell 1; go_simp; try with_reducible rfl) ?_
                simp only [Act.put, List.setIfInBounds_toArray, List.set_cons_zero, List.set_cons_succ]
                refine det_pure (v := .int .i64 (([] : List Pa.Ent).length : Nat)) (by rfl) (fun w1 hS => by go_simp; try with_reducible rfl) ?_
                simp only [Act.put, List.setIfInBounds_toArray, List.set_cons_zero, List.set_cons_succ]
                refine det_pure (v := .bool false) (by rfl) (fun w1 hS => by go_simp; try with_reducible rfl) ?_
                simp only [Act.put, List.setIfInBounds_toArray, List.set_cons_zero, List.set_cons_succ]
                refine det_pure (v := .bool false) (by rfl) (fun w1 hS => by go_simp; try with_reducible rfl) ?_
                simp only [Act.put, List.setIfInBounds_toArray, List.set_cons_zero, List.set_cons_succ]
                (first | (refine det_skip (by rfl) ?_; simp only [Act.put, List.setIfInBounds_toArray, List.set_cons_zero, List.set_cons_succ]) | (refine det_pure (v := ?_) (by rfl) ?_ ?_; rotate_left; (intro wS hS; go_simp; try with_reducible rfl); simp only [Act.put, List.setIfInBounds_toArray, List.set_cons_zero, List.set_cons_succ]))
                (first | (refine det_skip (by rfl) ?_; simp only [Act.put, List.setIfInBounds_toArray, List.set_cons_zero, List.set_cons_succ]) | (refine det_pure (v := ?_) (by rfl) ?_ ?_; rotate_left; (intro wS hS; go_simp; try with_reducible rfl); simp only [Act.put, List.setIfInBounds_toArray, List.set_cons_zero, List.set_cons_succ]))
                (first | (refine det_skip (by rfl) ?_; simp only [Act.put, List.setIfInBounds_toArray, List.set_cons_zero, List.set_cons_succ]) | (refine det_pure (v := ?_) (by rfl) ?_ ?_; rotate_left; (intro wS hS; go_simp; try with_reducible rfl); simp only [Act.put, List.setIfInBounds_toArray, List.set_cons_zero, List.set_cons_succ]))
                (first | (refine det_skip (by rfl) ?_; simp only [Act.put, List.setIfInBounds_toArray, List.set_cons_zero, List.set_cons_succ]) | (refine det_pure (v := ?_) (by rfl) ?_ ?_; rotate_left; (intro wS hS; go_simp; try with_reducible rfl); simp only [Act.put, List.setIfInBounds_toArray, List.set_cons_zero, List.set_cons_succ]))
                (repeat (first | (refine det_skip (by rfl) ?_; simp only [Act.put, List.setIfInBounds_toArray, List.set_cons_zero, List.set_cons_succ]) | (refine det_pure (v := ?_) (by rfl) ?_ ?_; rotate_left; (intro wS hS; go_simp; try with_reducible rfl); simp only [Act.put, List.setIfInBounds_toArray, List.set_cons_zero, List.set_cons_succ])))
                refine det_nil ?_
                intro Wc hbc
                go_wp2_with fail
                exact ⟨⟨j + 1, ([] : List Pa.Ent), by omega, by go_num, hl', ⟨_, hO9.grow hbc⟩, ⟨_, hRA9.below hbc⟩, hNr⟩, by simp [intOf]; omega⟩
              | cons z t =>
                obtain ⟨z1, z2, z3⟩ := z
                have hl9 : ((z1, z2, z3) :: t : List Pa.Ent).length ≤ 64 := by omega
                have hol := own_oldest_any hO9
                simp only [Pa.front, Pa.val] at hol
                go_upto_region 29 with (go_at_call 20; refine hol.mono ?_; rintro e wa ⟨rfl, hba⟩)
                obtain ⟨c18, hc18⟩ : ∃ c, c = wa.heap.size := ⟨_, rfl⟩
                have hBa : Below wa.heap.size wa (wa.alloc (.cells #[.int .i64 z1, .int .i64 z2, .int .i64 z3] 29)) := (Below.refl _ _).alloc (Nat.le_refl _) _
                refine wp_world (fun W => Blk W c18 #[.int .i64 z1, .int .i64 z2, .int .i64 z3] 29 ∧ Pa.Own N w W b n u9 ((z1, z2, z3) :: t) ∧ Pa.RAt W rb n (.slice br ((z1, z2, z3) :: t).length cr) ((z1, z2, z3) :: t)) ⟨Blk.new' _ _ _ hc18, (hO9.grow hba).grow hBa, (hRA9.below hba).below hBa⟩ ?_
                rw [← hc18]
                clear hc18 hO9 hRA9 hba hBa hol
                rintro Wb ⟨b18, hO9, hRA9⟩
                refine wp_region_det (fun W => Below Wb.heap.size Wb W) (by kernel_rfl) (by kernel_rfl) (Below.refl _ _).drew ?_
                (first | (refine det_skip (by rfl) ?_; simp only [Act.put, List.setIfInBounds_toArray, List.set_cons_zero, List.set_cons_succ]) | (refine det_pure (v := ?_) (by rfl) ?_ ?_; rotate_left; (intro wS hS; go_simp; try with_reducible rfl); simp only [Act.put, List.setIfInBounds_toArray, List.set_cons_zero, List.set_cons_succ]))
                refine det_call (v := .int .i64 (((z1, z2, z3) :: t).length : Nat)) (by rfl) (by intro wS hS; go_simp; first | done | rfl) (fun w1 hS => (own_len (hO9.grow hS)).mono fun e w2 h => ⟨h.1, by rw [← h.2]; exact hS⟩) ?_
                simp only [Act.put, List.setIfInBounds_toArray, List.set_cons_zero, List.set_cons_succ]
                (first | (refine det_skip (by rfl) ?_; simp only [Act.put, List.setIfInBounds_toArray, List.set_cons_zero, List.set_cons_succ]) | (refine det_pure (v := ?_) (by rfl) ?_ ?_; rotate_left; (intro wS hS; go_simp; try with_reducible rfl); simp only [Act.put, List.setIfInBounds_toArray, List.set_cons_zero, List.set_cons_succ]))
                (first | (refine det_skip (by rfl) ?_; simp only [Act.put, List.setIfInBounds_toArray, List.set_cons_zero, List.set_cons_succ]) | (refine det_pure (v := ?_) (by rfl) ?_ ?_; rotate_left; (intro wS hS; go_simp; try with_reducible rfl); simp only [Act.put, List.setIfInBounds_toArray, List.set_cons_zero, List.set_cons_succ]))
                (first | (refine det_skip (by rfl) ?_; simp only [Act.put, List.setIfInBounds_toArray, List.set_cons_zero, List.set_cons_succ]) | (refine det_pure (v := ?_) (by rfl) ?_ ?_; rotate_left; (intro wS hS; go_simp; try with_reducible rfl); simp only [Act.put, List.setIfInBounds_toArray, List.set_cons_zero, List.set_cons_succ]))
                refine det_pure (v := .slice br ((z1, z2, z3) :: t).length cr) (by rfl) (fun w1 hS => by have cy := (hRA9.box.below hS hRA9.box.lt).cell 1; go_simp; try with_reducible rfl) ?_
                simp only [Act.put, List.setIfInBounds_toArray, List.set_cons_zero, List.set_cons_succ]
                refine det_pure (v := .int .i64 (((z1, z2, z3) :: t).length : Nat)) (by rfl) (fun w1 hS => by go_simp; try with_reducible rfl) ?_
                simp only [Act.put, List.setIfInBounds_toArray, List.set_cons_zero, List.set_cons_succ]
                refine det_pure (v := .bool false) (by rfl) (fun w1 hS => by go_simp; try with_reducible rfl) ?_
                simp only [Act.put, List.setIfInBounds_toArray, List.set_cons_zero, List.set_cons_succ]
                (first | (refine det_skip (by rfl) ?_; simp only [Act.put, List.setIfInBounds_toArray, List.set_cons_zero, List.set_cons_succ]) | (refine det_pure (v := ?_) (by rfl) ?_ ?_; rotate_left; (intro wS hS; go_simp; try with_reducible rfl); simp only [Act.put, List.setIfInBounds_toArray, List.set_cons_zero, List.set_cons_succ]))
                (first | (refine det_skip (by rfl) ?_; simp only [Act.put, List.setIfInBounds_toArray, List.set_cons_zero, List.set_cons_succ]) | (refine det_pure (v := ?_) (by rfl) ?_ ?_; rotate_left; (intro wS hS; go_simp; try with_reducible rfl); simp only [Act.put, List.setIfInBounds_toArray, List.set_cons_zero, List.set_cons_succ]))
                refine det_call (v := .int .i64 (Pa.sum ((z1, z2, z3) :: t))) (by rfl) (by intro wS hS; go_simp; first | done | rfl) (fun w1 hS => (past_size b n u9 ((z1, z2, z3) :: t) (by omega) w1 (hO9.grow hS).2.2.1).mono fun e w2 h => ⟨h.1, hS.trans (h.2.mono hS.size)⟩) ?_
                simp only [Act.put, List.setIfInBounds_toArray, List.set_cons_zero, List.set_cons_succ]
                (first | (refine det_skip (by rfl) ?_; simp only [Act.put, List.setIfInBounds_toArray, List.set_cons_zero, List.set_cons_succ]) | (refine det_pure (v := ?_) (by rfl) ?_ ?_; rotate_left; (intro wS hS; go_simp; try with_reducible rfl); simp only [Act.put, List.setIfInBounds_toArray, List.set_cons_zero, List.set_cons_succ]))
                refine det_call (v := .int .i64 (Pa.sum ((z1, z2, z3) :: t))) (by rfl) (by intro wS hS; go_simp; first | done | rfl) (fun w1 hS => (rpast_size rb n _ ((z1, z2, z3) :: t) (by omega) w1 (hRA9.below hS)).mono fun e w2 h => ⟨h.1, by rw [h.2]; exact hS⟩) ?_
                simp only [Act.put, List.setIfInBounds_toArray, List.set_cons_zero, List.set_cons_succ]
                refine det_pure (v := .bool false) (by rfl) (fun w1 hS => by go_simp; try with_reducible rfl) ?_
                simp only [Act.put, List.setIfInBounds_toArray, List.set_cons_zero, List.set_cons_succ]
                (first | (refine det_skip (by rfl) ?_; simp only [Act.put, List.setIfInBounds_toArray, List.set_cons_zero, List.set_cons_succ]) | (refine det_pure (v := ?_) (by rfl) ?_ ?_; rotate_left; (intro wS hS; go_simp; try with_reducible rfl); simp only [Act.put, List.setIfInBounds_toArray, List.set_cons_zero, List.set_cons_succ]))
                (first | (refine det_skip (by rfl) ?_; simp only [Act.put, List.setIfInBounds_toArray, List.set_cons_zero, List.set_cons_succ]) | (refine det_pure (v := ?_) (by rfl) ?_ ?_; rotate_left; (intro wS hS; go_simp; try with_reducible rfl); simp only [Act.put, List.setIfInBounds_toArray, List.set_cons_zero, List.set_cons_succ]))
                (first | (refine det_skip (by rfl) ?_; simp only [Act.put, List.setIfInBounds_toArray, List.set_cons_zero, List.set_cons_succ]) | (refine det_pure (v := ?_) (by rfl) ?_ ?_; rotate_left; (intro wS hS; go_simp; try with_reducible rfl); simp only [Act.put, List.setIfInBounds_toArray, List.set_cons_zero, List.set_cons_succ]))
                (first | (refine det_skip (by rfl) ?_; simp only [Act.put, List.setIfInBounds_toArray, List.set_cons_zero, List.set_cons_succ]) | (refine det_pure (v := ?_) (by rfl) ?_ ?_; rotate_left; (intro wS hS; go_simp; try with_reducible rfl); simp only [Act.put, List.setIfInBounds_toArray, List.set_cons_zero, List.set_cons_succ]))
                (first | (refine det_skip (by rfl) ?_; simp only [Act.put, List.setIfInBounds_toArray, List.set_cons_zero, List.set_cons_succ]) | (refine det_pure (v := ?_) (by rfl) ?_ ?_; rotate_left; (intro wS hS; go_simp; try with_reducible rfl); simp only [Act.put, List.setIfInBounds_toArray, List.set_cons_zero, List.set_cons_succ]))
                (first | (refine det_skip (by rfl) ?_; simp only [Act.put, List.setIfInBounds_toArray, List.set_cons_zero, List.set_cons_succ]) | (refine det_pure (v := ?_) (by rfl) ?_ ?_; rotate_left; (intro wS hS; go_simp; try with_reducible rfl); simp only [Act.put, List.setIfInBounds_toArray, List.set_cons_zero, List.set_cons_succ]))
                refine det_pure (v := .slice br ((z1, z2, z3) :: t).length cr) (by rfl) (fun w1 hS => by have cy := (hRA9.box.below hS hRA9.box.lt).cell 1; go_simp; try with_reducible rfl) ?_
                simp only [Act.put, List.setIfInBounds_toArray, List.set_cons_zero, List.set_cons_succ]
                refine det_pure (v := .int .i64 (((z1, z2, z3) :: t).length : Nat)) (by rfl) (fun w1 hS => by go_simp; try with_reducible rfl) ?_
                simp only [Act.put, List.setIfInBounds_toArray, List.set_cons_zero, List.set_cons_succ]
                refine det_pure (v := .bool true) (by rfl) (fun w1 hS => by go_simp; try with_reducible rfl) ?_
                simp only [Act.put, List.setIfInBounds_toArray, List.set_cons_zero, List.set_cons_succ]
                refine det_pure (v := .bool false) (by rfl) (fun w1 hS => by go_simp; try with_reducible rfl) ?_
                simp only [Act.put, List.setIfInBounds_toArray, List.set_cons_zero, List.set_cons_succ]
                (first | (refine det_skip (by rfl) ?_; simp only [Act.put, List.setIfInBounds_toArray, List.set_cons_zero, List.set_cons_succ]) | (refine det_pure (v := ?_) (by rfl) ?_ ?_; rotate_left; (intro wS hS; go_simp; try with_reducible rfl); simp only [Act.put, List.setIfInBounds_toArray, List.set_cons_zero, List.set_cons_succ]))
                (first | (refine det_skip (by rfl) ?_; simp only [Act.put, List.setIfInBounds_toArray, List.set_cons_zero, List.set_cons_succ]) | (refine det_pure (v := ?_) (by rfl) ?_ ?_; rotate_left; (intro wS hS; go_simp; try with_reducible rfl); simp only [Act.put, List.setIfInBounds_toArray, List.set_cons_zero, List.set_cons_succ]))
                (first | (refine det_skip (by rfl) ?_; simp only [Act.put, List.setIfInBounds_toArray, List.set_cons_zero, List.set_cons_succ]) | (refine det_pure (v := ?_) (by rfl) ?_ ?_; rotate_left; (intro wS hS; go_simp; try with_reducible rfl); simp only [Act.put, List.setIfInBounds_toArray, List.set_cons_zero, List.set_cons_succ]))
                (first | (refine det_skip (by rfl) ?_; simp only [Act.put, List.setIfInBounds_toArray, List.set_cons_zero, List.set_cons_succ]) | (refine det_pure (v := ?_) (by rfl) ?_ ?_; rotate_left; (intro wS hS; go_simp; try with_reducible rfl); simp only [Act.put, List.setIfInBounds_toArray, List.set_cons_zero, List.set_cons_succ]))
                refine det_load_row (by rfl) 29 _ rfl c18 rfl 29 _ _ (fun w1 hS => b18.below hS b18.lt) Try.underlying29 rfl (by kernel_rfl) ?_
                simp only [Act.put, List.setIfInBounds_toArray, List.set_cons_zero, List.set_cons_succ]
                refine det_call (v := Pa.val (z1, z2, z3)) (by rfl) (by intro wS hS; go_simp; first | done | rfl) (fun w1 hS => (law_plain (z1, z2, z3) w1).mono fun e w2 h => ⟨h.1, hS.trans (h.2.mono hS.size)⟩) ?_
                simp only [Act.put, List.setIfInBounds_toArray, List.set_cons_zero, List.set_cons_succ]
                (first | (refine det_skip (by rfl) ?_; simp only [Act.put, List.setIfInBounds_toArray, List.set_cons_zero, List.set_cons_succ]) | (refine det_pure (v := ?_) (by rfl) ?_ ?_; rotate_left; (intro wS hS; go_simp; try with_reducible rfl); simp only [Act.put, List.setIfInBounds_toArray, List.set_cons_zero, List.set_cons_succ]))
                (first | (refine det_skip (by rfl) ?_; simp only [Act.put, List.setIfInBounds_toArray, List.set_cons_zero, List.set_cons_succ]) | (refine det_pure (v := ?_) (by rfl) ?_ ?_; rotate_left; (intro wS hS; go_simp; try with_reducible rfl); simp only [Act.put, List.setIfInBounds_toArray, List.set_cons_zero, List.set_cons_succ]))
                (first | (refine det_skip (by rfl) ?_; simp only [Act.put, List.setIfInBounds_toArray, List.set_cons_zero, List.set_cons_succ]) | (refine det_pure (v := ?_) (by rfl) ?_ ?_; rotate_left; (intro wS hS; go_simp; try with_reducible rfl); simp only [Act.put, List.setIfInBounds_toArray, List.set_cons_zero, List.set_cons_succ]))
                refine det_pure (v := .slice br ((z1, z2, z3) :: t).length cr) (by rfl) (fun w1 hS => by have cy := (hRA9.box.below hS hRA9.box.lt).cell 1; go_simp; try with_reducible rfl) ?_
                simp only [Act.put, List.setIfInBounds_toArray, List.set_cons_zero, List.set_cons_succ]
                obtain ⟨g, off, cap2, hge, _, _, hgl, hgc⟩ := hRA9.view.cells (by simp)
                obtain ⟨rfl, rfl⟩ : br = some ⟨g, off, none⟩ ∧ cr = cap2 := by simpa using hge
                have f0 := hgc 0 (by simp only [List.length_cons]; omega)
                have f1 := hgc 1 (by simp only [List.length_cons]; omega)
                have f2 := hgc 2 (by simp only [List.length_cons]; omega)
                simp only [Pa.cells_cons, Pa.ent, List.cons_append, List.getElem?_cons_zero, List.getElem?_cons_succ, Nat.add_zero] at f0 f1 f2
                clear hgc hge
                have hpos : (0 : Int) < (((z1, z2, z3) :: t : List Pa.Ent).length : Int) := by simp only [List.length_cons]; omega
                refine det_pure (v := .pointer (some ⟨g, off, none⟩)) (by rfl) (fun w1 hS => by go_simp; try with_reducible rfl) ?_
                simp only [Act.put, List.setIfInBounds_toArray, List.set_cons_zero, List.set_cons_succ]
                refine det_pure (v := Pa.val (z1, z2, z3)) (by rfl) (fun w1 hS => by
                  have d0 := (hS.cell (p := ⟨g, off, none⟩) hgl).trans f0
                  have d1 := (hS.cell (p := ⟨g, off + 1, none⟩) hgl).trans f1
                  have d2 := (hS.cell (p := ⟨g, off + 2, none⟩) hgl).trans f2
                  clear f0 f1 f2
                  simp only [Pa.val]
                  go_simp; try with_reducible rfl) ?_
                simp only [Act.put, List.setIfInBounds_toArray, List.set_cons_zero, List.set_cons_succ]
                refine det_pure (v := .bool false) (by rfl) (fun w1 hS => (run_exec_neq_ent _ (.tmp 177) (.tmp 183) rfl (z1, z2, z3) (z1, z2, z3) rfl rfl).trans (by simp)) ?_
                simp only [Act.put, List.setIfInBounds_toArray, List.set_cons_zero, List.set_cons_succ]
                (repeat (first | (refine det_skip (by rfl) ?_; simp only [Act.put, List.setIfInBounds_toArray, List.set_cons_zero, List.set_cons_succ]) | (refine det_pure (v := ?_) (by rfl) ?_ ?_; rotate_left; (intro wS hS; go_simp; try with_reducible rfl); simp only [Act.put, List.setIfInBounds_toArray, List.set_cons_zero, List.set_cons_succ])))
                refine det_nil ?_
                intro Wc hbc
                go_wp2_with fail
                exact ⟨⟨j + 1, ((z1, z2, z3) :: t), by omega, by go_num, hl', ⟨_, hO9.grow hbc⟩, ⟨_, hRA9.below hbc⟩, hNr⟩, by simp [intOf]; omega⟩
        · obtain rfl : j = xs.length := by omega
          go_wp2_with fail
          go_ret
          obtain ⟨u, hO⟩ := hT.own
          exact ⟨rfl, hO.1⟩
end pastPlays
theorem pastPlays.core (a0 : Int) (v1 : Value) (a1 : List (Int × Pa.Ent)) (_w0 : (Lit.int .i64 a0).wf = true) (W : World) (s1 : Acts W v1 a1) :
    Calls Try.prog 6 #[.int .i64 a0, v1] W fun e w' => e = .returned (.bool true) ∧ Below W.heap.size W w' := pastPlays.walk a0 v1 a1 W s1
end Go.Proofs.Ytcdfamllamjpeaa
