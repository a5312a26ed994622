/- The document's pictures: are two the same; which turn makes one. -/
import Derived.Test.YtcdfamllamjpeaaDoorPicTurn
import Derived.Test.YtcdfamllamjpeaaDoorDet2
namespace Go.Proofs.YtcdfamllamjpeaaDoor
open Go.RowKit
namespace Pc
theorem cells_get' {w : World} {lo : Nat} {b : Option Addr} {n cap : Nat} {l : List Nat} (h : Nums w lo (.slice b n cap) l) {y : Nat} (hy : y < l.length) : ∃ g, b = some ⟨g, 0, none⟩ ∧ ∀ y, y < l.length → w.cell? ⟨g, y, none⟩ = some (.int .i64 (l.getD y 0 : Nat)) := by
  obtain ⟨g', cap', hv, _, _, hc⟩ := Row.cells h (by omega)
  simp only [Value.slice.injEq] at hv
  obtain ⟨rfl, rfl, rfl⟩ := hv
  exact ⟨g', rfl, fun y hy => (hc y (by rw [Nat.mul_one]; exact hy)).trans (cells_get l y hy)⟩
theorem ne_of_len {l m : List Nat} (h : l.length = m.length) (hn : l ≠ m) : ∃ i, i < l.length ∧ l.getD i 0 ≠ m.getD i 0 := by
  by_cases hc : ∃ i, i < l.length ∧ l.getD i 0 ≠ m.getD i 0
  · exact hc
  · exfalso
    apply hn
    apply List.ext_getElem h
    intro i h1 h2
    by_cases e : l.getD i 0 = m.getD i 0
    · simpa [List.getD_eq_getElem?_getD, List.getElem?_eq_getElem h1, List.getElem?_eq_getElem h2] using e
    · exact absurd ⟨i, h1, e⟩ hc
end Pc
set_option maxRecDepth 100000 in
set_option maxHeartbeats 4000000 in
theorem same_any (p q : Pc.Pict) (hp : Pc.Ok p) (hq : Pc.Ok q) (v u : Value) (w : World) (hv : Pc.Is w 0 v p.1 p.2.1 p.2.2) (hu : Pc.Is w 0 u q.1 q.2.1 q.2.2) :
    Calls Tryd.prog 28 #[v, u] w fun e w' => e = .returned (.bool (decide (p = q))) ∧ Below w.heap.size w w' := by
  obtain ⟨c, r, l⟩ := p
  obtain ⟨C, R, L⟩ := q
  obtain ⟨v, rfl, hv⟩ := hv
  obtain ⟨u, rfl, hu⟩ := hu
  obtain ⟨hl, hc, hr, hcr⟩ := hp
  obtain ⟨hL, hC, hR, hCR⟩ := hq
  simp only at *
  obtain ⟨bv, cv, rfl⟩ := hv.len
  obtain ⟨bu, cu, rfl⟩ := hu.len
  have hB0 : Below w.heap.size w ((w.alloc (.cells #[.int .i64 c, .int .i64 r, .slice bv l.length cv] 31)).alloc (.cells #[.int .i64 C, .int .i64 R, .slice bu L.length cu] 31)) := ((Below.refl _ _).alloc (Nat.le_refl _) _).alloc (by simp) _
  have hsl : l.length ≤ 36 := by rw [hl]; exact hcr
  have hsL : L.length ≤ 36 := by rw [hL]; exact hCR
  by_cases hcC : c = C
  · by_cases hrR : r = R
    · subst hcC hrR
      have hlen : l.length = L.length := by rw [hl, hL]
      have t1 : ((l.length : Int) != (L.length : Int)) = false := by rw [hlen]; simp
      have HLEN := Lib.hid hlen
      clear hl hL hlen hcr hCR
      obtain ⟨D, hD⟩ : ∃ D, decide ((c, r, l) = (c, r, L)) = D := ⟨_, rfl⟩
      rw [hD]
      have HD := Lib.hid hD
      clear hD
      go_enter Tryd.func28, Tryd.ntmps28
      go_wp2_with fail
      refine wp_world (fun W => Blk W w.heap.size #[.int .i64 c, .int .i64 r, .slice bv l.length cv] 31 ∧ Blk W (w.heap.size+1) #[.int .i64 c, .int .i64 r, .slice bu L.length cu] 31 ∧ Pc.Nums W 0 (.slice bv l.length cv) l ∧ Pc.Nums W 0 (.slice bu L.length cu) L ∧ Below w.heap.size w W)
        ⟨(Blk.new _ _ _).alloc _, Blk.new' _ _ _ (by simp), (Row.grow hv ((Below.refl _ _).alloc (Nat.le_refl _) _)).grow ((Below.refl _ _).alloc (Nat.le_refl _) _), (Row.grow hu ((Below.refl _ _).alloc (Nat.le_refl _) _)).grow ((Below.refl _ _).alloc (Nat.le_refl _) _), hB0⟩ ?_
      clear hB0 hv hu
      rintro W0 ⟨b0, b1, hv, hu, hB⟩
      go_loopw [5] (fun i wr => ∃ j : Nat, j ≤ l.length ∧ i = .int .i64 j ∧ (Blk wr w.heap.size #[.int .i64 c, .int .i64 r, .slice bv l.length cv] 31 ∧ Blk wr (w.heap.size+1) #[.int .i64 c, .int .i64 r, .slice bu L.length cu] 31 ∧ Pc.Nums wr 0 (.slice bv l.length cv) l ∧ Pc.Nums wr 0 (.slice bu L.length cu) L ∧ Below w.heap.size w wr) ∧ Hid (∀ y, y < j → l.getD y 0 = L.getD y 0)) (fun i _ => l.length - (intOf i).toNat)
      case atStart => exact ⟨0, by omega, rfl, ⟨b0, b1, hv, hu, hB⟩, fun _ h => by omega⟩
      case round =>
        clear b0 b1 hv hu hB
        obtain ⟨j, hj, rfl, ⟨b0, b1, hv, hu, hB⟩, hpre⟩ := hrel
        have x0 := b0.cell 2
        have y0 := b1.cell 2
        by_cases hlt : j < l.length
        · have hlt2 : j < L.length := by have := HLEN.out; omega
          obtain ⟨g1, rfl, hc1⟩ := Pc.cells_get' hv hlt
          obtain ⟨g2, rfl, hc2⟩ := Pc.cells_get' hu hlt2
          have c1 := hc1 j hlt
          have c2 := hc2 j hlt2
          clear hc1 hc2
          obtain ⟨x, hx⟩ : ∃ x, l.getD j 0 = x := ⟨_, rfl⟩
          obtain ⟨y, hy⟩ : ∃ y, L.getD j 0 = y := ⟨_, rfl⟩
          rw [hx] at c1
          rw [hy] at c2
          have HX := Lib.hid hx
          have HY := Lib.hid hy
          clear hx hy
          by_cases e : x = y
          · have te : ((x : Int) != (y : Int)) = false := by simp [e]
            have E := Lib.hid e
            clear e
            go_wp2_with fail
            go_quiet (fail)
            go_wp2_with fail
            refine ⟨⟨j + 1, by omega, by go_num, ⟨b0, b1, hv, hu, Below.drewN' hB _⟩, fun z hz => ?_⟩, by simp [intOf]; omega⟩
            by_cases ez : z = j
            · rw [ez, HX.out, HY.out, E.out]
            · exact hpre.out z (by omega)
          · have te : ((x : Int) != (y : Int)) = true := by rw [bne_iff_ne]; omega
            have hD : D = false := by
              rw [← HD.out, decide_eq_false_iff_not]
              intro h
              simp only [Prod.mk.injEq, true_and] at h
              exact e (by rw [← HX.out, ← HY.out, h])
            clear e
            subst hD
            go_wp2_with fail
            go_quiet (fail)
            go_wp2_with fail
            go_ret
            exact ⟨rfl, Below.drewN' hB _⟩
        · have hD : D = true := by
            rw [← HD.out, decide_eq_true_eq]
            have : l = L := by
              apply List.ext_getElem HLEN.out
              intro i h1 h2
              have := hpre.out i (by omega)
              simpa [List.getD_eq_getElem?_getD, List.getElem?_eq_getElem h1, List.getElem?_eq_getElem h2] using this
            rw [this]
          subst hD
          go_wp2_with fail
          go_ret
          exact ⟨rfl, hB⟩
    · have hne : decide ((c, r, l) = (C, R, L)) = false := by simp [hrR]
      have t1 : ((r : Int) != (R : Int)) = true := by rw [bne_iff_ne]; omega
      subst hcC
      rw [hne]
      clear hne hrR hl hL
      go_enter Tryd.func28, Tryd.ntmps28
      go_wp2_with fail
      go_ret
      exact ⟨rfl, hB0⟩
  · have hne : decide ((c, r, l) = (C, R, L)) = false := by simp [hcC]
    have t1 : ((c : Int) != (C : Int)) = true := by rw [bne_iff_ne]; omega
    rw [hne]
    clear hne hcC hl hL
    go_enter Tryd.func28, Tryd.ntmps28
    go_wp2_with fail
    go_ret
    exact ⟨rfl, hB0⟩
namespace Pc
def fIs (p : Pict) (v : Value) : Fact := fun _ _ w => Is w 0 v p.1 p.2.1 p.2.2
theorem Is.grow {w w' : World} {v : Value} {c r : Nat} {l : List Nat} (h : Is w 0 v c r l) (hb : Below w.heap.size w w') : Is w' 0 v c r l := by
  obtain ⟨u, e, h⟩ := h
  exact ⟨u, e, Row.grow h hb⟩
theorem fIs_mono (p : Pict) (v : Value) : (fIs p v).Mono := fun _ _ _ _ h _ hb => Is.grow h hb
def start : Pict := (3, 2, List.range 6)
theorem start_ok : Ok start := ⟨rfl, by decide, by decide, by decide⟩
end Pc
set_option maxRecDepth 100000 in
set_option maxHeartbeats 4000000 in
theorem find_any (k0 : Nat) (hk0 : k0 < 8) (hmin : ∀ k, k < k0 → Pc.turn k Pc.start ≠ Pc.turn k0 Pc.start) (v : Value) (w : World) (hv : Pc.Is w 0 v (Pc.turn k0 Pc.start).1 (Pc.turn k0 Pc.start).2.1 (Pc.turn k0 Pc.start).2.2) :
    Calls Tryd.prog 17 #[v] w fun e w' => e = .returned (.int .i64 k0) ∧ Below w.heap.size w w' := by
  obtain ⟨q, hq⟩ : ∃ q, Pc.turn k0 Pc.start = q := ⟨_, rfl⟩
  have hqo : Pc.Ok q := by rw [← hq]; exact Pc.turn_ok k0 Pc.start_ok
  rw [hq] at hv hmin
  have HQ := Lib.hid hq
  clear hq
  have HMIN := Lib.hid hmin
  clear hmin
  obtain ⟨N, hN⟩ : ∃ N, N = w.heap.size := ⟨_, rfl⟩
  have HN := Lib.hid hN
  rw [← hN]
  clear hN
  obtain ⟨c, r, l⟩ := q
  obtain ⟨u, rfl, hR⟩ := hv
  simp only at hR
  obtain ⟨bu, cu, rfl⟩ := hR.len
  go_enter Tryd.func17, Tryd.ntmps17
  go_wp2_with fail
  refine wp_world (fun W => Blk W N #[.int .i64 c, .int .i64 r, .slice bu l.length cu] 31 ∧ Pc.Nums W 0 (.slice bu l.length cu) l ∧ Below N w W) ⟨Blk.new' _ _ _ HN.out, Row.grow hR ((Below.refl _ _).alloc (Nat.le_refl _) _), (Below.refl _ _).alloc (by rw [HN.out]; exact Nat.le_refl _) _⟩ ?_
  clear hR
  rintro W0 ⟨b0, hR, hB⟩
  rw [← HN.out]
  go_loopw [3] (fun i wr => ∃ j : Nat, j ≤ k0 ∧ i = .int .i64 j ∧ Blk wr N #[.int .i64 c, .int .i64 r, .slice bu l.length cu] 31 ∧ Pc.Nums wr 0 (.slice bu l.length cu) l ∧ Below N w wr) (fun i _ => 8 - (intOf i).toNat)
  case atStart => exact ⟨0, by omega, rfl, b0, hR, hB⟩
  case round =>
    clear b0 hR hB
    obtain ⟨j, hj, rfl, b0, hR, hB⟩ := hrel
    have hN0 := b0.lt
    go_wp2_with fail
    have hGm : ∀ W W', (Blk W N #[.int .i64 c, .int .i64 r, .slice bu l.length cu] 31 ∧ Pc.Nums W 0 (.slice bu l.length cu) l ∧ Below N w W) → Below W.heap.size W W' → (Blk W' N #[.int .i64 c, .int .i64 r, .slice bu l.length cu] 31 ∧ Pc.Nums W' 0 (.slice bu l.length cu) l ∧ Below N w W') :=
      fun W W' h hb => ⟨h.1.below hb h.1.lt, Row.grow h.2.1 hb, h.2.2.trans (hb.mono (by have := h.1.lt; omega))⟩
    refine wp_region_mono [0, 1, 2, 3, 4] [] (fun W => Blk W N #[.int .i64 c, .int .i64 r, .slice bu l.length cu] 31 ∧ Pc.Nums W 0 (.slice bu l.length cu) l ∧ Below N w W)
      (fun | 0 => some (sRel (fun _ => True) (Pc.fIs Pc.start)) | 2 => some (sRel (fun _ => True) (Pc.fIs (Pc.turn j Pc.start))) | 4 => some (sFix (.bool (decide (Pc.turn j Pc.start = (c, r, l))))) | _ => none)
      (fun | 2 => [0] | 4 => [2] | _ => []) (by kernel_rfl) (by kernel_rfl) ⟨b0.drew, hR, hB.drew⟩ ?_ ?_
    · intro i s hs
      match i with
      | 0 => cases hs; exact fun _ _ => Pc.fIs_mono _ _
      | 2 => cases hs; exact fun _ _ => Pc.fIs_mono _ _
      | 4 => cases hs; exact fun _ _ => sFix_mono _ _ _
    simp only [pick, List.getD_cons_succ, List.getD_cons_zero, List.zip_cons_cons, List.zip_nil_right]
    refine mono_rel (fun _ => True) (Pc.fIs Pc.start) (by rfl) rfl hGm (by intro w hG; go_simp; first | done | exact ⟨rfl, rfl⟩) ⟨undef, trivial⟩ (fun w1 hG _ => ?_) (fun v8 _ => ?_)
    · refine (new_any 3 2 (by decide) (by decide) (by decide) w1).mono ?_
      rintro e w' ⟨v, rfl, h1, h2⟩
      exact ⟨v, rfl, trivial, h2, h1⟩
    simp only [Act.put, List.setIfInBounds_toArray, List.set_cons_zero, List.set_cons_succ]
    (first | (refine mono_skip (by rfl) ?_; simp only [Act.put, List.setIfInBounds_toArray, List.set_cons_zero, List.set_cons_succ]) | (refine mono_pure (v := ?_) (by rfl) rfl ?_ ?_; rotate_left; (intro wS hS; go_simp; try with_reducible rfl); simp only [Act.put, List.setIfInBounds_toArray, List.set_cons_zero, List.set_cons_succ]))
    refine mono_rel (fun _ => True) (Pc.fIs (Pc.turn j Pc.start)) (by rfl) rfl hGm (by intro w hG; go_simp; first | done | exact ⟨rfl, rfl⟩) ⟨undef, trivial⟩ (fun w1 hG hH => ?_) (fun v10 _ => ?_)
    · obtain ⟨lo, hi, h8⟩ := hH 0 (by simp) _ (upd_self _ _ _)
      refine (turn_any j (by omega) Pc.start Pc.start_ok v8 w1 h8).mono ?_
      rintro e w' ⟨v, rfl, h1, h2⟩
      exact ⟨v, rfl, trivial, h2, h1⟩
    simp only [Act.put, List.setIfInBounds_toArray, List.set_cons_zero, List.set_cons_succ]
    refine mono_pure (by rfl) rfl (fun w1 hG => run_exec_load_row 31 _ rfl N rfl 31 _ _ hG.1 Tryd.underlying31 rfl (by kernel_rfl)) ?_
    simp only [Act.put, List.setIfInBounds_toArray, List.set_cons_zero, List.set_cons_succ]
    refine mono_fix (.bool (decide (Pc.turn j Pc.start = (c, r, l)))) (by rfl) rfl hGm (by intro w hG; go_simp; first | done | exact ⟨rfl, rfl⟩) (fun w1 hG hH => ?_) ?_
    · obtain ⟨lo, hi, h10⟩ := hH 2 (by simp) _ (upd_self _ _ _)
      exact same_any _ _ (Pc.turn_ok j Pc.start_ok) hqo v10 _ w1 h10 ⟨_, rfl, hG.2.1⟩
    simp only [Act.put, List.setIfInBounds_toArray, List.set_cons_zero, List.set_cons_succ]
    refine mono_nil ?_
    rintro w1 ⟨b0, hR, hB⟩ _
    clear hGm
    by_cases hjk : j = k0
    · have td : decide (Pc.turn j Pc.start = (c, r, l)) = true := by rw [decide_eq_true_eq, hjk]; exact HQ.out
      rw [td]
      go_wp2_with fail
      go_ret
      subst hjk
      exact ⟨rfl, hB⟩
    · have td : decide (Pc.turn j Pc.start = (c, r, l)) = false := by rw [decide_eq_false_iff_not]; exact HMIN.out j (by omega)
      rw [td]
      go_wp2_with fail
      exact ⟨⟨j + 1, by omega, by go_num, b0, hR, hB⟩, by simp [intOf]; omega⟩
end Go.Proofs.YtcdfamllamjpeaaDoor
