/- Package image: what tables asks of one table. -/
import Derived.Test.YtgmhhocpdfdplaaTabs2
namespace Go.Proofs.Ytgmhhocpdfdplaa
open Go.RowKit
set_option maxRecDepth 100000
set_option maxHeartbeats 4000000
theorem IsQuants.place {w : World} {b : Option Addr} {cap : Nat} {qs : List QuantArg} (h : IsQuants w (.slice b qs.length cap) qs) {i : Nat} (hi : i < qs.length) : ∃ a, b = some a ∧ w.cell? (a.add (i * 65)) = some (.int .i64 (qs[i]'hi).at_) := by
  obtain ⟨a, cap', he, h0, -⟩ := h.el.get (by decide) (i := i) (by simpa using hi)
  rw [getD_map' _ _ _ _ hi] at h0
  simp only [Value.slice.injEq] at he
  exact ⟨a, he.1, h0⟩
/-- Does a table's place rise? -/
def risesB (qs : List QuantArg) (i : Nat) (y : Int) : Bool := decide (0 ≤ y ∧ y < 4 ∧ (i = 0 ∨ (qs.getD (i - 1) noQuant).at_ < y))
def quantE (cs : List CompArg) (qs : List QuantArg) (i : Nat) (x : QuantArg) : Int := if risesB qs i x.at_ = true ∧ zeroQ x = false ∧ usedQ cs x.at_ = true then 0 else 5
theorem img_tables2 (N U : Nat) (xw xh : Int) (tu : Value) (cb qb : Option Addr) (cap qcap : Nat) (cs : List CompArg) (qs : List QuantArg) (hlc : cs.length ≤ 1000000) (hlq : qs.length ≤ 1000000) (i : Nat) (hi : i < qs.length) (w : World)
    (bN : Blk w N #[.int .i64 xw, .int .i64 xh, .slice cb cs.length cap, .slice qb qs.length qcap, tu] 26) (bU : Blk w U #[.func (.func 111) #[] #[.pointer (some ⟨N, 0, none⟩)]] 159) (hc : IsComps w (.slice cb cs.length cap) cs) (hq : IsQuants w (.slice qb qs.length qcap) qs) :
    Calls Try.prog 114 #[.int .i64 i, .agg (qs[i]'hi).arr, .pointer (some ⟨N, 0, none⟩), .pointer (some ⟨U, 0, none⟩)] w fun r w' => r = .returned (.int .i64 (quantE cs qs i (qs[i]'hi))) ∧ Below w.heap.size w w' := by
  obtain ⟨K, hK⟩ : ∃ K, K = w.heap.size := ⟨_, rfl⟩
  have HK := Lib.hid hK
  rw [← hK]
  have hx := hq.ok _ (List.getElem_mem hi)
  have hbe : Below w.heap.size w (w.alloc (.cells (qs[i]'hi).arr 39)) := (Below.refl _ _).alloc (Nat.le_refl _) _
  have hzc := fun W h => has_zero K (qs[i]'hi) hx W h
  have huc := fun W h1 h2 => img_used N xw xh (qs[i]'hi).at_ (.slice qb qs.length qcap) tu cb cap cs hlc W h1 h2
  have hz0 := (qs[i]'hi).arr_zero
  have hte := fun (b : Bool) W => img_test b 5 W
  have hpr : i = 0 ∨ ∃ j, i = j + 1 ∧ ∃ hj : j < qs.length, qs.getD (i - 1) noQuant = qs[j]'hj := by
    by_cases h0 : i = 0
    · exact .inl h0
    · refine .inr ⟨i - 1, by omega, by omega, quant_getD (by omega)⟩
  obtain ⟨R, hR⟩ : ∃ R, quantE cs qs i (qs[i]'hi) = R := ⟨_, rfl⟩
  rw [hR]
  unfold quantE risesB at hR
  obtain ⟨ar, har⟩ : ∃ ar, (qs[i]'hi).arr = ar := ⟨_, rfl⟩
  rw [har] at hz0 hbe hzc ⊢
  generalize (qs[i]'hi).at_ = y at *
  generalize zeroQ (qs[i]'hi) = z at *
  generalize usedQ cs y = u at *
  clear hK hx har
  have bK0 := Blk.new' w ar 39 HK.out
  have hS : ∀ W, W = w.alloc (.cells ar 39) → Blk W K ar 39 ∧ Blk W N #[.int .i64 xw, .int .i64 xh, .slice cb cs.length cap, .slice qb qs.length qcap, tu] 26 ∧ Blk W U #[.func (.func 111) #[] #[.pointer (some ⟨N, 0, none⟩)]] 159 ∧ IsComps W (.slice cb cs.length cap) cs ∧ IsQuants W (.slice qb qs.length qcap) qs ∧ Below K w W := by
    rintro W rfl
    exact ⟨bK0, bN.below hbe bN.lt, bU.below hbe bU.lt, hc.below hbe, hq.below hbe, by rw [HK.out]; exact hbe⟩
  clear bN bU hc hq hbe bK0
  by_cases hy : 0 ≤ y ∧ y < 4
  · have t1 : decide (0 ≤ y) = true := by simpa using hy.1
    have t2 : decide (y < 4) = true := by simpa using hy.2
    rcases hpr with rfl | ⟨j, rfl, hj, hgd⟩
    · clear hi
      have hri : decide (0 ≤ y ∧ y < 4 ∧ ((0 : Nat) = 0 ∨ (qs.getD (0 - 1) noQuant).at_ < y)) = true := decide_eq_true ⟨hy.1, hy.2, .inl rfl⟩
      rw [hri] at hR
      clear hri
      cases z
      · cases u
        · obtain rfl : R = 5 := by rw [← hR]; simp
          clear hR hy
          go_enter Try.func114, Try.ntmps114
          go_upto_region 1 with fail
          refine wp_world (fun W => Blk W K ar 39 ∧ Blk W N #[.int .i64 xw, .int .i64 xh, .slice cb cs.length cap, .slice qb qs.length qcap, tu] 26 ∧ Blk W U #[.func (.func 111) #[] #[.pointer (some ⟨N, 0, none⟩)]] 159 ∧ IsComps W (.slice cb cs.length cap) cs ∧ IsQuants W (.slice qb qs.length qcap) qs ∧ Below K w W) (hS _ rfl) ?_
          clear hS
          rw [← HK.out]
          rintro W ⟨bK, bN, bU, hc, hq, hB⟩
          have k0 : W.cell? ⟨K, 0, none⟩ = some (.int .i64 y) := (bK.cell 0).trans hz0
          have hBn : ∀ n, Below K w (W.drewN n) := fun n => ⟨hB.os, hB.tape, hB.output, hB.size, hB.block⟩
          go_quiet (fail)
          have u0 : W.cell? ⟨U, 0, none⟩ = some (.func (.func 111) #[] #[.pointer (some ⟨N, 0, none⟩)]) := bU.cell 0
          go_wp2_with (first | (go_at_call 115; refine (hzc _ (bK.drewN _)).mono ?_; rintro r w1 ⟨rfl, rfl⟩) | (go_at_call 111; refine (huc _ (bN.drewN _) (hc.below (Go.Joins.below_draws _ _ _))).mono ?_; rintro r w3 ⟨rfl, hb3⟩; have hC := (hBn _).trans (hb3.mono (Nat.le_of_lt (bK.drewN _).lt))) | (go_at_call 110; refine (hte _ _).mono ?_; rintro r w2 ⟨rfl, rfl⟩))
          go_ret
          exact ⟨rfl, hC⟩
        · obtain rfl : R = 0 := by rw [← hR]; simp
          clear hR hy
          go_enter Try.func114, Try.ntmps114
          go_upto_region 1 with fail
          refine wp_world (fun W => Blk W K ar 39 ∧ Blk W N #[.int .i64 xw, .int .i64 xh, .slice cb cs.length cap, .slice qb qs.length qcap, tu] 26 ∧ Blk W U #[.func (.func 111) #[] #[.pointer (some ⟨N, 0, none⟩)]] 159 ∧ IsComps W (.slice cb cs.length cap) cs ∧ IsQuants W (.slice qb qs.length qcap) qs ∧ Below K w W) (hS _ rfl) ?_
          clear hS
          rw [← HK.out]
          rintro W ⟨bK, bN, bU, hc, hq, hB⟩
          have k0 : W.cell? ⟨K, 0, none⟩ = some (.int .i64 y) := (bK.cell 0).trans hz0
          have hBn : ∀ n, Below K w (W.drewN n) := fun n => ⟨hB.os, hB.tape, hB.output, hB.size, hB.block⟩
          go_quiet (fail)
          have u0 : W.cell? ⟨U, 0, none⟩ = some (.func (.func 111) #[] #[.pointer (some ⟨N, 0, none⟩)]) := bU.cell 0
          go_wp2_with (first | (go_at_call 115; refine (hzc _ (bK.drewN _)).mono ?_; rintro r w1 ⟨rfl, rfl⟩) | (go_at_call 111; refine (huc _ (bN.drewN _) (hc.below (Go.Joins.below_draws _ _ _))).mono ?_; rintro r w3 ⟨rfl, hb3⟩; have hC := (hBn _).trans (hb3.mono (Nat.le_of_lt (bK.drewN _).lt))) | (go_at_call 110; refine (hte _ _).mono ?_; rintro r w2 ⟨rfl, rfl⟩))
          go_ret
          exact ⟨rfl, hC⟩
      · obtain rfl : R = 5 := by rw [← hR]; simp
        clear hR hy huc
        go_enter Try.func114, Try.ntmps114
        go_upto_region 1 with fail
        refine wp_world (fun W => Blk W K ar 39 ∧ Blk W N #[.int .i64 xw, .int .i64 xh, .slice cb cs.length cap, .slice qb qs.length qcap, tu] 26 ∧ Blk W U #[.func (.func 111) #[] #[.pointer (some ⟨N, 0, none⟩)]] 159 ∧ IsComps W (.slice cb cs.length cap) cs ∧ IsQuants W (.slice qb qs.length qcap) qs ∧ Below K w W) (hS _ rfl) ?_
        clear hS
        rw [← HK.out]
        rintro W ⟨bK, bN, bU, hc, hq, hB⟩
        have k0 : W.cell? ⟨K, 0, none⟩ = some (.int .i64 y) := (bK.cell 0).trans hz0
        have hBn : ∀ n, Below K w (W.drewN n) := fun n => ⟨hB.os, hB.tape, hB.output, hB.size, hB.block⟩
        go_quiet (fail)
        go_wp2_with (first | (go_at_call 115; refine (hzc _ (bK.drewN _)).mono ?_; rintro r w1 ⟨rfl, rfl⟩) | (go_at_call 110; refine (hte _ _).mono ?_; rintro r w2 ⟨rfl, rfl⟩))
        go_ret
        exact ⟨rfl, hBn _⟩
    · rw [hgd] at hR
      obtain ⟨p, hprev⟩ : ∃ p, (qs[j]'hj).at_ = p := ⟨_, rfl⟩
      rw [hprev] at hR
      have j0 : (0 : Int) ≤ (j : Int) := by omega
      have j1 : (j : Int) < (qs.length : Int) := by omega
      have z1 : (((j : Int) + 1) == 0) = false := beq_eq_false_iff_ne.2 (by omega)
      have z2 : decide ((j : Int) + 1 = 0) = false := decide_eq_false (by omega)
      have z3 : ((((j + 1 : Nat) : Int)) == 0) = false := beq_eq_false_iff_ne.2 (by omega)
      by_cases hp : p < y
      · have tp : decide (p < y) = true := by simpa using hp
        have hri : decide (0 ≤ y ∧ y < 4 ∧ (j + 1 = 0 ∨ p < y)) = true := decide_eq_true ⟨hy.1, hy.2, .inr hp⟩
        rw [hri] at hR
        clear hri
        cases z
        · cases u
          · obtain rfl : R = 5 := by rw [← hR]; simp
            clear hR hy
            go_enter Try.func114, Try.ntmps114
            go_upto_region 1 with fail
            refine wp_world (fun W => Blk W K ar 39 ∧ Blk W N #[.int .i64 xw, .int .i64 xh, .slice cb cs.length cap, .slice qb qs.length qcap, tu] 26 ∧ Blk W U #[.func (.func 111) #[] #[.pointer (some ⟨N, 0, none⟩)]] 159 ∧ IsComps W (.slice cb cs.length cap) cs ∧ IsQuants W (.slice qb qs.length qcap) qs ∧ Below K w W) (hS _ rfl) ?_
            clear hS
            rw [← HK.out]
            rintro W ⟨bK, bN, bU, hc, hq, hB⟩
            have k0 : W.cell? ⟨K, 0, none⟩ = some (.int .i64 y) := (bK.cell 0).trans hz0
            obtain ⟨a, rfl, cj⟩ := hq.place hj
            rw [hprev] at cj
            have q3 : W.cell? ⟨N, 3, none⟩ = some (.slice (some a) qs.length qcap) := bN.cell 3
            have hBn : ∀ n, Below K w (W.drewN n) := fun n => ⟨hB.os, hB.tape, hB.output, hB.size, hB.block⟩
            go_quiet (fail)
            have u0 : W.cell? ⟨U, 0, none⟩ = some (.func (.func 111) #[] #[.pointer (some ⟨N, 0, none⟩)]) := bU.cell 0
            go_wp2_with (first | (go_at_call 115; refine (hzc _ (bK.drewN _)).mono ?_; rintro r w1 ⟨rfl, rfl⟩) | (go_at_call 111; refine (huc _ (bN.drewN _) (hc.below (Go.Joins.below_draws _ _ _))).mono ?_; rintro r w3 ⟨rfl, hb3⟩; have hC := (hBn _).trans (hb3.mono (Nat.le_of_lt (bK.drewN _).lt))) | (go_at_call 110; refine (hte _ _).mono ?_; rintro r w2 ⟨rfl, rfl⟩))
            go_ret
            exact ⟨rfl, hC⟩
          · obtain rfl : R = 0 := by rw [← hR]; simp
            clear hR hy
            go_enter Try.func114, Try.ntmps114
            go_upto_region 1 with fail
            refine wp_world (fun W => Blk W K ar 39 ∧ Blk W N #[.int .i64 xw, .int .i64 xh, .slice cb cs.length cap, .slice qb qs.length qcap, tu] 26 ∧ Blk W U #[.func (.func 111) #[] #[.pointer (some ⟨N, 0, none⟩)]] 159 ∧ IsComps W (.slice cb cs.length cap) cs ∧ IsQuants W (.slice qb qs.length qcap) qs ∧ Below K w W) (hS _ rfl) ?_
            clear hS
            rw [← HK.out]
            rintro W ⟨bK, bN, bU, hc, hq, hB⟩
            have k0 : W.cell? ⟨K, 0, none⟩ = some (.int .i64 y) := (bK.cell 0).trans hz0
            obtain ⟨a, rfl, cj⟩ := hq.place hj
            rw [hprev] at cj
            have q3 : W.cell? ⟨N, 3, none⟩ = some (.slice (some a) qs.length qcap) := bN.cell 3
            have hBn : ∀ n, Below K w (W.drewN n) := fun n => ⟨hB.os, hB.tape, hB.output, hB.size, hB.block⟩
            go_quiet (fail)
            have u0 : W.cell? ⟨U, 0, none⟩ = some (.func (.func 111) #[] #[.pointer (some ⟨N, 0, none⟩)]) := bU.cell 0
            go_wp2_with (first | (go_at_call 115; refine (hzc _ (bK.drewN _)).mono ?_; rintro r w1 ⟨rfl, rfl⟩) | (go_at_call 111; refine (huc _ (bN.drewN _) (hc.below (Go.Joins.below_draws _ _ _))).mono ?_; rintro r w3 ⟨rfl, hb3⟩; have hC := (hBn _).trans (hb3.mono (Nat.le_of_lt (bK.drewN _).lt))) | (go_at_call 110; refine (hte _ _).mono ?_; rintro r w2 ⟨rfl, rfl⟩))
            go_ret
            exact ⟨rfl, hC⟩
        · obtain rfl : R = 5 := by rw [← hR]; simp
          clear hR hy huc
          go_enter Try.func114, Try.ntmps114
          go_upto_region 1 with fail
          refine wp_world (fun W => Blk W K ar 39 ∧ Blk W N #[.int .i64 xw, .int .i64 xh, .slice cb cs.length cap, .slice qb qs.length qcap, tu] 26 ∧ Blk W U #[.func (.func 111) #[] #[.pointer (some ⟨N, 0, none⟩)]] 159 ∧ IsComps W (.slice cb cs.length cap) cs ∧ IsQuants W (.slice qb qs.length qcap) qs ∧ Below K w W) (hS _ rfl) ?_
          clear hS
          rw [← HK.out]
          rintro W ⟨bK, bN, bU, hc, hq, hB⟩
          have k0 : W.cell? ⟨K, 0, none⟩ = some (.int .i64 y) := (bK.cell 0).trans hz0
          obtain ⟨a, rfl, cj⟩ := hq.place hj
          rw [hprev] at cj
          have q3 : W.cell? ⟨N, 3, none⟩ = some (.slice (some a) qs.length qcap) := bN.cell 3
          have hBn : ∀ n, Below K w (W.drewN n) := fun n => ⟨hB.os, hB.tape, hB.output, hB.size, hB.block⟩
          go_quiet (fail)
          go_wp2_with (first | (go_at_call 115; refine (hzc _ (bK.drewN _)).mono ?_; rintro r w1 ⟨rfl, rfl⟩) | (go_at_call 110; refine (hte _ _).mono ?_; rintro r w2 ⟨rfl, rfl⟩))
          go_ret
          exact ⟨rfl, hBn _⟩
      · have tp : decide (p < y) = false := by simpa using hp
        obtain rfl : R = 5 := by rw [← hR, if_neg (fun hh => by have := (of_decide_eq_true hh.1).2.2; omega)]
        clear hR hy hzc huc hp
        go_enter Try.func114, Try.ntmps114
        go_upto_region 1 with fail
        refine wp_world (fun W => Blk W K ar 39 ∧ Blk W N #[.int .i64 xw, .int .i64 xh, .slice cb cs.length cap, .slice qb qs.length qcap, tu] 26 ∧ Blk W U #[.func (.func 111) #[] #[.pointer (some ⟨N, 0, none⟩)]] 159 ∧ IsComps W (.slice cb cs.length cap) cs ∧ IsQuants W (.slice qb qs.length qcap) qs ∧ Below K w W) (hS _ rfl) ?_
        clear hS
        rw [← HK.out]
        rintro W ⟨bK, bN, bU, hc, hq, hB⟩
        have k0 : W.cell? ⟨K, 0, none⟩ = some (.int .i64 y) := (bK.cell 0).trans hz0
        obtain ⟨a, rfl, cj⟩ := hq.place hj
        rw [hprev] at cj
        have q3 : W.cell? ⟨N, 3, none⟩ = some (.slice (some a) qs.length qcap) := bN.cell 3
        have hBn : ∀ n, Below K w (W.drewN n) := fun n => ⟨hB.os, hB.tape, hB.output, hB.size, hB.block⟩
        go_quiet (fail)
        go_wp2_with (go_at_call 110; refine (hte _ _).mono ?_; rintro r w2 ⟨rfl, rfl⟩)
        go_ret
        exact ⟨rfl, hBn _⟩
  · have hRR : R = 5 := by rw [← hR, if_neg (fun hh => hy (by have := of_decide_eq_true hh.1; exact ⟨this.1, this.2.1⟩))]
    subst hRR
    have tt : decide (0 ≤ y) = false ∨ (decide (0 ≤ y) = true ∧ decide (y < 4) = false) := by simp only [decide_eq_true_eq, decide_eq_false_iff_not]; omega
    clear hR hy hpr hzc huc
    rcases tt with t1 | ⟨t1, t2⟩
    all_goals
      go_enter Try.func114, Try.ntmps114
      go_upto_region 1 with fail
      refine wp_world (fun W => Blk W K ar 39 ∧ Below K w W) ⟨(hS _ rfl).1, (hS _ rfl).2.2.2.2.2⟩ ?_
      clear hS
      rw [← HK.out]
      rintro W ⟨bK, hB⟩
      have k0 : W.cell? ⟨K, 0, none⟩ = some (.int .i64 y) := (bK.cell 0).trans hz0
      go_quiet (fail)
      go_wp2_with (go_at_call 110; refine (hte _ _).mono ?_; rintro r w2 ⟨rfl, rfl⟩)
      go_ret
      exact ⟨rfl, ⟨hB.os, hB.tape, hB.output, hB.size, hB.block⟩⟩
end Go.Proofs.Ytgmhhocpdfdplaa
