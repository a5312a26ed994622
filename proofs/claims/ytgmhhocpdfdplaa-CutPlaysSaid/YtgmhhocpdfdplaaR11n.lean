/- The reference's New of a frame, walked: where it is refused ahead of the frame. -/
import Derived.Test.YtgmhhocpdfdplaaR11q
namespace Go.Proofs.Ytgmhhocpdfdplaa
open Go.RowKit
set_option maxRecDepth 100000
set_option maxHeartbeats 2000000
/-- As mxN, from 1 on. -/
def m1N (f : Nat → Int) : Nat → Int
  | 0 => 1
  | k + 1 => max (m1N f k) (f k)
theorem m1N_eq (f : Nat → Int) : ∀ n, m1N f n = max 1 (mxN f n)
  | 0 => by simp only [m1N, mxN]; omega
  | n + 1 => by
    simp only [m1N, mxN, m1N_eq f n]
    omega
theorem m1N_hh {x y : Int} {qs : List (Int × Int)} (h : FrOk x y qs) : m1N (hA qs) qs.length = hhN qs := by
  rw [m1N_eq]
  have := h.hh
  show max 1 (hhN qs) = hhN qs
  omega
theorem m1N_vv {x y : Int} {qs : List (Int × Int)} (h : FrOk x y qs) : m1N (vA qs) qs.length = vvN qs := by
  rw [m1N_eq]
  have := h.vv
  show max 1 (vvN qs) = vvN qs
  omega
theorem smN_congr {f g : Nat → Int} : ∀ n, (∀ k, k < n → f k = g k) → smN f n = smN g n
  | 0, _ => rfl
  | n + 1, h => by
    simp only [smN]
    rw [smN_congr n (fun k hk => h k (by omega)), h n (by omega)]
theorem blkN_tot {x y : Int} {qs : List (Int × Int)} : blkN (gridsN x y qs) (gridsN x y qs).length = totN x y qs := by
  have hl : (gridsN x y qs).length = qs.length := by simp [gridsN]
  rw [hl]
  unfold blkN totN
  refine smN_congr _ fun k hk => ?_
  have e : (gridsN x y qs).getD k noGr = gridP x y (hhN qs) (vvN qs) (acN x qs) (dnN y qs) (qs[k]'hk) := by
    rw [List.getD_eq_getElem?_getD, List.getElem?_eq_getElem (by omega)]
    simp [gridsN]
  rw [e]
  simp [gridP, hA, vA, List.getD_eq_getElem?_getD, hk]
theorem grids_in {x y : Int} {qs : List (Int × Int)} (h : FrOk x y qs) : ∀ g ∈ gridsN x y qs, (0 ≤ g.c ∧ g.c ≤ 12000) ∧ 0 ≤ g.r ∧ g.r ≤ 12000 := by
  intro g hg
  obtain ⟨p, hp, rfl⟩ := List.mem_map.1 hg
  obtain ⟨k, hk, rfl⟩ := List.getElem_of_mem hp
  have h2 := h.ps k hk
  have e1 : (qs[k]'hk).1 = hA qs k := by simp [hA, List.getD_eq_getElem?_getD, hk]
  have e2 : (qs[k]'hk).2 = vA qs k := by simp [vA, List.getD_eq_getElem?_getD, hk]
  simp only [gridP]
  rw [e1, e2]
  have hac := h.ac
  have hdn := h.dn
  exact ⟨mul_in (A := 3000) (B := 4) hac.1 hac.2 (by omega) h2.2.1, mul_in (A := 3000) (B := 4) hdn.1 hdn.2 (by omega) h2.2.2.2⟩
/-- What the reference's New answers. -/
def RefNew (x y : Int) (ps : List (Int × Int)) (lo : Nat) (r : Ending) (w' : World) : Prop :=
  ∃ v, r = .returned (.tuple #[v, .int .i64 (newE x y ps)]) ∧ (newE x y ps ≠ 0 → v = .agg zeroRF) ∧
    (newE x y ps = 0 → ∃ u gv, v = .agg #[.int .i64 (8 * hhN (partsOf ps)), .int .i64 (8 * vvN (partsOf ps)), .int .i64 (acN x (partsOf ps)), .int .i64 (dnN y (partsOf ps)), u, gv] ∧
      Row w' lo 112 2 u (partsOf ps).length ((partsOf ps).map partC).flatten ∧ Row w' lo 107 4 gv (gridsN x y (partsOf ps)).length ((gridsN x y (partsOf ps)).map GridV.cells).flatten)
theorem anyF_hit (p : Nat → Bool) : ∀ (f i k : Nat), i ≤ k → k < i + f → p k = true → anyF p f i = true
  | 0, i, k, h1, h2, _ => absurd h2 (by omega)
  | f + 1, i, k, h1, h2, h3 => by
    by_cases hp : p i = true
    · exact anyF_stop p f i hp
    · rw [Bool.not_eq_true] at hp
      rw [anyF_go p f i hp]
      exact anyF_hit p f (i + 1) k (by rcases Nat.lt_or_ge i k with h | h; exact h; exact absurd (show p i = true by rw [show i = k by omega]; exact h3) (by rw [hp]; decide)) (by omega) h3
theorem anyF_none (p : Nat → Bool) : ∀ (f i : Nat), (∀ k, i ≤ k → k < i + f → p k = false) → anyF p f i = false
  | 0, _, _ => rfl
  | f + 1, i, h => by
    rw [anyF_go p f i (h i (Nat.le_refl _) (by omega))]
    exact anyF_none p f (i + 1) (fun k h1 h2 => h k (by omega) (by omega))
theorem newE_bad {x y : Int} {ps : List (Int × Int)} {e : Int} (h : rightE x y ps = e) (he : e ≠ 0) : newE x y ps = e := by
  unfold newE
  rw [h, if_pos he]
theorem ref_new (x y : Int) (pb : Option Addr) (cap : Nat) (ps : List (Int × Int)) (hl : ps.length ≤ 1000000) (w : World) (h : IsParts w (.slice pb ps.length cap) ps) :
    Calls Try.prog 70 #[.int .i64 x, .int .i64 y, .slice pb ps.length cap] w fun r w' => RefNew x y ps w.heap.size r w' ∧ Below w.heap.size w w' := by
  obtain ⟨N, hN⟩ : ∃ N, N = w.heap.size := ⟨_, rfl⟩
  have HN := Lib.hid hN
  rw [← hN]
  have hbe : Below w.heap.size w (w.alloc (.cells #[.int .i64 0, .int .i64 0, .int .i64 0, .int .i64 0, .slice none 0 0, .slice none 0 0] 44)) := (Below.refl _ _).alloc (Nat.le_refl _) _
  have HP := Lib.hid (fun W (hb : Below N w W) => h.below (by rw [hN] at hb; exact hb))
  clear hN
  go_enter Try.func70, Try.ntmps70
  go_upto_region 1 with fail
  rw [← HN.out]
  refine wp_world (fun W => Blk W N #[.int .i64 0, .int .i64 0, .int .i64 0, .int .i64 0, .slice none 0 0, .slice none 0 0] 44 ∧ Below N w W) ⟨Blk.new' _ _ _ HN.out, by rw [HN.out]; exact hbe⟩ ?_
  clear hbe h
  rintro W ⟨bN, hB⟩
  have fin : ∀ (W : World) (e : Int), rightE x y ps = e → e ≠ 0 → Below N w W → RefNew x y ps N (.returned (.tuple #[.agg #[.int .i64 0, .int .i64 0, .int .i64 0, .int .i64 0, .slice none 0 0, .slice none 0 0], .int .i64 e])) W ∧ Below N w W := fun W e h1 h2 h3 => by
    have h4 := newE_bad h1 h2
    exact ⟨⟨.agg zeroRF, by rw [h4]; rfl, fun _ => rfl, fun h => absurd (h4 ▸ h) h2⟩, h3⟩
  have FIN := Lib.hid fin
  clear fin
  by_cases c1 : x < 1 ∨ y < 1 ∨ ps.length = 0
  · have hr : rightE x y ps = 7 := by
      unfold rightE
      rw [if_pos (by rcases c1 with h | h | h; exact .inl h; exact .inr (.inl h); exact .inr (.inr (.inl h)))]
    have hcases : decide (x < 1) = true ∨ (decide (x < 1) = false ∧ decide (y < 1) = true) ∨ (decide (x < 1) = false ∧ decide (y < 1) = false ∧ decide (ps.length = 0) = true) := by
      simp only [decide_eq_true_eq, decide_eq_false_iff_not]; omega
    have HR := Lib.hid hr
    clear hr c1
    rcases hcases with t1 | ⟨t1, t2⟩ | ⟨t1, t2, t3⟩
    · go_wp2_with (first | refine wpList_buildTo rfl 44 _ rfl (some 28) rfl #[.int .i64 0, .int .i64 0, .int .i64 0, .int .i64 0, .slice none 0 0, .slice none 0 0] (by kernel_rfl) ?_ | refine wpList_store_row rfl 44 _ _ rfl N _ rfl rfl 44 _ bN (by kernel_rfl) rfl (by simp [Value.oneCell']) ?_)
      refine bodyPost_ret (results_row_tmp rfl _ _ N 44 _ _ rfl (bN.row _) Try.underlying44 rfl (by kernel_rfl)) rfl ?_
      exact FIN.out _ 7 HR.out (by decide) (Below.setRow hB (Nat.le_refl _) _)
    · go_wp2_with (first | refine wpList_buildTo rfl 44 _ rfl (some 28) rfl #[.int .i64 0, .int .i64 0, .int .i64 0, .int .i64 0, .slice none 0 0, .slice none 0 0] (by kernel_rfl) ?_ | refine wpList_store_row rfl 44 _ _ rfl N _ rfl rfl 44 _ bN (by kernel_rfl) rfl (by simp [Value.oneCell']) ?_)
      refine bodyPost_ret (results_row_tmp rfl _ _ N 44 _ _ rfl (bN.row _) Try.underlying44 rfl (by kernel_rfl)) rfl ?_
      exact FIN.out _ 7 HR.out (by decide) (Below.setRow hB (Nat.le_refl _) _)
    · have t3' : ((ps.length : Int) == 0) = true := by rw [of_decide_eq_true t3]; rfl
      have t3'' : decide ((ps.length : Int) = 0) = true := by rw [of_decide_eq_true t3]; rfl
      go_wp2_with (first | refine wpList_buildTo rfl 44 _ rfl (some 28) rfl #[.int .i64 0, .int .i64 0, .int .i64 0, .int .i64 0, .slice none 0 0, .slice none 0 0] (by kernel_rfl) ?_ | refine wpList_store_row rfl 44 _ _ rfl N _ rfl rfl 44 _ bN (by kernel_rfl) rfl (by simp [Value.oneCell']) ?_)
      refine bodyPost_ret (results_row_tmp rfl _ _ N 44 _ _ rfl (bN.row _) Try.underlying44 rfl (by kernel_rfl)) rfl ?_
      exact FIN.out _ 7 HR.out (by decide) (Below.setRow hB (Nat.le_refl _) _)
  have hx1 : 1 ≤ x := by omega
  have hy1 : 1 ≤ y := by omega
  have hn1 : 1 ≤ ps.length := by omega
  have t1 : decide (x < 1) = false := decide_eq_false (by omega)
  have t2 : decide (y < 1) = false := decide_eq_false (by omega)
  have t3 : decide (ps.length = 0) = false := decide_eq_false (by omega)
  have t3' : ((ps.length : Int) == 0) = false := by rw [beq_eq_false_iff_ne]; omega
  have t3'' : decide ((ps.length : Int) = 0) = false := decide_eq_false (by omega)
  clear c1
  go_wp2
  clear t1 t2 t3 t3' t3''
  go_loopw [8] (fun iv wr => ∃ i : Nat, i ≤ ps.length ∧ iv = .int .i64 i ∧ EarlyB ps i ∧ Blk wr N #[.int .i64 0, .int .i64 0, .int .i64 0, .int .i64 0, .slice none 0 0, .slice none 0 0] 44 ∧ Below N w wr) (fun iv _ => ps.length - (intOf iv).toNat)
  case atStart => exact ⟨0, Nat.zero_le _, rfl, ⟨fun j hj => absurd hj (by omega)⟩, bN, hB⟩
  case round =>
    clear bN hB
    obtain ⟨i, hi, rfl, hE, bN, hB⟩ := hrel
    by_cases hlt : i < ps.length
    · have tl : decide (i < ps.length) = true := by simpa using hlt
      obtain ⟨a, rfl, c0, c1⟩ := (HP.out wr hB).at hlt
      have j0 : (0 : Int) ≤ (i : Int) := by omega
      have j1 : (i : Int) < (ps.length : Int) := by omega
      have hgd : ps.getD i (0, 0) = ps[i]'hlt := by simp [List.getD_eq_getElem?_getD, hlt]
      obtain ⟨⟨p0, p1⟩, hp⟩ : ∃ p, ps[i]'hlt = p := ⟨_, rfl⟩
      rw [hp] at c0 c1 hgd
      simp only at c0 c1
      by_cases hbad : badP (p0, p1) = true
      · have hr : rightE x y ps = 7 := by
          have hb : anyBad ps = true := by
            unfold anyBad
            exact anyF_hit _ _ 0 i (Nat.zero_le _) (by omega) (by rw [hgd]; exact hbad)
          unfold rightE
          rw [if_pos (.inr (.inr (.inr hb)))]
        have HR := Lib.hid hr
        have hcases : decide (p0 < 1) = true ∨ (decide (p0 < 1) = false ∧ decide (p0 > 4) = true) ∨ (decide (p0 < 1) = false ∧ decide (p0 > 4) = false ∧ decide (p1 < 1) = true) ∨ (decide (p0 < 1) = false ∧ decide (p0 > 4) = false ∧ decide (p1 < 1) = false ∧ decide (p1 > 4) = true) := by
          simp only [badP, facB, Bool.or_eq_true, Bool.not_eq_true', decide_eq_false_iff_not, decide_eq_true_eq] at hbad ⊢
          omega
        clear hr hbad hE hgd hp
        rcases hcases with t1 | ⟨t1, t2⟩ | ⟨t1, t2, t3⟩ | ⟨t1, t2, t3, t4⟩
        all_goals
          go_wp2_with (first | refine wpList_buildTo rfl 44 _ rfl (some 65) rfl #[.int .i64 0, .int .i64 0, .int .i64 0, .int .i64 0, .slice none 0 0, .slice none 0 0] (by kernel_rfl) ?_ | refine wpList_store_row rfl 44 _ _ rfl N _ rfl rfl 44 _ bN (by kernel_rfl) rfl (by simp [Value.oneCell']) ?_)
          refine bodyPost_ret (results_row_tmp rfl _ _ N 44 _ _ rfl (bN.row _) Try.underlying44 rfl (by kernel_rfl)) rfl ?_
          exact FIN.out _ 7 HR.out (by decide) (Below.setRow hB (Nat.le_refl _) _)
      · rw [Bool.not_eq_true] at hbad
        have hE2 : EarlyB ps (i + 1) := ⟨fun j hj => by
          by_cases hji : j = i
          · rw [hji, hgd]; exact hbad
          · exact hE.z j (by omega)⟩
        have hin : (1 ≤ p0 ∧ p0 ≤ 4) ∧ 1 ≤ p1 ∧ p1 ≤ 4 := by
          simp only [badP, facB, Bool.or_eq_false_iff, Bool.not_eq_false', decide_eq_true_eq] at hbad
          exact hbad
        have t1 : decide (p0 < 1) = false := decide_eq_false (by omega)
        have t2 : decide (p0 > 4) = false := decide_eq_false (by omega)
        have t3 : decide (p1 < 1) = false := decide_eq_false (by omega)
        have t4 : decide (p1 > 4) = false := decide_eq_false (by omega)
        have HE := Lib.hid hE2
        clear hE hE2 hbad hin hgd hp
        go_wp2
        go_roundw
        case rel => exact ⟨i + 1, by omega, by go_num, HE.out, bN, hB⟩
        case measure => simp [intOf]; omega
    · obtain rfl : i = ps.length := by omega
      have tl : decide (ps.length < ps.length) = false := by simp
      have hany : anyBad ps = false := by
        unfold anyBad
        exact anyF_none _ _ 0 (fun j _ hj => hE.z j (by omega))
      have hno7 : ¬ (x < 1 ∨ y < 1 ∨ ps.length = 0 ∨ anyBad ps = true) := by
        rintro (h | h | h | h)
        · omega
        · omega
        · omega
        · rw [hany] at h; cases h
      have HNO := Lib.hid hno7
      clear hany hno7 hE
      have F2 : ∀ e, (if 16384 < x ∨ 16384 < y then (11 : Int) else if 4 < ps.length then 12 else 0) = e → rightE x y ps = e := fun e h => by unfold rightE; rw [if_neg HNO.out]; exact h
      have HF2 := Lib.hid F2
      clear F2 HNO
      by_cases c2 : 16384 < x ∨ 16384 < y
      · have hr := HF2.out 11 (by rw [if_pos c2])
        have HR := Lib.hid hr
        have hcases : decide (x > 16384) = true ∨ (decide (x > 16384) = false ∧ decide (y > 16384) = true) := by
          simp only [decide_eq_true_eq, decide_eq_false_iff_not]; omega
        clear hr c2
        rcases hcases with t1 | ⟨t1, t2⟩
        all_goals
          go_wp2_with (first | refine wpList_buildTo rfl 44 _ rfl (some 72) rfl #[.int .i64 0, .int .i64 0, .int .i64 0, .int .i64 0, .slice none 0 0, .slice none 0 0] (by kernel_rfl) ?_ | refine wpList_store_row rfl 44 _ _ rfl N _ rfl rfl 44 _ bN (by kernel_rfl) rfl (by simp [Value.oneCell']) ?_)
          refine bodyPost_ret (results_row_tmp rfl _ _ N 44 _ _ rfl (bN.row _) Try.underlying44 rfl (by kernel_rfl)) rfl ?_
          exact FIN.out _ 11 HR.out (by decide) (Below.setRow hB (Nat.le_refl _) _)
      have hx2 : x ≤ 16384 := by omega
      have hy2 : y ≤ 16384 := by omega
      have t1 : decide (x > 16384) = false := decide_eq_false (by omega)
      have t2 : decide (y > 16384) = false := decide_eq_false (by omega)
      by_cases c3 : 4 < ps.length
      · have hr := HF2.out 12 (by rw [if_neg c2, if_pos c3])
        have HR := Lib.hid hr
        have t3 : decide ((ps.length : Int) > 4) = true := decide_eq_true (by omega)
        have t3' : decide (4 < ps.length) = true := decide_eq_true c3
        clear hr c2 c3
        go_wp2_with (first | refine wpList_buildTo rfl 44 _ rfl (some 76) rfl #[.int .i64 0, .int .i64 0, .int .i64 0, .int .i64 0, .slice none 0 0, .slice none 0 0] (by kernel_rfl) ?_ | refine wpList_store_row rfl 44 _ _ rfl N _ rfl rfl 44 _ bN (by kernel_rfl) rfl (by simp [Value.oneCell']) ?_)
        refine bodyPost_ret (results_row_tmp rfl _ _ N 44 _ _ rfl (bN.row _) Try.underlying44 rfl (by kernel_rfl)) rfl ?_
        exact FIN.out _ 12 HR.out (by decide) (Below.setRow hB (Nat.le_refl _) _)
      have hr0 := HF2.out 0 (by rw [if_neg c2, if_neg c3])
      have t3 : decide ((ps.length : Int) > 4) = false := decide_eq_false (by omega)
      have t3' : decide (4 < ps.length) = false := decide_eq_false c3
      have hn4 : ps.length ≤ 4 := by omega
      have HOK := Lib.hid (rightE_ok hr0)
      have HR0 := Lib.hid hr0
      clear c2 c3 hr0 FIN HF2
      obtain ⟨pa, rfl⟩ : ∃ a, pb = some a := by
        obtain ⟨a, ha, -⟩ := (HP.out wr hB).at (i := 0) (by omega)
        exact ⟨a, ha⟩
      obtain ⟨F, hF⟩ : ∃ F, F = wr.heap.size := ⟨_, rfl⟩
      have hNF : N < F := by rw [hF]; exact bN.lt
      have hpar := (HP.out wr hB).ar
      rw [List.length_map] at hpar
      have hp1 : ∀ u ∈ (ps.map partC).flatten, u.oneCell' = true := fun u hu => by
        obtain ⟨c, hc, hu⟩ := List.mem_flatten.1 hu
        obtain ⟨p, _, rfl⟩ := List.mem_map.1 hc
        simp only [partC, List.mem_cons, List.not_mem_nil, or_false] at hu
        rcases hu with rfl | rfl <;> rfl
      go_upto_region 13 with fail
      rw [← hF]
      have hal := (Below.refl wr.heap.size wr).alloc (Nat.le_refl _) (.cells #[.int .i64 0, .int .i64 0, .int .i64 0, .int .i64 0, .slice none 0 0, .slice none 0 0] 44)
      refine wp_world (fun W => NR N F (.slice none 0 0) (.slice none 0 0) [] [] 0 0 0 0 w W ∧ Ar W 2 (.slice (some pa) ps.length cap) ps.length (ps.map partC).flatten) ⟨⟨bN.alloc _, Blk.new' _ _ _ hF, Row.nil _ _ _ _, Row.nil _ _ _ _, hNF, hB.alloc (Nat.le_of_lt bN.lt) _⟩, hpar.below hal⟩ ?_
      clear hal hpar bN hB hF
      rintro W0 ⟨hR, hpar⟩
      have q4 : W0.cell? ⟨F, 4, none⟩ = some (.slice none 0 0) := hR.bF.cell 4
      have hF0 := hR.bF.lt
      go_upto_if 84 with (refine wpList_append_copy _ rfl _ _ 41 rfl N 112 _ _ 2 16 rfl rfl rfl rfl rfl rfl rfl pa ps.length cap (ps.map partC).flatten rfl hpar.1 (fun j u hj => hpar.cell hj) hp1 (by simp only [maxLen]; omega) (by omega) (by omega) (fun v' w2 hR1 hg hat => ?_); obtain ⟨b2, c2, rfl⟩ := hR1.len; have bF' := hR.bF.grown hg (by simp); have r4 := bF'.cell 4; have f4 := bF'.free 4; have bN' := hR.bN.grown hg (by simp); simp only [Act.put, List.setIfInBounds_toArray, List.set_cons_zero, List.set_cons_succ])
      have hNR : NR N F (.slice b2 ps.length c2) (.slice none 0 0) ps [] 0 0 0 0 w (w2.setCell ⟨F, 4, none⟩ (.slice b2 ps.length c2)) :=
        ⟨bN'.other _ _ (Nat.ne_of_lt hNF), bF'.set 4 _, hR1.other _ _ (hR1.typed bF' (by decide)), Row.nil _ _ _ _, hNF, (Below.grown hR.hB (by omega) hg (fun g e => by cases e)).setCell (Nat.le_of_lt hNF) _⟩
      refine wp_world (NR N F (.slice b2 ps.length c2) (.slice none 0 0) ps [] 0 0 0 0 w) hNR ?_
      clear hNR hR hR1 hpar q4 hF0 hg hat bF' r4 f4 bN' hp1
      clear W0 w2 wr
      intro W0 hNR
      go_cut [] from 84 (fun wx => ∃ u, NR N F u (.slice none 0 0) (partsOf ps) [] 0 0 0 0 w wx)
      case first =>
        have hF0 : W0.cell? ⟨F, 4, none⟩ = some (.slice b2 ps.length c2) := hNR.bF.cell 4
        by_cases h1 : ps.length = 1
        · have s1 : ((ps.length : Int) == 1) = true := by rw [h1]; rfl
          have s2 : (ps.length == 1) = true := by simpa using h1
          have s3 : decide ((ps.length : Int) = 1) = true := decide_eq_true (by omega)
          have s4 : decide (ps.length = 1) = true := decide_eq_true h1
          obtain ⟨g, cap', he, hlo, hgs, hc⟩ := hNR.row.cells (by omega)
          simp only [Value.slice.injEq] at he
          obtain ⟨rfl, -, rfl⟩ := he
          have H1 := Lib.hid h1
          have j0 : (0 : Int) < (ps.length : Int) := by omega
          have j1 : (1 : Int) ≤ (ps.length : Int) := by omega
          obtain ⟨hR1, ⟨a0, ha0⟩, hf0, ⟨a1, ha1⟩, hf1⟩ := Row.two h1 hNR.row (.int .i64 1) (.int .i64 1)
          have hgF : F ≠ g := fun e => hNR.rowF g rfl e.symm
          have hgN : N ≠ g := fun e => hNR.row.typed hNR.bN (by decide) g rfl e.symm
          clear h1 hc
          go_wp2
          go_meet
          have e1 : partsOf ps = [(1, 1)] := by unfold partsOf; rw [if_pos H1.out]
          rw [e1]
          rw [H1.out] at hR1
          refine ⟨_, (hNR.bN.other _ _ hgN).other _ _ hgN, (hNR.bF.other _ _ hgF).other _ _ hgF, ?_, Row.nil _ _ _ _, hNF, (hNR.hB.setCell hlo _).setCell hlo _⟩
          rw [H1.out]
          exact hR1
        · have s1 : ((ps.length : Int) == 1) = false := by rw [beq_eq_false_iff_ne]; omega
          have s2 : (ps.length == 1) = false := by simpa using h1
          have s3 : decide ((ps.length : Int) = 1) = false := decide_eq_false (by omega)
          have s4 : decide (ps.length = 1) = false := decide_eq_false h1
          have H1 := Lib.hid h1
          clear h1
          go_wp2
          go_meet
          have e1 : partsOf ps = ps := by unfold partsOf; rw [if_neg H1.out]
          rw [e1]
          exact ⟨_, hNR⟩
      clear hNR
      clear W0
      obtain ⟨u, hNR⟩ := hcut
      have hok := HOK.out.parts
      have hlen := partsOf_len ps
      obtain ⟨qs, hq⟩ : ∃ qs, partsOf ps = qs := ⟨_, rfl⟩
      rw [hq] at hNR hok hlen
      have HQ := Lib.hid hq
      have HOQ := Lib.hid hok
      have hn3 : 1 ≤ qs.length := by omega
      have hn5 : qs.length ≤ 4 := by omega
      have HLEN := Lib.hid hlen
      have hui := hok.iu
      obtain ⟨hf, hhf⟩ : ∃ f, m1N (hA qs) = f := ⟨_, rfl⟩
      obtain ⟨vf, hvf⟩ : ∃ f, m1N (vA qs) = f := ⟨_, rfl⟩
      obtain ⟨uf, huf⟩ : ∃ f, smN (fun k => hA qs k * vA qs k) = f := ⟨_, rfl⟩
      have HF0 := Lib.hid (show hf 0 = 1 by rw [← hhf]; rfl)
      have VF0 := Lib.hid (show vf 0 = 1 by rw [← hvf]; rfl)
      have UF0 := Lib.hid (show uf 0 = 0 by rw [← huf]; rfl)
      have HFS := Lib.hid (show ∀ k, (hk : k < qs.length) → hf (k + 1) = max (hf k) (qs[k]'hk).1 from fun k hk => by rw [← hhf]; simp only [m1N, hA]; simp [List.getD_eq_getElem?_getD, hk])
      have VFS := Lib.hid (show ∀ k, (hk : k < qs.length) → vf (k + 1) = max (vf k) (qs[k]'hk).2 from fun k hk => by rw [← hvf]; simp only [m1N, vA]; simp [List.getD_eq_getElem?_getD, hk])
      have UFS := Lib.hid (show ∀ k, (hk : k < qs.length) → uf (k + 1) = uf k + (qs[k]'hk).1 * (qs[k]'hk).2 from fun k hk => by rw [← huf]; simp only [smN, hA, vA]; simp [List.getD_eq_getElem?_getD, hk])
      rw [huf] at hui
      have HUI := Lib.hid hui
      have HPK := Lib.hid (show ∀ k, (hk : k < qs.length) → (1 ≤ (qs[k]'hk).1 ∧ (qs[k]'hk).1 ≤ 4) ∧ 1 ≤ (qs[k]'hk).2 ∧ (qs[k]'hk).2 ≤ 4 from fun k hk => by
        have h1 := hok.ps k hk
        simp only [hA, vA] at h1
        simp [List.getD_eq_getElem?_getD, hk] at h1
        omega)
      have HHL := Lib.hid (show hf qs.length = hhN qs by rw [← hhf]; exact m1N_hh hok)
      have HVL := Lib.hid (show vf qs.length = vvN qs by rw [← hvf]; exact m1N_vv hok)
      have HUL := Lib.hid (show uf qs.length = iuN qs by rw [← huf]; rfl)
      clear hhf hvf huf hok hq hui hlen hn1 hn4 hi hlt tl t1 t2 t3 t3'
      obtain ⟨bu, cu, rfl⟩ := hNR.row.len
      go_wp2
      go_loopw [10, 11, 12, 13] (fun hv vv sv iv wr => ∃ k : Nat, k ≤ ps.length ∧ hv = .int .i64 (hf k) ∧ vv = .int .i64 (vf k) ∧ sv = .int .i64 (uf k) ∧ iv = .int .i64 k ∧ NR N F (.slice bu qs.length cu) (.slice none 0 0) qs [] 0 0 0 0 w wr) (fun _ _ _ iv _ => ps.length - (intOf iv).toNat)
      case atStart => exact ⟨0, Nat.zero_le _, by rw [HF0.out], by rw [VF0.out], by rw [UF0.out], rfl, hNR⟩
      case round =>
        clear hNR
        obtain ⟨k, hk, rfl, rfl, rfl, rfl, hNR⟩ := hrel
        by_cases hlt : k < ps.length
        · have tl : decide (k < ps.length) = true := by simpa using hlt
          have hltq : k < qs.length := by rw [HLEN.out]; exact hlt
          obtain ⟨a, ha, c0, c1⟩ := (hNR.parts (by omega)).at hltq
          obtain rfl := ha
          have q4 : World.cell? _ ⟨F, 4, none⟩ = some (.slice (some a) qs.length cu) := hNR.bF.cell 4
          have j0 : (0 : Int) ≤ (k : Int) := by omega
          have j1 : (k : Int) < (qs.length : Int) := by omega
          obtain ⟨⟨p0, p1⟩, hp⟩ : ∃ p, qs[k]'hltq = p := ⟨_, rfl⟩
          have h1 := HFS.out k hltq
          have h2 := VFS.out k hltq
          have h3 := UFS.out k hltq
          have h4 := HPK.out k hltq
          have h5 := HUI.out k (by omega)
          rw [hp] at h1 h2 h3 h4 c0 c1
          obtain ⟨⟨h6, h7⟩, h8, h9⟩ := h4
          simp only at h1 h2 h3 h6 h7 h8 h9 c0 c1
          obtain ⟨m, hm⟩ : ∃ m, p0 * p1 = m := ⟨_, rfl⟩
          have hm1 := mul_in (a := p0) (b := p1) (A := 4) (B := 4) (by omega) h7 (by omega) h9
          rw [hm] at hm1 h3
          have e1 : wrap64 (p0 * p1) = m := by rw [hm]; exact IntWalk.wrap64_in _ (by omega)
          have e2 : wrap64 (uf k + m) = uf (k + 1) := by rw [h3]; exact IntWalk.wrap64_in _ (by omega)
          have ES := Lib.hid (show Value.int .i64 (wrap64 (uf k + wrap64 (p0 * p1))) = .int .i64 (uf (k + 1)) by rw [e1, e2])
          have H1 := Lib.hid h1; have H2 := Lib.hid h2
          clear e1 e2 h3 hm hp hm1 h1 h2 h5
          obtain ⟨M, hM⟩ : ∃ M, M = wr.heap.size := ⟨_, rfl⟩
          go_upto_region 21 with fail
          refine wp_world (fun W => Blk W M #[.int .i64 p0, .int .i64 p1] 112 ∧ NR N F (.slice (some a) qs.length cu) (.slice none 0 0) qs [] 0 0 0 0 w W) ⟨Blk.new' _ _ _ hM, hNR.below ((Below.refl _ _).alloc (Nat.le_refl _) _)⟩ ?_
          rw [← hM]
          clear hM hNR c0 c1 q4
          rintro W1 ⟨bM, hNR⟩
          have k0 := bM.cell 0
          have k1 := bM.cell 1
          by_cases ca : p0 > hf k
          · have ta : decide (p0 > hf k) = true := decide_eq_true ca
            have ea := Lib.hid (show hf (k + 1) = p0 by rw [H1.out]; omega)
            clear ca
            by_cases cb' : p1 > vf k
            · have tb : decide (p1 > vf k) = true := decide_eq_true cb'
              have eb := Lib.hid (show vf (k + 1) = p1 by rw [H2.out]; omega)
              clear cb'
              go_wp2
              go_roundw
              case rel => exact ⟨k + 1, by omega, by rw [ea.out], by rw [eb.out], ES.out, by go_num, hNR⟩
              case measure => simp [intOf]; omega
            · have tb : decide (p1 > vf k) = false := decide_eq_false cb'
              have eb := Lib.hid (show vf (k + 1) = vf k by rw [H2.out]; omega)
              clear cb'
              go_wp2
              go_roundw
              case rel => exact ⟨k + 1, by omega, by rw [ea.out], by rw [eb.out], ES.out, by go_num, hNR⟩
              case measure => simp [intOf]; omega
          · have ta : decide (p0 > hf k) = false := decide_eq_false ca
            have ea := Lib.hid (show hf (k + 1) = hf k by rw [H1.out]; omega)
            clear ca
            by_cases cb' : p1 > vf k
            · have tb : decide (p1 > vf k) = true := decide_eq_true cb'
              have eb := Lib.hid (show vf (k + 1) = p1 by rw [H2.out]; omega)
              clear cb'
              go_wp2
              go_roundw
              case rel => exact ⟨k + 1, by omega, by rw [ea.out], by rw [eb.out], ES.out, by go_num, hNR⟩
              case measure => simp [intOf]; omega
            · have tb : decide (p1 > vf k) = false := decide_eq_false cb'
              have eb := Lib.hid (show vf (k + 1) = vf k by rw [H2.out]; omega)
              clear cb'
              go_wp2
              go_roundw
              case rel => exact ⟨k + 1, by omega, by rw [ea.out], by rw [eb.out], ES.out, by go_num, hNR⟩
              case measure => simp [intOf]; omega
        · obtain rfl : k = ps.length := by omega
          have tl : decide (ps.length < ps.length) = false := by simp
          rw [show hf ps.length = hhN qs by rw [← HLEN.out]; exact HHL.out, show vf ps.length = vvN qs by rw [← HLEN.out]; exact HVL.out, show uf ps.length = iuN qs by rw [← HLEN.out]; exact HUL.out]
          have hE : newE x y ps = (if 1 < ps.length ∧ 10 < iuN qs then 12 else if 16384 < totN x y qs then 11 else 0) := by
            unfold newE
            rw [HR0.out, if_neg (by decide), HQ.out]
          have hhh := HOQ.out.hh
          have hvv := HOQ.out.vv
          have hac := HOQ.out.ac
          have hdn := HOQ.out.dn
          have hiu := HUI.out qs.length (Nat.le_refl _)
          rw [HUL.out] at hiu
          have eac : upI x (8 * hhN qs) = acN x qs := rfl
          have edn : upI y (8 * vvN qs) = dnN y qs := rfl
          have egs : gridsN x y qs = qs.map (gridP x y (hhN qs) (vvN qs) (acN x qs) (dnN y qs)) := rfl
          have etot : totN x y qs = smN (fun k => (acN x qs * hA qs k) * (dnN y qs * vA qs k)) qs.length := rfl
          have EFIN := Lib.hid (show ∀ (W : World) (u gv : Value), newE x y ps = 0 → Row W N 112 2 u qs.length (qs.map partC).flatten → Row W N 107 4 gv (gridsN x y qs).length ((gridsN x y qs).map GridV.cells).flatten → RefNew x y ps N (.returned (.tuple #[.agg #[.int .i64 (8 * hhN qs), .int .i64 (8 * vvN qs), .int .i64 (acN x qs), .int .i64 (dnN y qs), u, gv], .int .i64 0])) W from fun W u gv h0 h1 h2 =>
            ⟨_, by rw [h0], fun h => absurd h0 h, fun _ => ⟨u, gv, by rw [HQ.out], by rw [HQ.out]; exact h1, by rw [HQ.out]; exact h2⟩⟩)
          have EBAD := Lib.hid (show ∀ (W : World) (e : Int), newE x y ps = e → e ≠ 0 → RefNew x y ps N (.returned (.tuple #[.agg #[.int .i64 0, .int .i64 0, .int .i64 0, .int .i64 0, .slice none 0 0, .slice none 0 0], .int .i64 e])) W from fun W e h1 h2 =>
            ⟨.agg zeroRF, by rw [h1]; rfl, fun _ => rfl, fun h => absurd (h1 ▸ h) h2⟩)
          have HTOT := Lib.hid (blkN_tot (x := x) (y := y) (qs := qs))
          have HGIN := Lib.hid (grids_in HOQ.out)
          generalize hhN qs = HH at *
          generalize vvN qs = VV at *
          generalize acN x qs = AC at *
          generalize dnN y qs = DN at *
          generalize iuN qs = IU at *
          have EAC := Lib.hid eac; have EDN := Lib.hid edn; have EGS := Lib.hid egs
          have HE := Lib.hid hE
          clear eac edn egs etot hE HHL HVL HUL HFS VFS UFS HUI HF0 VF0 UF0
          go_upto_region 26 with fail
          obtain ⟨wo, hwo⟩ : ∃ wo : World, wo = wr := ⟨_, rfl⟩
          go_cut [125] from 119 to 125 (fun c wx => c = .bool (decide (1 < ps.length ∧ 10 < IU)) ∧ wx = wo)
          case first =>
            by_cases c1 : 1 < ps.length
            · have t1 : decide ((ps.length : Int) > 1) = true := by simp; omega
              by_cases c2 : 10 < IU
              · have t2 : decide (IU > 10) = true := by simpa using c2
                go_wp2
                go_meet
                exact ⟨by simp; omega, hwo.symm⟩
              · have t2 : decide (IU > 10) = false := by simpa using c2
                go_wp2
                go_meet
                exact ⟨by simp; omega, hwo.symm⟩
            · have t1 : decide ((ps.length : Int) > 1) = false := by simp; omega
              go_wp2
              go_meet
              exact ⟨by simp; omega, hwo.symm⟩
          obtain ⟨rfl, rfl⟩ := hcut
          subst hwo
          by_cases hC : 1 < ps.length ∧ 10 < IU
          · rw [decide_eq_true hC]
            have h12 := Lib.hid (show newE x y ps = 12 by rw [HE.out, if_pos hC])
            clear hC
            have bN := hNR.bN
            have hB := hNR.hB
            go_wp2_with (first | refine wpList_buildTo rfl 44 _ rfl (some 126) rfl #[.int .i64 0, .int .i64 0, .int .i64 0, .int .i64 0, .slice none 0 0, .slice none 0 0] (by kernel_rfl) ?_ | refine wpList_store_row rfl 44 _ _ rfl N _ rfl rfl 44 _ bN (by kernel_rfl) rfl (by simp [Value.oneCell']) ?_)
            refine bodyPost_ret (results_row_tmp rfl _ _ N 44 _ _ rfl (bN.row _) Try.underlying44 rfl (by kernel_rfl)) rfl ?_
            exact ⟨EBAD.out _ 12 h12.out (by decide), Below.setRow hB (Nat.le_refl _) _⟩
          rw [decide_eq_false hC]
          have HE2 := Lib.hid (show newE x y ps = (if 16384 < totN x y qs then 11 else 0) by rw [HE.out, if_neg hC])
          clear hC HE
          have hu1 := ref_cover x (8 * HH) (by omega) (by omega) (by omega) (by omega)
          have hu2 := ref_cover y (8 * VV) (by omega) (by omega) (by omega) (by omega)
          rw [EAC.out] at hu1
          rw [EDN.out] at hu2
          have q0 := hNR.bF.cell 0; have q1 := hNR.bF.cell 1; have q2 := hNR.bF.cell 2; have q3 := hNR.bF.cell 3
          have f0 := hNR.bF.free 0; have f1 := hNR.bF.free 1; have f2 := hNR.bF.free 2; have f3 := hNR.bF.free 3
          obtain ⟨G, hG⟩ : ∃ G, gridP x y HH VV AC DN = G := ⟨_, rfl⟩
          have GP := Lib.hid (show ∀ p, G p = gridP x y HH VV AC DN p from fun p => by rw [hG])
          have GSS := Lib.hid (show gridsN x y qs = qs.map G by rw [EGS.out, hG])
          clear hG EGS
          go_upto_region 31 with (go_at_call 126; refine (hu1 _).mono ?_; rintro r wz ⟨rfl, rfl⟩)
          clear hu1
          go_wp2_with (go_at_call 126; refine (hu2 _).mono ?_; rintro r wz ⟨rfl, rfl⟩)
          clear hu2 q0 q1 q2 q3 f0 f1 f2 f3
          go_loopw [15] (fun iv wr => ∃ k : Nat, k ≤ ps.length ∧ iv = .int .i64 k ∧ ∃ gv gs, TakenG G qs k gs ∧ NR N F (.slice bu qs.length cu) gv qs gs (8 * HH) (8 * VV) AC DN w wr) (fun iv _ => ps.length - (intOf iv).toNat)
          case atStart => exact ⟨0, Nat.zero_le _, rfl, _, _, TakenG.zero _ _, (((hNR.setUw _).setUh _).setAc _).setDn _⟩
          case round =>
           clear hNR
           obtain ⟨k, hk, rfl, gv, gs, hT, hNR⟩ := hrel
           by_cases hlt : k < ps.length
           · have tl : decide (k < ps.length) = true := by simpa using hlt
             have hltq : k < qs.length := by rw [HLEN.out]; exact hlt
             obtain ⟨a, ha, c0, c1⟩ := (hNR.parts (by omega)).at hltq
             obtain rfl := ha
             obtain ⟨bv, cv, rfl⟩ := hNR.grid.len
             have q4 : World.cell? _ ⟨F, 4, none⟩ = some (.slice (some a) qs.length cu) := hNR.bF.cell 4
             have j0 : (0 : Int) ≤ (k : Int) := by omega
             have j1 : (k : Int) < (qs.length : Int) := by omega
             obtain ⟨⟨p0, p1⟩, hp⟩ : ∃ p, qs[k]'hltq = p := ⟨_, rfl⟩
             have h4 := HPK.out k hltq
             have h10 := hT.step hltq
             rw [hp] at h4 c0 c1 h10
             obtain ⟨⟨h6, h7⟩, h8, h9⟩ := h4
             simp only at h6 h7 h8 h9 c0 c1
             have hgl : gs.length ≤ 4 := by rw [hT.1]; omega
             obtain ⟨m1, hm1⟩ : ∃ m, AC * p0 = m := ⟨_, rfl⟩
             obtain ⟨m2, hm2⟩ : ∃ m, DN * p1 = m := ⟨_, rfl⟩
             obtain ⟨m3, hm3⟩ : ∃ m, x * p0 = m := ⟨_, rfl⟩
             obtain ⟨m4, hm4⟩ : ∃ m, y * p1 = m := ⟨_, rfl⟩
             have b1 := mul_in (a := AC) (b := p0) (A := 3000) (B := 4) hac.1 hac.2 (by omega) h7
             have b2 := mul_in (a := DN) (b := p1) (A := 3000) (B := 4) hdn.1 hdn.2 (by omega) h9
             have b3 := mul_in (a := x) (b := p0) (A := 16384) (B := 4) (by omega) hx2 (by omega) h7
             have b4 := mul_in (a := y) (b := p1) (A := 16384) (B := 4) (by omega) hy2 (by omega) h9
             rw [hm1] at b1; rw [hm2] at b2; rw [hm3] at b3; rw [hm4] at b4
             have E1 := Lib.hid (show IntKind.i64.wrap (AC * p0) = m1 by rw [hm1]; exact IntWalk.i64_in _ (by omega))
             have E2w := Lib.hid (show IntKind.i64.wrap (DN * p1) = m2 by rw [hm2]; exact IntWalk.i64_in _ (by omega))
             have E3w := Lib.hid (show IntKind.i64.wrap (x * p0) = m3 by rw [hm3]; exact IntWalk.i64_in _ (by omega))
             have E4w := Lib.hid (show IntKind.i64.wrap (y * p1) = m4 by rw [hm4]; exact IntWalk.i64_in _ (by omega))
             have l1 := upI_in (a := m3) (b := HH) b3.1 hhh.1
             have l2 := upI_in (a := upI m3 HH) (b := 8) l1.1 (by decide)
             have l3 := upI_in (a := m4) (b := VV) b4.1 hvv.1
             have l4 := upI_in (a := upI m4 VV) (b := 8) l3.1 (by decide)
             have u1 := ref_cover m3 HH b3.1 (by omega) hhh.1 (by omega)
             have u2 := ref_cover (upI m3 HH) 8 l1.1 (by omega) (by decide) (by decide)
             have u3 := ref_cover m4 VV b4.1 (by omega) hvv.1 (by omega)
             have u4 := ref_cover (upI m4 VV) 8 l3.1 (by omega) (by decide) (by decide)
             have hg : G (p0, p1) = ⟨m1, m2, upI (upI m3 HH) 8, upI (upI m4 VV) 8⟩ := by rw [GP.out]; unfold gridP; simp only; rw [hm1, hm2, hm3, hm4]
             rw [hg] at h10
             generalize upI (upI m3 HH) 8 = z2 at *
             generalize upI m3 HH = z1 at *
             generalize upI (upI m4 VV) 8 = z4 at *
             generalize upI m4 VV = z3 at *
             have H10 := Lib.hid h10
             clear hm1 hm2 hm3 hm4 b1 b2 b3 b4 l1 l2 l3 l4 hg hT hp h10
             obtain ⟨M, hM⟩ : ∃ M, M = wr.heap.size := ⟨_, rfl⟩
             go_upto_region 36 with fail
             refine wp_world (fun W => Blk W M #[.int .i64 p0, .int .i64 p1] 112 ∧ NR N F (.slice (some a) qs.length cu) (.slice bv gs.length cv) qs gs (8 * HH) (8 * VV) AC DN w W) ⟨Blk.new' _ _ _ hM, hNR.below ((Below.refl _ _).alloc (Nat.le_refl _) _)⟩ ?_
             rw [← hM]
             clear hM hNR c0 c1 q4
             rintro W ⟨bM, hNR⟩
             have hGm : ∀ W W', (Blk W M #[.int .i64 p0, .int .i64 p1] 112 ∧ NR N F (.slice (some a) qs.length cu) (.slice bv gs.length cv) qs gs (8 * HH) (8 * VV) AC DN w W) → Below W.heap.size W W' → (Blk W' M #[.int .i64 p0, .int .i64 p1] 112 ∧ NR N F (.slice (some a) qs.length cu) (.slice bv gs.length cv) qs gs (8 * HH) (8 * VV) AC DN w W') := fun W W' h hb => ⟨h.1.below hb h.1.lt, h.2.below hb⟩
             refine wp_region_mono [0, 1, 2, 3, 4, 5, 6, 7, 8, 9, 10, 11, 12, 13, 14, 15, 16, 17, 18, 19, 20, 21, 22, 23, 24, 25, 26, 27] [28, 29, 30] (fun W => Blk W M #[.int .i64 p0, .int .i64 p1] 112 ∧ NR N F (.slice (some a) qs.length cu) (.slice bv gs.length cv) qs gs (8 * HH) (8 * VV) AC DN w W)
               (fun | 17 => some (sFix (.int .i64 z1)) | 18 => some (sFix (.int .i64 z2)) | 24 => some (sFix (.int .i64 z3)) | 25 => some (sFix (.int .i64 z4)) | 27 => some (sSlice 1 #[.int .i64 m1, .int .i64 m2, .int .i64 z2, .int .i64 z4] 107) | _ => none) (fun _ => []) (by kernel_rfl) (by kernel_rfl) ⟨bM.drew, hNR.below (Below.refl _ _).drew⟩ ?_ ?_
             · intro i s hs
               match i with
               | 17 => cases hs; exact fun _ _ => sFix_mono _ _ _
               | 18 => cases hs; exact fun _ _ => sFix_mono _ _ _
               | 24 => cases hs; exact fun _ _ => sFix_mono _ _ _
               | 25 => cases hs; exact fun _ _ => sFix_mono _ _ _
               | 27 => cases hs; exact fun _ _ => sSlice_mono _ _ _ _ _
             clear bM hNR
             simp only [pick, List.getD_cons_succ, List.getD_cons_zero, List.zip_cons_cons, List.zip_nil_right]
             (first | (refine mono_skip (by rfl) ?_; simp only [Act.put, List.setIfInBounds_toArray, List.set_cons_zero, List.set_cons_succ]) | (refine mono_pure (v := ?_) (by rfl) rfl ?_ ?_; rotate_left; (intro wS hS; have nfa := hS.1.cell 0; have nfb := hS.1.cell 1; have nf0 := hS.2.bF.cell 0; have nf1 := hS.2.bF.cell 1; have nf2 := hS.2.bF.cell 2; have nf3 := hS.2.bF.cell 3; go_simp; try with_reducible rfl); simp only [Act.put, List.setIfInBounds_toArray, List.set_cons_zero, List.set_cons_succ]))
             refine mono_pure (v := .slice bv gs.length cv) (by rfl) rfl (fun w1 hS => by have cy : w1.cell? ⟨F, 5, none⟩ = some (.slice bv gs.length cv) := hS.2.bF.cell 5; go_simp; try with_reducible rfl) ?_
             simp only [Act.put, List.setIfInBounds_toArray, List.set_cons_zero, List.set_cons_succ]
             iterate 4 (first | (refine mono_skip (by rfl) ?_; simp only [Act.put, List.setIfInBounds_toArray, List.set_cons_zero, List.set_cons_succ]) | (refine mono_pure (v := ?_) (by rfl) rfl ?_ ?_; rotate_left; (intro wS hS; have nfa := hS.1.cell 0; have nfb := hS.1.cell 1; have nf0 := hS.2.bF.cell 0; have nf1 := hS.2.bF.cell 1; have nf2 := hS.2.bF.cell 2; have nf3 := hS.2.bF.cell 3; go_simp; try with_reducible rfl); simp only [Act.put, List.setIfInBounds_toArray, List.set_cons_zero, List.set_cons_succ]))
             refine mono_pure (v := .int .i64 m1) (by rfl) rfl (fun w1 hS => by go_simp; rw [E1.out]) ?_
             simp only [Act.put, List.setIfInBounds_toArray, List.set_cons_zero, List.set_cons_succ]
             iterate 4 (first | (refine mono_skip (by rfl) ?_; simp only [Act.put, List.setIfInBounds_toArray, List.set_cons_zero, List.set_cons_succ]) | (refine mono_pure (v := ?_) (by rfl) rfl ?_ ?_; rotate_left; (intro wS hS; have nfa := hS.1.cell 0; have nfb := hS.1.cell 1; have nf0 := hS.2.bF.cell 0; have nf1 := hS.2.bF.cell 1; have nf2 := hS.2.bF.cell 2; have nf3 := hS.2.bF.cell 3; go_simp; try with_reducible rfl); simp only [Act.put, List.setIfInBounds_toArray, List.set_cons_zero, List.set_cons_succ]))
             refine mono_pure (v := .int .i64 m2) (by rfl) rfl (fun w1 hS => by go_simp; rw [E2w.out]) ?_
             simp only [Act.put, List.setIfInBounds_toArray, List.set_cons_zero, List.set_cons_succ]
             iterate 3 (first | (refine mono_skip (by rfl) ?_; simp only [Act.put, List.setIfInBounds_toArray, List.set_cons_zero, List.set_cons_succ]) | (refine mono_pure (v := ?_) (by rfl) rfl ?_ ?_; rotate_left; (intro wS hS; have nfa := hS.1.cell 0; have nfb := hS.1.cell 1; have nf0 := hS.2.bF.cell 0; have nf1 := hS.2.bF.cell 1; have nf2 := hS.2.bF.cell 2; have nf3 := hS.2.bF.cell 3; go_simp; try with_reducible rfl); simp only [Act.put, List.setIfInBounds_toArray, List.set_cons_zero, List.set_cons_succ]))
             refine mono_pure (v := .int .i64 m3) (by rfl) rfl (fun w1 hS => by go_simp; rw [E3w.out]) ?_
             simp only [Act.put, List.setIfInBounds_toArray, List.set_cons_zero, List.set_cons_succ]
             (first | (refine mono_skip (by rfl) ?_; simp only [Act.put, List.setIfInBounds_toArray, List.set_cons_zero, List.set_cons_succ]) | (refine mono_pure (v := ?_) (by rfl) rfl ?_ ?_; rotate_left; (intro wS hS; have nfa := hS.1.cell 0; have nfb := hS.1.cell 1; have nf0 := hS.2.bF.cell 0; have nf1 := hS.2.bF.cell 1; have nf2 := hS.2.bF.cell 2; have nf3 := hS.2.bF.cell 3; go_simp; try with_reducible rfl); simp only [Act.put, List.setIfInBounds_toArray, List.set_cons_zero, List.set_cons_succ]))
             refine mono_fix (.int .i64 z1) (by rfl) rfl hGm (by intro w hG; go_simp; first | done | exact ⟨rfl, rfl⟩) (fun w1 hG hH => (u1 w1).mono fun e w' hh => by obtain ⟨rfl, rfl⟩ := hh; exact ⟨rfl, Below.refl _ _⟩) ?_
             simp only [Act.put, List.setIfInBounds_toArray, List.set_cons_zero, List.set_cons_succ]
             refine mono_fix (.int .i64 z2) (by rfl) rfl hGm (by intro w hG; go_simp; first | done | exact ⟨rfl, rfl⟩) (fun w1 hG hH => (u2 w1).mono fun e w' hh => by obtain ⟨rfl, rfl⟩ := hh; exact ⟨rfl, Below.refl _ _⟩) ?_
             simp only [Act.put, List.setIfInBounds_toArray, List.set_cons_zero, List.set_cons_succ]
             iterate 3 (first | (refine mono_skip (by rfl) ?_; simp only [Act.put, List.setIfInBounds_toArray, List.set_cons_zero, List.set_cons_succ]) | (refine mono_pure (v := ?_) (by rfl) rfl ?_ ?_; rotate_left; (intro wS hS; have nfa := hS.1.cell 0; have nfb := hS.1.cell 1; have nf0 := hS.2.bF.cell 0; have nf1 := hS.2.bF.cell 1; have nf2 := hS.2.bF.cell 2; have nf3 := hS.2.bF.cell 3; go_simp; try with_reducible rfl); simp only [Act.put, List.setIfInBounds_toArray, List.set_cons_zero, List.set_cons_succ]))
             refine mono_pure (v := .int .i64 m4) (by rfl) rfl (fun w1 hS => by go_simp; rw [E4w.out]) ?_
             simp only [Act.put, List.setIfInBounds_toArray, List.set_cons_zero, List.set_cons_succ]
             (first | (refine mono_skip (by rfl) ?_; simp only [Act.put, List.setIfInBounds_toArray, List.set_cons_zero, List.set_cons_succ]) | (refine mono_pure (v := ?_) (by rfl) rfl ?_ ?_; rotate_left; (intro wS hS; have nfa := hS.1.cell 0; have nfb := hS.1.cell 1; have nf0 := hS.2.bF.cell 0; have nf1 := hS.2.bF.cell 1; have nf2 := hS.2.bF.cell 2; have nf3 := hS.2.bF.cell 3; go_simp; try with_reducible rfl); simp only [Act.put, List.setIfInBounds_toArray, List.set_cons_zero, List.set_cons_succ]))
             refine mono_fix (.int .i64 z3) (by rfl) rfl hGm (by intro w hG; go_simp; first | done | exact ⟨rfl, rfl⟩) (fun w1 hG hH => (u3 w1).mono fun e w' hh => by obtain ⟨rfl, rfl⟩ := hh; exact ⟨rfl, Below.refl _ _⟩) ?_
             simp only [Act.put, List.setIfInBounds_toArray, List.set_cons_zero, List.set_cons_succ]
             refine mono_fix (.int .i64 z4) (by rfl) rfl hGm (by intro w hG; go_simp; first | done | exact ⟨rfl, rfl⟩) (fun w1 hG hH => (u4 w1).mono fun e w' hh => by obtain ⟨rfl, rfl⟩ := hh; exact ⟨rfl, Below.refl _ _⟩) ?_
             simp only [Act.put, List.setIfInBounds_toArray, List.set_cons_zero, List.set_cons_succ]
             (first | (refine mono_skip (by rfl) ?_; simp only [Act.put, List.setIfInBounds_toArray, List.set_cons_zero, List.set_cons_succ]) | (refine mono_pure (v := ?_) (by rfl) rfl ?_ ?_; rotate_left; (intro wS hS; have nfa := hS.1.cell 0; have nfb := hS.1.cell 1; have nf0 := hS.2.bF.cell 0; have nf1 := hS.2.bF.cell 1; have nf2 := hS.2.bF.cell 2; have nf3 := hS.2.bF.cell 3; go_simp; try with_reducible rfl); simp only [Act.put, List.setIfInBounds_toArray, List.set_cons_zero, List.set_cons_succ]))
             refine mono_slice 1 #[.int .i64 m1, .int .i64 m2, .int .i64 z2, .int .i64 z4] 107 (by rfl) rfl hGm (by intro wS; go_simp; try rfl) (fun g2 => ?_)
             simp only [Act.put, List.setIfInBounds_toArray, List.set_cons_zero, List.set_cons_succ]
             refine mono_nil ?_
             rintro W9 ⟨bM, hNR⟩ ⟨hbs, I, hI1, hI2⟩
             obtain ⟨i1, i2, i3, ⟨g, hg, i4, i5, i6⟩⟩ := hI1 27 _ (upd_self _ _ _)
             obtain rfl : g2 = g := by simpa using hg
             have hNl := hNR.bN.lt
             clear hI1 hI2 u1 u2 u3 u4 hGm
             go_wp2_with (refine wpList_append_Row _ rfl _ _ 42 rfl N 107 _ _ 4 32 rfl rfl rfl rfl rfl rfl _ _ _ rfl hNR.grid _ 1 1 [.int .i64 m1, .int .i64 m2, .int .i64 z2, .int .i64 z4] rfl (by omega) rfl (i6.cells) (by intro u hu; simp at hu; rcases hu with rfl | rfl | rfl | rfl <;> rfl) (by simp only [maxLen]; omega) (by omega) (by omega) (fun v' w2 hR1 hg hat => ?_); obtain ⟨b2, c2, rfl⟩ := hR1.len; have bF' := hNR.bF.grown hg (fun e => hNR.gridF F e.symm rfl); have r5 := bF'.cell 5; have f5 := bF'.free 5; simp only [Act.put, List.setIfInBounds_toArray, List.set_cons_zero, List.set_cons_succ])
             exact ⟨⟨k + 1, by omega, by go_num, _, _, H10.out, hNR.app (g := ⟨m1, m2, z2, z4⟩) hg hR1⟩, by simp [intOf]; omega⟩
           · obtain rfl : k = ps.length := by omega
             have tl : decide (ps.length < ps.length) = false := by simp
             rw [← HLEN.out] at hT
             have hgs : gs = gridsN x y qs := hT.all.trans GSS.out.symm
             have hgl : gs.length ≤ 4 := by rw [hT.1]; omega
             obtain ⟨bv, cv, rfl⟩ := hNR.grid.len
             have hbl := fun W h => ref_blocks (8 * HH) (8 * VV) AC DN bu qs.length cu (.slice bv gs.length cv) gs hgl (by rw [hgs]; exact HGIN.out) W h
             have hbt : blkN gs gs.length = totN x y qs := by rw [hgs]; exact HTOT.out
             rw [hbt] at hbl
             have hel : Elems wr 4 (.slice bv gs.length cv) (gs.map GridV.cells) := Ar.elems hNR.grid.ar (fun c hc => by obtain ⟨p, _, rfl⟩ := List.mem_map.1 hc; rfl) (by simp) (by simp only [maxLen]; omega)
             have hb1 := hbl _ hel
             have HGS := Lib.hid hgs
             clear hbl hbt hel hT hgs GSS GP HPK
             obtain ⟨T, hT⟩ : ∃ T, totN x y qs = T := ⟨_, rfl⟩
             rw [hT] at hb1
             have HTT := Lib.hid hT
             clear hT
             have bF := hNR.bF
             by_cases hC : 16384 < T
             · have t1 : decide (T > 16384) = true := decide_eq_true hC
               have h11 := Lib.hid (show newE x y ps = 11 by rw [HE2.out, HTT.out, if_pos hC])
               clear hC
               go_wp2_with (first | (refine wpList_load_row rfl 44 _ rfl F rfl 44 _ _ _ bF Try.underlying44 rfl (by kernel_rfl) ?_; simp only [Act.put, List.setIfInBounds_toArray, List.set_cons_zero, List.set_cons_succ]) | (go_at_call 27; refine hb1.mono ?_; rintro r w5 ⟨rfl, hbb⟩; have hN5 := hNR.below hbb) | (refine wpList_buildTo rfl 44 _ rfl (some 187) rfl #[.int .i64 0, .int .i64 0, .int .i64 0, .int .i64 0, .slice none 0 0, .slice none 0 0] (by kernel_rfl) ?_; simp only [Act.put, List.setIfInBounds_toArray, List.set_cons_zero, List.set_cons_succ]) | (refine wpList_store_row rfl 44 _ _ rfl N _ rfl rfl 44 _ hN5.bN (by kernel_rfl) rfl (by simp [Value.oneCell']) ?_))
               refine bodyPost_ret (results_row_tmp rfl _ _ N 44 _ _ rfl (hN5.bN.row _) Try.underlying44 rfl (by kernel_rfl)) rfl ?_
               exact ⟨EBAD.out _ 11 h11.out (by decide), Below.setRow hN5.hB (Nat.le_refl _) _⟩
             · have t1 : decide (T > 16384) = false := decide_eq_false hC
               have h0 := Lib.hid (show newE x y ps = 0 by rw [HE2.out, HTT.out, if_neg hC])
               clear hC
               go_upto_region 39 with (first | (refine wpList_load_row rfl 44 _ rfl F rfl 44 _ _ _ bF Try.underlying44 rfl (by kernel_rfl) ?_; simp only [Act.put, List.setIfInBounds_toArray, List.set_cons_zero, List.set_cons_succ]) | (go_at_call 27; refine hb1.mono ?_; rintro r w5 ⟨rfl, hbb⟩; have hN5 := hNR.below hbb))
               have bF5 := hN5.bF
               clear hNR bF hb1
               go_wp2_with (first | (refine wpList_load_row rfl 44 _ rfl F rfl 44 _ _ _ bF5 Try.underlying44 rfl (by kernel_rfl) ?_; simp only [Act.put, List.setIfInBounds_toArray, List.set_cons_zero, List.set_cons_succ]) | (refine wpList_store_row rfl 44 _ _ rfl N _ rfl rfl 44 _ hN5.bN (by kernel_rfl) rfl (by simp [Value.oneCell']) ?_))
               refine bodyPost_ret (results_row_tmp rfl _ _ N 44 _ _ rfl (hN5.bN.row _) Try.underlying44 rfl (by kernel_rfl)) rfl ?_
               refine ⟨EFIN.out _ _ _ h0.out (hN5.row.same fun g e => setRow_other _ _ _ _ (hN5.row.typed hN5.bN (by decide) g e)) ?_, Below.setRow hN5.hB (Nat.le_refl _) _⟩
               rw [← HGS.out]
               exact hN5.grid.same fun g e => setRow_other _ _ _ _ (hN5.grid.typed hN5.bN (by decide) g e)
end Go.Proofs.Ytgmhhocpdfdplaa
