/- Package image: whether a block's coefficients are in their ranges. -/
import Derived.Test.YtgmhhocpdfdplaaTagsE
namespace Go.Proofs.Ytgmhhocpdfdplaa
open Go.RowKit
set_option maxRecDepth 100000
set_option maxHeartbeats 4000000
def okC (n : Int) : Bool := decide (-1023 ≤ n ∧ n ≤ 1023)
theorem img_ranged1 (n : Int) (w : World) : Calls Try.prog 143 #[.int .i16 n] w fun r w' => r = .returned (.bool (!okC n)) ∧ w = w' := by
  by_cases h1 : n < -1023
  · have t1 : decide (n < -1023) = true := by simpa using h1
    have hk : okC n = false := by unfold okC; exact decide_eq_false (by omega)
    rw [hk]; clear hk h1
    go_enter Try.func143, Try.ntmps143
    go_wp2
    go_ret
    exact ⟨rfl, rfl⟩
  · have t1 : decide (n < -1023) = false := by simpa using h1
    by_cases h2 : 1023 < n
    · have t2 : decide (1023 < n) = true := by simpa using h2
      have hk : okC n = false := by unfold okC; exact decide_eq_false (by omega)
      rw [hk]; clear hk h1 h2
      go_enter Try.func143, Try.ntmps143
      go_wp2
      go_ret
      exact ⟨rfl, rfl⟩
    · have t2 : decide (1023 < n) = false := by simpa using h2
      have hk : okC n = true := by unfold okC; exact decide_eq_true (by omega)
      rw [hk]; clear hk h1 h2
      go_enter Try.func143, Try.ntmps143
      go_wp2
      go_ret
      exact ⟨rfl, rfl⟩
/-- Are the places from i on, f of them, fine? -/
def allOk (p : Nat → Bool) : Nat → Nat → Bool
  | 0, _ => true
  | f + 1, i => p i && allOk p f (i + 1)
theorem allOk_go (p : Nat → Bool) (f i : Nat) (h : p i = true) : allOk p (f + 1) i = allOk p f (i + 1) := by simp only [allOk, h, Bool.true_and]
theorem allOk_stop (p : Nat → Bool) (f i : Nat) (h : p i = false) : allOk p (f + 1) i = false := by simp only [allOk, h, Bool.false_and]
/-- What IndexFunc answers: below 0 just if all are fine. -/
def IdxRes (b : Bool) (e : Ending) : Prop := ∃ r : Int, e = .returned (.int .i64 r) ∧ decide (0 ≤ r) = !b
theorem idx_ranged (N : Nat) (xs : List Int) (hl : xs.length = 64) (w : World) (hB : Blk w N (ints .i16 xs) 57) :
    Calls Try.prog 152 #[.slice (some ⟨N, 1, none⟩) 63 63, .func (.func 143) #[] #[]] w fun e w' => IdxRes (allOk (fun k => okC (xs.getD (k + 1) 0)) 63 0) e ∧ w = w' := by
  obtain ⟨p, hp⟩ : ∃ p : Nat → Bool, (fun k => okC (xs.getD (k + 1) 0)) = p := ⟨_, rfl⟩
  rw [hp]
  obtain ⟨T, hT⟩ : ∃ T, allOk p 63 0 = T := ⟨_, rfl⟩
  rw [hT]
  have HT := Lib.hid hT
  have HP := Lib.hid hp
  clear hT hp
  go_enter Try.func152, Try.ntmps152
  go_wp2
  go_loop [8] (fun iv => ∃ i : Nat, iv = .int .i64 i ∧ i ≤ 63 ∧ allOk p (63 - i) i = T) (fun iv => 63 - (intOf iv).toNat)
  case atStart => exact ⟨0, rfl, by omega, HT.out⟩
  case round =>
    obtain ⟨i, rfl, hi, hf⟩ := hrel
    by_cases hlt : i < 63
    · have tl : decide ((i : Int) < 63) = true := by simp; omega
      have tl2 : decide (i < 63) = true := by simpa using hlt
      have c : w.cell? ⟨N, 1 + i, none⟩ = some (.int .i16 (xs.getD (i + 1) 0)) := by rw [hB.cell (1 + i), Nat.add_comm 1 i]; exact ints_get _ _ _ (by omega)
      have j0 : (0 : Int) ≤ (i : Int) := by omega
      have j1 : (i : Int) < 63 := by omega
      have hpi : p i = okC (xs.getD (i + 1) 0) := by rw [← HP.out]
      have hc := fun W => img_ranged1 (xs.getD (i + 1) 0) W
      rw [← hpi] at hc
      rw [show 63 - i = 63 - (i + 1) + 1 by omega] at hf
      have HF := Lib.hid hf
      clear hf hpi
      generalize xs.getD (i + 1) 0 = y at *
      by_cases hq : p i = true
      · have hf := HF.out
        rw [allOk_go p _ i hq] at hf
        have HF2 := Lib.hid hf
        rw [hq] at hc
        clear hf hq HF
        go_wp2_with (go_at_call 143; refine (hc _).mono ?_; rintro r w1 ⟨rfl, rfl⟩)
        go_round
        case rel => exact ⟨i + 1, by go_num, by omega, HF2.out⟩
        case measure => simp [intOf]; omega
      · rw [Bool.not_eq_true] at hq
        have hf := HF.out
        rw [allOk_stop p _ i hq] at hf
        rw [hq] at hc
        clear HF hq
        subst hf
        go_wp2_with (go_at_call 143; refine (hc _).mono ?_; rintro r w1 ⟨rfl, rfl⟩)
        go_ret
        exact ⟨⟨(i : Int), rfl, by simp⟩, rfl⟩
    · have tl : decide ((i : Int) < 63) = false := by simp; omega
      have tl2 : decide (i < 63) = false := by simpa using hlt
      rw [show 63 - i = 0 by omega] at hf
      obtain rfl : T = true := hf.symm
      go_wp2
      go_ret
      exact ⟨⟨-1, rfl, by decide⟩, rfl⟩
theorem has_ranged (N : Nat) (xs : List Int) (hl : xs.length = 64) (w : World) (hB : Blk w N (ints .i16 xs) 57) :
    Calls Try.prog 142 #[.slice (some ⟨N, 1, none⟩) 63 63, .func (.func 143) #[] #[]] w fun e w' => e = .returned (.bool (!allOk (fun k => okC (xs.getD (k + 1) 0)) 63 0)) ∧ w = w' := by
  have hi := idx_ranged N xs hl w hB
  generalize allOk (fun k => okC (xs.getD (k + 1) 0)) 63 0 = b at *
  go_enter Try.func142, Try.ntmps142
  go_wp2_with (go_at_call 152; refine hi.mono ?_; rintro e w1 ⟨⟨r, rfl, hr⟩, rfl⟩)
  go_ret
  exact ⟨by first | rfl | rw [← hr]; rfl, rfl⟩
/-- Are a block's coefficients in their ranges? -/
def rangedB (xs : List Int) : Bool := decide (-1024 ≤ xs.getD 0 0 ∧ xs.getD 0 0 < 1024) && allOk (fun k => okC (xs.getD (k + 1) 0)) 63 0
theorem img_ranged (xs : List Int) (hl : xs.length = 64) (w : World) :
    Calls Try.prog 122 #[.agg (ints .i16 xs)] w fun e w' => e = .returned (.bool (rangedB xs)) ∧ Below w.heap.size w w' := by
  unfold rangedB
  obtain ⟨N, hN⟩ : ∃ N, N = w.heap.size := ⟨_, rfl⟩
  have HN := Lib.hid hN
  rw [← hN]
  have hh := fun W h => has_ranged N xs hl W h
  generalize allOk (fun k => okC (xs.getD (k + 1) 0)) 63 0 = b at *
  have hg0 := ints_get .i16 xs 0 (by omega)
  obtain ⟨x, hx⟩ : ∃ x, xs.getD 0 0 = x := ⟨_, rfl⟩
  rw [hx] at hg0 ⊢
  clear hx
  have hcs : (decide (x < -1024) = true ∧ decide (-1024 ≤ x ∧ x < 1024) = false) ∨ (decide (x < -1024) = false ∧ decide (1024 ≤ x) = true ∧ decide (-1024 ≤ x ∧ x < 1024) = false) ∨ (decide (x < -1024) = false ∧ decide (1024 ≤ x) = false ∧ decide (-1024 ≤ x ∧ x < 1024) = true) := by simp only [decide_eq_true_eq, decide_eq_false_iff_not]; omega
  clear hN
  rcases hcs with ⟨t1, t3⟩ | ⟨t1, t2, t3⟩ | ⟨t1, t2, t3⟩
  all_goals
    rw [t3]
    clear t3
    go_enter Try.func122, Try.ntmps122
    go_upto_region 1 with fail
    rw [← HN.out]
    refine wp_world (fun W => Blk W N (ints .i16 xs) 57 ∧ Below N w W) ⟨Blk.new' _ _ _ HN.out, (Below.refl _ _).alloc (by rw [HN.out]; exact Nat.le_refl _) _⟩ ?_
    rintro W ⟨bN, hB⟩
    have q0 : W.cell? ⟨N, 0, none⟩ = some (.int .i16 x) := by rw [bN.cell 0]; exact hg0
    go_wp2_with (go_at_call 142; refine (hh _ bN).mono ?_; rintro e w1 ⟨rfl, rfl⟩)
    go_ret
    exact ⟨by simp, hB⟩
end Go.Proofs.Ytgmhhocpdfdplaa
