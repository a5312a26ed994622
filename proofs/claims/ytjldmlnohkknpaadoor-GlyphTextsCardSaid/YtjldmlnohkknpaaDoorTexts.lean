/- The reference's Valid, Name, Note, walked. -/
import Derived.Test.YtjldmlnohkknpaaDoorFirst
namespace Go.Proofs.YtjldmlnohkknpaaDoor
open Go.RowKit
set_option maxRecDepth 100000
set_option maxHeartbeats 4000000
theorem ref_valid (s : ByteArray) (hs : s.size ≤ 1000000) (w : World) :
    Calls Tryd.prog 25 #[.string s] w fun e w' => e = .returned (.bool (validS s)) ∧ w = w' := by
  obtain ⟨T, hTT⟩ : ∃ T, validS s = T := ⟨_, rfl⟩
  rw [hTT]
  have h0 : decide (firstBad s validP (rest s 0) < 0) = T := by rw [rest_zero]; exact hTT
  have H0 := Lib.hid h0
  clear hTT h0
  go_enter Tryd.func25, Tryd.ntmps25
  go_wp2
  go_loop [3] (fun i => ∃ pos : Nat, i = .int .i64 pos ∧ pos ≤ s.size ∧ decide (firstBad s validP (rest s pos) < 0) = T) (fun i => s.size - (intOf i).toNat)
  case atStart => exact ⟨0, rfl, Nat.zero_le _, H0.out⟩
  case round =>
    obtain ⟨pos, rfl, hps, hf⟩ := hrel
    by_cases hp : pos < s.size
    · have tp : decide (pos < s.size) = true := by simpa using hp
      have hwd := wd_pos s pos hp
      have hwl := (wd_le s pos hp).2
      rw [rest_step s pos hp, firstBad_cons] at hf
      have hrr := ref_rune s pos hp (by omega) w
      have HF := Lib.hid hf
      clear hf
      generalize wd s pos = d at *
      generalize rn s pos = r at *
      by_cases hr : 0 ≤ r
      · have tr : decide (r < 0) = false := by simpa using hr
        have hf := HF.out
        rw [if_pos (by unfold validP; exact decide_eq_true hr)] at hf
        have HF := Lib.hid hf
        clear hf hr
        go_wp2_with (go_at_call 29; refine hrr.mono ?_; rintro e w1 ⟨rfl, rfl⟩)
        go_round
        case rel => exact ⟨pos + d, by go_num, hwl, HF.out⟩
        case measure => simp [intOf]; omega
      · have tr : decide (r < 0) = true := by simp; omega
        have hf := HF.out
        rw [if_neg (by unfold validP; simpa using hr)] at hf
        obtain rfl : T = false := by rw [← hf]; exact decide_eq_false (by omega)
        clear hf hr HF
        go_wp2_with (go_at_call 29; refine hrr.mono ?_; rintro e w1 ⟨rfl, rfl⟩)
        go_ret
        exact ⟨rfl, rfl⟩
    · have tp : decide (pos < s.size) = false := by simpa using hp
      rw [rest_end s pos hp] at hf
      obtain rfl : T = true := hf.symm
      go_wp2
      go_ret
      exact ⟨rfl, rfl⟩
def nameT (n : Nat) (q : Int) : Bool := decide (1 ≤ n) && decide (n ≤ 24) && decide (q < 0)
theorem ref_name (s : ByteArray) (hs : s.size ≤ 1000000) (w : World) :
    Calls Tryd.prog 26 #[.string s] w fun e w' => e = .returned (.bool (nameS s)) ∧ w = w' := by
  obtain ⟨T, hTT⟩ : ∃ T, nameS s = T := ⟨_, rfl⟩
  rw [hTT]
  have hTs : (poss s).length ≤ s.size := by rw [← rest_zero]; exact rest_len s s.size 0 (by omega)
  have h0 : nameT (0 + (rest s 0).length) (firstBad s nameR (rest s 0)) = T := by rw [rest_zero, Nat.zero_add]; exact hTT
  have hl0 : 0 + (rest s 0).length ≤ s.size := by rw [rest_zero]; omega
  have H0 := Lib.hid h0
  have HL0 := Lib.hid hl0
  clear hTT h0 hl0 hTs
  go_enter Tryd.func26, Tryd.ntmps26
  go_wp2
  go_loop [3, 4] (fun n i => ∃ (k pos : Nat), n = .int .i64 k ∧ i = .int .i64 pos ∧ pos ≤ s.size ∧ k + (rest s pos).length ≤ s.size ∧ nameT (k + (rest s pos).length) (firstBad s nameR (rest s pos)) = T) (fun _ i => s.size - (intOf i).toNat)
  case atStart => exact ⟨0, 0, rfl, rfl, Nat.zero_le _, HL0.out, H0.out⟩
  case round =>
    obtain ⟨k, pos, rfl, rfl, hps, hkl, hf⟩ := hrel
    by_cases hp : pos < s.size
    · have tp : decide (pos < s.size) = true := by simpa using hp
      have hwd := wd_pos s pos hp
      have hwl := (wd_le s pos hp).2
      have hrb := rn_bound s pos
      rw [rest_step s pos hp] at hf hkl
      rw [firstBad_cons, List.length_cons] at hf
      rw [List.length_cons] at hkl
      have hrr := ref_rune s pos hp (by omega) w
      have hk1 : k + 1 + (rest s (pos + wd s pos)).length = k + ((rest s (pos + wd s pos)).length + 1) := by omega
      rw [← hk1] at hf hkl
      have hkT : k < 1000000 := by omega
      have HF := Lib.hid hf
      have HKL := Lib.hid hkl
      clear hf hk1 hkl
      generalize wd s pos = d at *
      generalize rn s pos = r at *
      have hin := ref_inName r hrb.1 hrb.2
      clear hrb
      by_cases hr : nameR r = true
      · rw [hr] at hin
        have hf := HF.out
        rw [if_pos hr] at hf
        have HF := Lib.hid hf
        clear hf hr
        go_wp2_with (first | (go_at_call 29; refine hrr.mono ?_; rintro e w1 ⟨rfl, rfl⟩) | (go_at_call 43; refine (hin _).mono ?_; rintro e w2 ⟨rfl, rfl⟩))
        go_round
        case rel => exact ⟨k + 1, pos + d, by go_num, by go_num, hwl, HKL.out, HF.out⟩
        case measure => simp [intOf]; omega
      · have hf := HF.out
        rw [if_neg hr] at hf
        rw [Bool.not_eq_true] at hr
        rw [hr] at hin
        obtain rfl : T = false := by rw [← hf]; unfold nameT; rw [decide_eq_false (show ¬ (pos : Int) < 0 by omega), Bool.and_false]
        clear hf hr HF
        go_wp2_with (first | (go_at_call 29; refine hrr.mono ?_; rintro e w1 ⟨rfl, rfl⟩) | (go_at_call 43; refine (hin _).mono ?_; rintro e w2 ⟨rfl, rfl⟩))
        go_ret
        exact ⟨rfl, rfl⟩
    · have tp : decide (pos < s.size) = false := by simpa using hp
      rw [rest_end s pos hp, List.length_nil, Nat.add_zero] at hf
      by_cases h1 : 1 ≤ k
      · have t1 : decide ((1 : Int) ≤ (k : Int)) = true := by simp; omega
        by_cases h2 : k ≤ 24
        · have t2 : decide ((k : Int) ≤ 24) = true := by simp; omega
          obtain rfl : T = true := by rw [← hf]; unfold nameT; rw [decide_eq_true h1, decide_eq_true h2]; rfl
          clear h1 h2 hf hkl
          go_wp2
          go_ret
          exact ⟨rfl, rfl⟩
        · have t2 : decide ((k : Int) ≤ 24) = false := by simp; omega
          obtain rfl : T = false := by rw [← hf]; unfold nameT; rw [decide_eq_true h1, decide_eq_false h2]; rfl
          clear h1 h2 hf hkl
          go_wp2
          go_ret
          exact ⟨rfl, rfl⟩
      · have t1 : decide ((1 : Int) ≤ (k : Int)) = false := by simp; omega
        obtain rfl : T = false := by rw [← hf]; unfold nameT; rw [decide_eq_false h1]; rfl
        clear h1 hf hkl
        go_wp2
        go_ret
        exact ⟨rfl, rfl⟩
def noteT (q : Int) (n : Nat) : Int × Int := if 0 ≤ q then (q, 16) else if 1000 < n then (1000, 11) else (0, 0)
theorem ref_note (s : ByteArray) (hs : s.size ≤ 1000000) (w : World) :
    Calls Tryd.prog 24 #[.string s] w fun e w' => e = .returned (.tuple #[.int .i64 (noteS s).1, .int .i64 (noteS s).2]) ∧ w = w' := by
  obtain ⟨T, hTT⟩ : ∃ T, noteS s = T := ⟨_, rfl⟩
  rw [hTT]
  have h0 : noteT (firstBad s noteR (rest s 0)) s.size = T := by rw [rest_zero]; exact hTT
  have H0 := Lib.hid h0
  clear hTT h0
  go_enter Tryd.func24, Tryd.ntmps24
  go_wp2
  go_loop [4] (fun i => ∃ pos : Nat, i = .int .i64 pos ∧ pos ≤ s.size ∧ noteT (firstBad s noteR (rest s pos)) s.size = T) (fun i => s.size - (intOf i).toNat)
  case atStart => exact ⟨0, rfl, Nat.zero_le _, H0.out⟩
  case round =>
    obtain ⟨pos, rfl, hps, hf⟩ := hrel
    by_cases hp : pos < s.size
    · have tp : decide (pos < s.size) = true := by simpa using hp
      have hwd := wd_pos s pos hp
      have hwl := (wd_le s pos hp).2
      have hrb := rn_bound s pos
      rw [rest_step s pos hp, firstBad_cons] at hf
      have hrr := ref_rune s pos hp (by omega) w
      have HF := Lib.hid hf
      clear hf
      generalize wd s pos = d at *
      generalize rn s pos = r at *
      by_cases hr : noteR r = true
      · have hcs : (decide (r < 32) = true ∧ r = 10) ∨ (decide (r < 32) = false ∧ decide ((127 : Int) ≤ r) = false) ∨ (decide (r < 32) = false ∧ decide ((127 : Int) ≤ r) = true ∧ decide (r ≤ 159) = false) := by
          have := of_decide_eq_true hr
          simp only [decide_eq_true_eq, decide_eq_false_iff_not]; omega
        have hf := HF.out
        rw [if_pos hr] at hf
        have HF := Lib.hid hf
        clear hf hr hrb
        rcases hcs with ⟨c1, rfl⟩ | ⟨c1, c2⟩ | ⟨c1, c2, c3⟩
        all_goals
          go_wp2_with (go_at_call 29; refine hrr.mono ?_; rintro e w1 ⟨rfl, rfl⟩)
          go_round
          case rel => exact ⟨pos + d, by go_num, hwl, HF.out⟩
          case measure => simp [intOf]; omega
      · have hcs : (decide (r < 32) = true ∧ decide (r = 10) = false ∧ (r != 10) = true) ∨ (decide (r < 32) = false ∧ decide ((127 : Int) ≤ r) = true ∧ decide (r ≤ 159) = true) := by
          have h' : ¬ (r = 10 ∨ (32 ≤ r ∧ (r < 127 ∨ 159 < r))) := fun h => hr (by unfold noteR; exact decide_eq_true h)
          simp only [decide_eq_true_eq, decide_eq_false_iff_not, bne_iff_ne, ne_eq]; omega
        have hf := HF.out
        rw [if_neg hr] at hf
        unfold noteT at hf
        rw [if_pos (by omega)] at hf
        subst hf
        clear hr hrb HF
        rcases hcs with ⟨c1, c2, c3⟩ | ⟨c1, c2, c3⟩
        all_goals
          go_wp2_with (go_at_call 29; refine hrr.mono ?_; rintro e w1 ⟨rfl, rfl⟩)
          go_ret2
          exact ⟨rfl, rfl⟩
    · have tp : decide (pos < s.size) = false := by simpa using hp
      rw [rest_end s pos hp] at hf
      unfold noteT firstBad at hf
      rw [if_neg (by decide)] at hf
      by_cases h2 : 1000 < s.size
      · have t2 : decide ((1000 : Int) < (s.size : Int)) = true := by simp; omega
        rw [if_pos h2] at hf
        subst hf
        clear h2 H0
        go_wp2
        go_ret2
        exact ⟨rfl, rfl⟩
      · have t2 : decide ((1000 : Int) < (s.size : Int)) = false := by simp; omega
        rw [if_neg h2] at hf
        subst hf
        clear h2 H0
        go_wp2
        go_ret2
        exact ⟨rfl, rfl⟩
end Go.Proofs.YtjldmlnohkknpaaDoor
