/- The reference's Count; Cut of both. -/
import Derived.Test.YtjldmlnohkknpaaDoorGlyph1
namespace Go.Proofs.YtjldmlnohkknpaaDoor
open Go.RowKit
set_option maxRecDepth 100000
set_option maxHeartbeats 4000000
theorem ref_count (s : ByteArray) (hs : s.size ≤ 4611686018427387904) (w : World) :
    Calls Tryd.prog 19 #[.string s] w fun e w' => e = .returned (.int .i64 (poss s).length) ∧ w = w' := by
  obtain ⟨T, hT⟩ : ∃ T, (poss s).length = T := ⟨_, rfl⟩
  rw [hT]
  have hTs : T ≤ s.size := by rw [← hT, ← rest_zero]; exact rest_len s s.size 0 (by omega)
  have hT0 : 0 + (rest s 0).length = T := by rw [rest_zero, hT, Nat.zero_add]
  have HT0 := Lib.hid hT0
  clear hT hT0
  go_enter Tryd.func19, Tryd.ntmps19
  go_wp2
  go_loop [3, 4] (fun n i => ∃ (k pos : Nat), n = .int .i64 k ∧ i = .int .i64 pos ∧ pos ≤ s.size ∧ k + (rest s pos).length = T) (fun _ i => s.size - (intOf i).toNat)
  case atStart => exact ⟨0, 0, rfl, rfl, Nat.zero_le _, HT0.out⟩
  case round =>
    obtain ⟨k, pos, rfl, rfl, hps, hk⟩ := hrel
    by_cases hp : pos < s.size
    · have tp : decide (pos < s.size) = true := by simpa using hp
      have hwd := wd_pos s pos hp
      have hwl := (wd_le s pos hp).2
      have hst := rest_step s pos hp
      rw [hst, List.length_cons] at hk
      have hk1 : k + 1 + (rest s (pos + wd s pos)).length = T := by omega
      have HK1 := Lib.hid hk1
      have hkT : k < T := by omega
      have hrr := ref_rune s pos hp hs w
      clear hst hk1 hk
      generalize wd s pos = d at *
      generalize rn s pos = r at *
      go_wp2_with (go_at_call 29; refine hrr.mono ?_; rintro e w1 ⟨rfl, rfl⟩)
      go_round
      case rel => exact ⟨k + 1, pos + d, by go_num, by go_num, hwl, HK1.out⟩
      case measure => simp [intOf]; omega
    · have tp : decide (pos < s.size) = false := by simpa using hp
      rw [rest_end s pos hp, List.length_nil, Nat.add_zero] at hk
      subst hk
      go_wp2
      go_ret
      exact ⟨rfl, rfl⟩
/-- The length of the longest beginning of at most n bytes that cuts no rune: the first place behind which a rune would reach beyond. -/
def cutAt (s : ByteArray) (n : Int) : Nat → Nat → Nat
  | 0, i => i
  | f + 1, i => if i < s.size ∧ ((i + wd s i : Nat) : Int) ≤ n then cutAt s n f (i + wd s i) else i
theorem cutAt_stop (s : ByteArray) (n : Int) (f i : Nat) (h : ¬ (i < s.size ∧ ((i + wd s i : Nat) : Int) ≤ n)) : cutAt s n f i = i := by
  cases f with
  | zero => rfl
  | succ f => simp only [cutAt, if_neg h]
theorem cutAt_step (s : ByteArray) (n : Int) (f i : Nat) (h : i < s.size ∧ ((i + wd s i : Nat) : Int) ≤ n) : cutAt s n (f + 1) i = cutAt s n f (i + wd s i) := by simp only [cutAt, if_pos h]
theorem cutAt_fuel (s : ByteArray) (n : Int) : ∀ (f g i : Nat), s.size ≤ i + f → s.size ≤ i + g → cutAt s n f i = cutAt s n g i := by
  intro f
  induction f with
  | zero =>
    intro g i hf _
    rw [cutAt_stop s n 0 i (by omega), cutAt_stop s n g i (by omega)]
  | succ f ih =>
    intro g i hf hg
    by_cases h : i < s.size ∧ ((i + wd s i : Nat) : Int) ≤ n
    · obtain ⟨g, rfl⟩ : ∃ k, g = k + 1 := ⟨g - 1, by omega⟩
      have hw := wd_pos s i h.1
      rw [cutAt_step s n f i h, cutAt_step s n g i h, ih g (i + wd s i) (by omega) (by omega)]
    · rw [cutAt_stop s n _ i h, cutAt_stop s n _ i h]
def cutLen (s : ByteArray) (n : Int) (i : Nat) : Nat := cutAt s n (s.size - i) i
theorem cutLen_stop (s : ByteArray) (n : Int) (i : Nat) (h : ¬ (i < s.size ∧ ((i + wd s i : Nat) : Int) ≤ n)) : cutLen s n i = i := cutAt_stop s n _ i h
theorem cutLen_step (s : ByteArray) (n : Int) (i : Nat) (h : i < s.size ∧ ((i + wd s i : Nat) : Int) ≤ n) : cutLen s n i = cutLen s n (i + wd s i) := by
  unfold cutLen
  have hw := wd_pos s i h.1
  obtain ⟨f, hf⟩ : ∃ f, s.size - i = f + 1 := ⟨s.size - i - 1, by omega⟩
  rw [hf, cutAt_step s n f i h, cutAt_fuel s n f (s.size - (i + wd s i)) (i + wd s i) (by omega) (by omega)]
theorem cutLen_le (s : ByteArray) (n : Int) : ∀ (f i : Nat), s.size ≤ i + f → i ≤ s.size → i ≤ cutLen s n i ∧ cutLen s n i ≤ s.size ∧ ((cutLen s n i : Int) ≤ n ∨ cutLen s n i = i) := by
  intro f
  induction f with
  | zero => intro i h hi; rw [cutLen_stop s n i (by omega)]; omega
  | succ f ih =>
    intro i h hi
    by_cases hc : i < s.size ∧ ((i + wd s i : Nat) : Int) ≤ n
    · have hw := wd_pos s i hc.1
      have hl := (wd_le s i hc.1).2
      have := ih (i + wd s i) (by omega) hl
      rw [cutLen_step s n i hc]
      omega
    · rw [cutLen_stop s n i hc]; omega
theorem cutLen_all (s : ByteArray) (n : Int) (hn : (s.size : Int) ≤ n) : ∀ (f i : Nat), s.size ≤ i + f → i ≤ s.size → cutLen s n i = s.size := by
  intro f
  induction f with
  | zero => intro i h hi; rw [cutLen_stop s n i (by omega)]; omega
  | succ f ih =>
    intro i h hi
    by_cases hc : i < s.size
    · have hw := wd_pos s i hc
      have hl := (wd_le s i hc).2
      rw [cutLen_step s n i ⟨hc, by omega⟩]
      exact ih (i + wd s i) (by omega) hl
    · rw [cutLen_stop s n i (by omega)]; omega
/-- What both cut off. -/
def cutOf (s : ByteArray) (n : Int) : ByteArray := s.extract 0 (cutLen s n 0)
theorem ref_cut (s : ByteArray) (n : Int) (hs : s.size ≤ 4611686018427387904) (w : World) :
    Calls Tryd.prog 20 #[.string s, .int .i64 n] w fun e w' => e = .returned (.string (cutOf s n)) ∧ w = w' := by
  unfold cutOf
  obtain ⟨T, hT⟩ : ∃ T, cutLen s n 0 = T := ⟨_, rfl⟩
  rw [hT]
  have HT := Lib.hid hT
  clear hT
  go_enter Tryd.func20, Tryd.ntmps20
  go_wp2
  go_loop [5] (fun i => ∃ pos : Nat, i = .int .i64 pos ∧ pos ≤ s.size ∧ cutLen s n pos = T) (fun i => s.size - (intOf i).toNat)
  case atStart => exact ⟨0, rfl, Nat.zero_le _, HT.out⟩
  case round =>
    obtain ⟨pos, rfl, hps, hk⟩ := hrel
    have HK := Lib.hid hk
    clear hk
    by_cases hp : pos < s.size
    · have tp : decide (pos < s.size) = true := by simpa using hp
      have hwd := wd_pos s pos hp
      have hwl := (wd_le s pos hp).2
      have hrr := ref_rune s pos hp hs w
      by_cases hc : ((pos + wd s pos : Nat) : Int) ≤ n
      · have hst := cutLen_step s n pos ⟨hp, hc⟩
        have HST := Lib.hid hst
        have tc : decide (n < (pos : Int) + (wd s pos : Int)) = false := by simp; omega
        clear hst hc
        generalize wd s pos = d at *
        generalize rn s pos = r at *
        go_wp2_with (go_at_call 29; refine hrr.mono ?_; rintro e w1 ⟨rfl, rfl⟩)
        go_round
        case rel => exact ⟨pos + d, by go_num, hwl, HST.out ▸ HK.out⟩
        case measure => simp [intOf]; omega
      · have hst := cutLen_stop s n pos (fun h => hc h.2)
        obtain rfl : T = pos := HK.out.symm.trans hst
        have tc : decide (n < (T : Int) + (wd s T : Int)) = true := by simp; omega
        clear hst hc HK HT
        generalize wd s T = d at *
        generalize rn s T = r at *
        have i0 : (0 : Int) ≤ (T : Int) := by omega
        have i1 : (T : Int) ≤ (s.size : Int) := by omega
        go_wp2_with (go_at_call 29; refine hrr.mono ?_; rintro e w1 ⟨rfl, rfl⟩)
        go_ret
        exact ⟨rfl, rfl⟩
    · have tp : decide (pos < s.size) = false := by simpa using hp
      have hst := cutLen_stop s n pos (fun h => hp h.1)
      obtain rfl : T = pos := HK.out.symm.trans hst
      clear hst HK HT
      have i0 : (0 : Int) ≤ (T : Int) := by omega
      have i1 : (T : Int) ≤ (s.size : Int) := by omega
      go_wp2
      go_ret
      exact ⟨rfl, rfl⟩
end Go.Proofs.YtjldmlnohkknpaaDoor
