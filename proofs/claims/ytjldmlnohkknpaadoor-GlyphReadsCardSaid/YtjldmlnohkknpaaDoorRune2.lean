/- The reference's Rune, walked. -/
import Derived.Test.YtjldmlnohkknpaaDoorRune
import Derived.Deep.DeepCutAuto
namespace Go.Proofs.YtjldmlnohkknpaaDoor
open Go.RowKit
set_option maxRecDepth 100000
set_option maxHeartbeats 4000000
theorem ref_rune (s : ByteArray) (i : Nat) (hi : i < s.size) (hs : s.size ≤ 4611686018427387904) (w : World) : Calls Tryd.prog 29 #[.string s, .int .i64 i] w fun e w' => e = .returned (.tuple #[.int .i64 (rn s i), .int .i64 (wd s i)]) ∧ w = w' := by
  have hb := bt_get s i hi
  have h256 := bt_lt s i
  by_cases h0 : bt s i < 128
  · obtain ⟨r1, r2⟩ := rn_ok (s := s) (i := i) (show Utf8.decode s i = (bt s i, 1) by rw [dec_at]; exact dec0 _ _ _ _ _ h0) (.inr (by show bt s i < 65533; omega))
    rw [r1, r2]
    simp only
    generalize bt s i = b0 at *
    have t0 : decide ((b0 : Int) < 128) = true := by simp; omega
    clear r1 r2
    go_enter Tryd.func29, Tryd.ntmps29
    go_wp2
    go_ret2
    exact ⟨rfl, rfl⟩
  · have t0 : decide ((bt s i : Int) < 128) = false := by simp; omega
    by_cases hX : bt s i < 194 ∨ 245 ≤ bt s i
    · obtain ⟨r1, r2⟩ := rn_bad (s := s) (i := i) (by rw [dec_at]; exact decX _ _ _ _ _ h256 (by omega))
      rw [r1, r2]
      have hX : (decide ((194 : Int) ≤ (bt s i : Int)) = false ∧ decide ((224 : Int) ≤ (bt s i : Int)) = false ∧ decide ((240 : Int) ≤ (bt s i : Int)) = false) ∨ (decide ((194 : Int) ≤ (bt s i : Int)) = true ∧ decide ((bt s i : Int) < 224) = false ∧ decide ((224 : Int) ≤ (bt s i : Int)) = true ∧ decide ((bt s i : Int) < 240) = false ∧ decide ((240 : Int) ≤ (bt s i : Int)) = true ∧ decide ((bt s i : Int) < 245) = false) := by
        simp only [decide_eq_true_eq, decide_eq_false_iff_not]; omega
      generalize bt s i = b0 at *
      clear r1 r2
      rcases hX with ⟨u1, u2, u3⟩ | ⟨u1, v1, u2, v2, u3, v3⟩
      all_goals
        go_enter Tryd.func29, Tryd.ntmps29
        go_wp2
        go_ret2
        exact ⟨rfl, rfl⟩
    · obtain ⟨n, base, least, hl⟩ : ∃ n base least, Lead (bt s i) n base least := by
        by_cases a : bt s i < 224
        · exact ⟨_, _, _, .inl ⟨by omega, a, rfl, rfl, rfl⟩⟩
        · by_cases c : bt s i < 240
          · exact ⟨_, _, _, .inr (.inl ⟨by omega, c, rfl, rfl, rfl⟩)⟩
          · exact ⟨_, _, _, .inr (.inr ⟨by omega, by omega, rfl, rfl, rfl⟩)⟩
      have hn3 : 1 ≤ n ∧ n ≤ 3 := by unfold Lead at hl; omega
      have hc0 : 0 ≤ (bt s i : Int) - base ∧ (bt s i : Int) - base ≤ 31 := by unfold Lead at hl; omega
      have hL1 := fun h => lead_bad hl h
      have hL2 := fun h1 hg h2 h3 h4 => lead_ok hl h1 hg h2 h3 h4
      have HL1 := Lib.hid hL1
      have HL2 := Lib.hid hL2
      have hcls : (decide ((194 : Int) ≤ (bt s i : Int)) = true ∧ decide ((bt s i : Int) < 224) = true ∧ n = 1 ∧ base = 192 ∧ least = 128) ∨ (decide ((194 : Int) ≤ (bt s i : Int)) = true ∧ decide ((bt s i : Int) < 224) = false ∧ decide ((224 : Int) ≤ (bt s i : Int)) = true ∧ decide ((bt s i : Int) < 240) = true ∧ n = 2 ∧ base = 224 ∧ least = 2048) ∨ (decide ((194 : Int) ≤ (bt s i : Int)) = true ∧ decide ((bt s i : Int) < 224) = false ∧ decide ((224 : Int) ≤ (bt s i : Int)) = true ∧ decide ((bt s i : Int) < 240) = false ∧ decide ((240 : Int) ≤ (bt s i : Int)) = true ∧ decide ((bt s i : Int) < 245) = true ∧ n = 3 ∧ base = 240 ∧ least = 65536) := by
        simp only [decide_eq_true_eq, decide_eq_false_iff_not]; unfold Lead at hl; omega
      clear hL1 hL2 hX h0
      generalize hb0 : bt s i = b0 at *
      obtain ⟨c0, hc⟩ : ∃ c0 : Int, (b0 : Int) - base = c0 := ⟨_, rfl⟩
      rw [hc] at hc0
      have HC := Lib.hid hc
      have HB0 := Lib.hid hb0
      clear hb0
      by_cases hsz : s.size - i ≤ n
      · obtain ⟨r1, r2⟩ := rn_bad (HL1.out (.inl hsz))
        rw [r1, r2]
        clear r1 r2 hl
        have hsz1 : (s.size : Int) - (i : Int) ≤ (n : Int) := by omega
        rcases hcls with ⟨u1, v1, rfl, rfl, rfl⟩ | ⟨u1, v1, u2, v2, rfl, rfl, rfl⟩ | ⟨u1, v1, u2, v2, u3, v3, rfl, rfl, rfl⟩
        all_goals
          subst hc
          have tz := decide_eq_true hsz1
          go_enter Tryd.func29, Tryd.ntmps29
          go_wp2
          go_ret2
          exact ⟨rfl, rfl⟩
      · have hsz1 : ¬ ((s.size : Int) - (i : Int) ≤ (n : Int)) := by omega
        have tz := decide_eq_false hsz1
        have hsn : i + n < s.size := by omega
        clear hl hsz
        rcases hcls with ⟨u1, v1, rfl, rfl, rfl⟩ | ⟨u1, v1, u2, v2, rfl, rfl, rfl⟩ | ⟨u1, v1, u2, v2, u3, v3, rfl, rfl, rfl⟩
        · have hrp : rpart c0 s i 0 = c0 := rfl
          have HRP := Lib.hid hrp
          clear hrp
          go_enter Tryd.func29, Tryd.ntmps29
          go_wp2
          clear hc u1 v1 
          go_loop [9, 6] (fun j c => ∃ k : Nat, k ≤ 1 ∧ j = .int .i64 ((k : Int) + 1) ∧ c = .int .i64 (rpart c0 s i k) ∧ goes s i k) (fun j _ => (1 + 1 - intOf j).toNat)
          case atStart => exact ⟨0, by omega, rfl, congrArg (Value.int .i64) HRP.out.symm, fun j hj => absurd hj (by omega)⟩
          case round =>
            obtain ⟨k, hk, rfl, rfl, hg⟩ := hrel
            have hbd := rpart_bd hc0 k (by omega) hg
            have HG := Lib.hid hg
            clear hg
            by_cases hlt : k < 1
            · have tk : decide ((k : Int) + 1 ≤ 1) = true := by simp; omega
              have hik : i + (k + 1) < s.size := by omega
              have hbk := bt_get s (i + (k + 1)) hik
              have hd := bt_lt s (i + (k + 1))
              have HSU : Hid (rpart c0 s i (k + 1) = rpart c0 s i k * 64 + bt s (i + (k + 1)) - 128) := Lib.hid rfl
              have HGS : Hid (128 ≤ bt s (i + (k + 1)) ∧ bt s (i + (k + 1)) ≤ 191 → goes s i (k + 1)) := Lib.hid (fun h => goes_succ HG.out h)
              have HGN : Hid (¬ (128 ≤ bt s (i + (k + 1)) ∧ bt s (i + (k + 1)) ≤ 191) → ¬ goes s i 1) := Lib.hid (fun h hh => h (hh k hlt))
              have w0 : (0 : Int) ≤ (i : Int) + ((k : Int) + 1) := by omega
              have w1 : (i : Int) + ((k : Int) + 1) < (s.size : Int) := by omega
              have w2 : ((i : Int) + ((k : Int) + 1)).toNat = i + (k + 1) := by omega
              generalize bt s (i + (k + 1)) = d at *
              generalize rpart c0 s i k = cv at *
              by_cases hgd : 128 ≤ d ∧ d ≤ 191
              · have td1 : decide ((d : Int) < 128) = false := by simp; omega
                have td2 : decide ((191 : Int) < (d : Int)) = false := by simp; omega
                go_wp2
                go_round
                case rel => exact ⟨k + 1, by omega, by go_num, by rw [HSU.out], HGS.out hgd⟩
                case measure => simp [intOf]; omega
              · have hbad : Utf8.decode s i = (65533, 1) := HL1.out (.inr (.inl (HGN.out hgd)))
                obtain ⟨r1, r2⟩ := rn_bad hbad
                have R1 := Lib.hid r1
                have R2 := Lib.hid r2
                clear r1 r2 hbad
                have td : decide ((d : Int) < 128) = true ∨ decide ((d : Int) < 128) = false ∧ decide ((191 : Int) < (d : Int)) = true := by simp only [decide_eq_true_eq, decide_eq_false_iff_not]; omega
                rcases td with td | ⟨td, td2⟩
                all_goals
                  go_wp2
                  go_ret2
                  exact ⟨by rw [R1.out, R2.out]; rfl, rfl⟩
            · have tk : decide ((k : Int) + 1 ≤ 1) = false := by simp; omega
              obtain rfl : k = 1 := by omega
              have hce := HC.out
              have HG1 := HG
              have hL1 := HL1.out
              have hL2 := HL2.out
              rw [hce] at hL1 hL2
              have HL1 := Lib.hid hL1
              have HL2 := Lib.hid hL2
              clear hL1 hL2 hce
              generalize rpart c0 s i 1 = cv at *
              by_cases hok : 128 ≤ cv ∧ cv ≤ 1114111 ∧ ¬ (55296 ≤ cv ∧ cv ≤ 57343)
              · obtain ⟨o1, o2, o3⟩ := hok
                obtain ⟨r1, r2⟩ := rn_ok (HL2.out (by omega) HG1.out o1 o2 o3) (.inl (by simp))
                have hcv : ((cv.toNat : Nat) : Int) = cv := by omega
                simp only at r1 r2
                rw [hcv] at r1
                have R1 := Lib.hid r1
                have R2 := Lib.hid r2
                clear r1 r2 hcv
                have e1 : decide (cv < 128) = false := by simp; omega
                have e2 : decide (1114111 < cv) = false := by simp; omega
                have e3 : decide (55296 ≤ cv) = false ∨ decide (55296 ≤ cv) = true ∧ decide (cv ≤ 57343) = false := by simp only [decide_eq_true_eq, decide_eq_false_iff_not]; omega
                rcases e3 with e3 | ⟨e3, e4⟩
                all_goals
                  go_wp2
                  go_ret2
                  exact ⟨by rw [R1.out, R2.out]; rfl, rfl⟩
              · obtain ⟨r1, r2⟩ := rn_bad (HL1.out (.inr (.inr (by omega))))
                have R1 := Lib.hid r1
                have R2 := Lib.hid r2
                clear r1 r2
                have e3 : decide (cv < 128) = true ∨ decide (cv < 128) = false ∧ decide (1114111 < cv) = true ∨ decide (cv < 128) = false ∧ decide (1114111 < cv) = false ∧ decide (55296 ≤ cv) = true ∧ decide (cv ≤ 57343) = true := by simp only [decide_eq_true_eq, decide_eq_false_iff_not]; omega
                rcases e3 with e1 | ⟨e1, e2⟩ | ⟨e1, e2, e3, e4⟩
                all_goals
                  go_wp2
                  go_ret2
                  exact ⟨by rw [R1.out, R2.out]; rfl, rfl⟩
        · have hrp : rpart c0 s i 0 = c0 := rfl
          have HRP := Lib.hid hrp
          clear hrp
          go_enter Tryd.func29, Tryd.ntmps29
          go_wp2
          clear hc u1 v1 u2 v2
          go_loop [9, 6] (fun j c => ∃ k : Nat, k ≤ 2 ∧ j = .int .i64 ((k : Int) + 1) ∧ c = .int .i64 (rpart c0 s i k) ∧ goes s i k) (fun j _ => (2 + 1 - intOf j).toNat)
          case atStart => exact ⟨0, by omega, rfl, congrArg (Value.int .i64) HRP.out.symm, fun j hj => absurd hj (by omega)⟩
          case round =>
            obtain ⟨k, hk, rfl, rfl, hg⟩ := hrel
            have hbd := rpart_bd hc0 k (by omega) hg
            have HG := Lib.hid hg
            clear hg
            by_cases hlt : k < 2
            · have tk : decide ((k : Int) + 1 ≤ 2) = true := by simp; omega
              have hik : i + (k + 1) < s.size := by omega
              have hbk := bt_get s (i + (k + 1)) hik
              have hd := bt_lt s (i + (k + 1))
              have HSU : Hid (rpart c0 s i (k + 1) = rpart c0 s i k * 64 + bt s (i + (k + 1)) - 128) := Lib.hid rfl
              have HGS : Hid (128 ≤ bt s (i + (k + 1)) ∧ bt s (i + (k + 1)) ≤ 191 → goes s i (k + 1)) := Lib.hid (fun h => goes_succ HG.out h)
              have HGN : Hid (¬ (128 ≤ bt s (i + (k + 1)) ∧ bt s (i + (k + 1)) ≤ 191) → ¬ goes s i 2) := Lib.hid (fun h hh => h (hh k hlt))
              have w0 : (0 : Int) ≤ (i : Int) + ((k : Int) + 1) := by omega
              have w1 : (i : Int) + ((k : Int) + 1) < (s.size : Int) := by omega
              have w2 : ((i : Int) + ((k : Int) + 1)).toNat = i + (k + 1) := by omega
              generalize bt s (i + (k + 1)) = d at *
              generalize rpart c0 s i k = cv at *
              by_cases hgd : 128 ≤ d ∧ d ≤ 191
              · have td1 : decide ((d : Int) < 128) = false := by simp; omega
                have td2 : decide ((191 : Int) < (d : Int)) = false := by simp; omega
                go_wp2
                go_round
                case rel => exact ⟨k + 1, by omega, by go_num, by rw [HSU.out], HGS.out hgd⟩
                case measure => simp [intOf]; omega
              · have hbad : Utf8.decode s i = (65533, 1) := HL1.out (.inr (.inl (HGN.out hgd)))
                obtain ⟨r1, r2⟩ := rn_bad hbad
                have R1 := Lib.hid r1
                have R2 := Lib.hid r2
                clear r1 r2 hbad
                have td : decide ((d : Int) < 128) = true ∨ decide ((d : Int) < 128) = false ∧ decide ((191 : Int) < (d : Int)) = true := by simp only [decide_eq_true_eq, decide_eq_false_iff_not]; omega
                rcases td with td | ⟨td, td2⟩
                all_goals
                  go_wp2
                  go_ret2
                  exact ⟨by rw [R1.out, R2.out]; rfl, rfl⟩
            · have tk : decide ((k : Int) + 1 ≤ 2) = false := by simp; omega
              obtain rfl : k = 2 := by omega
              have hce := HC.out
              have HG1 := HG
              have hL1 := HL1.out
              have hL2 := HL2.out
              rw [hce] at hL1 hL2
              have HL1 := Lib.hid hL1
              have HL2 := Lib.hid hL2
              clear hL1 hL2 hce
              generalize rpart c0 s i 2 = cv at *
              by_cases hok : 2048 ≤ cv ∧ cv ≤ 1114111 ∧ ¬ (55296 ≤ cv ∧ cv ≤ 57343)
              · obtain ⟨o1, o2, o3⟩ := hok
                obtain ⟨r1, r2⟩ := rn_ok (HL2.out (by omega) HG1.out o1 o2 o3) (.inl (by simp))
                have hcv : ((cv.toNat : Nat) : Int) = cv := by omega
                simp only at r1 r2
                rw [hcv] at r1
                have R1 := Lib.hid r1
                have R2 := Lib.hid r2
                clear r1 r2 hcv
                have e1 : decide (cv < 2048) = false := by simp; omega
                have e2 : decide (1114111 < cv) = false := by simp; omega
                have e3 : decide (55296 ≤ cv) = false ∨ decide (55296 ≤ cv) = true ∧ decide (cv ≤ 57343) = false := by simp only [decide_eq_true_eq, decide_eq_false_iff_not]; omega
                rcases e3 with e3 | ⟨e3, e4⟩
                all_goals
                  go_wp2
                  go_ret2
                  exact ⟨by rw [R1.out, R2.out]; rfl, rfl⟩
              · obtain ⟨r1, r2⟩ := rn_bad (HL1.out (.inr (.inr (by omega))))
                have R1 := Lib.hid r1
                have R2 := Lib.hid r2
                clear r1 r2
                have e3 : decide (cv < 2048) = true ∨ decide (cv < 2048) = false ∧ decide (1114111 < cv) = true ∨ decide (cv < 2048) = false ∧ decide (1114111 < cv) = false ∧ decide (55296 ≤ cv) = true ∧ decide (cv ≤ 57343) = true := by simp only [decide_eq_true_eq, decide_eq_false_iff_not]; omega
                rcases e3 with e1 | ⟨e1, e2⟩ | ⟨e1, e2, e3, e4⟩
                all_goals
                  go_wp2
                  go_ret2
                  exact ⟨by rw [R1.out, R2.out]; rfl, rfl⟩
        · have hrp : rpart c0 s i 0 = c0 := rfl
          have HRP := Lib.hid hrp
          clear hrp
          go_enter Tryd.func29, Tryd.ntmps29
          go_wp2
          clear hc u1 v1 u2 v2 u3 v3
          go_loop [9, 6] (fun j c => ∃ k : Nat, k ≤ 3 ∧ j = .int .i64 ((k : Int) + 1) ∧ c = .int .i64 (rpart c0 s i k) ∧ goes s i k) (fun j _ => (3 + 1 - intOf j).toNat)
          case atStart => exact ⟨0, by omega, rfl, congrArg (Value.int .i64) HRP.out.symm, fun j hj => absurd hj (by omega)⟩
          case round =>
            obtain ⟨k, hk, rfl, rfl, hg⟩ := hrel
            have hbd := rpart_bd hc0 k (by omega) hg
            have HG := Lib.hid hg
            clear hg
            by_cases hlt : k < 3
            · have tk : decide ((k : Int) + 1 ≤ 3) = true := by simp; omega
              have hik : i + (k + 1) < s.size := by omega
              have hbk := bt_get s (i + (k + 1)) hik
              have hd := bt_lt s (i + (k + 1))
              have HSU : Hid (rpart c0 s i (k + 1) = rpart c0 s i k * 64 + bt s (i + (k + 1)) - 128) := Lib.hid rfl
              have HGS : Hid (128 ≤ bt s (i + (k + 1)) ∧ bt s (i + (k + 1)) ≤ 191 → goes s i (k + 1)) := Lib.hid (fun h => goes_succ HG.out h)
              have HGN : Hid (¬ (128 ≤ bt s (i + (k + 1)) ∧ bt s (i + (k + 1)) ≤ 191) → ¬ goes s i 3) := Lib.hid (fun h hh => h (hh k hlt))
              have w0 : (0 : Int) ≤ (i : Int) + ((k : Int) + 1) := by omega
              have w1 : (i : Int) + ((k : Int) + 1) < (s.size : Int) := by omega
              have w2 : ((i : Int) + ((k : Int) + 1)).toNat = i + (k + 1) := by omega
              generalize bt s (i + (k + 1)) = d at *
              generalize rpart c0 s i k = cv at *
              by_cases hgd : 128 ≤ d ∧ d ≤ 191
              · have td1 : decide ((d : Int) < 128) = false := by simp; omega
                have td2 : decide ((191 : Int) < (d : Int)) = false := by simp; omega
                go_wp2
                go_round
                case rel => exact ⟨k + 1, by omega, by go_num, by rw [HSU.out], HGS.out hgd⟩
                case measure => simp [intOf]; omega
              · have hbad : Utf8.decode s i = (65533, 1) := HL1.out (.inr (.inl (HGN.out hgd)))
                obtain ⟨r1, r2⟩ := rn_bad hbad
                have R1 := Lib.hid r1
                have R2 := Lib.hid r2
                clear r1 r2 hbad
                have td : decide ((d : Int) < 128) = true ∨ decide ((d : Int) < 128) = false ∧ decide ((191 : Int) < (d : Int)) = true := by simp only [decide_eq_true_eq, decide_eq_false_iff_not]; omega
                rcases td with td | ⟨td, td2⟩
                all_goals
                  go_wp2
                  go_ret2
                  exact ⟨by rw [R1.out, R2.out]; rfl, rfl⟩
            · have tk : decide ((k : Int) + 1 ≤ 3) = false := by simp; omega
              obtain rfl : k = 3 := by omega
              have hce := HC.out
              have HG1 := HG
              have hL1 := HL1.out
              have hL2 := HL2.out
              rw [hce] at hL1 hL2
              have HL1 := Lib.hid hL1
              have HL2 := Lib.hid hL2
              clear hL1 hL2 hce
              generalize rpart c0 s i 3 = cv at *
              by_cases hok : 65536 ≤ cv ∧ cv ≤ 1114111 ∧ ¬ (55296 ≤ cv ∧ cv ≤ 57343)
              · obtain ⟨o1, o2, o3⟩ := hok
                obtain ⟨r1, r2⟩ := rn_ok (HL2.out (by omega) HG1.out o1 o2 o3) (.inl (by simp))
                have hcv : ((cv.toNat : Nat) : Int) = cv := by omega
                simp only at r1 r2
                rw [hcv] at r1
                have R1 := Lib.hid r1
                have R2 := Lib.hid r2
                clear r1 r2 hcv
                have e1 : decide (cv < 65536) = false := by simp; omega
                have e2 : decide (1114111 < cv) = false := by simp; omega
                have e3 : decide (55296 ≤ cv) = false ∨ decide (55296 ≤ cv) = true ∧ decide (cv ≤ 57343) = false := by simp only [decide_eq_true_eq, decide_eq_false_iff_not]; omega
                rcases e3 with e3 | ⟨e3, e4⟩
                all_goals
                  go_wp2
                  go_ret2
                  exact ⟨by rw [R1.out, R2.out]; rfl, rfl⟩
              · obtain ⟨r1, r2⟩ := rn_bad (HL1.out (.inr (.inr (by omega))))
                have R1 := Lib.hid r1
                have R2 := Lib.hid r2
                clear r1 r2
                have e3 : decide (cv < 65536) = true ∨ decide (cv < 65536) = false ∧ decide (1114111 < cv) = true ∨ decide (cv < 65536) = false ∧ decide (1114111 < cv) = false ∧ decide (55296 ≤ cv) = true ∧ decide (cv ≤ 57343) = true := by simp only [decide_eq_true_eq, decide_eq_false_iff_not]; omega
                rcases e3 with e1 | ⟨e1, e2⟩ | ⟨e1, e2, e3, e4⟩
                all_goals
                  go_wp2
                  go_ret2
                  exact ⟨by rw [R1.out, R2.out]; rfl, rfl⟩
end Go.Proofs.YtjldmlnohkknpaaDoor
