/- A text quoted: the reference's. -/
import Derived.Test.YtjldmlnohkknpaaDoorQuote2
namespace Go.Proofs.YtjldmlnohkknpaaDoor
open Go.RowKit
set_option maxRecDepth 100000
set_option maxHeartbeats 4000000
theorem dec_small (s : ByteArray) (i : Nat) (h : (Utf8.decode s i).1 < 128) : (Utf8.decode s i).1 = bt s i := by
  have g1 := bt_lt s (i + 1)
  have g2 := bt_lt s (i + 2)
  have g3 := bt_lt s (i + 3)
  have g0 := bt_lt s i
  rw [dec_at] at h ⊢
  by_cases c0 : bt s i < 128
  · rw [dec0 _ _ _ _ _ c0]
  · exfalso
    by_cases cX : bt s i < 194 ∨ 245 ≤ bt s i
    · rw [decX _ _ _ _ _ g0 (by omega)] at h
      simp only at h
      omega
    · by_cases c1 : bt s i < 224
      · rw [dec1 _ _ _ _ _ ⟨by omega, c1⟩ g1] at h
        split at h <;> simp only at h <;> omega
      · by_cases c2 : bt s i < 240
        · rw [dec2 _ _ _ _ _ ⟨by omega, c2⟩ g1 g2] at h
          split at h <;> simp only at h <;> omega
        · rw [dec3 _ _ _ _ _ ⟨by omega, by omega⟩ g1 g2 g3] at h
          split at h <;> simp only at h <;> omega
theorem ref_quote (s : ByteArray) (hs : s.size ≤ 1000000) (w : World) :
    Calls Tryd.prog 15 #[.string s] w fun e w' => e = .returned (.string ⟨(quoteL s).toArray⟩) ∧ Below w.heap.size w w' := by
  obtain ⟨T, hTT⟩ : ∃ T, [34] ++ (poss s).flatMap (quoteB s) = T := ⟨_, rfl⟩
  unfold quoteL
  rw [hTT]
  have h0 : [34] ++ (rest s 0).flatMap (quoteB s) = T := by rw [rest_zero]; exact hTT
  have H0 := Lib.hid h0
  clear hTT h0
  go_enter Tryd.func15, Tryd.ntmps15
  go_wp2
  go_loopw [3, 4] (fun o i wr => ∃ (pos : Nat) (acc : List UInt8), o = .string ⟨acc.toArray⟩ ∧ i = .int .i64 pos ∧ pos ≤ s.size ∧ acc ++ (rest s pos).flatMap (quoteB s) = T ∧ acc.length ≤ 12 * pos + 1 ∧ Below w.heap.size w wr) (fun _ i _ => s.size - (intOf i).toNat)
  case atStart => exact ⟨0, [34], rfl, rfl, Nat.zero_le _, H0.out, by simp, Below.refl _ _⟩
  case round =>
    obtain ⟨pos, acc, rfl, rfl, hps, hacc, hal, hbw⟩ := hrel
    by_cases hp : pos < s.size
    · have tp : decide (pos < s.size) = true := by simpa using hp
      have hwd := wd_pos s pos hp
      have hwl := (wd_le s pos hp).2
      have hrr := ref_rune s pos hp (by omega)
      rw [rest_step s pos hp, List.flatMap_cons, ← List.append_assoc] at hacc
      have HACC := Lib.hid hacc
      have hfl := quoteB_len s pos
      have hok := dec_ok s pos
      have hgb := bt_get s pos hp
      have hbl := bt_lt s pos
      clear hacc
      rcases hok with hD | ⟨hR, hrn⟩
      · have hFB : quoteB s pos = [92, 120] ++ hexL (bt s pos) 2 := by unfold quoteB; rw [if_pos hD]
        have HFB := Lib.hid hFB
        have hr1 : rn s pos = -1 := (rn_bad hD).1
        rw [hr1] at hrr
        have hhx := ref_hex (bt s pos) 2 (by omega) (by omega)
        rw [show ((2 : Nat) : Int) = 2 from rfl] at hhx
        have hxl := hexL_len (bt s pos) 2
        generalize hexL (bt s pos) 2 = hx at *
        clear hFB hD hr1
        generalize wd s pos = d at *
        go_wp2_with (first | (go_at_call 29; refine (hrr _).mono ?_; rintro e w1 ⟨rfl, rfl⟩) | (go_at_call 35; refine (hhx _).mono ?_; rintro e w2 ⟨rfl, hb2⟩))
        go_roundw
        case rel => exact ⟨pos + d, acc ++ quoteB s pos, by rw [HFB.out, ← str_add, ← str_add, ByteArray.append_assoc], by go_num, hwl, HACC.out, by simp; omega, hbw.trans (hb2.mono hbw.size)⟩
        case measure => simp [intOf]; omega
      · have hnb : ¬ Utf8.decode s pos = (65533, 1) := fun h => by rw [show rn s pos = -1 by unfold rn; rw [if_pos h]] at hrn; omega
        have hFB : quoteB s pos = quoteR (Utf8.decode s pos).1 := by unfold quoteB; rw [if_neg hnb]
        have hsm := dec_small s pos
        obtain ⟨h0, hM, _⟩ := hR
        rw [hrn] at hrr
        clear hrn hnb
        generalize (Utf8.decode s pos).1 = k at *
        have hkM : k ≤ 1114111 := by omega
        have tn : decide ((k : Int) < 0) = false := by simp
        clear hM h0
        generalize wd s pos = d at *
        unfold quoteR at hFB
        by_cases h1 : k = 34 ∨ k = 92
        · rw [if_pos h1] at hFB
          have HFB := Lib.hid hFB
          clear hFB hsm tn
          rcases h1 with rfl | rfl
          all_goals
            go_wp2_with (go_at_call 29; refine (hrr _).mono ?_; rintro e w1 ⟨rfl, rfl⟩)
            go_roundw
            case rel => exact ⟨pos + d, acc ++ quoteB s pos, by rw [HFB.out, ← str_add]; rfl, by go_num, hwl, HACC.out, by simp; omega, hbw⟩
            case measure => simp [intOf]; omega
        · rw [if_neg h1] at hFB
          have t34 : decide ((k : Int) = 34) = false := by simp; omega
          have t92 : decide ((k : Int) = 92) = false := by simp; omega
          have u34 : ((k : Int) == 34) = false := by simp; omega
          have u92 : ((k : Int) == 92) = false := by simp; omega
          by_cases h2 : k = 10
          · rw [if_pos h2] at hFB
            have HFB := Lib.hid hFB
            clear hFB hsm tn t34 t92 u34 u92 h1
            subst h2
            go_wp2_with (go_at_call 29; refine (hrr _).mono ?_; rintro e w1 ⟨rfl, rfl⟩)
            go_roundw
            case rel => exact ⟨pos + d, acc ++ quoteB s pos, by rw [HFB.out, ← str_add], by go_num, hwl, HACC.out, by simp; omega, hbw⟩
            case measure => simp [intOf]; omega
          · rw [if_neg h2] at hFB
            have t10 : decide ((k : Int) = 10) = false := by simp; omega
            have u10 : ((k : Int) == 10) = false := by simp; omega
            by_cases h3 : 32 ≤ k ∧ k ≤ 126
            · rw [if_pos h3] at hFB
              have t32 : decide ((32 : Int) ≤ (k : Int)) = true := by simp; omega
              have t126 : decide ((k : Int) ≤ 126) = true := by simp; omega
              have hkb := hsm (by omega)
              have hby : UInt8.ofNat k = s.get! pos := by rw [hkb]; unfold bt; exact UInt8.ofNat_toNat
              rw [hby] at hFB
              have HFB := Lib.hid hFB
              have hsl := fun W => (run_slice_string (P := Tryd.prog) (w := W) 9 s .i64 .i64 (pos : Int) ((pos : Int) + 1) Tryd.underlying9 (by omega) (by omega) (by omega))
              have hx : s.extract ((pos : Int)).toNat (((pos : Int) + 1)).toNat = ⟨[s.get! pos].toArray⟩ := str_one s pos hp
              simp only [hx] at hsl
              have i0 : (0 : Int) ≤ (pos : Int) := by omega
              have i1 : (pos : Int) < (s.size : Int) := by omega
              have i2 : (pos : Int) + 1 ≤ (s.size : Int) := by omega
              clear hx hFB hsm h1 h2 h3 hkb hby hkM
              generalize (k : Int) = q at *
              go_wp2_with (go_at_call 29; refine (hrr _).mono ?_; rintro e w1 ⟨rfl, rfl⟩)
              go_roundw
              case rel => exact ⟨pos + d, acc ++ quoteB s pos, by rw [HFB.out, ← str_add], by go_num, hwl, HACC.out, by simp; omega, hbw⟩
              case measure => simp [intOf]; omega
            · rw [if_neg h3] at hFB
              have HFB := Lib.hid hFB
              have t3 : decide ((32 : Int) ≤ (k : Int)) = false ∨ decide ((32 : Int) ≤ (k : Int)) = true ∧ decide ((k : Int) ≤ 126) = false := by simp only [decide_eq_true_eq, decide_eq_false_iff_not]; omega
              have hhx := ref_hex k 1 (by omega) (by omega)
              rw [show ((1 : Nat) : Int) = 1 from rfl] at hhx
              have hxl := hexL_len k 1
              clear hFB hsm h1 h2 h3 hkM
              generalize hexL k 1 = hx at *
              generalize (k : Int) = q at *
              rcases t3 with t3 | ⟨t3, t4⟩
              all_goals
                go_wp2_with (first | (go_at_call 29; refine (hrr _).mono ?_; rintro e w1 ⟨rfl, rfl⟩) | (go_at_call 35; refine (hhx _).mono ?_; rintro e w2 ⟨rfl, hb2⟩))
                go_roundw
                case rel => exact ⟨pos + d, acc ++ quoteB s pos, by rw [HFB.out, ← str_add, ← str_add, ← str_add, ByteArray.append_assoc, ByteArray.append_assoc, ByteArray.append_assoc], by go_num, hwl, HACC.out, by simp; omega, hbw.trans (hb2.mono hbw.size)⟩
                case measure => simp [intOf]; omega
    · have tp : decide (pos < s.size) = false := by simpa using hp
      rw [rest_end s pos hp, List.flatMap_nil, List.append_nil] at hacc
      subst hacc
      go_wp2
      go_ret
      exact ⟨by rw [← str_add]; rfl, hbw⟩
end Go.Proofs.YtjldmlnohkknpaaDoor
