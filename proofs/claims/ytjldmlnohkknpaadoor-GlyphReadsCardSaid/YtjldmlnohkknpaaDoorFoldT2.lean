/- A text's fold, the reference's; Same. -/
import Derived.Test.YtjldmlnohkknpaaDoorFoldT
namespace Go.Proofs.YtjldmlnohkknpaaDoor
open Go.RowKit
set_option maxRecDepth 100000
set_option maxHeartbeats 4000000
theorem str_add (a b : List UInt8) : (⟨a.toArray⟩ : ByteArray) ++ ⟨b.toArray⟩ = ⟨(a ++ b).toArray⟩ := by
  apply ByteArray.ext
  simp
theorem str_one (s : ByteArray) (i : Nat) (h : i < s.size) : s.extract i (i + 1) = ⟨[s.get! i].toArray⟩ := by
  apply ByteArray.ext
  have e : s.get! i = s.data[i]'h := by
    show s.data[i]! = _
    rw [getElem!_pos s.data i h]
  rw [e]
  apply Array.ext
  · simp; have : s.data.size = s.size := rfl; omega
  · intro j h1 h2
    simp at h2
    subst h2
    simp
theorem ref_foldT (s : ByteArray) (hs : s.size ≤ 1000000) (w : World) :
    Calls Tryd.prog 13 #[.string s] w fun e w' => e = .returned (.string ⟨(foldL s).toArray⟩) ∧ Below w.heap.size w w' := by
  obtain ⟨T, hTT⟩ : ∃ T, foldL s = T := ⟨_, rfl⟩
  rw [hTT]
  have h0 : [] ++ (rest s 0).flatMap (foldB s) = T := by rw [rest_zero]; exact hTT
  have H0 := Lib.hid h0
  clear hTT h0
  go_enter Tryd.func13, Tryd.ntmps13
  go_wp2
  go_loopw [3, 4] (fun o i wr => ∃ (pos : Nat) (acc : List UInt8), o = .string ⟨acc.toArray⟩ ∧ i = .int .i64 pos ∧ pos ≤ s.size ∧ acc ++ (rest s pos).flatMap (foldB s) = T ∧ acc.length ≤ 4 * pos ∧ Below w.heap.size w wr) (fun _ i _ => s.size - (intOf i).toNat)
  case atStart => exact ⟨0, [], rfl, rfl, Nat.zero_le _, H0.out, by simp, Below.refl _ _⟩
  case round =>
    obtain ⟨pos, acc, rfl, rfl, hps, hacc, hal, hbw⟩ := hrel
    by_cases hp : pos < s.size
    · have tp : decide (pos < s.size) = true := by simpa using hp
      have hwd := wd_pos s pos hp
      have hwl := (wd_le s pos hp).2
      have hrr := ref_rune s pos hp (by omega)
      rw [rest_step s pos hp, List.flatMap_cons, ← List.append_assoc] at hacc
      have HACC := Lib.hid hacc
      have hfl := foldB_len s pos
      have hok := dec_ok s pos
      have i0 : (0 : Int) ≤ (pos : Int) := by omega
      have i1 : (pos : Int) < (s.size : Int) := by omega
      have i2 : (pos : Int) + 1 ≤ (s.size : Int) := by omega
      clear hacc
      rcases hok with hD | ⟨hR, hrn⟩
      · have hFB : foldB s pos = [s.get! pos] := by unfold foldB; rw [if_pos hD]
        have HFB := Lib.hid hFB
        have hr1 : rn s pos = -1 := (rn_bad hD).1
        rw [hr1] at hrr
        have hsl := fun W => (run_slice_string (P := Tryd.prog) (w := W) 9 s .i64 .i64 (pos : Int) ((pos : Int) + 1) Tryd.underlying9 (by omega) (by omega) (by omega))
        have hx : s.extract ((pos : Int)).toNat (((pos : Int) + 1)).toNat = ⟨[s.get! pos].toArray⟩ := str_one s pos hp
        simp only [hx] at hsl
        clear hx
        clear hFB hD hr1
        generalize wd s pos = d at *
        go_wp2_with (go_at_call 29; refine (hrr _).mono ?_; rintro e w1 ⟨rfl, rfl⟩)
        go_roundw
        case rel => exact ⟨pos + d, acc ++ foldB s pos, by rw [HFB.out, ← str_add], by go_num, hwl, HACC.out, by rw [HFB.out]; simp; omega, hbw⟩
        case measure => simp [intOf]; omega
      · have hnb : ¬ Utf8.decode s pos = (65533, 1) := fun h => by rw [show rn s pos = -1 by unfold rn; rw [if_pos h]] at hrn; omega
        have hFB : foldB s pos = Lib.encodeRune (foldR (Utf8.decode s pos).1) := by unfold foldB; rw [if_neg hnb]
        rw [← hrn] at hFB hR
        have HFB := Lib.hid hFB
        have hfo := foldR_ok hR
        have hfd := ref_fold_rune (rn s pos) hR.1 hR.2.1
        have hby := ref_bytes (foldR (rn s pos)) hfo
        have hel := enc_len (foldR (rn s pos))
        have t0 : decide (rn s pos < 0) = false := by have := hR.1; simp; omega
        clear hFB hnb hrn hR hfo
        generalize foldR (rn s pos) = fr at *
        generalize rn s pos = r at *
        generalize wd s pos = d at *
        go_wp2_with (first | (go_at_call 29; refine (hrr _).mono ?_; rintro e w1 ⟨rfl, rfl⟩) | (go_at_call 31; refine (hfd _).mono ?_; rintro e w2 ⟨rfl, rfl⟩) | (go_at_call 30; refine (hby _).mono ?_; rintro e w3 ⟨rfl, hb3⟩))
        go_roundw
        case rel => exact ⟨pos + d, acc ++ foldB s pos, by rw [HFB.out, ← str_add], by go_num, hwl, HACC.out, by rw [HFB.out]; simp; omega, hbw.trans (hb3.mono hbw.size)⟩
        case measure => simp [intOf]; omega
    · have tp : decide (pos < s.size) = false := by simpa using hp
      rw [rest_end s pos hp, List.flatMap_nil, List.append_nil] at hacc
      subst hacc
      go_wp2
      go_ret
      exact ⟨rfl, hbw⟩
theorem gl_same (a b : ByteArray) (ha : a.size ≤ 1000000) (hb : b.size ≤ 1000000) (w : World) (hT : Tabs w) :
    Calls Tryd.prog 12 #[.string a, .string b] w fun e w' => e = .returned (.bool (decide (foldL a = foldL b))) ∧ Below w.heap.size w w' := by
  have hB : Below w.heap.size w w := Below.refl _ _
  go_enter Tryd.func12, Tryd.ntmps12
  go_wp2_with (go_at_call 18; refine (gl_foldT _ (by assumption) _ (by assumption)).mono ?_; rintro e w1 ⟨rfl, hb1⟩; have hT1 := tabs_below (by assumption) hb1; replace hB := hB.trans (hb1.mono hB.size))
  go_ret
  refine ⟨?_, hB⟩
  show Ending.returned (.bool (foldL a == foldL b)) = _
  have e : (foldL a == foldL b) = decide (foldL a = foldL b) := by rw [Bool.eq_iff_iff]; simp
  rw [e]
end Go.Proofs.YtjldmlnohkknpaaDoor
