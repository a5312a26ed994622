/- Whether bytes are a text, a name, a note: the program's and the reference's. Made by gen_first.py. -/
import Derived.Test.YtjldmlnohkknpaaDoorNames
import Derived.Test.YtjldmlnohkknpaaDoorFoldT
namespace Go.Proofs.YtjldmlnohkknpaaDoor
open Go.RowKit
set_option maxRecDepth 100000
set_option maxHeartbeats 4000000
/-- The first of these places whose rune may not be; -1. -/
def firstBad (s : ByteArray) (p : Int → Bool) : List Nat → Int
  | [] => -1
  | i :: l => if p (rn s i) = true then firstBad s p l else i
theorem firstBad_cons (s : ByteArray) (p : Int → Bool) (i : Nat) (l : List Nat) : firstBad s p (i :: l) = if p (rn s i) = true then firstBad s p l else (i : Int) := rfl
theorem rn_bound (s : ByteArray) (i : Nat) : -1 ≤ rn s i ∧ rn s i ≤ 1114111 := by
  rcases dec_ok s i with h | ⟨hR, hn⟩
  · rw [(rn_bad h).1]; omega
  · rw [hn]; have := hR.1; have := hR.2.1; omega
def validP (r : Int) : Bool := decide (0 ≤ r)
def validS (s : ByteArray) : Bool := decide (firstBad s validP (poss s) < 0)
def nameS (s : ByteArray) : Bool := decide (1 ≤ (poss s).length) && decide ((poss s).length ≤ 24) && decide (firstBad s nameR (poss s) < 0)
def noteS (s : ByteArray) : Int × Int := if 0 ≤ firstBad s noteR (poss s) then (firstBad s noteR (poss s), 16) else if 1000 < s.size then (1000, 11) else (0, 0)
theorem firstBad_ge (s : ByteArray) (p : Int → Bool) (l : List Nat) : -1 ≤ firstBad s p l := by
  induction l with
  | nil => exact Int.le_refl _
  | cons i l ih => rw [firstBad_cons]; split <;> omega
theorem gl_first_name (s : ByteArray) (hs : s.size ≤ 1000000) (w : World) (hT : Tabs w) :
    Calls Tryd.prog 40 #[.string s, .func (.func 41) #[] #[]] w fun e w' => e = .returned (.int .i64 (firstBad s nameR (poss s))) ∧ Below w.heap.size w w' := by
  obtain ⟨T, hTT⟩ : ∃ T, firstBad s nameR (poss s) = T := ⟨_, rfl⟩
  rw [hTT]
  have h0 : firstBad s nameR (rest s 0) = T := by rw [rest_zero]; exact hTT
  have H0 := Lib.hid h0
  clear hTT h0
  go_enter Tryd.func40, Tryd.ntmps40
  go_wp2
  go_loopw [] (fun wr => ∃ (pos : Nat), wr.heap[w.heap.size]? = some (.stringIter s pos) ∧ Below w.heap.size w wr ∧ firstBad s nameR (rest s pos) = T ∧ pos ≤ s.size) (fun wr => s.size - wr.iterPos w.heap.size)
  case atStart => exact ⟨0, World.iter_heap w s 0, (Below.refl _ w).alloc (Nat.le_refl _) _, H0.out, Nat.zero_le _⟩
  case round =>
    obtain ⟨pos, hit, hbw, hf, hps⟩ := hrel
    have hsz : w.heap.size < wr.heap.size := (Array.getElem?_eq_some_iff.1 hit).1
    by_cases hp : pos < s.size
    · have hnx : ∀ ty, (Instr.next (.pointer (some ⟨w.heap.size, 0, none⟩)) true ty).run Tryd.prog wr = _ := fun ty => Lib.run_next_any_at wr w.heap.size s pos ty hit hp
      have hwd := wd_pos s pos hp
      have hwl := (wd_le s pos hp).2
      have hit2 := Lib.iterAt_heap wr w.heap.size s pos (pos + (Utf8.decode s pos).2) hit
      have hbw2 := Lib.below_iterAt hbw (k := w.heap.size) (by omega) s (pos + (Utf8.decode s pos).2)
      have hsz2 : w.heap.size < (wr.iterAt w.heap.size s (pos + (Utf8.decode s pos).2)).heap.size := by rw [Lib.iterAt_size]; exact hsz
      have hbr := gl_broken s pos hp (by omega) _ (tabs_below hT hbw2)
      rw [rest_step s pos hp, firstBad_cons] at hf
      have hok := dec_ok s pos
      rcases hok with hD | ⟨hR, hrn⟩
      · rw [decide_eq_true hD] at hbr
        rw [(rn_bad hD).1, if_neg (by decide)] at hf
        subst hf
        clear hD hwd hwl
        go_wp2_with (go_at_call 32; refine hbr.mono ?_; rintro e W1 ⟨rfl, hb1⟩)
        go_ret
        exact ⟨rfl, hbw2.trans (hb1.mono (by omega))⟩
      · have hnb : ¬ Utf8.decode s pos = (65533, 1) := fun h => by rw [show rn s pos = -1 by unfold rn; rw [if_pos h]] at hrn; omega
        rw [decide_eq_false hnb] at hbr
        rw [hrn] at hf
        have hmy := gl_inName ((Utf8.decode s pos).1 : Int) hR.1 hR.2.1
        have HF := Lib.hid hf
        clear hnb hrn hR hf
        by_cases hq : nameR ((Utf8.decode s pos).1 : Int) = true
        · have hf := HF.out
          rw [if_pos hq] at hf
          rw [hq] at hmy
          have HF := Lib.hid hf
          clear hf hq
          go_wp2_with (first | (go_at_call 32; refine hbr.mono ?_; rintro e W1 ⟨rfl, hb1⟩) | (go_at_call 41; refine (hmy _).mono ?_; rintro e W2 ⟨rfl, rfl⟩))
          have hit3 := (hb1.block _ hsz2).trans hit2
          have hbw3 := hbw2.trans (hb1.mono (by omega))
          go_roundw
          case rel => exact ⟨pos + wd s pos, hit3, hbw3, HF.out, hwl⟩
          case measure =>
            simp only [World.iterPos, hit3, hit]
            unfold wd at hwd
            omega
        · have hf := HF.out
          rw [if_neg hq] at hf
          rw [Bool.not_eq_true] at hq
          rw [hq] at hmy
          clear HF hq
          subst hf
          go_wp2_with (first | (go_at_call 32; refine hbr.mono ?_; rintro e W1 ⟨rfl, hb1⟩) | (go_at_call 41; refine (hmy _).mono ?_; rintro e W2 ⟨rfl, rfl⟩))
          go_ret
          exact ⟨rfl, hbw2.trans (hb1.mono (by omega))⟩
    · have hnx : ∀ ty, (Instr.next (.pointer (some ⟨w.heap.size, 0, none⟩)) true ty).run Tryd.prog wr = _ := fun ty => Lib.run_next_end_at wr w.heap.size s pos ty hit hp
      rw [rest_end s pos hp] at hf
      obtain rfl : T = -1 := hf.symm
      go_wp2
      go_ret
      exact ⟨rfl, hbw⟩
theorem gl_first_note (s : ByteArray) (hs : s.size ≤ 1000000) (w : World) (hT : Tabs w) :
    Calls Tryd.prog 40 #[.string s, .func (.func 42) #[] #[]] w fun e w' => e = .returned (.int .i64 (firstBad s noteR (poss s))) ∧ Below w.heap.size w w' := by
  obtain ⟨T, hTT⟩ : ∃ T, firstBad s noteR (poss s) = T := ⟨_, rfl⟩
  rw [hTT]
  have h0 : firstBad s noteR (rest s 0) = T := by rw [rest_zero]; exact hTT
  have H0 := Lib.hid h0
  clear hTT h0
  go_enter Tryd.func40, Tryd.ntmps40
  go_wp2
  go_loopw [] (fun wr => ∃ (pos : Nat), wr.heap[w.heap.size]? = some (.stringIter s pos) ∧ Below w.heap.size w wr ∧ firstBad s noteR (rest s pos) = T ∧ pos ≤ s.size) (fun wr => s.size - wr.iterPos w.heap.size)
  case atStart => exact ⟨0, World.iter_heap w s 0, (Below.refl _ w).alloc (Nat.le_refl _) _, H0.out, Nat.zero_le _⟩
  case round =>
    obtain ⟨pos, hit, hbw, hf, hps⟩ := hrel
    have hsz : w.heap.size < wr.heap.size := (Array.getElem?_eq_some_iff.1 hit).1
    by_cases hp : pos < s.size
    · have hnx : ∀ ty, (Instr.next (.pointer (some ⟨w.heap.size, 0, none⟩)) true ty).run Tryd.prog wr = _ := fun ty => Lib.run_next_any_at wr w.heap.size s pos ty hit hp
      have hwd := wd_pos s pos hp
      have hwl := (wd_le s pos hp).2
      have hit2 := Lib.iterAt_heap wr w.heap.size s pos (pos + (Utf8.decode s pos).2) hit
      have hbw2 := Lib.below_iterAt hbw (k := w.heap.size) (by omega) s (pos + (Utf8.decode s pos).2)
      have hsz2 : w.heap.size < (wr.iterAt w.heap.size s (pos + (Utf8.decode s pos).2)).heap.size := by rw [Lib.iterAt_size]; exact hsz
      have hbr := gl_broken s pos hp (by omega) _ (tabs_below hT hbw2)
      rw [rest_step s pos hp, firstBad_cons] at hf
      have hok := dec_ok s pos
      rcases hok with hD | ⟨hR, hrn⟩
      · rw [decide_eq_true hD] at hbr
        rw [(rn_bad hD).1, if_neg (by decide)] at hf
        subst hf
        clear hD hwd hwl
        go_wp2_with (go_at_call 32; refine hbr.mono ?_; rintro e W1 ⟨rfl, hb1⟩)
        go_ret
        exact ⟨rfl, hbw2.trans (hb1.mono (by omega))⟩
      · have hnb : ¬ Utf8.decode s pos = (65533, 1) := fun h => by rw [show rn s pos = -1 by unfold rn; rw [if_pos h]] at hrn; omega
        rw [decide_eq_false hnb] at hbr
        rw [hrn] at hf
        have hmy := gl_inNote ((Utf8.decode s pos).1 : Int) hR.1 hR.2.1
        have HF := Lib.hid hf
        clear hnb hrn hR hf
        by_cases hq : noteR ((Utf8.decode s pos).1 : Int) = true
        · have hf := HF.out
          rw [if_pos hq] at hf
          rw [hq] at hmy
          have HF := Lib.hid hf
          clear hf hq
          go_wp2_with (first | (go_at_call 32; refine hbr.mono ?_; rintro e W1 ⟨rfl, hb1⟩) | (go_at_call 42; refine (hmy _).mono ?_; rintro e W2 ⟨rfl, rfl⟩))
          have hit3 := (hb1.block _ hsz2).trans hit2
          have hbw3 := hbw2.trans (hb1.mono (by omega))
          go_roundw
          case rel => exact ⟨pos + wd s pos, hit3, hbw3, HF.out, hwl⟩
          case measure =>
            simp only [World.iterPos, hit3, hit]
            unfold wd at hwd
            omega
        · have hf := HF.out
          rw [if_neg hq] at hf
          rw [Bool.not_eq_true] at hq
          rw [hq] at hmy
          clear HF hq
          subst hf
          go_wp2_with (first | (go_at_call 32; refine hbr.mono ?_; rintro e W1 ⟨rfl, hb1⟩) | (go_at_call 42; refine (hmy _).mono ?_; rintro e W2 ⟨rfl, rfl⟩))
          go_ret
          exact ⟨rfl, hbw2.trans (hb1.mono (by omega))⟩
    · have hnx : ∀ ty, (Instr.next (.pointer (some ⟨w.heap.size, 0, none⟩)) true ty).run Tryd.prog wr = _ := fun ty => Lib.run_next_end_at wr w.heap.size s pos ty hit hp
      rw [rest_end s pos hp] at hf
      obtain rfl : T = -1 := hf.symm
      go_wp2
      go_ret
      exact ⟨rfl, hbw⟩
theorem gl_valid (s : ByteArray) (hs : s.size ≤ 1000000) (w : World) (hT : Tabs w) :
    Calls Tryd.prog 22 #[.string s] w fun e w' => e = .returned (.bool (validS s)) ∧ Below w.heap.size w w' := by
  obtain ⟨T, hTT⟩ : ∃ T, validS s = T := ⟨_, rfl⟩
  rw [hTT]
  have h0 : decide (firstBad s validP (rest s 0) < 0) = T := by rw [rest_zero]; exact hTT
  have H0 := Lib.hid h0
  clear hTT h0
  go_enter Tryd.func22, Tryd.ntmps22
  go_wp2
  go_loopw [] (fun wr => ∃ (pos : Nat), wr.heap[w.heap.size]? = some (.stringIter s pos) ∧ Below w.heap.size w wr ∧ decide (firstBad s validP (rest s pos) < 0) = T ∧ pos ≤ s.size) (fun wr => s.size - wr.iterPos w.heap.size)
  case atStart => exact ⟨0, World.iter_heap w s 0, (Below.refl _ w).alloc (Nat.le_refl _) _, H0.out, Nat.zero_le _⟩
  case round =>
    obtain ⟨pos, hit, hbw, hf, hps⟩ := hrel
    have hsz : w.heap.size < wr.heap.size := (Array.getElem?_eq_some_iff.1 hit).1
    by_cases hp : pos < s.size
    · have hnx : ∀ ty, (Instr.next (.pointer (some ⟨w.heap.size, 0, none⟩)) true ty).run Tryd.prog wr = _ := fun ty => Lib.run_next_any_at wr w.heap.size s pos ty hit hp
      have hwd := wd_pos s pos hp
      have hwl := (wd_le s pos hp).2
      have hit2 := Lib.iterAt_heap wr w.heap.size s pos (pos + (Utf8.decode s pos).2) hit
      have hbw2 := Lib.below_iterAt hbw (k := w.heap.size) (by omega) s (pos + (Utf8.decode s pos).2)
      have hsz2 : w.heap.size < (wr.iterAt w.heap.size s (pos + (Utf8.decode s pos).2)).heap.size := by rw [Lib.iterAt_size]; exact hsz
      have hbr := gl_broken s pos hp (by omega) _ (tabs_below hT hbw2)
      rw [rest_step s pos hp, firstBad_cons] at hf
      have hok := dec_ok s pos
      rcases hok with hD | ⟨hR, hrn⟩
      · rw [decide_eq_true hD] at hbr
        rw [(rn_bad hD).1, if_neg (by decide)] at hf
        obtain rfl : T = false := by rw [← hf]; exact decide_eq_false (by omega)
        clear hD hwd hwl hf
        go_wp2_with (go_at_call 32; refine hbr.mono ?_; rintro e W1 ⟨rfl, hb1⟩)
        go_ret
        exact ⟨rfl, hbw2.trans (hb1.mono (by omega))⟩
      · have hnb : ¬ Utf8.decode s pos = (65533, 1) := fun h => by rw [show rn s pos = -1 by unfold rn; rw [if_pos h]] at hrn; omega
        rw [decide_eq_false hnb] at hbr
        rw [hrn, if_pos (by unfold validP; exact decide_eq_true hR.1)] at hf
        have HF := Lib.hid hf
        clear hnb hrn hR hf
        go_wp2_with (go_at_call 32; refine hbr.mono ?_; rintro e W1 ⟨rfl, hb1⟩)
        have hit3 := (hb1.block _ hsz2).trans hit2
        have hbw3 := hbw2.trans (hb1.mono (by omega))
        go_roundw
        case rel => exact ⟨pos + wd s pos, hit3, hbw3, HF.out, hwl⟩
        case measure =>
          simp only [World.iterPos, hit3, hit]
          unfold wd at hwd
          omega
    · have hnx : ∀ ty, (Instr.next (.pointer (some ⟨w.heap.size, 0, none⟩)) true ty).run Tryd.prog wr = _ := fun ty => Lib.run_next_end_at wr w.heap.size s pos ty hit hp
      rw [rest_end s pos hp] at hf
      obtain rfl : T = true := hf.symm
      go_wp2
      go_ret
      exact ⟨rfl, hbw⟩
theorem gl_name (s : ByteArray) (hs : s.size ≤ 1000000) (w : World) (hT : Tabs w) :
    Calls Tryd.prog 21 #[.string s] w fun e w' => e = .returned (.bool (nameS s)) ∧ Below w.heap.size w w' := by
  have hc := fun w => gl_count s (by omega) w
  have hf := fun w h => gl_first_name s hs w h
  have hB := Below.refl w.heap.size w
  unfold nameS
  have hl : (poss s).length ≤ 1000000 := by have := rest_len s s.size 0 (by omega); rw [rest_zero] at this; omega
  clear hs
  generalize (poss s).length = n at *
  generalize firstBad s nameR (poss s) = q at *
  by_cases h1 : 1 ≤ n
  · have t1 : decide ((1 : Int) ≤ (n : Int)) = true := by simp; omega
    have t1' : decide (1 ≤ n) = true := by simpa using h1
    by_cases h2 : n ≤ 24
    · have t2 : decide ((n : Int) ≤ 24) = true := by simp; omega
      have t2' : decide (n ≤ 24) = true := by simpa using h2
      clear h1 h2
      go_enter Tryd.func21, Tryd.ntmps21
      go_wp2_with (first | (go_at_call 17; refine (hc _).mono ?_; rintro e W1 ⟨rfl, hb1⟩; replace hB := hB.trans (hb1.mono hB.size)) | (go_at_call 40; refine (hf _ (tabs_below hT hB)).mono ?_; rintro e W2 ⟨rfl, hb2⟩; replace hB := hB.trans (hb2.mono hB.size)))
      go_ret
      exact ⟨by simp [t1', t2'], hB⟩
    · have t2 : decide ((n : Int) ≤ 24) = false := by simp; omega
      have t2' : decide (n ≤ 24) = false := by simpa using h2
      clear h1 h2
      go_enter Tryd.func21, Tryd.ntmps21
      go_wp2_with (first | (go_at_call 17; refine (hc _).mono ?_; rintro e W1 ⟨rfl, hb1⟩; replace hB := hB.trans (hb1.mono hB.size)))
      go_ret
      exact ⟨by simp [t2'], hB⟩
  · have t1 : decide ((1 : Int) ≤ (n : Int)) = false := by simp; omega
    have t1' : decide (1 ≤ n) = false := by simpa using h1
    clear h1
    go_enter Tryd.func21, Tryd.ntmps21
    go_wp2_with (first | (go_at_call 17; refine (hc _).mono ?_; rintro e W1 ⟨rfl, hb1⟩; replace hB := hB.trans (hb1.mono hB.size)))
    go_ret
    exact ⟨by simp [t1'], hB⟩
theorem gl_note (s : ByteArray) (hs : s.size ≤ 1000000) (w : World) (hT : Tabs w) :
    Calls Tryd.prog 23 #[.string s] w fun e w' => e = .returned (.tuple #[.int .i64 (noteS s).1, .int .i64 (noteS s).2]) ∧ Below w.heap.size w w' := by
  have hf := fun w h => gl_first_note s hs w h
  unfold noteS
  clear hs
  generalize firstBad s noteR (poss s) = q at *
  by_cases h1 : 0 ≤ q
  · have t1 : decide (0 ≤ q) = true := by simpa using h1
    rw [if_pos h1]
    clear h1
    go_enter Tryd.func23, Tryd.ntmps23
    go_wp2_with (go_at_call 40; refine (hf _ hT).mono ?_; rintro e W2 ⟨rfl, hb2⟩)
    go_ret2
    exact ⟨rfl, hb2⟩
  · have t1 : decide (0 ≤ q) = false := by simpa using h1
    rw [if_neg h1]
    clear h1
    by_cases h2 : 1000 < s.size
    · have t2 : decide ((1000 : Int) < (s.size : Int)) = true := by simp; omega
      rw [if_pos h2]
      clear h2
      go_enter Tryd.func23, Tryd.ntmps23
      go_wp2_with (go_at_call 40; refine (hf _ hT).mono ?_; rintro e W2 ⟨rfl, hb2⟩)
      go_ret2
      exact ⟨rfl, hb2⟩
    · have t2 : decide ((1000 : Int) < (s.size : Int)) = false := by simp; omega
      rw [if_neg h2]
      clear h2
      go_enter Tryd.func23, Tryd.ntmps23
      go_wp2_with (go_at_call 40; refine (hf _ hT).mono ?_; rintro e W2 ⟨rfl, hb2⟩)
      go_ret2
      exact ⟨rfl, hb2⟩
end Go.Proofs.YtjldmlnohkknpaaDoor
