/- Package glyph: Cut, walked. -/
import Derived.Test.YtjldmlnohkknpaaDoorGlyph2
namespace Go.Proofs.YtjldmlnohkknpaaDoor
open Go.RowKit
set_option maxRecDepth 100000
set_option maxHeartbeats 4000000
/-- What Cut's rounds keep: the last place, the next one. -/
def CutInv (s : ByteArray) (n : Int) (T last pos : Nat) : Prop := (pos = 0 ∧ last = 0 ∧ cutLen s n 0 = T) ∨ (last < s.size ∧ pos = last + wd s last ∧ cutLen s n last = T)
theorem CutInv.stop {s : ByteArray} {n : Int} {T last pos : Nat} (h : CutInv s n T last pos) (hp : ¬ (pos : Int) ≤ n) : last = T := by
  rcases h with ⟨rfl, rfl, h⟩ | ⟨h1, rfl, h⟩
  · rw [← h, cutLen_stop s n 0 (by omega)]
  · rw [← h, cutLen_stop s n last (by omega)]
theorem CutInv.next {s : ByteArray} {n : Int} {T last pos : Nat} (h : CutInv s n T last pos) (hps : pos < s.size) (hp : (pos : Int) ≤ n) : CutInv s n T pos (pos + wd s pos) := by
  rcases h with ⟨rfl, rfl, h⟩ | ⟨h1, rfl, h⟩
  · exact .inr ⟨hps, rfl, h⟩
  · refine .inr ⟨hps, rfl, ?_⟩
    rw [← h, cutLen_step s n last ⟨h1, hp⟩]
theorem CutInv.le {s : ByteArray} {n : Int} {T last pos : Nat} (h : CutInv s n T last pos) : last ≤ s.size := by
  rcases h with ⟨rfl, rfl, h⟩ | ⟨h1, rfl, h⟩ <;> omega
theorem gl_cut (s : ByteArray) (n : Int) (hs : s.size ≤ 4611686018427387904) (w : World) :
    Calls Tryd.prog 16 #[.string s, .int .i64 n] w fun e w' => e = .returned (.string (cutOf s n)) ∧ Below w.heap.size w w' := by
  by_cases hn : (s.size : Int) ≤ n
  · have tn : decide ((s.size : Int) ≤ n) = true := by simpa using hn
    have hc : cutOf s n = s := by
      unfold cutOf
      rw [cutLen_all s n hn s.size 0 (by omega) (by omega)]
      exact ByteArray.extract_zero_size
    rw [hc]
    clear hc
    go_enter Tryd.func16, Tryd.ntmps16
    go_wp2
    go_ret
    exact ⟨rfl, Below.refl _ _⟩
  · have tn : decide ((s.size : Int) ≤ n) = false := by simpa using hn
    unfold cutOf
    obtain ⟨T, hT⟩ : ∃ T, cutLen s n 0 = T := ⟨_, rfl⟩
    rw [hT]
    have HT := Lib.hid hT
    clear hT
    go_enter Tryd.func16, Tryd.ntmps16
    go_wp2
    go_loopw [5] (fun l wr => ∃ (last pos : Nat), l = .int .i64 last ∧ wr.heap[w.heap.size]? = some (.stringIter s pos) ∧ Below w.heap.size w wr ∧ pos ≤ s.size ∧ CutInv s n T last pos) (fun _ wr => s.size - wr.iterPos w.heap.size)
    case atStart => exact ⟨0, 0, rfl, World.iter_heap w s 0, (Below.refl _ w).alloc (Nat.le_refl _) _, Nat.zero_le _, .inl ⟨rfl, rfl, HT.out⟩⟩
    case round =>
      obtain ⟨last, pos, rfl, hit, hbw, hps, hI⟩ := hrel
      have hsz : w.heap.size < wr.heap.size := (Array.getElem?_eq_some_iff.1 hit).1
      by_cases hp : pos < s.size
      · have hnx : ∀ ty, (Instr.next (.pointer (some ⟨w.heap.size, 0, none⟩)) true ty).run Tryd.prog wr = _ := fun ty => Lib.run_next_any_at wr w.heap.size s pos ty hit hp
        have hwd := wd_pos s pos hp
        have hwl := (wd_le s pos hp).2
        have hit2 := Lib.iterAt_heap wr w.heap.size s pos (pos + (Utf8.decode s pos).2) hit
        have hbw2 := Lib.below_iterAt hbw (k := w.heap.size) (Nat.le_refl _) s (pos + (Utf8.decode s pos).2)
        by_cases hc : (pos : Int) ≤ n
        · have tc : decide (n < (pos : Int)) = false := by simpa using hc
          have hI2 := hI.next hp hc
          go_wp2
          go_roundw
          case rel => exact ⟨pos, pos + wd s pos, rfl, hit2, hbw2, hwl, hI2⟩
          case measure =>
            simp only [World.iterPos, hit2, hit]
            unfold wd at hwd
            omega
        · have tc : decide (n < (pos : Int)) = true := by simp; omega
          obtain rfl := hI.stop hc
          have hle := hI.le
          have i0 : (0 : Int) ≤ (last : Int) := by omega
          have i1 : (last : Int) ≤ (s.size : Int) := by omega
          clear hI HT
          go_wp2
          go_ret
          exact ⟨rfl, hbw2⟩
      · have hnx : ∀ ty, (Instr.next (.pointer (some ⟨w.heap.size, 0, none⟩)) true ty).run Tryd.prog wr = _ := fun ty => Lib.run_next_end_at wr w.heap.size s pos ty hit hp
        obtain rfl := hI.stop (by omega)
        have hle := hI.le
        have i0 : (0 : Int) ≤ (last : Int) := by omega
        have i1 : (last : Int) ≤ (s.size : Int) := by omega
        clear hI HT
        go_wp2
        go_ret
        exact ⟨rfl, hbw⟩
end Go.Proofs.YtjldmlnohkknpaaDoor
