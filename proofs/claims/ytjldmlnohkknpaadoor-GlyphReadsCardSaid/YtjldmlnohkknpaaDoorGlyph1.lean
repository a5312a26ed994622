/- Package glyph: broken, Count; the reference's Count: walked over the places of a text's runes. -/
import Derived.Test.YtjldmlnohkknpaaDoorBuilder
import Derived.Test.YtjldmlnohkknpaaDoorRune2
import Derived.Lib.RuneCountTail
namespace Go.Proofs.YtjldmlnohkknpaaDoor
open Go.RowKit
set_option maxRecDepth 100000
set_option maxHeartbeats 4000000
/-- Where runes begin, from a place on. -/
def posFrom (s : ByteArray) : Nat → Nat → List Nat
  | 0, _ => []
  | f + 1, i => if i < s.size then i :: posFrom s f (i + wd s i) else []
def poss (s : ByteArray) : List Nat := posFrom s s.size 0
theorem wd_pos (s : ByteArray) (i : Nat) (h : i < s.size) : 1 ≤ wd s i := by
  unfold wd
  by_cases ha : (s[i]'h).toNat < 128
  · rw [decode_ascii s i h ha]
    exact Nat.le_refl _
  · exact (decode_high s i h (by omega)).2
theorem wd_le (s : ByteArray) (i : Nat) (h : i < s.size) : wd s i ≤ 4 ∧ i + wd s i ≤ s.size := by
  have g1 := bt_lt s (i + 1)
  have g2 := bt_lt s (i + 2)
  have g3 := bt_lt s (i + 3)
  have g0 := bt_lt s i
  unfold wd
  rw [dec_at]
  by_cases c0 : bt s i < 128
  · rw [dec0 _ _ _ _ _ c0]; omega
  · by_cases cX : bt s i < 194 ∨ 245 ≤ bt s i
    · rw [decX _ _ _ _ _ g0 (by omega)]; omega
    · by_cases c1 : bt s i < 224
      · rw [dec1 _ _ _ _ _ ⟨by omega, c1⟩ g1]; split <;> omega
      · by_cases c2 : bt s i < 240
        · rw [dec2 _ _ _ _ _ ⟨by omega, c2⟩ g1 g2]; split <;> omega
        · rw [dec3 _ _ _ _ _ ⟨by omega, by omega⟩ g1 g2 g3]; split <;> omega
theorem posFrom_end (s : ByteArray) (f i : Nat) (h : ¬ i < s.size) : posFrom s f i = [] := by
  cases f with
  | zero => rfl
  | succ f => simp [posFrom, h]
theorem posFrom_step (s : ByteArray) (f i : Nat) (h : i < s.size) : posFrom s (f + 1) i = i :: posFrom s f (i + wd s i) := by simp [posFrom, h]
theorem posFrom_fuel (s : ByteArray) : ∀ (f g i : Nat), s.size ≤ i + f → s.size ≤ i + g → posFrom s f i = posFrom s g i := by
  intro f
  induction f with
  | zero =>
    intro g i hf _
    rw [posFrom_end s 0 i (by omega), posFrom_end s g i (by omega)]
  | succ f ih =>
    intro g i hf hg
    by_cases h : i < s.size
    · obtain ⟨g, rfl⟩ : ∃ k, g = k + 1 := ⟨g - 1, by omega⟩
      have hw := wd_pos s i h
      rw [posFrom_step s f i h, posFrom_step s g i h, ih g (i + wd s i) (by omega) (by omega)]
    · rw [posFrom_end s _ i h, posFrom_end s _ i h]
/-- From a place on, as far as the text goes. -/
def rest (s : ByteArray) (i : Nat) : List Nat := posFrom s (s.size - i) i
theorem rest_zero (s : ByteArray) : rest s 0 = poss s := rfl
theorem rest_end (s : ByteArray) (i : Nat) (h : ¬ i < s.size) : rest s i = [] := posFrom_end s _ i h
theorem rest_step (s : ByteArray) (i : Nat) (h : i < s.size) : rest s i = i :: rest s (i + wd s i) := by
  unfold rest
  have hw := wd_pos s i h
  have hl := (wd_le s i h).2
  obtain ⟨f, hf⟩ : ∃ f, s.size - i = f + 1 := ⟨s.size - i - 1, by omega⟩
  rw [hf, posFrom_step s f i h, posFrom_fuel s f (s.size - (i + wd s i)) (i + wd s i) (by omega) (by omega)]
theorem rest_len (s : ByteArray) : ∀ (f i : Nat), s.size ≤ i + f → (rest s i).length ≤ f := by
  intro f
  induction f with
  | zero => intro i h; rw [rest_end s i (by omega)]; exact Nat.le_refl _
  | succ f ih =>
    intro i h
    by_cases hi : i < s.size
    · have hw := wd_pos s i hi
      rw [rest_step s i hi, List.length_cons]
      have := ih (i + wd s i) (by omega)
      omega
    · rw [rest_end s i hi]; exact Nat.zero_le _
theorem tabs_below {w w' : World} (h : Lib.Utf8Tabs 0 1 w) (hb : Below w.heap.size w w') : Lib.Utf8Tabs 0 1 w' :=
  ⟨fun c hc => (hb.cell (World.block_lt_of_cell? w _ (h.1 c hc))).trans (h.1 c hc),
   fun i hi => ⟨(hb.cell (World.block_lt_of_cell? w _ (h.2 i hi).1)).trans (h.2 i hi).1, (hb.cell (World.block_lt_of_cell? w _ (h.2 i hi).2)).trans (h.2 i hi).2⟩⟩
abbrev Tabs (w : World) : Prop := Lib.Utf8Tabs 0 1 w
theorem gl_broken (s : ByteArray) (i : Nat) (hi : i < s.size) (_hs : s.size ≤ 4611686018427387904) (w : World) (hT : Tabs w) :
    Calls Tryd.prog 32 #[.string s, .int .i64 i, .int .i32 (Utf8.decode s i).1] w fun e w' => e = .returned (.bool (decide (Utf8.decode s i = (65533, 1)))) ∧ Below w.heap.size w w' := by
  have hd := Tryd.utf8_DecodeRuneInString (s.extract i s.size) w hT
  have hsz : (s.extract i s.size).size = s.size - i := by simp [ByteArray.size_extract]
  have hgo : Lib.decodeGo (s.extract i s.size) = Utf8.decode s i := by
    unfold Lib.decodeGo
    rw [if_neg (by rw [hsz]; omega), Lib.tail_decode, Nat.add_zero]
  rw [hgo] at hd
  clear hgo hsz
  obtain ⟨⟨r, n⟩, hr⟩ : ∃ p, Utf8.decode s i = p := ⟨_, rfl⟩
  rw [hr] at hd ⊢
  simp only at hd ⊢
  clear hr
  by_cases h1 : r = 65533
  · subst h1
    have hi0 : (0 : Int) ≤ (i : Int) := by omega
    have hi1 : (i : Int) ≤ (s.size : Int) := by omega
    by_cases h2 : n = 1
    · subst h2
      go_enter Tryd.func32, Tryd.ntmps32
      go_wp2_with (go_at_call 50; refine hd.mono ?_; rintro e w1 ⟨rfl, hb⟩)
      go_ret
      exact ⟨rfl, hb⟩
    · have t2 : decide ((n : Int) = 1) = false := by simp; omega
      go_enter Tryd.func32, Tryd.ntmps32
      go_wp2_with (go_at_call 50; refine hd.mono ?_; rintro e w1 ⟨rfl, hb⟩)
      go_ret
      exact ⟨by simp [h2]; omega, hb⟩
  · have t1 : decide ((r : Int) = 65533) = false := by simp; omega
    go_enter Tryd.func32, Tryd.ntmps32
    go_wp2
    go_ret
    exact ⟨by simp [h1], Below.refl _ _⟩
theorem gl_count (s : ByteArray) (hs : s.size ≤ 4611686018427387904) (w : World) :
    Calls Tryd.prog 17 #[.string s] w fun e w' => e = .returned (.int .i64 (poss s).length) ∧ Below w.heap.size w w' := by
  obtain ⟨T, hT⟩ : ∃ T, (poss s).length = T := ⟨_, rfl⟩
  rw [hT]
  have hTs : T ≤ s.size := by rw [← hT, ← rest_zero]; exact rest_len s s.size 0 (by omega)
  have hT0 : 0 + (rest s 0).length = T := by rw [rest_zero, hT, Nat.zero_add]
  have HT0 := Lib.hid hT0
  clear hT hT0
  go_enter Tryd.func17, Tryd.ntmps17
  go_wp2
  go_loopw [3] (fun n wr => ∃ (k pos : Nat), n = .int .i64 k ∧ wr.heap[w.heap.size]? = some (.stringIter s pos) ∧ Below w.heap.size w wr ∧ k + (rest s pos).length = T) (fun _ wr => s.size - wr.iterPos w.heap.size)
  case atStart => exact ⟨0, 0, rfl, World.iter_heap w s 0, (Below.refl _ w).alloc (Nat.le_refl _) _, HT0.out⟩
  case round =>
    obtain ⟨k, pos, rfl, hit, hbw, hk⟩ := hrel
    have hsz : w.heap.size < wr.heap.size := (Array.getElem?_eq_some_iff.1 hit).1
    by_cases hp : pos < s.size
    · have hnx : ∀ ty, (Instr.next (.pointer (some ⟨w.heap.size, 0, none⟩)) true ty).run Tryd.prog wr = _ := fun ty => Lib.run_next_any_at wr w.heap.size s pos ty hit hp
      have hwd := wd_pos s pos hp
      have hst := rest_step s pos hp
      rw [hst, List.length_cons] at hk
      have hk1 : k + 1 + (rest s (pos + wd s pos)).length = T := by omega
      have HK1 := Lib.hid hk1
      have hkT : k < T := by omega
      clear hst hk1 hk
      have hit2 := Lib.iterAt_heap wr w.heap.size s pos (pos + (Utf8.decode s pos).2) hit
      have hbw2 := Lib.below_iterAt hbw (k := w.heap.size) (Nat.le_refl _) s (pos + (Utf8.decode s pos).2)
      go_wp2
      go_roundw
      case rel => exact ⟨k + 1, pos + wd s pos, by go_num, hit2, hbw2, HK1.out⟩
      case measure =>
        simp only [World.iterPos, hit2, hit]
        unfold wd at hwd
        omega
    · have hnx : ∀ ty, (Instr.next (.pointer (some ⟨w.heap.size, 0, none⟩)) true ty).run Tryd.prog wr = _ := fun ty => Lib.run_next_end_at wr w.heap.size s pos ty hit hp
      rw [rest_end s pos hp, List.length_nil, Nat.add_zero] at hk
      subst hk
      go_wp2
      go_ret
      exact ⟨rfl, hbw⟩
end Go.Proofs.YtjldmlnohkknpaaDoor
