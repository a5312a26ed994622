/- A text's fold: the program's and the reference's. -/
import Derived.Test.YtjldmlnohkknpaaDoorFold
import Derived.Test.YtjldmlnohkknpaaDoorBytes
namespace Go.Proofs.YtjldmlnohkknpaaDoor
open Go.RowKit
set_option maxRecDepth 100000
set_option maxHeartbeats 4000000
theorem dec_ok (s : ByteArray) (i : Nat) : Utf8.decode s i = (65533, 1) ∨ (RuneOk (Utf8.decode s i).1 ∧ rn s i = (Utf8.decode s i).1) := by
  by_cases h : Utf8.decode s i = (65533, 1)
  · exact .inl h
  · refine .inr ⟨?_, by unfold rn; rw [if_neg h]⟩
    have g1 := bt_lt s (i + 1)
    have g2 := bt_lt s (i + 2)
    have g3 := bt_lt s (i + 3)
    have g0 := bt_lt s i
    rw [dec_at] at h ⊢
    unfold RuneOk
    by_cases c0 : bt s i < 128
    · rw [dec0 _ _ _ _ _ c0]; simp only; omega
    · by_cases cX : bt s i < 194 ∨ 245 ≤ bt s i
      · rw [decX _ _ _ _ _ g0 (by omega)] at h; exact absurd rfl h
      · by_cases c1 : bt s i < 224
        · rw [dec1 _ _ _ _ _ ⟨by omega, c1⟩ g1] at h ⊢
          split
          · simp only; omega
          · rename_i hh; rw [if_neg hh] at h; exact absurd rfl h
        · by_cases c2 : bt s i < 240
          · rw [dec2 _ _ _ _ _ ⟨by omega, c2⟩ g1 g2] at h ⊢
            split
            · simp only; omega
            · rename_i hh; rw [if_neg hh] at h; exact absurd rfl h
          · rw [dec3 _ _ _ _ _ ⟨by omega, by omega⟩ g1 g2 g3] at h ⊢
            split
            · simp only; omega
            · rename_i hh; rw [if_neg hh] at h; exact absurd rfl h
theorem foldR_ok {r : Int} (h : RuneOk r) : RuneOk (foldR r) := by
  unfold RuneOk at *
  unfold foldR
  split
  · omega
  · split <;> omega
/-- The fold of what stands at a place. -/
def foldB (s : ByteArray) (i : Nat) : List UInt8 := if Utf8.decode s i = (65533, 1) then [s.get! i] else Lib.encodeRune (foldR (Utf8.decode s i).1)
def foldL (s : ByteArray) : List UInt8 := (poss s).flatMap (foldB s)
theorem enc_len (r : Int) : (Lib.encodeRune r).length ≤ 4 := by
  have := Lib.runeCells_le r
  rw [Lib.runeCells_length] at this
  omega
theorem foldB_len (s : ByteArray) (i : Nat) : (foldB s i).length ≤ 4 := by
  unfold foldB
  split
  · simp
  · exact enc_len _
theorem isB_below {b : Nat} {l : List UInt8} {w w' : World} (h : IsB b l w) (hb : Below w.heap.size w w') : IsB b l w' := by
  have key : ∀ p, Lib.BuilderAtF 48 5 b b p (Lib.byteCells l) w → Lib.BuilderAtF 48 5 b b p (Lib.byteCells l) w' := by
    rintro p ⟨hB, v, hk, hown, hne⟩
    refine ⟨hB, v, (hb.block b (Array.getElem?_eq_some_iff.1 hk).1).trans hk, ⟨hown.1, ?_⟩, hne⟩
    rcases hown.2 with h0 | ⟨g, cap, cur, fz, hv, hg, hheap, hr⟩
    · exact .inl h0
    · exact .inr ⟨g, cap, cur, fz, hv, hg, (hb.block g (Array.getElem?_eq_some_iff.1 hheap).1).trans hheap, hr⟩
  exact h.elim (fun h => .inl (key _ h)) (fun h => .inr (key _ h))
theorem gl_foldT (s : ByteArray) (hs : s.size ≤ 1000000) (w : World) (hT : Tabs w) :
    Calls Tryd.prog 18 #[.string s] w fun e w' => e = .returned (.string ⟨(foldL s).toArray⟩) ∧ Below w.heap.size w w' := by
  obtain ⟨N, hN⟩ : ∃ N, N = w.heap.size := ⟨_, rfl⟩
  obtain ⟨T, hTT⟩ : ∃ T, foldL s = T := ⟨_, rfl⟩
  rw [hTT]
  have h0 : [] ++ (rest s 0).flatMap (foldB s) = T := by rw [rest_zero]; exact hTT
  have H0 := Lib.hid h0
  have HN := Lib.hid hN
  clear hTT h0 hN
  go_enter Tryd.func18, Tryd.ntmps18
  go_wp2
  go_loopw [] (fun wr => ∃ (pos : Nat) (acc : List UInt8), IsB w.heap.size acc wr ∧ wr.heap[w.heap.size + 1]? = some (.stringIter s pos) ∧ Below w.heap.size w wr ∧ acc ++ (rest s pos).flatMap (foldB s) = T ∧ pos ≤ s.size ∧ acc.length ≤ 4 * pos) (fun wr => s.size - wr.iterPos (w.heap.size + 1))
  case atStart =>
    refine ⟨0, [], (Lib.IsBuilderF.of (Lib.fresh_isBuilder _ _ w)).alloc _, ?_, ((Below.refl _ w).alloc (Nat.le_refl _) _).alloc (by simp) _, H0.out, Nat.zero_le _, by simp⟩
    have := World.iter_heap (w.alloc (.cells #[.pointer none, .slice none 0 0] 48)) s 0
    simpa using this
  case round =>
    obtain ⟨pos, acc, hI, hit, hbw, hacc, hps, hal⟩ := hrel
    have hsz : w.heap.size + 1 < wr.heap.size := (Array.getElem?_eq_some_iff.1 hit).1
    by_cases hp : pos < s.size
    · have hnx : ∀ ty, (Instr.next (.pointer (some ⟨w.heap.size + 1, 0, none⟩)) true ty).run Tryd.prog wr = _ := fun ty => Lib.run_next_any_at wr (w.heap.size + 1) s pos ty hit hp
      have hwd := wd_pos s pos hp
      have hwl := (wd_le s pos hp).2
      have hI2 := hI.iterAt hit (pos + (Utf8.decode s pos).2)
      have hit2 := Lib.iterAt_heap wr (w.heap.size + 1) s pos (pos + (Utf8.decode s pos).2) hit
      have hbw2 := Lib.below_iterAt hbw (k := w.heap.size + 1) (by omega) s (pos + (Utf8.decode s pos).2)
      have hsz2 : w.heap.size + 1 < (wr.iterAt (w.heap.size + 1) s (pos + (Utf8.decode s pos).2)).heap.size := by rw [Lib.iterAt_size]; exact hsz
      have hbr := gl_broken s pos hp (by omega) _ (tabs_below hT hbw2)
      rw [rest_step s pos hp, List.flatMap_cons, ← List.append_assoc] at hacc
      have HACC := Lib.hid hacc
      have hfl := foldB_len s pos
      have hok := dec_ok s pos
      have hgb := bt_get s pos hp
      clear hacc
      rcases hok with hD | ⟨hR, hrn⟩
      · rw [decide_eq_true hD] at hbr
        have hFB : foldB s pos = [s.get! pos] := by unfold foldB; rw [if_pos hD]
        have HFB := Lib.hid hFB
        clear hFB hD
        go_wp2_with (go_at_call 32; refine hbr.mono ?_; rintro e W1 ⟨rfl, hb1⟩)
        have hI3 := isB_below hI2 hb1
        have hit3 := (hb1.block _ hsz2).trans hit2
        have hbw3 := hbw2.trans (hb1.mono (by omega))
        have hsz3 := Nat.lt_of_lt_of_le hsz2 hb1.size
        have hwb := bld_byte w.heap.size acc (s.get! pos) W1 hI3 (by omega) (by omega)
        have hcb : ((s.get! pos).toNat : Int) = (bt s pos : Int) := rfl
        rw [hcb] at hwb
        clear hcb
        go_wp2_with (go_at_call 36; refine hwb.mono ?_)
        rintro e W2 ⟨rfl, h4, b4, k4⟩
        go_wp2
        go_roundw
        case rel => exact ⟨pos + wd s pos, acc ++ foldB s pos, by rw [HFB.out]; exact h4, k4.iter hit3 (by omega), hbw3.trans b4, HACC.out, hwl, by rw [HFB.out]; simp; omega⟩
        case measure =>
          simp only [World.iterPos, k4.iter hit3 (by omega), hit]
          unfold wd at hwd
          omega
      · have hnb : ¬ Utf8.decode s pos = (65533, 1) := fun h => by rw [show rn s pos = -1 by unfold rn; rw [if_pos h]] at hrn; omega
        rw [decide_eq_false hnb] at hbr
        have hFB : foldB s pos = Lib.encodeRune (foldR (Utf8.decode s pos).1) := by unfold foldB; rw [if_neg hnb]
        have HFB := Lib.hid hFB
        have hfo := foldR_ok hR
        have hfd := gl_fold ((Utf8.decode s pos).1 : Int) hR.1 hR.2.1
        have hel := enc_len (foldR (Utf8.decode s pos).1)
        clear hFB hnb hrn hR
        generalize foldR (Utf8.decode s pos).1 = fr at *
        obtain ⟨f0, f1, f2⟩ := hfo
        clear f2
        go_wp2_with (go_at_call 32; refine hbr.mono ?_; rintro e W1 ⟨rfl, hb1⟩)
        have hI3 := isB_below hI2 hb1
        have hit3 := (hb1.block _ hsz2).trans hit2
        have hbw3 := hbw2.trans (hb1.mono (by omega))
        have hsz3 := Nat.lt_of_lt_of_le hsz2 hb1.size
        have hwb := bld_rune w.heap.size acc fr (by omega) (by omega) W1 hI3 (by omega) (by omega)
        go_wp2_with (first | (go_at_call 38; refine (hfd _).mono ?_; rintro e W9 ⟨rfl, rfl⟩) | (go_at_call 37; refine hwb.mono ?_; rintro e W2 ⟨⟨nn, rfl⟩, h4, b4, k4⟩))
        go_roundw
        case rel => exact ⟨pos + wd s pos, acc ++ foldB s pos, by rw [HFB.out]; exact h4, k4.iter hit3 (by omega), hbw3.trans b4, HACC.out, hwl, by rw [HFB.out]; simp; omega⟩
        case measure =>
          simp only [World.iterPos, k4.iter hit3 (by omega), hit]
          unfold wd at hwd
          omega
    · have hnx : ∀ ty, (Instr.next (.pointer (some ⟨w.heap.size + 1, 0, none⟩)) true ty).run Tryd.prog wr = _ := fun ty => Lib.run_next_end_at wr (w.heap.size + 1) s pos ty hit hp
      go_wp2_with (go_at_call 39; refine (Tryd.Builder_String_any_k w.heap.size w.heap.size acc _ hI (by omega)).mono ?_)
      rintro e W1 ⟨rfl, _, b1, _⟩
      go_wp2
      go_ret
      rw [rest_end s pos hp, List.flatMap_nil, List.append_nil] at hacc
      subst hacc
      exact ⟨rfl, hbw.trans b1⟩
end Go.Proofs.YtjldmlnohkknpaaDoor
