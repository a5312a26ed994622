/- A text quoted: the program's. -/
import Derived.Test.YtjldmlnohkknpaaDoorQuote
namespace Go.Proofs.YtjldmlnohkknpaaDoor
open Go.RowKit
set_option maxRecDepth 100000
set_option maxHeartbeats 4000000
/-- What stands at a place, quoted. -/
def quoteB (s : ByteArray) (i : Nat) : List UInt8 := if Utf8.decode s i = (65533, 1) then [92, 120] ++ hexL (bt s i) 2 else quoteR (Utf8.decode s i).1
def quoteL (s : ByteArray) : List UInt8 := [34] ++ (poss s).flatMap (quoteB s) ++ [34]
theorem quoteR_len (r : Nat) : (quoteR r).length ≤ 12 := by
  have := hexL_len r 1
  unfold quoteR
  split
  · simp
  · split
    · simp
    · split
      · simp
      · simp only [List.length_append, List.length_cons, List.length_nil]; omega
theorem quoteB_len (s : ByteArray) (i : Nat) : (quoteB s i).length ≤ 12 := by
  unfold quoteB
  split
  · have := hexL_len (bt s i) 2
    simp only [List.length_append, List.length_cons, List.length_nil]; omega
  · exact quoteR_len _
theorem gl_quote (s : ByteArray) (hs : s.size ≤ 1000000) (w : World) (hT : Tabs w) :
    Calls Tryd.prog 14 #[.string s] w fun e w' => e = .returned (.string ⟨(quoteL s).toArray⟩) ∧ Below w.heap.size w w' := by
  obtain ⟨T, hTT⟩ : ∃ T, [34] ++ (poss s).flatMap (quoteB s) = T := ⟨_, rfl⟩
  unfold quoteL
  rw [hTT]
  have h0 : [34] ++ (rest s 0).flatMap (quoteB s) = T := by rw [rest_zero]; exact hTT
  have H0 := Lib.hid h0
  clear hTT h0
  go_enter Tryd.func14, Tryd.ntmps14
  go_wp2
  go_loopw [3] (fun o wr => ∃ (pos : Nat) (acc : List UInt8), o = .string ⟨acc.toArray⟩ ∧ wr.heap[w.heap.size]? = some (.stringIter s pos) ∧ Below w.heap.size w wr ∧ acc ++ (rest s pos).flatMap (quoteB s) = T ∧ pos ≤ s.size ∧ acc.length ≤ 12 * pos + 1) (fun _ wr => s.size - wr.iterPos w.heap.size)
  case atStart => exact ⟨0, [34], rfl, World.iter_heap w s 0, (Below.refl _ w).alloc (Nat.le_refl _) _, H0.out, Nat.zero_le _, by simp⟩
  case round =>
    obtain ⟨pos, acc, rfl, hit, hbw, hacc, hps, hal⟩ := hrel
    have hsz : w.heap.size < wr.heap.size := (Array.getElem?_eq_some_iff.1 hit).1
    by_cases hp : pos < s.size
    · have hnx : ∀ ty, (Instr.next (.pointer (some ⟨w.heap.size, 0, none⟩)) true ty).run Tryd.prog wr = _ := fun ty => Lib.run_next_any_at wr w.heap.size s pos ty hit hp
      have hwd := wd_pos s pos hp
      have hwl := (wd_le s pos hp).2
      have hit2 := Lib.iterAt_heap wr w.heap.size s pos (pos + (Utf8.decode s pos).2) hit
      have hbw2 := Lib.below_iterAt hbw (k := w.heap.size) (by omega) s (pos + (Utf8.decode s pos).2)
      have hsz2 : w.heap.size < (wr.iterAt w.heap.size s (pos + (Utf8.decode s pos).2)).heap.size := by rw [Lib.iterAt_size]; exact hsz
      have hbr := gl_broken s pos hp (by omega) _ (tabs_below hT hbw2)
      rw [rest_step s pos hp, List.flatMap_cons, ← List.append_assoc] at hacc
      have HACC := Lib.hid hacc
      have hfl := quoteB_len s pos
      have hok := dec_ok s pos
      have hgb := bt_get s pos hp
      have hbl := bt_lt s pos
      clear hacc
      rcases hok with hD | ⟨hR, hrn⟩
      · rw [decide_eq_true hD] at hbr
        have hFB : quoteB s pos = [92, 120] ++ hexL (bt s pos) 2 := by unfold quoteB; rw [if_pos hD]
        have HFB := Lib.hid hFB
        have hhx := gl_hex (bt s pos) 2 (by omega) (by omega)
        rw [show ((2 : Nat) : Int) = 2 from rfl] at hhx
        have hxl := hexL_len (bt s pos) 2
        generalize hexL (bt s pos) 2 = hx at *
        clear hFB hD
        go_wp2_with (first | (go_at_call 32; refine hbr.mono ?_; rintro e W1 ⟨rfl, hb1⟩) | (go_at_call 33; refine (hhx _).mono ?_; rintro e W2 ⟨rfl, rfl⟩))
        have hit3 := (hb1.block _ hsz2).trans hit2
        have hbw3 := hbw2.trans (hb1.mono (by omega))
        go_roundw
        case rel => exact ⟨pos + wd s pos, acc ++ quoteB s pos, by rw [HFB.out, ← str_add, ← str_add], hit3, hbw3, HACC.out, hwl, by simp; omega⟩
        case measure =>
          simp only [World.iterPos, hit3, hit]
          unfold wd at hwd
          omega
      · have hnb : ¬ Utf8.decode s pos = (65533, 1) := fun h => by rw [show rn s pos = -1 by unfold rn; rw [if_pos h]] at hrn; omega
        rw [decide_eq_false hnb] at hbr
        have hFB : quoteB s pos = quoteR (Utf8.decode s pos).1 := by unfold quoteB; rw [if_neg hnb]
        have HFB := Lib.hid hFB
        have hq := gl_quoted (Utf8.decode s pos).1 (by have := hR.2.1; omega)
        have hql := quoteR_len (Utf8.decode s pos).1
        generalize quoteR (Utf8.decode s pos).1 = qr at *
        clear hFB hnb hrn hR
        go_wp2_with (first | (go_at_call 32; refine hbr.mono ?_; rintro e W1 ⟨rfl, hb1⟩) | (go_at_call 34; refine (hq _).mono ?_; rintro e W2 ⟨rfl, rfl⟩))
        have hit3 := (hb1.block _ hsz2).trans hit2
        have hbw3 := hbw2.trans (hb1.mono (by omega))
        go_roundw
        case rel => exact ⟨pos + wd s pos, acc ++ quoteB s pos, by rw [HFB.out, ← str_add], hit3, hbw3, HACC.out, hwl, by simp; omega⟩
        case measure =>
          simp only [World.iterPos, hit3, hit]
          unfold wd at hwd
          omega
    · have hnx : ∀ ty, (Instr.next (.pointer (some ⟨w.heap.size, 0, none⟩)) true ty).run Tryd.prog wr = _ := fun ty => Lib.run_next_end_at wr w.heap.size s pos ty hit hp
      rw [rest_end s pos hp, List.flatMap_nil, List.append_nil] at hacc
      subst hacc
      go_wp2
      go_ret
      exact ⟨by rw [← str_add]; rfl, hbw⟩
end Go.Proofs.YtjldmlnohkknpaaDoor
