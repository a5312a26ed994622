/- GlyphBack: what was quoted is unquoted as it was, and is printable. -/
import Derived.Test.YtjldmlnohkknpaaDoorAwake01
import Derived.Test.YtjldmlnohkknpaaDoorTabs01
import Derived.Test.YtjldmlnohkknpaaDoorFirst
import Derived.Test.YtjldmlnohkknpaaDoorFoldT2
import Derived.Test.YtjldmlnohkknpaaDoorBackPlain
namespace Go.Proofs.YtjldmlnohkknpaaDoor
open Go.RowKit
set_option maxRecDepth 100000
set_option maxHeartbeats 4000000
theorem firstBad_all (s : ByteArray) (p : Int → Bool) (l : List Nat) (h : ∀ i ∈ l, p (rn s i) = true) : firstBad s p l = -1 := by
  induction l with
  | nil => rfl
  | cons i l ih => rw [firstBad_cons, if_pos (h i (List.mem_cons_self ..)), ih (fun j hj => h j (List.mem_cons_of_mem _ hj))]
theorem quote_valid (s : ByteArray) : validS ⟨(quoteL s).toArray⟩ = true := by
  unfold validS
  rw [firstBad_all _ validP _ ?_]
  · rfl
  · intro i _
    obtain ⟨t, ht⟩ : ∃ t, (⟨(quoteL s).toArray⟩ : ByteArray) = t := ⟨_, rfl⟩
    have hb : bt t i < 128 := by
      by_cases hi : i < (quoteL s).length
      · have := (quote_bt s i hi).2
        rw [ht] at this
        omega
      · rw [bt_out t i (by rw [← ht, str_size]; exact hi)]; decide
    rw [ht]
    unfold rn
    rw [dec_at, dec0 _ _ _ _ _ hb, if_neg (by intro hh; have := congrArg Prod.fst hh; simp at this; omega)]
    unfold validP
    exact decide_eq_true (by simp)
theorem bt_idx2 (s : ByteArray) (i : Nat) (h : i < s.size) : (s[i]'h).toNat = bt s i := bt_get s i h
theorem glyphBack.core (s : ByteArray) (behind : ByteArray) (_ws : s.size ≤ maxLen) (_wb : behind.size ≤ maxLen) (W : World) (hL : laidMetH Tryd.prog Rows.glyphBackRow.laid W) :
    Calls Tryd.prog 10 #[.string s, .string behind] W fun e w' => e = .returned (.bool true) ∧ Below W.heap.size W w' := by
  have hT := tabs_of hL
  clear hL _ws _wb
  by_cases hs : (5000 : Int) < (s.size : Int) ∨ (5000 : Int) < (behind.size : Int)
  · have tg : decide ((5000 : Int) < (s.size : Int)) = true ∨ decide ((5000 : Int) < (s.size : Int)) = false ∧ decide ((5000 : Int) < (behind.size : Int)) = true := by simp only [decide_eq_true_eq, decide_eq_false_iff_not]; omega
    clear hs
    rcases tg with tg | ⟨tg, tg2⟩
    all_goals
      go_enter Tryd.func10, Tryd.ntmps10
      go_wp2_with (go_at_call 11; refine (awake01 _ hT).mono ?_; rintro e w1 ⟨rfl, hb1⟩)
      go_ret
      exact ⟨rfl, hb1⟩
  · have tg : decide ((5000 : Int) < (s.size : Int)) = false := by simp; omega
    have tg2 : decide ((5000 : Int) < (behind.size : Int)) = false := by simp; omega
    have hql := quote_len s
    have h1 := fun w h => gl_quote s (by omega) w h
    have hqs := str_size (quoteL s)
    have h2 := fun w => gl_unquote ((⟨(quoteL s).toArray⟩ : ByteArray) ++ behind) (by rw [ByteArray.size_append]; omega) w
    rw [back_unquote, ← hqs] at h2
    have hss : (⟨s.data.toList.toArray⟩ : ByteArray) = s := by apply ByteArray.ext; simp
    simp only [hss] at h2
    have h3 := fun w h => gl_valid ⟨(quoteL s).toArray⟩ (by omega) w h
    rw [quote_valid] at h3
    have h4 : ∀ i, i < (⟨(quoteL s).toArray⟩ : ByteArray).size → 32 ≤ bt ⟨(quoteL s).toArray⟩ i ∧ bt ⟨(quoteL s).toArray⟩ i ≤ 126 := fun i hi => quote_bt s i (by rw [← hqs]; exact hi)
    have hz : (⟨(quoteL s).toArray⟩ : ByteArray).size ≤ 100000 := by omega
    have hbz : behind.size ≤ 5000 := by omega
    clear hql hqs hss hs
    generalize (⟨(quoteL s).toArray⟩ : ByteArray) = Q at *
    have H4 := Lib.hid h4
    clear h4
    have hB := Below.refl W.heap.size W
    go_enter Tryd.func10, Tryd.ntmps10
    go_wp2_with (first | (go_at_call 14; refine (h1 _ (tabs_below hT hB)).mono ?_; rintro e w2 ⟨rfl, hb2⟩; replace hB := hB.trans (hb2.mono hB.size)) | (go_at_call 27; refine (h2 _).mono ?_; rintro e w3 ⟨rfl, hb3⟩; replace hB := hB.trans (hb3.mono hB.size)))
    go_loopw [9] (fun iv wr => ∃ i : Nat, iv = .int .i64 i ∧ i ≤ Q.size ∧ Below W.heap.size W wr) (fun iv _ => Q.size - (intOf iv).toNat)
    case atStart => exact ⟨0, rfl, Nat.zero_le _, hB⟩
    case round =>
      clear hB
      obtain ⟨i, rfl, hi, hB⟩ := hrel
      by_cases hlt : i < Q.size
      · have tl : decide (i < Q.size) = true := by simpa using hlt
        obtain ⟨p1, p2⟩ := H4.out i hlt
        have hbi := bt_idx2 Q i hlt
        have j0 : (0 : Int) ≤ (i : Int) := by omega
        have j1 : (i : Int) < (Q.size : Int) := by omega
        have t1 : decide ((bt Q i : Int) < 32) = false := by simp; omega
        have t2 : decide ((126 : Int) < (bt Q i : Int)) = false := by simp; omega
        clear p1 p2
        generalize bt Q i = c at *
        go_wp2
        go_roundw
        case rel => exact ⟨i + 1, by go_num, by omega, hB⟩
        case measure => simp [intOf]; omega
      · have tl : decide (i < Q.size) = false := by simpa using hlt
        go_wp2_with (first | (go_at_call 11; refine (awake01 _ (tabs_below hT hB)).mono ?_; rintro e w1 ⟨rfl, hb1⟩; replace hB := hB.trans (hb1.mono hB.size)) | (go_at_call 22; refine (h3 _ (tabs_below hT hB)).mono ?_; rintro e w4 ⟨rfl, hb4⟩; replace hB := hB.trans (hb4.mono hB.size)))
        go_ret
        exact ⟨by simp, hB⟩
end Go.Proofs.YtjldmlnohkknpaaDoor
