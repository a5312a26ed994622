/- GlyphSames. -/
import Derived.Test.YtjldmlnohkknpaaDoorAwake01
import Derived.Test.YtjldmlnohkknpaaDoorTabs01
namespace Go.Proofs.YtjldmlnohkknpaaDoor
open Go.RowKit
set_option maxRecDepth 100000
set_option maxHeartbeats 4000000
theorem list_eqb (a b : List UInt8) : (a == b) = decide (a = b) := by rw [Bool.eq_iff_iff]; simp
theorem glyphSames.core (a : ByteArray) (b : ByteArray) (_wa : a.size ≤ maxLen) (_wb : b.size ≤ maxLen) (W : World) (hL : laidMetH Tryd.prog Rows.glyphSamesRow.laid W) :
    Calls Tryd.prog 3 #[.string a, .string b] W fun e w' => e = .returned (.bool true) ∧ Below W.heap.size W w' := by
  have hT := tabs_of hL
  clear hL _wa _wb
  by_cases hs : (5000 : Int) < (a.size : Int) ∨ (5000 : Int) < (b.size : Int)
  · have tg : decide ((5000 : Int) < (a.size : Int)) = true ∨ decide ((5000 : Int) < (a.size : Int)) = false ∧ decide ((5000 : Int) < (b.size : Int)) = true := by simp only [decide_eq_true_eq, decide_eq_false_iff_not]; omega
    clear hs
    rcases tg with tg | ⟨tg, tg2⟩
    all_goals
      go_enter Tryd.func3, Tryd.ntmps3
      go_wp2_with (go_at_call 11; refine (awake01 _ hT).mono ?_; rintro e w1 ⟨rfl, hb1⟩)
      go_ret
      exact ⟨rfl, hb1⟩
  · have tg : decide ((5000 : Int) < (a.size : Int)) = false := by simp; omega
    have tg2 : decide ((5000 : Int) < (b.size : Int)) = false := by simp; omega
    have h1 := fun w h => gl_same a b (by omega) (by omega) w h
    have h2 := fun w => ref_foldT a (by omega) w
    have h3 := fun w => ref_foldT b (by omega) w
    clear hs
    go_enter Tryd.func3, Tryd.ntmps3
    go_wp2_with (first | (go_at_call 11; refine (awake01 _ hT).mono ?_; rintro e w1 ⟨rfl, hb1⟩; have hT1 := tabs_below hT hb1) | (go_at_call 12; refine (h1 _ hT1).mono ?_; clear h1; rintro e w2 ⟨rfl, hb2⟩) | (go_at_call 13; first | (refine (h2 _).mono ?_; clear h2; rintro e w3 ⟨rfl, hb3⟩) | (refine (h3 _).mono ?_; clear h3; rintro e w4 ⟨rfl, hb4⟩)))
    go_ret
    refine ⟨?_, hb1.trans ((hb2.mono hb1.size).trans ((hb3.mono (Nat.le_trans hb1.size hb2.size)).trans (hb4.mono (Nat.le_trans hb1.size (Nat.le_trans hb2.size hb3.size)))))⟩
    simp [list_eqb]
end Go.Proofs.YtjldmlnohkknpaaDoor
