/- GlyphQuotes. -/
import Derived.Test.YtjldmlnohkknpaaDoorAwake01
import Derived.Test.YtjldmlnohkknpaaDoorTabs01
namespace Go.Proofs.YtjldmlnohkknpaaDoor
open Go.RowKit
set_option maxRecDepth 100000
set_option maxHeartbeats 4000000
theorem glyphQuotes.core (s : ByteArray) (_ws : s.size ≤ maxLen) (W : World) (hL : laidMetH Tryd.prog Rows.glyphQuotesRow.laid W) :
    Calls Tryd.prog 4 #[.string s] W fun e w' => e = .returned (.bool true) ∧ Below W.heap.size W w' := by
  have hT := tabs_of hL
  have hB := Below.refl W.heap.size W
  clear hL
  by_cases hs : (5000 : Int) < (s.size : Int)
  · have tg : decide ((5000 : Int) < (s.size : Int)) = true := by simpa using hs
    go_enter Tryd.func4, Tryd.ntmps4
    go_wp2_with (go_at_call 11; refine (awake01 _ hT).mono ?_; rintro e w1 ⟨rfl, hb1⟩)
    go_ret
    exact ⟨rfl, hb1⟩
  · have tg : decide ((5000 : Int) < (s.size : Int)) = false := by simpa using hs
    have h1 := fun w h => gl_quote s (by omega) w h
    have h2 := fun w => ref_quote s (by omega) w
    go_enter Tryd.func4, Tryd.ntmps4
    go_wp2_with (first | (go_at_call 11; refine (awake01 _ hT).mono ?_; rintro e w1 ⟨rfl, hb1⟩; have hT1 := tabs_below hT hb1) | (go_at_call 14; refine (h1 _ hT1).mono ?_; rintro e w2 ⟨rfl, hb2⟩) | (go_at_call 15; refine (h2 _).mono ?_; rintro e w3 ⟨rfl, hb3⟩))
    go_ret
    exact ⟨by simp, hb1.trans ((hb2.mono hb1.size).trans (hb3.mono (Nat.le_trans hb1.size hb2.size)))⟩
end Go.Proofs.YtjldmlnohkknpaaDoor
