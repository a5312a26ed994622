/- GlyphTexts. -/
import Derived.Test.YtjldmlnohkknpaaDoorAwake01
import Derived.Test.YtjldmlnohkknpaaDoorTabs01
import Derived.Test.YtjldmlnohkknpaaDoorTexts
namespace Go.Proofs.YtjldmlnohkknpaaDoor
open Go.RowKit
set_option maxRecDepth 100000
set_option maxHeartbeats 4000000
theorem glyphTexts.core (s : ByteArray) (_ws : s.size ≤ maxLen) (W : World) (hL : laidMetH Tryd.prog Rows.glyphTextsRow.laid W) :
    Calls Tryd.prog 8 #[.string s] W fun e w' => e = .returned (.bool true) ∧ Below W.heap.size W w' := by
  have hT := tabs_of hL
  clear hL _ws
  by_cases hs : (5000 : Int) < (s.size : Int)
  · have tg : decide ((5000 : Int) < (s.size : Int)) = true := by simpa using hs
    go_enter Tryd.func8, Tryd.ntmps8
    go_wp2_with (go_at_call 11; refine (awake01 _ hT).mono ?_; rintro e w1 ⟨rfl, hb1⟩)
    go_ret
    exact ⟨rfl, hb1⟩
  · have tg : decide ((5000 : Int) < (s.size : Int)) = false := by simpa using hs
    have h1 := fun w h => gl_valid s (by omega) w h
    have h2 := fun w => ref_valid s (by omega) w
    have h3 := fun w h => gl_name s (by omega) w h
    have h4 := fun w => ref_name s (by omega) w
    have h5 := fun w h => gl_note s (by omega) w h
    have h6 := fun w => ref_note s (by omega) w
    have hB := Below.refl W.heap.size W
    clear hs
    generalize validS s = b1 at *
    generalize nameS s = b2 at *
    generalize noteS s = b3 at *
    go_enter Tryd.func8, Tryd.ntmps8
    go_wp2_with (first | (go_at_call 11; refine (awake01 _ (tabs_below hT hB)).mono ?_; rintro e w1 ⟨rfl, hb1⟩; replace hB := hB.trans (hb1.mono hB.size)) | (go_at_call 22; refine (h1 _ (tabs_below hT hB)).mono ?_; rintro e w2 ⟨rfl, hb2⟩; replace hB := hB.trans (hb2.mono hB.size)) | (go_at_call 25; refine (h2 _).mono ?_; rintro e w3 ⟨rfl, rfl⟩) | (go_at_call 21; refine (h3 _ (tabs_below hT hB)).mono ?_; rintro e w2 ⟨rfl, hb2⟩; replace hB := hB.trans (hb2.mono hB.size)) | (go_at_call 26; refine (h4 _).mono ?_; rintro e w3 ⟨rfl, rfl⟩) | (go_at_call 23; refine (h5 _ (tabs_below hT hB)).mono ?_; rintro e w2 ⟨rfl, hb2⟩; replace hB := hB.trans (hb2.mono hB.size)) | (go_at_call 24; refine (h6 _).mono ?_; rintro e w3 ⟨rfl, rfl⟩))
    go_ret
    exact ⟨by simp, hB⟩
end Go.Proofs.YtjldmlnohkknpaaDoor
