/- GlyphParts. -/
import Derived.Test.YtjldmlnohkknpaaDoorAwake01
import Derived.Test.YtjldmlnohkknpaaDoorTabs01
namespace Go.Proofs.YtjldmlnohkknpaaDoor
open Go.RowKit
set_option maxRecDepth 100000
set_option maxHeartbeats 4000000
theorem glyphParts.core (s : ByteArray) (n : Int) (_ws : s.size ≤ maxLen) (_wn : (Lit.int .i64 n).wf = true) (W : World) (hL : laidMetH Tryd.prog Rows.glyphPartsRow.laid W) :
    Calls Tryd.prog 6 #[.string s, .int .i64 n] W fun e w' => e = .returned (.bool true) ∧ Below W.heap.size W w' := by
  have hT := tabs_of hL
  clear hL _ws _wn
  by_cases hs : (5000 : Int) < (s.size : Int)
  · have tg : decide ((5000 : Int) < (s.size : Int)) = true := by simpa using hs
    go_enter Tryd.func6, Tryd.ntmps6
    go_wp2_with (go_at_call 11; refine (awake01 _ hT).mono ?_; rintro e w1 ⟨rfl, hb1⟩)
    go_ret
    exact ⟨rfl, hb1⟩
  · have tg : decide ((5000 : Int) < (s.size : Int)) = false := by simpa using hs
    have h1 := fun w h => gl_foldT s (by omega) w h
    have h2 := fun w => ref_foldT s (by omega) w
    have h3 := fun w => gl_count s (by omega) w
    have h4 := fun w => ref_count s (by omega) w
    have h5 := fun w => gl_cut s n (by omega) w
    have h6 := fun w => ref_cut s n (by omega) w
    have hB := Below.refl W.heap.size W
    clear hs
    go_enter Tryd.func6, Tryd.ntmps6
    go_wp2_with (first | (go_at_call 11; refine (awake01 _ hT).mono ?_; rintro e w1 ⟨rfl, hb1⟩; have hT1 := tabs_below hT hb1; replace hB := hB.trans (hb1.mono hB.size)) | (go_at_call 18; refine (h1 _ hT1).mono ?_; rintro e w2 ⟨rfl, hb2⟩; replace hB := hB.trans (hb2.mono hB.size)) | (go_at_call 13; refine (h2 _).mono ?_; rintro e w3 ⟨rfl, hb3⟩; replace hB := hB.trans (hb3.mono hB.size)) | (go_at_call 17; refine (h3 _).mono ?_; rintro e w4 ⟨rfl, hb4⟩; replace hB := hB.trans (hb4.mono hB.size)) | (go_at_call 19; refine (h4 _).mono ?_; rintro e w5 ⟨rfl, rfl⟩) | (go_at_call 16; refine (h5 _).mono ?_; rintro e w6 ⟨rfl, hb6⟩; replace hB := hB.trans (hb6.mono hB.size)) | (go_at_call 20; refine (h6 _).mono ?_; rintro e w7 ⟨rfl, rfl⟩))
    go_ret
    exact ⟨by simp, hB⟩
end Go.Proofs.YtjldmlnohkknpaaDoor
