/- GlyphReads: what is quoted at any text's beginning is what the document says. -/
import Derived.Test.YtjldmlnohkknpaaDoorAwake01
import Derived.Test.YtjldmlnohkknpaaDoorTabs01
import Derived.Test.YtjldmlnohkknpaaDoorUnqRef
namespace Go.Proofs.YtjldmlnohkknpaaDoor
open Go.RowKit
set_option maxRecDepth 100000
set_option maxHeartbeats 4000000
theorem glyphReads.core (s : ByteArray) (_ws : s.size ≤ maxLen) (W : World) (hL : laidMetH Tryd.prog Rows.glyphReadsRow.laid W) :
    Calls Tryd.prog 9 #[.string s] W fun e w' => e = .returned (.bool true) ∧ Below W.heap.size W w' := by
  have hT := tabs_of hL
  clear hL _ws
  by_cases hs : (5000 : Int) < (s.size : Int)
  · have tg : decide ((5000 : Int) < (s.size : Int)) = true := by simpa using hs
    go_enter Tryd.func9, Tryd.ntmps9
    go_wp2_with (go_at_call 11; refine (awake01 _ hT).mono ?_; rintro e w1 ⟨rfl, hb1⟩)
    go_ret
    exact ⟨rfl, hb1⟩
  · have tg : decide ((5000 : Int) < (s.size : Int)) = false := by simpa using hs
    have h1 := fun w => gl_unquote s (by omega) w
    have h2 := fun w => ref_unquote s (by omega) w
    have hB := Below.refl W.heap.size W
    clear hs
    generalize (unquoteL s).2.1 = n at *
    generalize (unquoteL s).2.2 = k at *
    generalize (unquoteL s).1 = l at *
    generalize (⟨l.toArray⟩ : ByteArray) = t at *
    go_enter Tryd.func9, Tryd.ntmps9
    go_wp2_with (first | (go_at_call 11; refine (awake01 _ (tabs_below hT hB)).mono ?_; rintro e w1 ⟨rfl, hb1⟩; replace hB := hB.trans (hb1.mono hB.size)) | (go_at_call 27; refine (h1 _).mono ?_; rintro e w2 ⟨rfl, hb2⟩; replace hB := hB.trans (hb2.mono hB.size)) | (go_at_call 28; refine (h2 _).mono ?_; rintro e w3 ⟨rfl, hb3⟩; replace hB := hB.trans (hb3.mono hB.size)))
    go_ret
    exact ⟨by simp, hB⟩
end Go.Proofs.YtjldmlnohkknpaaDoor
