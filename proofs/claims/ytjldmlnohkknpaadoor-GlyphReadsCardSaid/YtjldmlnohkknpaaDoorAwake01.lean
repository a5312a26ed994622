/- The example of the statements on texts. -/
import Derived.Test.YtjldmlnohkknpaaDoorQuote3
import Derived.Test.YtjldmlnohkknpaaDoorGlyph3
namespace Go.Proofs.YtjldmlnohkknpaaDoor
open Go.RowKit
set_option maxRecDepth 100000
set_option maxHeartbeats 4000000
theorem ex_quote : quoteL ⟨#[195, 169, 92, 255]⟩ = [34, 92, 117, 123, 101, 57, 125, 92, 92, 92, 120, 102, 102, 34] := by decide +kernel
theorem ex_cut : cutOf ⟨#[195, 169]⟩ 1 = ⟨#[]⟩ := by decide +kernel
theorem ex_same : foldL ⟨#[195, 137, 97]⟩ = foldL ⟨#[195, 169, 65]⟩ := by decide +kernel
theorem awake01 (w : World) (hT : Tabs w) : Calls Tryd.prog 11 #[] w fun e w' => e = .returned (.bool true) ∧ Below w.heap.size w w' := by
  have hq := gl_quote ⟨#[195, 169, 92, 255]⟩ (by decide) w hT
  rw [ex_quote] at hq
  have hc := gl_cut ⟨#[195, 169]⟩ 1 (by decide)
  rw [ex_cut] at hc
  have hs := fun W h => gl_same ⟨#[195, 137, 97]⟩ ⟨#[195, 169, 65]⟩ (by decide) (by decide) W h
  rw [decide_eq_true ex_same] at hs
  go_enter Tryd.func11, Tryd.ntmps11
  go_wp2_with (first | (go_at_call 14; refine hq.mono ?_; rintro e w1 ⟨rfl, hb1⟩; have hT1 := tabs_below hT hb1) | (go_at_call 16; refine (hc _).mono ?_; rintro e w2 ⟨rfl, hb2⟩; have hT2 := tabs_below hT1 hb2) | (go_at_call 12; refine (hs _ hT2).mono ?_; rintro e w3 ⟨rfl, hb3⟩))
  go_ret
  exact ⟨rfl, hb1.trans ((hb2.mono hb1.size).trans (hb3.mono (Nat.le_trans hb1.size hb2.size)))⟩
end Go.Proofs.YtjldmlnohkknpaaDoor
