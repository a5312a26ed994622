/- A turn mirrors the width just if the left upper place comes from the right, the height just if from below; what is no turn answers nothing. -/
import Derived.Test.YtcdfamllamjpeaaDoorTurnName
import Derived.Test.YtcdfamllamjpeaaDoorRows
namespace Go.Proofs.YtcdfamllamjpeaaDoor
open Go.RowKit
namespace turnMirrors
theorem core_no (k : Int) (h : k < 0 ∨ 8 ≤ k) (w : World) (hw : Tu.Named w) :
    Calls Tryd.prog 5 #[.int .i64 k] w fun e w' => e = .returned (.bool true) ∧ Below w.heap.size w w' := by
  have H : Tu.sides k 3 2 = (0, 0) := by unfold Tu.sides; rw [if_neg (by omega)]
  have HH := Lib.hid H
  clear H
  go_enter Tryd.func5, Tryd.ntmps5
  go_wp2_with fail
  refine (mirrors_no k h _).mono ?_
  rintro e w' ⟨rfl, rfl⟩
  go_wp2_with fail
  refine (right_no k h _).mono ?_
  rintro e w' ⟨rfl, rfl⟩
  go_wp2_with fail
  refine (sides_any _ _ _ _).mono ?_
  rintro e w' ⟨rfl, rfl⟩
  rw [HH.out]
  go_wp2_with fail
  refine (from_no k _ _ _ _ h _).mono ?_
  rintro e w' ⟨rfl, rfl⟩
  go_wp2_with fail
  refine (then_no k _ h _).mono ?_
  rintro e w' ⟨rfl, rfl⟩
  go_wp2_with fail
  refine (back_no k h _).mono ?_
  rintro e w' ⟨rfl, rfl⟩
  go_wp2_with fail
  refine (awake17 _ hw).mono ?_
  rintro e w' ⟨rfl, rfl⟩
  go_wp2_with fail
  refine (name_no k h _).mono ?_
  rintro e w' ⟨rfl, rfl⟩
  go_wp2_with fail
  go_ret
  exact ⟨rfl, Below.refl _ _⟩
theorem core_yes (k : Int) (h0 : 0 ≤ k) (h8 : k < 8) (w : World) (hw : Tu.Named w) :
    Calls Tryd.prog 5 #[.int .i64 k] w fun e w' => e = .returned (.bool true) ∧ Below w.heap.size w w' := by
  have h1 : (Tu.mirA k == decide (0 < (Tu.from_ k 3 2 0 0).2)) = true := by
    rcases eight h0 h8 with rfl | rfl | rfl | rfl | rfl | rfl | rfl | rfl <;> decide +kernel
  have h2 : (Tu.mirD k == decide (0 < (Tu.from_ k 3 2 0 0).1)) = true := by
    rcases eight h0 h8 with rfl | rfl | rfl | rfl | rfl | rfl | rfl | rfl <;> decide +kernel
  go_enter Tryd.func5, Tryd.ntmps5
  go_wp2_with fail
  refine (mirrors_yes k h0 h8 _).mono ?_
  rintro e w' ⟨rfl, rfl⟩
  go_wp2_with fail
  refine (right_yes k h0 h8 _).mono ?_
  rintro e w' ⟨rfl, rfl⟩
  go_wp2_with fail
  refine (from_yes k _ _ _ _ h0 h8 (by omega) (by omega) (by omega) (by omega) (by omega) (by omega) (by omega) (by omega) _).mono ?_
  rintro e w' ⟨rfl, rfl⟩
  go_wp2_with fail
  refine (awake17 _ hw).mono ?_
  rintro e w' ⟨rfl, rfl⟩
  go_wp2_with fail
  go_ret
  exact ⟨rfl, Below.refl _ _⟩
end turnMirrors
theorem turnMirrors.core (k : Int) (_wk : (Lit.int .i64 k).wf = true) (W : World) (hL : laidMetH Tryd.prog Rows.turnMirrorsRow.laid W) :
    Calls Tryd.prog 5 #[.int .i64 k] W fun e w' => e = .returned (.bool true) ∧ Below W.heap.size W w' := by
  by_cases h : 0 ≤ k ∧ k < 8
  · exact turnMirrors.core_yes k h.1 h.2 W (Tu.named_of hL)
  · exact turnMirrors.core_no k (by omega) W (Tu.named_of hL)
end Go.Proofs.YtcdfamllamjpeaaDoor
