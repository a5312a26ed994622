/- Whence a place comes by two turns is whence it comes by the one that they are. -/
import Derived.Test.YtcdfamllamjpeaaDoorTurnName
import Derived.Test.YtcdfamllamjpeaaDoorRows
import Derived.ProofKit
import Derived.WalkSmall
import Derived.RowKit3
import Derived.OpenShut
import Derived.Deep.QuietTactic
namespace Go.Proofs.YtcdfamllamjpeaaDoor
open Go.RowKit Go.ChangeShapes

namespace Tu
theorem from_lo (k w h r c : Int) (h0 : 0 ≤ k) (h8 : k < 8) (hr : 0 ≤ r) (hc : 0 ≤ c) (hr' : r < (sides k w h).2) (hc' : c < (sides k w h).1) :
    0 ≤ (from_ k w h r c).1 ∧ (from_ k w h r c).1 < h ∧ 0 ≤ (from_ k w h r c).2 ∧ (from_ k w h r c).2 < w := by
  unfold sides at hr' hc'; unfold from_
  rw [if_pos ⟨h0, h8⟩] at *
  by_cases h4 : 4 ≤ k <;> simp only [h4, if_true, if_false] at * <;> refine ⟨?_, ?_, ?_, ?_⟩ <;> split <;> omega
theorem then8 (a b : Int) (a0 : 0 ≤ a) (a8 : a < 8) (b0 : 0 ≤ b) (b8 : b < 8) : 0 ≤ then_ a b ∧ then_ a b < 8 := by
  rcases eight a0 a8 with rfl | rfl | rfl | rfl | rfl | rfl | rfl | rfl <;> rcases eight b0 b8 with rfl | rfl | rfl | rfl | rfl | rfl | rfl | rfl <;> decide +kernel
theorem places (i j w h r c : Int) (i0 : 0 ≤ i) (i8 : i < 8) (j0 : 0 ≤ j) (j8 : j < 8) :
    from_ i w h (from_ j (sides i w h).1 (sides i w h).2 r c).1 (from_ j (sides i w h).1 (sides i w h).2 r c).2 = from_ (then_ i j) w h r c := by
  have ht : ∀ a b t, then_ a b = t → then_ a b = t := fun _ _ _ h => h
  rcases eight i0 i8 with rfl | rfl | rfl | rfl | rfl | rfl | rfl | rfl <;> rcases eight j0 j8 with rfl | rfl | rfl | rfl | rfl | rfl | rfl | rfl <;>
    (first
      | (rw [show then_ _ _ = 0 by decide +kernel]; simp [from_, sides]; try omega)
      | (rw [show then_ _ _ = 1 by decide +kernel]; simp [from_, sides]; try omega)
      | (rw [show then_ _ _ = 2 by decide +kernel]; simp [from_, sides]; try omega)
      | (rw [show then_ _ _ = 3 by decide +kernel]; simp [from_, sides]; try omega)
      | (rw [show then_ _ _ = 4 by decide +kernel]; simp [from_, sides]; try omega)
      | (rw [show then_ _ _ = 5 by decide +kernel]; simp [from_, sides]; try omega)
      | (rw [show then_ _ _ = 6 by decide +kernel]; simp [from_, sides]; try omega)
      | (rw [show then_ _ _ = 7 by decide +kernel]; simp [from_, sides]; try omega))
end Tu
namespace turnPlaces
theorem sides_bd (k a b : Int) (h0 : 0 ≤ k) (h8 : k < 8) (ha : 1 ≤ a) (ha' : a ≤ 20) (hb : 1 ≤ b) (hb' : b ≤ 20) :
    1 ≤ (Tu.sides k a b).1 ∧ (Tu.sides k a b).1 ≤ 20 ∧ 1 ≤ (Tu.sides k a b).2 ∧ (Tu.sides k a b).2 ≤ 20 := by
  unfold Tu.sides; rw [if_pos ⟨h0, h8⟩]; split <;> refine ⟨?_, ?_, ?_, ?_⟩ <;> assumption
set_option maxHeartbeats 1000000 in
theorem walk (a0 : Int) (a1 : Int) (a2 : Int) (a3 : Int) (a4 : Int) (a5 : Int) (w0 : (Lit.int .u8 a0).wf = true) (w1 : (Lit.int .u8 a1).wf = true) (w2 : (Lit.int .u8 a2).wf = true) (w3 : (Lit.int .u8 a3).wf = true) (w4 : (Lit.int .u8 a4).wf = true) (w5 : (Lit.int .u8 a5).wf = true) (w : World) (hw : Tu.Named w) :
    Calls Tryd.prog 3 #[.int .u8 a0, .int .u8 a1, .int .u8 a2, .int .u8 a3, .int .u8 a4, .int .u8 a5] w fun e w' => e = .returned (.bool true) ∧ Below w.heap.size w w' := by
  obtain ⟨b0, b0'⟩ := bounds_u8 w0
  obtain ⟨b1, b1'⟩ := bounds_u8 w1
  obtain ⟨b2, b2'⟩ := bounds_u8 w2
  obtain ⟨b3, b3'⟩ := bounds_u8 w3
  obtain ⟨b4, b4'⟩ := bounds_u8 w4
  obtain ⟨b5, b5'⟩ := bounds_u8 w5
  clear w0 w1 w2 w3 w4 w5
  have i0 : 0 ≤ a0 % 8 := by omega
  have i8 : a0 % 8 < 8 := by omega
  have j0 : 0 ≤ a1 % 8 := by omega
  have j8 : a1 % 8 < 8 := by omega
  have p0 : 1 ≤ 1 + a2 % 20 := by omega
  have p1 : 1 + a2 % 20 ≤ 20 := by omega
  have q0 : 1 ≤ 1 + a3 % 20 := by omega
  have q1 : 1 + a3 % 20 ≤ 20 := by omega
  obtain ⟨u0, u1, v0, v1⟩ := sides_bd _ _ _ i0 i8 p0 p1 q0 q1
  obtain ⟨x0, x1, y0, y1⟩ := sides_bd _ _ _ j0 j8 u0 u1 v0 v1
  have r0 : 0 ≤ a4 % (Tu.sides (a1 % 8) (Tu.sides (a0 % 8) (1 + a2 % 20) (1 + a3 % 20)).1 (Tu.sides (a0 % 8) (1 + a2 % 20) (1 + a3 % 20)).2).2 := Int.emod_nonneg _ (by omega)
  have r1 := Int.emod_lt_of_pos a4 (b := (Tu.sides (a1 % 8) (Tu.sides (a0 % 8) (1 + a2 % 20) (1 + a3 % 20)).1 (Tu.sides (a0 % 8) (1 + a2 % 20) (1 + a3 % 20)).2).2) (by omega)
  have c0 : 0 ≤ a5 % (Tu.sides (a1 % 8) (Tu.sides (a0 % 8) (1 + a2 % 20) (1 + a3 % 20)).1 (Tu.sides (a0 % 8) (1 + a2 % 20) (1 + a3 % 20)).2).1 := Int.emod_nonneg _ (by omega)
  have c1 := Int.emod_lt_of_pos a5 (b := (Tu.sides (a1 % 8) (Tu.sides (a0 % 8) (1 + a2 % 20) (1 + a3 % 20)).1 (Tu.sides (a0 % 8) (1 + a2 % 20) (1 + a3 % 20)).2).1) (by omega)
  have hp := Tu.places (a0 % 8) (a1 % 8) (1 + a2 % 20) (1 + a3 % 20) (a4 % (Tu.sides (a1 % 8) (Tu.sides (a0 % 8) (1 + a2 % 20) (1 + a3 % 20)).1 (Tu.sides (a0 % 8) (1 + a2 % 20) (1 + a3 % 20)).2).2) (a5 % (Tu.sides (a1 % 8) (Tu.sides (a0 % 8) (1 + a2 % 20) (1 + a3 % 20)).1 (Tu.sides (a0 % 8) (1 + a2 % 20) (1 + a3 % 20)).2).1) i0 i8 j0 j8
  have f1 := Tu.from_lo (a1 % 8) _ _ _ _ j0 j8 r0 c0 r1 c1
  have f2 := Tu.from_lo (a0 % 8) _ _ _ _ i0 i8 f1.1 f1.2.2.1 f1.2.1 f1.2.2.2
  rw [hp] at f2
  have HP := Lib.hid hp
  clear hp
  have t8 := Tu.then8 _ _ i0 i8 j0 j8
  obtain ⟨f10, f11, f12, f13⟩ := f1
  obtain ⟨f20, f21, f22, f23⟩ := f2
  obtain ⟨t80, t81⟩ := t8
  go_enter Tryd.func3, Tryd.ntmps3
  go_wp2_with fail
  refine (sides_any _ _ _ _).mono ?_
  rintro e w' ⟨rfl, rfl⟩
  go_wp2_with fail
  refine (sides_any _ _ _ _).mono ?_
  rintro e w' ⟨rfl, rfl⟩
  generalize Tu.sides (a1 % 8) (Tu.sides (a0 % 8) (1 + a2 % 20) (1 + a3 % 20)).1 (Tu.sides (a0 % 8) (1 + a2 % 20) (1 + a3 % 20)).2 = X at *
  generalize Tu.sides (a0 % 8) (1 + a2 % 20) (1 + a3 % 20) = U at *
  obtain ⟨u, v⟩ := U
  obtain ⟨x, y⟩ := X
  simp only [] at *
  go_wp2_with fail
  go_quiet (fail)
  go_wp2_with fail
  refine (from_yes _ _ _ _ _ (by assumption) (by assumption) (by omega) (by omega) (by omega) (by omega) (by omega) (by omega) (by omega) (by omega) _).mono ?_
  rintro e w' ⟨rfl, rfl⟩
  go_wp2_with fail
  refine (from_yes _ _ _ _ _ (by assumption) (by assumption) (by omega) (by omega) (by omega) (by omega) (by omega) (by omega) (by omega) (by omega) _).mono ?_
  rintro e w' ⟨rfl, rfl⟩
  rw [HP.out]
  go_wp2_with fail
  refine (then_yes _ _ (by assumption) (by assumption) (by assumption) (by assumption) _).mono ?_
  rintro e w' ⟨rfl, rfl⟩
  go_wp2_with fail
  refine (from_yes _ _ _ _ _ (by assumption) (by assumption) (by omega) (by omega) (by omega) (by omega) (by omega) (by omega) (by omega) (by omega) _).mono ?_
  rintro e w' ⟨rfl, rfl⟩
  go_wp2_with fail
  refine (awake17 _ (hw.drewN _)).mono ?_
  rintro e w' ⟨rfl, rfl⟩
  go_wp2_with fail
  go_ret
  refine ⟨rfl, ?_⟩
  repeat (first | exact Below.refl _ _ | apply below_drewN | apply Below.drew)
end turnPlaces

theorem turnPlaces_walk {H : Type} (enc : TypeId × Value → H) (W : World) (base : Nat) (v0 v1 v2 v3 v4 v5 : Value) (d0 d1 d2 d3 d4 d5 : DataW H) (p0 p1 p2 p3 p4 p5 : List MemPlace)
    (hv0 : Value.okWide Tryd.prog W .any base 5 v0) (hv1 : Value.okWide Tryd.prog W .any base 5 v1) (hv2 : Value.okWide Tryd.prog W .any base 5 v2)
    (hv3 : Value.okWide Tryd.prog W .any base 5 v3) (hv4 : Value.okWide Tryd.prog W .any base 5 v4) (hv5 : Value.okWide Tryd.prog W .any base 5 v5)
    (h0 : DataW.Trod enc Tryd.prog W 0 (fun _ => true) true 5 v0 d0 p0) (h1 : DataW.Trod enc Tryd.prog W 0 (fun _ => true) true 5 v1 d1 p1)
    (h2 : DataW.Trod enc Tryd.prog W 0 (fun _ => true) true 5 v2 d2 p2) (h3 : DataW.Trod enc Tryd.prog W 0 (fun _ => true) true 5 v3 d3 p3)
    (h4 : DataW.Trod enc Tryd.prog W 0 (fun _ => true) true 5 v4 d4 p4) (h5 : DataW.Trod enc Tryd.prog W 0 (fun _ => true) true 5 v5 d5 p5)
    (_hlt : ∀ x ∈ p0 ++ (p1 ++ (p2 ++ (p3 ++ (p4 ++ p5)))), x.block < W.heap.size) (hL : laidMetH Tryd.prog Rows.turnPlacesRow.laid W) :
    Calls Tryd.prog 3 #[v0, v1, v2, v3, v4, v5] W fun e w' => e = .returned (.bool true) ∧ Below W.heap.size W w' := by
  obtain ⟨a0, rfl, rfl, rfl, w0⟩ := open_int Tryd.underlying5 hv0 h0
  obtain ⟨a1, rfl, rfl, rfl, w1⟩ := open_int Tryd.underlying5 hv1 h1
  obtain ⟨a2, rfl, rfl, rfl, w2⟩ := open_int Tryd.underlying5 hv2 h2
  obtain ⟨a3, rfl, rfl, rfl, w3⟩ := open_int Tryd.underlying5 hv3 h3
  obtain ⟨a4, rfl, rfl, rfl, w4⟩ := open_int Tryd.underlying5 hv4 h4
  obtain ⟨a5, rfl, rfl, rfl, w5⟩ := open_int Tryd.underlying5 hv5 h5
  exact turnPlaces.walk a0 a1 a2 a3 a4 a5 w0 w1 w2 w3 w4 w5 W (Tu.named_of hL)
end Go.Proofs.YtcdfamllamjpeaaDoor
