/-
  aquatint/aquatintlaw17.TurnPictures returns true for every input; the input reads as it did. Conditions: none beyond the row's own (the listed variables start as the text lays them: tied by the card).
-/
import Derived.Test.YtcdfamllamjpeaaDoorCards
import Derived.Test.YtcdfamllamjpeaaDoorTie
import Derived.Test.YtcdfamllamjpeaaDoorFrame
import Derived.Test.YtcdfamllamjpeaaDoorTurnPictures
import Derived.Test.YtcdfamllamjpeaaDoorOpen
import Derived.Deep.DeepHandedRow
import Derived.Lib.LaidTab
namespace Go.Proofs.YtcdfamllamjpeaaDoor.turnPictures
open Go.ChangeShapes Go.WideShapes Go.ChangeAt Go.RowKit
theorem turnPictures_walk {H : Type} (enc : TypeId × Value → H) (W : World) (base : Nat) (v0 v1 v2 v3 : Value) (d0 d1 d2 d3 : DataW H) (p0 p1 p2 p3 : List MemPlace)
    (hv0 : Value.okWide Tryd.prog W .any base 5 v0)
    (hv1 : Value.okWide Tryd.prog W .any base 5 v1)
    (hv2 : Value.okWide Tryd.prog W .any base 5 v2)
    (hv3 : Value.okWide Tryd.prog W .any base 5 v3)
    (h0 : DataW.Trod enc Tryd.prog W 0 (fun _ => true) true 5 v0 d0 p0)
    (h1 : DataW.Trod enc Tryd.prog W 0 (fun _ => true) true 5 v1 d1 p1)
    (h2 : DataW.Trod enc Tryd.prog W 0 (fun _ => true) true 5 v2 d2 p2)
    (h3 : DataW.Trod enc Tryd.prog W 0 (fun _ => true) true 5 v3 d3 p3)
    (_hlt : ∀ x ∈ p0 ++ (p1 ++ (p2 ++ (p3))), x.block < W.heap.size) (hL : laidMetH Tryd.prog Rows.turnPicturesRow.laid W) :
    Calls Tryd.prog 4 #[v0, v1, v2, v3] W fun e w' => e = .returned (.bool true) ∧ Below W.heap.size W w' := by
  obtain ⟨a0, rfl, rfl, rfl, w0⟩ := open_int Tryd.underlying5 hv0 h0
  obtain ⟨a1, rfl, rfl, rfl, w1⟩ := open_int Tryd.underlying5 hv1 h1
  obtain ⟨a2, rfl, rfl, rfl, w2⟩ := open_int Tryd.underlying5 hv2 h2
  obtain ⟨a3, rfl, rfl, rfl, w3⟩ := open_int Tryd.underlying5 hv3 h3
  exact turnPictures.core a0 a1 a2 a3 w0 w1 w2 w3 W hL
theorem own : ownKnob Tryd.prog.godebug = none := by kernel_rfl
theorem laidOut : laidOutB Tryd.prog = true := by kernel_rfl
theorem readable : (Tryd.f4.params.toList.all fun t => Tryd.prog.readableRec t && decide (t < Tryd.prog.types.size)) = true := by kernel_rfl
theorem contract (H : Type) (enc : TypeId × Value → H) (W : World) (base : Nat) (args : Array Value) (ds gs : List (DataW H)) (before : List MemPlace)
    (hval : ∀ (j : Nat) t v, Tryd.f4.params[j]? = some t → args[j]? = some v → Value.okWide Tryd.prog W .any base t v)
    (hW : DataW.Whole enc Tryd.prog Tryd.f4.params.toList Rows.turnPicturesSpec.vars false W args.toList ds gs before) (hL : laidMetH Tryd.prog Rows.turnPicturesRow.laid W) :
    Calls Tryd.prog 4 args W fun e W' => ∃ v, e = .returned v ∧ Rows.turnPicturesSpec.post enc Tryd.prog Tryd.f4 false true false false W args v W' := by
  have hW' := hW
  have hlt := hW.lt
  obtain ⟨p, q, hA0, hV, rfl, hfz, hnd⟩ := hW
  have hA : DataW.TrodAll enc Tryd.prog W 0 (fun _ => true) true Tryd.f4.params.toList args.toList ds p := hA0
  rw [Tryd.params4] at hA hval
  obtain ⟨v0, vs0, d0, ds0, p0, q0, hargs, rfl, rfl, h0, r0⟩ := trodAll_cons hA
  obtain ⟨v1, vs1, d1, ds1, p1, q1, rfl, rfl, rfl, h1, r1⟩ := trodAll_cons r0
  obtain ⟨v2, vs2, d2, ds2, p2, q2, rfl, rfl, rfl, h2, r2⟩ := trodAll_cons r1
  obtain ⟨v3, vs3, d3, ds3, p3, q3, rfl, rfl, rfl, h3, r3⟩ := trodAll_cons r2
  obtain ⟨rfl, rfl, rfl⟩ := trodAll_nil r3
  obtain rfl : args = #[v0, v1, v2, v3] := by cases args; simp_all
  obtain ⟨rfl, rfl⟩ := trodVars_none hV
  clear hA0
  refine (turnPictures_walk enc W base v0 v1 v2 v3 d0 d1 d2 d3 p0 p1 p2 p3 (hval 0 5 v0 rfl rfl) (hval 1 5 v1 rfl rfl) (hval 2 5 v2 rfl rfl) (hval 3 5 v3 rfl rfl) h0 h1 h2 h3 (fun x hx => hlt x (by simpa using hx)) hL).mono fun e W' ⟨he, hb⟩ => ?_
  subst he
  exact ⟨_, rfl, law_post (tb := 4) rfl Tryd.underlying4 rfl laidOut readable hW' ⟨rfl, rfl, rfl⟩ hb⟩
noncomputable def start : Array Value := #[.int .u8 0, .int .u8 0, .int .u8 0, .int .u8 0]
noncomputable def laidWorld (os : Os) : World :=
  { World.holding Tryd.prog os ⟨#[], #[], []⟩ with heap := ((World.holding Tryd.prog os ⟨#[], #[], []⟩).heap.modify 0 fun
      | .cells _ t frozen => .cells #[.string ⟨#[110, 111, 110, 101]⟩, .string ⟨#[109, 105, 114, 114, 111, 114]⟩, .string ⟨#[102, 108, 105, 112]⟩, .string ⟨#[104, 97, 108, 102]⟩, .string ⟨#[115, 119, 97, 112]⟩, .string ⟨#[114, 105, 103, 104, 116]⟩, .string ⟨#[108, 101, 102, 116]⟩, .string ⟨#[97, 110, 116, 105]⟩] t frozen
      | o => o) }
theorem laid_met (os : Os) : laidMet Tryd.prog Rows.turnPicturesRow.laid ((laidWorld os).forCall (fun _ _ => 0) ⟨#[], start, []⟩).memory :=
  laidMet_of_run' 8 (by kernel_rfl) (by kernel_rfl)
theorem reads (os : Os) {H : Type} (enc : TypeId × Value → H) : ∃ places, DataW.whole enc Tryd.prog ((laidWorld os).forCall (fun _ _ => 0) ⟨#[], start, []⟩).memory Tryd.f4.params.toList Rows.turnPicturesSpec.vars false start.toList 8 = some ([.lit (.int .u8 0), .lit (.int .u8 0), .lit (.int .u8 0), .lit (.int .u8 0)], [], places) :=
  ⟨[], by kernel_rfl⟩
set_option maxRecDepth 100000 in
theorem lifted (os : Os) (started : os.Started) (H : Type) (enc : TypeId × Value → H) (F : Stop.Interp) :
    ReturnsInHanded {} Tryd.checked os 4 .any ((OpenSpec.ofChange Rows.turnPicturesSpec).preRow enc Tryd.prog Tryd.f4 Rows.turnPicturesRow.domain false Rows.turnPicturesRow.laid) (((OpenSpec.ofChange Rows.turnPicturesSpec).at F).post enc Tryd.prog Tryd.f4 false true false false) := by
  obtain ⟨places, hx⟩ := reads os enc
  refine returnsInHanded_of_row (C := Tryd.checked) (s := OpenSpec.ofChange Rows.turnPicturesSpec) own started (by kernel_rfl) Tryd.func4
    (witness_row_at (enc := enc) (C := Tryd.checked) false (laidWorld os) start rfl (by kernel_rfl) (by kernel_rfl) (by kernel_rfl)
      (OpenSpec.preRow_of_cond 8 hx (by kernel_rfl) (fun k hk => by cases hk) (by kernel_rfl) (laid_met os))) ?_
  intro W base args ds gs before hval hW _ _ _ hL _ _
  exact contract H enc W base args ds gs before hval hW hL
theorem said : Rows.TurnPicturesSaid :=
  OpenClaim.holds_of_cond 4 Tryd.f4 rfl rfl rfl rfl rfl rfl rfl ⟨rfl, rfl, rfl, rfl, rfl⟩ rfl rfl rfl rfl rfl (by kernel_rfl) Tryd.func4 (by kernel_rfl)
    (of_decide_eq_true (by kernel_rfl)) (by unfold Func.isWrapper; first | (rw [if_pos (by decide +kernel)]; kernel_rfl) | (rw [if_neg (by decide +kernel)]; exact ⟨rfl, rfl⟩))
    (fun os started H enc _ F => by rw [OpenClaim.pre_eq_preRow]; exact lifted os started H enc F)
theorem plain (f : FuncId) (fn : Func) (hf : Tryd.pinned.checked.prog.funcNamed "aquatint/aquatintlaw17.TurnPictures" = some f) (hfn : Tryd.pinned.checked.prog.funcs[f]? = some fn) :
    false = Tryd.pinned.checked.prog.looks [] ∧ ∀ (j : Nat) t, fn.params[j]? = some t → Tryd.pinned.checked.prog.wantsStandIn t = false := by
  obtain rfl : f = 4 := Option.some.inj ((show Tryd.prog.funcNamed "aquatint/aquatintlaw17.TurnPictures" = some 4 by kernel_rfl).symm.trans hf) |>.symm
  obtain rfl : fn = Tryd.f4 := (Option.some.inj (Tryd.func4.symm.trans hfn)).symm
  refine ⟨by kernel_rfl, fun j t ht => ?_⟩
  rw [Tryd.params4] at ht
  have hm := Array.mem_of_getElem? ht
  simp at hm
  subst hm
  exact (show Tryd.prog.wantsStandIn 5 = false by kernel_rfl)
theorem card : Rows.TurnPicturesCardSaid :=
  Claim7.holds_tied_plain_at .later [] _ _ _ _ said (fun _ h => by cases h) (by kernel_rfl) (fun _ h => by cases h) turnPictures_row_tie rfl ⟨rfl, rfl⟩ (by kernel_rfl) rfl plain (by kernel_rfl)
#print axioms card
end Go.Proofs.YtcdfamllamjpeaaDoor.turnPictures
