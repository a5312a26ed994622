/- Package turn's names: what Name returns where the variable 'names' reads as the text lays it; the statements' own example holds. -/
import Derived.Test.YtcdfamllamjpeaaDoorTurnA
import Derived.RowKit3
import Derived.ProofKit
import Derived.OpenShut
import Derived.Lib.LaidTab
namespace Go.Proofs.YtcdfamllamjpeaaDoor
open Go.RowKit

namespace Tu
def nameL : Nat → List UInt8
  | 0 => [110, 111, 110, 101] | 1 => [109, 105, 114, 114, 111, 114] | 2 => [102, 108, 105, 112] | 3 => [104, 97, 108, 102]
  | 4 => [115, 119, 97, 112] | 5 => [114, 105, 103, 104, 116] | 6 => [108, 101, 102, 116] | 7 => [97, 110, 116, 105] | _ => []
def name (i : Nat) : ByteArray := ⟨(nameL i).toArray⟩
/-- The variable's cells hold the names. -/
def Named (w : World) : Prop := ∀ i, i < 8 → w.cell? ⟨0, i, none⟩ = some (.string (name i))
theorem Named.drewN {w : World} (h : Named w) (n : Nat) : Named (w.drewN n) := fun i hi => by simpa [go_sem] using h i hi
/-- What a row's list gives of an array of strings that stands first on it. -/
theorem strs_of_head {P : Program} {W : World} {name : String} {bss : List (List UInt8)} {rest : List (String × DataW Unit)} {g : Nat} {t e : TypeId} {n : Nat}
    (hg : P.globalNamed name = some g) (hty : (P.globals[g]?).map (·.type) = some t) (ht : P.underlying t = some (.array n e)) (he : P.underlying e = some .string) (hce : P.cellsOf e = 1) (hct : P.cellsOf t = n)
    (h : laidMet P ((name, .agg (bss.map fun b => .lit (.string b))) :: rest) W) (i : Nat) (hi : i < bss.length) : W.cell? ⟨g, i, none⟩ = some (.string ⟨(bss.getD i []).toArray⟩) := by
  obtain ⟨ps, ⟨g', t', cs, fuel, p, q, hg', ht', hvar, hd, _, _⟩, _⟩ := h
  obtain rfl := Option.some.inj (hg.symm.trans hg')
  obtain rfl := Option.some.inj (hty.symm.trans ht')
  have hc := World.var?_cell hg hvar i
  obtain ⟨xs, m, rfl, hx, hl, hxl, hel⟩ := DataW.trod_array ht hd
  simp only [Prod.mk.injEq, DataW.agg.injEq] at hx
  obtain ⟨hx, rfl⟩ := hx
  have hlen : bss.length = xs.length := by simpa using congrArg List.length hx
  have hin : i < n := by omega
  have h1 := hel i hin
  rw [hce, Nat.mul_one] at h1
  have hix : i < xs.length := by omega
  rw [List.getElem?_eq_getElem hix] at h1
  obtain ⟨s, hs1, hs2, hs3⟩ := DataW.trod_string he h1
  have hmap : (bss.map fun b => (DataW.lit (.string b) : DataW Unit))[i]? = (xs.map (·.1))[i]? := by rw [hx]
  simp only [List.getElem?_map, List.getElem?_eq_getElem hix, List.getElem?_eq_getElem hi, Option.map_some, hs2, Option.some.injEq, DataW.lit.injEq, Lit.string.injEq] at hmap
  rw [hc]
  have hcl : i < cs.toList.length := by rw [hl, hct]; exact hin
  have hcs : cs.toList[i]? = some (.string s) := by
    have : (cs.toList.drop i).take 1 = [.string s] := hs1
    have h2 : ((cs.toList.drop i).take 1)[0]? = some (.string s) := by rw [this]; rfl
    simpa [List.getElem?_take, List.getElem?_drop] using h2
  rw [Array.getElem?_toList] at hcs
  rw [hcs, List.getD_eq_getElem?_getD, List.getElem?_eq_getElem hi]
  simp [hmap]
theorem gNames : Tryd.prog.globalNamed "aquatint/turn.names" = some 0 := by kernel_rfl
theorem gNamesT : (Tryd.prog.globals[0]?).map (·.type) = some 58 := by kernel_rfl
theorem cellsStr : Tryd.prog.cellsOf 9 = 1 := by kernel_rfl
theorem cells8Str : Tryd.prog.cellsOf 58 = 8 := by kernel_rfl
theorem named_of {rest : List (String × DataW Unit)} {W : World} (h : laidMet Tryd.prog (("aquatint/turn.names", .agg ([nameL 0, nameL 1, nameL 2, nameL 3, nameL 4, nameL 5, nameL 6, nameL 7].map fun b => .lit (.string b))) :: rest) W) : Named W := by
  intro i hi
  rw [strs_of_head gNames gNamesT Tryd.underlying58 Tryd.underlying9 cellsStr cells8Str h i hi]
  have : i = 0 ∨ i = 1 ∨ i = 2 ∨ i = 3 ∨ i = 4 ∨ i = 5 ∨ i = 6 ∨ i = 7 := by omega
  rcases this with rfl | rfl | rfl | rfl | rfl | rfl | rfl | rfl <;> rfl
end Tu

theorem name_no (k : Int) (h : k < 0 ∨ 8 ≤ k) (w : World) : Calls Tryd.prog 20 #[.int .i64 k] w fun e w' => e = .returned (.string ⟨#[]⟩) ∧ w = w' := by
  go_enter Tryd.func20, Tryd.ntmps20
  go_wp2_with (go_at_call 19; refine (right_no _ (by assumption) _).mono ?_; rintro e w' ⟨rfl, rfl⟩)
  go_ret
  exact ⟨rfl, rfl⟩
theorem name_yes (k : Nat) (h : k < 8) (w : World) (hw : Tu.Named w) : Calls Tryd.prog 20 #[.int .i64 k] w fun e w' => e = .returned (.string (Tu.name k)) ∧ w = w' := by
  have hc := hw k h
  have h0 : (0 : Int) ≤ k := by omega
  have h8 : (k : Int) < 8 := by omega
  go_enter Tryd.func20, Tryd.ntmps20
  go_wp2_with (go_at_call 19; refine (right_yes _ (by assumption) (by assumption) _).mono ?_; rintro e w' ⟨rfl, rfl⟩)
  go_ret
  exact ⟨rfl, rfl⟩
theorem awake17 (w : World) (hw : Tu.Named w) : Calls Tryd.prog 13 #[] w fun e w' => e = .returned (.bool true) ∧ w = w' := by
  have e1 : Tu.then_ 5 5 = 3 := by decide +kernel
  have e2 : Tu.from_ 5 3 2 0 0 = (1, 0) := by decide +kernel
  have H1 := Lib.hid e1
  have H2 := Lib.hid e2
  clear e1 e2
  go_enter Tryd.func13, Tryd.ntmps13
  go_wp2_with fail
  refine (then_yes _ _ (by omega) (by omega) (by omega) (by omega) _).mono ?_
  rintro e w' ⟨rfl, rfl⟩
  rw [H1.out]
  go_wp2_with fail
  refine (from_yes _ _ _ _ _ (by omega) (by omega) (by omega) (by omega) (by omega) (by omega) (by omega) (by omega) (by omega) (by omega) _).mono ?_
  rintro e w' ⟨rfl, rfl⟩
  rw [H2.out]
  go_wp2_with fail
  refine (name_yes 5 (by omega) _ hw).mono ?_
  rintro e w' ⟨rfl, rfl⟩
  have t5 : ((Tu.name 5).toList == [114, 105, 103, 104, 116]) = true := by decide +kernel
  go_wp2_with fail
  go_ret
  exact ⟨rfl, rfl⟩
end Go.Proofs.YtcdfamllamjpeaaDoor
