/-
  NARROWER THAN 'FOR EVERY INPUT', by the rows' own cells (each row's printed sentence says how): TurnPlaces: laid · TurnPictures: laid · TurnMirrors: laid · TurnNames: laid · TurnBlocks: laid · TurnGroup: laid · TurnTables: laid.
  DERIVED. THE GIVEN ROWS OF THIS SEAT. 7 by the template 'for every input the law returns true; each argument reads behind the call as it read before'; 0 by the template 'total and deterministic' (their statements: YtcdfamllamjpeaaDoorTotals.lean).
  GIVEN WITH THE SEED: the statements are not yours to turn. If you find one false, say at which input.
  Laid BY PROGRAM, IN A SANDBOX (cutbox-rows.mjs): the forced cells as the released guide's own fill.sh prints them over the translation ac59c52dcd97b610… (all of the seat's roots in one cut). By AI agents, Wed Nov 11 2026. No macro, syntax, notation, axiom, sorry.
-/
import Derived.Test.YtcdfamllamjpeaaDoorChecked
import GoSem.Claim
import GoSem.ClaimJoined
import GoSem.ClaimMapViews
import Derived.JoinedTies
import Derived.KernelRfl
namespace Go.Proofs.YtcdfamllamjpeaaDoor
/- THE CELL 'sum', in the pinned program and in every row, IS THE sha256 OF THE DUMP (.gsa) THAT YtcdfamllamjpeaaDoorProg.lean LOADS. Nothing in Lean hashes anything: it is a label: what it is worth is what the hold of that sum in a sandbox is worth. -/
noncomputable def Tryd.pinned : Pinned := { name := "ytcdfamllamjpeaadoor", sum := "ac59c52dcd97b610d29fab9d5725353a6ede50c287c7bd8ab3505d8070564950", checked := Tryd.checked }
namespace Rows
def none {H : Type} : Left H := { results := [], args := [] }

/- WHAT THE LISTED PACKAGE-LEVEL VARIABLES READ AS WHEN THE CALL BEGINS. Each datum BY PROGRAM (the guide's laid-datum.mjs) off the statement by which the dump's own 'gosem.cut.vars' lays the variable. In a bare row this is a premise. The card (YtcdfamllamjpeaaDoorCards.lean) ties it to the program's text. -/
def laid_aquatint_turn_names {H : Type} : DataW H := .agg [.lit (.string [110, 111, 110, 101]), .lit (.string [109, 105, 114, 114, 111, 114]), .lit (.string [102, 108, 105, 112]), .lit (.string [104, 97, 108, 102]), .lit (.string [115, 119, 97, 112]), .lit (.string [114, 105, 103, 104, 116]), .lit (.string [108, 101, 102, 116]), .lit (.string [97, 110, 116, 105])]

/-- 'aquatintlaw17.TurnPlaces': WHATEVER THE INPUT: true; the input reads as it did. -/
def turnPlacesSpec : ChangeSpec := { name := "turnPlaces", fn := fun _ => fun
  | [d1, d2, d3, d4, d5, d6] => { results := [.lit (.bool true)], args := [d1, d2, d3, d4, d5, d6] }
  | _ => none }
def turnPlacesRow : OpenClaim := { program := "ytcdfamllamjpeaadoor", sum := "ac59c52dcd97b610d29fab9d5725353a6ede50c287c7bd8ab3505d8070564950", func := "aquatint/aquatintlaw17.TurnPlaces", spec := "turnPlaces", named := ["aquatint/turn.names"], apart := false, laid := [("aquatint/turn.names", laid_aquatint_turn_names)] }
def TurnPlacesSaid : Prop := turnPlacesRow.holds Tryd.pinned (OpenSpec.ofChange turnPlacesSpec)

/-- ITS FALSE NEIGHBOUR: 'it returns false'. Refute it at one input. -/
def turnPlacesWrong : ChangeSpec := { name := "turnPlaces", fn := fun _ => fun
  | [d1, d2, d3, d4, d5, d6] => { results := [.lit (.bool false)], args := [d1, d2, d3, d4, d5, d6] }
  | _ => none }
def TurnPlacesWrongFalsely : Prop := turnPlacesRow.holds Tryd.pinned (OpenSpec.ofChange turnPlacesWrong)

/-- 'aquatintlaw17.TurnPictures': WHATEVER THE INPUT: true; the input reads as it did. -/
def turnPicturesSpec : ChangeSpec := { name := "turnPictures", fn := fun _ => fun
  | [d1, d2, d3, d4] => { results := [.lit (.bool true)], args := [d1, d2, d3, d4] }
  | _ => none }
def turnPicturesRow : OpenClaim := { program := "ytcdfamllamjpeaadoor", sum := "ac59c52dcd97b610d29fab9d5725353a6ede50c287c7bd8ab3505d8070564950", func := "aquatint/aquatintlaw17.TurnPictures", spec := "turnPictures", named := ["aquatint/turn.names"], apart := false, laid := [("aquatint/turn.names", laid_aquatint_turn_names)] }
def TurnPicturesSaid : Prop := turnPicturesRow.holds Tryd.pinned (OpenSpec.ofChange turnPicturesSpec)

/-- ITS FALSE NEIGHBOUR: 'it returns false'. Refute it at one input. -/
def turnPicturesWrong : ChangeSpec := { name := "turnPictures", fn := fun _ => fun
  | [d1, d2, d3, d4] => { results := [.lit (.bool false)], args := [d1, d2, d3, d4] }
  | _ => none }
def TurnPicturesWrongFalsely : Prop := turnPicturesRow.holds Tryd.pinned (OpenSpec.ofChange turnPicturesWrong)

/-- 'aquatintlaw17.TurnMirrors': WHATEVER THE INPUT: true; the input reads as it did. -/
def turnMirrorsSpec : ChangeSpec := { name := "turnMirrors", fn := fun _ => fun
  | [d] => { results := [.lit (.bool true)], args := [d] }
  | _ => none }
def turnMirrorsRow : OpenClaim := { program := "ytcdfamllamjpeaadoor", sum := "ac59c52dcd97b610d29fab9d5725353a6ede50c287c7bd8ab3505d8070564950", func := "aquatint/aquatintlaw17.TurnMirrors", spec := "turnMirrors", named := ["aquatint/turn.names"], apart := false, laid := [("aquatint/turn.names", laid_aquatint_turn_names)] }
def TurnMirrorsSaid : Prop := turnMirrorsRow.holds Tryd.pinned (OpenSpec.ofChange turnMirrorsSpec)

/-- ITS FALSE NEIGHBOUR: 'it returns false'. Refute it at one input. -/
def turnMirrorsWrong : ChangeSpec := { name := "turnMirrors", fn := fun _ => fun
  | [d] => { results := [.lit (.bool false)], args := [d] }
  | _ => none }
def TurnMirrorsWrongFalsely : Prop := turnMirrorsRow.holds Tryd.pinned (OpenSpec.ofChange turnMirrorsWrong)

/-- 'aquatintlaw17.TurnNames': WHATEVER THE INPUT: true; the input reads as it did. -/
def turnNamesSpec : ChangeSpec := { name := "turnNames", fn := fun _ => fun
  | [d1, d2] => { results := [.lit (.bool true)], args := [d1, d2] }
  | _ => none }
def turnNamesRow : OpenClaim := { program := "ytcdfamllamjpeaadoor", sum := "ac59c52dcd97b610d29fab9d5725353a6ede50c287c7bd8ab3505d8070564950", func := "aquatint/aquatintlaw17.TurnNames", spec := "turnNames", named := ["aquatint/turn.names"], apart := false, laid := [("aquatint/turn.names", laid_aquatint_turn_names)] }
def TurnNamesSaid : Prop := turnNamesRow.holds Tryd.pinned (OpenSpec.ofChange turnNamesSpec)

/-- ITS FALSE NEIGHBOUR: 'it returns false'. Refute it at one input. -/
def turnNamesWrong : ChangeSpec := { name := "turnNames", fn := fun _ => fun
  | [d1, d2] => { results := [.lit (.bool false)], args := [d1, d2] }
  | _ => none }
def TurnNamesWrongFalsely : Prop := turnNamesRow.holds Tryd.pinned (OpenSpec.ofChange turnNamesWrong)

/-- 'aquatintlaw17.TurnBlocks': WHATEVER THE INPUT: true; the input reads as it did. -/
def turnBlocksSpec : ChangeSpec := { name := "turnBlocks", fn := fun _ => fun
  | [d1, d2] => { results := [.lit (.bool true)], args := [d1, d2] }
  | _ => none }
def turnBlocksRow : OpenClaim := { program := "ytcdfamllamjpeaadoor", sum := "ac59c52dcd97b610d29fab9d5725353a6ede50c287c7bd8ab3505d8070564950", func := "aquatint/aquatintlaw17.TurnBlocks", spec := "turnBlocks", named := ["aquatint/turn.names"], apart := false, laid := [("aquatint/turn.names", laid_aquatint_turn_names)] }
def TurnBlocksSaid : Prop := turnBlocksRow.holds Tryd.pinned (OpenSpec.ofChange turnBlocksSpec)

/-- ITS FALSE NEIGHBOUR: 'it returns false'. Refute it at one input. -/
def turnBlocksWrong : ChangeSpec := { name := "turnBlocks", fn := fun _ => fun
  | [d1, d2] => { results := [.lit (.bool false)], args := [d1, d2] }
  | _ => none }
def TurnBlocksWrongFalsely : Prop := turnBlocksRow.holds Tryd.pinned (OpenSpec.ofChange turnBlocksWrong)

/-- 'aquatintlaw17.TurnGroup': WHATEVER THE INPUT: true; the input reads as it did. -/
def turnGroupSpec : ChangeSpec := { name := "turnGroup", fn := fun _ => fun
  | [d1, d2, d3, d4] => { results := [.lit (.bool true)], args := [d1, d2, d3, d4] }
  | _ => none }
def turnGroupRow : OpenClaim := { program := "ytcdfamllamjpeaadoor", sum := "ac59c52dcd97b610d29fab9d5725353a6ede50c287c7bd8ab3505d8070564950", func := "aquatint/aquatintlaw17.TurnGroup", spec := "turnGroup", named := ["aquatint/turn.names"], apart := false, laid := [("aquatint/turn.names", laid_aquatint_turn_names)] }
def TurnGroupSaid : Prop := turnGroupRow.holds Tryd.pinned (OpenSpec.ofChange turnGroupSpec)

/-- ITS FALSE NEIGHBOUR: 'it returns false'. Refute it at one input. -/
def turnGroupWrong : ChangeSpec := { name := "turnGroup", fn := fun _ => fun
  | [d1, d2, d3, d4] => { results := [.lit (.bool false)], args := [d1, d2, d3, d4] }
  | _ => none }
def TurnGroupWrongFalsely : Prop := turnGroupRow.holds Tryd.pinned (OpenSpec.ofChange turnGroupWrong)

/-- 'aquatintlaw17.TurnTables': WHATEVER THE INPUT: true; the input reads as it did. -/
def turnTablesSpec : ChangeSpec := { name := "turnTables", fn := fun _ => fun
  | [d1, d2] => { results := [.lit (.bool true)], args := [d1, d2] }
  | _ => none }
def turnTablesRow : OpenClaim := { program := "ytcdfamllamjpeaadoor", sum := "ac59c52dcd97b610d29fab9d5725353a6ede50c287c7bd8ab3505d8070564950", func := "aquatint/aquatintlaw17.TurnTables", spec := "turnTables", named := ["aquatint/turn.names"], apart := false, laid := [("aquatint/turn.names", laid_aquatint_turn_names)] }
def TurnTablesSaid : Prop := turnTablesRow.holds Tryd.pinned (OpenSpec.ofChange turnTablesSpec)

/-- ITS FALSE NEIGHBOUR: 'it returns false'. Refute it at one input. -/
def turnTablesWrong : ChangeSpec := { name := "turnTables", fn := fun _ => fun
  | [d1, d2] => { results := [.lit (.bool false)], args := [d1, d2] }
  | _ => none }
def TurnTablesWrongFalsely : Prop := turnTablesRow.holds Tryd.pinned (OpenSpec.ofChange turnTablesWrong)

/- THE SECOND FORM. 'bulk': how many values and letters a reading holds, each counted each time it is reached (what is shared counts as often as it is met; a slice's spare places count too). A statement '..UptoSaid' is the law's where the arguments, and the package variables that the reading takes, are together of bulk at most 1048576: NARROWER than '..Said'. Prove '..Said' where nothing that the law and all that it calls make is longer than what came in: it says more and counts as full. Else prove '..UptoSaid'. A law counts once. -/
mutual
def uptoBulk {H : Type} : DataW H → Nat
  | .lit (.string bytes) => bytes.length + 1
  | .lit _ => 1
  | .nil => 1
  | .ptr d => uptoBulk d + 1
  | .slice elems spare => uptoBulkAll elems + uptoBulkAll spare + 1
  | .agg parts => uptoBulkAll parts + 1
  | .iface _ d => uptoBulk d + 1
  | .map entries => uptoBulkEntries entries + 1
  | .held _ => 1
def uptoBulkAll {H : Type} : List (DataW H) → Nat
  | [] => 0
  | d :: r => uptoBulk d + uptoBulkAll r
def uptoBulkEntries {H : Type} : List (Lit × DataW H) → Nat
  | [] => 0
  | x :: r => uptoBulkEntry x + uptoBulkEntries r
def uptoBulkEntry {H : Type} : Lit × DataW H → Nat
  | (.string bytes, d) => bytes.length + uptoBulk d + 1
  | (_, d) => uptoBulk d + 1
 end
def uptoSmall : (H : Type) → List (DataW H) → Bool := fun _ ds => decide (uptoBulkAll ds ≤ 1048576)
def OpenSpec.upto (s : _root_.Go.ChangeSpec) : _root_.Go.OpenSpec := { _root_.Go.OpenSpec.ofChange s with cond := some uptoSmall }

/-- 'aquatintlaw17.TurnPlaces', WHERE WHAT IT READS IS OF BULK AT MOST 1048576: true; the input reads as it did. -/
def turnPlacesUptoRow : OpenClaim := { program := "ytcdfamllamjpeaadoor", sum := "ac59c52dcd97b610d29fab9d5725353a6ede50c287c7bd8ab3505d8070564950", func := "aquatint/aquatintlaw17.TurnPlaces", spec := "turnPlaces", named := ["aquatint/turn.names"], apart := false, laid := [("aquatint/turn.names", laid_aquatint_turn_names)], narrowed := true }
def TurnPlacesUptoSaid : Prop := turnPlacesUptoRow.holds Tryd.pinned (OpenSpec.upto turnPlacesSpec)

/-- 'aquatintlaw17.TurnPictures', WHERE WHAT IT READS IS OF BULK AT MOST 1048576: true; the input reads as it did. -/
def turnPicturesUptoRow : OpenClaim := { program := "ytcdfamllamjpeaadoor", sum := "ac59c52dcd97b610d29fab9d5725353a6ede50c287c7bd8ab3505d8070564950", func := "aquatint/aquatintlaw17.TurnPictures", spec := "turnPictures", named := ["aquatint/turn.names"], apart := false, laid := [("aquatint/turn.names", laid_aquatint_turn_names)], narrowed := true }
def TurnPicturesUptoSaid : Prop := turnPicturesUptoRow.holds Tryd.pinned (OpenSpec.upto turnPicturesSpec)

/-- 'aquatintlaw17.TurnMirrors', WHERE WHAT IT READS IS OF BULK AT MOST 1048576: true; the input reads as it did. -/
def turnMirrorsUptoRow : OpenClaim := { program := "ytcdfamllamjpeaadoor", sum := "ac59c52dcd97b610d29fab9d5725353a6ede50c287c7bd8ab3505d8070564950", func := "aquatint/aquatintlaw17.TurnMirrors", spec := "turnMirrors", named := ["aquatint/turn.names"], apart := false, laid := [("aquatint/turn.names", laid_aquatint_turn_names)], narrowed := true }
def TurnMirrorsUptoSaid : Prop := turnMirrorsUptoRow.holds Tryd.pinned (OpenSpec.upto turnMirrorsSpec)

/-- 'aquatintlaw17.TurnNames', WHERE WHAT IT READS IS OF BULK AT MOST 1048576: true; the input reads as it did. -/
def turnNamesUptoRow : OpenClaim := { program := "ytcdfamllamjpeaadoor", sum := "ac59c52dcd97b610d29fab9d5725353a6ede50c287c7bd8ab3505d8070564950", func := "aquatint/aquatintlaw17.TurnNames", spec := "turnNames", named := ["aquatint/turn.names"], apart := false, laid := [("aquatint/turn.names", laid_aquatint_turn_names)], narrowed := true }
def TurnNamesUptoSaid : Prop := turnNamesUptoRow.holds Tryd.pinned (OpenSpec.upto turnNamesSpec)

/-- 'aquatintlaw17.TurnBlocks', WHERE WHAT IT READS IS OF BULK AT MOST 1048576: true; the input reads as it did. -/
def turnBlocksUptoRow : OpenClaim := { program := "ytcdfamllamjpeaadoor", sum := "ac59c52dcd97b610d29fab9d5725353a6ede50c287c7bd8ab3505d8070564950", func := "aquatint/aquatintlaw17.TurnBlocks", spec := "turnBlocks", named := ["aquatint/turn.names"], apart := false, laid := [("aquatint/turn.names", laid_aquatint_turn_names)], narrowed := true }
def TurnBlocksUptoSaid : Prop := turnBlocksUptoRow.holds Tryd.pinned (OpenSpec.upto turnBlocksSpec)

/-- 'aquatintlaw17.TurnGroup', WHERE WHAT IT READS IS OF BULK AT MOST 1048576: true; the input reads as it did. -/
def turnGroupUptoRow : OpenClaim := { program := "ytcdfamllamjpeaadoor", sum := "ac59c52dcd97b610d29fab9d5725353a6ede50c287c7bd8ab3505d8070564950", func := "aquatint/aquatintlaw17.TurnGroup", spec := "turnGroup", named := ["aquatint/turn.names"], apart := false, laid := [("aquatint/turn.names", laid_aquatint_turn_names)], narrowed := true }
def TurnGroupUptoSaid : Prop := turnGroupUptoRow.holds Tryd.pinned (OpenSpec.upto turnGroupSpec)

/-- 'aquatintlaw17.TurnTables', WHERE WHAT IT READS IS OF BULK AT MOST 1048576: true; the input reads as it did. -/
def turnTablesUptoRow : OpenClaim := { program := "ytcdfamllamjpeaadoor", sum := "ac59c52dcd97b610d29fab9d5725353a6ede50c287c7bd8ab3505d8070564950", func := "aquatint/aquatintlaw17.TurnTables", spec := "turnTables", named := ["aquatint/turn.names"], apart := false, laid := [("aquatint/turn.names", laid_aquatint_turn_names)], narrowed := true }
def TurnTablesUptoSaid : Prop := turnTablesUptoRow.holds Tryd.pinned (OpenSpec.upto turnTablesSpec)

end Rows
end Go.Proofs.YtcdfamllamjpeaaDoor
