/-
  DERIVED. GIVEN WITH THE SEED: THE CARDS: each row of YtcdfamllamjpeaaDoorRows.lean that lists a variable, with what it lists TIED to the program's text (the seventh form; the later family's looks); each row that meets fmt, with fmt's text TOLD by the authors' own Lean function (tested against real Go, not proved from fmt's source: count such statements apart). THE CARD IS WHAT COUNTS. Prove the row's statement (the work); the ties are given (YtcdfamllamjpeaaDoorTie.lean); close each card by the builder's one call (the guide's Derived/Test/ToyasCard.lean, 'card_holds'). Laid BY PROGRAM, IN A SANDBOX (cutbox-door.mjs). By AI agents, Wed Nov 11 2026. No macro, syntax, notation, axiom, sorry.
-/
import Derived.Test.YtcdfamllamjpeaaDoorRows
import GoSem.ClaimSeven
namespace Go.Proofs.YtcdfamllamjpeaaDoor
namespace Rows

/-- THE TIED CARD OF 'aquatintlaw17.TurnPlaces'. -/
def turnPlacesCard : Claim7 := { stood := { row := turnPlacesRow, standIns := [], harness := (true, "cf79bf028d692ca8ad1426e401414d77798485a312acfce749fb0f6514112609"), looks := false }, kinds := [], alts := [], laidByText := true, laidKinds := [.data], laidTests := true, laidLooks := .later }
def TurnPlacesCardSaid : Prop := Claim7.holds Tryd.pinned (.plain (OpenSpec.ofChange turnPlacesSpec)) turnPlacesCard

/-- THE TIED CARD OF 'aquatintlaw17.TurnPictures'. -/
def turnPicturesCard : Claim7 := { stood := { row := turnPicturesRow, standIns := [], harness := (true, "cf79bf028d692ca8ad1426e401414d77798485a312acfce749fb0f6514112609"), looks := false }, kinds := [], alts := [], laidByText := true, laidKinds := [.data], laidTests := true, laidLooks := .later }
def TurnPicturesCardSaid : Prop := Claim7.holds Tryd.pinned (.plain (OpenSpec.ofChange turnPicturesSpec)) turnPicturesCard

/-- THE TIED CARD OF 'aquatintlaw17.TurnMirrors'. -/
def turnMirrorsCard : Claim7 := { stood := { row := turnMirrorsRow, standIns := [], harness := (true, "cf79bf028d692ca8ad1426e401414d77798485a312acfce749fb0f6514112609"), looks := false }, kinds := [], alts := [], laidByText := true, laidKinds := [.data], laidTests := true, laidLooks := .later }
def TurnMirrorsCardSaid : Prop := Claim7.holds Tryd.pinned (.plain (OpenSpec.ofChange turnMirrorsSpec)) turnMirrorsCard

/-- THE TIED CARD OF 'aquatintlaw17.TurnNames'. -/
def turnNamesCard : Claim7 := { stood := { row := turnNamesRow, standIns := [], harness := (true, "cf79bf028d692ca8ad1426e401414d77798485a312acfce749fb0f6514112609"), looks := false }, kinds := [], alts := [], laidByText := true, laidKinds := [.data], laidTests := true, laidLooks := .later }
def TurnNamesCardSaid : Prop := Claim7.holds Tryd.pinned (.plain (OpenSpec.ofChange turnNamesSpec)) turnNamesCard

/-- THE TIED CARD OF 'aquatintlaw17.TurnBlocks'. -/
def turnBlocksCard : Claim7 := { stood := { row := turnBlocksRow, standIns := [], harness := (true, "cf79bf028d692ca8ad1426e401414d77798485a312acfce749fb0f6514112609"), looks := false }, kinds := [], alts := [], laidByText := true, laidKinds := [.data], laidTests := true, laidLooks := .later }
def TurnBlocksCardSaid : Prop := Claim7.holds Tryd.pinned (.plain (OpenSpec.ofChange turnBlocksSpec)) turnBlocksCard

/-- THE TIED CARD OF 'aquatintlaw17.TurnGroup'. -/
def turnGroupCard : Claim7 := { stood := { row := turnGroupRow, standIns := [], harness := (true, "cf79bf028d692ca8ad1426e401414d77798485a312acfce749fb0f6514112609"), looks := false }, kinds := [], alts := [], laidByText := true, laidKinds := [.data], laidTests := true, laidLooks := .later }
def TurnGroupCardSaid : Prop := Claim7.holds Tryd.pinned (.plain (OpenSpec.ofChange turnGroupSpec)) turnGroupCard

/-- THE TIED CARD OF 'aquatintlaw17.TurnTables'. -/
def turnTablesCard : Claim7 := { stood := { row := turnTablesRow, standIns := [], harness := (true, "cf79bf028d692ca8ad1426e401414d77798485a312acfce749fb0f6514112609"), looks := false }, kinds := [], alts := [], laidByText := true, laidKinds := [.data], laidTests := true, laidLooks := .later }
def TurnTablesCardSaid : Prop := Claim7.holds Tryd.pinned (.plain (OpenSpec.ofChange turnTablesSpec)) turnTablesCard

/-- THE SECOND FORM's CARD OF 'aquatintlaw17.TurnPlaces'. -/
def turnPlacesUptoCard : Claim7 := { stood := { row := turnPlacesUptoRow, standIns := [], harness := (true, "cf79bf028d692ca8ad1426e401414d77798485a312acfce749fb0f6514112609"), looks := false }, kinds := [], alts := [], laidByText := true, laidKinds := [.data], laidTests := true, laidLooks := .later }
def TurnPlacesUptoCardSaid : Prop := Claim7.holds Tryd.pinned (.plain (OpenSpec.upto turnPlacesSpec)) turnPlacesUptoCard

/-- THE SECOND FORM's CARD OF 'aquatintlaw17.TurnPictures'. -/
def turnPicturesUptoCard : Claim7 := { stood := { row := turnPicturesUptoRow, standIns := [], harness := (true, "cf79bf028d692ca8ad1426e401414d77798485a312acfce749fb0f6514112609"), looks := false }, kinds := [], alts := [], laidByText := true, laidKinds := [.data], laidTests := true, laidLooks := .later }
def TurnPicturesUptoCardSaid : Prop := Claim7.holds Tryd.pinned (.plain (OpenSpec.upto turnPicturesSpec)) turnPicturesUptoCard

/-- THE SECOND FORM's CARD OF 'aquatintlaw17.TurnMirrors'. -/
def turnMirrorsUptoCard : Claim7 := { stood := { row := turnMirrorsUptoRow, standIns := [], harness := (true, "cf79bf028d692ca8ad1426e401414d77798485a312acfce749fb0f6514112609"), looks := false }, kinds := [], alts := [], laidByText := true, laidKinds := [.data], laidTests := true, laidLooks := .later }
def TurnMirrorsUptoCardSaid : Prop := Claim7.holds Tryd.pinned (.plain (OpenSpec.upto turnMirrorsSpec)) turnMirrorsUptoCard

/-- THE SECOND FORM's CARD OF 'aquatintlaw17.TurnNames'. -/
def turnNamesUptoCard : Claim7 := { stood := { row := turnNamesUptoRow, standIns := [], harness := (true, "cf79bf028d692ca8ad1426e401414d77798485a312acfce749fb0f6514112609"), looks := false }, kinds := [], alts := [], laidByText := true, laidKinds := [.data], laidTests := true, laidLooks := .later }
def TurnNamesUptoCardSaid : Prop := Claim7.holds Tryd.pinned (.plain (OpenSpec.upto turnNamesSpec)) turnNamesUptoCard

/-- THE SECOND FORM's CARD OF 'aquatintlaw17.TurnBlocks'. -/
def turnBlocksUptoCard : Claim7 := { stood := { row := turnBlocksUptoRow, standIns := [], harness := (true, "cf79bf028d692ca8ad1426e401414d77798485a312acfce749fb0f6514112609"), looks := false }, kinds := [], alts := [], laidByText := true, laidKinds := [.data], laidTests := true, laidLooks := .later }
def TurnBlocksUptoCardSaid : Prop := Claim7.holds Tryd.pinned (.plain (OpenSpec.upto turnBlocksSpec)) turnBlocksUptoCard

/-- THE SECOND FORM's CARD OF 'aquatintlaw17.TurnGroup'. -/
def turnGroupUptoCard : Claim7 := { stood := { row := turnGroupUptoRow, standIns := [], harness := (true, "cf79bf028d692ca8ad1426e401414d77798485a312acfce749fb0f6514112609"), looks := false }, kinds := [], alts := [], laidByText := true, laidKinds := [.data], laidTests := true, laidLooks := .later }
def TurnGroupUptoCardSaid : Prop := Claim7.holds Tryd.pinned (.plain (OpenSpec.upto turnGroupSpec)) turnGroupUptoCard

/-- THE SECOND FORM's CARD OF 'aquatintlaw17.TurnTables'. -/
def turnTablesUptoCard : Claim7 := { stood := { row := turnTablesUptoRow, standIns := [], harness := (true, "cf79bf028d692ca8ad1426e401414d77798485a312acfce749fb0f6514112609"), looks := false }, kinds := [], alts := [], laidByText := true, laidKinds := [.data], laidTests := true, laidLooks := .later }
def TurnTablesUptoCardSaid : Prop := Claim7.holds Tryd.pinned (.plain (OpenSpec.upto turnTablesSpec)) turnTablesUptoCard
end Rows
end Go.Proofs.YtcdfamllamjpeaaDoor
