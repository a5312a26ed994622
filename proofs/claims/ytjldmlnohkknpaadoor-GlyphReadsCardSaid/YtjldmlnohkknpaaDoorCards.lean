/-
  DERIVED. GIVEN WITH THE SEED: THE CARDS: each row of YtjldmlnohkknpaaDoorRows.lean that lists a variable, with what it lists TIED to the program's text (the seventh form; the later family's looks); each row that meets fmt, with fmt's text TOLD by the authors' own Lean function (tested against real Go, not proved from fmt's source: count such statements apart). THE CARD IS WHAT COUNTS. Prove the row's statement (the work); the ties are given (YtjldmlnohkknpaaDoorTie.lean); close each card by the builder's one call (the guide's Derived/Test/ToyasCard.lean, 'card_holds'). Laid BY PROGRAM, IN A SANDBOX (cutbox-door.mjs). By AI agents, Wed Nov 11 2026. No macro, syntax, notation, axiom, sorry.
-/
import Derived.Test.YtjldmlnohkknpaaDoorRows
import GoSem.ClaimSeven
namespace Go.Proofs.YtjldmlnohkknpaaDoor
namespace Rows

/-- THE TIED CARD OF 'aquatintlaw01.GlyphSames'. -/
def glyphSamesCard : Claim7 := { stood := { row := glyphSamesRow, standIns := [], harness := (true, "43f75597640e2869aa7d5170b3b029fdcaf9dffdcf8610b37144419e5cf749f9"), looks := false }, kinds := [], alts := [], laidByText := true, laidKinds := [.data, .pinned], laidTests := true, laidLooks := .later }
def GlyphSamesCardSaid : Prop := Claim7.holds Tryd.pinned (.plain (OpenSpec.ofChange glyphSamesSpec)) glyphSamesCard

/-- THE TIED CARD OF 'aquatintlaw01.GlyphQuotes'. -/
def glyphQuotesCard : Claim7 := { stood := { row := glyphQuotesRow, standIns := [], harness := (true, "43f75597640e2869aa7d5170b3b029fdcaf9dffdcf8610b37144419e5cf749f9"), looks := false }, kinds := [], alts := [], laidByText := true, laidKinds := [.data, .pinned], laidTests := true, laidLooks := .later }
def GlyphQuotesCardSaid : Prop := Claim7.holds Tryd.pinned (.plain (OpenSpec.ofChange glyphQuotesSpec)) glyphQuotesCard

/-- THE TIED CARD OF 'aquatintlaw01.GlyphCuts'. -/
def glyphCutsCard : Claim7 := { stood := { row := glyphCutsRow, standIns := [], harness := (true, "43f75597640e2869aa7d5170b3b029fdcaf9dffdcf8610b37144419e5cf749f9"), looks := false }, kinds := [], alts := [], laidByText := true, laidKinds := [.data, .pinned], laidTests := true, laidLooks := .later }
def GlyphCutsCardSaid : Prop := Claim7.holds Tryd.pinned (.plain (OpenSpec.ofChange glyphCutsSpec)) glyphCutsCard

/-- THE TIED CARD OF 'aquatintlaw01.GlyphParts'. -/
def glyphPartsCard : Claim7 := { stood := { row := glyphPartsRow, standIns := [], harness := (true, "43f75597640e2869aa7d5170b3b029fdcaf9dffdcf8610b37144419e5cf749f9"), looks := false }, kinds := [], alts := [], laidByText := true, laidKinds := [.data, .pinned], laidTests := true, laidLooks := .later }
def GlyphPartsCardSaid : Prop := Claim7.holds Tryd.pinned (.plain (OpenSpec.ofChange glyphPartsSpec)) glyphPartsCard

/-- THE TIED CARD OF 'aquatintlaw01.GlyphFolds'. -/
def glyphFoldsCard : Claim7 := { stood := { row := glyphFoldsRow, standIns := [], harness := (true, "43f75597640e2869aa7d5170b3b029fdcaf9dffdcf8610b37144419e5cf749f9"), looks := false }, kinds := [], alts := [], laidByText := true, laidKinds := [.data, .pinned], laidTests := true, laidLooks := .later }
def GlyphFoldsCardSaid : Prop := Claim7.holds Tryd.pinned (.plain (OpenSpec.ofChange glyphFoldsSpec)) glyphFoldsCard

/-- THE TIED CARD OF 'aquatintlaw01.GlyphTexts'. -/
def glyphTextsCard : Claim7 := { stood := { row := glyphTextsRow, standIns := [], harness := (true, "43f75597640e2869aa7d5170b3b029fdcaf9dffdcf8610b37144419e5cf749f9"), looks := false }, kinds := [], alts := [], laidByText := true, laidKinds := [.data, .pinned], laidTests := true, laidLooks := .later }
def GlyphTextsCardSaid : Prop := Claim7.holds Tryd.pinned (.plain (OpenSpec.ofChange glyphTextsSpec)) glyphTextsCard

/-- THE TIED CARD OF 'aquatintlaw01.GlyphReads'. -/
def glyphReadsCard : Claim7 := { stood := { row := glyphReadsRow, standIns := [], harness := (true, "43f75597640e2869aa7d5170b3b029fdcaf9dffdcf8610b37144419e5cf749f9"), looks := false }, kinds := [], alts := [], laidByText := true, laidKinds := [.data, .pinned], laidTests := true, laidLooks := .later }
def GlyphReadsCardSaid : Prop := Claim7.holds Tryd.pinned (.plain (OpenSpec.ofChange glyphReadsSpec)) glyphReadsCard

/-- THE TIED CARD OF 'aquatintlaw01.GlyphBack'. -/
def glyphBackCard : Claim7 := { stood := { row := glyphBackRow, standIns := [], harness := (true, "43f75597640e2869aa7d5170b3b029fdcaf9dffdcf8610b37144419e5cf749f9"), looks := false }, kinds := [], alts := [], laidByText := true, laidKinds := [.data, .pinned], laidTests := true, laidLooks := .later }
def GlyphBackCardSaid : Prop := Claim7.holds Tryd.pinned (.plain (OpenSpec.ofChange glyphBackSpec)) glyphBackCard

/-- THE SECOND FORM's CARD OF 'aquatintlaw01.GlyphSames'. -/
def glyphSamesUptoCard : Claim7 := { stood := { row := glyphSamesUptoRow, standIns := [], harness := (true, "43f75597640e2869aa7d5170b3b029fdcaf9dffdcf8610b37144419e5cf749f9"), looks := false }, kinds := [], alts := [], laidByText := true, laidKinds := [.data, .pinned], laidTests := true, laidLooks := .later }
def GlyphSamesUptoCardSaid : Prop := Claim7.holds Tryd.pinned (.plain (OpenSpec.upto glyphSamesSpec)) glyphSamesUptoCard

/-- THE SECOND FORM's CARD OF 'aquatintlaw01.GlyphQuotes'. -/
def glyphQuotesUptoCard : Claim7 := { stood := { row := glyphQuotesUptoRow, standIns := [], harness := (true, "43f75597640e2869aa7d5170b3b029fdcaf9dffdcf8610b37144419e5cf749f9"), looks := false }, kinds := [], alts := [], laidByText := true, laidKinds := [.data, .pinned], laidTests := true, laidLooks := .later }
def GlyphQuotesUptoCardSaid : Prop := Claim7.holds Tryd.pinned (.plain (OpenSpec.upto glyphQuotesSpec)) glyphQuotesUptoCard

/-- THE SECOND FORM's CARD OF 'aquatintlaw01.GlyphCuts'. -/
def glyphCutsUptoCard : Claim7 := { stood := { row := glyphCutsUptoRow, standIns := [], harness := (true, "43f75597640e2869aa7d5170b3b029fdcaf9dffdcf8610b37144419e5cf749f9"), looks := false }, kinds := [], alts := [], laidByText := true, laidKinds := [.data, .pinned], laidTests := true, laidLooks := .later }
def GlyphCutsUptoCardSaid : Prop := Claim7.holds Tryd.pinned (.plain (OpenSpec.upto glyphCutsSpec)) glyphCutsUptoCard

/-- THE SECOND FORM's CARD OF 'aquatintlaw01.GlyphParts'. -/
def glyphPartsUptoCard : Claim7 := { stood := { row := glyphPartsUptoRow, standIns := [], harness := (true, "43f75597640e2869aa7d5170b3b029fdcaf9dffdcf8610b37144419e5cf749f9"), looks := false }, kinds := [], alts := [], laidByText := true, laidKinds := [.data, .pinned], laidTests := true, laidLooks := .later }
def GlyphPartsUptoCardSaid : Prop := Claim7.holds Tryd.pinned (.plain (OpenSpec.upto glyphPartsSpec)) glyphPartsUptoCard

/-- THE SECOND FORM's CARD OF 'aquatintlaw01.GlyphFolds'. -/
def glyphFoldsUptoCard : Claim7 := { stood := { row := glyphFoldsUptoRow, standIns := [], harness := (true, "43f75597640e2869aa7d5170b3b029fdcaf9dffdcf8610b37144419e5cf749f9"), looks := false }, kinds := [], alts := [], laidByText := true, laidKinds := [.data, .pinned], laidTests := true, laidLooks := .later }
def GlyphFoldsUptoCardSaid : Prop := Claim7.holds Tryd.pinned (.plain (OpenSpec.upto glyphFoldsSpec)) glyphFoldsUptoCard

/-- THE SECOND FORM's CARD OF 'aquatintlaw01.GlyphTexts'. -/
def glyphTextsUptoCard : Claim7 := { stood := { row := glyphTextsUptoRow, standIns := [], harness := (true, "43f75597640e2869aa7d5170b3b029fdcaf9dffdcf8610b37144419e5cf749f9"), looks := false }, kinds := [], alts := [], laidByText := true, laidKinds := [.data, .pinned], laidTests := true, laidLooks := .later }
def GlyphTextsUptoCardSaid : Prop := Claim7.holds Tryd.pinned (.plain (OpenSpec.upto glyphTextsSpec)) glyphTextsUptoCard

/-- THE SECOND FORM's CARD OF 'aquatintlaw01.GlyphReads'. -/
def glyphReadsUptoCard : Claim7 := { stood := { row := glyphReadsUptoRow, standIns := [], harness := (true, "43f75597640e2869aa7d5170b3b029fdcaf9dffdcf8610b37144419e5cf749f9"), looks := false }, kinds := [], alts := [], laidByText := true, laidKinds := [.data, .pinned], laidTests := true, laidLooks := .later }
def GlyphReadsUptoCardSaid : Prop := Claim7.holds Tryd.pinned (.plain (OpenSpec.upto glyphReadsSpec)) glyphReadsUptoCard

/-- THE SECOND FORM's CARD OF 'aquatintlaw01.GlyphBack'. -/
def glyphBackUptoCard : Claim7 := { stood := { row := glyphBackUptoRow, standIns := [], harness := (true, "43f75597640e2869aa7d5170b3b029fdcaf9dffdcf8610b37144419e5cf749f9"), looks := false }, kinds := [], alts := [], laidByText := true, laidKinds := [.data, .pinned], laidTests := true, laidLooks := .later }
def GlyphBackUptoCardSaid : Prop := Claim7.holds Tryd.pinned (.plain (OpenSpec.upto glyphBackSpec)) glyphBackUptoCard
end Rows
end Go.Proofs.YtjldmlnohkknpaaDoor
