/-
  NARROWER THAN 'FOR EVERY INPUT', by the rows' own cells (each row's printed sentence says how): GlyphSames: laid · GlyphQuotes: laid · GlyphCuts: laid · GlyphParts: laid · GlyphFolds: laid · GlyphTexts: laid · GlyphReads: laid · GlyphBack: laid.
  DERIVED. THE GIVEN ROWS OF THIS SEAT. 8 by the template 'for every input the law returns true; each argument reads behind the call as it read before'; 0 by the template 'total and deterministic' (their statements: YtjldmlnohkknpaaDoorTotals.lean).
  GIVEN WITH THE SEED: the statements are not yours to turn. If you find one false, say at which input.
  Laid BY PROGRAM, IN A SANDBOX (cutbox-rows.mjs): the forced cells as the released guide's own fill.sh prints them over the translation 0760cbe05b0814af… (all of the seat's roots in one cut). By AI agents, Wed Nov 11 2026. No macro, syntax, notation, axiom, sorry.
-/
import Derived.Test.YtjldmlnohkknpaaDoorChecked
import GoSem.PinnedTables
import GoSem.Claim
import GoSem.ClaimJoined
import GoSem.ClaimMapViews
import Derived.JoinedTies
import Derived.KernelRfl
namespace Go.Proofs.YtjldmlnohkknpaaDoor
/- THE CELL 'sum', in the pinned program and in every row, IS THE sha256 OF THE DUMP (.gsa) THAT YtjldmlnohkknpaaDoorProg.lean LOADS. Nothing in Lean hashes anything: it is a label: what it is worth is what the hold of that sum in a sandbox is worth. -/
noncomputable def Tryd.pinned : Pinned := { name := "ytjldmlnohkknpaadoor", sum := "0760cbe05b0814afd5e387bed46090d8fcf42b82e404e36171f93adc17702e13", checked := Tryd.checked }
namespace Rows
def none {H : Type} : Left H := { results := [], args := [] }

/- WHAT THE LISTED PACKAGE-LEVEL VARIABLES READ AS WHEN THE CALL BEGINS. Each datum BY PROGRAM (the guide's laid-datum.mjs) off the statement by which the dump's own 'gosem.cut.vars' lays the variable. In a bare row this is a premise. The card (YtjldmlnohkknpaaDoorCards.lean) ties it to the program's text. -/
def laid_unicode_utf8_acceptRanges {H : Type} : DataW H := .agg [.agg [.lit (.int .u8 128), .lit (.int .u8 191)], .agg [.lit (.int .u8 160), .lit (.int .u8 191)], .agg [.lit (.int .u8 128), .lit (.int .u8 159)], .agg [.lit (.int .u8 144), .lit (.int .u8 191)], .agg [.lit (.int .u8 128), .lit (.int .u8 143)], .agg [.lit (.int .u8 0), .lit (.int .u8 0)], .agg [.lit (.int .u8 0), .lit (.int .u8 0)], .agg [.lit (.int .u8 0), .lit (.int .u8 0)], .agg [.lit (.int .u8 0), .lit (.int .u8 0)], .agg [.lit (.int .u8 0), .lit (.int .u8 0)], .agg [.lit (.int .u8 0), .lit (.int .u8 0)], .agg [.lit (.int .u8 0), .lit (.int .u8 0)], .agg [.lit (.int .u8 0), .lit (.int .u8 0)], .agg [.lit (.int .u8 0), .lit (.int .u8 0)], .agg [.lit (.int .u8 0), .lit (.int .u8 0)], .agg [.lit (.int .u8 0), .lit (.int .u8 0)]]
/-- One of Go's own tables, pinned by name: the form's constant. -/
def laid_unicode_utf8_first : DataW Unit := Go.Pinned.utf8First

/-- 'aquatintlaw01.GlyphSames': WHATEVER THE INPUT: true; the input reads as it did. -/
def glyphSamesSpec : ChangeSpec := { name := "glyphSames", fn := fun _ => fun
  | [d1, d2] => { results := [.lit (.bool true)], args := [d1, d2] }
  | _ => none }
def glyphSamesRow : OpenClaim := { program := "ytjldmlnohkknpaadoor", sum := "0760cbe05b0814afd5e387bed46090d8fcf42b82e404e36171f93adc17702e13", func := "aquatint/aquatintlaw01.GlyphSames", spec := "glyphSames", inPlace := ["internal/abi.NoEscape"], named := ["unicode/utf8.first", "unicode/utf8.acceptRanges"], apart := false, laid := [("unicode/utf8.acceptRanges", laid_unicode_utf8_acceptRanges), ("unicode/utf8.first", laid_unicode_utf8_first)] }
def GlyphSamesSaid : Prop := glyphSamesRow.holds Tryd.pinned (OpenSpec.ofChange glyphSamesSpec)

/-- ITS FALSE NEIGHBOUR: 'it returns false'. Refute it at one input. -/
def glyphSamesWrong : ChangeSpec := { name := "glyphSames", fn := fun _ => fun
  | [d1, d2] => { results := [.lit (.bool false)], args := [d1, d2] }
  | _ => none }
def GlyphSamesWrongFalsely : Prop := glyphSamesRow.holds Tryd.pinned (OpenSpec.ofChange glyphSamesWrong)

/-- 'aquatintlaw01.GlyphQuotes': WHATEVER THE INPUT: true; the input reads as it did. -/
def glyphQuotesSpec : ChangeSpec := { name := "glyphQuotes", fn := fun _ => fun
  | [d] => { results := [.lit (.bool true)], args := [d] }
  | _ => none }
def glyphQuotesRow : OpenClaim := { program := "ytjldmlnohkknpaadoor", sum := "0760cbe05b0814afd5e387bed46090d8fcf42b82e404e36171f93adc17702e13", func := "aquatint/aquatintlaw01.GlyphQuotes", spec := "glyphQuotes", inPlace := ["internal/abi.NoEscape"], named := ["unicode/utf8.first", "unicode/utf8.acceptRanges"], apart := false, laid := [("unicode/utf8.acceptRanges", laid_unicode_utf8_acceptRanges), ("unicode/utf8.first", laid_unicode_utf8_first)] }
def GlyphQuotesSaid : Prop := glyphQuotesRow.holds Tryd.pinned (OpenSpec.ofChange glyphQuotesSpec)

/-- ITS FALSE NEIGHBOUR: 'it returns false'. Refute it at one input. -/
def glyphQuotesWrong : ChangeSpec := { name := "glyphQuotes", fn := fun _ => fun
  | [d] => { results := [.lit (.bool false)], args := [d] }
  | _ => none }
def GlyphQuotesWrongFalsely : Prop := glyphQuotesRow.holds Tryd.pinned (OpenSpec.ofChange glyphQuotesWrong)

/-- 'aquatintlaw01.GlyphCuts': WHATEVER THE INPUT: true; the input reads as it did. -/
def glyphCutsSpec : ChangeSpec := { name := "glyphCuts", fn := fun _ => fun
  | [d1, d2] => { results := [.lit (.bool true)], args := [d1, d2] }
  | _ => none }
def glyphCutsRow : OpenClaim := { program := "ytjldmlnohkknpaadoor", sum := "0760cbe05b0814afd5e387bed46090d8fcf42b82e404e36171f93adc17702e13", func := "aquatint/aquatintlaw01.GlyphCuts", spec := "glyphCuts", inPlace := ["internal/abi.NoEscape"], named := ["unicode/utf8.first", "unicode/utf8.acceptRanges"], apart := false, laid := [("unicode/utf8.acceptRanges", laid_unicode_utf8_acceptRanges), ("unicode/utf8.first", laid_unicode_utf8_first)] }
def GlyphCutsSaid : Prop := glyphCutsRow.holds Tryd.pinned (OpenSpec.ofChange glyphCutsSpec)

/-- ITS FALSE NEIGHBOUR: 'it returns false'. Refute it at one input. -/
def glyphCutsWrong : ChangeSpec := { name := "glyphCuts", fn := fun _ => fun
  | [d1, d2] => { results := [.lit (.bool false)], args := [d1, d2] }
  | _ => none }
def GlyphCutsWrongFalsely : Prop := glyphCutsRow.holds Tryd.pinned (OpenSpec.ofChange glyphCutsWrong)

/-- 'aquatintlaw01.GlyphParts': WHATEVER THE INPUT: true; the input reads as it did. -/
def glyphPartsSpec : ChangeSpec := { name := "glyphParts", fn := fun _ => fun
  | [d1, d2] => { results := [.lit (.bool true)], args := [d1, d2] }
  | _ => none }
def glyphPartsRow : OpenClaim := { program := "ytjldmlnohkknpaadoor", sum := "0760cbe05b0814afd5e387bed46090d8fcf42b82e404e36171f93adc17702e13", func := "aquatint/aquatintlaw01.GlyphParts", spec := "glyphParts", inPlace := ["internal/abi.NoEscape"], named := ["unicode/utf8.first", "unicode/utf8.acceptRanges"], apart := false, laid := [("unicode/utf8.acceptRanges", laid_unicode_utf8_acceptRanges), ("unicode/utf8.first", laid_unicode_utf8_first)] }
def GlyphPartsSaid : Prop := glyphPartsRow.holds Tryd.pinned (OpenSpec.ofChange glyphPartsSpec)

/-- ITS FALSE NEIGHBOUR: 'it returns false'. Refute it at one input. -/
def glyphPartsWrong : ChangeSpec := { name := "glyphParts", fn := fun _ => fun
  | [d1, d2] => { results := [.lit (.bool false)], args := [d1, d2] }
  | _ => none }
def GlyphPartsWrongFalsely : Prop := glyphPartsRow.holds Tryd.pinned (OpenSpec.ofChange glyphPartsWrong)

/-- 'aquatintlaw01.GlyphFolds': WHATEVER THE INPUT: true; the input reads as it did. -/
def glyphFoldsSpec : ChangeSpec := { name := "glyphFolds", fn := fun _ => fun
  | [d] => { results := [.lit (.bool true)], args := [d] }
  | _ => none }
def glyphFoldsRow : OpenClaim := { program := "ytjldmlnohkknpaadoor", sum := "0760cbe05b0814afd5e387bed46090d8fcf42b82e404e36171f93adc17702e13", func := "aquatint/aquatintlaw01.GlyphFolds", spec := "glyphFolds", inPlace := ["internal/abi.NoEscape"], unfollowed := true, recurses := true, named := ["unicode/utf8.first", "unicode/utf8.acceptRanges"], apart := false, laid := [("unicode/utf8.acceptRanges", laid_unicode_utf8_acceptRanges), ("unicode/utf8.first", laid_unicode_utf8_first)] }
def GlyphFoldsSaid : Prop := glyphFoldsRow.holds Tryd.pinned (OpenSpec.ofChange glyphFoldsSpec)

/-- ITS FALSE NEIGHBOUR: 'it returns false'. Refute it at one input. -/
def glyphFoldsWrong : ChangeSpec := { name := "glyphFolds", fn := fun _ => fun
  | [d] => { results := [.lit (.bool false)], args := [d] }
  | _ => none }
def GlyphFoldsWrongFalsely : Prop := glyphFoldsRow.holds Tryd.pinned (OpenSpec.ofChange glyphFoldsWrong)

/-- 'aquatintlaw01.GlyphTexts': WHATEVER THE INPUT: true; the input reads as it did. -/
def glyphTextsSpec : ChangeSpec := { name := "glyphTexts", fn := fun _ => fun
  | [d] => { results := [.lit (.bool true)], args := [d] }
  | _ => none }
def glyphTextsRow : OpenClaim := { program := "ytjldmlnohkknpaadoor", sum := "0760cbe05b0814afd5e387bed46090d8fcf42b82e404e36171f93adc17702e13", func := "aquatint/aquatintlaw01.GlyphTexts", spec := "glyphTexts", inPlace := ["internal/abi.NoEscape"], unfollowed := true, recurses := true, named := ["unicode/utf8.first", "unicode/utf8.acceptRanges"], apart := false, laid := [("unicode/utf8.acceptRanges", laid_unicode_utf8_acceptRanges), ("unicode/utf8.first", laid_unicode_utf8_first)] }
def GlyphTextsSaid : Prop := glyphTextsRow.holds Tryd.pinned (OpenSpec.ofChange glyphTextsSpec)

/-- ITS FALSE NEIGHBOUR: 'it returns false'. Refute it at one input. -/
def glyphTextsWrong : ChangeSpec := { name := "glyphTexts", fn := fun _ => fun
  | [d] => { results := [.lit (.bool false)], args := [d] }
  | _ => none }
def GlyphTextsWrongFalsely : Prop := glyphTextsRow.holds Tryd.pinned (OpenSpec.ofChange glyphTextsWrong)

/-- 'aquatintlaw01.GlyphReads': WHATEVER THE INPUT: true; the input reads as it did. -/
def glyphReadsSpec : ChangeSpec := { name := "glyphReads", fn := fun _ => fun
  | [d] => { results := [.lit (.bool true)], args := [d] }
  | _ => none }
def glyphReadsRow : OpenClaim := { program := "ytjldmlnohkknpaadoor", sum := "0760cbe05b0814afd5e387bed46090d8fcf42b82e404e36171f93adc17702e13", func := "aquatint/aquatintlaw01.GlyphReads", spec := "glyphReads", inPlace := ["internal/abi.NoEscape"], named := ["unicode/utf8.first", "unicode/utf8.acceptRanges"], apart := false, laid := [("unicode/utf8.acceptRanges", laid_unicode_utf8_acceptRanges), ("unicode/utf8.first", laid_unicode_utf8_first)] }
def GlyphReadsSaid : Prop := glyphReadsRow.holds Tryd.pinned (OpenSpec.ofChange glyphReadsSpec)

/-- ITS FALSE NEIGHBOUR: 'it returns false'. Refute it at one input. -/
def glyphReadsWrong : ChangeSpec := { name := "glyphReads", fn := fun _ => fun
  | [d] => { results := [.lit (.bool false)], args := [d] }
  | _ => none }
def GlyphReadsWrongFalsely : Prop := glyphReadsRow.holds Tryd.pinned (OpenSpec.ofChange glyphReadsWrong)

/-- 'aquatintlaw01.GlyphBack': WHATEVER THE INPUT: true; the input reads as it did. -/
def glyphBackSpec : ChangeSpec := { name := "glyphBack", fn := fun _ => fun
  | [d1, d2] => { results := [.lit (.bool true)], args := [d1, d2] }
  | _ => none }
def glyphBackRow : OpenClaim := { program := "ytjldmlnohkknpaadoor", sum := "0760cbe05b0814afd5e387bed46090d8fcf42b82e404e36171f93adc17702e13", func := "aquatint/aquatintlaw01.GlyphBack", spec := "glyphBack", inPlace := ["internal/abi.NoEscape"], named := ["unicode/utf8.first", "unicode/utf8.acceptRanges"], apart := false, laid := [("unicode/utf8.acceptRanges", laid_unicode_utf8_acceptRanges), ("unicode/utf8.first", laid_unicode_utf8_first)] }
def GlyphBackSaid : Prop := glyphBackRow.holds Tryd.pinned (OpenSpec.ofChange glyphBackSpec)

/-- ITS FALSE NEIGHBOUR: 'it returns false'. Refute it at one input. -/
def glyphBackWrong : ChangeSpec := { name := "glyphBack", fn := fun _ => fun
  | [d1, d2] => { results := [.lit (.bool false)], args := [d1, d2] }
  | _ => none }
def GlyphBackWrongFalsely : Prop := glyphBackRow.holds Tryd.pinned (OpenSpec.ofChange glyphBackWrong)

/- THE SECOND FORM. 'bulk': how many values and letters a reading holds, each counted each time it is reached (what is shared counts as often as it is met; a slice's spare places count too). A statement '..UptoSaid' is the law's where the arguments, and the package variables that the reading takes, are together of bulk at most 1048576: NARROWER than '..Said'. Prove '..Said' where nothing that the law and all that it calls make is longer than what came in: it says more and counts as full. Else prove '..UptoSaid'. A law counts once. -/
mutual
def uptoBulk {H : Type} : DataW H → Nat
  | .lit (.string bytes) => bytes.length + 1
  | .lit _ => 1
  | .nil => 1
  | .ptr d => uptoBulk d + 1
  | .slice elems spare => uptoBulkAll elems + uptoBulkAll spare + 1
  | .agg parts => uptoBulkAll parts + 1
  | .iface _ d => uptoBulk d + 1
  | .map entries => uptoBulkEntries entries + 1
  | .held _ => 1
def uptoBulkAll {H : Type} : List (DataW H) → Nat
  | [] => 0
  | d :: r => uptoBulk d + uptoBulkAll r
def uptoBulkEntries {H : Type} : List (Lit × DataW H) → Nat
  | [] => 0
  | x :: r => uptoBulkEntry x + uptoBulkEntries r
def uptoBulkEntry {H : Type} : Lit × DataW H → Nat
  | (.string bytes, d) => bytes.length + uptoBulk d + 1
  | (_, d) => uptoBulk d + 1
 end
def uptoSmall : (H : Type) → List (DataW H) → Bool := fun _ ds => decide (uptoBulkAll ds ≤ 1048576)
def OpenSpec.upto (s : _root_.Go.ChangeSpec) : _root_.Go.OpenSpec := { _root_.Go.OpenSpec.ofChange s with cond := some uptoSmall }

/-- 'aquatintlaw01.GlyphSames', WHERE WHAT IT READS IS OF BULK AT MOST 1048576: true; the input reads as it did. -/
def glyphSamesUptoRow : OpenClaim := { program := "ytjldmlnohkknpaadoor", sum := "0760cbe05b0814afd5e387bed46090d8fcf42b82e404e36171f93adc17702e13", func := "aquatint/aquatintlaw01.GlyphSames", spec := "glyphSames", inPlace := ["internal/abi.NoEscape"], named := ["unicode/utf8.first", "unicode/utf8.acceptRanges"], apart := false, laid := [("unicode/utf8.acceptRanges", laid_unicode_utf8_acceptRanges), ("unicode/utf8.first", laid_unicode_utf8_first)], narrowed := true }
def GlyphSamesUptoSaid : Prop := glyphSamesUptoRow.holds Tryd.pinned (OpenSpec.upto glyphSamesSpec)

/-- 'aquatintlaw01.GlyphQuotes', WHERE WHAT IT READS IS OF BULK AT MOST 1048576: true; the input reads as it did. -/
def glyphQuotesUptoRow : OpenClaim := { program := "ytjldmlnohkknpaadoor", sum := "0760cbe05b0814afd5e387bed46090d8fcf42b82e404e36171f93adc17702e13", func := "aquatint/aquatintlaw01.GlyphQuotes", spec := "glyphQuotes", inPlace := ["internal/abi.NoEscape"], named := ["unicode/utf8.first", "unicode/utf8.acceptRanges"], apart := false, laid := [("unicode/utf8.acceptRanges", laid_unicode_utf8_acceptRanges), ("unicode/utf8.first", laid_unicode_utf8_first)], narrowed := true }
def GlyphQuotesUptoSaid : Prop := glyphQuotesUptoRow.holds Tryd.pinned (OpenSpec.upto glyphQuotesSpec)

/-- 'aquatintlaw01.GlyphCuts', WHERE WHAT IT READS IS OF BULK AT MOST 1048576: true; the input reads as it did. -/
def glyphCutsUptoRow : OpenClaim := { program := "ytjldmlnohkknpaadoor", sum := "0760cbe05b0814afd5e387bed46090d8fcf42b82e404e36171f93adc17702e13", func := "aquatint/aquatintlaw01.GlyphCuts", spec := "glyphCuts", inPlace := ["internal/abi.NoEscape"], named := ["unicode/utf8.first", "unicode/utf8.acceptRanges"], apart := false, laid := [("unicode/utf8.acceptRanges", laid_unicode_utf8_acceptRanges), ("unicode/utf8.first", laid_unicode_utf8_first)], narrowed := true }
def GlyphCutsUptoSaid : Prop := glyphCutsUptoRow.holds Tryd.pinned (OpenSpec.upto glyphCutsSpec)

/-- 'aquatintlaw01.GlyphParts', WHERE WHAT IT READS IS OF BULK AT MOST 1048576: true; the input reads as it did. -/
def glyphPartsUptoRow : OpenClaim := { program := "ytjldmlnohkknpaadoor", sum := "0760cbe05b0814afd5e387bed46090d8fcf42b82e404e36171f93adc17702e13", func := "aquatint/aquatintlaw01.GlyphParts", spec := "glyphParts", inPlace := ["internal/abi.NoEscape"], named := ["unicode/utf8.first", "unicode/utf8.acceptRanges"], apart := false, laid := [("unicode/utf8.acceptRanges", laid_unicode_utf8_acceptRanges), ("unicode/utf8.first", laid_unicode_utf8_first)], narrowed := true }
def GlyphPartsUptoSaid : Prop := glyphPartsUptoRow.holds Tryd.pinned (OpenSpec.upto glyphPartsSpec)

/-- 'aquatintlaw01.GlyphFolds', WHERE WHAT IT READS IS OF BULK AT MOST 1048576: true; the input reads as it did. -/
def glyphFoldsUptoRow : OpenClaim := { program := "ytjldmlnohkknpaadoor", sum := "0760cbe05b0814afd5e387bed46090d8fcf42b82e404e36171f93adc17702e13", func := "aquatint/aquatintlaw01.GlyphFolds", spec := "glyphFolds", inPlace := ["internal/abi.NoEscape"], unfollowed := true, recurses := true, named := ["unicode/utf8.first", "unicode/utf8.acceptRanges"], apart := false, laid := [("unicode/utf8.acceptRanges", laid_unicode_utf8_acceptRanges), ("unicode/utf8.first", laid_unicode_utf8_first)], narrowed := true }
def GlyphFoldsUptoSaid : Prop := glyphFoldsUptoRow.holds Tryd.pinned (OpenSpec.upto glyphFoldsSpec)

/-- 'aquatintlaw01.GlyphTexts', WHERE WHAT IT READS IS OF BULK AT MOST 1048576: true; the input reads as it did. -/
def glyphTextsUptoRow : OpenClaim := { program := "ytjldmlnohkknpaadoor", sum := "0760cbe05b0814afd5e387bed46090d8fcf42b82e404e36171f93adc17702e13", func := "aquatint/aquatintlaw01.GlyphTexts", spec := "glyphTexts", inPlace := ["internal/abi.NoEscape"], unfollowed := true, recurses := true, named := ["unicode/utf8.first", "unicode/utf8.acceptRanges"], apart := false, laid := [("unicode/utf8.acceptRanges", laid_unicode_utf8_acceptRanges), ("unicode/utf8.first", laid_unicode_utf8_first)], narrowed := true }
def GlyphTextsUptoSaid : Prop := glyphTextsUptoRow.holds Tryd.pinned (OpenSpec.upto glyphTextsSpec)

/-- 'aquatintlaw01.GlyphReads', WHERE WHAT IT READS IS OF BULK AT MOST 1048576: true; the input reads as it did. -/
def glyphReadsUptoRow : OpenClaim := { program := "ytjldmlnohkknpaadoor", sum := "0760cbe05b0814afd5e387bed46090d8fcf42b82e404e36171f93adc17702e13", func := "aquatint/aquatintlaw01.GlyphReads", spec := "glyphReads", inPlace := ["internal/abi.NoEscape"], named := ["unicode/utf8.first", "unicode/utf8.acceptRanges"], apart := false, laid := [("unicode/utf8.acceptRanges", laid_unicode_utf8_acceptRanges), ("unicode/utf8.first", laid_unicode_utf8_first)], narrowed := true }
def GlyphReadsUptoSaid : Prop := glyphReadsUptoRow.holds Tryd.pinned (OpenSpec.upto glyphReadsSpec)

/-- 'aquatintlaw01.GlyphBack', WHERE WHAT IT READS IS OF BULK AT MOST 1048576: true; the input reads as it did. -/
def glyphBackUptoRow : OpenClaim := { program := "ytjldmlnohkknpaadoor", sum := "0760cbe05b0814afd5e387bed46090d8fcf42b82e404e36171f93adc17702e13", func := "aquatint/aquatintlaw01.GlyphBack", spec := "glyphBack", inPlace := ["internal/abi.NoEscape"], named := ["unicode/utf8.first", "unicode/utf8.acceptRanges"], apart := false, laid := [("unicode/utf8.acceptRanges", laid_unicode_utf8_acceptRanges), ("unicode/utf8.first", laid_unicode_utf8_first)], narrowed := true }
def GlyphBackUptoSaid : Prop := glyphBackUptoRow.holds Tryd.pinned (OpenSpec.upto glyphBackSpec)

end Rows
end Go.Proofs.YtjldmlnohkknpaaDoor
