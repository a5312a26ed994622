/- The two tables of unicode/utf8, read off the laid list. -/
import Derived.Test.YtjldmlnohkknpaaDoorRows
import Derived.Test.YtjldmlnohkknpaaDoorGlyph1
import Derived.Lib.LaidU8
import Derived.MakeChecks
namespace Go.Proofs.YtjldmlnohkknpaaDoor
open Go.RowKit Go.Lib
set_option maxRecDepth 100000
def tabList : List (String × DataW Unit) := [("unicode/utf8.acceptRanges", Lib.acceptData), ("unicode/utf8.first", Lib.firstData)]
theorem tabList_eq : Rows.glyphQuotesRow.laid = tabList := by kernel_rfl
theorem tabs_of {W : World} (hL : laidMetH Tryd.prog Rows.glyphQuotesRow.laid W) : Tabs W := by
  rw [tabList_eq] at hL
  have hL' : laidMet Tryd.prog tabList W := by rw [← MakeChecks.laidMetH_plain _ _ _ (by kernel_rfl)]; exact hL
  exact utf8Tabs_of_reads { Tryd.lays260 with } ⟨by kernel_rfl, by kernel_rfl, by kernel_rfl, by kernel_rfl, by kernel_rfl, by kernel_rfl, by kernel_rfl⟩ (Lib.laidMet.reads hL' (.tail _ (.head _))) (Lib.laidMet.reads hL' (.head _))
end Go.Proofs.YtjldmlnohkknpaaDoor
