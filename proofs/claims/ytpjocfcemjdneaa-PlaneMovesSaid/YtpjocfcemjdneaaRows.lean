/-
  No cell of these rows narrows 'for every input' (looked for: loops, veiled, ifaces, maps, wideKeys, modest, calm, conditions, laid).
  DERIVED. THE GIVEN ROWS OF THIS SEAT. 6 by the template 'for every input the law returns true; each argument reads behind the call as it read before'; 0 by the template 'total and deterministic' (their statements: YtpjocfcemjdneaaTotals.lean).
  GIVEN WITH THE SEED: the statements are not yours to turn. If you find one false, say at which input.
  Laid BY PROGRAM, IN A SANDBOX (cutbox-rows.mjs): the forced cells as the released guide's own fill.sh prints them over the translation e58295ca3254af31… (all of the seat's roots in one cut). By AI agents, Wed Nov 11 2026. No macro, syntax, notation, axiom, sorry.
-/
import Derived.Test.YtpjocfcemjdneaaChecked
import GoSem.Claim
import GoSem.ClaimJoined
import GoSem.ClaimMapViews
import Derived.JoinedTies
import Derived.KernelRfl
namespace Go.Proofs.Ytpjocfcemjdneaa
/- THE CELL 'sum', in the pinned program and in every row, IS THE sha256 OF THE DUMP (.gsa) THAT YtpjocfcemjdneaaProg.lean LOADS. Nothing in Lean hashes anything: it is a label: what it is worth is what the hold of that sum in a sandbox is worth. -/
noncomputable def Try.pinned : Pinned := { name := "ytpjocfcemjdneaa", sum := "e58295ca3254af3179837f412955d213dd3439cb6d0a751c29ea5173f0186778", checked := Try.checked }
namespace Rows
def none {H : Type} : Left H := { results := [], args := [] }

/-- 'aquatintlaw10.PlaneAll': WHATEVER THE INPUT: true; the input reads as it did. -/
def planeAllSpec : ChangeSpec := { name := "planeAll", fn := fun _ => fun
  | [d1, d2] => { results := [.lit (.bool true)], args := [d1, d2] }
  | _ => none }
def planeAllRow : OpenClaim := { program := "ytpjocfcemjdneaa", sum := "e58295ca3254af3179837f412955d213dd3439cb6d0a751c29ea5173f0186778", func := "aquatint/aquatintlaw10.PlaneAll", spec := "planeAll", unfollowed := true, recurses := true, apart := false }
def PlaneAllSaid : Prop := planeAllRow.holds Try.pinned (OpenSpec.ofChange planeAllSpec)

/-- ITS FALSE NEIGHBOUR: 'it returns false'. Refute it at one input. -/
def planeAllWrong : ChangeSpec := { name := "planeAll", fn := fun _ => fun
  | [d1, d2] => { results := [.lit (.bool false)], args := [d1, d2] }
  | _ => none }
def PlaneAllWrongFalsely : Prop := planeAllRow.holds Try.pinned (OpenSpec.ofChange planeAllWrong)

/-- 'aquatintlaw10.PlaneWindows': WHATEVER THE INPUT: true; the input reads as it did. -/
def planeWindowsSpec : ChangeSpec := { name := "planeWindows", fn := fun _ => fun
  | [d1, d2, d3] => { results := [.lit (.bool true)], args := [d1, d2, d3] }
  | _ => none }
def planeWindowsRow : OpenClaim := { program := "ytpjocfcemjdneaa", sum := "e58295ca3254af3179837f412955d213dd3439cb6d0a751c29ea5173f0186778", func := "aquatint/aquatintlaw10.PlaneWindows", spec := "planeWindows", apart := false }
def PlaneWindowsSaid : Prop := planeWindowsRow.holds Try.pinned (OpenSpec.ofChange planeWindowsSpec)

/-- ITS FALSE NEIGHBOUR: 'it returns false'. Refute it at one input. -/
def planeWindowsWrong : ChangeSpec := { name := "planeWindows", fn := fun _ => fun
  | [d1, d2, d3] => { results := [.lit (.bool false)], args := [d1, d2, d3] }
  | _ => none }
def PlaneWindowsWrongFalsely : Prop := planeWindowsRow.holds Try.pinned (OpenSpec.ofChange planeWindowsWrong)

/-- 'aquatintlaw10.PlaneSheets': WHATEVER THE INPUT: true; the input reads as it did. -/
def planeSheetsSpec : ChangeSpec := { name := "planeSheets", fn := fun _ => fun
  | [d1, d2, d3, d4] => { results := [.lit (.bool true)], args := [d1, d2, d3, d4] }
  | _ => none }
def planeSheetsRow : OpenClaim := { program := "ytpjocfcemjdneaa", sum := "e58295ca3254af3179837f412955d213dd3439cb6d0a751c29ea5173f0186778", func := "aquatint/aquatintlaw10.PlaneSheets", spec := "planeSheets", apart := false }
def PlaneSheetsSaid : Prop := planeSheetsRow.holds Try.pinned (OpenSpec.ofChange planeSheetsSpec)

/-- ITS FALSE NEIGHBOUR: 'it returns false'. Refute it at one input. -/
def planeSheetsWrong : ChangeSpec := { name := "planeSheets", fn := fun _ => fun
  | [d1, d2, d3, d4] => { results := [.lit (.bool false)], args := [d1, d2, d3, d4] }
  | _ => none }
def PlaneSheetsWrongFalsely : Prop := planeSheetsRow.holds Try.pinned (OpenSpec.ofChange planeSheetsWrong)

/-- 'aquatintlaw10.PlaneCuts': WHATEVER THE INPUT: true; the input reads as it did. -/
def planeCutsSpec : ChangeSpec := { name := "planeCuts", fn := fun _ => fun
  | [d1, d2, d3] => { results := [.lit (.bool true)], args := [d1, d2, d3] }
  | _ => none }
def planeCutsRow : OpenClaim := { program := "ytpjocfcemjdneaa", sum := "e58295ca3254af3179837f412955d213dd3439cb6d0a751c29ea5173f0186778", func := "aquatint/aquatintlaw10.PlaneCuts", spec := "planeCuts", apart := false }
def PlaneCutsSaid : Prop := planeCutsRow.holds Try.pinned (OpenSpec.ofChange planeCutsSpec)

/-- ITS FALSE NEIGHBOUR: 'it returns false'. Refute it at one input. -/
def planeCutsWrong : ChangeSpec := { name := "planeCuts", fn := fun _ => fun
  | [d1, d2, d3] => { results := [.lit (.bool false)], args := [d1, d2, d3] }
  | _ => none }
def PlaneCutsWrongFalsely : Prop := planeCutsRow.holds Try.pinned (OpenSpec.ofChange planeCutsWrong)

/-- 'aquatintlaw10.PlanePaints': WHATEVER THE INPUT: true; the input reads as it did. -/
def planePaintsSpec : ChangeSpec := { name := "planePaints", fn := fun _ => fun
  | [d1, d2, d3] => { results := [.lit (.bool true)], args := [d1, d2, d3] }
  | _ => none }
def planePaintsRow : OpenClaim := { program := "ytpjocfcemjdneaa", sum := "e58295ca3254af3179837f412955d213dd3439cb6d0a751c29ea5173f0186778", func := "aquatint/aquatintlaw10.PlanePaints", spec := "planePaints", apart := false }
def PlanePaintsSaid : Prop := planePaintsRow.holds Try.pinned (OpenSpec.ofChange planePaintsSpec)

/-- ITS FALSE NEIGHBOUR: 'it returns false'. Refute it at one input. -/
def planePaintsWrong : ChangeSpec := { name := "planePaints", fn := fun _ => fun
  | [d1, d2, d3] => { results := [.lit (.bool false)], args := [d1, d2, d3] }
  | _ => none }
def PlanePaintsWrongFalsely : Prop := planePaintsRow.holds Try.pinned (OpenSpec.ofChange planePaintsWrong)

/-- 'aquatintlaw10.PlaneMoves': WHATEVER THE INPUT: true; the input reads as it did. -/
def planeMovesSpec : ChangeSpec := { name := "planeMoves", fn := fun _ => fun
  | [d1, d2, d3] => { results := [.lit (.bool true)], args := [d1, d2, d3] }
  | _ => none }
def planeMovesRow : OpenClaim := { program := "ytpjocfcemjdneaa", sum := "e58295ca3254af3179837f412955d213dd3439cb6d0a751c29ea5173f0186778", func := "aquatint/aquatintlaw10.PlaneMoves", spec := "planeMoves", unfollowed := true, recurses := true, apart := false }
def PlaneMovesSaid : Prop := planeMovesRow.holds Try.pinned (OpenSpec.ofChange planeMovesSpec)

/-- ITS FALSE NEIGHBOUR: 'it returns false'. Refute it at one input. -/
def planeMovesWrong : ChangeSpec := { name := "planeMoves", fn := fun _ => fun
  | [d1, d2, d3] => { results := [.lit (.bool false)], args := [d1, d2, d3] }
  | _ => none }
def PlaneMovesWrongFalsely : Prop := planeMovesRow.holds Try.pinned (OpenSpec.ofChange planeMovesWrong)

/- THE SECOND FORM. 'bulk': how many values and letters a reading holds, each counted each time it is reached (what is shared counts as often as it is met; a slice's spare places count too). A statement '..UptoSaid' is the law's where the arguments, and the package variables that the reading takes, are together of bulk at most 1048576: NARROWER than '..Said'. Prove '..Said' where nothing that the law and all that it calls make is longer than what came in: it says more and counts as full. Else prove '..UptoSaid'. A law counts once. -/
mutual
def uptoBulk {H : Type} : DataW H → Nat
  | .lit (.string bytes) => bytes.length + 1
  | .lit _ => 1
  | .nil => 1
  | .ptr d => uptoBulk d + 1
  | .slice elems spare => uptoBulkAll elems + uptoBulkAll spare + 1
  | .agg parts => uptoBulkAll parts + 1
  | .iface _ d => uptoBulk d + 1
  | .map entries => uptoBulkEntries entries + 1
  | .held _ => 1
def uptoBulkAll {H : Type} : List (DataW H) → Nat
  | [] => 0
  | d :: r => uptoBulk d + uptoBulkAll r
def uptoBulkEntries {H : Type} : List (Lit × DataW H) → Nat
  | [] => 0
  | x :: r => uptoBulkEntry x + uptoBulkEntries r
def uptoBulkEntry {H : Type} : Lit × DataW H → Nat
  | (.string bytes, d) => bytes.length + uptoBulk d + 1
  | (_, d) => uptoBulk d + 1
 end
def uptoSmall : (H : Type) → List (DataW H) → Bool := fun _ ds => decide (uptoBulkAll ds ≤ 1048576)
def OpenSpec.upto (s : _root_.Go.ChangeSpec) : _root_.Go.OpenSpec := { _root_.Go.OpenSpec.ofChange s with cond := some uptoSmall }

/-- 'aquatintlaw10.PlaneAll', WHERE WHAT IT READS IS OF BULK AT MOST 1048576: true; the input reads as it did. -/
def planeAllUptoRow : OpenClaim := { program := "ytpjocfcemjdneaa", sum := "e58295ca3254af3179837f412955d213dd3439cb6d0a751c29ea5173f0186778", func := "aquatint/aquatintlaw10.PlaneAll", spec := "planeAll", unfollowed := true, recurses := true, apart := false, narrowed := true }
def PlaneAllUptoSaid : Prop := planeAllUptoRow.holds Try.pinned (OpenSpec.upto planeAllSpec)

/-- 'aquatintlaw10.PlaneWindows', WHERE WHAT IT READS IS OF BULK AT MOST 1048576: true; the input reads as it did. -/
def planeWindowsUptoRow : OpenClaim := { program := "ytpjocfcemjdneaa", sum := "e58295ca3254af3179837f412955d213dd3439cb6d0a751c29ea5173f0186778", func := "aquatint/aquatintlaw10.PlaneWindows", spec := "planeWindows", apart := false, narrowed := true }
def PlaneWindowsUptoSaid : Prop := planeWindowsUptoRow.holds Try.pinned (OpenSpec.upto planeWindowsSpec)

/-- 'aquatintlaw10.PlaneSheets', WHERE WHAT IT READS IS OF BULK AT MOST 1048576: true; the input reads as it did. -/
def planeSheetsUptoRow : OpenClaim := { program := "ytpjocfcemjdneaa", sum := "e58295ca3254af3179837f412955d213dd3439cb6d0a751c29ea5173f0186778", func := "aquatint/aquatintlaw10.PlaneSheets", spec := "planeSheets", apart := false, narrowed := true }
def PlaneSheetsUptoSaid : Prop := planeSheetsUptoRow.holds Try.pinned (OpenSpec.upto planeSheetsSpec)

/-- 'aquatintlaw10.PlaneCuts', WHERE WHAT IT READS IS OF BULK AT MOST 1048576: true; the input reads as it did. -/
def planeCutsUptoRow : OpenClaim := { program := "ytpjocfcemjdneaa", sum := "e58295ca3254af3179837f412955d213dd3439cb6d0a751c29ea5173f0186778", func := "aquatint/aquatintlaw10.PlaneCuts", spec := "planeCuts", apart := false, narrowed := true }
def PlaneCutsUptoSaid : Prop := planeCutsUptoRow.holds Try.pinned (OpenSpec.upto planeCutsSpec)

/-- 'aquatintlaw10.PlanePaints', WHERE WHAT IT READS IS OF BULK AT MOST 1048576: true; the input reads as it did. -/
def planePaintsUptoRow : OpenClaim := { program := "ytpjocfcemjdneaa", sum := "e58295ca3254af3179837f412955d213dd3439cb6d0a751c29ea5173f0186778", func := "aquatint/aquatintlaw10.PlanePaints", spec := "planePaints", apart := false, narrowed := true }
def PlanePaintsUptoSaid : Prop := planePaintsUptoRow.holds Try.pinned (OpenSpec.upto planePaintsSpec)

/-- 'aquatintlaw10.PlaneMoves', WHERE WHAT IT READS IS OF BULK AT MOST 1048576: true; the input reads as it did. -/
def planeMovesUptoRow : OpenClaim := { program := "ytpjocfcemjdneaa", sum := "e58295ca3254af3179837f412955d213dd3439cb6d0a751c29ea5173f0186778", func := "aquatint/aquatintlaw10.PlaneMoves", spec := "planeMoves", unfollowed := true, recurses := true, apart := false, narrowed := true }
def PlaneMovesUptoSaid : Prop := planeMovesUptoRow.holds Try.pinned (OpenSpec.upto planeMovesSpec)

end Rows
end Go.Proofs.Ytpjocfcemjdneaa
