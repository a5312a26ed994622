/-
  No cell of these rows narrows 'for every input' (looked for: loops, veiled, ifaces, maps, wideKeys, modest, calm, conditions, laid).
  DERIVED. THE GIVEN ROWS OF THIS SEAT. 5 by the template 'for every input the law returns true; each argument reads behind the call as it read before'; 0 by the template 'total and deterministic' (their statements: YtcdfamllamjpeaaTotals.lean).
  GIVEN WITH THE SEED: the statements are not yours to turn. If you find one false, say at which input.
  Laid BY PROGRAM, IN A SANDBOX (cutbox-rows.mjs): the forced cells as the released guide's own fill.sh prints them over the translation 5d37409f1a0af3bf… (all of the seat's roots in one cut). By AI agents, Wed Nov 11 2026. No macro, syntax, notation, axiom, sorry.
-/
import Derived.Test.YtcdfamllamjpeaaChecked
import GoSem.Claim
import GoSem.ClaimJoined
import GoSem.ClaimMapViews
import Derived.JoinedTies
import Derived.KernelRfl
namespace Go.Proofs.Ytcdfamllamjpeaa
/- THE CELL 'sum', in the pinned program and in every row, IS THE sha256 OF THE DUMP (.gsa) THAT YtcdfamllamjpeaaProg.lean LOADS. Nothing in Lean hashes anything: it is a label: what it is worth is what the hold of that sum in a sandbox is worth. -/
noncomputable def Try.pinned : Pinned := { name := "ytcdfamllamjpeaa", sum := "5d37409f1a0af3bff56c7067c7894a9ca00a31e7eac86607645a5b04beecf93b", checked := Try.checked }
namespace Rows
def none {H : Type} : Left H := { results := [], args := [] }

/-- 'aquatintlaw22.PastBack': WHATEVER THE INPUT: true; the input reads as it did. -/
def pastBackSpec : ChangeSpec := { name := "pastBack", fn := fun _ => fun
  | [d1, d2] => { results := [.lit (.bool true)], args := [d1, d2] }
  | _ => none }
def pastBackRow : OpenClaim := { program := "ytcdfamllamjpeaa", sum := "5d37409f1a0af3bff56c7067c7894a9ca00a31e7eac86607645a5b04beecf93b", func := "aquatint/aquatintlaw22.PastBack", spec := "pastBack", apart := false }
def PastBackSaid : Prop := pastBackRow.holds Try.pinned (OpenSpec.ofChange pastBackSpec)

/-- ITS FALSE NEIGHBOUR: 'it returns false'. Refute it at one input. -/
def pastBackWrong : ChangeSpec := { name := "pastBack", fn := fun _ => fun
  | [d1, d2] => { results := [.lit (.bool false)], args := [d1, d2] }
  | _ => none }
def PastBackWrongFalsely : Prop := pastBackRow.holds Try.pinned (OpenSpec.ofChange pastBackWrong)

/-- 'aquatintlaw22.PastEldest': WHATEVER THE INPUT: true; the input reads as it did. -/
def pastEldestSpec : ChangeSpec := { name := "pastEldest", fn := fun _ => fun
  | [d] => { results := [.lit (.bool true)], args := [d] }
  | _ => none }
def pastEldestRow : OpenClaim := { program := "ytcdfamllamjpeaa", sum := "5d37409f1a0af3bff56c7067c7894a9ca00a31e7eac86607645a5b04beecf93b", func := "aquatint/aquatintlaw22.PastEldest", spec := "pastEldest", apart := false }
def PastEldestSaid : Prop := pastEldestRow.holds Try.pinned (OpenSpec.ofChange pastEldestSpec)

/-- ITS FALSE NEIGHBOUR: 'it returns false'. Refute it at one input. -/
def pastEldestWrong : ChangeSpec := { name := "pastEldest", fn := fun _ => fun
  | [d] => { results := [.lit (.bool false)], args := [d] }
  | _ => none }
def PastEldestWrongFalsely : Prop := pastEldestRow.holds Try.pinned (OpenSpec.ofChange pastEldestWrong)

/-- 'aquatintlaw22.PastAll': WHATEVER THE INPUT: true; the input reads as it did. -/
def pastAllSpec : ChangeSpec := { name := "pastAll", fn := fun _ => fun
  | [d1, d2, d3] => { results := [.lit (.bool true)], args := [d1, d2, d3] }
  | _ => none }
def pastAllRow : OpenClaim := { program := "ytcdfamllamjpeaa", sum := "5d37409f1a0af3bff56c7067c7894a9ca00a31e7eac86607645a5b04beecf93b", func := "aquatint/aquatintlaw22.PastAll", spec := "pastAll", unfollowed := true, recurses := true, apart := false }
def PastAllSaid : Prop := pastAllRow.holds Try.pinned (OpenSpec.ofChange pastAllSpec)

/-- ITS FALSE NEIGHBOUR: 'it returns false'. Refute it at one input. -/
def pastAllWrong : ChangeSpec := { name := "pastAll", fn := fun _ => fun
  | [d1, d2, d3] => { results := [.lit (.bool false)], args := [d1, d2, d3] }
  | _ => none }
def PastAllWrongFalsely : Prop := pastAllRow.holds Try.pinned (OpenSpec.ofChange pastAllWrong)

/-- 'aquatintlaw22.PastPlays': WHATEVER THE INPUT: true; the input reads as it did. -/
def pastPlaysSpec : ChangeSpec := { name := "pastPlays", fn := fun _ => fun
  | [d1, d2] => { results := [.lit (.bool true)], args := [d1, d2] }
  | _ => none }
def pastPlaysRow : OpenClaim := { program := "ytcdfamllamjpeaa", sum := "5d37409f1a0af3bff56c7067c7894a9ca00a31e7eac86607645a5b04beecf93b", func := "aquatint/aquatintlaw22.PastPlays", spec := "pastPlays", unfollowed := true, recurses := true, apart := false }
def PastPlaysSaid : Prop := pastPlaysRow.holds Try.pinned (OpenSpec.ofChange pastPlaysSpec)

/-- ITS FALSE NEIGHBOUR: 'it returns false'. Refute it at one input. -/
def pastPlaysWrong : ChangeSpec := { name := "pastPlays", fn := fun _ => fun
  | [d1, d2] => { results := [.lit (.bool false)], args := [d1, d2] }
  | _ => none }
def PastPlaysWrongFalsely : Prop := pastPlaysRow.holds Try.pinned (OpenSpec.ofChange pastPlaysWrong)

/-- 'aquatintlaw22.PastNil': WHATEVER THE INPUT: true; the input reads as it did. -/
def pastNilSpec : ChangeSpec := { name := "pastNil", fn := fun _ => fun
  | [d] => { results := [.lit (.bool true)], args := [d] }
  | _ => none }
def pastNilRow : OpenClaim := { program := "ytcdfamllamjpeaa", sum := "5d37409f1a0af3bff56c7067c7894a9ca00a31e7eac86607645a5b04beecf93b", func := "aquatint/aquatintlaw22.PastNil", spec := "pastNil", unfollowed := true, recurses := true, apart := false }
def PastNilSaid : Prop := pastNilRow.holds Try.pinned (OpenSpec.ofChange pastNilSpec)

/-- ITS FALSE NEIGHBOUR: 'it returns false'. Refute it at one input. -/
def pastNilWrong : ChangeSpec := { name := "pastNil", fn := fun _ => fun
  | [d] => { results := [.lit (.bool false)], args := [d] }
  | _ => none }
def PastNilWrongFalsely : Prop := pastNilRow.holds Try.pinned (OpenSpec.ofChange pastNilWrong)

/- THE SECOND FORM. 'bulk': how many values and letters a reading holds, each counted each time it is reached (what is shared counts as often as it is met; a slice's spare places count too). A statement '..UptoSaid' is the law's where the arguments, and the package variables that the reading takes, are together of bulk at most 1048576: NARROWER than '..Said'. Prove '..Said' where nothing that the law and all that it calls make is longer than what came in: it says more and counts as full. Else prove '..UptoSaid'. A law counts once. -/
mutual
def uptoBulk {H : Type} : DataW H → Nat
  | .lit (.string bytes) => bytes.length + 1
  | .lit _ => 1
  | .nil => 1
  | .ptr d => uptoBulk d + 1
  | .slice elems spare => uptoBulkAll elems + uptoBulkAll spare + 1
  | .agg parts => uptoBulkAll parts + 1
  | .iface _ d => uptoBulk d + 1
  | .map entries => uptoBulkEntries entries + 1
  | .held _ => 1
def uptoBulkAll {H : Type} : List (DataW H) → Nat
  | [] => 0
  | d :: r => uptoBulk d + uptoBulkAll r
def uptoBulkEntries {H : Type} : List (Lit × DataW H) → Nat
  | [] => 0
  | x :: r => uptoBulkEntry x + uptoBulkEntries r
def uptoBulkEntry {H : Type} : Lit × DataW H → Nat
  | (.string bytes, d) => bytes.length + uptoBulk d + 1
  | (_, d) => uptoBulk d + 1
 end
def uptoSmall : (H : Type) → List (DataW H) → Bool := fun _ ds => decide (uptoBulkAll ds ≤ 1048576)
def OpenSpec.upto (s : _root_.Go.ChangeSpec) : _root_.Go.OpenSpec := { _root_.Go.OpenSpec.ofChange s with cond := some uptoSmall }

/-- 'aquatintlaw22.PastBack', WHERE WHAT IT READS IS OF BULK AT MOST 1048576: true; the input reads as it did. -/
def pastBackUptoRow : OpenClaim := { program := "ytcdfamllamjpeaa", sum := "5d37409f1a0af3bff56c7067c7894a9ca00a31e7eac86607645a5b04beecf93b", func := "aquatint/aquatintlaw22.PastBack", spec := "pastBack", apart := false, narrowed := true }
def PastBackUptoSaid : Prop := pastBackUptoRow.holds Try.pinned (OpenSpec.upto pastBackSpec)

/-- 'aquatintlaw22.PastEldest', WHERE WHAT IT READS IS OF BULK AT MOST 1048576: true; the input reads as it did. -/
def pastEldestUptoRow : OpenClaim := { program := "ytcdfamllamjpeaa", sum := "5d37409f1a0af3bff56c7067c7894a9ca00a31e7eac86607645a5b04beecf93b", func := "aquatint/aquatintlaw22.PastEldest", spec := "pastEldest", apart := false, narrowed := true }
def PastEldestUptoSaid : Prop := pastEldestUptoRow.holds Try.pinned (OpenSpec.upto pastEldestSpec)

/-- 'aquatintlaw22.PastAll', WHERE WHAT IT READS IS OF BULK AT MOST 1048576: true; the input reads as it did. -/
def pastAllUptoRow : OpenClaim := { program := "ytcdfamllamjpeaa", sum := "5d37409f1a0af3bff56c7067c7894a9ca00a31e7eac86607645a5b04beecf93b", func := "aquatint/aquatintlaw22.PastAll", spec := "pastAll", unfollowed := true, recurses := true, apart := false, narrowed := true }
def PastAllUptoSaid : Prop := pastAllUptoRow.holds Try.pinned (OpenSpec.upto pastAllSpec)

/-- 'aquatintlaw22.PastPlays', WHERE WHAT IT READS IS OF BULK AT MOST 1048576: true; the input reads as it did. -/
def pastPlaysUptoRow : OpenClaim := { program := "ytcdfamllamjpeaa", sum := "5d37409f1a0af3bff56c7067c7894a9ca00a31e7eac86607645a5b04beecf93b", func := "aquatint/aquatintlaw22.PastPlays", spec := "pastPlays", unfollowed := true, recurses := true, apart := false, narrowed := true }
def PastPlaysUptoSaid : Prop := pastPlaysUptoRow.holds Try.pinned (OpenSpec.upto pastPlaysSpec)

/-- 'aquatintlaw22.PastNil', WHERE WHAT IT READS IS OF BULK AT MOST 1048576: true; the input reads as it did. -/
def pastNilUptoRow : OpenClaim := { program := "ytcdfamllamjpeaa", sum := "5d37409f1a0af3bff56c7067c7894a9ca00a31e7eac86607645a5b04beecf93b", func := "aquatint/aquatintlaw22.PastNil", spec := "pastNil", unfollowed := true, recurses := true, apart := false, narrowed := true }
def PastNilUptoSaid : Prop := pastNilUptoRow.holds Try.pinned (OpenSpec.upto pastNilSpec)

end Rows
end Go.Proofs.Ytcdfamllamjpeaa
