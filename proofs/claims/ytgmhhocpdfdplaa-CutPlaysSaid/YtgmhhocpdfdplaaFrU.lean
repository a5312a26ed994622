/- Package frame: Unit, Units. -/
import Derived.Test.YtgmhhocpdfdplaaGE
import Derived.BigQuiet
namespace Go.Proofs.Ytgmhhocpdfdplaa
open Go.RowKit
set_option maxRecDepth 100000
set_option maxHeartbeats 4000000
theorem fr_unit (F : Nat) (uw uh ac dn : Int) (w : World) (h : FrU w F uw uh ac dn) :
    Calls Try.prog 49 #[.pointer (some ⟨F, 0, none⟩)] w fun r w' => r = .returned (.tuple #[.int .i64 uw, .int .i64 uh]) ∧ Below w.heap.size w w' := by
  obtain ⟨pv, gv, v6, v7, bF⟩ := h
  have q4 := bF.cell 4
  have q5 := bF.cell 5
  go_enter Try.func49, Try.ntmps49
  go_upto_region 3 with fail
  go_quiet (fail)
  go_wp2
  go_ret2
  exact ⟨rfl, Below.drewN' (Below.refl _ _) _⟩
theorem fr_units (F : Nat) (uw uh ac dn : Int) (w : World) (h : FrU w F uw uh ac dn) :
    Calls Try.prog 130 #[.pointer (some ⟨F, 0, none⟩)] w fun r w' => r = .returned (.tuple #[.int .i64 ac, .int .i64 dn]) ∧ Below w.heap.size w w' := by
  obtain ⟨pv, gv, v6, v7, bF⟩ := h
  have q2 := bF.cell 2
  have q3 := bF.cell 3
  go_enter Try.func130, Try.ntmps130
  go_upto_region 3 with fail
  go_quiet (fail)
  go_wp2
  go_ret2
  exact ⟨rfl, Below.drewN' (Below.refl _ _) _⟩
end Go.Proofs.Ytgmhhocpdfdplaa
