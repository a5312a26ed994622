/- Package frame: up; Clone of parts kept as parts; the first part replaced. -/
import Derived.Test.YtgmhhocpdfdplaaFr1
import Derived.Test.YtgmhhocpdfdplaaClones
namespace Go.Proofs.Ytgmhhocpdfdplaa
open Go.RowKit
set_option maxRecDepth 100000
set_option maxHeartbeats 4000000
/-- A quotient, rounded up. -/
def upI (a b : Int) : Int := (a + b - 1) / b
theorem fr_up (a b : Int) (ha : 0 ≤ a) (ha2 : a ≤ 1000000) (hb : 1 ≤ b) (hb2 : b ≤ 1000000) (w : World) : Calls Try.prog 139 #[.int .i64 a, .int .i64 b] w fun r w' => r = .returned (.int .i64 (upI a b)) ∧ w = w' := by
  have hb0 : b ≠ 0 := by omega
  have hbm : b ≠ -1 := by omega
  have e1 : IntKind.i64.wrap (a + b) = a + b := IntWalk.i64_in _ (by omega)
  have e2 : IntKind.i64.wrap (a + b - 1) = a + b - 1 := IntWalk.i64_in _ (by omega)
  have h0 : 0 ≤ a + b - 1 := by omega
  have hq : (a + b - 1) / b ≤ a + b - 1 := Int.ediv_le_self _ h0
  have hq0 : 0 ≤ (a + b - 1) / b := Int.ediv_nonneg h0 (by omega)
  unfold upI
  go_enter Try.func139, Try.ntmps139
  go_wp2
  go_ret
  exact ⟨rfl, rfl⟩
end Go.Proofs.Ytgmhhocpdfdplaa
