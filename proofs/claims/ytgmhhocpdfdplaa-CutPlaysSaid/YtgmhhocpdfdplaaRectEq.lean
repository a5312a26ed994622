/- Rectangles compared. -/
import Derived.Test.YtgmhhocpdfdplaaGB
import Derived.Laws.StructEq
namespace Go.Proofs.Ytgmhhocpdfdplaa
open Go.RowKit
set_option maxRecDepth 100000
def rectVal (x : Int × Int × Int × Int) : Value := .agg #[.int .i64 x.1, .int .i64 x.2.1, .int .i64 x.2.2.1, .int .i64 x.2.2.2]
theorem neq_rect (x y : Int × Int × Int × Int) (w : World) : (binOp .neq 70 (rectVal x) (rectVal y)).run Try.prog w = .ok (.bool (decide (x ≠ y))) w := by
  have u3 := Try.underlying3
  have hS : Try.prog.underlying 70 = some (.struct (Try.prog.fieldsOf 70)) := by kernel_rfl
  have hp : Try.prog.stoodInHeld 70 = false := by kernel_rfl
  obtain ⟨x1, x2, x3, x4⟩ := x
  obtain ⟨y1, y2, y3, y4⟩ := y
  simp only [rectVal]
  rw [run_neq_struct, show (10000 : Nat) = 9999 + 1 from rfl, run_equalIn_struct w 9999 70 _ _ hS hp]
  simp only [Program.fieldsOf, Try.underlying70]
  go_simp
  by_cases h1 : x1 = y1 <;> by_cases h2 : x2 = y2 <;> by_cases h3 : x3 = y3 <;> by_cases h4 : x4 = y4 <;> simp [h1, h2, h3, h4]
theorem run_exec_neq_rect {o : Oper} {a : Act} {w : World} (ty : TypeId) (x y : Operand) (ho : o.op = .binOp .neq 70 x y ty) (p q : Int × Int × Int × Int) (hx : a.eval x = rectVal p) (hy : a.eval y = rectVal q) :
    (execOp a.eval o).run Try.prog w = .ok (.value (.bool (decide (p ≠ q)))) w := by
  have e := neq_rect p q w
  unfold rectVal at *
  unfold execOp
  simp only [ho, hx, hy, Sem.run_bind, Sem.run_pure, Result.andThen_ok, run_eqGuard_agg w .neq 70 x y _ _ (show Try.prog.eqGuardType Try.prog.depth 70 = false by kernel_rfl), e]
end Go.Proofs.Ytgmhhocpdfdplaa
