/- Entries compared: the reference's struct of three integers; the law's 'plain' and 'of'. -/
import Derived.Test.YtcdfamllamjpeaaPast
import Derived.Test.YtcdfamllamjpeaaDet2
import Derived.Laws.StructEq
namespace Go.Proofs.Ytcdfamllamjpeaa
open Go.RowKit
set_option maxRecDepth 100000
theorem neq_ent (x y : Pa.Ent) (w : World) : (binOp .neq 44 (Pa.val x) (Pa.val y)).run Try.prog w = .ok (.bool (decide (x ≠ y))) w := by
  have u3 := Try.underlying3
  have hS : Try.prog.underlying 44 = some (.struct (Try.prog.fieldsOf 44)) := by kernel_rfl
  have hp : Try.prog.stoodInHeld 44 = false := by kernel_rfl
  obtain ⟨x1, x2, x3⟩ := x
  obtain ⟨y1, y2, y3⟩ := y
  simp only [Pa.val]
  rw [run_neq_struct, show (10000 : Nat) = 9999 + 1 from rfl, run_equalIn_struct w 9999 44 _ _ hS hp]
  simp only [Program.fieldsOf, Try.underlying44]
  go_simp
  by_cases h1 : x1 = y1 <;> by_cases h2 : x2 = y2 <;> by_cases h3 : x3 = y3 <;> simp [h1, h2, h3]
theorem run_exec_neq_ent {o : Oper} {a : Act} {w : World} (ty : TypeId) (x y : Operand) (ho : o.op = .binOp .neq 44 x y ty) (p q : Pa.Ent) (hx : a.eval x = Pa.val p) (hy : a.eval y = Pa.val q) :
    (execOp a.eval o).run Try.prog w = .ok (.value (.bool (decide (p ≠ q)))) w := by
  have e := neq_ent p q w
  unfold Pa.val at *
  unfold execOp
  simp only [ho, hx, hy, Sem.run_bind, Sem.run_pure, Result.andThen_ok, run_eqGuard_agg w .neq 44 x y _ _ (show Try.prog.eqGuardType Try.prog.depth 44 = false by kernel_rfl), e]
theorem law_plain (x : Pa.Ent) (w : World) : Calls Try.prog 16 #[Pa.val x] w fun e w' => e = .returned (Pa.val x) ∧ Below w.heap.size w w' := by
  obtain ⟨N, hN⟩ : ∃ N, N = w.heap.size := ⟨_, rfl⟩
  have HN := Lib.hid hN
  rw [← hN]
  clear hN
  obtain ⟨x1, x2, x3⟩ := x
  simp only [Pa.val]
  go_enter Try.func16, Try.ntmps16
  go_upto_region 1 with fail
  refine wp_world (fun W => Blk W N #[.int .i64 x1, .int .i64 x2, .int .i64 x3] 29 ∧ Blk W (N + 1) #[.int .i64 0, .int .i64 0, .int .i64 0] 44 ∧ Below N w W) ⟨(Blk.new' _ _ _ HN.out).alloc _, Blk.new' _ _ _ (by rw [HN.out]; simp), ((Below.refl _ _).alloc (by rw [HN.out]; exact Nat.le_refl _) _).alloc (by rw [HN.out]; simp) _⟩ ?_
  rintro W0 ⟨b0, b1, hB⟩
  rw [← HN.out]
  have c0 := b0.cell 0
  have c1 := b0.cell 1
  have c2 := b0.cell 2
  go_wp2_with (refine wpList_store_row rfl 44 _ _ rfl (N+1) _ rfl rfl 44 _ b1 (by kernel_rfl) rfl (by simp [Value.oneCell']) ?_)
  refine bodyPost_ret (results_cell_row rfl _ _ (N + 1) 44 _ (0, 0) _ rfl (b1.row _) Try.underlying44 rfl (by kernel_rfl)) rfl ?_
  exact ⟨rfl, Below.setRow hB (by omega) _⟩
/- (w : World) : Calls Try.prog 19 #[.agg #[.int .u8 0, .int .i64 x.1, .int .i64 x.2.1, .int .i64 x.2.2]] w fun e w' => e = .returned (Pa.val x) -/
end Go.Proofs.Ytcdfamllamjpeaa
