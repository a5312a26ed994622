/- Steps for whole arrays, in a region that draws its order and in one that does not: loads, comparisons. Over any program. -/
import Derived.Test.YtgmhhocpdfdplaaArrEq
import Derived.Test.YtgmhhocpdfdplaaDet
namespace Go.Proofs.Ytgmhhocpdfdplaa
open Go.RowKit
section
variable {P : Program} {ops : Array Oper} {S : World → Prop} {F : Act → Prop} {o : Oper} {rest : List Oper} {a : Act}
theorem run_exec_load_row {w : World} (ty : TypeId) (x : Operand) (ho : o.op = .load ty x) (g : Nat) (hx : a.eval x = .pointer (some ⟨g, 0, none⟩)) (t : TypeId) (cs : Array Value) (d : TypeDesc) (hb : Blk w g cs t)
    (hu : P.underlying ty = some d) (hd : (match d with | .struct _ | .array _ _ => true | _ => false) = true) (hi : (P.info? ty).map (·.size) = some cs.size) :
    (execOp a.eval o).run P w = .ok (.value (.agg cs)) w := by
  unfold execOp
  simp only [ho, hx, Instr.loadAt, Instr.sureAddr, Sem.run_bind, Sem.run_pure, Result.andThen_ok, run_loadVar_row w g t ty cs (0, 0) d hb hu hd hi]
theorem det_load_row (hw : Region.wanted o (yielded ops a.tmps) = true) (ty : TypeId) (x : Operand) (ho : o.op = .load ty x) (g : Nat) (hx : a.eval x = .pointer (some ⟨g, 0, none⟩)) (t : TypeId) (cs : Array Value) (d : TypeDesc)
    (hS : ∀ w, S w → Blk w g cs t) (hu : P.underlying ty = some d) (hd : (match d with | .struct _ | .array _ _ => true | _ => false) = true) (hi : (P.info? ty).map (·.size) = some cs.size)
    (k : detList P ops S F rest (a.put o.dst (.agg cs))) : detList P ops S F (o :: rest) a :=
  det_pure hw (fun w hS' => run_exec_load_row ty x ho g hx t cs d (hS w hS') hu hd hi) k
theorem run_exec_eql_ints {w : World} (t ty : TypeId) (x y : Operand) (ho : o.op = .binOp .eql t x y ty) (e : TypeId) (n : Nat) (kd : IntKind) (xs ys : List Int) (hx : a.eval x = .agg (ints kd xs)) (hy : a.eval y = .agg (ints kd ys))
    (ht : P.underlying t = some (.array n e)) (he : P.underlying e = some (.int kd)) (hs : (P.info? e).map (·.size) = some 1) (hlx : xs.length = n) (hly : ys.length = n) (hm : P.eqGuardType P.depth t = false) :
    (execOp a.eval o).run P w = .ok (.value (.bool (decide (xs = ys)))) w := by
  unfold execOp
  simp only [ho, hx, hy, Sem.run_bind, Sem.run_pure, Result.andThen_ok, run_eqGuard_agg w .eql t x y _ _ hm, run_eql_ints w n t e kd xs ys ht he hs hlx hly]
theorem run_exec_neq_ints {w : World} (t ty : TypeId) (x y : Operand) (ho : o.op = .binOp .neq t x y ty) (e : TypeId) (n : Nat) (kd : IntKind) (xs ys : List Int) (hx : a.eval x = .agg (ints kd xs)) (hy : a.eval y = .agg (ints kd ys))
    (ht : P.underlying t = some (.array n e)) (he : P.underlying e = some (.int kd)) (hs : (P.info? e).map (·.size) = some 1) (hlx : xs.length = n) (hly : ys.length = n) (hm : P.eqGuardType P.depth t = false) :
    (execOp a.eval o).run P w = .ok (.value (.bool (!decide (xs = ys)))) w := by
  unfold execOp
  simp only [ho, hx, hy, Sem.run_bind, Sem.run_pure, Result.andThen_ok, run_eqGuard_agg w .neq t x y _ _ hm, run_neq_ints w n t e kd xs ys ht he hs hlx hly]
end
end Go.Proofs.Ytgmhhocpdfdplaa
