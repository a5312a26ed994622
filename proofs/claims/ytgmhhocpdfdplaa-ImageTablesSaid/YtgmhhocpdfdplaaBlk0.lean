/- A block [64]int16, made of noughts: alloc and build with the cells said as a list. -/
import Derived.Test.YtgmhhocpdfdplaaSheet
import Derived.Great.Walk
namespace Go.Proofs.Ytgmhhocpdfdplaa
open Go.RowKit
set_option maxRecDepth 100000
set_option maxHeartbeats 4000000
theorem run_alloc_blk {o : Oper} {a : Act} (w : World) (ho : o.op = .alloc 57) : (execOp a.eval o).run Try.prog w = .ok (.value (.pointer (some ⟨w.heap.size, 0, none⟩))) (w.alloc (.cells (ints .i16 (List.replicate 64 0)) 57)) := by
  have h4 : ((Try.prog.info? 57).bind (fun i => i.zero)) = some (.agg (ints .i16 (List.replicate 64 0))) := by kernel_rfl
  obtain ⟨i, hi⟩ : ∃ i, Try.prog.info? 57 = some i := ⟨_, rfl⟩
  rw [hi] at h4
  simp only [Option.bind_some] at h4
  unfold execOp
  simp only [ho]
  have e0 : (Value.agg (ints .i16 (List.replicate 64 0))).cells = ints .i16 (List.replicate 64 0) := rfl
  generalize List.replicate 64 (0 : Int) = z at *
  simp [Instr.alloc, zeroValue, typeInfo, hi, h4, newVar, newRow, e0]
theorem run_exec_load_at {P : Program} {o : Oper} {a : Act} {w : World} (ty : TypeId) (x : Operand) (ho : o.op = .load ty x) (ad : Addr) (hx : a.eval x = .pointer (some ad)) (cs : List Value) (d : TypeDesc) (hc : ∀ j v, cs[j]? = some v → w.cell? (ad.add j) = some v)
    (hu : P.underlying ty = some d) (hd : d.isRow = true) (hi : (P.info? ty).map (·.size) = some cs.length) : (execOp a.eval o).run P w = .ok (.value (.agg cs.toArray)) w := by
  have hl : (loadCells ad cs.length).run P w = .ok cs.toArray w := run_loadCells_list (P := P) w ad cs hc
  have hv : (loadVar ty ad).run P w = .ok (.agg cs.toArray) w := by
    cases hq : P.info? ty with
    | none => simp [hq] at hi
    | some i =>
      have hs : i.size = cs.length := by simpa [hq] using hi
      have hagg : (isAgg ty).run P w = .ok true w := by
        unfold isAgg
        rw [Sem.run_bind, run_underlying hu w]
        cases d <;> simp_all
      simp [loadVar, Sem.run_bind, hagg, sizeOf, typeInfo, hq, hs, hl]
  unfold execOp
  simp only [ho, hx, Instr.loadAt, Instr.sureAddr, Sem.run_bind, Sem.run_pure, Result.andThen_ok, hv]
/-- Block i of a slice of blocks, loaded. -/
theorem ar_load {w : World} {ad : Addr} {cap n : Nat} {bs : List (List Int)} (h : Ar w 64 (.slice (some ad) n cap) n (bcells bs)) (h64 : Right64 bs) (i : Nat) (hi : i < bs.length) {o : Oper} {a : Act} (x : Operand) (ho : o.op = .load 57 x) (hx : a.eval x = .pointer (some (ad.add (i * 64)))) :
    (execOp a.eval o).run Try.prog w = .ok (.value (.agg (ints .i16 (bs.getD i [])))) w := by
  have hl : (bs.getD i []).length = 64 := by
    rw [List.getD_eq_getElem?_getD, List.getElem?_eq_getElem hi]
    exact h64 _ (List.getElem_mem hi)
  refine run_exec_load_at 57 x ho _ hx ((bs.getD i []).map (Value.int .i16)) _ (fun j v hj => ?_) Try.underlying57 rfl (by rw [List.length_map, hl]; kernel_rfl)
  have hjl : j < 64 := by have := (List.getElem?_eq_some_iff.1 hj).1; rwa [List.length_map, hl] at this
  rw [Go.Deep.add_add]
  refine h.cell ?_
  rw [bcells_get h64 i j hi hjl, ← hj, List.getElem?_map, List.getElem?_eq_getElem (by rw [hl]; exact hjl), Option.map_some, List.getD_eq_getElem?_getD (l := bs.getD i []), List.getElem?_eq_getElem (by rw [hl]; exact hjl), Option.getD_some]
end Go.Proofs.Ytgmhhocpdfdplaa
