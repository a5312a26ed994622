/- Package slices: Equal of tables and of tags. -/
import Derived.Test.YtgmhhocpdfdplaaGG
import Derived.Test.YtgmhhocpdfdplaaBlkEq
import Derived.Laws.StructEq
namespace Go.Proofs.Ytgmhhocpdfdplaa
open Go.RowKit
set_option maxRecDepth 100000
set_option maxHeartbeats 4000000
/-- A table's own numbers. -/
def qd (q : QuantArg) : Int × List Int := (q.at_, q.q)
/-- A tag's own bytes. -/
def td (t : TagArg) : Int × List UInt8 := (t.kind, t.body.toList)
theorem arr_at (q : QuantArg) : q.arr[0]? = some (.int .i64 q.at_) := by simp [QuantArg.arr, QuantArg.cells]
theorem arr_tab {q : QuantArg} (h : q.Ok) : q.arr.extract 1 (1 + 64) = ints .u16 q.q := by
  have hl := h.l64
  unfold QuantArg.arr QuantArg.cells ints
  apply Array.ext'
  simp only [Array.toList_extract, List.extract_eq_take_drop]
  simp
  rw [List.take_of_length_le (by simp [hl])]
theorem run_quant_eq (x y : QuantArg) (hx : x.Ok) (hy : y.Ok) (w : World) : (Op.equalIn 10000 39 (.agg x.arr) (.agg y.arr)).run Try.prog w = .ok (decide (qd x = qd y)) w := by
  have u3 := Try.underlying3
  have u35 := Try.underlying35
  have hS : Try.prog.underlying 39 = some (.struct (Try.prog.fieldsOf 39)) := by kernel_rfl
  have hp : Try.prog.stoodInHeld 39 = false := by kernel_rfl
  have p0 : ∀ q : QuantArg, (part 3 q.arr 0).run Try.prog w = .ok (.int .i64 q.at_) w := fun q => by
    unfold part
    have h1 : (isAgg 3).run Try.prog w = .ok false w := by
      unfold isAgg
      rw [Sem.run_bind, run_underlying u3 w]
      simp
    rw [Sem.run_bind, h1]
    simp [arr_at]
  have p1 : ∀ q : QuantArg, q.Ok → (part 35 q.arr 1).run Try.prog w = .ok (.agg (ints .u16 q.q)) w := fun q hq => by
    unfold part
    have h1 : (isAgg 35).run Try.prog w = .ok true w := by
      unfold isAgg
      rw [Sem.run_bind, run_underlying u35 w]
      simp
    rw [Sem.run_bind, h1]
    simp [arr_tab hq]
  rw [show (10000 : Nat) = 9999 + 1 from rfl, run_equalIn_struct w 9999 39 _ _ hS hp]
  simp only [Program.fieldsOf, Try.underlying39]
  have hi := run_equalIn_int (P := Try.prog) w 9998 3 .i64 .i64 x.at_ y.at_ u3
  have ha := run_equalIn_ints (P := Try.prog) w 9997 64 35 34 .u16 x.q y.q u35 Try.underlying34 (by kernel_rfl) hx.l64 hy.l64
  simp only [Op.eqFields]
  rw [if_pos (by decide), Sem.run_bind, p0 x, Result.andThen_ok, Sem.run_bind, p0 y, Result.andThen_ok, Sem.run_bind, hi, Result.andThen_ok]
  by_cases h1 : x.at_ = y.at_
  · have e1 : (x.at_ == y.at_) = true := by simpa using h1
    rw [e1]
    simp only [Bool.not_true, Bool.false_eq_true, if_false]
    rw [if_pos (by decide), Sem.run_bind, p1 x hx, Result.andThen_ok, Sem.run_bind, p1 y hy, Result.andThen_ok, Sem.run_bind, ha, Result.andThen_ok]
    by_cases h2 : x.q = y.q
    · simp [qd, h1, h2]
    · simp [qd, h1, h2]
  · have e1 : (x.at_ == y.at_) = false := by simpa using h1
    rw [e1]
    simp [qd, h1]
theorem run_exec_neq_quant {o : Oper} {a : Act} {w : World} (ty : TypeId) (x y : Operand) (ho : o.op = .binOp .neq 39 x y ty) (p q : QuantArg) (hp : p.Ok) (hq : q.Ok) (hx : a.eval x = .agg p.arr) (hy : a.eval y = .agg q.arr) :
    (execOp a.eval o).run Try.prog w = .ok (.value (.bool (!decide (qd p = qd q)))) w := by
  have e : (binOp .neq 39 (.agg p.arr) (.agg q.arr)).run Try.prog w = .ok (.bool (!decide (qd p = qd q))) w := by
    rw [run_neq_struct, run_quant_eq p q hp hq]
    rfl
  unfold execOp
  simp only [ho, hx, hy, Sem.run_bind, Sem.run_pure, Result.andThen_ok, run_eqGuard_agg w .neq 39 x y _ _ (show Try.prog.eqGuardType Try.prog.depth 39 = false by kernel_rfl), e]
theorem neq_tag (x y : TagArg) (w : World) : (binOp .neq 104 (.agg #[.int .i64 x.kind, .string x.body]) (.agg #[.int .i64 y.kind, .string y.body])).run Try.prog w = .ok (.bool (!decide (td x = td y))) w := by
  have u3 := Try.underlying3
  have us := Try.underlying9
  have hS : Try.prog.underlying 104 = some (.struct (Try.prog.fieldsOf 104)) := by kernel_rfl
  have hp : Try.prog.stoodInHeld 104 = false := by kernel_rfl
  obtain ⟨x1, x2⟩ := x
  obtain ⟨y1, y2⟩ := y
  simp only [td]
  rw [run_neq_struct, show (10000 : Nat) = 9999 + 1 from rfl, run_equalIn_struct w 9999 104 _ _ hS hp]
  simp only [Program.fieldsOf, Try.underlying104]
  go_simp
  by_cases h1 : x1 = y1 <;> by_cases h2 : x2.toList = y2.toList <;> simp [h1, h2]
theorem run_exec_neq_tag {o : Oper} {a : Act} {w : World} (ty : TypeId) (x y : Operand) (ho : o.op = .binOp .neq 104 x y ty) (p q : TagArg) (hx : a.eval x = .agg #[.int .i64 p.kind, .string p.body]) (hy : a.eval y = .agg #[.int .i64 q.kind, .string q.body]) :
    (execOp a.eval o).run Try.prog w = .ok (.value (.bool (!decide (td p = td q)))) w := by
  have e := neq_tag p q w
  unfold execOp
  simp only [ho, hx, hy, Sem.run_bind, Sem.run_pure, Result.andThen_ok, run_eqGuard_agg w .neq 104 x y _ _ (show Try.prog.eqGuardType Try.prog.depth 104 = false by kernel_rfl), e]
/-- Alike up to a place. -/
structure EqTo {α : Type} (xs ys : List α) (j : Nat) : Prop where
  e : ∀ k, k < j → xs[k]? = ys[k]?
theorem EqTo.zero {α : Type} (xs ys : List α) : EqTo xs ys 0 := ⟨fun k hk => absurd hk (by omega)⟩
theorem EqTo.step {α : Type} {xs ys : List α} {j : Nat} (h : EqTo xs ys j) (hj : xs[j]? = ys[j]?) : EqTo xs ys (j + 1) := ⟨fun k hk => by
  by_cases hkj : k = j
  · rw [hkj]; exact hj
  · exact h.e k (by omega)⟩
theorem EqTo.all {α : Type} {xs ys : List α} {n : Nat} (h : EqTo xs ys n) (h1 : xs.length = n) (h2 : ys.length = n) : xs = ys := List.ext_getElem? fun k => by
  by_cases hk : k < n
  · exact h.e k hk
  · rw [List.getElem?_eq_none (by omega), List.getElem?_eq_none (by omega)]
theorem quants_equal (u v : Value) (xs ys : List QuantArg) (w : World) (hA : IsQuants w u xs) (hB : IsQuants w v ys) (hn : xs.length ≤ 1000000) :
    Calls Try.prog 80 #[u, v] w fun e w' => e = .returned (.bool (decide (xs.map qd = ys.map qd))) ∧ Below w.heap.size w w' := by
  obtain ⟨au, ca, rfl⟩ := hA.len
  obtain ⟨bv, cb, rfl⟩ := hB.len
  by_cases hl : xs.length = ys.length
  · rw [← hl] at hB ⊢
    have HL := Lib.hid hl
    clear hl
    go_enter Try.func80, Try.ntmps80
    go_wp2_with fail
    go_loopw [13] (fun i wr => ∃ j : Nat, j ≤ xs.length ∧ i = .int .i64 j ∧ Below w.heap.size w wr ∧ EqTo (xs.map qd) (ys.map qd) j) (fun i _ => xs.length - (intOf i).toNat)
    case atStart => exact ⟨0, Nat.zero_le _, rfl, Below.refl _ _, EqTo.zero _ _⟩
    case round =>
      obtain ⟨j, hj, rfl, hb, hE⟩ := hrel
      by_cases hlt : j < xs.length
      · have tj : decide ((j : Int) < (xs.length : Int)) = true := by simpa using hlt
        have hlt2 : j < ys.length := by rw [← HL.out]; exact hlt
        have hA' := hA.below hb
        have hB' := hB.below hb
        obtain ⟨ad, rfl⟩ : ∃ a, au = some a := by
          obtain ⟨a', cap', he, -⟩ := hA'.el.at (Below.refl _ _) (i := j) (by simpa using hlt)
          exact ⟨a', (Value.slice.inj he).1⟩
        have hB2 : IsQuants wr (.slice bv ys.length cb) ys := by have h := hB'; rw [HL.out] at h; exact h
        obtain ⟨bd, rfl⟩ : ∃ a, bv = some a := by
          obtain ⟨a', cap', he, -⟩ := hB2.el.at (Below.refl _ _) (i := j) (by simpa using hlt2)
          exact ⟨a', (Value.slice.inj he).1⟩
        have hj0 : (0 : Int) ≤ (j : Int) := by omega
        have hj1 : (j : Int) < (xs.length : Int) := by omega
        go_upto_region 6 with fail
        refine wp_region_det (fun W => Below wr.heap.size wr W) (by kernel_rfl) (by kernel_rfl) (Below.refl _ _).drew ?_
        ((first | (refine det_skip (by rfl) ?_; simp only [Act.put, List.setIfInBounds_toArray, List.set_cons_zero, List.set_cons_succ]) | (refine det_pure (v := ?_) (by rfl) ?_ ?_; rotate_left; (intro wS hS; go_simp; try with_reducible rfl); simp only [Act.put, List.setIfInBounds_toArray, List.set_cons_zero, List.set_cons_succ])); (first | (refine det_skip (by rfl) ?_; simp only [Act.put, List.setIfInBounds_toArray, List.set_cons_zero, List.set_cons_succ]) | (refine det_pure (v := ?_) (by rfl) ?_ ?_; rotate_left; (intro wS hS; go_simp; try with_reducible rfl); simp only [Act.put, List.setIfInBounds_toArray, List.set_cons_zero, List.set_cons_succ])); (first | (refine det_skip (by rfl) ?_; simp only [Act.put, List.setIfInBounds_toArray, List.set_cons_zero, List.set_cons_succ]) | (refine det_pure (v := ?_) (by rfl) ?_ ?_; rotate_left; (intro wS hS; go_simp; try with_reducible rfl); simp only [Act.put, List.setIfInBounds_toArray, List.set_cons_zero, List.set_cons_succ])))
        refine det_pure (by rfl) (fun w1 hS => q_load (hA'.below hS) hlt _ rfl rfl) ?_
        simp only [Act.put, List.setIfInBounds_toArray, List.set_cons_zero, List.set_cons_succ]
        ((first | (refine det_skip (by rfl) ?_; simp only [Act.put, List.setIfInBounds_toArray, List.set_cons_zero, List.set_cons_succ]) | (refine det_pure (v := ?_) (by rfl) ?_ ?_; rotate_left; (intro wS hS; go_simp; try with_reducible rfl); simp only [Act.put, List.setIfInBounds_toArray, List.set_cons_zero, List.set_cons_succ])); (first | (refine det_skip (by rfl) ?_; simp only [Act.put, List.setIfInBounds_toArray, List.set_cons_zero, List.set_cons_succ]) | (refine det_pure (v := ?_) (by rfl) ?_ ?_; rotate_left; (intro wS hS; go_simp; try with_reducible rfl); simp only [Act.put, List.setIfInBounds_toArray, List.set_cons_zero, List.set_cons_succ])); (first | (refine det_skip (by rfl) ?_; simp only [Act.put, List.setIfInBounds_toArray, List.set_cons_zero, List.set_cons_succ]) | (refine det_pure (v := ?_) (by rfl) ?_ ?_; rotate_left; (intro wS hS; go_simp; try with_reducible rfl); simp only [Act.put, List.setIfInBounds_toArray, List.set_cons_zero, List.set_cons_succ])))
        refine det_pure (by rfl) (fun w1 hS => q_load (hB2.below hS) hlt2 _ rfl rfl) ?_
        simp only [Act.put, List.setIfInBounds_toArray, List.set_cons_zero, List.set_cons_succ]
        refine det_pure (by rfl) (fun w1 _ => run_exec_neq_quant _ _ _ rfl (xs[j]'hlt) (ys[j]'hlt2) (hA'.ok _ (List.getElem_mem hlt)) (hB2.ok _ (List.getElem_mem hlt2)) rfl rfl) ?_
        simp only [Act.put, List.setIfInBounds_toArray, List.set_cons_zero, List.set_cons_succ]
        refine det_nil ?_
        intro W2 hb2
        by_cases he : qd (xs[j]'hlt) = qd (ys[j]'hlt2)
        · rw [decide_eq_true he]
          have hE2 := hE.step (by simp [hlt, hlt2, he])
          clear he hE
          go_wp2_with fail
          exact ⟨⟨j + 1, by omega, by go_num, hb.trans (hb2.mono hb.size), hE2⟩, by simp [intOf]; omega⟩
        · rw [decide_eq_false he]
          have hne : ¬ xs.map qd = ys.map qd := fun h => he (by
            have := congrArg (fun l => l[j]?) h
            simpa [hlt, hlt2] using this)
          have hd := Lib.hid (decide_eq_false hne)
          clear he hne hE
          go_wp2_with fail
          go_ret
          exact ⟨by rw [hd.out]; rfl, hb.trans (hb2.mono hb.size)⟩
      · have tj : decide ((j : Int) < (xs.length : Int)) = false := by simpa using hlt
        obtain rfl : j = xs.length := by omega
        have he := Lib.hid (decide_eq_true (hE.all (by simp) (by simp [HL.out])))
        clear hE
        go_wp2_with fail
        go_ret
        exact ⟨by rw [he.out]; rfl, hb⟩
  · have tl : decide ((xs.length : Int) = (ys.length : Int)) = false := by simp; omega
    have hne : ¬ xs.map qd = ys.map qd := fun h => hl (by simpa using congrArg List.length h)
    have hd := Lib.hid (decide_eq_false hne)
    clear hne
    go_enter Try.func80, Try.ntmps80
    go_wp2_with fail
    go_ret
    exact ⟨by rw [hd.out]; rfl, Below.refl _ _⟩
theorem tags_equal (u v : Value) (xs ys : List TagArg) (w : World) (hA : IsTags w u xs) (hB : IsTags w v ys) (hn : xs.length ≤ 1000000) :
    Calls Try.prog 81 #[u, v] w fun e w' => e = .returned (.bool (decide (xs.map td = ys.map td))) ∧ Below w.heap.size w w' := by
  obtain ⟨au, ca, rfl⟩ := hA.len
  obtain ⟨bv, cb, rfl⟩ := hB.len
  by_cases hl : xs.length = ys.length
  · rw [← hl] at hB ⊢
    have HL := Lib.hid hl
    clear hl
    go_enter Try.func81, Try.ntmps81
    go_wp2_with fail
    go_loopw [13] (fun i wr => ∃ j : Nat, j ≤ xs.length ∧ i = .int .i64 j ∧ Below w.heap.size w wr ∧ EqTo (xs.map td) (ys.map td) j) (fun i _ => xs.length - (intOf i).toNat)
    case atStart => exact ⟨0, Nat.zero_le _, rfl, Below.refl _ _, EqTo.zero _ _⟩
    case round =>
      obtain ⟨j, hj, rfl, hb, hE⟩ := hrel
      by_cases hlt : j < xs.length
      · have tj : decide ((j : Int) < (xs.length : Int)) = true := by simpa using hlt
        have hlt2 : j < ys.length := by rw [← HL.out]; exact hlt
        have hA' := hA.below hb
        have hB' := hB.below hb
        obtain ⟨ad, rfl⟩ : ∃ a, au = some a := by
          obtain ⟨a', cap', he, -⟩ := hA'.el.at (Below.refl _ _) (i := j) (by simpa using hlt)
          exact ⟨a', (Value.slice.inj he).1⟩
        have hB2 : IsTags wr (.slice bv ys.length cb) ys := by have h := hB'; rw [HL.out] at h; exact h
        obtain ⟨bd, rfl⟩ : ∃ a, bv = some a := by
          obtain ⟨a', cap', he, -⟩ := hB2.el.at (Below.refl _ _) (i := j) (by simpa using hlt2)
          exact ⟨a', (Value.slice.inj he).1⟩
        have hj0 : (0 : Int) ≤ (j : Int) := by omega
        have hj1 : (j : Int) < (xs.length : Int) := by omega
        go_upto_region 6 with fail
        refine wp_region_det (fun W => Below wr.heap.size wr W) (by kernel_rfl) (by kernel_rfl) (Below.refl _ _).drew ?_
        ((first | (refine det_skip (by rfl) ?_; simp only [Act.put, List.setIfInBounds_toArray, List.set_cons_zero, List.set_cons_succ]) | (refine det_pure (v := ?_) (by rfl) ?_ ?_; rotate_left; (intro wS hS; go_simp; try with_reducible rfl); simp only [Act.put, List.setIfInBounds_toArray, List.set_cons_zero, List.set_cons_succ])); (first | (refine det_skip (by rfl) ?_; simp only [Act.put, List.setIfInBounds_toArray, List.set_cons_zero, List.set_cons_succ]) | (refine det_pure (v := ?_) (by rfl) ?_ ?_; rotate_left; (intro wS hS; go_simp; try with_reducible rfl); simp only [Act.put, List.setIfInBounds_toArray, List.set_cons_zero, List.set_cons_succ])); (first | (refine det_skip (by rfl) ?_; simp only [Act.put, List.setIfInBounds_toArray, List.set_cons_zero, List.set_cons_succ]) | (refine det_pure (v := ?_) (by rfl) ?_ ?_; rotate_left; (intro wS hS; go_simp; try with_reducible rfl); simp only [Act.put, List.setIfInBounds_toArray, List.set_cons_zero, List.set_cons_succ])))
        refine det_pure (v := .agg #[.int .i64 (xs[j]'hlt).kind, .string (xs[j]'hlt).body]) (by rfl) (fun w1 hS => by obtain ⟨a', ha', c0, c1⟩ := (hA'.below hS).at hlt; cases ha'; go_simp; try rfl) ?_
        simp only [Act.put, List.setIfInBounds_toArray, List.set_cons_zero, List.set_cons_succ]
        ((first | (refine det_skip (by rfl) ?_; simp only [Act.put, List.setIfInBounds_toArray, List.set_cons_zero, List.set_cons_succ]) | (refine det_pure (v := ?_) (by rfl) ?_ ?_; rotate_left; (intro wS hS; go_simp; try with_reducible rfl); simp only [Act.put, List.setIfInBounds_toArray, List.set_cons_zero, List.set_cons_succ])); (first | (refine det_skip (by rfl) ?_; simp only [Act.put, List.setIfInBounds_toArray, List.set_cons_zero, List.set_cons_succ]) | (refine det_pure (v := ?_) (by rfl) ?_ ?_; rotate_left; (intro wS hS; go_simp; try with_reducible rfl); simp only [Act.put, List.setIfInBounds_toArray, List.set_cons_zero, List.set_cons_succ])); (first | (refine det_skip (by rfl) ?_; simp only [Act.put, List.setIfInBounds_toArray, List.set_cons_zero, List.set_cons_succ]) | (refine det_pure (v := ?_) (by rfl) ?_ ?_; rotate_left; (intro wS hS; go_simp; try with_reducible rfl); simp only [Act.put, List.setIfInBounds_toArray, List.set_cons_zero, List.set_cons_succ])))
        refine det_pure (v := .agg #[.int .i64 (ys[j]'hlt2).kind, .string (ys[j]'hlt2).body]) (by rfl) (fun w1 hS => by obtain ⟨a', ha', c0, c1⟩ := (hB2.below hS).at hlt2; cases ha'; go_simp; try rfl) ?_
        simp only [Act.put, List.setIfInBounds_toArray, List.set_cons_zero, List.set_cons_succ]
        refine det_pure (by rfl) (fun w1 _ => run_exec_neq_tag _ _ _ rfl (xs[j]'hlt) (ys[j]'hlt2) rfl rfl) ?_
        simp only [Act.put, List.setIfInBounds_toArray, List.set_cons_zero, List.set_cons_succ]
        refine det_nil ?_
        intro W2 hb2
        by_cases he : td (xs[j]'hlt) = td (ys[j]'hlt2)
        · rw [decide_eq_true he]
          have hE2 := hE.step (by simp [hlt, hlt2, he])
          clear he hE
          go_wp2_with fail
          exact ⟨⟨j + 1, by omega, by go_num, hb.trans (hb2.mono hb.size), hE2⟩, by simp [intOf]; omega⟩
        · rw [decide_eq_false he]
          have hne : ¬ xs.map td = ys.map td := fun h => he (by
            have := congrArg (fun l => l[j]?) h
            simpa [hlt, hlt2] using this)
          have hd := Lib.hid (decide_eq_false hne)
          clear he hne hE
          go_wp2_with fail
          go_ret
          exact ⟨by rw [hd.out]; rfl, hb.trans (hb2.mono hb.size)⟩
      · have tj : decide ((j : Int) < (xs.length : Int)) = false := by simpa using hlt
        obtain rfl : j = xs.length := by omega
        have he := Lib.hid (decide_eq_true (hE.all (by simp) (by simp [HL.out])))
        clear hE
        go_wp2_with fail
        go_ret
        exact ⟨by rw [he.out]; rfl, hb⟩
  · have tl : decide ((xs.length : Int) = (ys.length : Int)) = false := by simp; omega
    have hne : ¬ xs.map td = ys.map td := fun h => hl (by simpa using congrArg List.length h)
    have hd := Lib.hid (decide_eq_false hne)
    clear hne
    go_enter Try.func81, Try.ntmps81
    go_wp2_with fail
    go_ret
    exact ⟨by rw [hd.out]; rfl, Below.refl _ _⟩
end Go.Proofs.Ytgmhhocpdfdplaa
