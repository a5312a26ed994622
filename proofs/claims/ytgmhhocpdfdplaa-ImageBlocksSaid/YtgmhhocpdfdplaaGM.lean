/- Texts on one foundation, joined: SameE, SameC, CopyS, Copy, CopyL, OwnL. -/
import Derived.Test.YtgmhhocpdfdplaaGG
import Derived.Test.YtgmhhocpdfdplaaGJ
import Derived.Laws.StructEq
/- Package slices: Equal of tables and of tags. -/
namespace Go.Proofs.Ytgmhhocpdfdplaa
open Go.RowKit
set_option maxRecDepth 100000
set_option maxHeartbeats 4000000
/-- A table's own numbers. -/
def qd (q : QuantArg) : Int × List Int := (q.at_, q.q)
/-- A tag's own bytes. -/
def td (t : TagArg) : Int × List UInt8 := (t.kind, t.body.toList)
theorem arr_at (q : QuantArg) : q.arr[0]? = some (.int .i64 q.at_) := by simp [QuantArg.arr, QuantArg.cells]
theorem arr_tab {q : QuantArg} (h : q.Ok) : q.arr.extract 1 (1 + 64) = ints .u16 q.q := by
  have hl := h.l64
  unfold QuantArg.arr QuantArg.cells ints
  apply Array.ext'
  simp only [Array.toList_extract, List.extract_eq_take_drop]
  simp
  rw [List.take_of_length_le (by simp [hl])]
theorem run_quant_eq (x y : QuantArg) (hx : x.Ok) (hy : y.Ok) (w : World) : (Op.equalIn 10000 39 (.agg x.arr) (.agg y.arr)).run Try.prog w = .ok (decide (qd x = qd y)) w := by
  have u3 := Try.underlying3
  have u35 := Try.underlying35
  have hS : Try.prog.underlying 39 = some (.struct (Try.prog.fieldsOf 39)) := by kernel_rfl
  have hp : Try.prog.stoodInHeld 39 = false := by kernel_rfl
  have p0 : ∀ q : QuantArg, (part 3 q.arr 0).run Try.prog w = .ok (.int .i64 q.at_) w := fun q => by
    unfold part
    have h1 : (isAgg 3).run Try.prog w = .ok false w := by
      unfold isAgg
      rw [Sem.run_bind, run_underlying u3 w]
      simp
    rw [Sem.run_bind, h1]
    simp [arr_at]
  have p1 : ∀ q : QuantArg, q.Ok → (part 35 q.arr 1).run Try.prog w = .ok (.agg (ints .u16 q.q)) w := fun q hq => by
    unfold part
    have h1 : (isAgg 35).run Try.prog w = .ok true w := by
      unfold isAgg
      rw [Sem.run_bind, run_underlying u35 w]
      simp
    rw [Sem.run_bind, h1]
    simp [arr_tab hq]
  rw [show (10000 : Nat) = 9999 + 1 from rfl, run_equalIn_struct w 9999 39 _ _ hS hp]
  simp only [Program.fieldsOf, Try.underlying39]
  have hi := run_equalIn_int (P := Try.prog) w 9998 3 .i64 .i64 x.at_ y.at_ u3
  have ha := run_equalIn_ints (P := Try.prog) w 9997 64 35 34 .u16 x.q y.q u35 Try.underlying34 (by kernel_rfl) hx.l64 hy.l64
  simp only [Op.eqFields]
  rw [if_pos (by decide), Sem.run_bind, p0 x, Result.andThen_ok, Sem.run_bind, p0 y, Result.andThen_ok, Sem.run_bind, hi, Result.andThen_ok]
  by_cases h1 : x.at_ = y.at_
  · have e1 : (x.at_ == y.at_) = true := by simpa using h1
    rw [e1]
    simp only [Bool.not_true, Bool.false_eq_true, if_false]
    rw [if_pos (by decide), Sem.run_bind, p1 x hx, Result.andThen_ok, Sem.run_bind, p1 y hy, Result.andThen_ok, Sem.run_bind, ha, Result.andThen_ok]
    by_cases h2 : x.q = y.q
    · simp [qd, h1, h2]
    · simp [qd, h1, h2]
  · have e1 : (x.at_ == y.at_) = false := by simpa using h1
    rw [e1]
    simp [qd, h1]
theorem run_exec_neq_quant {o : Oper} {a : Act} {w : World} (ty : TypeId) (x y : Operand) (ho : o.op = .binOp .neq 39 x y ty) (p q : QuantArg) (hp : p.Ok) (hq : q.Ok) (hx : a.eval x = .agg p.arr) (hy : a.eval y = .agg q.arr) :
    (execOp a.eval o).run Try.prog w = .ok (.value (.bool (!decide (qd p = qd q)))) w := by
  have e : (binOp .neq 39 (.agg p.arr) (.agg q.arr)).run Try.prog w = .ok (.bool (!decide (qd p = qd q))) w := by
    rw [run_neq_struct, run_quant_eq p q hp hq]
    rfl
  unfold execOp
  simp only [ho, hx, hy, Sem.run_bind, Sem.run_pure, Result.andThen_ok, run_eqGuard_agg w .neq 39 x y _ _ (show Try.prog.eqGuardType Try.prog.depth 39 = false by kernel_rfl), e]
theorem neq_tag (x y : TagArg) (w : World) : (binOp .neq 104 (.agg #[.int .i64 x.kind, .string x.body]) (.agg #[.int .i64 y.kind, .string y.body])).run Try.prog w = .ok (.bool (!decide (td x = td y))) w := by
  have u3 := Try.underlying3
  have us := Try.underlying9
  have hS : Try.prog.underlying 104 = some (.struct (Try.prog.fieldsOf 104)) := by kernel_rfl
  have hp : Try.prog.stoodInHeld 104 = false := by kernel_rfl
  obtain ⟨x1, x2⟩ := x
  obtain ⟨y1, y2⟩ := y
  simp only [td]
  rw [run_neq_struct, show (10000 : Nat) = 9999 + 1 from rfl, run_equalIn_struct w 9999 104 _ _ hS hp]
  simp only [Program.fieldsOf, Try.underlying104]
  go_simp
  by_cases h1 : x1 = y1 <;> by_cases h2 : x2.toList = y2.toList <;> simp [h1, h2]
theorem run_exec_neq_tag {o : Oper} {a : Act} {w : World} (ty : TypeId) (x y : Operand) (ho : o.op = .binOp .neq 104 x y ty) (p q : TagArg) (hx : a.eval x = .agg #[.int .i64 p.kind, .string p.body]) (hy : a.eval y = .agg #[.int .i64 q.kind, .string q.body]) :
    (execOp a.eval o).run Try.prog w = .ok (.value (.bool (!decide (td p = td q)))) w := by
  have e := neq_tag p q w
  unfold execOp
  simp only [ho, hx, hy, Sem.run_bind, Sem.run_pure, Result.andThen_ok, run_eqGuard_agg w .neq 104 x y _ _ (show Try.prog.eqGuardType Try.prog.depth 104 = false by kernel_rfl), e]
/-- Alike up to a place. -/
structure EqTo {α : Type} (xs ys : List α) (j : Nat) : Prop where
  e : ∀ k, k < j → xs[k]? = ys[k]?
theorem EqTo.zero {α : Type} (xs ys : List α) : EqTo xs ys 0 := ⟨fun k hk => absurd hk (by omega)⟩
theorem EqTo.step {α : Type} {xs ys : List α} {j : Nat} (h : EqTo xs ys j) (hj : xs[j]? = ys[j]?) : EqTo xs ys (j + 1) := ⟨fun k hk => by
  by_cases hkj : k = j
  · rw [hkj]; exact hj
  · exact h.e k (by omega)⟩
theorem EqTo.all {α : Type} {xs ys : List α} {n : Nat} (h : EqTo xs ys n) (h1 : xs.length = n) (h2 : ys.length = n) : xs = ys := List.ext_getElem? fun k => by
  by_cases hk : k < n
  · exact h.e k hk
  · rw [List.getElem?_eq_none (by omega), List.getElem?_eq_none (by omega)]
theorem quants_equal (u v : Value) (xs ys : List QuantArg) (w : World) (hA : IsQuants w u xs) (hB : IsQuants w v ys) (hn : xs.length ≤ 1000000) :
    Calls Try.prog 80 #[u, v] w fun e w' => e = .returned (.bool (decide (xs.map qd = ys.map qd))) ∧ Below w.heap.size w w' := by
  obtain ⟨au, ca, rfl⟩ := hA.len
  obtain ⟨bv, cb, rfl⟩ := hB.len
  by_cases hl : xs.length = ys.length
  · rw [← hl] at hB ⊢
    have HL := Lib.hid hl
    clear hl
    go_enter Try.func80, Try.ntmps80
    go_wp2_with fail
    go_loopw [13] (fun i wr => ∃ j : Nat, j ≤ xs.length ∧ i = .int .i64 j ∧ Below w.heap.size w wr ∧ EqTo (xs.map qd) (ys.map qd) j) (fun i _ => xs.length - (intOf i).toNat)
    case atStart => exact ⟨0, Nat.zero_le _, rfl, Below.refl _ _, EqTo.zero _ _⟩
    case round =>
      obtain ⟨j, hj, rfl, hb, hE⟩ := hrel
      by_cases hlt : j < xs.length
      · have tj : decide ((j : Int) < (xs.length : Int)) = true := by simpa using hlt
        have hlt2 : j < ys.length := by rw [← HL.out]; exact hlt
        have hA' := hA.below hb
        have hB' := hB.below hb
        obtain ⟨ad, rfl⟩ : ∃ a, au = some a := by
          obtain ⟨a', cap', he, -⟩ := hA'.el.at (Below.refl _ _) (i := j) (by simpa using hlt)
          exact ⟨a', (Value.slice.inj he).1⟩
        have hB2 : IsQuants wr (.slice bv ys.length cb) ys := by have h := hB'; rw [HL.out] at h; exact h
        obtain ⟨bd, rfl⟩ : ∃ a, bv = some a := by
          obtain ⟨a', cap', he, -⟩ := hB2.el.at (Below.refl _ _) (i := j) (by simpa using hlt2)
          exact ⟨a', (Value.slice.inj he).1⟩
        have hj0 : (0 : Int) ≤ (j : Int) := by omega
        have hj1 : (j : Int) < (xs.length : Int) := by omega
        go_upto_region 6 with fail
        refine wp_region_det (fun W => Below wr.heap.size wr W) (by kernel_rfl) (by kernel_rfl) (Below.refl _ _).drew ?_
        ((first | (refine det_skip (by rfl) ?_; simp only [Act.put, List.setIfInBounds_toArray, List.set_cons_zero, List.set_cons_succ]) | (refine det_pure (v := ?_) (by rfl) ?_ ?_; rotate_left; (intro wS hS; go_simp; try with_reducible rfl); simp only [Act.put, List.setIfInBounds_toArray, List.set_cons_zero, List.set_cons_succ])); (first | (refine det_skip (by rfl) ?_; simp only [Act.put, List.setIfInBounds_toArray, List.set_cons_zero, List.set_cons_succ]) | (refine det_pure (v := ?_) (by rfl) ?_ ?_; rotate_left; (intro wS hS; go_simp; try with_reducible rfl); simp only [Act.put, List.setIfInBounds_toArray, List.set_cons_zero, List.set_cons_succ])); (first | (refine det_skip (by rfl) ?_; simp only [Act.put, List.setIfInBounds_toArray, List.set_cons_zero, List.set_cons_succ]) | (refine det_pure (v := ?_) (by rfl) ?_ ?_; rotate_left; (intro wS hS; go_simp; try with_reducible rfl); simp only [Act.put, List.setIfInBounds_toArray, List.set_cons_zero, List.set_cons_succ])))
        refine det_pure (by rfl) (fun w1 hS => q_load (hA'.below hS) hlt _ rfl rfl) ?_
        simp only [Act.put, List.setIfInBounds_toArray, List.set_cons_zero, List.set_cons_succ]
        ((first | (refine det_skip (by rfl) ?_; simp only [Act.put, List.setIfInBounds_toArray, List.set_cons_zero, List.set_cons_succ]) | (refine det_pure (v := ?_) (by rfl) ?_ ?_; rotate_left; (intro wS hS; go_simp; try with_reducible rfl); simp only [Act.put, List.setIfInBounds_toArray, List.set_cons_zero, List.set_cons_succ])); (first | (refine det_skip (by rfl) ?_; simp only [Act.put, List.setIfInBounds_toArray, List.set_cons_zero, List.set_cons_succ]) | (refine det_pure (v := ?_) (by rfl) ?_ ?_; rotate_left; (intro wS hS; go_simp; try with_reducible rfl); simp only [Act.put, List.setIfInBounds_toArray, List.set_cons_zero, List.set_cons_succ])); (first | (refine det_skip (by rfl) ?_; simp only [Act.put, List.setIfInBounds_toArray, List.set_cons_zero, List.set_cons_succ]) | (refine det_pure (v := ?_) (by rfl) ?_ ?_; rotate_left; (intro wS hS; go_simp; try with_reducible rfl); simp only [Act.put, List.setIfInBounds_toArray, List.set_cons_zero, List.set_cons_succ])))
        refine det_pure (by rfl) (fun w1 hS => q_load (hB2.below hS) hlt2 _ rfl rfl) ?_
        simp only [Act.put, List.setIfInBounds_toArray, List.set_cons_zero, List.set_cons_succ]
        refine det_pure (by rfl) (fun w1 _ => run_exec_neq_quant _ _ _ rfl (xs[j]'hlt) (ys[j]'hlt2) (hA'.ok _ (List.getElem_mem hlt)) (hB2.ok _ (List.getElem_mem hlt2)) rfl rfl) ?_
        simp only [Act.put, List.setIfInBounds_toArray, List.set_cons_zero, List.set_cons_succ]
        refine det_nil ?_
        intro W2 hb2
        by_cases he : qd (xs[j]'hlt) = qd (ys[j]'hlt2)
        · rw [decide_eq_true he]
          have hE2 := hE.step (by simp [hlt, hlt2, he])
          clear he hE
          go_wp2_with fail
          exact ⟨⟨j + 1, by omega, by go_num, hb.trans (hb2.mono hb.size), hE2⟩, by simp [intOf]; omega⟩
        · rw [decide_eq_false he]
          have hne : ¬ xs.map qd = ys.map qd := fun h => he (by
            have := congrArg (fun l => l[j]?) h
            simpa [hlt, hlt2] using this)
          have hd := Lib.hid (decide_eq_false hne)
          clear he hne hE
          go_wp2_with fail
          go_ret
          exact ⟨by rw [hd.out]; rfl, hb.trans (hb2.mono hb.size)⟩
      · have tj : decide ((j : Int) < (xs.length : Int)) = false := by simpa using hlt
        obtain rfl : j = xs.length := by omega
        have he := Lib.hid (decide_eq_true (hE.all (by simp) (by simp [HL.out])))
        clear hE
        go_wp2_with fail
        go_ret
        exact ⟨by rw [he.out]; rfl, hb⟩
  · have tl : decide ((xs.length : Int) = (ys.length : Int)) = false := by simp; omega
    have hne : ¬ xs.map qd = ys.map qd := fun h => hl (by simpa using congrArg List.length h)
    have hd := Lib.hid (decide_eq_false hne)
    clear hne
    go_enter Try.func80, Try.ntmps80
    go_wp2_with fail
    go_ret
    exact ⟨by rw [hd.out]; rfl, Below.refl _ _⟩
theorem tags_equal (u v : Value) (xs ys : List TagArg) (w : World) (hA : IsTags w u xs) (hB : IsTags w v ys) (hn : xs.length ≤ 1000000) :
    Calls Try.prog 81 #[u, v] w fun e w' => e = .returned (.bool (decide (xs.map td = ys.map td))) ∧ Below w.heap.size w w' := by
  obtain ⟨au, ca, rfl⟩ := hA.len
  obtain ⟨bv, cb, rfl⟩ := hB.len
  by_cases hl : xs.length = ys.length
  · rw [← hl] at hB ⊢
    have HL := Lib.hid hl
    clear hl
    go_enter Try.func81, Try.ntmps81
    go_wp2_with fail
    go_loopw [13] (fun i wr => ∃ j : Nat, j ≤ xs.length ∧ i = .int .i64 j ∧ Below w.heap.size w wr ∧ EqTo (xs.map td) (ys.map td) j) (fun i _ => xs.length - (intOf i).toNat)
    case atStart => exact ⟨0, Nat.zero_le _, rfl, Below.refl _ _, EqTo.zero _ _⟩
    case round =>
      obtain ⟨j, hj, rfl, hb, hE⟩ := hrel
      by_cases hlt : j < xs.length
      · have tj : decide ((j : Int) < (xs.length : Int)) = true := by simpa using hlt
        have hlt2 : j < ys.length := by rw [← HL.out]; exact hlt
        have hA' := hA.below hb
        have hB' := hB.below hb
        obtain ⟨ad, rfl⟩ : ∃ a, au = some a := by
          obtain ⟨a', cap', he, -⟩ := hA'.el.at (Below.refl _ _) (i := j) (by simpa using hlt)
          exact ⟨a', (Value.slice.inj he).1⟩
        have hB2 : IsTags wr (.slice bv ys.length cb) ys := by have h := hB'; rw [HL.out] at h; exact h
        obtain ⟨bd, rfl⟩ : ∃ a, bv = some a := by
          obtain ⟨a', cap', he, -⟩ := hB2.el.at (Below.refl _ _) (i := j) (by simpa using hlt2)
          exact ⟨a', (Value.slice.inj he).1⟩
        have hj0 : (0 : Int) ≤ (j : Int) := by omega
        have hj1 : (j : Int) < (xs.length : Int) := by omega
        go_upto_region 6 with fail
        refine wp_region_det (fun W => Below wr.heap.size wr W) (by kernel_rfl) (by kernel_rfl) (Below.refl _ _).drew ?_
        ((first | (refine det_skip (by rfl) ?_; simp only [Act.put, List.setIfInBounds_toArray, List.set_cons_zero, List.set_cons_succ]) | (refine det_pure (v := ?_) (by rfl) ?_ ?_; rotate_left; (intro wS hS; go_simp; try with_reducible rfl); simp only [Act.put, List.setIfInBounds_toArray, List.set_cons_zero, List.set_cons_succ])); (first | (refine det_skip (by rfl) ?_; simp only [Act.put, List.setIfInBounds_toArray, List.set_cons_zero, List.set_cons_succ]) | (refine det_pure (v := ?_) (by rfl) ?_ ?_; rotate_left; (intro wS hS; go_simp; try with_reducible rfl); simp only [Act.put, List.setIfInBounds_toArray, List.set_cons_zero, List.set_cons_succ])); (first | (refine det_skip (by rfl) ?_; simp only [Act.put, List.setIfInBounds_toArray, List.set_cons_zero, List.set_cons_succ]) | (refine det_pure (v := ?_) (by rfl) ?_ ?_; rotate_left; (intro wS hS; go_simp; try with_reducible rfl); simp only [Act.put, List.setIfInBounds_toArray, List.set_cons_zero, List.set_cons_succ])))
        refine det_pure (v := .agg #[.int .i64 (xs[j]'hlt).kind, .string (xs[j]'hlt).body]) (by rfl) (fun w1 hS => by obtain ⟨a', ha', c0, c1⟩ := (hA'.below hS).at hlt; cases ha'; go_simp; try rfl) ?_
        simp only [Act.put, List.setIfInBounds_toArray, List.set_cons_zero, List.set_cons_succ]
        ((first | (refine det_skip (by rfl) ?_; simp only [Act.put, List.setIfInBounds_toArray, List.set_cons_zero, List.set_cons_succ]) | (refine det_pure (v := ?_) (by rfl) ?_ ?_; rotate_left; (intro wS hS; go_simp; try with_reducible rfl); simp only [Act.put, List.setIfInBounds_toArray, List.set_cons_zero, List.set_cons_succ])); (first | (refine det_skip (by rfl) ?_; simp only [Act.put, List.setIfInBounds_toArray, List.set_cons_zero, List.set_cons_succ]) | (refine det_pure (v := ?_) (by rfl) ?_ ?_; rotate_left; (intro wS hS; go_simp; try with_reducible rfl); simp only [Act.put, List.setIfInBounds_toArray, List.set_cons_zero, List.set_cons_succ])); (first | (refine det_skip (by rfl) ?_; simp only [Act.put, List.setIfInBounds_toArray, List.set_cons_zero, List.set_cons_succ]) | (refine det_pure (v := ?_) (by rfl) ?_ ?_; rotate_left; (intro wS hS; go_simp; try with_reducible rfl); simp only [Act.put, List.setIfInBounds_toArray, List.set_cons_zero, List.set_cons_succ])))
        refine det_pure (v := .agg #[.int .i64 (ys[j]'hlt2).kind, .string (ys[j]'hlt2).body]) (by rfl) (fun w1 hS => by obtain ⟨a', ha', c0, c1⟩ := (hB2.below hS).at hlt2; cases ha'; go_simp; try rfl) ?_
        simp only [Act.put, List.setIfInBounds_toArray, List.set_cons_zero, List.set_cons_succ]
        refine det_pure (by rfl) (fun w1 _ => run_exec_neq_tag _ _ _ rfl (xs[j]'hlt) (ys[j]'hlt2) rfl rfl) ?_
        simp only [Act.put, List.setIfInBounds_toArray, List.set_cons_zero, List.set_cons_succ]
        refine det_nil ?_
        intro W2 hb2
        by_cases he : td (xs[j]'hlt) = td (ys[j]'hlt2)
        · rw [decide_eq_true he]
          have hE2 := hE.step (by simp [hlt, hlt2, he])
          clear he hE
          go_wp2_with fail
          exact ⟨⟨j + 1, by omega, by go_num, hb.trans (hb2.mono hb.size), hE2⟩, by simp [intOf]; omega⟩
        · rw [decide_eq_false he]
          have hne : ¬ xs.map td = ys.map td := fun h => he (by
            have := congrArg (fun l => l[j]?) h
            simpa [hlt, hlt2] using this)
          have hd := Lib.hid (decide_eq_false hne)
          clear he hne hE
          go_wp2_with fail
          go_ret
          exact ⟨by rw [hd.out]; rfl, hb.trans (hb2.mono hb.size)⟩
      · have tj : decide ((j : Int) < (xs.length : Int)) = false := by simpa using hlt
        obtain rfl : j = xs.length := by omega
        have he := Lib.hid (decide_eq_true (hE.all (by simp) (by simp [HL.out])))
        clear hE
        go_wp2_with fail
        go_ret
        exact ⟨by rw [he.out]; rfl, hb⟩
  · have tl : decide ((xs.length : Int) = (ys.length : Int)) = false := by simp; omega
    have hne : ¬ xs.map td = ys.map td := fun h => hl (by simpa using congrArg List.length h)
    have hd := Lib.hid (decide_eq_false hne)
    clear hne
    go_enter Try.func81, Try.ntmps81
    go_wp2_with fail
    go_ret
    exact ⟨by rw [hd.out]; rfl, Below.refl _ _⟩
end Go.Proofs.Ytgmhhocpdfdplaa
/- Package image: sameComp; slices.EqualFunc of components at it; Same. -/
namespace Go.Proofs.Ytgmhhocpdfdplaa
open Go.RowKit
set_option maxRecDepth 100000
set_option maxHeartbeats 8000000
/-- A component's own numbers. -/
def cd (c : CompArg) : (Int × Int × Int × Int) × Int × Int × List (List Int) := ((c.id, c.h, c.v, c.q), c.c, c.r, c.bs)
def CompArg.val (c : CompArg) : Value := .agg #[.int .i64 c.id, .int .i64 c.h, .int .i64 c.v, .int .i64 c.q, .int .i64 c.c, .int .i64 c.r, c.u]
theorem comp_same (a b : CompArg) (hl : a.bs.length ≤ 1000000) (w : World) (ha : a.Ok w) (hb : b.Ok w) :
    Calls Try.prog 79 #[a.val, b.val] w fun e w' => e = .returned (.bool (decide (cd a = cd b))) ∧ Below w.heap.size w w' := by
  obtain ⟨R, hR⟩ : ∃ R, decide (cd a = cd b) = R := ⟨_, rfl⟩
  rw [hR]
  have HR := Lib.hid hR
  obtain ⟨N, hN⟩ : ∃ N, N = w.heap.size := ⟨_, rfl⟩
  have HN := Lib.hid hN
  rw [← hN]
  obtain ⟨ab, acap, hau, -, -⟩ := ha.ar.len
  obtain ⟨bb, bcap, hbu, -, -⟩ := hb.ar.len
  unfold CompArg.val
  have hps := fun W h1 h2 => plane_same a.c a.r b.c b.r a.u b.u a.bs b.bs ha.h64 hb.h64 W h1 h2 (by omega)
  rw [hau, hbu] at hps
  have HA := ha.ar
  have HB := hb.ar
  rw [hau] at HA
  rw [hbu] at HB
  rw [hau, hbu]
  clear hN hR hau hbu ha hb
  unfold cd at HR
  generalize a.id = a0 at *
  generalize a.h = a1 at *
  generalize a.v = a2 at *
  generalize a.q = a3 at *
  generalize a.c = a4 at *
  generalize a.r = a5 at *
  generalize a.bs = a6 at *
  generalize b.id = b0 at *
  generalize b.h = b1 at *
  generalize b.v = b2 at *
  generalize b.q = b3 at *
  generalize b.c = b4 at *
  generalize b.r = b5 at *
  generalize b.bs = b6 at *
  go_enter Try.func79, Try.ntmps79
  go_upto_region 1 with fail
  refine wp_world (fun W => Blk W N #[.int .i64 a0, .int .i64 a1, .int .i64 a2, .int .i64 a3, .int .i64 a4, .int .i64 a5, .slice ab a6.length acap] 63 ∧ Blk W (N + 1) #[.int .i64 b0, .int .i64 b1, .int .i64 b2, .int .i64 b3, .int .i64 b4, .int .i64 b5, .slice bb b6.length bcap] 63 ∧ Below N w W ∧ N ≤ W.heap.size) ?_ ?_
  · rw [HN.out]
    exact ⟨(Blk.new _ _ _).alloc _, Blk.new' _ _ _ (by simp), ((Below.refl _ _).alloc (Nat.le_refl _) _).alloc (by simp) _, by simp; omega⟩
  have hhN := HN.out
  rw [← hhN]
  clear hhN
  rintro W ⟨bN, bM, hB, hNW⟩
  have hp := hps W (HA.below (by rw [← HN.out]; exact hB)) (HB.below (by rw [← HN.out]; exact hB))
  clear hps HA HB
  have p0 := bN.cell 0; have p1 := bN.cell 1; have p2 := bN.cell 2; have p3 := bN.cell 3; have p4 := bN.cell 4; have p5 := bN.cell 5; have p6 := bN.cell 6
  have q0 := bM.cell 0; have q1 := bM.cell 1; have q2 := bM.cell 2; have q3 := bM.cell 3; have q4 := bM.cell 4; have q5 := bM.cell 5; have q6 := bM.cell 6
  by_cases h0 : a0 = b0
  · by_cases h1 : a1 = b1
    · by_cases h2 : a2 = b2
      · by_cases h3 : a3 = b3
        · subst h0 h1 h2 h3
          have e1 : decide (a4 = b4 ∧ a5 = b5 ∧ a6 = b6) = R := by rw [← HR.out]; simp
          rw [e1] at hp
          clear e1
          go_wp2_with (go_at_call 129; refine hp.mono ?_; rintro e w1 ⟨rfl, hb1⟩)
          go_ret
          exact ⟨rfl, hB.trans (hb1.mono hNW)⟩
        · have t3 : decide (a3 = b3) = false := by simpa using h3
          have t3' : (a3 == b3) = false := by simpa using h3
          obtain rfl : R = false := by rw [← HR.out]; simp [h3]
          subst h0 h1 h2
          clear h3
          go_wp2_with fail
          go_ret
          exact ⟨rfl, hB⟩
      · have t3 : decide (a2 = b2) = false := by simpa using h2
        have t3' : (a2 == b2) = false := by simpa using h2
        obtain rfl : R = false := by rw [← HR.out]; simp [h2]
        subst h0 h1
        clear h2
        go_wp2_with fail
        go_ret
        exact ⟨rfl, hB⟩
    · have t3 : decide (a1 = b1) = false := by simpa using h1
      have t3' : (a1 == b1) = false := by simpa using h1
      obtain rfl : R = false := by rw [← HR.out]; simp [h1]
      subst h0
      clear h1
      go_wp2_with fail
      go_ret
      exact ⟨rfl, hB⟩
  · have t3 : decide (a0 = b0) = false := by simpa using h0
    have t3' : (a0 == b0) = false := by simpa using h0
    obtain rfl : R = false := by rw [← HR.out]; simp [h0]
    clear h0
    go_wp2_with fail
    go_ret
    exact ⟨rfl, hB⟩
theorem comps_equal (u v : Value) (xs ys : List CompArg) (w : World) (hA : IsComps w u xs) (hB : IsComps w v ys) (hn : xs.length ≤ 1000000) (hl : ∀ c ∈ xs, c.bs.length ≤ 1000000) :
    Calls Try.prog 78 #[u, v, .func (.func 79) #[] #[]] w fun e w' => e = .returned (.bool (decide (xs.map cd = ys.map cd))) ∧ Below w.heap.size w w' := by
  obtain ⟨au, ca, rfl⟩ := hA.len
  obtain ⟨bv, cb, rfl⟩ := hB.len
  have HLB := Lib.hid hl
  clear hl
  by_cases hl : xs.length = ys.length
  · rw [← hl] at hB ⊢
    have HL := Lib.hid hl
    clear hl
    go_enter Try.func78, Try.ntmps78
    go_wp2_with fail
    go_loopw [17] (fun i wr => ∃ j : Nat, j ≤ xs.length ∧ i = .int .i64 j ∧ Below w.heap.size w wr ∧ EqTo (xs.map cd) (ys.map cd) j) (fun i _ => xs.length - (intOf i).toNat)
    case atStart => exact ⟨0, Nat.zero_le _, rfl, Below.refl _ _, EqTo.zero _ _⟩
    case round =>
      obtain ⟨j, hj, rfl, hb, hE⟩ := hrel
      by_cases hlt : j < xs.length
      · have tj : decide (j < xs.length) = true := by simpa using hlt
        have hlt2 : j < ys.length := by rw [← HL.out]; exact hlt
        have hA' := hA.below hb
        have hB2 : IsComps wr (.slice bv ys.length cb) ys := by have h := hB.below hb; rw [HL.out] at h; exact h
        obtain ⟨a, rfl, c0, c1, c2, c3, c4, c5, c6⟩ := hA'.at hlt
        have hj0 : (0 : Int) ≤ (j : Int) := by omega
        have hj1 : (j : Int) < (xs.length : Int) := by omega
        have hsm := fun W h1 h2 => comp_same (xs[j]'hlt) (ys[j]'hlt2) (HLB.out _ (List.getElem_mem hlt)) W h1 h2
        have HOa := hA'.ok _ (List.getElem_mem hlt)
        have HOb := hB2.ok _ (List.getElem_mem hlt2)
        obtain ⟨ub, ucap, hu, -, -⟩ := HOa.ar.len
        obtain ⟨zb, zcap, hz, -, -⟩ := HOb.ar.len
        have hstep : ∀ b, decide (cd (xs[j]'hlt) = cd (ys[j]'hlt2)) = b → (b = true → EqTo (xs.map cd) (ys.map cd) (j + 1)) ∧ (b = false → decide (xs.map cd = ys.map cd) = false) := fun b hb => by
          subst hb
          refine ⟨fun h => hE.step (by simp [hlt, hlt2, of_decide_eq_true h]), fun h => decide_eq_false fun he => of_decide_eq_false h ?_⟩
          have := congrArg (fun l => l[j]?) he
          simpa [hlt, hlt2] using this
        unfold CompArg.val at hsm
        rw [hu] at c6
        rw [hu, hz] at hsm
        obtain ⟨b, hb0⟩ : ∃ b, decide (cd (xs[j]'hlt) = cd (ys[j]'hlt2)) = b := ⟨_, rfl⟩
        rw [hb0] at hsm
        have hst := hstep b hb0
        clear hstep hb0
        obtain ⟨M, hM⟩ : ∃ M, M = wr.heap.size := ⟨_, rfl⟩
        have hMw : w.heap.size ≤ M := by rw [hM]; exact hb.size
        go_upto_region 6 with fail
        refine wp_world (fun W => Blk W M #[.int .i64 (xs[j]'hlt).id, .int .i64 (xs[j]'hlt).h, .int .i64 (xs[j]'hlt).v, .int .i64 (xs[j]'hlt).q, .int .i64 (xs[j]'hlt).c, .int .i64 (xs[j]'hlt).r, .slice ub (xs[j]'hlt).bs.length ucap] 63 ∧ Below wr.heap.size wr W) ⟨Blk.new' _ _ _ hM, (Below.refl _ _).alloc (Nat.le_refl _) _⟩ ?_
        rw [← hM]
        clear c0 c1 c2 c3 c4 c5 c6
        rintro W ⟨bM, hbW⟩
        rw [hM] at hbW
        obtain ⟨a', ha', d0, d1, d2, d3, d4, d5, d6⟩ := (hB2.below hbW).at hlt2
        subst ha'
        rw [hz] at d6
        have hj2 : (j : Int) < (ys.length : Int) := by omega
        obtain ⟨K, hK⟩ : ∃ K, K = W.heap.size := ⟨_, rfl⟩
        go_upto_region 7 with fail
        have hal := (Below.refl W.heap.size W).alloc (Nat.le_refl _) (.cells #[.int .i64 (ys[j]'hlt2).id, .int .i64 (ys[j]'hlt2).h, .int .i64 (ys[j]'hlt2).v, .int .i64 (ys[j]'hlt2).q, .int .i64 (ys[j]'hlt2).c, .int .i64 (ys[j]'hlt2).r, .slice zb (ys[j]'hlt2).bs.length zcap] 63)
        refine wp_world (fun W => Blk W M #[.int .i64 (xs[j]'hlt).id, .int .i64 (xs[j]'hlt).h, .int .i64 (xs[j]'hlt).v, .int .i64 (xs[j]'hlt).q, .int .i64 (xs[j]'hlt).c, .int .i64 (xs[j]'hlt).r, .slice ub (xs[j]'hlt).bs.length ucap] 63 ∧ Blk W K #[.int .i64 (ys[j]'hlt2).id, .int .i64 (ys[j]'hlt2).h, .int .i64 (ys[j]'hlt2).v, .int .i64 (ys[j]'hlt2).q, .int .i64 (ys[j]'hlt2).c, .int .i64 (ys[j]'hlt2).r, .slice zb (ys[j]'hlt2).bs.length zcap] 63 ∧ Below wr.heap.size wr W) ⟨bM.below hal bM.lt, Blk.new' _ _ _ hK, hbW.trans (hal.mono hbW.size)⟩ ?_
        rw [← hK]
        clear d0 d1 d2 d3 d4 d5 d6 hal bM hbW hK
        rintro W2 ⟨bM, bK, hbW⟩
        have hs2 := hsm W2 (HOa.below hbW) (HOb.below hbW)
        have hBW := hb.trans (hbW.mono hb.size)
        clear hsm HOa HOb hbW hM hA' hB2 hu hz
        generalize (xs[j]'hlt).id = x0 at *
        generalize (xs[j]'hlt).h = x1 at *
        generalize (xs[j]'hlt).v = x2 at *
        generalize (xs[j]'hlt).q = x3 at *
        generalize (xs[j]'hlt).c = x4 at *
        generalize (xs[j]'hlt).r = x5 at *
        generalize (xs[j]'hlt).bs.length = x6 at *
        generalize (ys[j]'hlt2).id = y0 at *
        generalize (ys[j]'hlt2).h = y1 at *
        generalize (ys[j]'hlt2).v = y2 at *
        generalize (ys[j]'hlt2).q = y3 at *
        generalize (ys[j]'hlt2).c = y4 at *
        generalize (ys[j]'hlt2).r = y5 at *
        generalize (ys[j]'hlt2).bs.length = y6 at *
        cases b
        · have hd := Lib.hid (hst.2 rfl)
          clear hst hE
          go_wp2_with (first | (refine wpList_load_row rfl 63 _ rfl M rfl 63 _ _ _ bM Try.underlying63 rfl (by kernel_rfl) ?_) | (refine wpList_load_row rfl 63 _ rfl K rfl 63 _ _ _ bK Try.underlying63 rfl (by kernel_rfl) ?_) | (go_at_call 79; refine hs2.mono ?_; rintro e w3 ⟨rfl, hb3⟩))
          go_ret
          exact ⟨by rw [hd.out]; rfl, hBW.trans (hb3.mono hBW.size)⟩
        · have hE2 := Lib.hid (hst.1 rfl)
          clear hst hE
          go_wp2_with (first | (refine wpList_load_row rfl 63 _ rfl M rfl 63 _ _ _ bM Try.underlying63 rfl (by kernel_rfl) ?_) | (refine wpList_load_row rfl 63 _ rfl K rfl 63 _ _ _ bK Try.underlying63 rfl (by kernel_rfl) ?_) | (go_at_call 79; refine hs2.mono ?_; rintro e w3 ⟨rfl, hb3⟩))
          exact ⟨⟨j + 1, by omega, by go_num, hBW.trans (hb3.mono hBW.size), hE2.out⟩, by simp [intOf]; omega⟩
      · have tj : decide (j < xs.length) = false := by simpa using hlt
        obtain rfl : j = xs.length := by omega
        have he := Lib.hid (decide_eq_true (hE.all (by simp) (by simp [HL.out])))
        clear hE
        go_wp2_with fail
        go_ret
        exact ⟨by rw [he.out]; rfl, hb⟩
  · have tl : decide ((xs.length : Int) = (ys.length : Int)) = false := by simp; omega
    have hne : ¬ xs.map cd = ys.map cd := fun h => hl (by simpa using congrArg List.length h)
    have hd := Lib.hid (decide_eq_false hne)
    clear hne
    go_enter Try.func78, Try.ntmps78
    go_wp2_with fail
    go_ret
    exact ⟨by rw [hd.out]; rfl, Below.refl _ _⟩
/-- Are two images alike? -/
def sameB (x y : ImgArg) : Bool := decide (x.w = y.w ∧ x.h = y.h ∧ x.cs.map cd = y.cs.map cd ∧ x.qs.map qd = y.qs.map qd ∧ x.ts.map td = y.ts.map td)
/-- Two images in blocks N and N + 1. -/
structure TwoI (N : Nat) (x y : ImgArg) (w W : World) : Prop where
  bN : Blk W N #[.int .i64 x.w, .int .i64 x.h, x.cu, x.qu, x.tu] 26
  bM : Blk W (N + 1) #[.int .i64 y.w, .int .i64 y.h, y.cu, y.qu, y.tu] 26
  hx : IsImg W (.agg #[.int .i64 x.w, .int .i64 x.h, x.cu, x.qu, x.tu]) x
  hy : IsImg W (.agg #[.int .i64 y.w, .int .i64 y.h, y.cu, y.qu, y.tu]) y
  hM : w.heap.size ≤ N
  hB : Below w.heap.size w W
theorem TwoI.below {N : Nat} {x y : ImgArg} {w W W' : World} (h : TwoI N x y w W) (hb : Below W.heap.size W W') : TwoI N x y w W' :=
  ⟨h.bN.below hb h.bN.lt, h.bM.below hb h.bM.lt, h.hx.below hb, h.hy.below hb, h.hM, h.hB.trans (hb.mono h.hB.size)⟩
theorem TwoI.begin {x y : ImgArg} {w : World} (h1 : IsImg w x.val x) (h2 : IsImg w y.val y) : TwoI w.heap.size x y w ((w.alloc (.cells #[.int .i64 x.w, .int .i64 x.h, x.cu, x.qu, x.tu] 26)).alloc (.cells #[.int .i64 y.w, .int .i64 y.h, y.cu, y.qu, y.tu] 26)) := by
  have hb : Below w.heap.size w ((w.alloc (.cells #[.int .i64 x.w, .int .i64 x.h, x.cu, x.qu, x.tu] 26)).alloc (.cells #[.int .i64 y.w, .int .i64 y.h, y.cu, y.qu, y.tu] 26)) := ((Below.refl _ _).alloc (Nat.le_refl _) _).alloc (by simp) _
  exact ⟨(Blk.new _ _ _).alloc _, Blk.new' _ _ _ (by simp), h1.below hb, h2.below hb, Nat.le_refl _, hb⟩
theorem img_same (x y : ImgArg) (hf : FewOk x) (w : World) (h1 : IsImg w x.val x) (h2 : IsImg w y.val y) :
    Calls Try.prog 29 #[x.val, y.val] w fun e w' => e = .returned (.bool (sameB x y)) ∧ Below w.heap.size w w' := by
  obtain ⟨R, hR⟩ : ∃ R, sameB x y = R := ⟨_, rfl⟩
  rw [hR]
  unfold sameB at hR
  have HR := Lib.hid hR
  have hT := TwoI.begin h1 h2
  have hc := fun W (h : TwoI w.heap.size x y w W) => comps_equal x.cu y.cu x.cs y.cs W h.hx.cs h.hy.cs (by have := hf.c20; omega) (fun c hc => by have := hf.b300 c hc; omega)
  have hq := fun W (h : TwoI w.heap.size x y w W) => quants_equal x.qu y.qu x.qs y.qs W h.hx.qs h.hy.qs (by have := hf.q20; omega)
  have ht := fun W (h : TwoI w.heap.size x y w W) => tags_equal x.tu y.tu x.ts y.ts W h.hx.ts h.hy.ts (by have := hf.t100; omega)
  unfold ImgArg.val
  obtain ⟨C, hC⟩ : ∃ C, decide (x.cs.map cd = y.cs.map cd) = C := ⟨_, rfl⟩
  obtain ⟨Q, hQ⟩ : ∃ C, decide (x.qs.map qd = y.qs.map qd) = C := ⟨_, rfl⟩
  obtain ⟨T, hT'⟩ : ∃ C, decide (x.ts.map td = y.ts.map td) = C := ⟨_, rfl⟩
  rw [hC] at hc
  rw [hQ] at hq
  rw [hT'] at ht
  have HC := Lib.hid hC; have HQ := Lib.hid hQ; have HT := Lib.hid hT'
  obtain ⟨N, hN⟩ : ∃ N, N = w.heap.size := ⟨_, rfl⟩
  have HN := Lib.hid hN
  rw [← hN] at hT hc hq ht
  clear hC hQ hT' hR hN h1 h2
  go_enter Try.func29, Try.ntmps29
  go_upto_region 1 with fail
  refine wp_world (TwoI N x y w) hT ?_
  rw [← HN.out]
  clear hT
  intro W hT
  have p0 := hT.bN.cell 0; have p1 := hT.bN.cell 1; have p2 := hT.bN.cell 2
  have q0 := hT.bM.cell 0; have q1 := hT.bM.cell 1; have q2 := hT.bM.cell 2
  by_cases e0 : x.w = y.w
  · by_cases e1 : x.h = y.h
    · have t0 : (x.w == y.w) = true := by simpa using e0
      have t0' : decide (x.w = y.w) = true := by simpa using e0
      have t1 : (x.h == y.h) = true := by simpa using e1
      have t1' : decide (x.h = y.h) = true := by simpa using e1
      have hr : decide (x.cs.map cd = y.cs.map cd ∧ x.qs.map qd = y.qs.map qd ∧ x.ts.map td = y.ts.map td) = R := by rw [← HR.out]; simp [e0, e1]
      have hr2 : (C && (Q && T)) = R := by rw [← hr, ← HC.out, ← HQ.out, ← HT.out]; simp
      clear hr e0 e1
      have HR2 := Lib.hid hr2
      clear hr2
      cases C
      · obtain rfl : R = false := by rw [← HR2.out]; rfl
        go_wp2_with (go_at_call 78; refine (hc _ hT).mono ?_; rintro e w1 ⟨rfl, hb1⟩)
        go_ret
        rw [HN.out]
        exact ⟨rfl, (hT.below hb1).hB⟩
      · cases Q
        · obtain rfl : R = false := by rw [← HR2.out]; rfl
          go_wp2_with (first | (go_at_call 78; refine (hc _ hT).mono ?_; rintro e w1 ⟨rfl, hb1⟩; have hT1 := hT.below hb1; have p3 := hT1.bN.cell 3; have q3 := hT1.bM.cell 3) | (go_at_call 80; refine (hq _ hT1).mono ?_; rintro e w2 ⟨rfl, hb2⟩))
          go_ret
          rw [HN.out]
          exact ⟨rfl, (hT1.below hb2).hB⟩
        · obtain rfl : T = R := by rw [← HR2.out]; simp
          go_wp2_with (first | (go_at_call 78; refine (hc _ hT).mono ?_; rintro e w1 ⟨rfl, hb1⟩; have hT1 := hT.below hb1; have p3 := hT1.bN.cell 3; have q3 := hT1.bM.cell 3) | (go_at_call 80; refine (hq _ hT1).mono ?_; rintro e w2 ⟨rfl, hb2⟩; have hT2 := hT1.below hb2; have p4 := hT2.bN.cell 4; have q4 := hT2.bM.cell 4) | (go_at_call 81; refine (ht _ hT2).mono ?_; rintro e w3 ⟨rfl, hb3⟩))
          go_ret
          rw [HN.out]
          exact ⟨rfl, (hT2.below hb3).hB⟩
    · have t0 : (x.w == y.w) = true := by simpa using e0
      have t0' : decide (x.w = y.w) = true := by simpa using e0
      have t1 : (x.h == y.h) = false := by simpa using e1
      have t1' : decide (x.h = y.h) = false := by simpa using e1
      obtain rfl : R = false := by rw [← HR.out]; simp [e1]
      clear e0 e1
      go_wp2_with fail
      go_ret
      rw [HN.out]
      exact ⟨rfl, hT.hB⟩
  · have t0 : (x.w == y.w) = false := by simpa using e0
    have t0' : decide (x.w = y.w) = false := by simpa using e0
    obtain rfl : R = false := by rw [← HR.out]; simp [e0]
    clear e0
    go_wp2_with fail
    go_ret
    rw [HN.out]
    exact ⟨rfl, hT.hB⟩
end Go.Proofs.Ytgmhhocpdfdplaa
/- Package image: what Copy makes, in plain words; the image while it is made. -/
namespace Go.Proofs.Ytgmhhocpdfdplaa
open Go.RowKit
set_option maxRecDepth 100000
def setU (x : CompArg) (u : Value) : CompArg := ⟨x.id, x.h, x.v, x.q, x.c, x.r, u, x.bs⟩
theorem flat_set1 {L : List CompArg} {k : Nat} (hk : k < L.length) (c : Value) :
    ((L.map CompArg.cells).flatten.set (k * 7 + 6) c) = ((L.set k (setU (L[k]'hk) c)).map CompArg.cells).flatten := by
  have e1 : L = L.take k ++ (L[k]'hk) :: L.drop (k + 1) := by
    rw [← List.drop_eq_getElem_cons hk, List.take_append_drop]
  have e2 : L.set k (setU (L[k]'hk) c) = L.take k ++ setU (L[k]'hk) c :: L.drop (k + 1) := by rw [List.set_eq_take_append_cons_drop, if_pos hk]
  rw [e2, List.map_append, List.flatten_append, List.map_cons, List.flatten_cons]
  have e3 : (L.map CompArg.cells).flatten = ((L.take k).map CompArg.cells).flatten ++ ((L[k]'hk).cells ++ ((L.drop (k + 1)).map CompArg.cells).flatten) := by
    conv => lhs; rw [e1]
    rw [List.map_append, List.flatten_append, List.map_cons, List.flatten_cons]
  have hlA : ((L.take k).map CompArg.cells).flatten.length = k * 7 := by
    have : ∀ M : List CompArg, (M.map CompArg.cells).flatten.length = M.length * 7 := fun M => by
      induction M with
      | nil => rfl
      | cons c M ih => rw [List.map_cons, List.flatten_cons, List.length_append, ih]; simp [CompArg.cells]; omega
    rw [this, List.length_take, Nat.min_eq_left (by omega)]
  rw [e3]
  generalize ((L.take k).map CompArg.cells).flatten = A at *
  generalize ((L.drop (k + 1)).map CompArg.cells).flatten = B at *
  rw [List.set_append_right _ _ (by omega), hlA, show k * 7 + 6 - k * 7 = 6 by omega]
  rfl
/-- The components' own slice, and the planes' own slices of the first k. -/
structure CpC (N k : Nat) (cu : Value) (cs : List CompArg) (w W : World) : Prop where
  row : Row W N 63 7 cu cs.length (cs.map CompArg.cells).flatten
  old : ∀ i (hi : i < cs.length), k ≤ i → (cs[i]'hi).Ok w
  own : ∀ i (hi : i < cs.length), i < k → Row W N 57 64 (cs[i]'hi).u (cs[i]'hi).bs.length (bcells (cs[i]'hi).bs)
  ok : ∀ i (hi : i < cs.length), i < k → ∀ W', Ar W' 64 (cs[i]'hi).u (cs[i]'hi).bs.length (bcells (cs[i]'hi).bs) → (cs[i]'hi).Ok W'
  dis : ∀ i j (hi : i < cs.length) (hj : j < cs.length), i < k → j < k → i ≠ j → ∀ g, (cs[i]'hi).u.ownBlock = some g → (cs[j]'hj).u.ownBlock ≠ some g
  hN : N = w.heap.size
  hB : Below N w W
  hW : N ≤ W.heap.size
theorem CpC.below {N k : Nat} {cu : Value} {cs : List CompArg} {w W W' : World} (h : CpC N k cu cs w W) (hb : Below W.heap.size W W') : CpC N k cu cs w W' :=
  ⟨h.row.grow hb, h.old, fun i hi hk => (h.own i hi hk).grow hb, h.ok, h.dis, h.hN, h.hB.trans (hb.mono h.hW), Nat.le_trans h.hW hb.size⟩
theorem CpC.comps {N k : Nat} {cu : Value} {cs : List CompArg} {w W : World} (h : CpC N k cu cs w W) (hl : cs.length ≤ 1000000) : IsComps W cu cs :=
  ⟨Ar.elems h.row.ar (fun c hc => by obtain ⟨p, _, rfl⟩ := List.mem_map.1 hc; rfl) (by simp) (by simp only [maxLen]; omega), fun c hc => by
    obtain ⟨i, hi, rfl⟩ := List.getElem_of_mem hc
    by_cases hik : i < k
    · exact h.ok i hi hik W (h.own i hi hik).ar
    · exact (h.old i hi (by omega)).below (by rw [← h.hN]; exact h.hB)⟩
/-- What else is changed. -/
theorem CpC.same {N k : Nat} {cu : Value} {cs : List CompArg} {w W W' : World} (h : CpC N k cu cs w W) (hb : ∀ g, (∃ cur, Blk W g cur 63 ∨ Blk W g cur 57) → W'.heap[g]? = W.heap[g]?) (hB : Below N w W') (hW : N ≤ W'.heap.size) : CpC N k cu cs w W' := by
  have key : ∀ {e : TypeId} {size : Nat} {v : Value} {n : Nat} {xs : List Value}, e = 63 ∨ e = 57 → Row W N e size v n xs → Row W' N e size v n xs := fun he hr => by
    refine hr.same fun g hg => hb g ?_
    rcases hr.2 with ⟨h0, _⟩ | ⟨g', cap', cur, h0, _, h3, _⟩
    · rw [h0] at hg; cases hg
    · rw [h0] at hg
      obtain rfl : g' = g := Option.some.inj hg
      rcases he with rfl | rfl
      · exact ⟨_, .inl h3⟩
      · exact ⟨_, .inr h3⟩
  exact ⟨key (.inl rfl) h.row, h.old, fun i hi hk => key (.inr rfl) (h.own i hi hk), h.ok, h.dis, h.hN, hB, hW⟩
theorem CpC.put {N k g cap : Nat} {cs : List CompArg} {w W W0 : World} (h : CpC N k (.slice (some ⟨g, 0, none⟩) cs.length cap) cs w W) (hk : k < cs.length) (v : Value) {lo : Nat}
    (hlo : N ≤ lo) (hold : CpC N k (.slice (some ⟨g, 0, none⟩) cs.length cap) cs w W0) (hl0 : W0.heap.size ≤ lo)
    (hv : Row W lo 57 64 v (cs[k]'hk).bs.length (bcells (cs[k]'hk).bs)) :
    CpC N (k + 1) (.slice (some ⟨g, 0, none⟩) cs.length cap) (cs.set k (setU (cs[k]'hk) v)) w (W.setCell ⟨g, k * 7 + 6, none⟩ v) := by
  have hg := h.row.lt g rfl
  have hne : ∀ {lo : Nat} {size : Nat} {u : Value} {n : Nat} {xs : List Value}, Row W lo 57 size u n xs → Row (W.setCell ⟨g, k * 7 + 6, none⟩ v) lo 57 size u n xs := fun hr => by
    refine hr.other _ _ fun b hb e => ?_
    obtain ⟨cur, hc⟩ := h.row.blk
    have e' : b = g := e
    subst e'
    exact hr.typed hc (by decide) b hb rfl
  have gs : ∀ i (hi : i < cs.length) (hi' : i < (cs.set k (setU (cs[k]'hk) v)).length), i ≠ k → (cs.set k (setU (cs[k]'hk) v))[i]'hi' = cs[i]'hi := fun i hi hi' e => by rw [List.getElem_set_ne (fun h => e h.symm)]
  have gk : ∀ (hi' : k < (cs.set k (setU (cs[k]'hk) v)).length), (cs.set k (setU (cs[k]'hk) v))[k]'hi' = setU (cs[k]'hk) v := fun hi' => by rw [List.getElem_set_self]
  refine ⟨?_, fun i hi hik => ?_, fun i hi hik => ?_, fun i hi hik W' ha => ?_, fun i j hi hj hik hjk hij b hb => ?_, h.hN, h.hB.setCell hg.1 _, by simpa using h.hW⟩
  · have := h.row.set (k * 7 + 6) (by omega) v
    rw [flat_set1 hk] at this
    rw [List.length_set]
    exact this
  · have hi2 : i < cs.length := by simpa using hi
    rw [gs i hi2 hi (by omega)]
    exact h.old i hi2 (by omega)
  · have hi2 : i < cs.length := by simpa using hi
    by_cases hek : i = k
    · subst hek
      rw [gk]
      exact hne (hv.down hlo)
    · rw [gs i hi2 hi hek]
      exact hne (h.own i hi2 (by omega))
  · have hi2 : i < cs.length := by simpa using hi
    by_cases hek : i = k
    · subst hek
      rw [gk] at ha ⊢
      have hx := h.old i hi2 (Nat.le_refl _)
      exact ⟨ha, hx.h64, hx.wb, hx.wid, hx.wh, hx.wv, hx.wq, hx.wc, hx.wr⟩
    · rw [gs i hi2 hi hek] at ha ⊢
      exact h.ok i hi2 (by omega) W' ha
  · have hi2 : i < cs.length := by simpa using hi
    have hj2 : j < cs.length := by simpa using hj
    have old : ∀ m (hm : m < cs.length), m < k → ∀ b, (cs[m]'hm).u.ownBlock = some b → b < lo := fun m hm hmk b hb => Nat.lt_of_lt_of_le ((hold.own m hm hmk).lt b hb).2 hl0
    by_cases hek : i = k
    · subst hek
      rw [gk] at hb
      rw [gs j hj2 hj (fun e => hij e.symm)]
      intro e
      have h1 := old j hj2 (by omega) b e
      have h2 := (hv.lt b hb).1
      omega
    · rw [gs i hi2 hi hek] at hb
      by_cases hfk : j = k
      · subst hfk
        rw [gk]
        intro e
        have h1 := old i hi2 (by omega) b hb
        have h2 := (hv.lt b e).1
        omega
      · rw [gs j hj2 hj hfk]
        exact h.dis i j hi2 hj2 (by omega) (by omega) hij b hb
end Go.Proofs.Ytgmhhocpdfdplaa
/- Package image: Copy. -/
namespace Go.Proofs.Ytgmhhocpdfdplaa
open Go.RowKit
set_option maxRecDepth 100000
set_option maxHeartbeats 8000000
/-- An image of its own: rows of its own, each plane apart. -/
structure OwnI (N : Nat) (x : ImgArg) (w W : World) : Prop where
  c : CpC N x.cs.length x.cu x.cs w W
  q : Row W N 39 65 x.qu x.qs.length (x.qs.map QuantArg.cells).flatten
  t : Row W N 104 2 x.tu x.ts.length (x.ts.map TagArg.cells).flatten
  qok : ∀ q ∈ x.qs, q.Ok
  tok : ∀ t ∈ x.ts, t.Ok
structure SameD (x y : ImgArg) : Prop where
  w : y.w = x.w
  h : y.h = x.h
  cs : y.cs.map cd = x.cs.map cd
  qs : y.qs = x.qs
  ts : y.ts = x.ts
theorem tag_one (ts : List TagArg) : ∀ u ∈ (ts.map TagArg.cells).flatten, u.oneCell' = true := by
  intro u hu
  obtain ⟨c, hc, hu⟩ := List.mem_flatten.1 hu
  obtain ⟨x, hx, rfl⟩ := List.mem_map.1 hc
  simp only [TagArg.cells, List.mem_cons, List.not_mem_nil, or_false] at hu
  rcases hu with rfl | rfl <;> rfl
def shRow (n : Nat) (v : Value) : Prop := ∃ b cap, v = .slice b n cap
def fRow (e : TypeId) (size n : Nat) (xs : List Value) (v : Value) : Fact := fun lo hi w => Row w lo e size v n xs ∧ ∀ g, v.ownBlock = some g → g < hi
theorem fRow_mono (e : TypeId) (size n : Nat) (xs : List Value) (v : Value) : (fRow e size n xs v).Mono := by
  intro lo hi w w' h hs hB
  exact ⟨h.1.grow hB, h.2⟩
theorem img_copy (x : ImgArg) (hf : FewOk x) (w : World) (h : IsImg w x.val x) :
    Calls Try.prog 31 #[x.val] w fun r w' => ∃ x1, r = .returned x1.val ∧ SameD x x1 ∧ OwnI w.heap.size x1 w w' := by
  have hc20 := hf.c20
  have hq20 := hf.q20
  have ht100 := hf.t100
  have HF := Lib.hid hf.b300
  obtain ⟨N, hN⟩ : ∃ N, N = w.heap.size := ⟨_, rfl⟩
  have HN := Lib.hid hN
  rw [← hN]
  have hbe : Below w.heap.size w ((w.alloc (.cells #[.int .i64 x.w, .int .i64 x.h, x.cu, x.qu, x.tu] 26)).alloc (.cells #[.int .i64 0, .int .i64 0, .slice none 0 0, .slice none 0 0, .slice none 0 0] 26)) := ((Below.refl _ _).alloc (Nat.le_refl _) _).alloc (by simp) _
  have har : ∀ W, Below w.heap.size w W → Ar W 7 x.cu x.cs.length (x.cs.map CompArg.cells).flatten := fun W hb => by
    have := (h.cs.below hb).el.ar
    rwa [List.length_map] at this
  have haq : ∀ W, Below w.heap.size w W → Ar W 65 x.qu x.qs.length (x.qs.map QuantArg.cells).flatten := fun W hb => by
    have := (h.qs.el.below hb).ar
    rwa [List.length_map] at this
  have hat : ∀ W, Below w.heap.size w W → Ar W 2 x.tu x.ts.length (x.ts.map TagArg.cells).flatten := fun W hb => by
    have := (h.ts.el.below hb).ar
    rwa [List.length_map] at this
  have hcc := fun W hb => comp_clone x.cu x.cs.length _ (by omega) W (har W hb) (comp_one h.cs)
  have hqc := fun W hb => quant_clone x.qu x.qs.length _ (by omega) W (haq W hb) (quant_one x.qs)
  have htc := fun W hb => tag_clone x.tu x.ts.length _ (by omega) W (hat W hb) (tag_one x.ts)
  have HOK := Lib.hid h.cs.ok
  have HQO := Lib.hid h.qs.ok
  have HTO := Lib.hid h.ts.ok
  unfold ImgArg.val
  clear hN har haq hat h hf
  go_enter Try.func31, Try.ntmps31
  go_upto_region 1 with fail
  rw [← HN.out]
  refine wp_world (fun W => (Blk W N #[.int .i64 x.w, .int .i64 x.h, x.cu, x.qu, x.tu] 26 ∧ Blk W (N + 1) #[.int .i64 0, .int .i64 0, .slice none 0 0, .slice none 0 0, .slice none 0 0] 26) ∧ Below w.heap.size w W) ⟨⟨(Blk.new' _ _ _ HN.out).alloc _, Blk.new' _ _ _ (by rw [HN.out]; simp)⟩, hbe⟩ ?_
  clear hbe
  rintro W ⟨⟨bN, bM⟩, hB⟩
  have q2 := bN.cell 2
  go_upto_region 2 with (go_at_call 71; refine (hcc _ hB).mono ?_; rintro r w1 ⟨cu, rfl, hR1, hb1⟩; obtain ⟨cb, ccap, rfl⟩ := hR1.len; have bN1 := bN.below hb1 bN.lt; have qq := bN1.cell 2; have ff := bN1.free 2)
  have hNW : N ≤ W.heap.size := Nat.le_of_lt bN.lt
  have bM1 := bM.below hb1 bM.lt
  have hB1 : Below N w w1 := by rw [HN.out]; exact hB.trans (hb1.mono hB.size)
  have hN1 : N ≤ w1.heap.size := Nat.le_trans hNW hb1.size
  refine wp_world (fun W => (Blk W N #[.int .i64 x.w, .int .i64 x.h, .slice cb x.cs.length ccap, x.qu, x.tu] 26 ∧ Blk W (N + 1) #[.int .i64 0, .int .i64 0, .slice none 0 0, .slice none 0 0, .slice none 0 0] 26) ∧ CpC N 0 (.slice cb x.cs.length ccap) x.cs w W) ⟨⟨bN1.set 2 _, bM1.other _ _ (by show N + 1 ≠ N; omega)⟩, ?_⟩ ?_
  · refine ⟨(hR1.down hNW).other _ _ (hR1.typed bN1 (by decide)), fun i hi _ => HOK.out _ (List.getElem_mem hi), fun i hi hk => absurd hk (by omega), fun i hi hk => absurd hk (by omega), fun i j hi hj hk => absurd hk (by omega), HN.out, hB1.setCell (Nat.le_refl N) _, by simpa using hN1⟩
  clear bN bM hB q2 hR1 hb1 bN1 qq ff bM1 hB1 hcc hN1 hNW
  clear W w1
  rintro W ⟨⟨bN, bM⟩, hC⟩
  have q2 := bN.cell 2
  go_wp2
  clear q2
  go_loopw [11] (fun iv wr => ∃ k : Nat, k ≤ x.cs.length ∧ iv = .int .i64 k ∧ ∃ cs, cs.length = x.cs.length ∧ cs.map cd = x.cs.map cd ∧ (Blk wr N #[.int .i64 x.w, .int .i64 x.h, .slice cb cs.length ccap, x.qu, x.tu] 26 ∧ Blk wr (N + 1) #[.int .i64 0, .int .i64 0, .slice none 0 0, .slice none 0 0, .slice none 0 0] 26) ∧ CpC N k (.slice cb cs.length ccap) cs w wr) (fun iv _ => x.cs.length - (intOf iv).toNat)
  case atStart => exact ⟨0, Nat.zero_le _, rfl, x.cs, rfl, rfl, ⟨bN, bM⟩, hC⟩
  case round =>
    clear bN bM hC
    obtain ⟨k, hk, rfl, cs, hcl, hcd, ⟨bN, bM⟩, hC⟩ := hrel
    have HCL := Lib.hid hcl
    have HCD := Lib.hid hcd
    by_cases hlt : k < x.cs.length
    · have tl : decide (k < x.cs.length) = true := by simpa using hlt
      have hkc : k < cs.length := by rw [hcl]; exact hlt
      clear hcl hcd
      obtain ⟨g, cap', he, hlo, hgs, -⟩ := hC.row.cells (by omega)
      simp only [Value.slice.injEq] at he
      obtain ⟨rfl, -, rfl⟩ := he
      have j0 : (0 : Int) ≤ (k : Int) := by omega
      have j1 : (k : Int) < (cs.length : Int) := by omega
      have hok := hC.old k hkc (Nat.le_refl _)
      have hb3 : (cs[k]'hkc).bs.length ≤ 1000000 := by
        have e0 : cd (cs[k]'hkc) = cd (x.cs[k]'hlt) := by
          have := congrArg (fun l => l[k]?) HCD.out
          simpa [hkc, hlt] using this
        have e1 : (cs[k]'hkc).bs = (x.cs[k]'hlt).bs := congrArg (fun t => t.2.2.2) e0
        rw [e1]
        have := HF.out _ (List.getElem_mem hlt)
        omega
      obtain ⟨ub, ucap, hu, -, -⟩ := hok.ar.len
      have hcs : cs.length ≤ 1000000 := by rw [HCL.out]; omega
      have hadd : (⟨g, 0, none⟩ : Addr).add (k * 7) = ⟨g, k * 7, none⟩ := by unfold Addr.add; split <;> simp_all
      have c6 : ∀ W, CpC N k (.slice (some ⟨g, 0, none⟩) cs.length ccap) cs w W → W.cell? ⟨g, k * 7 + 4 + 2, none⟩ = some (.slice ub (cs[k]'hkc).bs.length ucap) := fun W hW => by
        obtain ⟨a', ha', -, -, -, -, -, -, c6⟩ := (hW.comps hcs).at hkc
        cases ha'
        rw [hadd, hu] at c6
        exact c6
      have hbc := fun W (hW : CpC N k (.slice (some ⟨g, 0, none⟩) cs.length ccap) cs w W) => blocks_clone (.slice ub (cs[k]'hkc).bs.length ucap) (cs[k]'hkc).bs.length (bcells (cs[k]'hkc).bs) hb3 W (by
        have := (hok.below (by rw [← hW.hN]; exact hW.hB)).ar
        rwa [hu] at this) (bcells_one _)
      have hGm : ∀ W W', ((Blk W N #[.int .i64 x.w, .int .i64 x.h, .slice (some ⟨g, 0, none⟩) cs.length ccap, x.qu, x.tu] 26 ∧ Blk W (N + 1) #[.int .i64 0, .int .i64 0, .slice none 0 0, .slice none 0 0, .slice none 0 0] 26) ∧ CpC N k (.slice (some ⟨g, 0, none⟩) cs.length ccap) cs w W) → Below W.heap.size W W' → ((Blk W' N #[.int .i64 x.w, .int .i64 x.h, .slice (some ⟨g, 0, none⟩) cs.length ccap, x.qu, x.tu] 26 ∧ Blk W' (N + 1) #[.int .i64 0, .int .i64 0, .slice none 0 0, .slice none 0 0, .slice none 0 0] 26) ∧ CpC N k (.slice (some ⟨g, 0, none⟩) cs.length ccap) cs w W') := fun W W' h hb => ⟨⟨h.1.1.below hb h.1.1.lt, h.1.2.below hb h.1.2.lt⟩, h.2.below hb⟩
      go_upto_region 5 with fail
      refine wp_region_mono [0, 1, 2, 3, 4, 5, 6, 7, 8, 9, 10, 11, 12, 13] [14] (fun W => (Blk W N #[.int .i64 x.w, .int .i64 x.h, .slice (some ⟨g, 0, none⟩) cs.length ccap, x.qu, x.tu] 26 ∧ Blk W (N + 1) #[.int .i64 0, .int .i64 0, .slice none 0 0, .slice none 0 0, .slice none 0 0] 26) ∧ CpC N k (.slice (some ⟨g, 0, none⟩) cs.length ccap) cs w W)
        (fun | 10 => some (sRel (shRow (cs[k]'hkc).bs.length) (fRow 57 64 (cs[k]'hkc).bs.length (bcells (cs[k]'hkc).bs))) | _ => none) (fun _ => []) (by kernel_rfl) (by kernel_rfl) (hGm _ _ ⟨⟨bN, bM⟩, hC⟩ (Below.refl _ _).drew) ?_ ?_
      · intro i s hs
        match i with
        | 10 => cases hs; exact fun _ _ => fRow_mono _ _ _ _ _
      simp only [pick, List.getD_cons_succ, List.getD_cons_zero, List.zip_cons_cons, List.zip_nil_right]
      (first | (refine mono_skip (by rfl) ?_; simp only [Act.put, List.setIfInBounds_toArray, List.set_cons_zero, List.set_cons_succ]) | (refine mono_pure (v := ?_) (by rfl) rfl ?_ ?_; rotate_left; (intro wS hS; go_simp; try with_reducible rfl); simp only [Act.put, List.setIfInBounds_toArray, List.set_cons_zero, List.set_cons_succ]))
      refine mono_pure (v := .slice (some ⟨g, 0, none⟩) cs.length ccap) (by rfl) rfl (fun w1 hG => by have cy : w1.cell? ⟨N, 2, none⟩ = some (.slice (some ⟨g, 0, none⟩) cs.length ccap) := hG.1.1.cell 2; go_simp; try with_reducible rfl) ?_
      simp only [Act.put, List.setIfInBounds_toArray, List.set_cons_zero, List.set_cons_succ]
      (first | (refine mono_skip (by rfl) ?_; simp only [Act.put, List.setIfInBounds_toArray, List.set_cons_zero, List.set_cons_succ]) | (refine mono_pure (v := ?_) (by rfl) rfl ?_ ?_; rotate_left; (intro wS hS; go_simp; try with_reducible rfl); simp only [Act.put, List.setIfInBounds_toArray, List.set_cons_zero, List.set_cons_succ]))
      (first | (refine mono_skip (by rfl) ?_; simp only [Act.put, List.setIfInBounds_toArray, List.set_cons_zero, List.set_cons_succ]) | (refine mono_pure (v := ?_) (by rfl) rfl ?_ ?_; rotate_left; (intro wS hS; go_simp; try with_reducible rfl); simp only [Act.put, List.setIfInBounds_toArray, List.set_cons_zero, List.set_cons_succ]))
      refine mono_pure (v := .slice (some ⟨g, 0, none⟩) cs.length ccap) (by rfl) rfl (fun w1 hG => by have cy : w1.cell? ⟨N, 2, none⟩ = some (.slice (some ⟨g, 0, none⟩) cs.length ccap) := hG.1.1.cell 2; go_simp; try with_reducible rfl) ?_
      simp only [Act.put, List.setIfInBounds_toArray, List.set_cons_zero, List.set_cons_succ]
      iterate 4 (first | (refine mono_skip (by rfl) ?_; simp only [Act.put, List.setIfInBounds_toArray, List.set_cons_zero, List.set_cons_succ]) | (refine mono_pure (v := ?_) (by rfl) rfl ?_ ?_; rotate_left; (intro wS hS; go_simp; try with_reducible rfl); simp only [Act.put, List.setIfInBounds_toArray, List.set_cons_zero, List.set_cons_succ]))
      refine mono_pure (v := .slice ub (cs[k]'hkc).bs.length ucap) (by rfl) rfl (fun w1 hG => by have cy := c6 w1 hG.2; go_simp; try with_reducible rfl) ?_
      simp only [Act.put, List.setIfInBounds_toArray, List.set_cons_zero, List.set_cons_succ]
      refine mono_rel (shRow (cs[k]'hkc).bs.length) (fRow 57 64 (cs[k]'hkc).bs.length (bcells (cs[k]'hkc).bs)) (by rfl) rfl hGm (by intro w hG; go_simp; first | done | exact ⟨rfl, rfl⟩) ⟨_, none, 0, rfl⟩ (fun w1 hG hH => ?_) (fun v3 hv3 => ?_)
      · refine (hbc w1 hG.2).mono ?_
        rintro e w2 ⟨v, rfl, hR, hb⟩
        obtain ⟨bv, cv, rfl⟩ := hR.len
        exact ⟨_, rfl, ⟨bv, cv, rfl⟩, hb, hR, fun g e => (hR.lt g e).2⟩
      obtain ⟨bv, cv, rfl⟩ := hv3
      simp only [Act.put, List.setIfInBounds_toArray, List.set_cons_zero, List.set_cons_succ]
      iterate 3 (first | (refine mono_skip (by rfl) ?_; simp only [Act.put, List.setIfInBounds_toArray, List.set_cons_zero, List.set_cons_succ]) | (refine mono_pure (v := ?_) (by rfl) rfl ?_ ?_; rotate_left; (intro wS hS; go_simp; try with_reducible rfl); simp only [Act.put, List.setIfInBounds_toArray, List.set_cons_zero, List.set_cons_succ]))
      refine mono_nil ?_
      rintro W5 ⟨⟨bN5, bM5⟩, hC5⟩ ⟨hbs, I, hI1, -⟩
      obtain ⟨i1, i2, i3, hRr, hRl⟩ := hI1 10 _ (upd_self _ _ _)
      have hNl : N ≤ wr.heap.size := Nat.le_of_lt bN.lt
      have hput := hC5.put hkc (.slice bv (cs[k]'hkc).bs.length cv) (Nat.le_trans hNl i1) hC i1 hRr
      obtain ⟨⟨a6, k6⟩, f6⟩ := hC5.row.spot (i := k * 7 + 6) (by omega)
      have htN : N ≠ g := fun e => hC5.row.typed bN5 (by decide) g rfl e.symm
      have htM : N + 1 ≠ g := fun e => hC5.row.typed bM5 (by decide) g rfl e.symm
      have bN6 := bN5.other ⟨g, k * 7 + 6, none⟩ (.slice bv (cs[k]'hkc).bs.length cv) htN
      have bM6 := bM5.other ⟨g, k * 7 + 6, none⟩ (.slice bv (cs[k]'hkc).bs.length cv) htM
      have hcd2 : (cs.set k (setU (cs[k]'hkc) (.slice bv (cs[k]'hkc).bs.length cv))).map cd = x.cs.map cd := by
        rw [← HCD.out]
        refine List.ext_getElem? fun i => ?_
        rw [List.getElem?_map, List.getElem?_map, List.getElem?_set]
        split
        · rename_i e; subst e; simp [hkc, cd, setU]
        · rfl
      have HCD2 := Lib.hid hcd2
      have HP := Lib.hid hput
      clear hcd2 hput hGm hI1 hC5 bN5 bM5 hC bN bM hbc c6 hok hRr hRl
      generalize (cs[k]'hkc).bs.length = z at *
      go_wp2
      refine ⟨⟨k + 1, by omega, by go_num, _, by rw [List.length_set]; exact HCL.out, HCD2.out, ⟨?_, bM6⟩, ?_⟩, by simp [intOf]; omega⟩
      · rw [List.length_set]; exact bN6
      · rw [List.length_set]; exact HP.out
    · obtain rfl : k = x.cs.length := by omega
      have tl : decide (x.cs.length < x.cs.length) = false := by simp
      have hqc2 := fun W (hW : CpC N x.cs.length (.slice cb cs.length ccap) cs w W) => hqc W (by rw [← hW.hN]; exact hW.hB)
      have htc2 := fun W (hW : CpC N x.cs.length (.slice cb cs.length ccap) cs w W) => htc W (by rw [← hW.hN]; exact hW.hB)
      have hGm : ∀ W W', ((Blk W N #[.int .i64 x.w, .int .i64 x.h, .slice cb cs.length ccap, x.qu, x.tu] 26 ∧ Blk W (N + 1) #[.int .i64 0, .int .i64 0, .slice none 0 0, .slice none 0 0, .slice none 0 0] 26) ∧ CpC N x.cs.length (.slice cb cs.length ccap) cs w W) → Below W.heap.size W W' → ((Blk W' N #[.int .i64 x.w, .int .i64 x.h, .slice cb cs.length ccap, x.qu, x.tu] 26 ∧ Blk W' (N + 1) #[.int .i64 0, .int .i64 0, .slice none 0 0, .slice none 0 0, .slice none 0 0] 26) ∧ CpC N x.cs.length (.slice cb cs.length ccap) cs w W') := fun W W' h hb => ⟨⟨h.1.1.below hb h.1.1.lt, h.1.2.below hb h.1.2.lt⟩, h.2.below hb⟩
      go_upto_region 7 with fail
      refine wp_region_mono [0, 1, 2, 3, 4, 5, 6] [7, 8, 9] (fun W => (Blk W N #[.int .i64 x.w, .int .i64 x.h, .slice cb cs.length ccap, x.qu, x.tu] 26 ∧ Blk W (N + 1) #[.int .i64 0, .int .i64 0, .slice none 0 0, .slice none 0 0, .slice none 0 0] 26) ∧ CpC N x.cs.length (.slice cb cs.length ccap) cs w W)
        (fun | 2 => some (sRel (shRow x.qs.length) (fRow 39 65 x.qs.length (x.qs.map QuantArg.cells).flatten)) | 5 => some (sRel (shRow x.ts.length) (fRow 104 2 x.ts.length (x.ts.map TagArg.cells).flatten)) | _ => none) (fun _ => []) (by kernel_rfl) (by kernel_rfl) (hGm _ _ ⟨⟨bN, bM⟩, hC⟩ (Below.refl _ _).drew) ?_ ?_
      · intro i s hs
        match i with
        | 2 => cases hs; exact fun _ _ => fRow_mono _ _ _ _ _
        | 5 => cases hs; exact fun _ _ => fRow_mono _ _ _ _ _
      simp only [pick, List.getD_cons_succ, List.getD_cons_zero, List.zip_cons_cons, List.zip_nil_right]
      (first | (refine mono_skip (by rfl) ?_; simp only [Act.put, List.setIfInBounds_toArray, List.set_cons_zero, List.set_cons_succ]) | (refine mono_pure (v := ?_) (by rfl) rfl ?_ ?_; rotate_left; (intro wS hS; go_simp; try with_reducible rfl); simp only [Act.put, List.setIfInBounds_toArray, List.set_cons_zero, List.set_cons_succ]))
      refine mono_pure (v := x.qu) (by rfl) rfl (fun w1 hG => by have cy : w1.cell? ⟨N, 3, none⟩ = some x.qu := hG.1.1.cell 3; go_simp; try with_reducible rfl) ?_
      simp only [Act.put, List.setIfInBounds_toArray, List.set_cons_zero, List.set_cons_succ]
      refine mono_rel (shRow x.qs.length) (fRow 39 65 x.qs.length (x.qs.map QuantArg.cells).flatten) (by rfl) rfl hGm (by intro w hG; go_simp; first | done | exact ⟨rfl, rfl⟩) ⟨_, none, 0, rfl⟩ (fun w1 hG hH => ?_) (fun v3 hv3 => ?_)
      · refine (hqc2 w1 hG.2).mono ?_
        rintro e w2 ⟨v, rfl, hR, hb⟩
        obtain ⟨bv, cv, rfl⟩ := hR.len
        exact ⟨_, rfl, ⟨bv, cv, rfl⟩, hb, hR, fun g e => (hR.lt g e).2⟩
      obtain ⟨qb, qcap, rfl⟩ := hv3
      simp only [Act.put, List.setIfInBounds_toArray, List.set_cons_zero, List.set_cons_succ]
      (first | (refine mono_skip (by rfl) ?_; simp only [Act.put, List.setIfInBounds_toArray, List.set_cons_zero, List.set_cons_succ]) | (refine mono_pure (v := ?_) (by rfl) rfl ?_ ?_; rotate_left; (intro wS hS; go_simp; try with_reducible rfl); simp only [Act.put, List.setIfInBounds_toArray, List.set_cons_zero, List.set_cons_succ]))
      refine mono_pure (v := x.tu) (by rfl) rfl (fun w1 hG => by have cy : w1.cell? ⟨N, 4, none⟩ = some x.tu := hG.1.1.cell 4; go_simp; try with_reducible rfl) ?_
      simp only [Act.put, List.setIfInBounds_toArray, List.set_cons_zero, List.set_cons_succ]
      refine mono_rel (shRow x.ts.length) (fRow 104 2 x.ts.length (x.ts.map TagArg.cells).flatten) (by rfl) rfl hGm (by intro w hG; go_simp; first | done | exact ⟨rfl, rfl⟩) ⟨_, none, 0, rfl⟩ (fun w1 hG hH => ?_) (fun v4 hv4 => ?_)
      · refine (htc2 w1 hG.2).mono ?_
        rintro e w2 ⟨v, rfl, hR, hb⟩
        obtain ⟨bv, cv, rfl⟩ := hR.len
        exact ⟨_, rfl, ⟨bv, cv, rfl⟩, hb, hR, fun g e => (hR.lt g e).2⟩
      obtain ⟨tb, tcap, rfl⟩ := hv4
      simp only [Act.put, List.setIfInBounds_toArray, List.set_cons_zero, List.set_cons_succ]
      (first | (refine mono_skip (by rfl) ?_; simp only [Act.put, List.setIfInBounds_toArray, List.set_cons_zero, List.set_cons_succ]) | (refine mono_pure (v := ?_) (by rfl) rfl ?_ ?_; rotate_left; (intro wS hS; go_simp; try with_reducible rfl); simp only [Act.put, List.setIfInBounds_toArray, List.set_cons_zero, List.set_cons_succ]))
      refine mono_nil ?_
      rintro W5 ⟨⟨bN5, bM5⟩, hC5⟩ ⟨hbs, I, hI1, -⟩
      obtain ⟨i1, i2, i3, hQr, -⟩ := hI1 2 _ rfl
      obtain ⟨k1, k2, k3, hTr, -⟩ := hI1 5 _ (upd_self _ _ _)
      have hNl : N ≤ wr.heap.size := Nat.le_of_lt bN.lt
      replace hQr := hQr.down (Nat.le_trans hNl i1)
      replace hTr := hTr.down (Nat.le_trans hNl k1)
      have m3 := bN5.cell 3
      have f3 := bN5.free 3
      have bN6 := bN5.set 3 (.slice qb x.qs.length qcap)
      have m4 := bN6.cell 4
      have f4 := bN6.free 4
      have bN7 := bN6.set 4 (.slice tb x.ts.length tcap)
      have bM7 := (bM5.other ⟨N, 3, none⟩ (.slice qb x.qs.length qcap) (by show N + 1 ≠ N; omega)).other ⟨N, 4, none⟩ (.slice tb x.ts.length tcap) (by show N + 1 ≠ N; omega)
      have hC7 : CpC N x.cs.length (.slice cb cs.length ccap) cs w ((W5.setCell ⟨N, 3, none⟩ (.slice qb x.qs.length qcap)).setCell ⟨N, 4, none⟩ (.slice tb x.ts.length tcap)) := by
        refine hC5.same (fun g hg => ?_) ((hC5.hB.setCell (Nat.le_refl N) _).setCell (Nat.le_refl N) _) (by simpa using hC5.hW)
        have hgn : g ≠ N := by
          intro e
          subst e
          obtain ⟨cur, hb | hb⟩ := hg
          · have := bN5.symm.trans hb; simp at this
          · have := bN5.symm.trans hb; simp at this
        exact (heap_setCell_other _ _ _ _ hgn).trans (heap_setCell_other _ _ _ _ hgn)
      have hQ7 := (hQr.other ⟨N, 3, none⟩ (.slice qb x.qs.length qcap) (hQr.typed bN5 (by decide))).other ⟨N, 4, none⟩ (.slice tb x.ts.length tcap) (hQr.typed bN5 (by decide))
      have hT7 := (hTr.other ⟨N, 3, none⟩ (.slice qb x.qs.length qcap) (hTr.typed bN5 (by decide))).other ⟨N, 4, none⟩ (.slice tb x.ts.length tcap) (hTr.typed bN5 (by decide))
      clear hGm hI1 hQr hTr hC5 bN5 bM5 bN6 hC bN bM hqc2 htc2 hqc htc
      go_upto_region 8 with fail
      refine wp_world (fun W => (Blk W N #[.int .i64 x.w, .int .i64 x.h, .slice cb cs.length ccap, .slice qb x.qs.length qcap, .slice tb x.ts.length tcap] 26 ∧ Blk W (N + 1) #[.int .i64 0, .int .i64 0, .slice none 0 0, .slice none 0 0, .slice none 0 0] 26) ∧ CpC N x.cs.length (.slice cb cs.length ccap) cs w W ∧ Row W N 39 65 (.slice qb x.qs.length qcap) x.qs.length (x.qs.map QuantArg.cells).flatten ∧ Row W N 104 2 (.slice tb x.ts.length tcap) x.ts.length (x.ts.map TagArg.cells).flatten) ⟨⟨bN7, bM7⟩, hC7, hQ7, hT7⟩ ?_
      clear bN7 bM7 hC7 hQ7 hT7 m3 m4 f3 f4
      rintro W8 ⟨⟨bN, bM⟩, hC, hQ, hT⟩
      go_wp2_with (first | (refine wpList_load_row rfl 26 _ rfl N rfl 26 _ _ _ bN Try.underlying26 rfl (by kernel_rfl) ?_) | (refine wpList_store_row rfl 26 _ _ rfl (N + 1) _ rfl rfl 26 _ bM (by kernel_rfl) rfl (by simp [Value.oneCell']) ?_))
      simp only [Act.put, List.setIfInBounds_toArray, List.set_cons_zero, List.set_cons_succ]
      refine bodyPost_ret (results_cell_row rfl _ _ (N + 1) 26 _ (0, 0) _ rfl (bM.row _) Try.underlying26 rfl (by kernel_rfl)) rfl ?_
      refine ⟨⟨x.w, x.h, .slice cb cs.length ccap, .slice qb x.qs.length qcap, .slice tb x.ts.length tcap, cs, x.qs, x.ts⟩, rfl, ⟨rfl, rfl, HCD.out, rfl, rfl⟩, ⟨?_, hQ.same fun g e => setRow_other _ _ _ _ (hQ.typed bM (by decide) g e), hT.same fun g e => setRow_other _ _ _ _ (hT.typed bM (by decide) g e), HQO.out, HTO.out⟩⟩
      show CpC N cs.length (.slice cb cs.length ccap) cs w _
      rw [HCL.out]
      have hC' := hC
      rw [HCL.out] at hC'
      refine hC'.same (fun g hg => ?_) (Below.setRow hC.hB (Nat.le_succ N) _) (by simpa using hC.hW)
      have hgn : g ≠ N + 1 := by
        intro e
        subst e
        obtain ⟨cur, hb | hb⟩ := hg
        · have := bM.symm.trans hb; simp at this
        · have := bM.symm.trans hb; simp at this
      exact setRow_other _ _ _ _ hgn
end Go.Proofs.Ytgmhhocpdfdplaa
/- A copy in plain words: right if the image is; changed, it is another one. -/
namespace Go.Proofs.Ytgmhhocpdfdplaa
open Go.RowKit
set_option maxRecDepth 100000
def stripU (c : CompArg) : CompArg := setU c (.slice none 0 0)
theorem strip_cd {a b : CompArg} (h : cd a = cd b) : stripU a = stripU b := by
  obtain ⟨a0, a1, a2, a3, a4, a5, a6, a7⟩ := a
  obtain ⟨b0, b1, b2, b3, b4, b5, b6, b7⟩ := b
  simp only [cd, Prod.mk.injEq] at h
  obtain ⟨⟨rfl, rfl, rfl, rfl⟩, rfl, rfl, rfl⟩ := h
  rfl
theorem strip_map {xs ys : List CompArg} (h : xs.map cd = ys.map cd) : xs.map stripU = ys.map stripU := by
  refine List.ext_getElem? fun i => ?_
  have hi := congrArg (fun l => l[i]?) h
  simp only [List.getElem?_map] at hi ⊢
  cases hx : xs[i]? with
  | none => cases hy : ys[i]? with
    | none => rfl
    | some b => rw [hx, hy] at hi; cases hi
  | some a => cases hy : ys[i]? with
    | none => rw [hx, hy] at hi; cases hi
    | some b =>
      rw [hx, hy] at hi
      simp only [Option.map_some, Option.some.injEq] at hi ⊢
      exact strip_cd hi
theorem getD_strip (cs : List CompArg) (k : Nat) : (cs.map stripU).getD k noComp = stripU (cs.getD k noComp) := by
  simp only [List.getD_eq_getElem?_getD, List.getElem?_map]
  cases cs[k]? <;> rfl
def stripI (x : ImgArg) : ImgArg := { x with cs := x.cs.map stripU }
theorem errL_strip (x : ImgArg) : errL (stripI x) = errL x := by
  have hp : psOf (x.cs.map stripU) = psOf x.cs := by simp [psOf, stripU, setU]
  have e1 : frE (stripI x) = frE x := by unfold frE stripI; simp only; rw [hp]
  have e0 : frG (stripI x) = frG x := by unfold frG stripI; simp only; rw [hp]
  have e2 : compsE (stripI x).cs = compsE x.cs := by
    unfold compsE compE stripI
    simp only [getD_strip, List.length_map]
    rfl
  have eu : ∀ y, usedQ (x.cs.map stripU) y = usedQ x.cs y := fun y => by
    unfold usedQ
    simp only [getD_strip, List.length_map]
    rfl
  have e3 : tablesE (stripI x) = tablesE x := by
    unfold tablesE quantsE compsTE quantE compTE stripI
    simp only [getD_strip, List.length_map, eu]
    rfl
  have e4 : planesE (stripI x) = planesE x := by
    unfold planesE
    rw [e0]
    unfold planeE stripI
    simp only [getD_strip, List.length_map]
    rfl
  have e5 : blocksE (stripI x).cs = blocksE x.cs := by
    have hn : (⟨0, 0, 0, 0, 0, 0, .slice none 0 0, []⟩ : CompArg) = noComp := rfl
    unfold blocksE stripI
    rw [hn]
    simp only [getD_strip, List.length_map]
    rfl
  unfold errL
  rw [e1, e2, e3, e4, e5]
  rfl
theorem SameD.err {x y : ImgArg} (h : SameD x y) : imgE y = imgE x := by
  have e : errL y = errL x := by
    rw [← errL_strip y, ← errL_strip x]
    obtain ⟨h1, h2, h3, h4, h5⟩ := h
    obtain ⟨yw, yh, ycu, yqu, ytu, ycs, yqs, yts⟩ := y
    obtain ⟨xw, xh, xcu, xqu, xtu, xcs, xqs, xts⟩ := x
    simp only at h1 h2 h3 h4 h5
    subst h1 h2 h4 h5
    unfold stripI
    simp only
    rw [strip_map h3]
    rfl
  unfold imgE
  rw [e]
theorem SameD.same {x y : ImgArg} (h : SameD x y) : sameB y x = true := by
  unfold sameB
  rw [h.w, h.h, h.cs, h.qs, h.ts]
  simp
theorem SameD.len {x y : ImgArg} (h : SameD x y) : y.cs.length = x.cs.length := by simpa using congrArg List.length h.cs
theorem SameD.at {x y : ImgArg} (h : SameD x y) {i : Nat} (hi : i < y.cs.length) (hi' : i < x.cs.length) : cd (y.cs[i]'hi) = cd (x.cs[i]'hi') := by
  have := congrArg (fun l => l[i]?) h.cs
  simpa [hi, hi'] using this
theorem SameD.few {x y : ImgArg} (h : SameD x y) (hf : FewOk x) : FewOk y := by
  refine ⟨by rw [h.len]; exact hf.c20, by rw [h.qs]; exact hf.q20, by rw [h.ts]; exact hf.t100, fun c hc => ?_, by rw [h.ts]; exact hf.t140⟩
  obtain ⟨i, hi, rfl⟩ := List.getElem_of_mem hc
  have hi' : i < x.cs.length := by rw [← h.len]; exact hi
  have e : (y.cs[i]'hi).bs = (x.cs[i]'hi').bs := congrArg (fun t => t.2.2.2) (h.at hi hi')
  rw [e]
  exact hf.b300 _ (List.getElem_mem hi')
theorem OwnI.img {N : Nat} {x : ImgArg} {w W : World} (h : OwnI N x w W) (hl : x.cs.length ≤ 1000000) (hq : x.qs.length ≤ 1000000) (ht : x.ts.length ≤ 1000000) (h1 : (Lit.int .i64 x.w).wf = true) (h2 : (Lit.int .i64 x.h).wf = true) : IsImg W x.val x :=
  ⟨rfl, h1, h2, h.c.comps hl, ⟨Ar.elems h.q.ar (fun c hc => by obtain ⟨q, hq, rfl⟩ := List.mem_map.1 hc; simp [QuantArg.cells, (h.qok q hq).l64]) (by simp) (by simp only [maxLen]; omega), h.qok⟩,
    ⟨Ar.elems h.t.ar (fun c hc => by obtain ⟨p, _, rfl⟩ := List.mem_map.1 hc; rfl) (by simp) (by simp only [maxLen]; omega), h.tok⟩⟩
theorem OwnI.below {N : Nat} {x : ImgArg} {w W W' : World} (h : OwnI N x w W) (hb : Below W.heap.size W W') : OwnI N x w W' :=
  ⟨h.c.below hb, h.q.grow hb, h.t.grow hb, h.qok, h.tok⟩
/-- A block's number changed. -/
def setB (c : CompArg) (k j : Nat) (z : Int) : CompArg := ⟨c.id, c.h, c.v, c.q, c.c, c.r, c.u, c.bs.set k ((c.bs.getD k []).set j z)⟩
def setId (c : CompArg) (z : Int) : CompArg := ⟨z, c.h, c.v, c.q, c.c, c.r, c.u, c.bs⟩
theorem bcells_set1 {bs : List (List Int)} (h : Right64 bs) {k j : Nat} (hk : k < bs.length) (hj : j < 64) (z : Int) : (bcells bs).set (k * 64 + j) (.int .i16 z) = bcells (bs.set k ((bs.getD k []).set j z)) := by
  have hb : bs.getD k [] = bs[k]'hk := by simp [List.getD_eq_getElem?_getD, hk]
  have hl : (bs[k]'hk).length = 64 := h _ (List.getElem_mem hk)
  rw [bcells_set h k _ hk, hb]
  have e1 : bcells bs = (bcells bs).take (k * 64) ++ (bs[k]'hk).map (Value.int .i16) ++ (bcells bs).drop (k * 64 + 64) := by
    have := bcells_set h k (bs[k]'hk) hk
    rw [← this, List.set_getElem_self]
  have hlen : (bcells bs).length = bs.length * 64 := bcells_len h
  have ht : ((bcells bs).take (k * 64)).length = k * 64 := by rw [List.length_take, hlen, Nat.min_eq_left (by omega)]
  conv => lhs; rw [e1]
  rw [List.append_assoc, List.set_append_right _ _ (by omega), ht, show k * 64 + j - k * 64 = j by omega, List.set_append_left _ _ (by simp [hl, hj]), List.map_set, List.append_assoc]
end Go.Proofs.Ytgmhhocpdfdplaa
/- An image whose rows are the call's own: planes put in. -/
namespace Go.Proofs.Ytgmhhocpdfdplaa
open Go.RowKit
set_option maxRecDepth 100000
/-- An image of its own: rows of its own, laid since w. -/
structure OwnL (N : Nat) (x : ImgArg) (w W : World) : Prop where
  row : Row W N 63 7 x.cu x.cs.length (x.cs.map CompArg.cells).flatten
  pl : ∀ c ∈ x.cs, Row W N 57 64 c.u c.bs.length (bcells c.bs) ∧ ∀ W', Ar W' 64 c.u c.bs.length (bcells c.bs) → c.Ok W'
  q : Row W N 39 65 x.qu x.qs.length (x.qs.map QuantArg.cells).flatten
  t : Row W N 104 2 x.tu x.ts.length (x.ts.map TagArg.cells).flatten
  qok : ∀ q ∈ x.qs, q.Ok
  tok : ∀ t ∈ x.ts, t.Ok
  hN : N = w.heap.size
  hB : Below N w W
  hW : N ≤ W.heap.size
theorem OwnI.ownL {N : Nat} {x : ImgArg} {w W : World} (h : OwnI N x w W) : OwnL N x w W :=
  ⟨h.c.row, fun c hc => by obtain ⟨i, hi, rfl⟩ := List.getElem_of_mem hc; exact ⟨h.c.own i hi hi, h.c.ok i hi hi⟩, h.q, h.t, h.qok, h.tok, h.c.hN, h.c.hB, h.c.hW⟩
theorem OwnL.below {N : Nat} {x : ImgArg} {w W W' : World} (h : OwnL N x w W) (hb : Below W.heap.size W W') : OwnL N x w W' :=
  ⟨h.row.grow hb, fun c hc => ⟨(h.pl c hc).1.grow hb, (h.pl c hc).2⟩, h.q.grow hb, h.t.grow hb, h.qok, h.tok, h.hN, h.hB.trans (hb.mono h.hW), Nat.le_trans h.hW hb.size⟩
theorem OwnL.comps {N : Nat} {x : ImgArg} {w W : World} (h : OwnL N x w W) (hl : x.cs.length ≤ 1000000) : IsComps W x.cu x.cs :=
  ⟨Ar.elems h.row.ar (fun c hc => by obtain ⟨p, _, rfl⟩ := List.mem_map.1 hc; rfl) (by simp) (by simp only [maxLen]; omega), fun c hc => (h.pl c hc).2 W (h.pl c hc).1.ar⟩
theorem OwnL.img {N : Nat} {x : ImgArg} {w W : World} (h : OwnL N x w W) (hf : FewOk x) (h1 : (Lit.int .i64 x.w).wf = true) (h2 : (Lit.int .i64 x.h).wf = true) : IsImg W x.val x := by
  have c20 := hf.c20
  have q20 := hf.q20
  have t100 := hf.t100
  exact ⟨rfl, h1, h2, h.comps (by omega), ⟨Ar.elems h.q.ar (fun c hc => by obtain ⟨q, hq, rfl⟩ := List.mem_map.1 hc; simp [QuantArg.cells, (h.qok q hq).l64]) (by simp) (by simp only [maxLen]; omega), h.qok⟩,
    ⟨Ar.elems h.t.ar (fun c hc => by obtain ⟨p, _, rfl⟩ := List.mem_map.1 hc; rfl) (by simp) (by simp only [maxLen]; omega), h.tok⟩⟩
theorem OwnL.imgRow {N : Nat} {x : ImgArg} {w W : World} (h : OwnL N x w W) (hf : FewOk x) (h1 : (Lit.int .i64 x.w).wf = true) (h2 : (Lit.int .i64 x.h).wf = true) (k : Nat) (hk : k < N) (ds : Array Value) : IsImg (W.setRow k ds) x.val x := by
  have key : ∀ {e : TypeId} {size : Nat} {v : Value} {n : Nat} {xs : List Value}, Row W N e size v n xs → Row (W.setRow k ds) N e size v n xs := fun hr => hr.same fun g e => setRow_other W k g ds (by have := (hr.lt g e).1; omega)
  have c20 := hf.c20
  have q20 := hf.q20
  have t100 := hf.t100
  exact ⟨rfl, h1, h2, ⟨Ar.elems (key h.row).ar (fun c hc => by obtain ⟨p, _, rfl⟩ := List.mem_map.1 hc; rfl) (by simp) (by simp only [maxLen]; omega), fun c hc => (h.pl c hc).2 _ (key (h.pl c hc).1).ar⟩,
    ⟨Ar.elems (key h.q).ar (fun c hc => by obtain ⟨q, hq, rfl⟩ := List.mem_map.1 hc; simp [QuantArg.cells, (h.qok q hq).l64]) (by simp) (by simp only [maxLen]; omega), h.qok⟩,
    ⟨Ar.elems (key h.t).ar (fun c hc => by obtain ⟨p, _, rfl⟩ := List.mem_map.1 hc; rfl) (by simp) (by simp only [maxLen]; omega), h.tok⟩⟩
/-- A block of a type that no row has is apart from the components' cells. -/
theorem OwnL.apart {N g cap : Nat} {x : ImgArg} {w W : World} (h : OwnL N x w W) (hc : x.cu = .slice (some ⟨g, 0, none⟩) x.cs.length cap) {b : Nat} {cs : Array Value} {t : TypeId} (hb : Blk W b cs t) (ht : t ≠ 63) : b ≠ g :=
  fun e => h.row.typed hb ht g (by rw [hc]; rfl) e.symm
def setP (c : CompArg) (cc cr : Int) (u : Value) (l : List (List Int)) : CompArg := ⟨c.id, c.h, c.v, c.q, cc, cr, u, l⟩
def putW (W : World) (g k : Nat) (cc cr : Int) (v : Value) : World := ((W.setCell ⟨g, k * 7 + 4, none⟩ (.int .i64 cc)).setCell ⟨g, k * 7 + 5, none⟩ (.int .i64 cr)).setCell ⟨g, k * 7 + 6, none⟩ v
theorem Blk.putW {W : World} {b g k : Nat} {cs : Array Value} {t : TypeId} (h : Blk W b cs t) (hb : b ≠ g) (cc cr : Int) (v : Value) : Blk (putW W g k cc cr v) b cs t := ((h.other _ _ hb).other _ _ hb).other _ _ hb
theorem OwnL.putP {N g cap k : Nat} {x : ImgArg} {w W : World} (h : OwnL N x w W) (hc : x.cu = .slice (some ⟨g, 0, none⟩) x.cs.length cap) (hk : k < x.cs.length) (cc cr : Int) (l : List (List Int)) (v : Value)
    (w1 : (Lit.int .i64 cc).wf = true) (w2 : (Lit.int .i64 cr).wf = true) (h64 : Right64 l) (hw : ∀ b ∈ l, ∀ y ∈ b, (Lit.int .i16 y).wf = true) (hv : Row W N 57 64 v l.length (bcells l)) :
    OwnL N { x with cs := x.cs.set k (setP (x.cs[k]'hk) cc cr v l) } w (putW W g k cc cr v) := by
  have hlo := h.row.lt g (by rw [hc]; rfl)
  have nor : ∀ {lo : Nat} {e : TypeId} {size : Nat} {u : Value} {n : Nat} {xs : List Value}, e ≠ 63 → Row W lo e size u n xs → Row (putW W g k cc cr v) lo e size u n xs := fun {lo e size u n xs} he hr => by
    have hne : ∀ b, u.ownBlock = some b → b ≠ g := fun b hb => by
      rcases hr.2 with ⟨h0, _⟩ | ⟨g', cap', cur, h0, _, h3, _⟩
      · rw [h0] at hb; cases hb
      · rw [h0] at hb
        obtain rfl : g' = b := Option.some.inj hb
        exact h.apart hc h3 he
    exact ((hr.other _ _ hne).other _ _ hne).other _ _ hne
  have hrow := h.row
  rw [hc] at hrow
  have hkl : k * 7 + 7 ≤ x.cs.length * 7 := by omega
  have r3 := ((hrow.set (k * 7 + 4) (by omega) (.int .i64 cc)).set (k * 7 + 5) (by omega) (.int .i64 cr)).set (k * 7 + 6) (by omega) v
  rw [flat_set hk (.int .i64 cc) (.int .i64 cr) v (setP (x.cs[k]'hk) cc cr v l) rfl] at r3
  refine ⟨?_, ?_, nor (by decide) h.q, nor (by decide) h.t, h.qok, h.tok, h.hN, ((h.hB.setCell hlo.1 _).setCell hlo.1 _).setCell hlo.1 _, by unfold putW; simpa using h.hW⟩
  · show Row _ N _ 7 x.cu (x.cs.set k _).length _
    rw [hc, List.length_set]
    exact r3
  · intro c hcm
    rcases List.mem_or_eq_of_mem_set hcm with h1 | rfl
    · exact ⟨nor (by decide) (h.pl c h1).1, (h.pl c h1).2⟩
    · refine ⟨nor (by decide) hv, fun W' ha => ?_⟩
      have hx := (h.pl _ (List.getElem_mem hk)).2 W (h.pl _ (List.getElem_mem hk)).1.ar
      exact ⟨ha, h64, hw, hx.wid, hx.wh, hx.wv, hx.wq, w1, w2⟩
theorem Row.sameT {w w' : World} {lo : Nat} {e : TypeId} {size n : Nat} {v : Value} {xs : List Value} (h : Row w lo e size v n xs) (hb : ∀ g cs, Blk w g cs e → lo ≤ g → w'.heap[g]? = w.heap[g]?) : Row w' lo e size v n xs :=
  h.same fun g hg => by
    have hlo := (h.lt g hg).1
    rcases h.2 with ⟨h0, _⟩ | ⟨g', cap', cur, h0, _, h3, _⟩
    · rw [h0] at hg; cases hg
    · rw [h0] at hg
      obtain rfl : g' = g := Option.some.inj hg
      exact hb _ _ h3 hlo
/-- An own image where what has the types of its rows lies as it lay. -/
theorem OwnL.at' {N : Nat} {x : ImgArg} {w W : World} (h : OwnL N x w W) (W' : World) (hb : ∀ g cs t, Blk W g cs t → (t = 63 ∨ t = 57 ∨ t = 39 ∨ t = 104) → N ≤ g → W'.heap[g]? = W.heap[g]?) (w0 : World) (N0 : Nat) (hN0 : N0 = w0.heap.size) (hN : N0 ≤ N) (hB : Below N0 w0 W') (hW : N0 ≤ W'.heap.size) : OwnL N0 x w0 W' :=
  ⟨(h.row.sameT fun g cs hg hl => hb g cs _ hg (.inl rfl) hl).down hN, fun c hc => ⟨((h.pl c hc).1.sameT fun g cs hg hl => hb g cs _ hg (.inr (.inl rfl)) hl).down hN, (h.pl c hc).2⟩, (h.q.sameT fun g cs hg hl => hb g cs _ hg (.inr (.inr (.inl rfl))) hl).down hN,
    (h.t.sameT fun g cs hg hl => hb g cs _ hg (.inr (.inr (.inr rfl))) hl).down hN, h.qok, h.tok, hN0, hB, hW⟩
/-- A row of a block is written that is none of the image's. -/
theorem OwnL.setRow {N : Nat} {x : ImgArg} {w W : World} (h : OwnL N x w W) (k : Nat) (hk : k < N) (ds : Array Value) (w0 : World) (h0 : w0.heap.size ≤ k) (hB : Below w0.heap.size w0 W) : OwnL w0.heap.size x w0 (W.setRow k ds) :=
  h.at' _ (fun g _ _ _ _ hl => setRow_other W k g ds (by omega)) w0 _ rfl (by omega) (Below.setRow hB h0 _) (by simpa using hB.size)
/-- An image whose rows are blocks of their own types. -/
structure OwnT (x : ImgArg) (W : World) : Prop where
  row : Row W 0 63 7 x.cu x.cs.length (x.cs.map CompArg.cells).flatten
  pl : ∀ c ∈ x.cs, Row W 0 57 64 c.u c.bs.length (bcells c.bs) ∧ ∀ W', Ar W' 64 c.u c.bs.length (bcells c.bs) → c.Ok W'
  q : Row W 0 39 65 x.qu x.qs.length (x.qs.map QuantArg.cells).flatten
  t : Row W 0 104 2 x.tu x.ts.length (x.ts.map TagArg.cells).flatten
  qok : ∀ q ∈ x.qs, q.Ok
  tok : ∀ t ∈ x.ts, t.Ok
theorem OwnL.ownT {N : Nat} {x : ImgArg} {w W : World} (h : OwnL N x w W) : OwnT x W := ⟨h.row.down (Nat.zero_le _), fun c hc => ⟨(h.pl c hc).1.down (Nat.zero_le _), (h.pl c hc).2⟩, h.q.down (Nat.zero_le _), h.t.down (Nat.zero_le _), h.qok, h.tok⟩
theorem OwnT.below {x : ImgArg} {W W' : World} (h : OwnT x W) (hb : Below W.heap.size W W') : OwnT x W' := ⟨h.row.grow hb, fun c hc => ⟨(h.pl c hc).1.grow hb, (h.pl c hc).2⟩, h.q.grow hb, h.t.grow hb, h.qok, h.tok⟩
theorem OwnT.at' {x : ImgArg} {W : World} (h : OwnT x W) (W' : World) (hb : ∀ g cs t, Blk W g cs t → (t = 63 ∨ t = 57 ∨ t = 39 ∨ t = 104) → W'.heap[g]? = W.heap[g]?) : OwnT x W' :=
  ⟨h.row.sameT fun g cs hg _ => hb g cs _ hg (.inl rfl), fun c hc => ⟨(h.pl c hc).1.sameT fun g cs hg _ => hb g cs _ hg (.inr (.inl rfl)), (h.pl c hc).2⟩, h.q.sameT fun g cs hg _ => hb g cs _ hg (.inr (.inr (.inl rfl))), h.t.sameT fun g cs hg _ => hb g cs _ hg (.inr (.inr (.inr rfl))), h.qok, h.tok⟩
theorem img_ne {t : TypeId} (h : t = 63 ∨ t = 57 ∨ t = 39 ∨ t = 104) : t ≠ 26 ∧ t ≠ 70 := by
  rcases h with rfl | rfl | rfl | rfl <;> decide
theorem OwnT.setRow {x : ImgArg} {W : World} (h : OwnT x W) {k : Nat} {cs : Array Value} (hk : Blk W k cs 26) (ds : Array Value) : OwnT x (W.setRow k ds) :=
  h.at' _ fun g cs' t hg ht => setRow_other W k g ds (by
    rintro rfl
    have := hg.symm.trans hk
    simp at this
    exact (img_ne ht).1 this.2)
theorem OwnT.img {x : ImgArg} {W : World} (h : OwnT x W) (hf : FewOk x) (h1 : (Lit.int .i64 x.w).wf = true) (h2 : (Lit.int .i64 x.h).wf = true) : IsImg W x.val x := by
  have c20 := hf.c20
  have q20 := hf.q20
  have t100 := hf.t100
  exact ⟨rfl, h1, h2, ⟨Ar.elems h.row.ar (fun c hc => by obtain ⟨p, _, rfl⟩ := List.mem_map.1 hc; rfl) (by simp) (by simp only [maxLen]; omega), fun c hc => (h.pl c hc).2 W (h.pl c hc).1.ar⟩,
    ⟨Ar.elems h.q.ar (fun c hc => by obtain ⟨q, hq, rfl⟩ := List.mem_map.1 hc; simp [QuantArg.cells, (h.qok q hq).l64]) (by simp) (by simp only [maxLen]; omega), h.qok⟩,
    ⟨Ar.elems h.t.ar (fun c hc => by obtain ⟨p, _, rfl⟩ := List.mem_map.1 hc; rfl) (by simp) (by simp only [maxLen]; omega), h.tok⟩⟩
end Go.Proofs.Ytgmhhocpdfdplaa
