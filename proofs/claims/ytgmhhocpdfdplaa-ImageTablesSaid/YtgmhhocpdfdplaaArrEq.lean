/- Equality of two arrays of integers, over any program: it is that of their numbers. -/
import Derived.Test.YtgmhhocpdfdplaaMem
import Derived.Laws.StructEq
namespace Go.Proofs.Ytgmhhocpdfdplaa
open Go.RowKit
section
variable {P : Program}
theorem run_part_int (w : World) (e : TypeId) (k : IntKind) (xs : List Int) (i : Nat) (he : P.underlying e = some (.int k)) (hi : i < xs.length) :
    (part e (ints k xs) i).run P w = .ok (.int k (xs.getD i 0)) w := by
  unfold part
  have h1 : (isAgg e).run P w = .ok false w := by
    unfold isAgg
    rw [Sem.run_bind, run_underlying he w]
    simp
  rw [Sem.run_bind, h1]
  simp [ints_get k xs i hi]
theorem loop_ints (w : World) (d : Nat) (e : TypeId) (k : IntKind) (xs ys : List Int) (he : P.underlying e = some (.int k)) :
    ∀ (m i : Nat), i + m = xs.length → xs.length = ys.length → 
      (Sem.run P (forIn (m := Sem) (List.range' i m) ((none : Option Bool), ()) fun j _ => do
        if !(← Op.equalIn (d + 1) e (← part e (ints k xs) (j * 1)) (← part e (ints k ys) (j * 1))) then pure (.done (some false, ())) else pure (.yield (none, ()))) w) =
      .ok (if xs.drop i = ys.drop i then none else some false, ()) w
  | 0, i, hi, hl => by
    have h1 : xs.drop i = [] := List.drop_eq_nil_of_le (by omega)
    have h2 : ys.drop i = [] := List.drop_eq_nil_of_le (by omega)
    simp [h1, h2]
  | m + 1, i, hi, hl => by
    have hx : i < xs.length := by omega
    have hy : i < ys.length := by omega
    have ih := loop_ints w d e k xs ys he m (i + 1) (by omega) hl
    rw [List.range'_succ, List.forIn_cons]
    have hdx : xs.drop i = xs.getD i 0 :: xs.drop (i + 1) := by rw [List.drop_eq_getElem_cons hx, List.getD_eq_getElem?_getD, List.getElem?_eq_getElem hx]; rfl
    have hdy : ys.drop i = ys.getD i 0 :: ys.drop (i + 1) := by rw [List.drop_eq_getElem_cons hy, List.getD_eq_getElem?_getD, List.getElem?_eq_getElem hy]; rfl
    rw [hdx, hdy]
    simp only [Nat.mul_one] at ih ⊢
    simp only [Sem.run_bind, run_part_int w e k xs i he hx, run_part_int w e k ys i he hy, Result.andThen_ok, run_equalIn_int w d e k k _ _ he]
    by_cases h : xs.getD i 0 = ys.getD i 0
    · simp only [h, beq_self_eq_true, Bool.not_true, Bool.false_eq_true, if_false, Sem.run_pure, Result.andThen_ok, ih, List.cons.injEq, true_and]
    · have h' : (xs.getD i 0 == ys.getD i 0) = false := by simpa using h
      simp only [h', Bool.not_false, if_true, Sem.run_pure, Result.andThen_ok, List.cons.injEq, h, false_and, if_false]
theorem run_equalIn_ints (w : World) (d n : Nat) (t e : TypeId) (k : IntKind) (xs ys : List Int) (ht : P.underlying t = some (.array n e)) (he : P.underlying e = some (.int k)) (hs : (P.info? e).map (·.size) = some 1)
    (hx : xs.length = n) (hy : ys.length = n) : (Op.equalIn (d + 2) t (.agg (ints k xs)) (.agg (ints k ys))).run P w = .ok (decide (xs = ys)) w := by
  have hsz : (sizeOf e).run P w = .ok 1 w := by
    cases hq : P.info? e with
    | none => simp [hq] at hs
    | some i => simp [hq] at hs; simp [sizeOf, typeInfo, hq, hs]
  have hl := loop_ints w d e k xs ys he n 0 (by omega) (by omega)
  simp only [List.drop_zero] at hl
  obtain ⟨D, hD⟩ : ∃ D, D = d + 1 := ⟨_, rfl⟩
  rw [show d + 2 = D + 1 by omega]
  rw [← hD] at hl
  simp only [Op.equalIn, Sem.run_bind, run_underlying ht, Result.andThen_ok, hsz]
  rw [Std.Legacy.Range.forIn_eq_forIn_range']
  simp only [Std.Legacy.Range.size, Nat.sub_zero, Nat.add_sub_cancel, Nat.div_one]
  rw [hl]
  simp only [Result.andThen_ok]
  by_cases h : xs = ys
  · simp [h]
  · simp [h]
end
section
variable {P : Program}
theorem run_eql_ints (w : World) (n : Nat) (t e : TypeId) (k : IntKind) (xs ys : List Int) (ht : P.underlying t = some (.array n e)) (he : P.underlying e = some (.int k)) (hs : (P.info? e).map (·.size) = some 1)
    (hx : xs.length = n) (hy : ys.length = n) : (binOp .eql t (.agg (ints k xs)) (.agg (ints k ys))).run P w = .ok (.bool (decide (xs = ys))) w := by
  rw [run_eql_struct, show (10000 : Nat) = 9998 + 2 from rfl, run_equalIn_ints w 9998 n t e k xs ys ht he hs hx hy]
  rfl
theorem run_neq_ints (w : World) (n : Nat) (t e : TypeId) (k : IntKind) (xs ys : List Int) (ht : P.underlying t = some (.array n e)) (he : P.underlying e = some (.int k)) (hs : (P.info? e).map (·.size) = some 1)
    (hx : xs.length = n) (hy : ys.length = n) : (binOp .neq t (.agg (ints k xs)) (.agg (ints k ys))).run P w = .ok (.bool (!decide (xs = ys))) w := by
  rw [run_neq_struct, show (10000 : Nat) = 9998 + 2 from rfl, run_equalIn_ints w 9998 n t e k xs ys ht he hs hx hy]
  rfl
end
end Go.Proofs.Ytgmhhocpdfdplaa
