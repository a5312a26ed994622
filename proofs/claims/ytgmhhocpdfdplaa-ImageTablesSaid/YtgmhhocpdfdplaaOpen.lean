/- Arguments opened: an array of integers, over any program. -/
import Derived.Test.YtgmhhocpdfdplaaMem
import Derived.ProofKit
import Derived.OpenShut
namespace Go.Proofs.Ytgmhhocpdfdplaa
open Go.ChangeShapes Go.WideShapes Go.ChangeAt Go.RowKit
section
variable {H : Type} {enc : TypeId × Value → H} {P : Program} {w : World} {base : Nat} {sp : Nat → Bool} {held : Bool}
theorem ints_of_trod {t e : TypeId} {n fuel : Nat} {k : IntKind} {cs : List Value} {x : DataW H × List MemPlace} (ht : P.underlying t = some (.array n e)) (he : P.underlying e = some (.int k)) (hce : P.cellsOf e = 1) (hct : P.cellsOf t = n)
    (h : DataW.trod enc P w base sp held fuel t cs = some x) : ∃ xs : List Int, cs = xs.map (Value.int k) ∧ xs.length = n ∧ ∀ y ∈ xs, (Lit.int k y).wf = true := by
  obtain ⟨ys, m, _, rfl, hl, hyl, hel⟩ := DataW.trod_array ht h
  have key : ∀ i, i < n → ∃ z, cs[i]? = some (.int k z) ∧ (Lit.int k z).wf = true := by
    intro i hi
    have h1 := hel i hi
    rw [hce, Nat.mul_one, List.getElem?_eq_getElem (by omega)] at h1
    obtain ⟨z, hz, _, hwf⟩ := DataW.trod_int he h1
    refine ⟨z, ?_, hwf⟩
    have h2 : ((cs.drop i).take 1)[0]? = some (.int k z) := by rw [hz]; rfl
    simpa [List.getElem?_take, List.getElem?_drop] using h2
  have hlen : cs.length = n := hl.trans hct
  refine ⟨cs.map (fun c => intOf c), ?_, by simpa using hlen, ?_⟩
  · apply List.ext_getElem?
    intro i
    by_cases hi : i < n
    · obtain ⟨z, hz, _⟩ := key i hi
      simp [List.getElem?_map, hz, intOf]
    · rw [List.getElem?_eq_none (by omega), List.getElem?_eq_none (by simp; omega)]
  · intro y hy
    obtain ⟨c, hc, rfl⟩ := List.mem_map.1 hy
    obtain ⟨i, hi, hci⟩ := List.mem_iff_getElem.1 hc
    obtain ⟨z, hz, hwf⟩ := key i (by omega)
    rw [List.getElem?_eq_getElem hi, hci] at hz
    obtain rfl := Option.some.inj hz
    exact hwf
theorem open_ints_arr {r : Reach} {b0 : Nat} {t e : TypeId} {n : Nat} {k : IntKind} {v : Value} {d : DataW H} {p : List MemPlace} (ht : P.underlying t = some (.array n e)) (he : P.underlying e = some (.int k)) (hce : P.cellsOf e = 1) (hct : P.cellsOf t = n)
    (hv : Value.okWide P w r b0 t v) (h : DataW.Trod enc P w base sp held t v d p) : ∃ xs : List Int, v = .agg (ints k xs) ∧ xs.length = n ∧ ∀ y ∈ xs, (Lit.int k y).wf = true := by
  unfold Value.okWide at hv
  rw [ht] at hv
  obtain ⟨cs, rfl, _, _⟩ := hv
  obtain ⟨fuel, hf⟩ := h
  obtain ⟨xs, hcs, hl, hw⟩ := ints_of_trod ht he hce hct hf
  refine ⟨xs, ?_, hl, hw⟩
  simp only [Value.cells] at hcs
  congr 1
  unfold ints
  rw [← hcs]
end
theorem wf_getD {k : IntKind} {xs : List Int} (h : ∀ y ∈ xs, (Lit.int k y).wf = true) (h0 : (Lit.int k 0).wf = true) (i : Nat) : (Lit.int k (xs.getD i 0)).wf = true := by
  rw [List.getD_eq_getElem?_getD]
  cases hx : xs[i]? with
  | none => exact h0
  | some y => exact h y (List.mem_of_getElem? hx)
end Go.Proofs.Ytgmhhocpdfdplaa
