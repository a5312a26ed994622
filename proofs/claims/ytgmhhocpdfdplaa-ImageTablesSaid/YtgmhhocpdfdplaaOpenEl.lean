/- Arguments opened: a slice of elements of several cells each, over any program. -/
import Derived.Test.YtgmhhocpdfdplaaOpen
import Derived.Deep.Slices
import Derived.Lib.SmallJoins
namespace Go.Proofs.Ytgmhhocpdfdplaa
open Go.ChangeShapes Go.WideShapes Go.ChangeAt Go.RowKit
/-- The slice value v has these elements, of size cells each, in the world. -/
def Elems (w : World) (size : Nat) (v : Value) (cells : List (List Value)) : Prop :=
  cells.length ≤ maxLen ∧ (∀ c ∈ cells, c.length = size) ∧ ((v = .slice none 0 0 ∧ cells = []) ∨
    ∃ (a : Addr) (cap : Nat), v = .slice (some a) cells.length cap ∧ cells.length ≤ cap ∧ cap ≤ maxLen ∧ ∀ i, i < cells.length → ∀ j, j < size → w.cell? (a.add (i * size + j)) = (cells.getD i [])[j]?)
theorem Elems.len {w : World} {size : Nat} {v : Value} {cells : List (List Value)} (h : Elems w size v cells) : ∃ b cap, v = .slice b cells.length cap ∧ cells.length ≤ cap ∧ cap ≤ maxLen := by
  rcases h.2.2 with ⟨rfl, rfl⟩ | ⟨a, cap, rfl, h1, h2, _⟩
  · exact ⟨_, _, rfl, Nat.le_refl _, Nat.zero_le _⟩
  · exact ⟨_, _, rfl, h1, h2⟩
theorem Elems.at {w w' : World} {size : Nat} {v : Value} {cells : List (List Value)} (h : Elems w size v cells) (hb : Below w.heap.size w w') {i : Nat} (hi : i < cells.length) :
    ∃ a cap, v = .slice (some a) cells.length cap ∧ ∀ j, j < size → w'.cell? (a.add (i * size + j)) = (cells.getD i [])[j]? := by
  rcases h.2.2 with ⟨rfl, rfl⟩ | ⟨a, cap, rfl, _, _, hc⟩
  · simp at hi
  · refine ⟨a, cap, rfl, fun j hj => ?_⟩
    have h1 := hc i hi j hj
    have hl : (cells.getD i []).length = size := by
      rw [List.getD_eq_getElem?_getD, List.getElem?_eq_getElem hi]
      exact h.2.1 _ (List.getElem_mem hi)
    obtain ⟨u, hu⟩ : ∃ u, (cells.getD i [])[j]? = some u := ⟨_, List.getElem?_eq_getElem (by omega)⟩
    rw [hu] at h1 ⊢
    exact (hb.cell (p := a.add (i * size + j)) (World.block_lt_of_cell? w _ h1)).trans h1
theorem Elems.below {w w' : World} {size : Nat} {v : Value} {cells : List (List Value)} (h : Elems w size v cells) (hb : Below w.heap.size w w') : Elems w' size v cells := by
  refine ⟨h.1, h.2.1, ?_⟩
  rcases h.2.2 with h0 | ⟨a, cap, rfl, h1, h2, hc⟩
  · exact .inl h0
  · refine .inr ⟨a, cap, rfl, h1, h2, fun i hi j hj => ?_⟩
    obtain ⟨a', cap', he, hx⟩ := h.at hb hi
    simp only [Value.slice.injEq, Option.some.injEq] at he
    rw [he.1]
    exact hx j hj
theorem exists_map {α β : Type} {f : α → β} {p : α → Prop} : ∀ (l : List β), (∀ c ∈ l, ∃ a, c = f a ∧ p a) → ∃ l' : List α, l = l'.map f ∧ ∀ a ∈ l', p a
  | [], _ => ⟨[], rfl, fun _ h => by cases h⟩
  | c :: l, h => by
    obtain ⟨a, rfl, ha⟩ := h c (by simp)
    obtain ⟨l', rfl, hl⟩ := exists_map l (fun c hc => h c (by simp [hc]))
    exact ⟨a :: l', rfl, fun b hb => by rcases List.mem_cons.1 hb with rfl | hb; exact ha; exact hl b hb⟩
section
variable {H : Type} {enc : TypeId × Value → H} {P : Program} {w : World} {base : Nat} {sp : Nat → Bool} {held : Bool}
theorem open_elems_trod {t e : TypeId} {fuel : Nat} {u : Value} {x : DataW H × List MemPlace} (ht : P.underlying t = some (.slice e)) (hf : DataW.trod enc P w base sp held fuel t [u] = some x) :
    ∃ cells, Elems w (P.cellsOf e) u cells ∧ ∀ c ∈ cells, ∃ n y, DataW.trod enc P w base sp held n e c = some y := by
  rcases Go.Deep.open_slice ht hf with ⟨hcs, _⟩ | ⟨a, len, cap, m, n, D, Pl, hcs, _, hl, hm, hmm, _, hx⟩
  · exact ⟨[], ⟨by simp, fun _ h => by (cases h), .inl ⟨by simpa using hcs, rfl⟩⟩, fun _ h => by cases h⟩
  · have hlm : len ≤ m := by rw [hmm]; split <;> omega
    have hc : ∀ i, i < len → ∃ cs', w.cells? base (a.add (i * P.cellsOf e)) (P.cellsOf e) = some cs' ∧ ∃ y, DataW.trod enc P w base sp held n e cs' = some y := fun i hi =>
      let ⟨cs', h1, h2⟩ := hx i (by omega); ⟨cs', h1, _, h2⟩
    obtain ⟨C, hC⟩ := Go.Deep.choose_lt hc
    have hu : u = .slice (some a) len cap := by simpa using hcs
    have hlen : ((List.range len).map C).length = len := by simp
    refine ⟨(List.range len).map C, ⟨by rw [hlen]; omega, ?_, .inr ⟨a, cap, by rw [hu, hlen], by rw [hlen]; exact hl, hm, fun i hi j hj => ?_⟩⟩, ?_⟩
    · intro c hcm
      obtain ⟨i, hi, rfl⟩ := List.mem_map.1 hcm
      exact (World.cells?_some (hC i (List.mem_range.1 hi)).1).2.1
    · rw [hlen] at hi
      have h1 := (World.cells?_some (hC i hi).1).2.2 j hj
      rw [Go.Deep.add_add] at h1
      rw [h1]
      simp [List.getD_eq_getElem?_getD, hi]
    · intro c hcm
      obtain ⟨i, hi, rfl⟩ := List.mem_map.1 hcm
      obtain ⟨_, y, hy⟩ := hC i (List.mem_range.1 hi)
      exact ⟨n, y, hy⟩
theorem open_elems {r : Reach} {b0 : Nat} {t e : TypeId} {v : Value} {d : DataW H} {p : List MemPlace} (ht : P.underlying t = some (.slice e))
    (hv : Value.okWide P w r b0 t v) (h : DataW.Trod enc P w base sp held t v d p) : ∃ cells, Elems w (P.cellsOf e) v cells ∧ ∀ c ∈ cells, ∃ n y, DataW.trod enc P w base sp held n e c = some y := by
  obtain ⟨fuel, hf⟩ := h
  have hvc : v.cells = #[v] := by
    unfold Value.okWide at hv
    rw [ht] at hv
    simp only at hv
    unfold Cell.okWide at hv
    cases v <;> first | rfl | (simp only [ht] at hv; unfold Cell.ok at hv; simp [ht] at hv)
  rw [hvc] at hf
  exact open_elems_trod ht hf
end
end Go.Proofs.Ytgmhhocpdfdplaa
