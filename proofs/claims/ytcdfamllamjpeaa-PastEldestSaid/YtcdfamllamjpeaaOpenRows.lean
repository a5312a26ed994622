/- Arguments opened: a slice of slices of integers, over any program. -/
import Derived.Test.YtcdfamllamjpeaaOpenSl
import Derived.Deep.Matrix
namespace Go.Proofs.Ytcdfamllamjpeaa
open Go.ChangeShapes Go.WideShapes Go.ChangeAt Go.RowKit
/-- The slice value v has these rows of integers in the world. -/
def IntRows (w : World) (k : IntKind) (v : Value) (rs : List (List Int)) : Prop :=
  rs.length ≤ maxLen ∧ ((v = .slice none 0 0 ∧ rs = []) ∨ ∃ (a : Addr) (cap : Nat), v = .slice (some a) rs.length cap ∧ ∀ i, i < rs.length → ∃ u, w.cell? (a.add i) = some u ∧ Ints w k u (rs.getD i []))
theorem IntRows.len {w : World} {k : IntKind} {v : Value} {rs : List (List Int)} (h : IntRows w k v rs) : ∃ b cap, v = .slice b rs.length cap := by
  rcases h.2 with ⟨rfl, rfl⟩ | ⟨a, cap, rfl, _⟩
  · exact ⟨_, _, rfl⟩
  · exact ⟨_, _, rfl⟩
theorem IntRows.at {w w' : World} {k : IntKind} {v : Value} {rs : List (List Int)} (h : IntRows w k v rs) (hb : Below w.heap.size w w') {i : Nat} (hi : i < rs.length) : ∃ a cap u, v = .slice (some a) rs.length cap ∧ w'.cell? (a.add i) = some u ∧ Ints w' k u (rs.getD i []) := by
  rcases h.2 with ⟨rfl, rfl⟩ | ⟨a, cap, rfl, hc⟩
  · simp at hi
  · obtain ⟨u, h1, h2⟩ := hc i hi
    exact ⟨a, cap, u, rfl, (hb.cell (p := a.add i) (World.block_lt_of_cell? w _ h1)).trans h1, h2.below hb⟩
section
variable {H : Type} {enc : TypeId × Value → H} {P : Program} {w : World} {held : Bool}
theorem open_int_rows_slice {r : Reach} {base b0 : Nat} {t e q : TypeId} {k : IntKind} {v : Value} {d : DataW H} {p : List MemPlace} (ht : P.underlying t = some (.slice e)) (he : P.underlying e = some (.slice q)) (hq : P.underlying q = some (.int k)) (ce : P.cellsOf e = 1) (cq : P.cellsOf q = 1)
    (hv : Value.okWide P w r b0 t v) (h : DataW.Trod enc P w base (fun _ => true) held t v d p) : ∃ rs : List (List Int), IntRows w k v rs := by
  obtain ⟨fuel, hf⟩ := h
  have hvc : v.cells = #[v] := by
    unfold Value.okWide at hv
    rw [ht] at hv
    simp only at hv
    unfold Cell.okWide at hv
    cases v <;> first | rfl | (simp only [ht] at hv; unfold Cell.ok at hv; simp [ht] at hv)
  rcases Go.Deep.open_int_rows ht he hq ce cq hf with ⟨hcs, _⟩ | ⟨a, len, cap, A, L, C, Z, hcs, _, hl, hm, _, hx⟩
  · rw [hvc] at hcs
    have : v = .slice none 0 0 := by simpa using hcs
    exact ⟨[], by simp, .inl ⟨this, rfl⟩⟩
  · rw [hvc] at hcs
    have hv2 : v = .slice (some a) len cap := by simpa using hcs
    refine ⟨(List.range len).map fun i => (Z i).take (L i), by simp; omega, .inr ⟨a, cap, by rw [hv2]; simp, fun i hi => ?_⟩⟩
    simp only [List.length_map, List.length_range] at hi
    obtain ⟨h1, h2, h3, h4, h5, h6, h7⟩ := hx i (by omega)
    refine ⟨_, h1, ?_⟩
    have hg : ((List.range len).map fun i => (Z i).take (L i)).getD i [] = (Z i).take (L i) := by simp [List.getD_eq_getElem?_getD, hi]
    rw [hg]
    have hll : ((Z i).take (L i)).length = L i := by rw [List.length_take]; omega
    refine ⟨by rw [hll]; omega, fun y hy => h5 y (List.mem_of_mem_take hy), ?_⟩
    cases hA : A i with
    | none =>
      have h0 : L i = 0 := by have := h6 hA; omega
      have c0 := h6 hA
      exact .inl ⟨by rw [h0, c0], by rw [h0]; rfl⟩
    | some a' =>
      refine .inr ⟨a', C i, by rw [hll], fun j hj => ?_⟩
      rw [hll] at hj
      rw [(h7 a' hA).2 j (by omega)]
      simp [List.getD_eq_getElem?_getD, hj]
end
end Go.Proofs.Ytcdfamllamjpeaa
