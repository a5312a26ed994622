/- Arguments opened: a slice of integers, over any program. -/
import Derived.Test.YtcdfamllamjpeaaOpen
import Derived.ChangeSlices
namespace Go.Proofs.Ytcdfamllamjpeaa
open Go.ChangeShapes Go.WideShapes Go.ChangeAt Go.RowKit
/-- The slice value v has these integers in the world. -/
def Ints (w : World) (k : IntKind) (v : Value) (xs : List Int) : Prop :=
  xs.length ≤ maxLen ∧ (∀ y ∈ xs, (Lit.int k y).wf = true) ∧ ((v = .slice none 0 0 ∧ xs = []) ∨ ∃ (a : Addr) (cap : Nat), v = .slice (some a) xs.length cap ∧ ∀ i, i < xs.length → w.cell? (a.add i) = some (.int k (xs.getD i 0)))
theorem Ints.len {w : World} {k : IntKind} {v : Value} {xs : List Int} (h : Ints w k v xs) : ∃ b cap, v = .slice b xs.length cap := by
  rcases h.2.2 with ⟨rfl, rfl⟩ | ⟨a, cap, rfl, _⟩
  · exact ⟨_, _, rfl⟩
  · exact ⟨_, _, rfl⟩
theorem Ints.at {w : World} {k : IntKind} {ad : Addr} {n cap : Nat} {xs : List Int} (h : Ints w k (.slice (some ad) n cap) xs) {i : Nat} (hi : i < xs.length) : w.cell? (ad.add i) = some (.int k (xs.getD i 0)) := by
  rcases h.2.2 with ⟨h, _⟩ | ⟨a, c, h, hc⟩
  · cases h
  · simp only [Value.slice.injEq, Option.some.injEq] at h
    rw [h.1]
    exact hc i hi
theorem add_block (a : Addr) (i : Nat) : (a.add i).block = a.block := by unfold Addr.add; split <;> rfl
theorem Ints.below {w w' : World} {k : IntKind} {v : Value} {xs : List Int} (h : Ints w k v xs) (hb : Below w.heap.size w w') : Ints w' k v xs := by
  refine ⟨h.1, h.2.1, ?_⟩
  rcases h.2.2 with h | ⟨a, cap, rfl, hc⟩
  · exact .inl h
  · exact .inr ⟨a, cap, rfl, fun i hi => (hb.cell (p := a.add i) (World.block_lt_of_cell? w _ (hc i hi))).trans (hc i hi)⟩
section
variable {H : Type} {enc : TypeId × Value → H} {P : Program} {w : World} {sp : Nat → Bool} {held : Bool}
theorem open_ints_slice {r : Reach} {base b0 : Nat} {t e : TypeId} {k : IntKind} {v : Value} {d : DataW H} {p : List MemPlace} (ht : P.underlying t = some (.slice e)) (he : P.underlying e = some (.int k)) (hce : P.cellsOf e = 1)
    (hv : Value.okWide P w r b0 t v) (h : DataW.Trod enc P w base sp held t v d p) : ∃ xs : List Int, Ints w k v xs := by
  obtain ⟨fuel, hf⟩ := h
  have hvc : v.cells = #[v] := by
    unfold Value.okWide at hv
    rw [ht] at hv
    simp only at hv
    unfold Cell.okWide at hv
    cases v <;> first | rfl | (simp only [ht] at hv; unfold Cell.ok at hv; simp [ht] at hv)
  rcases open_ints ht he hce hf with ⟨hcs, _⟩ | ⟨a, len, cap, zs, hcs, _, hl, hm, hz, _, hc, hw⟩
  · rw [hvc] at hcs
    have : v = .slice none 0 0 := by simpa using hcs
    exact ⟨[], by simp, by simp, .inl ⟨this, rfl⟩⟩
  · rw [hvc] at hcs
    have hv2 : v = .slice (some a) len cap := by simpa using hcs
    have hzl : len ≤ zs.length := by rw [hz]; split <;> omega
    refine ⟨zs.take len, by simp; omega, fun y hy => hw y (List.mem_of_mem_take hy), .inr ⟨a, cap, ?_, fun i hi => ?_⟩⟩
    · rw [hv2, List.length_take, Nat.min_eq_left hzl]
    · rw [List.length_take, Nat.min_eq_left hzl] at hi
      rw [hc i (by omega)]
      simp [List.getD_eq_getElem?_getD, hi]
end
end Go.Proofs.Ytcdfamllamjpeaa
