/- Package image: what Copy makes, in plain words; the image while it is made. -/
import Derived.Test.YtgmhhocpdfdplaaSameC
namespace Go.Proofs.Ytgmhhocpdfdplaa
open Go.RowKit
set_option maxRecDepth 100000
def setU (x : CompArg) (u : Value) : CompArg := ⟨x.id, x.h, x.v, x.q, x.c, x.r, u, x.bs⟩
theorem flat_set1 {L : List CompArg} {k : Nat} (hk : k < L.length) (c : Value) :
    ((L.map CompArg.cells).flatten.set (k * 7 + 6) c) = ((L.set k (setU (L[k]'hk) c)).map CompArg.cells).flatten := by
  have e1 : L = L.take k ++ (L[k]'hk) :: L.drop (k + 1) := by
    rw [← List.drop_eq_getElem_cons hk, List.take_append_drop]
  have e2 : L.set k (setU (L[k]'hk) c) = L.take k ++ setU (L[k]'hk) c :: L.drop (k + 1) := by rw [List.set_eq_take_append_cons_drop, if_pos hk]
  rw [e2, List.map_append, List.flatten_append, List.map_cons, List.flatten_cons]
  have e3 : (L.map CompArg.cells).flatten = ((L.take k).map CompArg.cells).flatten ++ ((L[k]'hk).cells ++ ((L.drop (k + 1)).map CompArg.cells).flatten) := by
    conv => lhs; rw [e1]
    rw [List.map_append, List.flatten_append, List.map_cons, List.flatten_cons]
  have hlA : ((L.take k).map CompArg.cells).flatten.length = k * 7 := by
    have : ∀ M : List CompArg, (M.map CompArg.cells).flatten.length = M.length * 7 := fun M => by
      induction M with
      | nil => rfl
      | cons c M ih => rw [List.map_cons, List.flatten_cons, List.length_append, ih]; simp [CompArg.cells]; omega
    rw [this, List.length_take, Nat.min_eq_left (by omega)]
  rw [e3]
  generalize ((L.take k).map CompArg.cells).flatten = A at *
  generalize ((L.drop (k + 1)).map CompArg.cells).flatten = B at *
  rw [List.set_append_right _ _ (by omega), hlA, show k * 7 + 6 - k * 7 = 6 by omega]
  rfl
/-- The components' own slice, and the planes' own slices of the first k. -/
structure CpC (N k : Nat) (cu : Value) (cs : List CompArg) (w W : World) : Prop where
  row : Row W N 63 7 cu cs.length (cs.map CompArg.cells).flatten
  old : ∀ i (hi : i < cs.length), k ≤ i → (cs[i]'hi).Ok w
  own : ∀ i (hi : i < cs.length), i < k → Row W N 57 64 (cs[i]'hi).u (cs[i]'hi).bs.length (bcells (cs[i]'hi).bs)
  ok : ∀ i (hi : i < cs.length), i < k → ∀ W', Ar W' 64 (cs[i]'hi).u (cs[i]'hi).bs.length (bcells (cs[i]'hi).bs) → (cs[i]'hi).Ok W'
  dis : ∀ i j (hi : i < cs.length) (hj : j < cs.length), i < k → j < k → i ≠ j → ∀ g, (cs[i]'hi).u.ownBlock = some g → (cs[j]'hj).u.ownBlock ≠ some g
  hN : N = w.heap.size
  hB : Below N w W
  hW : N ≤ W.heap.size
theorem CpC.below {N k : Nat} {cu : Value} {cs : List CompArg} {w W W' : World} (h : CpC N k cu cs w W) (hb : Below W.heap.size W W') : CpC N k cu cs w W' :=
  ⟨h.row.grow hb, h.old, fun i hi hk => (h.own i hi hk).grow hb, h.ok, h.dis, h.hN, h.hB.trans (hb.mono h.hW), Nat.le_trans h.hW hb.size⟩
theorem CpC.comps {N k : Nat} {cu : Value} {cs : List CompArg} {w W : World} (h : CpC N k cu cs w W) (hl : cs.length ≤ 1000000) : IsComps W cu cs :=
  ⟨Ar.elems h.row.ar (fun c hc => by obtain ⟨p, _, rfl⟩ := List.mem_map.1 hc; rfl) (by simp) (by simp only [maxLen]; omega), fun c hc => by
    obtain ⟨i, hi, rfl⟩ := List.getElem_of_mem hc
    by_cases hik : i < k
    · exact h.ok i hi hik W (h.own i hi hik).ar
    · exact (h.old i hi (by omega)).below (by rw [← h.hN]; exact h.hB)⟩
/-- What else is changed. -/
theorem CpC.same {N k : Nat} {cu : Value} {cs : List CompArg} {w W W' : World} (h : CpC N k cu cs w W) (hb : ∀ g, (∃ cur, Blk W g cur 63 ∨ Blk W g cur 57) → W'.heap[g]? = W.heap[g]?) (hB : Below N w W') (hW : N ≤ W'.heap.size) : CpC N k cu cs w W' := by
  have key : ∀ {e : TypeId} {size : Nat} {v : Value} {n : Nat} {xs : List Value}, e = 63 ∨ e = 57 → Row W N e size v n xs → Row W' N e size v n xs := fun he hr => by
    refine hr.same fun g hg => hb g ?_
    rcases hr.2 with ⟨h0, _⟩ | ⟨g', cap', cur, h0, _, h3, _⟩
    · rw [h0] at hg; cases hg
    · rw [h0] at hg
      obtain rfl : g' = g := Option.some.inj hg
      rcases he with rfl | rfl
      · exact ⟨_, .inl h3⟩
      · exact ⟨_, .inr h3⟩
  exact ⟨key (.inl rfl) h.row, h.old, fun i hi hk => key (.inr rfl) (h.own i hi hk), h.ok, h.dis, h.hN, hB, hW⟩
theorem CpC.put {N k g cap : Nat} {cs : List CompArg} {w W W0 : World} (h : CpC N k (.slice (some ⟨g, 0, none⟩) cs.length cap) cs w W) (hk : k < cs.length) (v : Value) {lo : Nat}
    (hlo : N ≤ lo) (hold : CpC N k (.slice (some ⟨g, 0, none⟩) cs.length cap) cs w W0) (hl0 : W0.heap.size ≤ lo)
    (hv : Row W lo 57 64 v (cs[k]'hk).bs.length (bcells (cs[k]'hk).bs)) :
    CpC N (k + 1) (.slice (some ⟨g, 0, none⟩) cs.length cap) (cs.set k (setU (cs[k]'hk) v)) w (W.setCell ⟨g, k * 7 + 6, none⟩ v) := by
  have hg := h.row.lt g rfl
  have hne : ∀ {lo : Nat} {size : Nat} {u : Value} {n : Nat} {xs : List Value}, Row W lo 57 size u n xs → Row (W.setCell ⟨g, k * 7 + 6, none⟩ v) lo 57 size u n xs := fun hr => by
    refine hr.other _ _ fun b hb e => ?_
    obtain ⟨cur, hc⟩ := h.row.blk
    have e' : b = g := e
    subst e'
    exact hr.typed hc (by decide) b hb rfl
  have gs : ∀ i (hi : i < cs.length) (hi' : i < (cs.set k (setU (cs[k]'hk) v)).length), i ≠ k → (cs.set k (setU (cs[k]'hk) v))[i]'hi' = cs[i]'hi := fun i hi hi' e => by rw [List.getElem_set_ne (fun h => e h.symm)]
  have gk : ∀ (hi' : k < (cs.set k (setU (cs[k]'hk) v)).length), (cs.set k (setU (cs[k]'hk) v))[k]'hi' = setU (cs[k]'hk) v := fun hi' => by rw [List.getElem_set_self]
  refine ⟨?_, fun i hi hik => ?_, fun i hi hik => ?_, fun i hi hik W' ha => ?_, fun i j hi hj hik hjk hij b hb => ?_, h.hN, h.hB.setCell hg.1 _, by simpa using h.hW⟩
  · have := h.row.set (k * 7 + 6) (by omega) v
    rw [flat_set1 hk] at this
    rw [List.length_set]
    exact this
  · have hi2 : i < cs.length := by simpa using hi
    rw [gs i hi2 hi (by omega)]
    exact h.old i hi2 (by omega)
  · have hi2 : i < cs.length := by simpa using hi
    by_cases hek : i = k
    · subst hek
      rw [gk]
      exact hne (hv.down hlo)
    · rw [gs i hi2 hi hek]
      exact hne (h.own i hi2 (by omega))
  · have hi2 : i < cs.length := by simpa using hi
    by_cases hek : i = k
    · subst hek
      rw [gk] at ha ⊢
      have hx := h.old i hi2 (Nat.le_refl _)
      exact ⟨ha, hx.h64, hx.wb, hx.wid, hx.wh, hx.wv, hx.wq, hx.wc, hx.wr⟩
    · rw [gs i hi2 hi hek] at ha ⊢
      exact h.ok i hi2 (by omega) W' ha
  · have hi2 : i < cs.length := by simpa using hi
    have hj2 : j < cs.length := by simpa using hj
    have old : ∀ m (hm : m < cs.length), m < k → ∀ b, (cs[m]'hm).u.ownBlock = some b → b < lo := fun m hm hmk b hb => Nat.lt_of_lt_of_le ((hold.own m hm hmk).lt b hb).2 hl0
    by_cases hek : i = k
    · subst hek
      rw [gk] at hb
      rw [gs j hj2 hj (fun e => hij e.symm)]
      intro e
      have h1 := old j hj2 (by omega) b e
      have h2 := (hv.lt b hb).1
      omega
    · rw [gs i hi2 hi hek] at hb
      by_cases hfk : j = k
      · subst hfk
        rw [gk]
        intro e
        have h1 := old i hi2 (by omega) b hb
        have h2 := (hv.lt b e).1
        omega
      · rw [gs j hj2 hj hfk]
        exact h.dis i j hi2 hj2 (by omega) (by omega) hij b hb
end Go.Proofs.Ytgmhhocpdfdplaa
