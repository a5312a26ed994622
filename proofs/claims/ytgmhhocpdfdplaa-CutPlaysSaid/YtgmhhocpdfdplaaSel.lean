/- Plain facts on blocks chosen and painted; a slice literal of one block. -/
import Derived.Test.YtgmhhocpdfdplaaRPlane2
import Derived.Test.YtgmhhocpdfdplaaPaint
import Derived.Great.BuildSlice
namespace Go.Proofs.Ytgmhhocpdfdplaa
open Go.RowKit
set_option maxRecDepth 100000
theorem run_exec_slice1 {o : Oper} {a : Act} {w : World} (x : Operand) (ho : o.op = .buildSlice 59 1 #[(0, x)]) (b : List Int) (hx : a.eval x = .agg (ints .i16 b)) (hb : b.length = 64) :
    (execOp a.eval o).run Try.prog w = .ok (.value (.slice (some ⟨w.heap.size, 0, none⟩) 1 1)) (w.alloc (.cells (ints .i16 b) 57)) := by
  obtain ⟨i, hi⟩ : ∃ i, Try.prog.info? 57 = some i := ⟨_, rfl⟩
  have h3 : (Try.prog.info? 57).map (fun i => i.size) = some 64 := by kernel_rfl
  have h4 : (Try.prog.info? 57).bind (fun i => i.zero) = some (.agg (ints .i16 (List.replicate 64 0))) := by kernel_rfl
  rw [hi] at h3 h4
  simp only [Option.map_some, Option.some.injEq, Option.bind_some] at h3 h4
  have hf := Great.fill_whole (s := i.size) (by omega) [Value.agg (ints .i16 b)] ((Array.range (1 * i.size)).map ((Value.agg (ints .i16 (List.replicate 64 0))).cells[· % (Value.agg (ints .i16 (List.replicate 64 0))).cells.size]!))
    (by intro v hv; simp only [List.mem_singleton] at hv; subst hv; simp [Value.cells, hb, h3]) (by simp)
  have he : ([Value.agg (ints .i16 b)].flatMap fun v => v.cells.toList).toArray = ints .i16 b := by simp [Value.cells]
  rw [he] at hf
  unfold execOp
  simp only [ho, Sem.run_bind]
  rw [run_buildSlice w 59 57 1 _ (ints .i16 b) i _ Try.underlying59 hi h4 (by omega) (by omega) (by simpa [hx] using hf)]
  rfl
namespace Pl
/-- The blocks of the first i places that are chosen. -/
def sel (bs : List (List Int)) (S : Nat → Bool) (i : Nat) : List (List Int) := ((List.range i).filter S).map (blk bs)
theorem sel_zero (bs : List (List Int)) (S : Nat → Bool) : sel bs S 0 = [] := rfl
theorem sel_yes {bs : List (List Int)} {S : Nat → Bool} {i : Nat} (h : S i = true) : sel bs S (i + 1) = sel bs S i ++ [blk bs i] := by simp [sel, List.range_succ, h]
theorem sel_no {bs : List (List Int)} {S : Nat → Bool} {i : Nat} (h : S i = false) : sel bs S (i + 1) = sel bs S i := by simp [sel, List.range_succ, h]
theorem sel_right {bs : List (List Int)} (h : Right64 bs) (S : Nat → Bool) (i : Nat) : Right64 (sel bs S i) := by
  intro x hx
  simp only [sel, List.mem_map] at hx
  obtain ⟨j, _, rfl⟩ := hx
  exact blk_len h j
theorem sel_len (bs : List (List Int)) (S : Nat → Bool) (i : Nat) : (sel bs S i).length ≤ i := by
  unfold sel
  rw [List.length_map]
  exact Nat.le_trans (List.length_filter_le _ _) (by simp)
/-- The blocks of the first i places, x where chosen. -/
def pnt (bs : List (List Int)) (S : Nat → Bool) (x : List Int) (i : Nat) : List (List Int) := (List.range i).map fun j => if S j = true then x else blk bs j
theorem pnt_succ (bs : List (List Int)) (S : Nat → Bool) (x : List Int) (i : Nat) : pnt bs S x (i + 1) = pnt bs S x i ++ [if S i = true then x else blk bs i] := by simp [pnt, List.range_succ]
theorem pnt_len (bs : List (List Int)) (S : Nat → Bool) (x : List Int) (i : Nat) : (pnt bs S x i).length = i := by simp [pnt]
theorem pnt_right {bs : List (List Int)} (h : Right64 bs) (S : Nat → Bool) {x : List Int} (hx : x.length = 64) (i : Nat) : Right64 (pnt bs S x i) := by
  intro y hy
  simp only [pnt, List.mem_map] at hy
  obtain ⟨j, _, rfl⟩ := hy
  split
  · exact hx
  · exact blk_len h j
theorem blk_eq {L : List (List Int)} {i : Nat} (h : i < L.length) : L[i] = blk L i := blk_getL h
theorem Painted.eq {bs L : List (List Int)} {S : Nat → Prop} {x : List Int} (h : Painted bs L S x) (T : Nat → Bool) (hT : ∀ i, T i = true ↔ S i) : L = pnt bs T x bs.length := by
  apply List.ext_getElem
  · rw [h.len, pnt_len]
  · intro i h1 h2
    rw [blk_eq h1]
    have hi : i < bs.length := by rw [← h.len]; exact h1
    simp only [pnt, List.getElem_map, List.getElem_range]
    by_cases hs : T i = true
    · rw [if_pos hs]; exact h.yes i hi ((hT i).1 hs)
    · rw [if_neg hs]; exact h.no i hi (fun hh => hs ((hT i).2 hh))
/-- Is block i of a plane of c columns in a rectangle? -/
def insI (a b h d : Nat) (c i : Nat) : Bool := insB a b h d ((i / c : Nat) : Int) ((i % c : Nat) : Int)
theorem insI_iff (a b h d c i : Nat) : insI a b h d c i = true ↔ inR a b h d (i / c) (i % c) := by
  unfold insI insB inR
  rw [decide_eq_true_eq]
  omega
theorem range_mid {b d c : Nat} (h : b + d ≤ c) (T : Nat → Bool) (hT : ∀ j, j < c → (T j = true ↔ b ≤ j ∧ j < b + d)) : (List.range c).filter T = (List.range d).map (b + ·) := by
  obtain ⟨e, rfl⟩ : ∃ e, c = b + (d + e) := ⟨c - b - d, by omega⟩
  rw [List.range_add, List.range_add, List.map_append, List.filter_append, List.filter_append]
  have h1 : (List.range b).filter T = [] := by
    rw [List.filter_eq_nil_iff]
    intro j hj
    have hj := List.mem_range.1 hj
    rw [hT j (by omega)]
    omega
  have h2 : ((List.range d).map (b + ·)).filter T = (List.range d).map (b + ·) := by
    rw [List.filter_eq_self]
    intro j hj
    obtain ⟨t, ht, rfl⟩ := List.mem_map.1 hj
    have ht := List.mem_range.1 ht
    rw [hT _ (by omega)]
    omega
  have h3 : (((List.range e).map (d + ·)).map (b + ·)).filter T = [] := by
    rw [List.filter_eq_nil_iff]
    intro j hj
    obtain ⟨t, ht, rfl⟩ := List.mem_map.1 hj
    obtain ⟨s, hs, rfl⟩ := List.mem_map.1 ht
    have hs := List.mem_range.1 hs
    rw [hT _ (by omega)]
    omega
  rw [h1, h2, h3]
  simp
theorem take_drop_map {bs : List (List Int)} {z d : Nat} (h : z + d ≤ bs.length) : (bs.drop z).take d = (List.range d).map fun t => blk bs (z + t) := by
  apply List.ext_getElem
  · simp; omega
  · intro i h1 h2
    simp only [List.length_take, List.length_drop] at h1
    rw [List.getElem_take, List.getElem_drop, List.getElem_map, List.getElem_range, blk_eq (by omega)]
theorem sel_rows {bs : List (List Int)} {c r a b h d : Nat} (hn : bs.length = c * r) (h1 : a + h ≤ r) (h2 : b + d ≤ c) (hd : 1 ≤ d) : ∀ k, k ≤ r → sel bs (insI a b h d c) (k * c) = win bs c a b d (min (k - a) h) := by
  intro k
  induction k with
  | zero => intro _; simp [sel, win]
  | succ k ih =>
    intro hk
    have hc : 0 < c := by omega
    have hdm : ∀ j, j < c → (k * c + j) / c = k ∧ (k * c + j) % c = j := fun j hj => by
      rw [Nat.add_comm, Nat.add_mul_div_right _ _ hc, Nat.add_mul_mod_self_right, Nat.div_eq_of_lt hj, Nat.mod_eq_of_lt hj]
      omega
    have e : sel bs (insI a b h d c) ((k + 1) * c) = sel bs (insI a b h d c) (k * c) ++ ((List.range c).filter fun j => insI a b h d c (k * c + j)).map fun j => blk bs (k * c + j) := by
      unfold sel
      rw [Nat.add_mul, Nat.one_mul, List.range_add, List.filter_append, List.map_append, List.filter_map, List.map_map]
      rfl
    rw [e, ih (by omega)]
    have hT : ∀ j, j < c → (insI a b h d c (k * c + j) = true ↔ (a ≤ k ∧ k < a + h) ∧ b ≤ j ∧ j < b + d) := fun j hj => by
      rw [insI_iff, (hdm j hj).1, (hdm j hj).2]
      unfold inR
      omega
    by_cases hin : a ≤ k ∧ k < a + h
    · rw [range_mid h2 _ (fun j hj => by rw [hT j hj]; exact ⟨fun h => h.2, fun h => ⟨hin, h⟩⟩)]
      have e1 : min (k - a) h = k - a := by omega
      have e2 : min (k + 1 - a) h = k - a + 1 := by omega
      have e3 : a + (k - a) = k := by omega
      rw [e1, e2, win_succ, e3, List.map_map]
      congr 1
      have hf := row_fits hn h1 h2 (show k - a < h by omega)
      rw [e3] at hf
      rw [take_drop_map (by omega)]
      apply List.map_congr_left
      intro t _
      simp only [Function.comp]
      rw [Nat.add_assoc]
    · have e1 : (List.range c).filter (fun j => insI a b h d c (k * c + j)) = [] := by
        rw [List.filter_eq_nil_iff]
        intro j hj
        rw [hT j (List.mem_range.1 hj)]
        exact fun h => hin h.1
      have e2 : min (k + 1 - a) h = min (k - a) h := by omega
      rw [e1, e2]
      simp
theorem sel_win {bs : List (List Int)} {c r a b h d : Nat} (hn : bs.length = c * r) (h1 : a + h ≤ r) (h2 : b + d ≤ c) (hd : 1 ≤ d) : sel bs (insI a b h d c) bs.length = win bs c a b d h := by
  have h3 := sel_rows hn h1 h2 hd r (Nat.le_refl _)
  rw [Nat.mul_comm, ← hn] at h3
  rw [h3]
  congr 1
  omega
end Pl
end Go.Proofs.Ytgmhhocpdfdplaa
