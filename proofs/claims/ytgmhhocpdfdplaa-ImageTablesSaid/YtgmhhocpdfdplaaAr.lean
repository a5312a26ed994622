/- A slice whose cells are known, wherever they lie: reading, keeping, cutting, copying. No Go text. -/
import Derived.Test.YtgmhhocpdfdplaaView
import Derived.Test.YtgmhhocpdfdplaaOpenEl
namespace Go.Proofs.Ytgmhhocpdfdplaa
open Go.RowKit
/-- The slice value u of n elements (size cells each) has the cells xs. -/
def Ar (w : World) (size : Nat) (u : Value) (n : Nat) (xs : List Value) : Prop :=
  xs.length = n * size ∧ ((u = .slice none 0 0 ∧ n = 0) ∨ ∃ (a : Addr) (cap : Nat), u = .slice (some a) n cap ∧ n ≤ cap ∧ cap ≤ maxLen ∧ ∀ j v, xs[j]? = some v → w.cell? (a.add j) = some v)
section
variable {w : World} {size : Nat} {u : Value} {n : Nat} {xs : List Value}
theorem Ar.nil (w : World) (size : Nat) : Ar w size (.slice none 0 0) 0 [] := ⟨by simp, .inl ⟨rfl, rfl⟩⟩
theorem Ar.len (h : Ar w size u n xs) : ∃ b cap, u = .slice b n cap ∧ n ≤ cap ∧ cap ≤ maxLen := by
  rcases h.2 with ⟨rfl, rfl⟩ | ⟨a, cap, rfl, h1, h2, _⟩
  · exact ⟨_, _, rfl, Nat.le_refl _, Nat.zero_le _⟩
  · exact ⟨_, _, rfl, h1, h2⟩
theorem Ar.below {w' : World} (h : Ar w size u n xs) (hb : Below w.heap.size w w') : Ar w' size u n xs := by
  refine ⟨h.1, ?_⟩
  rcases h.2 with h0 | ⟨a, cap, rfl, h1, h2, hc⟩
  · exact .inl h0
  · exact .inr ⟨a, cap, rfl, h1, h2, fun j v hj => (hb.cell (p := a.add j) (World.block_lt_of_cell? w _ (hc j v hj))).trans (hc j v hj)⟩
theorem View.ar {e : TypeId} (h : View w e size u n xs) : Ar w size u n xs := by
  refine ⟨h.1, ?_⟩
  rcases h.2 with h0 | ⟨g, off, cap, cur, rfl, h1, h2, h3, h4⟩
  · exact .inl h0
  · refine .inr ⟨_, cap, rfl, h1, h2, fun j v hj => ?_⟩
    have hjl : j < xs.length := (List.getElem?_eq_some_iff.1 hj).1
    have e : (⟨g, off, none⟩ : Addr).add j = ⟨g, off + j, none⟩ := by unfold Addr.add; split <;> simp_all
    rw [e, h3.cell, h4 j (by rw [← h.1]; exact hjl), hj]
theorem Row.ar {lo : Nat} {e : TypeId} (h : Row w lo e size u n xs) : Ar w size u n xs := h.view.ar
theorem Elems.ar {cells : List (List Value)} (h : Elems w size u cells) : Ar w size u cells.length cells.flatten := by
  have hl : ∀ l : List (List Value), (∀ c ∈ l, c.length = size) → l.flatten.length = l.length * size := by
    intro l
    induction l with
    | nil => intro _; simp
    | cons c l ih => intro h; rw [List.flatten_cons, List.length_append, ih (fun c hc => h c (by simp [hc])), h c (by simp), List.length_cons, Nat.add_mul]; omega
  refine ⟨hl _ h.2.1, ?_⟩
  rcases h.2.2 with ⟨h0, h1⟩ | ⟨a, cap, rfl, h1, h2, hc⟩
  · exact .inl ⟨h0, by simp [h1]⟩
  · refine .inr ⟨a, cap, rfl, h1, h2, fun j v hj => ?_⟩
    have key : ∀ (l : List (List Value)) (j : Nat) (v : Value), (∀ c ∈ l, c.length = size) → l.flatten[j]? = some v → ∃ i k, i < l.length ∧ k < size ∧ j = i * size + k ∧ (l.getD i [])[k]? = some v := by
      intro l
      induction l with
      | nil => intro j v _ h; simp at h
      | cons c l ih =>
        intro j v hcl h
        have hc0 : c.length = size := hcl c (by simp)
        by_cases hj : j < size
        · rw [List.flatten_cons, List.getElem?_append_left (by omega)] at h
          exact ⟨0, j, by simp, hj, by simp, by simpa using h⟩
        · rw [List.flatten_cons, List.getElem?_append_right (by omega), hc0] at h
          obtain ⟨i, k, hi, hk, he, hv⟩ := ih _ v (fun c hc => hcl c (by simp [hc])) h
          exact ⟨i + 1, k, by simpa using hi, hk, by rw [Nat.add_mul]; omega, by simpa using hv⟩
    obtain ⟨i, k, hi, hk, rfl, hv⟩ := key cells j v h.2.1 hj
    rw [hc i hi k hk, hv]
/-- A part of the slice. -/
theorem Ar.sub {a : Addr} {cap : Nat} (h : Ar w size (.slice (some a) n cap) n xs) (i m cap' : Nat) (ys : List Value) (hm : m ≤ cap') (hcm : cap' ≤ maxLen) (hl : ys.length = m * size) (hys : ∀ j v, ys[j]? = some v → xs[i * size + j]? = some v) (a' : Addr) (ha : m = 0 ∨ a' = a.add (i * size)) : Ar w size (.slice (some a') m cap') m ys := by
  refine ⟨hl, ?_⟩
  rcases h.2 with ⟨h0, _⟩ | ⟨a2, cap2, h0, h1, h2, hc⟩
  · cases h0
  · cases h0
    refine .inr ⟨a', cap', rfl, hm, hcm, fun j v hj => ?_⟩
    rcases ha with rfl | rfl
    · have hjl : j < ys.length := (List.getElem?_eq_some_iff.1 hj).1
      omega
    · rw [Go.Deep.add_add]
      exact hc _ _ (hys j v hj)
theorem Ar.cell {a : Addr} {cap : Nat} (h : Ar w size (.slice (some a) n cap) n xs) {j : Nat} {v : Value} (hj : xs[j]? = some v) : w.cell? (a.add j) = some v := by
  rcases h.2 with ⟨h0, _⟩ | ⟨a2, cap2, h0, _, _, hc⟩
  · cases h0
  · cases h0; exact hc j v hj
theorem Ar.some (h : Ar w size u n xs) (hn : 0 < n) : ∃ a cap, u = .slice (some a) n cap ∧ n ≤ cap ∧ cap ≤ maxLen := by
  rcases h.2 with ⟨_, h0⟩ | ⟨a, cap, rfl, h1, h2, _⟩
  · omega
  · exact ⟨a, cap, rfl, h1, h2⟩
end
section
variable {P : Program} (w : World)
/-- 'append(row, x...)', x anywhere. -/
theorem wpList_append_ar {ops : Array Oper} {rest : List Oper} {o : Oper} {a : Act} {Q : Exit → Act → World → Prop} (hgd : o.guard = none) (s x : Operand) (t : TypeId)
    (ho : o.op = .call { callee := .builtin .append, args := #[s, x], argTypes := #[t, t] })
    (lo : Nat) (e : TypeId) (i : TypeInfo) (z : Value) (size bytes : Nat) (ht : P.underlying t = some (.slice e)) (hi : P.info? e = some i) (hz : i.zero = some z)
    (hsize : i.size = size) (hby : i.bytes = bytes) (hzs : z.cells.size = size)
    (v : Value) (n : Nat) (xs : List Value) (hs : a.eval s = v) (hown : Row w lo e size v n xs)
    (u : Value) (m : Nat) (news : List Value) (hx : a.eval x = u) (hv : Ar w size u m news) (h1 : ∀ u ∈ news, u.oneCell' = true)
    (h63 : n + m ≤ maxLen) (hbytes : (n + m) * bytes ≤ 140737488355328) (hbase : lo ≤ w.heap.size)
    (h : ∀ v' w', Row w' lo e size v' (n + m) (xs ++ news) → w.grownBy w' v.ownBlock → (v'.ownBlock = v.ownBlock ∨ v'.ownBlock = some w.heap.size) → wpList P ops Q rest (a.put o.dst v') w') :
    wpList P ops Q (o :: rest) a w := by
  have hl := hv.1
  rcases hv.2 with ⟨rfl, rfl⟩ | ⟨ad, cap, rfl, h2, h3, h4⟩
  · exact wpList_append_view w hgd s x t ho lo e i z size bytes ht hi hz hsize hby hzs v n xs hs hown (.slice none 0 0) 0 news hx ⟨hl, .inl ⟨rfl, rfl⟩⟩ h1 h63 hbytes hbase h
  · exact wpList_append_any w hgd s x t ho lo e i z size bytes ht hi hz hsize hby hzs v n xs hs hown ad m cap news hx hl h4 h1 h63 hbytes hbase h
end
/-- Blocks of 64 integers, as cells. -/
def bcells (bs : List (List Int)) : List Value := bs.flatMap fun b => b.map (Value.int .i16)
def Right64 (bs : List (List Int)) : Prop := ∀ b ∈ bs, b.length = 64
theorem bcells_len {bs : List (List Int)} (h : Right64 bs) : (bcells bs).length = bs.length * 64 := by
  induction bs with
  | nil => rfl
  | cons b bs ih => simp only [bcells, List.flatMap_cons, List.length_append, List.length_map, List.length_cons] at *; rw [ih (fun c hc => h c (by simp [hc])), h b (by simp)]; omega
theorem bcells_one (bs : List (List Int)) : ∀ u ∈ bcells bs, u.oneCell' = true := by
  intro u hu
  simp only [bcells, List.mem_flatMap, List.mem_map] at hu
  obtain ⟨b, _, x, _, rfl⟩ := hu
  rfl
theorem bcells_append (as bs : List (List Int)) : bcells (as ++ bs) = bcells as ++ bcells bs := by simp [bcells]
theorem Right64.drop {bs : List (List Int)} (h : Right64 bs) (k : Nat) : Right64 (bs.drop k) := fun b hb => h b (List.mem_of_mem_drop hb)
theorem Right64.take {bs : List (List Int)} (h : Right64 bs) (k : Nat) : Right64 (bs.take k) := fun b hb => h b (List.mem_of_mem_take hb)
theorem bcells_drop {bs : List (List Int)} (h : Right64 bs) (k : Nat) : (bcells bs).drop (k * 64) = bcells (bs.drop k) := by
  by_cases hk : k ≤ bs.length
  · have e : bcells bs = bcells (bs.take k) ++ bcells (bs.drop k) := by rw [← bcells_append, List.take_append_drop]
    rw [e, List.drop_append_of_le_length (by rw [bcells_len (h.take k), List.length_take]; omega), List.drop_of_length_le (by rw [bcells_len (h.take k), List.length_take]; omega), List.nil_append]
  · rw [List.drop_of_length_le (by rw [bcells_len h]; omega), List.drop_of_length_le (by omega)]
    rfl
theorem bcells_take {bs : List (List Int)} (h : Right64 bs) (k : Nat) : (bcells bs).take (k * 64) = bcells (bs.take k) := by
  by_cases hk : k ≤ bs.length
  · have e : bcells bs = bcells (bs.take k) ++ bcells (bs.drop k) := by rw [← bcells_append, List.take_append_drop]
    have hl : (bcells (bs.take k)).length = k * 64 := by rw [bcells_len (h.take k), List.length_take]; omega
    rw [e, List.take_append_of_le_length (by omega), List.take_of_length_le (by omega)]
  · rw [List.take_of_length_le (by rw [bcells_len h]; omega), List.take_of_length_le (by omega)]
theorem bcells_get {bs : List (List Int)} (h : Right64 bs) (k j : Nat) (hk : k < bs.length) (hj : j < 64) : (bcells bs)[k * 64 + j]? = some (.int .i16 ((bs.getD k []).getD j 0)) := by
  rw [← List.getElem?_drop, bcells_drop h, List.drop_eq_getElem_cons hk]
  have hb : (bs[k]).length = 64 := h _ (List.getElem_mem hk)
  simp only [bcells, List.flatMap_cons]
  rw [List.getElem?_append_left (by simp; omega)]
  simp [List.getD_eq_getElem?_getD, hk, hb, hj]
end Go.Proofs.Ytgmhhocpdfdplaa
