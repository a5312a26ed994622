/- A slice of whole elements, wherever in its block it begins: reading; copying by append. No Go text. -/
import Derived.Test.YtgmhhocpdfdplaaRowApp
namespace Go.Proofs.Ytgmhhocpdfdplaa
open Go.RowKit

/-- The slice value v of n elements (size cells each, element type e) has the cells xs, from off on in its block; nil if there are none. -/
def View (w : World) (e : TypeId) (size : Nat) (v : Value) (n : Nat) (xs : List Value) : Prop :=
  xs.length = n * size ∧ ((v = .slice none 0 0 ∧ n = 0) ∨
    ∃ g off cap cur, v = .slice (some ⟨g, off, none⟩) n cap ∧ n ≤ cap ∧ cap ≤ maxLen ∧ Blk w g cur e ∧ ∀ i, i < n * size → cur[off + i]? = xs[i]?)
section
variable {w : World} {lo : Nat} {e : TypeId} {size : Nat} {v : Value} {n : Nat} {xs : List Value}
theorem Row.relo {lo' : Nat} (h : Row w lo e size v n xs) (hl : ∀ g, v.ownBlock = some g → lo' ≤ g) : Row w lo' e size v n xs := by
  refine ⟨h.1, ?_⟩
  rcases h.2 with h | ⟨g, cap, cur, h1, h2, h3⟩
  · exact .inl h
  · exact .inr ⟨g, cap, cur, h1, hl g (by rw [h1]; rfl), h3⟩
theorem View.nil (w : World) (e : TypeId) (size : Nat) : View w e size (.slice none 0 0) 0 [] := ⟨by simp, .inl ⟨rfl, rfl⟩⟩
theorem Row.view (h : Row w lo e size v n xs) : View w e size v n xs := by
  refine ⟨h.1, ?_⟩
  rcases h.2 with h | ⟨g, cap, cur, h1, h2, h3, h4, h5, h6, h7⟩
  · exact .inl h
  · refine .inr ⟨g, 0, cap, cur, h1, h4, h5, h3, fun i hi => ?_⟩
    rw [← h7, List.getElem?_take, if_pos hi]
    simp
theorem View.len (h : View w e size v n xs) : ∃ b cap, v = .slice b n cap ∧ n ≤ cap ∧ cap ≤ maxLen := by
  rcases h.2 with ⟨rfl, rfl⟩ | ⟨g, off, cap, cur, rfl, h2, h3, _⟩
  · exact ⟨_, _, rfl, Nat.le_refl _, Nat.zero_le _⟩
  · exact ⟨_, _, rfl, h2, h3⟩
theorem View.same {w' : World} (h : View w e size v n xs) (hb : ∀ g, v.ownBlock = some g → w'.heap[g]? = w.heap[g]?) : View w' e size v n xs := by
  refine ⟨h.1, ?_⟩
  rcases h.2 with h | ⟨g, off, cap, cur, h1, h2, h3, h4, h5⟩
  · exact .inl h
  · exact .inr ⟨g, off, cap, cur, h1, h2, h3, (hb g (by subst h1; rfl)).trans h4, h5⟩
theorem View.lt (h : View w e size v n xs) : ∀ g, v.ownBlock = some g → g < w.heap.size := by
  intro k hk
  rcases h.2 with ⟨rfl, _⟩ | ⟨g, off, cap, cur, rfl, _, _, h3, _⟩
  · cases hk
  · cases hk; exact h3.lt
theorem View.below {w' : World} {B : Nat} (h : View w e size v n xs) (hb : Below B w w') (hB : ∀ g, v.ownBlock = some g → g < B) : View w' e size v n xs := h.same fun g hg => hb.block g (hB g hg)
theorem View.grow {w' : World} (h : View w e size v n xs) (hb : Below w.heap.size w w') : View w' e size v n xs := h.below hb h.lt
theorem View.other (h : View w e size v n xs) (a : Addr) (u : Value) (hn : ∀ g, v.ownBlock = some g → g ≠ a.block) : View (w.setCell a u) e size v n xs := h.same fun g hg => heap_setCell_other w a g u (hn g hg)
theorem View.rowOther (h : View w e size v n xs) (k : Nat) (ds : Array Value) (hn : ∀ g, v.ownBlock = some g → g ≠ k) : View (w.setRow k ds) e size v n xs := h.same fun g hg => setRow_other w k g ds (hn g hg)
theorem View.typed {g : Nat} {cs : Array Value} {t : TypeId} (h : View w e size v n xs) (hb : Blk w g cs t) (ht : t ≠ e) : ∀ k, v.ownBlock = some k → k ≠ g := by
  intro k hk hkg
  subst hkg
  rcases h.2 with ⟨rfl, _⟩ | ⟨g, off, cap, cur, rfl, _, _, h3, _⟩
  · cases hk
  · cases hk
    have := h3.symm.trans hb
    simp at this
    exact ht this.2.symm
theorem View.cells (h : View w e size v n xs) (hn : 0 < n) : ∃ g off cap, v = .slice (some ⟨g, off, none⟩) n cap ∧ n ≤ cap ∧ cap ≤ maxLen ∧ g < w.heap.size ∧ ∀ i, i < n * size → w.cell? ⟨g, off + i, none⟩ = xs[i]? := by
  rcases h.2 with ⟨_, rfl⟩ | ⟨g, off, cap, cur, rfl, h2, h3, h4, h5⟩
  · omega
  · exact ⟨g, off, cap, rfl, h2, h3, h4.lt, fun i hi => by rw [h4.cell]; exact h5 i hi⟩
/-- The slice without its first element. -/
theorem View.tail {g off cap : Nat} {xs ys : List Value} (h : View w e size (.slice (some ⟨g, off, none⟩) (n + 1) cap) (n + 1) (xs ++ ys)) (hx : xs.length = size) (off' : Nat) (ho : n = 0 ∨ off' = off + size) :
    View w e size (.slice (some ⟨g, off', none⟩) n (cap - 1)) n ys := by
  have h0 := h.1
  rw [List.length_append, hx, Nat.add_mul] at h0
  refine ⟨by omega, ?_⟩
  rcases h.2 with ⟨h1, _⟩ | ⟨g, off, cap, cur, h1, h2, h3, h4, h5⟩
  · cases h1
  · cases h1
    refine .inr ⟨g, off', cap - 1, cur, rfl, by omega, by omega, h4, fun i hi => ?_⟩
    rcases ho with rfl | rfl
    · omega
    · rw [Nat.add_assoc, h5 (size + i) (by rw [Nat.add_mul]; omega), List.getElem?_append_right (by omega)]
      congr 1
      omega
end
section
variable {P : Program} (w : World)
/-- 'append(nil, x...)', x anywhere: a copy of its own. -/
theorem wpList_append_view {ops : Array Oper} {rest : List Oper} {o : Oper} {a : Act} {Q : Exit → Act → World → Prop} (hgd : o.guard = none) (s x : Operand) (t : TypeId)
    (ho : o.op = .call { callee := .builtin .append, args := #[s, x], argTypes := #[t, t] })
    (lo : Nat) (e : TypeId) (i : TypeInfo) (z : Value) (size bytes : Nat) (ht : P.underlying t = some (.slice e)) (hi : P.info? e = some i) (hz : i.zero = some z)
    (hsize : i.size = size) (hby : i.bytes = bytes) (hzs : z.cells.size = size)
    (v : Value) (n : Nat) (xs : List Value) (hs : a.eval s = v) (hown : Row w lo e size v n xs)
    (u : Value) (m : Nat) (news : List Value) (hx : a.eval x = u) (hv : View w e size u m news) (h1 : ∀ u ∈ news, u.oneCell' = true)
    (h63 : n + m ≤ maxLen) (hbytes : (n + m) * bytes ≤ 140737488355328) (hbase : lo ≤ w.heap.size)
    (h : ∀ v' w', Row w' lo e size v' (n + m) (xs ++ news) → w.grownBy w' v.ownBlock → (v'.ownBlock = v.ownBlock ∨ v'.ownBlock = some w.heap.size) → wpList P ops Q rest (a.put o.dst v') w') :
    wpList P ops Q (o :: rest) a w := by
  have hl := hv.1
  rcases hv.2 with ⟨rfl, rfl⟩ | ⟨g, off, cap, cur, rfl, h2, h3, h4, h5⟩
  · obtain rfl : news = [] := List.eq_nil_of_length_eq_zero (by simpa using hl)
    obtain ⟨b, cp, rfl⟩ := hown.len
    have hc : n ≤ cp := by
      rcases hown.2 with ⟨h1, h2⟩ | ⟨g, cap', cur, h1, h2, h3, h4, _⟩
      · omega
      · cases h1; exact h4
    refine wpList_plain hgd fun K hK => ?_
    have hr := run_append_none w (P := P) t o.type e i ht hi b n cp hc none 0
    unfold Oper.wp execOp
    simp only [ho, resolve, invoke, builtin, Sem.run_bind, Sem.run_pure, Result.andThen_ok, List.map_toArray, List.map_cons, List.map_nil, hs, hx, hr]
    exact hK _ _ (h _ _ (by simpa using hown) ⟨rfl, rfl, rfl, Nat.le_refl _, fun _ _ _ => rfl⟩ (.inl rfl))
  · refine wpList_append_any w hgd s x t ho lo e i z size bytes ht hi hz hsize hby hzs v n xs hs hown ⟨g, off, none⟩ m cap news hx hl (fun j u hj => ?_) h1 h63 hbytes hbase h
    have hjl : j < news.length := (List.getElem?_eq_some_iff.1 hj).1
    have e : (⟨g, off, none⟩ : Addr).add j = ⟨g, off + j, none⟩ := by unfold Addr.add; split <;> simp_all
    rw [e, h4.cell, h5 j (by omega), hj]
end
end Go.Proofs.Ytgmhhocpdfdplaa
