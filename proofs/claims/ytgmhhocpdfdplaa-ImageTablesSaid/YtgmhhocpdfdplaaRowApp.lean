/- append of any number of elements, none too, to a slice over a block of its own. No Go text. -/
import Derived.Test.YtgmhhocpdfdplaaRow
namespace Go.Proofs.Ytgmhhocpdfdplaa
open Go.RowKit
section
variable {P : Program} (w : World)
theorem run_append_none (t ty e : TypeId) (i : TypeInfo) (ht : P.underlying t = some (.slice e)) (hi : P.info? e = some i) (g : Option Addr) (n cap : Nat) (hc : n ≤ cap) (a : Option Addr) (c : Nat) :
    (Builtin.append_ #[t, t] ty #[.slice g n cap, .slice a 0 c]).run P w = .ok (.slice g n cap) w := by
  cases g <;> cases a <;> simp [Builtin.append_, run_underlying ht, sizeOf, typeInfo, hi, Builtin.lenOf, Builtin.firstCells, loadCells, loadCellsFrom, storeCells, hc]
theorem wpList_append_any {ops : Array Oper} {rest : List Oper} {o : Oper} {a : Act} {Q : Exit → Act → World → Prop} (hgd : o.guard = none) (s x : Operand) (t : TypeId)
    (ho : o.op = .call { callee := .builtin .append, args := #[s, x], argTypes := #[t, t] })
    (lo : Nat) (e : TypeId) (i : TypeInfo) (z : Value) (size bytes : Nat) (ht : P.underlying t = some (.slice e)) (hi : P.info? e = some i) (hz : i.zero = some z)
    (hsize : i.size = size) (hby : i.bytes = bytes) (hzs : z.cells.size = size)
    (v : Value) (n : Nat) (xs : List Value) (hs : a.eval s = v) (hown : Row w lo e size v n xs)
    (ad : Addr) (m c : Nat) (news : List Value) (hx : a.eval x = .slice (some ad) m c) (hl : news.length = m * size) (hnews : ∀ j u, news[j]? = some u → w.cell? (ad.add j) = some u) (h1 : ∀ u ∈ news, u.oneCell' = true)
    (h63 : n + m ≤ maxLen) (hbytes : (n + m) * bytes ≤ 140737488355328) (hbase : lo ≤ w.heap.size)
    (h : ∀ v' w', Row w' lo e size v' (n + m) (xs ++ news) → w.grownBy w' v.ownBlock → (v'.ownBlock = v.ownBlock ∨ v'.ownBlock = some w.heap.size) → wpList P ops Q rest (a.put o.dst v') w') :
    wpList P ops Q (o :: rest) a w := by
  by_cases hm : 0 < m
  · exact wpList_append_Row w hgd s x t ho lo e i z size bytes ht hi hz hsize hby hzs v n xs hs hown ad m c news hx hm hl hnews h1 h63 hbytes hbase h
  · obtain rfl : m = 0 := by omega
    obtain rfl : news = [] := List.eq_nil_of_length_eq_zero (by simpa using hl)
    obtain ⟨b, cap, rfl⟩ := hown.len
    have hc : n ≤ cap := by
      rcases hown.2 with ⟨h1, h2⟩ | ⟨g, cap', cur, h1, h2, h3, h4, _⟩
      · omega
      · cases h1; exact h4
    refine wpList_plain hgd fun K hK => ?_
    have hr := run_append_none w (P := P) t o.type e i ht hi b n cap hc (some ad) c
    unfold Oper.wp execOp
    simp only [ho, resolve, invoke, builtin, Sem.run_bind, Sem.run_pure, Result.andThen_ok, List.map_toArray, List.map_cons, List.map_nil, hs, hx, hr]
    exact hK _ _ (h _ _ (by simpa using hown) ⟨rfl, rfl, rfl, Nat.le_refl _, fun _ _ _ => rfl⟩ (.inl rfl))
end
/-- An empty block at the heap's end, as a slice of nothing. -/
theorem Row.empty {w : World} {N lo : Nat} {e : TypeId} {size : Nat} (h : Blk w N #[] e) (hl : lo ≤ N) : Row w lo e size (.slice (some ⟨N, 0, none⟩) 0 0) 0 [] :=
  ⟨by simp, .inr ⟨N, 0, #[], rfl, hl, h, Nat.le_refl _, Nat.zero_le _, by simp, by simp⟩⟩
end Go.Proofs.Ytgmhhocpdfdplaa
