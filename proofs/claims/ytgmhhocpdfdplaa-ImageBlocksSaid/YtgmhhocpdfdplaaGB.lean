/- Texts on one foundation, joined: Row, RowApp, View, Ar, Plane, OpenPl, OpenImg, Plane2, Plane3, Window, Sheet, Blk0, Sheet2. -/
import Derived.Test.YtgmhhocpdfdplaaGA
import Derived.Maps.AppendAt
import Derived.Laws.ResultCell
import Derived.Test.YtgmhhocpdfdplaaProg
import Derived.Deep.DeepCutAuto
import Derived.BigQuiet
import Derived.Lib.SmallJoins
import Derived.Lib.SliceRun
import Derived.Deep.MidRow
import Derived.Great.Walk
/- Slices over whole blocks of their own (or nil), over any program: reading, appending, keeping. No Go text. -/
namespace Go.Proofs.Ytgmhhocpdfdplaa
open Go.RowKit
/-- The slice value v of n elements (size cells each, element type e) has the cells xs; nil, or at the start of a block not below lo that may be written up to its capacity. -/
def Row (w : World) (lo : Nat) (e : TypeId) (size : Nat) (v : Value) (n : Nat) (xs : List Value) : Prop :=
  xs.length = n * size ∧ ((v = .slice none 0 0 ∧ n = 0) ∨
    ∃ g cap cur, v = .slice (some ⟨g, 0, none⟩) n cap ∧ lo ≤ g ∧ Blk w g cur e ∧ n ≤ cap ∧ cap ≤ maxLen ∧ cap * size ≤ cur.size ∧ cur.toList.take (n * size) = xs)
section
variable {w : World} {lo : Nat} {e : TypeId} {size : Nat} {v : Value} {n : Nat} {xs : List Value}
theorem Row.nil (w : World) (lo : Nat) (e : TypeId) (size : Nat) : Row w lo e size (.slice none 0 0) 0 [] := ⟨by simp, .inl ⟨rfl, rfl⟩⟩
theorem Row.down {lo' : Nat} (h : Row w lo e size v n xs) (hl : lo' ≤ lo) : Row w lo' e size v n xs := by
  refine ⟨h.1, ?_⟩
  rcases h.2 with h | ⟨g, cap, cur, h1, h2, h3⟩
  · exact .inl h
  · exact .inr ⟨g, cap, cur, h1, by omega, h3⟩
/-- The block that v lies in is as it was. -/
theorem Row.same {w' : World} (h : Row w lo e size v n xs) (hb : ∀ g, v.ownBlock = some g → w'.heap[g]? = w.heap[g]?) : Row w' lo e size v n xs := by
  refine ⟨h.1, ?_⟩
  rcases h.2 with h | ⟨g, cap, cur, h1, h2, h3, h4⟩
  · exact .inl h
  · exact .inr ⟨g, cap, cur, h1, h2, (hb g (by subst h1; rfl)).trans h3, h4⟩
theorem Row.lt (h : Row w lo e size v n xs) : ∀ g, v.ownBlock = some g → lo ≤ g ∧ g < w.heap.size := by
  intro k hk
  rcases h.2 with ⟨rfl, _⟩ | ⟨g, cap, cur, rfl, h2, h3, _⟩
  · cases hk
  · cases hk; exact ⟨h2, h3.lt⟩
theorem Row.below {w' : World} {B : Nat} (h : Row w lo e size v n xs) (hb : Below B w w') (hB : ∀ g, v.ownBlock = some g → g < B) : Row w' lo e size v n xs := h.same fun g hg => hb.block g (hB g hg)
theorem Row.grow {w' : World} (h : Row w lo e size v n xs) (hb : Below w.heap.size w w') : Row w' lo e size v n xs := h.below hb fun g hg => (h.lt g hg).2
theorem Row.other (h : Row w lo e size v n xs) (a : Addr) (u : Value) (hn : ∀ g, v.ownBlock = some g → g ≠ a.block) : Row (w.setCell a u) lo e size v n xs := h.same fun g hg => heap_setCell_other w a g u (hn g hg)
theorem Row.typed {g : Nat} {cs : Array Value} {t : TypeId} (h : Row w lo e size v n xs) (hb : Blk w g cs t) (ht : t ≠ e) : ∀ k, v.ownBlock = some k → k ≠ g := by
  intro k hk hkg
  subst hkg
  rcases h.2 with ⟨rfl, _⟩ | ⟨g, cap, cur, rfl, h2, h3, _⟩
  · cases hk
  · cases hk
    have := h3.symm.trans hb
    simp at this
    exact ht this.2.symm
theorem Row.grown {w' : World} {row : Option Nat} (h : Row w lo e size v n xs) (hg : w.grownBy w' row) (hn : ∀ g, v.ownBlock = some g → some g ≠ row) : Row w' lo e size v n xs :=
  h.same fun g h1 => hg.block g (h.lt g h1).2 (hn g h1)
theorem Blk.grown {w w' : World} {row : Option Nat} {g : Nat} {cs : Array Value} {t : TypeId} (h : Blk w g cs t) (hg : w.grownBy w' row) (hn : some g ≠ row) : Blk w' g cs t := (hg.block g h.lt hn).trans h
theorem Below.grown {w w1 w2 : World} {row : Option Nat} {B : Nat} (h : Below B w w1) (hB : B ≤ w1.heap.size) (hg : w1.grownBy w2 row) (hr : ∀ g, row = some g → B ≤ g) : Below B w w2 :=
  h.trans ⟨hg.os, hg.tape, hg.output, hg.size, fun k hk => hg.block k (by omega) (fun e => by have := hr k e.symm; omega)⟩
theorem Row.len (h : Row w lo e size v n xs) : ∃ b cap, v = .slice b n cap := by
  rcases h.2 with ⟨rfl, rfl⟩ | ⟨g, cap, cur, rfl, _⟩
  · exact ⟨_, _, rfl⟩
  · exact ⟨_, _, rfl⟩
theorem Row.cells (h : Row w lo e size v n xs) (hn : 0 < n) : ∃ g cap, v = .slice (some ⟨g, 0, none⟩) n cap ∧ lo ≤ g ∧ g < w.heap.size ∧ ∀ i, i < n * size → w.cell? ⟨g, i, none⟩ = xs[i]? := by
  rcases h.2 with ⟨_, rfl⟩ | ⟨g, cap, cur, rfl, h2, h3, h4, h5, h6, h7⟩
  · omega
  · refine ⟨g, cap, rfl, h2, h3.lt, fun i hi => ?_⟩
    rw [h3.cell, ← h7, List.getElem?_take, if_pos hi]
    simp
end
section
variable {P : Program} (w : World)
theorem run_append_Row (lo : Nat) (t ty e : TypeId) (i : TypeInfo) (z : Value) (size bytes : Nat) (ht : P.underlying t = some (.slice e)) (hi : P.info? e = some i) (hz : i.zero = some z)
    (hsize : i.size = size) (hby : i.bytes = bytes) (hzs : z.cells.size = size)
    (v : Value) (n : Nat) (xs : List Value) (hown : Row w lo e size v n xs)
    (a : Addr) (m c : Nat) (news : List Value) (hm : 0 < m) (hl : news.length = m * size) (hnews : ∀ j u, news[j]? = some u → w.cell? (a.add j) = some u) (h1 : ∀ u ∈ news, u.oneCell' = true)
    (h63 : n + m ≤ maxLen) (hbytes : (n + m) * bytes ≤ 140737488355328) (hbase : lo ≤ w.heap.size) :
    ∃ v' w', (Builtin.append_ #[t, t] ty #[v, .slice (some a) m c]).run P w = .ok v' w' ∧ Row w' lo e size v' (n + m) (xs ++ news) ∧ w.grownBy w' v.ownBlock ∧
      (v'.ownBlock = v.ownBlock ∨ v'.ownBlock = some w.heap.size) := by
  subst hsize
  subst hby
  have hlen : (xs ++ news).length = (n + m) * i.size := by rw [List.length_append, hown.1, hl, Nat.add_mul]
  have grown : ∀ (old : Nat), old < n + m → ∀ (row : Option Nat),
      Row (w.drew.alloc (.cells (xs.toArray ++ news.toArray ++ Builtin.zeroCells z.cells (grownCap w (n + m) old e - (n + m))) e)) lo e i.size
        (.slice (some ⟨w.heap.size, 0, none⟩) (n + m) (grownCap w (n + m) old e)) (n + m) (xs ++ news) ∧
      w.grownBy (w.drew.alloc (.cells (xs.toArray ++ news.toArray ++ Builtin.zeroCells z.cells (grownCap w (n + m) old e - (n + m))) e)) row := by
    intro old ho row
    have hge := grownCap_ge w (n + m) old e
    have hcm : grownCap w (n + m) old e ≤ maxLen := grownCap_le_maxLen w (n + m) old e h63
    refine ⟨⟨hlen, .inr ⟨w.heap.size, _, _, rfl, hbase, heap_alloc_new w.drew _, hge, hcm, ?_, ?_⟩⟩, ⟨rfl, rfl, rfl, by simp, fun k hk _ => Below.heap_alloc w.drew _ k hk⟩⟩
    · simp only [Array.size_append, List.size_toArray, size_zeroCells, hzs, hown.1, hl, ← Nat.add_mul]
      apply Nat.mul_le_mul_right
      omega
    · simp only [Array.toList_append, List.append_assoc]
      rw [← List.append_assoc, ← hlen]
      exact List.take_left
  rcases hown.2 with ⟨rfl, rfl⟩ | ⟨g, cap, cur, rfl, hbg, hg, hnc, hcm, hcs, htake⟩
  · have hx : xs = [] := List.eq_nil_of_length_eq_zero (by simpa using hown.1)
    subst hx
    have hr := run_append_nil (P := P) w t ty e i z ht hi hz a m c news hl hnews (by omega) (by simp only [maxLen] at h63; omega) (by have hb := hbytes; simp only [Nat.zero_add] at hb; omega)
    have hgr := grown 0 (by omega) (Value.ownBlock (.slice none 0 0))
    simp only [Nat.zero_add, List.nil_append, Array.empty_append] at hgr ⊢
    exact ⟨_, _, hr, hgr.1, hgr.2, Or.inr rfl⟩
  · by_cases hroom : n + m ≤ cap
    · have hfit : n * i.size + news.length ≤ cur.size := by rw [hl, ← Nat.add_mul]; exact Nat.le_trans (Nat.mul_le_mul_right _ hroom) hcs
      have hr := run_append_room (P := P) w t ty e i ht hi g n cap cur hg a m c news hl hnews h1 hroom hfit
      refine ⟨_, _, hr, ⟨hlen, .inr ⟨g, cap, _, rfl, hbg, setRow_heap w g cur _ e _ hg, hroom, hcm, ?_, ?_⟩⟩, ⟨rfl, rfl, rfl, by simp, fun k _ hk => setRow_other w g k _ (fun e => hk (by simp [Value.ownBlock, e]))⟩, Or.inl rfl⟩
      · simp only [List.size_toArray, List.length_append, List.length_take, List.length_drop, Array.length_toList]
        omega
      · rw [htake, ← hlen]
        exact List.take_left
    · have holds : ∀ j u, xs[j]? = some u → w.cell? ((⟨g, 0, none⟩ : Addr).add j) = some u := by
        intro j u hu
        have hadd : (⟨g, 0, none⟩ : Addr).add j = ⟨g, j, none⟩ := by unfold Addr.add; split <;> simp_all
        rw [hadd, Blk.cell hg]
        rw [← htake, List.getElem?_take] at hu
        split at hu
        · simpa using hu
        · cases hu
      have hr := run_append_grow (P := P) w t ty e i z ht hi hz ⟨g, 0, none⟩ n cap xs hown.1 holds a m c news hl hnews (by omega) (by simp only [maxLen] at h63; omega) (growslice_fits (by omega) hbytes)
      have hgr := grown cap (by omega) (Value.ownBlock (.slice (some ⟨g, 0, none⟩) n cap))
      exact ⟨_, _, hr, hgr.1, hgr.2, Or.inr rfl⟩
theorem wpList_append_Row {ops : Array Oper} {rest : List Oper} {o : Oper} {a : Act} {Q : Exit → Act → World → Prop} (hgd : o.guard = none) (s x : Operand) (t : TypeId)
    (ho : o.op = .call { callee := .builtin .append, args := #[s, x], argTypes := #[t, t] })
    (lo : Nat) (e : TypeId) (i : TypeInfo) (z : Value) (size bytes : Nat) (ht : P.underlying t = some (.slice e)) (hi : P.info? e = some i) (hz : i.zero = some z)
    (hsize : i.size = size) (hby : i.bytes = bytes) (hzs : z.cells.size = size)
    (v : Value) (n : Nat) (xs : List Value) (hs : a.eval s = v) (hown : Row w lo e size v n xs)
    (ad : Addr) (m c : Nat) (news : List Value) (hx : a.eval x = .slice (some ad) m c) (hm : 0 < m) (hl : news.length = m * size) (hnews : ∀ j u, news[j]? = some u → w.cell? (ad.add j) = some u) (h1 : ∀ u ∈ news, u.oneCell' = true)
    (h63 : n + m ≤ maxLen) (hbytes : (n + m) * bytes ≤ 140737488355328) (hbase : lo ≤ w.heap.size)
    (h : ∀ v' w', Row w' lo e size v' (n + m) (xs ++ news) → w.grownBy w' v.ownBlock → (v'.ownBlock = v.ownBlock ∨ v'.ownBlock = some w.heap.size) → wpList P ops Q rest (a.put o.dst v') w') :
    wpList P ops Q (o :: rest) a w := by
  refine wpList_plain hgd fun K hK => ?_
  obtain ⟨v', w', hr, h2, h3, h5⟩ := run_append_Row (P := P) w lo t o.type e i z size bytes ht hi hz hsize hby hzs v n xs hown ad m c news hm hl hnews h1 h63 hbytes hbase
  unfold Oper.wp execOp
  simp only [ho, resolve, invoke, builtin, Sem.run_bind, Sem.run_pure, Result.andThen_ok, List.map_toArray, List.map_cons, List.map_nil, hs, hx, hr]
  exact hK _ _ (h v' w' h2 h3 h5)
/-- 'append(nil, x...)': a copy of its own; nil if x is empty. -/
theorem wpList_append_copy {ops : Array Oper} {rest : List Oper} {o : Oper} {a : Act} {Q : Exit → Act → World → Prop} (hgd : o.guard = none) (s x : Operand) (t : TypeId)
    (ho : o.op = .call { callee := .builtin .append, args := #[s, x], argTypes := #[t, t] })
    (lo : Nat) (e : TypeId) (i : TypeInfo) (z : Value) (size bytes : Nat) (ht : P.underlying t = some (.slice e)) (hi : P.info? e = some i) (hz : i.zero = some z)
    (hsize : i.size = size) (hby : i.bytes = bytes) (hzs : z.cells.size = size)
    (hs : a.eval s = .slice none 0 0)
    (ad : Addr) (m c : Nat) (news : List Value) (hx : a.eval x = .slice (some ad) m c) (hl : news.length = m * size) (hnews : ∀ j u, news[j]? = some u → w.cell? (ad.add j) = some u) (h1 : ∀ u ∈ news, u.oneCell' = true)
    (h63 : m ≤ maxLen) (hbytes : m * bytes ≤ 140737488355328) (hbase : lo ≤ w.heap.size)
    (h : ∀ v' w', Row w' lo e size v' m news → w.grownBy w' none → (v'.ownBlock = none ∨ v'.ownBlock = some w.heap.size) → wpList P ops Q rest (a.put o.dst v') w') :
    wpList P ops Q (o :: rest) a w := by
  by_cases hm : m = 0
  · refine wpList_plain hgd fun K hK => ?_
    subst hm
    have hr : (Builtin.append_ #[t, t] o.type #[.slice none 0 0, .slice (some ad) 0 c]).run P w = .ok (.slice none 0 0) w := by
      simp [Builtin.append_, run_underlying ht, sizeOf, typeInfo, hi, Builtin.lenOf, Builtin.firstCells, loadCells, loadCellsFrom]
    obtain rfl : news = [] := List.eq_nil_of_length_eq_zero (by simpa using hl)
    unfold Oper.wp execOp
    simp only [ho, resolve, invoke, builtin, Sem.run_bind, Sem.run_pure, Result.andThen_ok, List.map_toArray, List.map_cons, List.map_nil, hs, hx, hr]
    exact hK _ _ (h _ _ (Row.nil _ _ _ _) ⟨rfl, rfl, rfl, Nat.le_refl _, fun _ _ _ => rfl⟩ (.inl rfl))
  · refine wpList_append_Row w hgd s x t ho lo e i z size bytes ht hi hz hsize hby hzs (.slice none 0 0) 0 [] hs (Row.nil _ _ _ _) ad m c news hx (by omega) hl hnews h1 (by omega) (by rw [Nat.zero_add]; exact hbytes) hbase ?_
    intro v' w' hR hg hat
    rw [Nat.zero_add] at hR
    exact h v' w' hR hg hat
end
theorem results_row_tmp {P : Program} {fn : Func} {p u : Tmp} {ty : TypeId} (h : fn.results = #[.cell p ty, .tmp u]) (tmps : Array Value) (w : World) (g : Nat) (t : TypeId) (cs : Array Value) (d : TypeDesc)
    (hp : tmps.getD p undef = .pointer (some ⟨g, 0, none⟩)) (hg : Blk w g cs t) (hu : P.underlying ty = some d) (hd : (match d with | .struct _ | .array _ _ => true | _ => false) = true) (hi : (P.info? ty).map (·.size) = some cs.size) :
    (results fn tmps).run P w = .ok (.tuple #[.agg cs, tmps.getD u undef]) w := by
  rw [results_cell_tmp h, hp]
  simp [asAddr, run_loadVar_row w g t ty cs (0, 0) d hg hu hd hi]
theorem Below.drewN' {B : Nat} {a w : World} (h : Below B a w) (n : Nat) : Below B a (w.drewN n) := ⟨h.os, h.tape, h.output, h.size, h.block⟩
theorem Blk.cells {w : World} {g : Nat} {cs : List Value} {t : TypeId} (h : Blk w g cs.toArray t) : ∀ j u, cs[j]? = some u → w.cell? ((⟨g, 0, none⟩ : Addr).add j) = some u := by
  intro j u hj
  have e : (⟨g, 0, none⟩ : Addr).add j = ⟨g, j, none⟩ := by unfold Addr.add; split <;> simp_all
  rw [e, h.cell]
  simpa using hj
theorem Blk.one {w : World} {g : Nat} {x : Value} {t : TypeId} (h : Blk w g #[x] t) : ∀ j u, [x][j]? = some u → w.cell? ((⟨g, 0, none⟩ : Addr).add j) = some u := by
  intro j u hj
  match j, hj with
  | 0, hj =>
    simp at hj
    subst hj
    simp [Addr.add, h.cell]
end Go.Proofs.Ytgmhhocpdfdplaa
/- append of any number of elements, none too, to a slice over a block of its own. No Go text. -/
namespace Go.Proofs.Ytgmhhocpdfdplaa
open Go.RowKit
section
variable {P : Program} (w : World)
theorem run_append_none (t ty e : TypeId) (i : TypeInfo) (ht : P.underlying t = some (.slice e)) (hi : P.info? e = some i) (g : Option Addr) (n cap : Nat) (hc : n ≤ cap) (a : Option Addr) (c : Nat) :
    (Builtin.append_ #[t, t] ty #[.slice g n cap, .slice a 0 c]).run P w = .ok (.slice g n cap) w := by
  cases g <;> cases a <;> simp [Builtin.append_, run_underlying ht, sizeOf, typeInfo, hi, Builtin.lenOf, Builtin.firstCells, loadCells, loadCellsFrom, storeCells, hc]
theorem wpList_append_any {ops : Array Oper} {rest : List Oper} {o : Oper} {a : Act} {Q : Exit → Act → World → Prop} (hgd : o.guard = none) (s x : Operand) (t : TypeId)
    (ho : o.op = .call { callee := .builtin .append, args := #[s, x], argTypes := #[t, t] })
    (lo : Nat) (e : TypeId) (i : TypeInfo) (z : Value) (size bytes : Nat) (ht : P.underlying t = some (.slice e)) (hi : P.info? e = some i) (hz : i.zero = some z)
    (hsize : i.size = size) (hby : i.bytes = bytes) (hzs : z.cells.size = size)
    (v : Value) (n : Nat) (xs : List Value) (hs : a.eval s = v) (hown : Row w lo e size v n xs)
    (ad : Addr) (m c : Nat) (news : List Value) (hx : a.eval x = .slice (some ad) m c) (hl : news.length = m * size) (hnews : ∀ j u, news[j]? = some u → w.cell? (ad.add j) = some u) (h1 : ∀ u ∈ news, u.oneCell' = true)
    (h63 : n + m ≤ maxLen) (hbytes : (n + m) * bytes ≤ 140737488355328) (hbase : lo ≤ w.heap.size)
    (h : ∀ v' w', Row w' lo e size v' (n + m) (xs ++ news) → w.grownBy w' v.ownBlock → (v'.ownBlock = v.ownBlock ∨ v'.ownBlock = some w.heap.size) → wpList P ops Q rest (a.put o.dst v') w') :
    wpList P ops Q (o :: rest) a w := by
  by_cases hm : 0 < m
  · exact wpList_append_Row w hgd s x t ho lo e i z size bytes ht hi hz hsize hby hzs v n xs hs hown ad m c news hx hm hl hnews h1 h63 hbytes hbase h
  · obtain rfl : m = 0 := by omega
    obtain rfl : news = [] := List.eq_nil_of_length_eq_zero (by simpa using hl)
    obtain ⟨b, cap, rfl⟩ := hown.len
    have hc : n ≤ cap := by
      rcases hown.2 with ⟨h1, h2⟩ | ⟨g, cap', cur, h1, h2, h3, h4, _⟩
      · omega
      · cases h1; exact h4
    refine wpList_plain hgd fun K hK => ?_
    have hr := run_append_none w (P := P) t o.type e i ht hi b n cap hc (some ad) c
    unfold Oper.wp execOp
    simp only [ho, resolve, invoke, builtin, Sem.run_bind, Sem.run_pure, Result.andThen_ok, List.map_toArray, List.map_cons, List.map_nil, hs, hx, hr]
    exact hK _ _ (h _ _ (by simpa using hown) ⟨rfl, rfl, rfl, Nat.le_refl _, fun _ _ _ => rfl⟩ (.inl rfl))
end
/-- An empty block at the heap's end, as a slice of nothing. -/
theorem Row.empty {w : World} {N lo : Nat} {e : TypeId} {size : Nat} (h : Blk w N #[] e) (hl : lo ≤ N) : Row w lo e size (.slice (some ⟨N, 0, none⟩) 0 0) 0 [] :=
  ⟨by simp, .inr ⟨N, 0, #[], rfl, hl, h, Nat.le_refl _, Nat.zero_le _, by simp, by simp⟩⟩
end Go.Proofs.Ytgmhhocpdfdplaa
/- A slice of whole elements, wherever in its block it begins: reading; copying by append. No Go text. -/
namespace Go.Proofs.Ytgmhhocpdfdplaa
open Go.RowKit
/-- The slice value v of n elements (size cells each, element type e) has the cells xs, from off on in its block; nil if there are none. -/
def View (w : World) (e : TypeId) (size : Nat) (v : Value) (n : Nat) (xs : List Value) : Prop :=
  xs.length = n * size ∧ ((v = .slice none 0 0 ∧ n = 0) ∨
    ∃ g off cap cur, v = .slice (some ⟨g, off, none⟩) n cap ∧ n ≤ cap ∧ cap ≤ maxLen ∧ Blk w g cur e ∧ ∀ i, i < n * size → cur[off + i]? = xs[i]?)
section
variable {w : World} {lo : Nat} {e : TypeId} {size : Nat} {v : Value} {n : Nat} {xs : List Value}
theorem Row.relo {lo' : Nat} (h : Row w lo e size v n xs) (hl : ∀ g, v.ownBlock = some g → lo' ≤ g) : Row w lo' e size v n xs := by
  refine ⟨h.1, ?_⟩
  rcases h.2 with h | ⟨g, cap, cur, h1, h2, h3⟩
  · exact .inl h
  · exact .inr ⟨g, cap, cur, h1, hl g (by rw [h1]; rfl), h3⟩
theorem View.nil (w : World) (e : TypeId) (size : Nat) : View w e size (.slice none 0 0) 0 [] := ⟨by simp, .inl ⟨rfl, rfl⟩⟩
theorem Row.view (h : Row w lo e size v n xs) : View w e size v n xs := by
  refine ⟨h.1, ?_⟩
  rcases h.2 with h | ⟨g, cap, cur, h1, h2, h3, h4, h5, h6, h7⟩
  · exact .inl h
  · refine .inr ⟨g, 0, cap, cur, h1, h4, h5, h3, fun i hi => ?_⟩
    rw [← h7, List.getElem?_take, if_pos hi]
    simp
theorem View.len (h : View w e size v n xs) : ∃ b cap, v = .slice b n cap ∧ n ≤ cap ∧ cap ≤ maxLen := by
  rcases h.2 with ⟨rfl, rfl⟩ | ⟨g, off, cap, cur, rfl, h2, h3, _⟩
  · exact ⟨_, _, rfl, Nat.le_refl _, Nat.zero_le _⟩
  · exact ⟨_, _, rfl, h2, h3⟩
theorem View.same {w' : World} (h : View w e size v n xs) (hb : ∀ g, v.ownBlock = some g → w'.heap[g]? = w.heap[g]?) : View w' e size v n xs := by
  refine ⟨h.1, ?_⟩
  rcases h.2 with h | ⟨g, off, cap, cur, h1, h2, h3, h4, h5⟩
  · exact .inl h
  · exact .inr ⟨g, off, cap, cur, h1, h2, h3, (hb g (by subst h1; rfl)).trans h4, h5⟩
theorem View.lt (h : View w e size v n xs) : ∀ g, v.ownBlock = some g → g < w.heap.size := by
  intro k hk
  rcases h.2 with ⟨rfl, _⟩ | ⟨g, off, cap, cur, rfl, _, _, h3, _⟩
  · cases hk
  · cases hk; exact h3.lt
theorem View.below {w' : World} {B : Nat} (h : View w e size v n xs) (hb : Below B w w') (hB : ∀ g, v.ownBlock = some g → g < B) : View w' e size v n xs := h.same fun g hg => hb.block g (hB g hg)
theorem View.grow {w' : World} (h : View w e size v n xs) (hb : Below w.heap.size w w') : View w' e size v n xs := h.below hb h.lt
theorem View.other (h : View w e size v n xs) (a : Addr) (u : Value) (hn : ∀ g, v.ownBlock = some g → g ≠ a.block) : View (w.setCell a u) e size v n xs := h.same fun g hg => heap_setCell_other w a g u (hn g hg)
theorem View.rowOther (h : View w e size v n xs) (k : Nat) (ds : Array Value) (hn : ∀ g, v.ownBlock = some g → g ≠ k) : View (w.setRow k ds) e size v n xs := h.same fun g hg => setRow_other w k g ds (hn g hg)
theorem View.typed {g : Nat} {cs : Array Value} {t : TypeId} (h : View w e size v n xs) (hb : Blk w g cs t) (ht : t ≠ e) : ∀ k, v.ownBlock = some k → k ≠ g := by
  intro k hk hkg
  subst hkg
  rcases h.2 with ⟨rfl, _⟩ | ⟨g, off, cap, cur, rfl, _, _, h3, _⟩
  · cases hk
  · cases hk
    have := h3.symm.trans hb
    simp at this
    exact ht this.2.symm
theorem View.cells (h : View w e size v n xs) (hn : 0 < n) : ∃ g off cap, v = .slice (some ⟨g, off, none⟩) n cap ∧ n ≤ cap ∧ cap ≤ maxLen ∧ g < w.heap.size ∧ ∀ i, i < n * size → w.cell? ⟨g, off + i, none⟩ = xs[i]? := by
  rcases h.2 with ⟨_, rfl⟩ | ⟨g, off, cap, cur, rfl, h2, h3, h4, h5⟩
  · omega
  · exact ⟨g, off, cap, rfl, h2, h3, h4.lt, fun i hi => by rw [h4.cell]; exact h5 i hi⟩
/-- The slice without its first element. -/
theorem View.tail {g off cap : Nat} {xs ys : List Value} (h : View w e size (.slice (some ⟨g, off, none⟩) (n + 1) cap) (n + 1) (xs ++ ys)) (hx : xs.length = size) (off' : Nat) (ho : n = 0 ∨ off' = off + size) :
    View w e size (.slice (some ⟨g, off', none⟩) n (cap - 1)) n ys := by
  have h0 := h.1
  rw [List.length_append, hx, Nat.add_mul] at h0
  refine ⟨by omega, ?_⟩
  rcases h.2 with ⟨h1, _⟩ | ⟨g, off, cap, cur, h1, h2, h3, h4, h5⟩
  · cases h1
  · cases h1
    refine .inr ⟨g, off', cap - 1, cur, rfl, by omega, by omega, h4, fun i hi => ?_⟩
    rcases ho with rfl | rfl
    · omega
    · rw [Nat.add_assoc, h5 (size + i) (by rw [Nat.add_mul]; omega), List.getElem?_append_right (by omega)]
      congr 1
      omega
end
section
variable {P : Program} (w : World)
/-- 'append(nil, x...)', x anywhere: a copy of its own. -/
theorem wpList_append_view {ops : Array Oper} {rest : List Oper} {o : Oper} {a : Act} {Q : Exit → Act → World → Prop} (hgd : o.guard = none) (s x : Operand) (t : TypeId)
    (ho : o.op = .call { callee := .builtin .append, args := #[s, x], argTypes := #[t, t] })
    (lo : Nat) (e : TypeId) (i : TypeInfo) (z : Value) (size bytes : Nat) (ht : P.underlying t = some (.slice e)) (hi : P.info? e = some i) (hz : i.zero = some z)
    (hsize : i.size = size) (hby : i.bytes = bytes) (hzs : z.cells.size = size)
    (v : Value) (n : Nat) (xs : List Value) (hs : a.eval s = v) (hown : Row w lo e size v n xs)
    (u : Value) (m : Nat) (news : List Value) (hx : a.eval x = u) (hv : View w e size u m news) (h1 : ∀ u ∈ news, u.oneCell' = true)
    (h63 : n + m ≤ maxLen) (hbytes : (n + m) * bytes ≤ 140737488355328) (hbase : lo ≤ w.heap.size)
    (h : ∀ v' w', Row w' lo e size v' (n + m) (xs ++ news) → w.grownBy w' v.ownBlock → (v'.ownBlock = v.ownBlock ∨ v'.ownBlock = some w.heap.size) → wpList P ops Q rest (a.put o.dst v') w') :
    wpList P ops Q (o :: rest) a w := by
  have hl := hv.1
  rcases hv.2 with ⟨rfl, rfl⟩ | ⟨g, off, cap, cur, rfl, h2, h3, h4, h5⟩
  · obtain rfl : news = [] := List.eq_nil_of_length_eq_zero (by simpa using hl)
    obtain ⟨b, cp, rfl⟩ := hown.len
    have hc : n ≤ cp := by
      rcases hown.2 with ⟨h1, h2⟩ | ⟨g, cap', cur, h1, h2, h3, h4, _⟩
      · omega
      · cases h1; exact h4
    refine wpList_plain hgd fun K hK => ?_
    have hr := run_append_none w (P := P) t o.type e i ht hi b n cp hc none 0
    unfold Oper.wp execOp
    simp only [ho, resolve, invoke, builtin, Sem.run_bind, Sem.run_pure, Result.andThen_ok, List.map_toArray, List.map_cons, List.map_nil, hs, hx, hr]
    exact hK _ _ (h _ _ (by simpa using hown) ⟨rfl, rfl, rfl, Nat.le_refl _, fun _ _ _ => rfl⟩ (.inl rfl))
  · refine wpList_append_any w hgd s x t ho lo e i z size bytes ht hi hz hsize hby hzs v n xs hs hown ⟨g, off, none⟩ m cap news hx hl (fun j u hj => ?_) h1 h63 hbytes hbase h
    have hjl : j < news.length := (List.getElem?_eq_some_iff.1 hj).1
    have e : (⟨g, off, none⟩ : Addr).add j = ⟨g, off + j, none⟩ := by unfold Addr.add; split <;> simp_all
    rw [e, h4.cell, h5 j (by omega), hj]
end
end Go.Proofs.Ytgmhhocpdfdplaa
/- A slice whose cells are known, wherever they lie: reading, keeping, cutting, copying. No Go text. -/
namespace Go.Proofs.Ytgmhhocpdfdplaa
open Go.RowKit
/-- The slice value u of n elements (size cells each) has the cells xs. -/
def Ar (w : World) (size : Nat) (u : Value) (n : Nat) (xs : List Value) : Prop :=
  xs.length = n * size ∧ ((u = .slice none 0 0 ∧ n = 0) ∨ ∃ (a : Addr) (cap : Nat), u = .slice (some a) n cap ∧ n ≤ cap ∧ cap ≤ maxLen ∧ ∀ j v, xs[j]? = some v → w.cell? (a.add j) = some v)
section
variable {w : World} {size : Nat} {u : Value} {n : Nat} {xs : List Value}
theorem Ar.nil (w : World) (size : Nat) : Ar w size (.slice none 0 0) 0 [] := ⟨by simp, .inl ⟨rfl, rfl⟩⟩
theorem Ar.len (h : Ar w size u n xs) : ∃ b cap, u = .slice b n cap ∧ n ≤ cap ∧ cap ≤ maxLen := by
  rcases h.2 with ⟨rfl, rfl⟩ | ⟨a, cap, rfl, h1, h2, _⟩
  · exact ⟨_, _, rfl, Nat.le_refl _, Nat.zero_le _⟩
  · exact ⟨_, _, rfl, h1, h2⟩
theorem Ar.below {w' : World} (h : Ar w size u n xs) (hb : Below w.heap.size w w') : Ar w' size u n xs := by
  refine ⟨h.1, ?_⟩
  rcases h.2 with h0 | ⟨a, cap, rfl, h1, h2, hc⟩
  · exact .inl h0
  · exact .inr ⟨a, cap, rfl, h1, h2, fun j v hj => (hb.cell (p := a.add j) (World.block_lt_of_cell? w _ (hc j v hj))).trans (hc j v hj)⟩
theorem View.ar {e : TypeId} (h : View w e size u n xs) : Ar w size u n xs := by
  refine ⟨h.1, ?_⟩
  rcases h.2 with h0 | ⟨g, off, cap, cur, rfl, h1, h2, h3, h4⟩
  · exact .inl h0
  · refine .inr ⟨_, cap, rfl, h1, h2, fun j v hj => ?_⟩
    have hjl : j < xs.length := (List.getElem?_eq_some_iff.1 hj).1
    have e : (⟨g, off, none⟩ : Addr).add j = ⟨g, off + j, none⟩ := by unfold Addr.add; split <;> simp_all
    rw [e, h3.cell, h4 j (by rw [← h.1]; exact hjl), hj]
theorem Row.ar {lo : Nat} {e : TypeId} (h : Row w lo e size u n xs) : Ar w size u n xs := h.view.ar
theorem Elems.ar {cells : List (List Value)} (h : Elems w size u cells) : Ar w size u cells.length cells.flatten := by
  have hl : ∀ l : List (List Value), (∀ c ∈ l, c.length = size) → l.flatten.length = l.length * size := by
    intro l
    induction l with
    | nil => intro _; simp
    | cons c l ih => intro h; rw [List.flatten_cons, List.length_append, ih (fun c hc => h c (by simp [hc])), h c (by simp), List.length_cons, Nat.add_mul]; omega
  refine ⟨hl _ h.2.1, ?_⟩
  rcases h.2.2 with ⟨h0, h1⟩ | ⟨a, cap, rfl, h1, h2, hc⟩
  · exact .inl ⟨h0, by simp [h1]⟩
  · refine .inr ⟨a, cap, rfl, h1, h2, fun j v hj => ?_⟩
    have key : ∀ (l : List (List Value)) (j : Nat) (v : Value), (∀ c ∈ l, c.length = size) → l.flatten[j]? = some v → ∃ i k, i < l.length ∧ k < size ∧ j = i * size + k ∧ (l.getD i [])[k]? = some v := by
      intro l
      induction l with
      | nil => intro j v _ h; simp at h
      | cons c l ih =>
        intro j v hcl h
        have hc0 : c.length = size := hcl c (by simp)
        by_cases hj : j < size
        · rw [List.flatten_cons, List.getElem?_append_left (by omega)] at h
          exact ⟨0, j, by simp, hj, by simp, by simpa using h⟩
        · rw [List.flatten_cons, List.getElem?_append_right (by omega), hc0] at h
          obtain ⟨i, k, hi, hk, he, hv⟩ := ih _ v (fun c hc => hcl c (by simp [hc])) h
          exact ⟨i + 1, k, by simpa using hi, hk, by rw [Nat.add_mul]; omega, by simpa using hv⟩
    obtain ⟨i, k, hi, hk, rfl, hv⟩ := key cells j v h.2.1 hj
    rw [hc i hi k hk, hv]
/-- A part of the slice. -/
theorem Ar.sub {a : Addr} {cap : Nat} (h : Ar w size (.slice (some a) n cap) n xs) (i m cap' : Nat) (ys : List Value) (hm : m ≤ cap') (hcm : cap' ≤ maxLen) (hl : ys.length = m * size) (hys : ∀ j v, ys[j]? = some v → xs[i * size + j]? = some v) (a' : Addr) (ha : m = 0 ∨ a' = a.add (i * size)) : Ar w size (.slice (some a') m cap') m ys := by
  refine ⟨hl, ?_⟩
  rcases h.2 with ⟨h0, _⟩ | ⟨a2, cap2, h0, h1, h2, hc⟩
  · cases h0
  · cases h0
    refine .inr ⟨a', cap', rfl, hm, hcm, fun j v hj => ?_⟩
    rcases ha with rfl | rfl
    · have hjl : j < ys.length := (List.getElem?_eq_some_iff.1 hj).1
      omega
    · rw [Go.Deep.add_add]
      exact hc _ _ (hys j v hj)
theorem Ar.cell {a : Addr} {cap : Nat} (h : Ar w size (.slice (some a) n cap) n xs) {j : Nat} {v : Value} (hj : xs[j]? = some v) : w.cell? (a.add j) = some v := by
  rcases h.2 with ⟨h0, _⟩ | ⟨a2, cap2, h0, _, _, hc⟩
  · cases h0
  · cases h0; exact hc j v hj
theorem Ar.some (h : Ar w size u n xs) (hn : 0 < n) : ∃ a cap, u = .slice (some a) n cap ∧ n ≤ cap ∧ cap ≤ maxLen := by
  rcases h.2 with ⟨_, h0⟩ | ⟨a, cap, rfl, h1, h2, _⟩
  · omega
  · exact ⟨a, cap, rfl, h1, h2⟩
end
section
variable {P : Program} (w : World)
/-- 'append(row, x...)', x anywhere. -/
theorem wpList_append_ar {ops : Array Oper} {rest : List Oper} {o : Oper} {a : Act} {Q : Exit → Act → World → Prop} (hgd : o.guard = none) (s x : Operand) (t : TypeId)
    (ho : o.op = .call { callee := .builtin .append, args := #[s, x], argTypes := #[t, t] })
    (lo : Nat) (e : TypeId) (i : TypeInfo) (z : Value) (size bytes : Nat) (ht : P.underlying t = some (.slice e)) (hi : P.info? e = some i) (hz : i.zero = some z)
    (hsize : i.size = size) (hby : i.bytes = bytes) (hzs : z.cells.size = size)
    (v : Value) (n : Nat) (xs : List Value) (hs : a.eval s = v) (hown : Row w lo e size v n xs)
    (u : Value) (m : Nat) (news : List Value) (hx : a.eval x = u) (hv : Ar w size u m news) (h1 : ∀ u ∈ news, u.oneCell' = true)
    (h63 : n + m ≤ maxLen) (hbytes : (n + m) * bytes ≤ 140737488355328) (hbase : lo ≤ w.heap.size)
    (h : ∀ v' w', Row w' lo e size v' (n + m) (xs ++ news) → w.grownBy w' v.ownBlock → (v'.ownBlock = v.ownBlock ∨ v'.ownBlock = some w.heap.size) → wpList P ops Q rest (a.put o.dst v') w') :
    wpList P ops Q (o :: rest) a w := by
  have hl := hv.1
  rcases hv.2 with ⟨rfl, rfl⟩ | ⟨ad, cap, rfl, h2, h3, h4⟩
  · exact wpList_append_view w hgd s x t ho lo e i z size bytes ht hi hz hsize hby hzs v n xs hs hown (.slice none 0 0) 0 news hx ⟨hl, .inl ⟨rfl, rfl⟩⟩ h1 h63 hbytes hbase h
  · exact wpList_append_any w hgd s x t ho lo e i z size bytes ht hi hz hsize hby hzs v n xs hs hown ad m cap news hx hl h4 h1 h63 hbytes hbase h
end
/-- Blocks of 64 integers, as cells. -/
def bcells (bs : List (List Int)) : List Value := bs.flatMap fun b => b.map (Value.int .i16)
def Right64 (bs : List (List Int)) : Prop := ∀ b ∈ bs, b.length = 64
theorem bcells_len {bs : List (List Int)} (h : Right64 bs) : (bcells bs).length = bs.length * 64 := by
  induction bs with
  | nil => rfl
  | cons b bs ih => simp only [bcells, List.flatMap_cons, List.length_append, List.length_map, List.length_cons] at *; rw [ih (fun c hc => h c (by simp [hc])), h b (by simp)]; omega
theorem bcells_one (bs : List (List Int)) : ∀ u ∈ bcells bs, u.oneCell' = true := by
  intro u hu
  simp only [bcells, List.mem_flatMap, List.mem_map] at hu
  obtain ⟨b, _, x, _, rfl⟩ := hu
  rfl
theorem bcells_append (us bs : List (List Int)) : bcells (us ++ bs) = bcells us ++ bcells bs := by simp [bcells]
theorem Right64.drop {bs : List (List Int)} (h : Right64 bs) (k : Nat) : Right64 (bs.drop k) := fun b hb => h b (List.mem_of_mem_drop hb)
theorem Right64.take {bs : List (List Int)} (h : Right64 bs) (k : Nat) : Right64 (bs.take k) := fun b hb => h b (List.mem_of_mem_take hb)
theorem bcells_drop {bs : List (List Int)} (h : Right64 bs) (k : Nat) : (bcells bs).drop (k * 64) = bcells (bs.drop k) := by
  by_cases hk : k ≤ bs.length
  · have e : bcells bs = bcells (bs.take k) ++ bcells (bs.drop k) := by rw [← bcells_append, List.take_append_drop]
    rw [e, List.drop_append_of_le_length (by rw [bcells_len (h.take k), List.length_take]; omega), List.drop_of_length_le (by rw [bcells_len (h.take k), List.length_take]; omega), List.nil_append]
  · rw [List.drop_of_length_le (by rw [bcells_len h]; omega), List.drop_of_length_le (by omega)]
    rfl
theorem bcells_take {bs : List (List Int)} (h : Right64 bs) (k : Nat) : (bcells bs).take (k * 64) = bcells (bs.take k) := by
  by_cases hk : k ≤ bs.length
  · have e : bcells bs = bcells (bs.take k) ++ bcells (bs.drop k) := by rw [← bcells_append, List.take_append_drop]
    have hl : (bcells (bs.take k)).length = k * 64 := by rw [bcells_len (h.take k), List.length_take]; omega
    rw [e, List.take_append_of_le_length (by omega), List.take_of_length_le (by omega)]
  · rw [List.take_of_length_le (by rw [bcells_len h]; omega), List.take_of_length_le (by omega)]
theorem bcells_get {bs : List (List Int)} (h : Right64 bs) (k j : Nat) (hk : k < bs.length) (hj : j < 64) : (bcells bs)[k * 64 + j]? = some (.int .i16 ((bs.getD k []).getD j 0)) := by
  rw [← List.getElem?_drop, bcells_drop h, List.drop_eq_getElem_cons hk]
  have hb : (bs[k]).length = 64 := h _ (List.getElem_mem hk)
  simp only [bcells, List.flatMap_cons]
  rw [List.getElem?_append_left (by simp; omega)]
  simp [List.getD_eq_getElem?_getD, hk, hb, hj]
end Go.Proofs.Ytgmhhocpdfdplaa
/- Package plane's small functions, walked: sized, Right, place. -/
namespace Go.Proofs.Ytgmhhocpdfdplaa
open Go.RowKit
set_option maxRecDepth 100000
set_option maxHeartbeats 2000000
namespace Pl
/-- May a plane have so many columns and rows? -/
def sized (c r : Int) : Int := if c < 1 ∨ r < 1 then 1 else if 16384 < c ∨ 16384 / c < r then 11 else 0
theorem sized_ok {c r : Int} (h : sized c r = 0) : 1 ≤ c ∧ 1 ≤ r ∧ c ≤ 16384 ∧ r ≤ 16384 ∧ 0 ≤ c * r ∧ c * r ≤ 16384 := by
  unfold sized at h
  split at h
  · cases h
  · rename_i h1
    split at h
    · cases h
    · rename_i h2
      have hc : 1 ≤ c := by omega
      have hr : 1 ≤ r := by omega
      have hq : r ≤ 16384 / c := by omega
      have h3 : r * c ≤ 16384 := (Int.le_ediv_iff_mul_le (by omega)).1 hq
      have h4 : 16384 / c ≤ 16384 := Int.ediv_le_self _ (by omega)
      refine ⟨hc, hr, by omega, by omega, Int.mul_nonneg (by omega) (by omega), by rw [Int.mul_comm]; exact h3⟩
end Pl
theorem plane_sized (c r : Int) (w : World) : Calls Try.prog 127 #[.int .i64 c, .int .i64 r] w fun e w' => e = .returned (.int .i64 (Pl.sized c r)) ∧ w = w' := by
  unfold Pl.sized
  by_cases h1 : c < 1
  · have t1 : decide (c < 1) = true := by simpa using h1
    rw [if_pos (.inl h1)]
    go_enter Try.func127, Try.ntmps127
    go_wp2_with fail
    go_ret
    exact ⟨rfl, rfl⟩
  · have t1 : decide (c < 1) = false := by simpa using h1
    by_cases h2 : r < 1
    · have t2 : decide (r < 1) = true := by simpa using h2
      rw [if_pos (.inr h2)]
      go_enter Try.func127, Try.ntmps127
      go_wp2_with fail
      go_ret
      exact ⟨rfl, rfl⟩
    · have t2 : decide (r < 1) = false := by simpa using h2
      rw [if_neg (by omega)]
      by_cases h3 : 16384 < c
      · have t3 : decide (16384 < c) = true := by simpa using h3
        rw [if_pos (.inl h3)]
        go_enter Try.func127, Try.ntmps127
        go_wp2_with fail
        go_ret
        exact ⟨rfl, rfl⟩
      · have t3 : decide (16384 < c) = false := by simpa using h3
        have hc0 : c ≠ 0 := by omega
        have hc1 : c ≠ -1 := by omega
        by_cases h4 : 16384 / c < r
        · have t4 : decide (16384 / c < r) = true := by simpa using h4
          rw [if_pos (.inr h4)]
          go_enter Try.func127, Try.ntmps127
          go_wp2_with fail
          go_ret
          exact ⟨rfl, rfl⟩
        · have t4 : decide (16384 / c < r) = false := by simpa using h4
          rw [if_neg (by omega)]
          go_enter Try.func127, Try.ntmps127
          go_wp2_with fail
          go_ret
          exact ⟨rfl, rfl⟩
namespace Pl
/-- Is a plane of n blocks right? -/
def right (c r : Int) (n : Nat) : Bool := (sized c r == 0) && ((n : Int) == c * r)
end Pl
theorem plane_right (c r : Int) (n : Nat) (b : Option Addr) (cap : Nat) (w : World) : Calls Try.prog 118 #[.agg #[.int .i64 c, .int .i64 r, .slice b n cap]] w fun e w' => e = .returned (.bool (Pl.right c r n)) ∧ Below w.heap.size w w' := by
  obtain ⟨N, hN⟩ : ∃ N, N = w.heap.size := ⟨_, rfl⟩
  have HN := Lib.hid hN
  rw [← hN]
  clear hN
  go_enter Try.func118, Try.ntmps118
  go_upto_region 1 with fail
  refine wp_world (fun W => Blk W N #[.int .i64 c, .int .i64 r, .slice b n cap] 61 ∧ Below N w W) ⟨Blk.new' _ _ _ HN.out, (Below.refl _ _).alloc (by rw [HN.out]; exact Nat.le_refl _) _⟩ ?_
  rintro W0 ⟨b0, hB⟩
  rw [← HN.out]
  have q0 := b0.cell 0
  have q1 := b0.cell 1
  have q2 := b0.cell 2
  by_cases hs : Pl.sized c r = 0
  · obtain ⟨h1, h2, h3, h4, h5, h6⟩ := Pl.sized_ok hs
    obtain ⟨z, hz⟩ : ∃ z, c * r = z := ⟨_, rfl⟩
    rw [hz] at h5 h6
    have hw : wrap64 z = z := IntWalk.wrap64_in _ (by omega)
    have tn : Pl.right c r n = ((n : Int) == z) := by unfold Pl.right; rw [hz]; simp [hs]
    have TN := Lib.hid tn
    have hps := plane_sized c r W0
    rw [hs] at hps
    clear hs tn
    go_wp2_with (go_at_call 127; refine hps.mono ?_; rintro e w1 ⟨rfl, rfl⟩)
    go_ret
    exact ⟨by rw [TN.out]; rfl, hB⟩
  · have tn : Pl.right c r n = false := by unfold Pl.right; simp [hs]
    have TN := Lib.hid tn
    clear tn
    have hps := plane_sized c r W0
    obtain ⟨s, hss⟩ : ∃ s, Pl.sized c r = s := ⟨_, rfl⟩
    rw [hss] at hps hs
    have ts : (s == 0) = false := by simpa using hs
    have ts2 : decide (s = 0) = false := by simpa using hs
    go_wp2_with (go_at_call 127; refine hps.mono ?_; rintro e w1 ⟨rfl, rfl⟩)
    go_ret
    exact ⟨by rw [TN.out]; rfl, hB⟩
end Go.Proofs.Ytgmhhocpdfdplaa
/- Arguments opened: planes, rectangles, blocks, slices of them. -/
namespace Go.Proofs.Ytgmhhocpdfdplaa
open Go.ChangeShapes Go.WideShapes Go.ChangeAt Go.RowKit
set_option maxRecDepth 100000
/-- The value v is a plane of x.c columns, x.r rows, its blocks in the slice x.u. -/
structure PlaneArg where
  c : Int
  r : Int
  u : Value
  bs : List (List Int)
structure IsPlane (w : World) (v : Value) (x : PlaneArg) : Prop where
  val : v = .agg #[.int .i64 x.c, .int .i64 x.r, x.u]
  ar : Ar w 64 x.u x.bs.length (bcells x.bs)
  h64 : Right64 x.bs
  wc : (Lit.int .i64 x.c).wf = true
  wr : (Lit.int .i64 x.r).wf = true
  wb : ∀ b ∈ x.bs, ∀ y ∈ b, (Lit.int .i16 y).wf = true
structure RectArg where
  a : Int
  b : Int
  h : Int
  d : Int
def RectArg.wf (x : RectArg) : Prop := (Lit.int .i64 x.a).wf = true ∧ (Lit.int .i64 x.b).wf = true ∧ (Lit.int .i64 x.h).wf = true ∧ (Lit.int .i64 x.d).wf = true
def RectArg.cells (x : RectArg) : List Value := [.int .i64 x.a, .int .i64 x.b, .int .i64 x.h, .int .i64 x.d]
def IsRect (_w : World) (v : Value) (x : RectArg) : Prop := v = .agg #[.int .i64 x.a, .int .i64 x.b, .int .i64 x.h, .int .i64 x.d] ∧ x.wf
/-- The slice value v has these rectangles. -/
def IsRects (w : World) (v : Value) (xs : List RectArg) : Prop := Elems w 4 v (xs.map RectArg.cells) ∧ ∀ x ∈ xs, x.wf
structure IsBlocks (w : World) (v : Value) (bs : List (List Int)) : Prop where
  ar : Ar w 64 v bs.length (bcells bs)
  h64 : Right64 bs
  wb : ∀ b ∈ bs, ∀ y ∈ b, (Lit.int .i16 y).wf = true
section
variable {H : Type} {enc : TypeId × Value → H} {w : World} {base : Nat} {sp : Nat → Bool} {held : Bool}
theorem blocks_of_elems {u : Value} {cells : List (List Value)} (h1 : Elems w 64 u cells) (h2 : ∀ c ∈ cells, ∃ (n : Nat) (y : DataW H × List MemPlace), DataW.trod enc Try.prog w base sp held n 57 c = some y) : ∃ bs, IsBlocks w u bs := by
  have h3 : ∀ c ∈ cells, ∃ b : List Int, c = b.map (Value.int .i16) ∧ (b.length = 64 ∧ ∀ y ∈ b, (Lit.int .i16 y).wf = true) := by
    intro c hc
    obtain ⟨n, y, hy⟩ := h2 c hc
    obtain ⟨xs, e, hl, hw⟩ := ints_of_trod Try.underlying57 Try.underlying55 (by kernel_rfl) (by kernel_rfl) hy
    exact ⟨xs, e, hl, hw⟩
  obtain ⟨bs, rfl, hx⟩ := exists_map cells h3
  have ha := h1.ar
  rw [List.length_map] at ha
  refine ⟨bs, ?_, fun b hb => (hx b hb).1, fun b hb => (hx b hb).2⟩
  have e : (bs.map fun b => b.map (Value.int .i16)).flatten = bcells bs := by rw [bcells, List.flatMap_def]
  rw [e] at ha
  exact ha
theorem open_blocks {r : Reach} {b0 : Nat} {v : Value} {d : DataW H} {p : List MemPlace} (hv : Value.okWide Try.prog w r b0 59 v) (h : DataW.Trod enc Try.prog w base sp held 59 v d p) : ∃ bs, IsBlocks w v bs := by
  obtain ⟨cells, h1, h2⟩ := open_elems Try.underlying59 hv h
  have hc : Try.prog.cellsOf 57 = 64 := by kernel_rfl
  rw [hc] at h1
  exact blocks_of_elems h1 h2
theorem open_plane {r : Reach} {b0 : Nat} {v : Value} {d : DataW H} {p : List MemPlace} (hv : Value.okWide Try.prog w r b0 61 v) (h : DataW.Trod enc Try.prog w base sp held 61 v d p) : ∃ x, IsPlane w v x := by
  obtain ⟨v0, v1, v2, y0, y1, y2, n, rfl, _, _, e0, e1, e2⟩ := Go.Joins.open_agg3 Try.underlying61 (by kernel_rfl) (by kernel_rfl) hv h
  obtain ⟨z0, f0, _, g0⟩ := DataW.trod_int Try.underlying3 e0
  obtain ⟨z1, f1, _, g1⟩ := DataW.trod_int Try.underlying3 e1
  simp only [List.cons.injEq, and_true] at f0 f1
  subst f0 f1
  obtain ⟨cells, h1, h2⟩ := open_elems_trod Try.underlying59 e2
  have hc : Try.prog.cellsOf 57 = 64 := by kernel_rfl
  rw [hc] at h1
  obtain ⟨bs, hb⟩ := blocks_of_elems h1 h2
  exact ⟨⟨z0, z1, v2, bs⟩, rfl, hb.ar, hb.h64, g0, g1, hb.wb⟩
end
end Go.Proofs.Ytgmhhocpdfdplaa
/- Arguments opened: images (components with planes, quantization tables, tags). -/
namespace Go.Proofs.Ytgmhhocpdfdplaa
open Go.ChangeShapes Go.WideShapes Go.ChangeAt Go.RowKit
set_option maxRecDepth 100000
/-- A component: its id, its factors, its table's place, its plane. -/
structure CompArg where
  id : Int
  h : Int
  v : Int
  q : Int
  c : Int
  r : Int
  u : Value
  bs : List (List Int)
def CompArg.cells (x : CompArg) : List Value := [.int .i64 x.id, .int .i64 x.h, .int .i64 x.v, .int .i64 x.q, .int .i64 x.c, .int .i64 x.r, x.u]
structure CompArg.Ok (w : World) (x : CompArg) : Prop where
  ar : Ar w 64 x.u x.bs.length (bcells x.bs)
  h64 : Right64 x.bs
  wb : ∀ b ∈ x.bs, ∀ y ∈ b, (Lit.int .i16 y).wf = true
  wid : (Lit.int .i64 x.id).wf = true
  wh : (Lit.int .i64 x.h).wf = true
  wv : (Lit.int .i64 x.v).wf = true
  wq : (Lit.int .i64 x.q).wf = true
  wc : (Lit.int .i64 x.c).wf = true
  wr : (Lit.int .i64 x.r).wf = true
structure IsComps (w : World) (v : Value) (xs : List CompArg) : Prop where
  el : Elems w 7 v (xs.map CompArg.cells)
  ok : ∀ x ∈ xs, x.Ok w
structure QuantArg where
  at_ : Int
  q : List Int
def QuantArg.cells (x : QuantArg) : List Value := .int .i64 x.at_ :: x.q.map (Value.int .u16)
structure QuantArg.Ok (x : QuantArg) : Prop where
  wa : (Lit.int .i64 x.at_).wf = true
  l64 : x.q.length = 64
  wq : ∀ y ∈ x.q, (Lit.int .u16 y).wf = true
structure IsQuants (w : World) (v : Value) (xs : List QuantArg) : Prop where
  el : Elems w 65 v (xs.map QuantArg.cells)
  ok : ∀ x ∈ xs, x.Ok
structure TagArg where
  kind : Int
  body : ByteArray
def TagArg.cells (x : TagArg) : List Value := [.int .i64 x.kind, .string x.body]
structure TagArg.Ok (x : TagArg) : Prop where
  wk : (Lit.int .i64 x.kind).wf = true
  wl : x.body.size ≤ maxLen
structure IsTags (w : World) (v : Value) (xs : List TagArg) : Prop where
  el : Elems w 2 v (xs.map TagArg.cells)
  ok : ∀ x ∈ xs, x.Ok
/-- An image: its sides, the slices of its components, tables, tags. -/
structure ImgArg where
  w : Int
  h : Int
  cu : Value
  qu : Value
  tu : Value
  cs : List CompArg
  qs : List QuantArg
  ts : List TagArg
def ImgArg.val (x : ImgArg) : Value := .agg #[.int .i64 x.w, .int .i64 x.h, x.cu, x.qu, x.tu]
structure IsImg (w : World) (v : Value) (x : ImgArg) : Prop where
  val : v = x.val
  ww : (Lit.int .i64 x.w).wf = true
  wh : (Lit.int .i64 x.h).wf = true
  cs : IsComps w x.cu x.cs
  qs : IsQuants w x.qu x.qs
  ts : IsTags w x.tu x.ts
section
variable {H : Type} {enc : TypeId × Value → H} {P : Program} {w : World} {base : Nat} {sp : Nat → Bool} {held : Bool}
theorem trod_struct5 {t : TypeId} {f0 f1 f2 f3 f4 : Field} {fuel : Nat} {cs : List Value} {x : DataW H × List MemPlace} (ht : P.underlying t = some (.struct #[f0, f1, f2, f3, f4])) (h : DataW.trod enc P w base sp held fuel t cs = some x) :
    ∃ y0 y1 y2 y3 y4 n, cs.length = P.cellsOf t ∧ DataW.trod enc P w base sp held n f0.type ((cs.drop f0.offset).take (P.cellsOf f0.type)) = some y0 ∧
      DataW.trod enc P w base sp held n f1.type ((cs.drop f1.offset).take (P.cellsOf f1.type)) = some y1 ∧ DataW.trod enc P w base sp held n f2.type ((cs.drop f2.offset).take (P.cellsOf f2.type)) = some y2 ∧
      DataW.trod enc P w base sp held n f3.type ((cs.drop f3.offset).take (P.cellsOf f3.type)) = some y3 ∧ DataW.trod enc P w base sp held n f4.type ((cs.drop f4.offset).take (P.cellsOf f4.type)) = some y4 := by
  obtain ⟨xs, n, _, rfl, hl, hlen, hf⟩ := DataW.trod_struct ht h
  match xs, hlen with
  | [y0, y1, y2, y3, y4], _ => exact ⟨y0, y1, y2, y3, y4, n, hl, by simpa using hf 0 f0 rfl, by simpa using hf 1 f1 rfl, by simpa using hf 2 f2 rfl, by simpa using hf 3 f3 rfl, by simpa using hf 4 f4 rfl⟩
theorem list7 {α : Type} {c : List α} (h : c.length = 7) : ∃ c0 c1 c2 c3 c4 c5 c6, c = [c0, c1, c2, c3, c4, c5, c6] := by
  match c, h with
  | [c0, c1, c2, c3, c4, c5, c6], _ => exact ⟨_, _, _, _, _, _, _, rfl⟩
theorem list5 {α : Type} {c : List α} (h : c.length = 5) : ∃ c0 c1 c2 c3 c4, c = [c0, c1, c2, c3, c4] := by
  match c, h with
  | [c0, c1, c2, c3, c4], _ => exact ⟨_, _, _, _, _, rfl⟩
theorem list2 {α : Type} {c : List α} (h : c.length = 2) : ∃ c0 c1, c = [c0, c1] := by
  match c, h with
  | [c0, c1], _ => exact ⟨_, _, rfl⟩
end
section
variable {H : Type} {enc : TypeId × Value → H} {w : World} {base : Nat} {sp : Nat → Bool} {held : Bool}
theorem comp_of_trod {n : Nat} {c : List Value} {y : DataW H × List MemPlace} (hl : c.length = 7) (h : DataW.trod enc Try.prog w base sp held n 63 c = some y) : ∃ x : CompArg, c = x.cells ∧ x.Ok w := by
  obtain ⟨y0, y1, y2, y3, y4, m, _, e0, e1, e2, e3, e4⟩ := trod_struct5 Try.underlying63 h
  obtain ⟨c0, c1, c2, c3, c4, c5, c6, rfl⟩ := list7 hl
  have ki : Try.prog.cellsOf 3 = 1 := by kernel_rfl
  have kp : Try.prog.cellsOf 61 = 3 := by kernel_rfl
  simp only [ki, kp, List.drop_zero, List.drop_succ_cons, List.take_succ_cons, List.take_zero] at e0 e1 e2 e3 e4
  obtain ⟨z0, f0, _, g0⟩ := DataW.trod_int Try.underlying3 e0
  obtain ⟨z1, f1, _, g1⟩ := DataW.trod_int Try.underlying3 e1
  obtain ⟨z2, f2, _, g2⟩ := DataW.trod_int Try.underlying3 e2
  obtain ⟨z3, f3, _, g3⟩ := DataW.trod_int Try.underlying3 e3
  simp only [List.cons.injEq, and_true] at f0 f1 f2 f3
  subst f0 f1 f2 f3
  obtain ⟨p0, p1, p2, m2, _, _, d0, d1, d2⟩ := Go.Deep.trod_struct3 Try.underlying61 e4
  have ks : Try.prog.cellsOf 59 = 1 := by kernel_rfl
  simp only [ki, ks, List.drop_zero, List.drop_succ_cons, List.take_succ_cons, List.take_zero] at d0 d1 d2
  obtain ⟨z4, f4, _, g4⟩ := DataW.trod_int Try.underlying3 d0
  obtain ⟨z5, f5, _, g5⟩ := DataW.trod_int Try.underlying3 d1
  simp only [List.cons.injEq, and_true] at f4 f5
  subst f4 f5
  obtain ⟨cells, h1, h2⟩ := open_elems_trod Try.underlying59 d2
  have hc : Try.prog.cellsOf 57 = 64 := by kernel_rfl
  rw [hc] at h1
  obtain ⟨bs, hb⟩ := blocks_of_elems h1 h2
  exact ⟨⟨z0, z1, z2, z3, z4, z5, c6, bs⟩, rfl, hb.ar, hb.h64, hb.wb, g0, g1, g2, g3, g4, g5⟩
theorem comps_of_trod {n : Nat} {u : Value} {y : DataW H × List MemPlace} (h : DataW.trod enc Try.prog w base sp held n 22 [u] = some y) : ∃ xs, IsComps w u xs := by
  obtain ⟨cells, h1, h2⟩ := open_elems_trod Try.underlying22 h
  have hc : Try.prog.cellsOf 63 = 7 := by kernel_rfl
  rw [hc] at h1
  have h3 : ∀ c ∈ cells, ∃ x : CompArg, c = x.cells ∧ x.Ok w := fun c hcm => by
    obtain ⟨k, z, hz⟩ := h2 c hcm
    exact comp_of_trod (h1.2.1 c hcm) hz
  obtain ⟨xs, rfl, hx⟩ := exists_map cells h3
  exact ⟨xs, h1, hx⟩
theorem quants_of_trod {n : Nat} {u : Value} {y : DataW H × List MemPlace} (h : DataW.trod enc Try.prog w base sp held n 23 [u] = some y) : ∃ xs, IsQuants w u xs := by
  obtain ⟨cells, h1, h2⟩ := open_elems_trod Try.underlying23 h
  have hc : Try.prog.cellsOf 39 = 65 := by kernel_rfl
  rw [hc] at h1
  have h3 : ∀ c ∈ cells, ∃ x : QuantArg, c = x.cells ∧ x.Ok := fun c hcm => by
    obtain ⟨k, z, hz⟩ := h2 c hcm
    have hl := h1.2.1 c hcm
    obtain ⟨y0, y1, m, _, _, e0, e1⟩ := trod_struct2 Try.underlying39 hz
    have ki : Try.prog.cellsOf 3 = 1 := by kernel_rfl
    have ka : Try.prog.cellsOf 35 = 64 := by kernel_rfl
    cases c with
    | nil => simp at hl
    | cons c0 cr =>
      simp only [ki, ka, List.drop_zero, List.drop_succ_cons, List.take_succ_cons, List.take_zero] at e0 e1
      rw [List.take_of_length_le (by simp at hl; omega)] at e1
      obtain ⟨z0, f0, _, g0⟩ := DataW.trod_int Try.underlying3 e0
      simp only [List.cons.injEq, and_true] at f0
      subst f0
      obtain ⟨xs, rfl, hxl, hxw⟩ := ints_of_trod Try.underlying35 Try.underlying34 (by kernel_rfl) (by kernel_rfl) e1
      exact ⟨⟨z0, xs⟩, rfl, g0, hxl, hxw⟩
  obtain ⟨xs, rfl, hx⟩ := exists_map cells h3
  exact ⟨xs, h1, hx⟩
theorem tags_of_trod {n : Nat} {u : Value} {y : DataW H × List MemPlace} (h : DataW.trod enc Try.prog w base sp held n 24 [u] = some y) : ∃ xs, IsTags w u xs := by
  obtain ⟨cells, h1, h2⟩ := open_elems_trod Try.underlying24 h
  have hc : Try.prog.cellsOf 104 = 2 := by kernel_rfl
  rw [hc] at h1
  have h3 : ∀ c ∈ cells, ∃ x : TagArg, c = x.cells ∧ x.Ok := fun c hcm => by
    obtain ⟨k, z, hz⟩ := h2 c hcm
    have hl := h1.2.1 c hcm
    obtain ⟨y0, y1, m, _, _, e0, e1⟩ := trod_struct2 Try.underlying104 hz
    obtain ⟨c0, c1, rfl⟩ := list2 hl
    have ki : Try.prog.cellsOf 3 = 1 := by kernel_rfl
    have kt : Try.prog.cellsOf 9 = 1 := by kernel_rfl
    simp only [ki, kt, List.drop_zero, List.drop_succ_cons, List.take_succ_cons, List.take_zero] at e0 e1
    obtain ⟨z0, f0, _, g0⟩ := DataW.trod_int Try.underlying3 e0
    obtain ⟨s1, f1, _, g1⟩ := DataW.trod_string Try.underlying9 e1
    simp only [List.cons.injEq, and_true] at f0 f1
    subst f0 f1
    exact ⟨⟨z0, s1⟩, rfl, g0, g1⟩
  obtain ⟨xs, rfl, hx⟩ := exists_map cells h3
  exact ⟨xs, h1, hx⟩
theorem open_image {r : Reach} {b0 : Nat} {v : Value} {d : DataW H} {p : List MemPlace} (hv : Value.okWide Try.prog w r b0 26 v) (h : DataW.Trod enc Try.prog w base sp held 26 v d p) : ∃ x, IsImg w v x := by
  obtain ⟨cs, rfl, hsz⟩ := okWide_struct Try.underlying26 hv
  obtain ⟨fuel, hf⟩ := h
  obtain ⟨y0, y1, y2, y3, y4, m, hl, e0, e1, e2, e3, e4⟩ := trod_struct5 Try.underlying26 hf
  have kt : Try.prog.cellsOf 26 = 5 := by kernel_rfl
  have ki : Try.prog.cellsOf 3 = 1 := by kernel_rfl
  have k1 : Try.prog.cellsOf 22 = 1 := by kernel_rfl
  have k2 : Try.prog.cellsOf 23 = 1 := by kernel_rfl
  have k3 : Try.prog.cellsOf 24 = 1 := by kernel_rfl
  rw [kt] at hsz
  obtain ⟨c0, c1, c2, c3, c4, hcs⟩ := list5 (c := cs.toList) (by simpa using hsz)
  obtain rfl : cs = #[c0, c1, c2, c3, c4] := by apply Array.ext'; rw [hcs]
  simp only [Value.cells, ki, k1, k2, k3, List.drop_zero, List.drop_succ_cons, List.take_succ_cons, List.take_zero] at e0 e1 e2 e3 e4
  obtain ⟨z0, f0, _, g0⟩ := DataW.trod_int Try.underlying3 e0
  obtain ⟨z1, f1, _, g1⟩ := DataW.trod_int Try.underlying3 e1
  simp only [List.cons.injEq, and_true] at f0 f1
  subst f0 f1
  obtain ⟨xs, hx⟩ := comps_of_trod e2
  obtain ⟨qs, hq⟩ := quants_of_trod e3
  obtain ⟨ts, ht⟩ := tags_of_trod e4
  exact ⟨⟨z0, z1, c2, c3, c4, xs, qs, ts⟩, rfl, g0, g1, hx, hq, ht⟩
end
end Go.Proofs.Ytgmhhocpdfdplaa
/- Package plane's place and within, walked. -/
namespace Go.Proofs.Ytgmhhocpdfdplaa
open Go.RowKit
set_option maxRecDepth 100000
set_option maxHeartbeats 4000000
namespace Pl
/-- Does a place lie in a plane? -/
def isIn (c r row col : Int) : Prop := 0 ≤ row ∧ row < r ∧ 0 ≤ col ∧ col < c
/-- Does a rectangle fail to lie within a right plane? -/
def out (c r a b h d : Int) : Prop := a < 0 ∨ b < 0 ∨ h < 1 ∨ d < 1 ∨ r ≤ a ∨ c ≤ b ∨ r - a < h ∨ c - b < d
end Pl
theorem plane_place_no (c r row col : Int) (u : Value) (hn : ¬ Pl.isIn c r row col) (w : World) : Calls Try.prog 153 #[.agg #[.int .i64 c, .int .i64 r, u], .int .i64 row, .int .i64 col] w fun e w' => e = .returned (.tuple #[.int .i64 0, .bool false]) ∧ Below w.heap.size w w' := by
  obtain ⟨N, hN⟩ : ∃ N, N = w.heap.size := ⟨_, rfl⟩
  have HN := Lib.hid hN
  rw [← hN]
  clear hN
  go_enter Try.func153, Try.ntmps153
  go_upto_region 1 with fail
  refine wp_world (fun W => Blk W N #[.int .i64 c, .int .i64 r, u] 61 ∧ Below N w W) ⟨Blk.new' _ _ _ HN.out, (Below.refl _ _).alloc (by rw [HN.out]; exact Nat.le_refl _) _⟩ ?_
  rintro W0 ⟨b0, hB⟩
  rw [← HN.out]
  have q0 := b0.cell 0
  have q1 := b0.cell 1
  by_cases k0 : row < 0
  · have t0 : decide (row < 0) = true := by simpa using k0
    go_wp2_with fail
    go_ret2
    exact ⟨rfl, hB⟩
  have t0 : decide (row < 0) = false := by simpa using k0
  by_cases k1 : r ≤ row
  · have t1 : decide (r ≤ row) = true := by simpa using k1
    go_wp2_with fail
    go_ret2
    exact ⟨rfl, hB⟩
  have t1 : decide (r ≤ row) = false := by simpa using k1
  by_cases k2 : col < 0
  · have t2 : decide (col < 0) = true := by simpa using k2
    go_wp2_with fail
    go_ret2
    exact ⟨rfl, hB⟩
  have t2 : decide (col < 0) = false := by simpa using k2
  by_cases k3 : c ≤ col
  · have t3 : decide (c ≤ col) = true := by simpa using k3
    go_wp2_with fail
    go_ret2
    exact ⟨rfl, hB⟩
  have t3 : decide (c ≤ col) = false := by simpa using k3
  exact absurd ⟨by omega, by omega, by omega, by omega⟩ hn
theorem plane_place_yes (c r row col : Int) (u : Value) (hn : Pl.isIn c r row col) (z : Int) (hz : row * c = z) (hw : wrap64 z = z) (hw2 : wrap64 (z + col) = z + col) (w : World) : Calls Try.prog 153 #[.agg #[.int .i64 c, .int .i64 r, u], .int .i64 row, .int .i64 col] w fun e w' => e = .returned (.tuple #[.int .i64 (z + col), .bool true]) ∧ Below w.heap.size w w' := by
  obtain ⟨N, hN⟩ : ∃ N, N = w.heap.size := ⟨_, rfl⟩
  have HN := Lib.hid hN
  rw [← hN]
  clear hN
  obtain ⟨h0, h1, h2, h3⟩ := hn
  have t0 : decide (row < 0) = false := by simpa using h0
  have t1 : decide (r ≤ row) = false := by simpa using h1
  have t2 : decide (col < 0) = false := by simpa using h2
  have t3 : decide (c ≤ col) = false := by simpa using h3
  go_enter Try.func153, Try.ntmps153
  go_upto_region 1 with fail
  refine wp_world (fun W => Blk W N #[.int .i64 c, .int .i64 r, u] 61 ∧ Below N w W) ⟨Blk.new' _ _ _ HN.out, (Below.refl _ _).alloc (by rw [HN.out]; exact Nat.le_refl _) _⟩ ?_
  rintro W0 ⟨b0, hB⟩
  rw [← HN.out]
  have q0 := b0.cell 0
  have q1 := b0.cell 1
  go_wp2_with fail
  go_ret2
  refine ⟨?_, hB⟩
  show Ending.returned (.tuple #[.int .i64 (wrap64 (z + col)), .bool true]) = _
  rw [hw2]
theorem plane_within_bad (c r : Int) (n : Nat) (bu : Option Addr) (cap : Nat) (a b h d : Int) (hr : Pl.right c r n = false) (w : World) : Calls Try.prog 131 #[.agg #[.int .i64 c, .int .i64 r, .slice bu n cap], .agg #[.int .i64 a, .int .i64 b, .int .i64 h, .int .i64 d]] w fun e w' => e = .returned (.int .i64 1) ∧ Below w.heap.size w w' := by
  obtain ⟨N, hN⟩ : ∃ N, N = w.heap.size := ⟨_, rfl⟩
  have HN := Lib.hid hN
  rw [← hN]
  clear hN
  go_enter Try.func131, Try.ntmps131
  go_upto_region 1 with fail
  refine wp_world (fun W => Blk W N #[.int .i64 c, .int .i64 r, .slice bu n cap] 61 ∧ Blk W (N + 1) #[.int .i64 a, .int .i64 b, .int .i64 h, .int .i64 d] 70 ∧ Below N w W) ⟨(Blk.new' _ _ _ HN.out).alloc _, Blk.new' _ _ _ (by simp [HN.out]), ((Below.refl _ _).alloc (by rw [HN.out]; exact Nat.le_refl _) _).alloc (by rw [HN.out]; simp) _⟩ ?_
  rintro W0 ⟨b0, b1, hB⟩
  rw [← HN.out]
  have hN0 : N < W0.heap.size := b0.lt
  have hr := (hr ▸ plane_right c r n bu cap W0 : Calls Try.prog 118 #[.agg #[.int .i64 c, .int .i64 r, .slice bu n cap]] W0 fun e w' => e = .returned (.bool false) ∧ Below W0.heap.size W0 w')
  go_wp2_with (first | (refine wpList_load_row rfl 61 _ rfl N rfl 61 _ _ _ b0 Try.underlying61 rfl (by kernel_rfl) ?_) | (go_at_call 118; refine hr.mono ?_; rintro e w1 ⟨rfl, hb⟩; have b01 := b0.below hb b0.lt; have b11 := b1.below hb b1.lt; have hB1 := hB.trans (hb.mono (by omega)); have p0 := b01.cell 0; have p1 := b01.cell 1; have r0 := b11.cell 0; have r1 := b11.cell 1; have r2 := b11.cell 2; have r3 := b11.cell 3))
  go_ret
  exact ⟨rfl, hB1⟩
theorem plane_within (c r : Int) (n : Nat) (bu : Option Addr) (cap : Nat) (a b h d : Int) (hr : Pl.right c r n = true) (w : World) : Calls Try.prog 131 #[.agg #[.int .i64 c, .int .i64 r, .slice bu n cap], .agg #[.int .i64 a, .int .i64 b, .int .i64 h, .int .i64 d]] w fun e w' => (Pl.out c r a b h d → e = .returned (.int .i64 14)) ∧ (¬ Pl.out c r a b h d → e = .returned (.int .i64 0)) ∧ Below w.heap.size w w' := by
  obtain ⟨N, hN⟩ : ∃ N, N = w.heap.size := ⟨_, rfl⟩
  have HN := Lib.hid hN
  rw [← hN]
  clear hN
  go_enter Try.func131, Try.ntmps131
  go_upto_region 1 with fail
  refine wp_world (fun W => Blk W N #[.int .i64 c, .int .i64 r, .slice bu n cap] 61 ∧ Blk W (N + 1) #[.int .i64 a, .int .i64 b, .int .i64 h, .int .i64 d] 70 ∧ Below N w W) ⟨(Blk.new' _ _ _ HN.out).alloc _, Blk.new' _ _ _ (by simp [HN.out]), ((Below.refl _ _).alloc (by rw [HN.out]; exact Nat.le_refl _) _).alloc (by rw [HN.out]; simp) _⟩ ?_
  rintro W0 ⟨b0, b1, hB⟩
  rw [← HN.out]
  have hN0 : N < W0.heap.size := b0.lt
  have hsz : 1 ≤ c ∧ 1 ≤ r ∧ c ≤ 16384 ∧ r ≤ 16384 := by
    unfold Pl.right at hr
    simp only [Bool.and_eq_true, beq_iff_eq] at hr
    obtain ⟨h1, h2, h3, h4, _, _⟩ := Pl.sized_ok hr.1
    exact ⟨h1, h2, h3, h4⟩
  have hr := (hr ▸ plane_right c r n bu cap W0 : Calls Try.prog 118 #[.agg #[.int .i64 c, .int .i64 r, .slice bu n cap]] W0 fun e w' => e = .returned (.bool true) ∧ Below W0.heap.size W0 w')
  go_upto_region 3 with (first | (refine wpList_load_row rfl 61 _ rfl N rfl 61 _ _ _ b0 Try.underlying61 rfl (by kernel_rfl) ?_) | (go_at_call 118; refine hr.mono ?_; rintro e w1 ⟨rfl, hb⟩; have b01 := b0.below hb b0.lt; have b11 := b1.below hb b1.lt; have hB1 := hB.trans (hb.mono (by omega)); have p0 := b01.cell 0; have p1 := b01.cell 1; have r0 := b11.cell 0; have r1 := b11.cell 1; have r2 := b11.cell 2; have r3 := b11.cell 3))
  clear hr
  by_cases k0 : a < 0
  · have t0 : decide (a < 0) = true := by simpa using k0
    go_wp2_with fail
    go_ret
    exact ⟨fun _ => rfl, fun ho => absurd (show Pl.out c r a b h d by unfold Pl.out; omega) ho, hB1⟩
  have t0 : decide (a < 0) = false := by simpa using k0
  by_cases k1 : b < 0
  · have t1 : decide (b < 0) = true := by simpa using k1
    go_wp2_with fail
    go_ret
    exact ⟨fun _ => rfl, fun ho => absurd (show Pl.out c r a b h d by unfold Pl.out; omega) ho, hB1⟩
  have t1 : decide (b < 0) = false := by simpa using k1
  by_cases k2 : h < 1
  · have t2 : decide (h < 1) = true := by simpa using k2
    go_wp2_with fail
    go_ret
    exact ⟨fun _ => rfl, fun ho => absurd (show Pl.out c r a b h d by unfold Pl.out; omega) ho, hB1⟩
  have t2 : decide (h < 1) = false := by simpa using k2
  by_cases k3 : d < 1
  · have t3 : decide (d < 1) = true := by simpa using k3
    go_wp2_with fail
    go_ret
    exact ⟨fun _ => rfl, fun ho => absurd (show Pl.out c r a b h d by unfold Pl.out; omega) ho, hB1⟩
  have t3 : decide (d < 1) = false := by simpa using k3
  by_cases k4 : r ≤ a
  · have t4 : decide (r ≤ a) = true := by simpa using k4
    go_wp2_with fail
    go_ret
    exact ⟨fun _ => rfl, fun ho => absurd (show Pl.out c r a b h d by unfold Pl.out; omega) ho, hB1⟩
  have t4 : decide (r ≤ a) = false := by simpa using k4
  by_cases k5 : c ≤ b
  · have t5 : decide (c ≤ b) = true := by simpa using k5
    go_wp2_with fail
    go_ret
    exact ⟨fun _ => rfl, fun ho => absurd (show Pl.out c r a b h d by unfold Pl.out; omega) ho, hB1⟩
  have t5 : decide (c ≤ b) = false := by simpa using k5
  have e1 : IntKind.i64.wrap (r - a) = r - a := IntWalk.i64_in _ (by omega)
  have e2 : IntKind.i64.wrap (c - b) = c - b := IntWalk.i64_in _ (by omega)
  by_cases j0 : r - a < h
  · have s0 : decide (r - a < h) = true := by simpa using j0
    go_wp2_with fail
    go_ret
    exact ⟨fun _ => rfl, fun ho => absurd (show Pl.out c r a b h d by unfold Pl.out; omega) ho, hB1⟩
  have s0 : decide (r - a < h) = false := by simpa using j0
  by_cases j1 : c - b < d
  · have s1 : decide (c - b < d) = true := by simpa using j1
    go_wp2_with fail
    go_ret
    exact ⟨fun _ => rfl, fun ho => absurd (show Pl.out c r a b h d by unfold Pl.out; omega) ho, hB1⟩
  have s1 : decide (c - b < d) = false := by simpa using j1
  go_wp2_with fail
  go_ret
  exact ⟨fun ho => absurd ho (by unfold Pl.out; omega), fun _ => rfl, hB1⟩
end Go.Proofs.Ytgmhhocpdfdplaa
/- Blocks cloned; a sheet made, set, read; a window. -/
namespace Go.Proofs.Ytgmhhocpdfdplaa
open Go.RowKit
set_option maxRecDepth 100000
set_option maxHeartbeats 4000000
theorem blocks_clone (u : Value) (n : Nat) (xs : List Value) (hn : n ≤ 1000000) (w : World) (h : Ar w 64 u n xs) (h1 : ∀ u ∈ xs, u.oneCell' = true) :
    Calls Try.prog 83 #[u] w fun e w' => ∃ u', e = .returned u' ∧ Row w' w.heap.size 57 64 u' n xs ∧ Below w.heap.size w w' := by
  rcases h.2 with ⟨rfl, rfl⟩ | ⟨ad, cap, rfl, h2, h3, h4⟩
  · have hn0 : ∀ W, (binOp .eql 59 (.slice none 0 0) (.slice none 0 0)).run Try.prog W = .ok (.bool true) W := fun W => Lib.run_eql_slice_nil W 59 57 none 0 0 0 0 Try.underlying59
    obtain rfl : xs = [] := List.eq_nil_of_length_eq_zero (by simpa using h.1)
    go_enter Try.func83, Try.ntmps83
    go_wp2_with fail
    go_ret
    exact ⟨_, rfl, Row.nil _ _ _ _, Below.refl _ _⟩
  · have hn0 : ∀ W, (binOp .eql 59 (.slice (some ad) n cap) (.slice none 0 0)).run Try.prog W = .ok (.bool false) W := fun W => Lib.run_eql_slice_nil W 59 57 _ _ _ 0 0 Try.underlying59
    obtain ⟨N, hN⟩ : ∃ N, N = w.heap.size := ⟨_, rfl⟩
    have HN := Lib.hid hN
    rw [← hN]
    clear hN
    have hB1 : Below N w (w.alloc (.cells #[] 57)) := (Below.refl _ _).alloc (by rw [HN.out]; exact Nat.le_refl _) _
    have hA1 := h.below (w' := w.alloc (.cells #[] 57)) (by rw [← HN.out]; exact hB1)
    have hE : Row (w.alloc (.cells #[] 57)) N 57 64 (.slice (some ⟨w.heap.size, 0, none⟩) 0 0) 0 [] := Row.empty (Blk.new _ _ _) (by rw [HN.out]; exact Nat.le_refl _)
    go_enter Try.func83, Try.ntmps83
    go_wp2_with (refine wpList_append_ar _ rfl _ _ 59 rfl N 57 _ _ 64 128 rfl rfl rfl rfl rfl rfl _ 0 [] rfl hE _ n xs rfl hA1 h1 (by simp only [maxLen]; omega) (by omega) (by simp; rw [HN.out]; omega) (fun v' w3 hR1 hg3 hat => ?_))
    go_ret
    refine ⟨_, rfl, by simpa using hR1, Below.grown hB1 (by simp; rw [HN.out]; omega) hg3 (fun k e => by cases e; exact Nat.le_of_eq HN.out)⟩
end Go.Proofs.Ytgmhhocpdfdplaa
/- Package plane's Window, walked. -/
namespace Go.Proofs.Ytgmhhocpdfdplaa
open Go.RowKit
set_option maxRecDepth 100000
set_option maxHeartbeats 8000000
namespace Pl
/-- The first k rows of a rectangle of blocks. -/
def win (bs : List (List Int)) (c a b d k : Nat) : List (List Int) := (List.range k).flatMap fun i => (bs.drop ((a + i) * c + b)).take d
theorem win_succ (bs : List (List Int)) (c a b d k : Nat) : win bs c a b d (k + 1) = win bs c a b d k ++ (bs.drop ((a + k) * c + b)).take d := by
  unfold win
  rw [List.range_succ, List.flatMap_append]
  simp
theorem win_right {bs : List (List Int)} (h : Right64 bs) (c a b d k : Nat) : Right64 (win bs c a b d k) := by
  intro x hx
  simp only [win, List.mem_flatMap] at hx
  obtain ⟨i, _, hx⟩ := hx
  exact h x (List.mem_of_mem_drop (List.mem_of_mem_take hx))
theorem row_fits {bs : List (List Int)} {c r a b h d i : Nat} (hn : bs.length = c * r) (h1 : a + h ≤ r) (h2 : b + d ≤ c) (hi : i < h) : (a + i) * c + b + d ≤ bs.length := by
  have h3 : (a + i + 1) * c ≤ r * c := Nat.mul_le_mul_right _ (by omega)
  rw [Nat.add_mul _ 1 c, Nat.one_mul] at h3
  rw [hn, Nat.mul_comm c r]
  omega
theorem win_len {bs : List (List Int)} {c r a b h d : Nat} (hn : bs.length = c * r) (h1 : a + h ≤ r) (h2 : b + d ≤ c) : ∀ k, k ≤ h → (win bs c a b d k).length = k * d := by
  intro k
  induction k with
  | zero => intro _; simp [win]
  | succ k ih =>
    intro hk
    rw [win_succ, List.length_append, ih (by omega), List.length_take, List.length_drop, Nat.min_eq_left (by have := row_fits hn h1 h2 (show k < h by omega); omega), Nat.add_mul]
    omega
end Pl
theorem plane_window_no (c r : Int) (n : Nat) (bu : Option Addr) (cap : Nat) (a b h d : Int) (e0 : Int) (he : e0 ≠ 0) (w : World)
    (hw : ∀ W, Calls Try.prog 131 #[.agg #[.int .i64 c, .int .i64 r, .slice bu n cap], .agg #[.int .i64 a, .int .i64 b, .int .i64 h, .int .i64 d]] W fun e w' => e = .returned (.int .i64 e0) ∧ Below W.heap.size W w') :
    Calls Try.prog 88 #[.agg #[.int .i64 c, .int .i64 r, .slice bu n cap], .agg #[.int .i64 a, .int .i64 b, .int .i64 h, .int .i64 d]] w fun e w' => e = .returned (.tuple #[.agg #[.int .i64 0, .int .i64 0, .slice none 0 0], .int .i64 e0]) ∧ Below w.heap.size w w' := by
  obtain ⟨N, hN⟩ : ∃ N, N = w.heap.size := ⟨_, rfl⟩
  have HN := Lib.hid hN
  rw [← hN]
  clear hN
  go_enter Try.func88, Try.ntmps88
  go_upto_region 1 with fail
  refine wp_world (fun W => Blk W N #[.int .i64 c, .int .i64 r, .slice bu n cap] 61 ∧ Blk W (N + 1) #[.int .i64 a, .int .i64 b, .int .i64 h, .int .i64 d] 70 ∧ Blk W (N + 2) #[.int .i64 0, .int .i64 0, .slice none 0 0] 61 ∧ Below N w W)
    ⟨((Blk.new' _ _ _ HN.out).alloc _).alloc _, (Blk.new' _ _ _ (by simp [HN.out])).alloc _, Blk.new' _ _ _ (by simp [HN.out]), (((Below.refl _ _).alloc (by rw [HN.out]; exact Nat.le_refl _) _).alloc (by rw [HN.out]; simp) _).alloc (by rw [HN.out]; simp; omega) _⟩ ?_
  rintro W0 ⟨b0, b1, b2, hB⟩
  rw [← HN.out]
  have hw0 := hw W0
  have te : (e0 == 0) = false := by simpa using he
  have te2 : decide (e0 = 0) = false := by simpa using he
  have hN0 := b0.lt
  go_wp2_with (first
    | (refine wpList_load_row rfl 61 _ rfl N rfl 61 _ _ _ b0 Try.underlying61 rfl (by kernel_rfl) ?_)
    | (refine wpList_load_row rfl 70 _ rfl (N + 1) rfl 70 _ _ _ b1 Try.underlying70 rfl (by kernel_rfl) ?_)
    | (go_at_call 131; refine hw0.mono ?_; rintro e w1 ⟨rfl, hb⟩; have b21 := b2.below hb b2.lt; have hB1 := hB.trans (hb.mono (by omega)))
    | (refine wpList_store_row rfl 61 _ _ rfl (N+2) _ rfl rfl 61 _ b21 (by kernel_rfl) rfl (by simp [Value.oneCell']) ?_))
  refine bodyPost_ret (results_row_tmp rfl _ _ (N + 2) 61 _ _ rfl (b21.row _) Try.underlying61 rfl (by kernel_rfl)) rfl ?_
  exact ⟨rfl, Below.setRow hB1 (by omega) _⟩
theorem plane_window (c r a b h d : Nat) (u : Value) (bs : List (List Int)) (h64 : Right64 bs) (hn : bs.length = c * r) (hr : Pl.right c r bs.length = true) (h1 : a + h ≤ r) (h2 : b + d ≤ c) (hd : 1 ≤ d) (hh : 1 ≤ h) (w : World) (hA : Ar w 64 u bs.length (bcells bs)) :
    Calls Try.prog 88 #[.agg #[.int .i64 c, .int .i64 r, u], .agg #[.int .i64 a, .int .i64 b, .int .i64 h, .int .i64 d]] w fun e w' =>
      ∃ v, e = .returned (.tuple #[.agg #[.int .i64 d, .int .i64 h, v], .int .i64 0]) ∧ Row w' w.heap.size 57 64 v (h * d) (bcells (Pl.win bs c a b d h)) ∧ Below w.heap.size w w' := by
  obtain ⟨bu, cap, rfl, hc1, hc2⟩ := hA.len
  have hsz : 1 ≤ c ∧ 1 ≤ r ∧ c ≤ 16384 ∧ r ≤ 16384 ∧ c * r ≤ 16384 := by
    unfold Pl.right at hr
    simp only [Bool.and_eq_true, beq_iff_eq] at hr
    obtain ⟨h1, h2, h3, h4, _, h6⟩ := Pl.sized_ok hr.1
    exact ⟨by omega, by omega, by omega, by omega, by exact_mod_cast h6⟩
  have hno : ¬ Pl.out c r a b h d := by unfold Pl.out; omega
  have HNL := Lib.hid hn
  have hbl : bs.length ≤ 16384 := by rw [hn]; exact hsz.2.2.2.2
  have hfit : ∀ i, i < h → (a + i) * c + b + d ≤ bs.length := fun i hi => Pl.row_fits hn h1 h2 hi
  have hwl : ∀ k, k ≤ h → (Pl.win bs c a b d k).length = k * d := Pl.win_len hn h1 h2
  clear hn
  obtain ⟨N, hN⟩ : ∃ N, N = w.heap.size := ⟨_, rfl⟩
  have HN := Lib.hid hN
  rw [← hN]
  clear hN
  go_enter Try.func88, Try.ntmps88
  go_upto_region 1 with fail
  refine wp_world (fun W => Blk W N #[.int .i64 c, .int .i64 r, .slice bu bs.length cap] 61 ∧ Blk W (N + 1) #[.int .i64 a, .int .i64 b, .int .i64 h, .int .i64 d] 70 ∧ Blk W (N + 2) #[.int .i64 0, .int .i64 0, .slice none 0 0] 61 ∧ Below N w W)
    ⟨((Blk.new' _ _ _ HN.out).alloc _).alloc _, (Blk.new' _ _ _ (by simp [HN.out])).alloc _, Blk.new' _ _ _ (by simp [HN.out]), (((Below.refl _ _).alloc (by rw [HN.out]; exact Nat.le_refl _) _).alloc (by rw [HN.out]; simp) _).alloc (by rw [HN.out]; simp; omega) _⟩ ?_
  rintro W0 ⟨b0, b1, b2, hB⟩
  rw [← HN.out]
  have hw0 := plane_within c r bs.length bu cap a b h d hr W0
  have hN0 := b0.lt
  go_upto_region 4 with (first
    | (refine wpList_load_row rfl 61 _ rfl N rfl 61 _ _ _ b0 Try.underlying61 rfl (by kernel_rfl) ?_)
    | (refine wpList_load_row rfl 70 _ rfl (N + 1) rfl 70 _ _ _ b1 Try.underlying70 rfl (by kernel_rfl) ?_)
    | (go_at_call 131; refine hw0.mono ?_; rintro e w1 ⟨_, he, hb⟩; obtain rfl := he hno; have b01 := b0.below hb b0.lt; have b11 := b1.below hb b1.lt; have b21 := b2.below hb b2.lt; have hB1 := hB.trans (hb.mono (by omega))))
  have r2 := b11.cell 2
  have r3 := b11.cell 3
  go_upto_region 5 with fail
  obtain ⟨c7, hc7⟩ : ∃ c, c = w1.heap.size := ⟨_, rfl⟩
  have hN7 : N + 2 < c7 := by rw [hc7]; exact b21.lt
  refine wp_world (fun W => Blk W N #[.int .i64 c, .int .i64 r, .slice bu bs.length cap] 61 ∧ Blk W (N + 1) #[.int .i64 a, .int .i64 b, .int .i64 h, .int .i64 d] 70 ∧ Blk W (N + 2) #[.int .i64 0, .int .i64 0, .slice none 0 0] 61 ∧ Blk W c7 #[.int .i64 d, .int .i64 h, .slice none 0 0] 61 ∧ Below N w W)
    ⟨b01.alloc _, b11.alloc _, b21.alloc _, Blk.new' _ _ _ hc7, hB1.alloc (by omega) _⟩ ?_
  rw [← hc7]
  clear hc7 r2 r3 b0 b1 b2 hB hb b01 b11 b21 hB1 hw0 hN0
  rintro W1 ⟨b0, b1, b2, b7, hB⟩
  have q2 := b1.cell 2
  go_wp2_with fail
  go_loopw [24] (fun i wr => ∃ (k : Nat) (v : Value), k ≤ h ∧ i = .int .i64 k ∧ Blk wr N #[.int .i64 c, .int .i64 r, .slice bu bs.length cap] 61 ∧ Blk wr (N + 1) #[.int .i64 a, .int .i64 b, .int .i64 h, .int .i64 d] 70 ∧ Blk wr (N + 2) #[.int .i64 0, .int .i64 0, .slice none 0 0] 61 ∧ Blk wr c7 #[.int .i64 d, .int .i64 h, v] 61 ∧ Row wr (c7 + 1) 57 64 v (k * d) (bcells (Pl.win bs c a b d k)) ∧ Below N w wr) (fun i _ => h - (intOf i).toNat)
  case atStart => exact ⟨0, _, Nat.zero_le _, rfl, b0, b1, b2, b7, by simpa [Pl.win, bcells] using Row.nil _ _ _ _, hB⟩
  case round =>
    clear b0 b1 b2 b7 hB q2
    obtain ⟨k, v, hk, rfl, b0, b1, b2, b7, hR, hB⟩ := hrel
    have hN0 : N + 2 < wr.heap.size := b2.lt
    have hc0 : c7 < wr.heap.size := b7.lt
    by_cases hlt : k < h
    · have hf := hfit k hlt
      have hkl := hwl k hk
      have hkl1 := hwl (k + 1) hlt
      obtain ⟨z, hz⟩ : ∃ z : Nat, (a + k) * c = z := ⟨_, rfl⟩
      rw [hz] at hf
      have hzw : Value.int .i64 (wrap64 (((a : Int) + (k : Int)) * (c : Int))) = .int .i64 (z : Int) := by
        have : ((a : Int) + (k : Int)) * (c : Int) = (z : Int) := by rw [← hz]; push_cast; rfl
        rw [this, IntWalk.wrap64_in _ (by clear this hz hkl hkl1; omega)]
      have hsucc := Pl.win_succ bs c a b d k
      rw [hz] at hsucc
      have HS := Lib.hid hsucc
      have HK1 := Lib.hid hkl1
      have HF := Lib.hid hfit
      have HW := Lib.hid hwl
      clear hsucc hkl1 hz hfit hwl
      have p0 := b0.cell 0
      have r0 := b1.cell 0
      have r1 := b1.cell 1
      obtain ⟨bv, cv, rfl⟩ := hR.len
      have hkb : k * d + d ≤ 16384 := by
        have e1 : (k + 1) * d ≤ r * c := Nat.mul_le_mul (by omega) (by omega)
        rw [Nat.add_mul, Nat.one_mul, Nat.mul_comm r c] at e1
        exact Nat.le_trans e1 hsz.2.2.2.2
      obtain ⟨kd, hkd⟩ : ∃ kd, k * d = kd := ⟨_, rfl⟩
      rw [hkd] at hkb
      rw [hkd] at hR hkl b7
      have HKD := Lib.hid hkd
      clear hkd
      go_upto_region 9 with fail
      obtain ⟨ad, rfl⟩ : ∃ ad, bu = some ad := by
        obtain ⟨ad, cp, he, _, _⟩ := hA.some (by omega)
        simp only [Value.slice.injEq] at he
        exact ⟨ad, he.1⟩
      have wz : IntKind.i64.wrap ((z : Int) + (b : Int) + (d : Int)) = (z : Int) + (b : Int) + (d : Int) := IntWalk.i64_in _ (by omega)
      have y0 : (0 : Int) ≤ (z : Int) + (b : Int) + (d : Int) := by omega
      have y1 : (z : Int) + (b : Int) + (d : Int) ≤ (cap : Int) := by omega
      have y2 : (z : Int) + (b : Int) ≤ max ((z : Int) + (b : Int) + (d : Int)) 0 := by omega
      have y3 : ¬ cap = z + b := by omega
      have y4 : ((z : Int) + (b : Int) + (d : Int)).toNat - (z + b) = d := by omega
      have y5 : (0 : Int) ≤ (z : Int) + (b : Int) := by omega
      have y6 : ((z : Int) + (b : Int)).toNat = z + b := by omega
      refine wp_region_mono [0, 1, 2, 3, 4, 5, 6, 7, 8, 9] [10, 11, 12] (fun W => Blk W N #[.int .i64 c, .int .i64 r, .slice (some ad) bs.length cap] 61 ∧ Blk W (N + 1) #[.int .i64 a, .int .i64 b, .int .i64 h, .int .i64 d] 70 ∧ Blk W (N + 2) #[.int .i64 0, .int .i64 0, .slice none 0 0] 61 ∧ Blk W c7 #[.int .i64 d, .int .i64 h, .slice bv kd cv] 61 ∧ Row W (c7 + 1) 57 64 (.slice bv kd cv) kd (bcells (Pl.win bs c a b d k)) ∧ Below N w W)
        (fun _ => none) (fun _ => []) (by kernel_rfl) (by kernel_rfl) ⟨b0.drew, b1.drew, b2.drew, b7.drew, hR.same fun _ _ => rfl, hB.drew⟩ (by intro i s hs; cases hs) ?_
      clear b0 b1 b2 b7 hR hB p0 r0 r1 hN0 hc0
      simp only [pick, List.getD_cons_succ, List.getD_cons_zero, List.zip_cons_cons, List.zip_nil_right]
      (repeat (first | (refine mono_skip (by rfl) ?_; simp only [Act.put, List.setIfInBounds_toArray, List.set_cons_zero, List.set_cons_succ]) | (refine mono_pure (v := ?_) (by rfl) rfl ?_ ?_; rotate_left; (intro wS hS; go_simp; try with_reducible rfl); simp only [Act.put, List.setIfInBounds_toArray, List.set_cons_zero, List.set_cons_succ])))
      refine mono_pure (v := .slice bv kd cv) (by rfl) rfl (fun w1 hS => by have cy := hS.2.2.2.1.cell 2; go_simp; try with_reducible rfl) ?_
      simp only [Act.put, List.setIfInBounds_toArray, List.set_cons_zero, List.set_cons_succ]
      (repeat (first | (refine mono_skip (by rfl) ?_; simp only [Act.put, List.setIfInBounds_toArray, List.set_cons_zero, List.set_cons_succ]) | (refine mono_pure (v := ?_) (by rfl) rfl ?_ ?_; rotate_left; (intro wS hS; go_simp; try with_reducible rfl); simp only [Act.put, List.setIfInBounds_toArray, List.set_cons_zero, List.set_cons_succ])))
      refine mono_pure (v := .slice (some ad) bs.length cap) (by rfl) rfl (fun w1 hS => by have cy := hS.1.cell 2; go_simp; try with_reducible rfl) ?_
      simp only [Act.put, List.setIfInBounds_toArray, List.set_cons_zero, List.set_cons_succ]
      (repeat (first | (refine mono_skip (by rfl) ?_; simp only [Act.put, List.setIfInBounds_toArray, List.set_cons_zero, List.set_cons_succ]) | (refine mono_pure (v := ?_) (by rfl) rfl ?_ ?_; rotate_left; (intro wS hS; go_simp; try with_reducible rfl); simp only [Act.put, List.setIfInBounds_toArray, List.set_cons_zero, List.set_cons_succ])))
      refine mono_pure (v := .int .i64 d) (by rfl) rfl (fun w1 hS => by have cy := hS.2.1.cell 3; go_simp; try with_reducible rfl) ?_
      simp only [Act.put, List.setIfInBounds_toArray, List.set_cons_zero, List.set_cons_succ]
      refine mono_pure (v := .int .i64 ((z : Int) + (b : Int) + (d : Int))) (by rfl) rfl (fun w1 hS => by go_simp; try with_reducible rfl) ?_
      simp only [Act.put, List.setIfInBounds_toArray, List.set_cons_zero, List.set_cons_succ]
      refine mono_pure (v := .slice (some (ad.add ((z + b) * 64))) d (cap - (z + b))) (by rfl) rfl (fun w1 hS => by go_simp; try with_reducible rfl) ?_
      simp only [Act.put, List.setIfInBounds_toArray, List.set_cons_zero, List.set_cons_succ]
      refine mono_nil ?_
      clear wz y0 y1 y2 y3 y4 y5 y6 hzw
      rintro W2 ⟨b0, b1, b2, b7, hR, hB⟩ _
      have hmid : Ar W2 64 (.slice (some (ad.add ((z + b) * 64))) d (cap - (z + b))) d (bcells ((bs.drop (z + b)).take d)) := by
        have hA2 := hA.below (by rw [← HN.out]; exact hB)
        have hl : (bcells ((bs.drop (z + b)).take d)).length = d * 64 := by rw [bcells_len ((h64.drop _).take _), List.length_take, List.length_drop, Nat.min_eq_left (by omega)]
        refine hA2.sub (z + b) d (cap - (z + b)) _ (by omega) (by omega) hl (fun j v hj => ?_) _ (.inr rfl)
        have hjl : j < d * 64 := by rw [← hl]; exact (List.getElem?_eq_some_iff.1 hj).1
        rw [← bcells_take (h64.drop _), List.getElem?_take, if_pos hjl, ← bcells_drop h64, List.getElem?_drop] at hj
        exact hj
      have hc0 : c7 < W2.heap.size := b7.lt
      have hne : ∀ g, (Value.slice bv kd cv).ownBlock = some g → c7 + 1 ≤ g := fun g hg => (hR.lt g hg).1
      go_wp2_with (refine wpList_append_ar _ rfl _ _ 59 rfl (c7 + 1) 57 _ _ 64 128 rfl rfl rfl rfl rfl rfl _ kd _ rfl hR _ d _ rfl hmid (bcells_one _) (by simp only [maxLen]; omega) (by omega) (by omega) (fun v' w4 hR4 hg4 hat => ?_); obtain ⟨bz, cz, rfl⟩ := hR4.len; have hg5 : W2.grownBy w4 (Value.slice bv kd cv).ownBlock := hg4; have b74 := b7.grown hg5 (fun e => by have := hne _ e.symm; omega); have q4 := b74.cell 2; have f4 := b74.free 2)
      have hnr : ∀ g, g < c7 + 1 → some g ≠ (Value.slice bv kd cv).ownBlock := fun g hg e => by have := hne _ e.symm; omega
      refine ⟨⟨k + 1, .slice bz (kd + d) cz, hlt, by go_num, (b0.grown hg5 (hnr _ (by omega))).other _ _ (by show N ≠ c7; omega), (b1.grown hg5 (hnr _ (by omega))).other _ _ (by show N + 1 ≠ c7; omega), (b2.grown hg5 (hnr _ (by omega))).other _ _ (by show N + 2 ≠ c7; omega), b74.set 2 _, ?_, ?_⟩, by simp [intOf]; omega⟩
      · rw [HS.out, bcells_append, Nat.add_mul, Nat.one_mul, HKD.out]
        exact hR4.other _ _ (fun g hg => by have := (hR4.lt g hg).1; show g ≠ c7; omega)
      · exact (Below.grown hB (by omega) hg5 (fun g e => by have := hne g e; omega)).setCell (p := ⟨c7, 2, none⟩) (by show N ≤ c7; omega) _
    · obtain rfl : k = h := by omega
      obtain ⟨bv, cv, rfl⟩ := hR.len
      go_wp2_with (first
        | (refine wpList_load_row rfl 61 _ rfl c7 rfl 61 _ _ _ b7 Try.underlying61 rfl (by kernel_rfl) ?_)
        | (refine wpList_store_row rfl 61 _ _ rfl (N+2) _ rfl rfl 61 _ b2 (by kernel_rfl) rfl (by simp [Value.oneCell']) ?_))
      refine bodyPost_ret (results_row_tmp rfl _ _ (N + 2) 61 _ _ rfl (b2.row _) Try.underlying61 rfl (by kernel_rfl)) rfl ?_
      exact ⟨_, rfl, Row.down (Row.same (w := wr) hR (fun g hg => setRow_other _ _ _ _ (by have := (hR.lt g hg).1; omega))) (by omega), Below.setRow hB (by omega) _⟩
end Go.Proofs.Ytgmhhocpdfdplaa
/- Sheets: New, Set, Plane, walked. -/
namespace Go.Proofs.Ytgmhhocpdfdplaa
open Go.RowKit
set_option maxRecDepth 100000
set_option maxHeartbeats 4000000
/-- Cells stored into a block. -/
theorem Blk.cells_set {g : Nat} {t : TypeId} : ∀ (vs : List Value) (o : Nat) (w : World) (cs : List Value), Blk w g cs.toArray t → o + vs.length ≤ cs.length → Blk (w.setCells g o vs) g (cs.take o ++ vs ++ cs.drop (o + vs.length)).toArray t
  | [], o, w, cs, h, _ => by simpa [World.setCells] using h
  | v :: r, o, w, cs, h, hl => by
    simp only [List.length_cons] at hl
    have h1 := h.set o v
    rw [List.setIfInBounds_toArray] at h1
    have ih := Blk.cells_set r (o + 1) _ _ h1 (by simp; omega)
    simp only [World.setCells]
    have e1 : (cs.set o v).take (o + 1) = cs.take o ++ [v] := by
      rw [List.take_add_one, List.take_set_of_le (Nat.le_refl _)]
      simp [show o < cs.length by omega]
    have e2 : (cs.set o v).drop (o + 1 + r.length) = cs.drop (o + (r.length + 1)) := by
      rw [List.drop_set_of_lt (by omega)]
      congr 1
      omega
    rw [e1, e2] at ih
    simpa [List.append_assoc] using ih
theorem setCells_size (b : Nat) : ∀ (vs : List Value) (o : Nat) (w : World), (w.setCells b o vs).heap.size = w.heap.size
  | [], _, _ => rfl
  | v :: r, o, w => by rw [World.setCells, setCells_size]; simp
theorem setCells_chg (b : Nat) : ∀ (vs : List Value) (o : Nat) (w : World), (w.setCells b o vs).os = w.os ∧ (w.setCells b o vs).tape = w.tape ∧ (w.setCells b o vs).output = w.output ∧ ∀ k, k ≠ b → (w.setCells b o vs).heap[k]? = w.heap[k]?
  | [], _, _ => ⟨rfl, rfl, rfl, fun _ _ => rfl⟩
  | v :: r, o, w => by
    obtain ⟨h1, h2, h3, h4⟩ := setCells_chg b r (o + 1) (w.setCell ⟨b, o, none⟩ v)
    exact ⟨h1, h2, h3, fun k hk => (h4 k hk).trans (heap_setCell_other _ _ _ _ hk)⟩
theorem bcells_set {bs : List (List Int)} (h : Right64 bs) (k : Nat) (b : List Int) (hk : k < bs.length) : bcells (bs.set k b) = (bcells bs).take (k * 64) ++ b.map (Value.int .i16) ++ (bcells bs).drop (k * 64 + 64) := by
  have e64 : k * 64 + 64 = (k + 1) * 64 := by omega
  rw [bcells_take h, e64, bcells_drop h]
  have e : bs.set k b = bs.take k ++ (b :: bs.drop (k + 1)) := by rw [List.set_eq_take_append_cons_drop, if_pos hk]
  rw [e, bcells_append]
  simp [bcells]
theorem bcells_zero (z : Nat) : bcells (List.replicate z (List.replicate 64 0)) = List.replicate (z * 64) (.int .i16 0) := by
  induction z with
  | zero => rfl
  | succ z ih =>
    have e : bcells (List.replicate (z + 1) (List.replicate 64 0)) = (List.replicate 64 (0 : Int)).map (Value.int .i16) ++ bcells (List.replicate z (List.replicate 64 0)) := by rw [List.replicate_succ]; rfl
    rw [e, ih, List.map_replicate, List.replicate_append_replicate]
    congr 1
    omega
/-- A block of a row replaced. -/
theorem Row.put {w : World} {lo : Nat} {e : TypeId} {n : Nat} {g : Nat} {cap : Nat} {bs : List (List Int)} (h : Row w lo e 64 (.slice (some ⟨g, 0, none⟩) n cap) n (bcells bs)) (h64 : Right64 bs) (hn : bs.length = n) (k : Nat) (hk : k < n) (b : List Int) (hb : b.length = 64) :
    Row (w.setCells g (k * 64) (b.map (Value.int .i16))) lo e 64 (.slice (some ⟨g, 0, none⟩) n cap) n (bcells (bs.set k b)) := by
  have h64' : Right64 (bs.set k b) := fun x hx => by rcases List.mem_or_eq_of_mem_set hx with hx | rfl; exact h64 x hx; exact hb
  refine ⟨by rw [bcells_len h64', List.length_set, hn], ?_⟩
  rcases h.2 with ⟨h0, _⟩ | ⟨g', cap', cur, h0, h2, h3, h4, h5, h6, h7⟩
  · cases h0
  · cases h0
    have hl : (b.map (Value.int .i16)).length = 64 := by simpa using hb
    have hkn : k * 64 + 64 ≤ n * 64 := by omega
    have hnc : n * 64 ≤ cap * 64 := Nat.mul_le_mul_right _ h4
    have hfit : k * 64 + (b.map (Value.int .i16)).length ≤ cur.toList.length := by rw [hl]; simp; omega
    have hB := Blk.cells_set (g := g) (t := e) (b.map (Value.int .i16)) (k * 64) w cur.toList (by simpa using h3) hfit
    refine .inr ⟨g, cap, _, rfl, h2, hB, h4, h5, ?_, ?_⟩
    · simp only [List.size_toArray, List.length_append, List.length_take, List.length_drop, hl]
      simp only [hl] at hfit
      simp only [Array.length_toList] at *
      omega
    · simp only [hl]
      rw [bcells_set h64 k b (by omega), ← h7]
      simp only [List.take_append, List.take_take, List.length_append, List.length_take, hl, List.drop_take]
      have m1 : min (n * 64) (k * 64) = k * 64 := by omega
      have m2 : min (k * 64) (n * 64) = k * 64 := by omega
      have m3 : min (k * 64) cur.toList.length = k * 64 := by simp at hfit ⊢; omega
      rw [m1, m2, m3, List.take_of_length_le (i := n * 64 - k * 64) (by rw [hl]; omega)]
namespace Pl
/-- The sheet at block b: so many columns and rows, these blocks, in the slice u (over a block of its own). -/
structure Sheet (w : World) (lo b : Nat) (c r : Nat) (u : Value) (bs : List (List Int)) : Prop where
  box : Blk w b #[.int .i64 c, .int .i64 r, u] 180
  row : Row w lo 57 64 u (c * r) (bcells bs)
  h64 : Right64 bs
  len : bs.length = c * r
theorem Sheet.below {w w' : World} {lo b c r : Nat} {u : Value} {bs : List (List Int)} (h : Sheet w lo b c r u bs) (hb : Below w.heap.size w w') : Sheet w' lo b c r u bs := ⟨h.box.below hb h.box.lt, h.row.grow hb, h.h64, h.len⟩
end Pl
theorem made_same (k : Nat) (hk : 0 < k) (x : Value) (n : Nat) : madeCells (List.replicate k x).toArray n = (List.replicate n x).toArray := by
  apply Array.ext
  · simp [size_madeCells]
  · intro i h1 h2
    simp [madeCells, Nat.mod_lt, hk]
theorem run_make_blocks (z : Nat) (hz : z ≤ 16384) (w : World) : (Instr.makeSlice 59 (.int .i64 (z : Int)) (.int .i64 (z : Int))).run Try.prog w = .ok (.slice (some ⟨w.heap.size, 0, none⟩) z z) (w.alloc (.cells (List.replicate (z * 64) (.int .i16 0)).toArray 57)) := by
  obtain ⟨i, hi⟩ : ∃ i, Try.prog.info? 57 = some i := ⟨_, rfl⟩
  have h3 : (Try.prog.info? 57).map (fun i => (i.size, i.bytes)) = some (64, 128) := by kernel_rfl
  have h4 : (Try.prog.info? 57).bind (fun i => i.zero) = some (.agg (ints .i16 (List.replicate 64 0))) := by kernel_rfl
  rw [hi] at h3 h4
  simp only [Option.map_some, Option.some.injEq, Prod.mk.injEq, Option.bind_some] at h3 h4
  have h := run_makeSlice (P := Try.prog) w 59 57 i (.agg (ints .i16 (List.replicate 64 0))) Try.underlying59 hi h4 .i64 .i64 z z (by omega) (by omega) (by rw [h3.1]; simp; omega) (by rw [h3.2]; omega) (by omega)
  rw [h, h3.1]
  simp only [Int.toNat_natCast]
  have e : (Value.agg (ints .i16 (List.replicate 64 0))).cells = (List.replicate 64 (Value.int .i16 0)).toArray := by simp [Value.cells, ints]
  rw [e, made_same 64 (by decide)]
theorem plane_new (c r : Nat) (hs : Pl.sized c r = 0) (w : World) : Calls Try.prog 74 #[.int .i64 c, .int .i64 r] w fun e w' => ∃ b u, e = .returned (.tuple #[.pointer (some ⟨b, 0, none⟩), .int .i64 0]) ∧ Pl.Sheet w' w.heap.size b c r u (List.replicate (c * r) (List.replicate 64 0)) ∧ w.heap.size ≤ b ∧ Below w.heap.size w w' := by
  obtain ⟨h1, h2, h3, h4, h5, h6⟩ := Pl.sized_ok hs
  obtain ⟨z, hz⟩ : ∃ z : Nat, c * r = z := ⟨_, rfl⟩
  have hzi : (c : Int) * (r : Int) = (z : Int) := by rw [← hz]; push_cast; rfl
  rw [hzi] at h5 h6
  have hzw : wrap64 (z : Int) = (z : Int) := IntWalk.wrap64_in _ (by omega)
  have hps := plane_sized c r w
  rw [hs] at hps
  have hmk := fun W => run_make_blocks z (by omega) W
  have HZ := Lib.hid hz
  clear hs hz
  go_enter Try.func74, Try.ntmps74
  go_wp2_with (go_at_call 127; refine hps.mono ?_; rintro e w1 ⟨rfl, rfl⟩)
  go_ret2
  refine ⟨_, _, rfl, ⟨Blk.new' _ _ _ (by simp), ?_, fun x hx => by rw [List.eq_of_mem_replicate hx]; simp, by simp⟩, ?_, ?_⟩
  · rw [HZ.out]
    rw [bcells_zero]
    refine ⟨by simp, .inr ⟨w.heap.size, z, _, rfl, Nat.le_refl _, (Blk.new _ _ _).alloc _, Nat.le_refl _, by simp only [maxLen]; omega, by simp, by simp⟩⟩
  · simp
  · exact ((Below.refl _ w).alloc (Nat.le_refl _) _).alloc (by simp) _
theorem sheet_set_no (lo b c r : Nat) (u : Value) (bs : List (List Int)) (row col : Int) (blk : List Int) (hn : ¬ Pl.isIn c r row col) (w : World) (h : Pl.Sheet w lo b c r u bs) :
    Calls Try.prog 147 #[.pointer (some ⟨b, 0, none⟩), .int .i64 row, .int .i64 col, .agg (ints .i16 blk)] w fun e w' => e = .returned (.bool false) ∧ Below w.heap.size w w' := by
  obtain ⟨bu, cu, rfl⟩ := h.row.len
  have hB1 : Below w.heap.size w (w.alloc (.cells (ints .i16 blk) 57)) := (Below.refl _ _).alloc (Nat.le_refl _) _
  have hb1 := h.box.below hB1 h.box.lt
  have q0 := hb1.cell 0
  have q1 := hb1.cell 1
  have q2 := hb1.cell 2
  go_enter Try.func147, Try.ntmps147
  go_wp2_with (go_at_call 153; refine (plane_place_no c r row col _ hn _).mono ?_; rintro e w2 ⟨rfl, hb2⟩)
  go_ret
  exact ⟨rfl, hB1.trans (hb2.mono hB1.size)⟩
theorem sheet_set (lo b c r : Nat) (u : Value) (bs : List (List Int)) (row col : Nat) (blk : List Int) (hb64 : blk.length = 64) (hr : row < r) (hc : col < c) (hcr : c * r ≤ 16384) (w : World) (h : Pl.Sheet w lo b c r u bs) :
    Calls Try.prog 147 #[.pointer (some ⟨b, 0, none⟩), .int .i64 row, .int .i64 col, .agg (ints .i16 blk)] w fun e w' => e = .returned (.bool true) ∧ Pl.Sheet w' lo b c r u (bs.set (row * c + col) blk) ∧ w.heap.size ≤ w'.heap.size ∧ w'.os = w.os ∧ w'.tape = w.tape ∧ w'.output = w.output ∧ ∀ k, k < w.heap.size → u.ownBlock ≠ some k → w'.heap[k]? = w.heap[k]? := by
  have hkl : row * c + col < c * r := by
    have h1 : (row + 1) * c ≤ r * c := Nat.mul_le_mul_right _ hr
    rw [Nat.add_mul, Nat.one_mul] at h1
    rw [Nat.mul_comm c r]
    omega
  obtain ⟨g, cap, rfl, hlo, hgs, _⟩ := h.row.cells (by omega)
  obtain ⟨z, hz⟩ : ∃ z : Nat, row * c = z := ⟨_, rfl⟩
  have hzi : (row : Int) * (c : Int) = (z : Int) := by rw [← hz]; push_cast; rfl
  rw [hz] at hkl ⊢
  have hin : Pl.isIn c r row col := ⟨by omega, by omega, by omega, by omega⟩
  have hpl := fun W => plane_place_yes c r row col (.slice (some ⟨g, 0, none⟩) (c * r) cap) hin z hzi (IntWalk.wrap64_in _ (by clear hzi; omega)) (IntWalk.wrap64_in _ (by clear hzi; omega)) W
  obtain ⟨N, hN⟩ : ∃ N, N = w.heap.size := ⟨_, rfl⟩
  have HN := Lib.hid hN
  have hbN : b < N := by rw [hN]; exact h.box.lt
  have hgN : g < N := by rw [hN]; exact hgs
  rw [← hN]
  obtain ⟨n, hn⟩ : ∃ n, c * r = n := ⟨_, rfl⟩
  have HS := Lib.hid h
  have hbox := h.box
  have hrow := h.row
  rw [hn] at hkl hpl hbox hrow hcr ⊢
  have HNN := Lib.hid hn
  clear hN hz hn hzi h
  have hk1 : (z : Int) + (col : Int) < (n : Int) := by omega
  have hk0 : (0 : Int) ≤ (z : Int) + (col : Int) := by omega
  have hkn : ((z : Int) + (col : Int)).toNat = z + col := by omega
  go_enter Try.func147, Try.ntmps147
  go_upto_region 1 with fail
  refine wp_world (fun W => Blk W N (ints .i16 blk) 57 ∧ Below N w W) ⟨Blk.new' _ _ _ HN.out, (Below.refl _ _).alloc (by rw [HN.out]; exact Nat.le_refl _) _⟩ ?_
  rintro W0 ⟨b0, hB⟩
  rw [← HN.out]
  have hN0 : N < W0.heap.size := b0.lt
  have hb1 := hbox.below hB hbN
  have q0 := hb1.cell 0
  have q1 := hb1.cell 1
  have q2 := hb1.cell 2
  go_upto_region 5 with (go_at_call 153; refine (hpl _).mono ?_; rintro e w2 ⟨rfl, hb2⟩)
  have b02 := b0.below hb2 b0.lt
  have hB2 := hB.trans (hb2.mono (by omega))
  refine wp_region_mono [0, 1, 2, 3, 4, 5, 6, 7] [8] (fun W => Blk W N (ints .i16 blk) 57 ∧ Below N w W) (fun _ => none) (fun _ => []) (by kernel_rfl) (by kernel_rfl) ⟨b02.drew, hB2.drew⟩ (by intro i s hs; cases hs) ?_
  clear b0 b02 hB hB2 hb2 hb1 q0 q1 q2 hN0
  simp only [pick, List.getD_cons_succ, List.getD_cons_zero, List.zip_cons_cons, List.zip_nil_right]
  (repeat (first | (refine mono_skip (by rfl) ?_; simp only [Act.put, List.setIfInBounds_toArray, List.set_cons_zero, List.set_cons_succ]) | (refine mono_pure (v := ?_) (by rfl) rfl ?_ ?_; rotate_left; (intro wS hS; go_simp; try with_reducible rfl); simp only [Act.put, List.setIfInBounds_toArray, List.set_cons_zero, List.set_cons_succ])))
  refine mono_pure (v := .slice (some ⟨g, 0, none⟩) n cap) (by rfl) rfl (fun w1 hS => by have cy := (hbox.below hS.2 hbN).cell 2; go_simp; try with_reducible rfl) ?_
  simp only [Act.put, List.setIfInBounds_toArray, List.set_cons_zero, List.set_cons_succ]
  (repeat (first | (refine mono_skip (by rfl) ?_; simp only [Act.put, List.setIfInBounds_toArray, List.set_cons_zero, List.set_cons_succ]) | (refine mono_pure (v := ?_) (by rfl) rfl ?_ ?_; rotate_left; (intro wS hS; go_simp; try with_reducible rfl); simp only [Act.put, List.setIfInBounds_toArray, List.set_cons_zero, List.set_cons_succ])))
  refine mono_pure (v := .agg (ints .i16 blk)) (by rfl) rfl (fun w1 hS => run_exec_load_row 57 _ rfl N rfl 57 _ _ hS.1 Try.underlying57 rfl (by rw [ints_size, hb64]; kernel_rfl)) ?_
  simp only [Act.put, List.setIfInBounds_toArray, List.set_cons_zero, List.set_cons_succ]
  (repeat (first | (refine mono_skip (by rfl) ?_; simp only [Act.put, List.setIfInBounds_toArray, List.set_cons_zero, List.set_cons_succ]) | (refine mono_pure (v := ?_) (by rfl) rfl ?_ ?_; rotate_left; (intro wS hS; go_simp; try with_reducible rfl); simp only [Act.put, List.setIfInBounds_toArray, List.set_cons_zero, List.set_cons_succ])))
  refine mono_nil ?_
  rintro W3 ⟨b0, hB⟩ _
  have hth : World.there W3 g ((z + col) * 64) (ints .i16 blk).size := by
    rcases hrow.2 with ⟨h0, _⟩ | ⟨g', cap', cur, h0, h2, h3, h4, h5, h6, h7⟩
    · cases h0
    · cases h0
      have hg3 : Blk W3 g cur 57 := h3.below hB hgN
      intro j hj
      rw [ints_size, hb64] at hj
      have hlt : (z + col) * 64 + j < cur.size := by
        have h1 : (z + col) * 64 + 64 ≤ n * 64 := by omega
        have h2 : n * 64 ≤ cap * 64 := Nat.mul_le_mul_right _ h4
        omega
      exact ⟨by rw [hg3.cell, Array.getElem?_eq_getElem hlt]; rfl, hg3.free _⟩
  go_wp2_with (refine wpList_store_mid rfl 57 _ _ rfl g ((z + col) * 64) (ints .i16 blk) rfl rfl hth (by rw [ints_size, hb64]; kernel_rfl) (ints_one _ _) ?_)
  go_ret
  have hvs : (ints .i16 blk).toList = blk.map (Value.int .i16) := by simp [ints]
  rw [hvs]
  obtain ⟨s1, s2, s3, s4⟩ := setCells_chg g (blk.map (Value.int .i16)) ((z + col) * 64) W3
  have hgb : g ≠ b := hrow.typed hbox (by decide) g rfl
  refine ⟨rfl, ⟨?_, ?_, ?_, ?_⟩, by rw [setCells_size, HN.out]; exact hB.size, s1.trans hB.os, s2.trans hB.tape, s3.trans hB.output, fun k hk hne => (s4 k (fun e => hne (by rw [e]; rfl))).trans (hB.block k hk)⟩
  · exact (s4 b (fun e => hgb e.symm)).trans (hbox.below hB hbN)
  · rw [HNN.out]
    exact Row.put (hrow.below hB (fun k e => by cases e; exact hgN)) HS.out.h64 (HS.out.len.trans HNN.out) (z + col) hkl blk hb64
  · intro x hx
    rcases List.mem_or_eq_of_mem_set hx with hx | rfl
    · exact HS.out.h64 x hx
    · exact hb64
  · rw [List.length_set]; exact HS.out.len
end Go.Proofs.Ytgmhhocpdfdplaa
/- A block [64]int16, made of noughts: alloc and build with the cells said as a list. -/
namespace Go.Proofs.Ytgmhhocpdfdplaa
open Go.RowKit
set_option maxRecDepth 100000
set_option maxHeartbeats 4000000
theorem run_alloc_blk {o : Oper} {a : Act} (w : World) (ho : o.op = .alloc 57) : (execOp a.eval o).run Try.prog w = .ok (.value (.pointer (some ⟨w.heap.size, 0, none⟩))) (w.alloc (.cells (ints .i16 (List.replicate 64 0)) 57)) := by
  have h4 : ((Try.prog.info? 57).bind (fun i => i.zero)) = some (.agg (ints .i16 (List.replicate 64 0))) := by kernel_rfl
  obtain ⟨i, hi⟩ : ∃ i, Try.prog.info? 57 = some i := ⟨_, rfl⟩
  rw [hi] at h4
  simp only [Option.bind_some] at h4
  unfold execOp
  simp only [ho]
  have e0 : (Value.agg (ints .i16 (List.replicate 64 0))).cells = ints .i16 (List.replicate 64 0) := rfl
  generalize List.replicate 64 (0 : Int) = z at *
  simp [Instr.alloc, zeroValue, typeInfo, hi, h4, newVar, newRow, e0]
theorem run_exec_load_at {P : Program} {o : Oper} {a : Act} {w : World} (ty : TypeId) (x : Operand) (ho : o.op = .load ty x) (ad : Addr) (hx : a.eval x = .pointer (some ad)) (cs : List Value) (d : TypeDesc) (hc : ∀ j v, cs[j]? = some v → w.cell? (ad.add j) = some v)
    (hu : P.underlying ty = some d) (hd : d.isRow = true) (hi : (P.info? ty).map (·.size) = some cs.length) : (execOp a.eval o).run P w = .ok (.value (.agg cs.toArray)) w := by
  have hl : (loadCells ad cs.length).run P w = .ok cs.toArray w := run_loadCells_list (P := P) w ad cs hc
  have hv : (loadVar ty ad).run P w = .ok (.agg cs.toArray) w := by
    cases hq : P.info? ty with
    | none => simp [hq] at hi
    | some i =>
      have hs : i.size = cs.length := by simpa [hq] using hi
      have hagg : (isAgg ty).run P w = .ok true w := by
        unfold isAgg
        rw [Sem.run_bind, run_underlying hu w]
        cases d <;> simp_all
      simp [loadVar, Sem.run_bind, hagg, sizeOf, typeInfo, hq, hs, hl]
  unfold execOp
  simp only [ho, hx, Instr.loadAt, Instr.sureAddr, Sem.run_bind, Sem.run_pure, Result.andThen_ok, hv]
/-- Block i of a slice of blocks, loaded. -/
theorem ar_load {w : World} {ad : Addr} {cap n : Nat} {bs : List (List Int)} (h : Ar w 64 (.slice (some ad) n cap) n (bcells bs)) (h64 : Right64 bs) (i : Nat) (hi : i < bs.length) {o : Oper} {a : Act} (x : Operand) (ho : o.op = .load 57 x) (hx : a.eval x = .pointer (some (ad.add (i * 64)))) :
    (execOp a.eval o).run Try.prog w = .ok (.value (.agg (ints .i16 (bs.getD i [])))) w := by
  have hl : (bs.getD i []).length = 64 := by
    rw [List.getD_eq_getElem?_getD, List.getElem?_eq_getElem hi]
    exact h64 _ (List.getElem_mem hi)
  refine run_exec_load_at 57 x ho _ hx ((bs.getD i []).map (Value.int .i16)) _ (fun j v hj => ?_) Try.underlying57 rfl (by rw [List.length_map, hl]; kernel_rfl)
  have hjl : j < 64 := by have := (List.getElem?_eq_some_iff.1 hj).1; rwa [List.length_map, hl] at this
  rw [Go.Deep.add_add]
  refine h.cell ?_
  rw [bcells_get h64 i j hi hjl, ← hj, List.getElem?_map, List.getElem?_eq_getElem (by rw [hl]; exact hjl), Option.map_some, List.getD_eq_getElem?_getD (l := bs.getD i []), List.getElem?_eq_getElem (by rw [hl]; exact hjl), Option.getD_some]
end Go.Proofs.Ytgmhhocpdfdplaa
/- A sheet's plane; the example of the statements on planes. -/
namespace Go.Proofs.Ytgmhhocpdfdplaa
open Go.RowKit
set_option maxRecDepth 100000
set_option maxHeartbeats 4000000
theorem sheet_plane (lo b c r : Nat) (u : Value) (bs : List (List Int)) (hcr : c * r ≤ 16384) (w : World) (h : Pl.Sheet w lo b c r u bs) :
    Calls Try.prog 75 #[.pointer (some ⟨b, 0, none⟩)] w fun e w' => ∃ v, e = .returned (.agg #[.int .i64 c, .int .i64 r, v]) ∧ Row w' w.heap.size 57 64 v bs.length (bcells bs) ∧ Below w.heap.size w w' := by
  obtain ⟨N, hN⟩ : ∃ N, N = w.heap.size := ⟨_, rfl⟩
  have HN := Lib.hid hN
  have hbN : b < N := by rw [hN]; exact h.box.lt
  rw [← hN]
  clear hN
  have hlen := h.len
  have hrow := h.row.ar
  rw [← hlen] at hrow hcr
  obtain ⟨bu, cu, rfl⟩ := h.row.len
  rw [← hlen] at hrow
  have hbox := h.box
  rw [← hlen] at hbox
  clear h hlen
  go_enter Try.func75, Try.ntmps75
  go_upto_region 1 with fail
  refine wp_world (fun W => Blk W N #[.int .i64 0, .int .i64 0, .slice none 0 0] 61 ∧ Below N w W) ⟨Blk.new' _ _ _ HN.out, (Below.refl _ _).alloc (by rw [HN.out]; exact Nat.le_refl _) _⟩ ?_
  rintro W0 ⟨b0, hB⟩
  rw [← HN.out]
  have hN0 : N < W0.heap.size := b0.lt
  have hb0 := hbox.below hB hbN
  have hb0w : W0.heap[b]? = some (.cells #[.int .i64 c, .int .i64 r, .slice bu bs.length cu] 180 (0, 0)) := hb0
  go_upto_region 4 with (refine wpList_load_row rfl 61 _ rfl b rfl 180 _ _ _ hb0w Try.underlying61 rfl (by kernel_rfl) ?_)
  obtain ⟨M, hM⟩ : ∃ M, M = W0.heap.size := ⟨_, rfl⟩
  have hNM : N < M := by omega
  refine wp_world (fun W => Blk W N #[.int .i64 0, .int .i64 0, .slice none 0 0] 61 ∧ Blk W M #[.int .i64 c, .int .i64 r, .slice bu bs.length cu] 61 ∧ Below N w W) ⟨b0.alloc _, Blk.new' _ _ _ hM, hB.alloc (by omega) _⟩ ?_
  rw [← hM]
  clear b0 hB hN0 hb0 hb0w hM
  rintro W1 ⟨b0, bM, hB⟩
  have hMW : M < W1.heap.size := bM.lt
  have q2 := bM.cell 2
  have f2 := bM.free 2
  have hA1 := hrow.below (w' := W1) (by rw [← HN.out]; exact hB)
  have hcl := blocks_clone (.slice bu bs.length cu) bs.length (bcells bs) (by omega) W1 hA1 (bcells_one _)
  go_upto_region 5 with (go_at_call 83; refine hcl.mono ?_; rintro e w2 ⟨v, rfl, hR, hb2⟩; obtain ⟨bv, cv, rfl⟩ := hR.len; have bM2 := bM.below hb2 bM.lt; have q4 := bM2.cell 2; have f4 := bM2.free 2)
  refine wp_world (fun W => Blk W N #[.int .i64 0, .int .i64 0, .slice none 0 0] 61 ∧ Blk W M #[.int .i64 c, .int .i64 r, .slice bv bs.length cv] 61 ∧ Row W (M + 1) 57 64 (.slice bv bs.length cv) bs.length (bcells bs) ∧ Below N w W) ⟨(b0.below hb2 b0.lt).other _ _ (by show N ≠ M; omega), bM2.set 2 _, ?_, ?_⟩ ?_
  · exact (hR.down (by omega)).other _ _ (fun g hg => by have := (hR.lt g hg).1; show g ≠ M; omega)
  · exact (hB.trans (hb2.mono (by omega))).setCell (p := ⟨M, 2, none⟩) (by show N ≤ M; omega) _
  clear b0 bM hB q2 f2 hA1 hcl hR hb2 bM2 q4 f4
  rintro W3 ⟨b0, bM, hR, hB⟩
  go_wp2_with (first | (refine wpList_load_row rfl 61 _ rfl M rfl 61 _ _ _ bM Try.underlying61 rfl (by kernel_rfl) ?_) | (refine wpList_store_row rfl 61 _ _ rfl N _ rfl rfl 61 _ b0 (by kernel_rfl) rfl (by simp [Value.oneCell']) ?_))
  refine bodyPost_ret (results_cell_row rfl _ _ N 61 _ (0, 0) _ rfl (b0.row _) Try.underlying61 rfl (by kernel_rfl)) rfl ?_
  exact ⟨_, rfl, (Row.same (w := W3) hR (fun g hg => setRow_other _ _ _ _ (by have := (hR.lt g hg).1; omega))).down (by omega), Below.setRow hB (Nat.le_refl _) _⟩
def Pl.seven : List Int := 7 :: List.replicate 63 0
theorem new32 (w : World) : Calls Try.prog 74 #[.int .i64 3, .int .i64 2] w fun e w' => ∃ b u, e = .returned (.tuple #[.pointer (some ⟨b, 0, none⟩), .int .i64 0]) ∧ Pl.Sheet w' w.heap.size b 3 2 u (List.replicate 6 (List.replicate 64 0)) ∧ w.heap.size ≤ b ∧ Below w.heap.size w w' := plane_new 3 2 rfl w
end Go.Proofs.Ytgmhhocpdfdplaa
